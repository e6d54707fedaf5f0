/-
  The images of some of the program's functions, as the kernel reckons them. Made by program. No condition.
-/
import Derived.Test.YtjhcljlogdcbbaaGreatAbs14
import Derived.Test.YtjhcljlogdcbbaaGreatProg
import Derived.KernelRfl
set_option maxRecDepth 100000
namespace Go.Abs
open Go.Proofs

abbrev ty_func : Nat := 1
abbrev ty_int64 : Nat := 2
abbrev ty_int : Nat := 3
abbrev ty_bool : Nat := 4
abbrev ty_uint8 : Nat := 5
abbrev ty_abi_BoundsErrorCode : Nat := 6
abbrev ty_runtime_boundsError : Nat := 8
abbrev ty_string : Nat := 9
abbrev ty_runtime_errorString : Nat := 10
abbrev ty_runtime_plainError : Nat := 11
abbrev ty_uintptr : Nat := 12
abbrev ty_structmsgstringaddruintptr : Nat := 13
abbrev ty_runtime_errorAddressString : Nat := 14
abbrev ty_pruntime_TypeAssertionError : Nat := 15
abbrev ty_pruntime_PanicNilError : Nat := 16
abbrev ty_pabi_Type : Nat := 17
abbrev ty_structtyppabi_Type : Nat := 18
abbrev ty_maps_unhashableTypeError : Nat := 19
abbrev ty_interface : Nat := 20
abbrev ty_int32 : Nat := 21
abbrev ty_Istring : Nat := 22
abbrev ty_Iapi_Allowed : Nat := 23
abbrev ty_api_Policy : Nat := 25
abbrev ty_Iapi_Node : Nat := 26
abbrev ty_funcapi_Policyapi_Policy : Nat := 27
abbrev ty_funcIapi_NodeIapi_Node : Nat := 28
abbrev ty_funcapi_Policy_Iapi_Nodebool : Nat := 29
abbrev ty_funcIapi_Nodebool : Nat := 30
abbrev ty_funcbool : Nat := 31
abbrev ty_Iapi_Rule : Nat := 32
abbrev ty_api_Allowed : Nat := 34
abbrev ty_funcstringbool : Nat := 35
abbrev ty_api_Allowed_bool : Nat := 36
abbrev ty_funcIapi_RuleIapi_Rule : Nat := 38
abbrev ty_funcIstring_stringbool : Nat := 40
abbrev ty_funcIstringIstring : Nat := 41
abbrev ty_api_Constraint : Nat := 43
abbrev ty_api_Rule : Nat := 45
abbrev ty_funcapi_Policy_Iapi_Nodeint : Nat := 46
abbrev ty_Iapi_Attr : Nat := 48
abbrev ty_api_Node : Nat := 50
abbrev ty_funcapi_Nodebool : Nat := 51
abbrev ty_structNamestringValuestring : Nat := 52
abbrev ty_api_Attr : Nat := 53
abbrev ty_funcIstring : Nat := 54
abbrev ty_string_bool : Nat := 56
abbrev ty_funcstringstring_bool : Nat := 57
abbrev ty_funcstring_stringbool : Nat := 59
abbrev ty_funcstring_Iapi_NodeIapi_Node : Nat := 60
abbrev ty_api_Errno : Nat := 61
abbrev ty_funcIapi_Nodeapi_Errno : Nat := 62
abbrev ty_int_int : Nat := 63
abbrev ty_funcapi_Attrbool : Nat := 67
abbrev ty_funcstring_api_Constraint : Nat := 68
abbrev ty_funcapi_Constraint : Nat := 69
abbrev ty_funcapi_Constraint_stringbool : Nat := 70
abbrev ty_funcuint8bool : Nat := 71
abbrev ty_funcIstring_boolbool : Nat := 72
abbrev ty_funcIstringbool : Nat := 73
abbrev ty_funcstring_api_Nodebool : Nat := 74
abbrev ty_funcIuint8string : Nat := 75
abbrev ty_Iuint8 : Nat := 76
abbrev ty_funcstringstring : Nat := 77
abbrev ty_funcapi_Node_stringstring_bool : Nat := 78
abbrev ty_Iapi_Node_int : Nat := 79
abbrev ty_funcIapi_Node_intIapi_Node_int : Nat := 80
abbrev ty_funcapi_Node_boolapi_Errno : Nat := 81
abbrev ty_funcapi_Allowed_Iapi_Attrbool : Nat := 83
abbrev ty_funcIstring_stringint : Nat := 85
abbrev ty_Istrainerref09_N : Nat := 86
abbrev ty_Istrainerref09_N_int_api_Errno : Nat := 87
abbrev ty_funcstring_stringint : Nat := 90
abbrev ty_Iint32 : Nat := 91
abbrev ty_funcIuint8Iint32 : Nat := 92
abbrev ty_funcIint32string : Nat := 93
abbrev ty_funcapi_Nodeapi_Errno : Nat := 94
abbrev ty_funcapi_Policy_stringIstring : Nat := 95
abbrev ty_string_string_bool : Nat := 97
abbrev ty_pregex_Regex : Nat := 99
abbrev ty_pregex_Regex_api_Errno : Nat := 100
abbrev ty_strainerref09_P : Nat := 103
abbrev ty_strainerref09_P_int : Nat := 104
abbrev ty_IIIbool : Nat := 106
abbrev ty_IIbool : Nat := 107
abbrev ty_Ibool : Nat := 109
abbrev ty_int32_int : Nat := 110
abbrev ty_funcIuint8int32_int : Nat := 111
abbrev ty_funcint32Iuint8 : Nat := 112
abbrev ty_funcapi_Allowed_api_Attrbool : Nat := 113
abbrev ty_pregex_reader : Nat := 114
abbrev ty_structsstringiint : Nat := 115
abbrev ty_regex_reader : Nat := 116
abbrev ty_regex_part : Nat := 118
abbrev ty_regex_part_bool : Nat := 119
abbrev ty_funcregex_part_bool : Nat := 120
abbrev ty_structpregex_part : Nat := 121
abbrev ty_regex_Regex : Nat := 122
abbrev ty_Iapi_Edge : Nat := 123
abbrev ty_api_Net : Nat := 125
abbrev ty_funcapi_Net : Nat := 126
abbrev ty_IIapi_Edge : Nat := 127
abbrev ty_api_Edge : Nat := 129
abbrev ty_Iint : Nat := 130
abbrev ty_funcuint8_stringbool : Nat := 132
abbrev ty_structOpuint8SetIboolLIint : Nat := 134
abbrev ty_strainerref09_N : Nat := 135
abbrev ty_funcstrainerref09_P_uint8bool : Nat := 136
abbrev ty_funcIIbool_IIboolIIbool : Nat := 137
abbrev ty_api_Rule_bool : Nat := 138
abbrev ty_Iregex_part : Nat := 140
abbrev ty_func___regex_partregex_part : Nat := 141
abbrev ty_pregex_maker : Nat := 142
abbrev ty_Iregex_job : Nat := 143
abbrev ty_regex_maker : Nat := 145
abbrev ty_funcregex_part_int_int : Nat := 146
abbrev ty_funcpregex_Regexregex_part : Nat := 147
abbrev ty_structpregex_partfrominttoint : Nat := 148
abbrev ty_regex_job : Nat := 149
abbrev ty_funcpregex_maker_int_int : Nat := 150
abbrev ty_funcstring_uint8int : Nat := 151
abbrev ty_funcintint : Nat := 152
abbrev ty_uint : Nat := 153
abbrev ty_structpregex_partopuint8 : Nat := 154
abbrev ty_regex_rep : Nat := 155
abbrev ty_I95bool : Nat := 156
abbrev ty_regex_set : Nat := 157
abbrev ty_structlIregex_part : Nat := 158
abbrev ty_regex_alt : Nat := 159
abbrev ty_funcIbool_uint8_uint8Ibool : Nat := 160
abbrev ty_strainerref09_P_uint8 : Nat := 161
abbrev ty_uint32 : Nat := 163
abbrev ty_uint32_uint32 : Nat := 164
abbrev ty_funcstringuint32_uint32 : Nat := 165
abbrev ty_funcregex_set : Nat := 166
abbrev ty_uint8_bool : Nat := 167
abbrev ty_funcstringuint8_bool : Nat := 168
abbrev ty_funcuint8regex_set : Nat := 169
abbrev ty_regex_seq : Nat := 170
abbrev ty_funcstring : Nat := 171
abbrev ty_runtime_TypeAssertionError : Nat := 173
abbrev ty_I0pruntime_PanicNilError : Nat := 174
abbrev ty_structI0pruntime_PanicNilError : Nat := 175
abbrev ty_runtime_PanicNilError : Nat := 176
abbrev ty_funcint : Nat := 177
abbrev ty_abi_TFlag : Nat := 178
abbrev ty_abi_Kind : Nat := 179
abbrev ty_puint8 : Nat := 181
abbrev ty_abi_NameOff : Nat := 182
abbrev ty_abi_TypeOff : Nat := 183
abbrev ty_abi_Type : Nat := 185
abbrev ty_funcint_int : Nat := 186
abbrev ty_pregex_set : Nat := 187
abbrev ty_unsafe_Pointer : Nat := 188
attribute [simp] ty_I0pruntime_PanicNilError ty_I95bool ty_IIIbool ty_IIapi_Edge ty_IIbool ty_Iapi_Allowed ty_Iapi_Attr ty_Iapi_Edge ty_Iapi_Node ty_Iapi_Node_int ty_Iapi_Rule ty_Ibool ty_Iint ty_Iint32 ty_Iregex_job ty_Iregex_part ty_Istrainerref09_N ty_Istrainerref09_N_int_api_Errno ty_Istring ty_Iuint8 ty_abi_BoundsErrorCode ty_abi_Kind ty_abi_NameOff ty_abi_TFlag ty_abi_Type ty_abi_TypeOff ty_api_Allowed ty_api_Allowed_bool ty_api_Attr ty_api_Constraint ty_api_Edge ty_api_Errno ty_api_Net ty_api_Node ty_api_Policy ty_api_Rule ty_api_Rule_bool ty_bool ty_func ty_funcIIbool_IIboolIIbool ty_funcIapi_NodeIapi_Node ty_funcIapi_Node_intIapi_Node_int ty_funcIapi_Nodeapi_Errno ty_funcIapi_Nodebool ty_funcIapi_RuleIapi_Rule ty_funcIbool_uint8_uint8Ibool ty_funcIint32string ty_funcIstring ty_funcIstringIstring ty_funcIstring_boolbool ty_funcIstring_stringbool ty_funcIstring_stringint ty_funcIstringbool ty_funcIuint8Iint32 ty_funcIuint8int32_int ty_funcIuint8string ty_func___regex_partregex_part ty_funcapi_Allowed_Iapi_Attrbool ty_funcapi_Allowed_api_Attrbool ty_funcapi_Attrbool ty_funcapi_Constraint ty_funcapi_Constraint_stringbool ty_funcapi_Net ty_funcapi_Node_boolapi_Errno ty_funcapi_Node_stringstring_bool ty_funcapi_Nodeapi_Errno ty_funcapi_Nodebool ty_funcapi_Policy_Iapi_Nodebool ty_funcapi_Policy_Iapi_Nodeint ty_funcapi_Policy_stringIstring ty_funcapi_Policyapi_Policy ty_funcbool ty_funcint ty_funcint32Iuint8 ty_funcint_int ty_funcintint ty_funcpregex_Regexregex_part ty_funcpregex_maker_int_int ty_funcregex_part_bool ty_funcregex_part_int_int ty_funcregex_set ty_funcstrainerref09_P_uint8bool ty_funcstring ty_funcstring_Iapi_NodeIapi_Node ty_funcstring_api_Constraint ty_funcstring_api_Nodebool ty_funcstring_stringbool ty_funcstring_stringint ty_funcstring_uint8int ty_funcstringbool ty_funcstringstring ty_funcstringstring_bool ty_funcstringuint32_uint32 ty_funcstringuint8_bool ty_funcuint8_stringbool ty_funcuint8bool ty_funcuint8regex_set ty_int ty_int32 ty_int32_int ty_int64 ty_int_int ty_interface ty_maps_unhashableTypeError ty_pabi_Type ty_pregex_Regex ty_pregex_Regex_api_Errno ty_pregex_maker ty_pregex_reader ty_pregex_set ty_pruntime_PanicNilError ty_pruntime_TypeAssertionError ty_puint8 ty_regex_Regex ty_regex_alt ty_regex_job ty_regex_maker ty_regex_part ty_regex_part_bool ty_regex_reader ty_regex_rep ty_regex_seq ty_regex_set ty_runtime_PanicNilError ty_runtime_TypeAssertionError ty_runtime_boundsError ty_runtime_errorAddressString ty_runtime_errorString ty_runtime_plainError ty_strainerref09_N ty_strainerref09_P ty_strainerref09_P_int ty_strainerref09_P_uint8 ty_string ty_string_bool ty_string_string_bool ty_structI0pruntime_PanicNilError ty_structNamestringValuestring ty_structOpuint8SetIboolLIint ty_structlIregex_part ty_structmsgstringaddruintptr ty_structpregex_part ty_structpregex_partfrominttoint ty_structpregex_partopuint8 ty_structsstringiint ty_structtyppabi_Type ty_uint ty_uint32 ty_uint32_uint32 ty_uint8 ty_uint8_bool ty_uintptr ty_unsafe_Pointer
abbrev n_ref03_small : Nat := 52
theorem h_ref03_small : Tryz.prog.funcs[52]? = some Tryz.f52 := Tryz.func52
def c_ref03_small : AC :=
  Q [.reg [mb 2 false] [0],
  .reg [m 3 0, bu 4 .geq 3 97, m 5 4, gt 5 (m 6 0), gt 5 (bu 7 .leq 6 122), pa 8 5 7, m 2 8] [2],
  .ret]
theorem i_ref03_small : image Tryz.prog Tryz.f52 [[0], [2]] 1 = some (c_ref03_small, [.t 2]) := by kernel_rfl

abbrev n_ref03_Named : Nat := 33
theorem h_ref03_Named : Tryz.prog.funcs[33]? = some Tryz.f33 := Tryz.func33
def c_ref03_Named : AC :=
  Q [.reg [mb 2 false] [0],
  Q [.reg [m 6 0, ls 7 6, bi 8 .eql 7 0] [0, 8],
   C 8 (Q [.reg [mb 2 false] [2],
     .ret]) (.skip)],
  .reg [m 9 0, o1 10 (.ixs (.t 9) (.v (.int .i64 0))), ca 11 52 [10], m 3 11] [0, 3],
  Q [.reg [mi 4 0] [0, 3, 4],
   .block 0 (.loop [0, 3, 4] (Q [Q [.reg [m 12 4, m 13 0, ls 14 13, bt 15 .lss 12 14] [0, 3, 4, 15],
       C 15 (.skip) (.exit 0)],
      .block 1 (Q [.reg [m 18 0, m 19 4, ix 20 18 19, ca 21 52 [20], m 5 21] [0, 3, 4, 5],
        .reg [m 22 5, nt' 23 22, m 24 23, gt 24 (m 25 0), gt 24 (m 26 4), gt 24 (ix 27 25 26), gt 24 (bu 28 .lss 27 48), gt 24 (m 29 28), gf 29 (m 30 0), gf 29 (m 31 4), gf 29 (ix 32 30 31), gf 29 (bu 33 .gtr 32 57), gt 24 (po 34 29 33), pa 35 24 34, m 36 35, gt 36 (m 37 0), gt 36 (m 38 4), gt 36 (ix 39 37 38), gt 36 (bu 40 .neq 39 45), pa 41 36 40] [0, 3, 4, 41],
        C 41 (Q [.reg [mb 2 false] [2],
          .ret]) (.skip)]),
      .reg [m 16 4, bi 17 .add 16 1, m 4 17] [0, 3, 4]]))],
  .reg [m 42 3, m 2 42] [2],
  .ret]
theorem i_ref03_Named : image Tryz.prog Tryz.f33 [[0], [0, 8], [2], [0, 3], [0, 3, 4], [0, 3, 4], [0, 3, 4, 15], [0, 3, 4, 5], [0, 3, 4, 41], [2], [0, 3, 4], [2]] 1 = some (c_ref03_Named, [.t 2]) := by kernel_rfl

abbrev n_ref13_plain : Nat := 13
theorem h_ref13_plain : Tryz.prog.funcs[13]? = some Tryz.f13 := Tryz.func13
def c_ref13_plain : AC :=
  Q [.reg [mb 2 false] [0],
  .reg [m 4 0, ca 5 33 [4], m 3 5] [0, 3],
  .reg [m 6 3, m 7 6, gt 7 (m 8 0), gt 7 (ls 9 8), gt 7 (bi 10 .leq 9 16), pa 11 7 10, m 2 11] [2],
  .ret]
theorem i_ref13_plain : image Tryz.prog Tryz.f13 [[0], [0, 3], [2]] 1 = some (c_ref13_plain, [.t 2]) := by kernel_rfl

abbrev n_ref13_Find : Nat := 14
theorem h_ref13_Find : Tryz.prog.funcs[14]? = some Tryz.f14 := Tryz.func14
def c_ref13_Find : AC :=
  Q [.reg [bx 2 0, o1 4 (.alc [.str [], .nil 1, .nil 5]), mb 5 false] [1, 2, 4],
  Q [.reg [mi 6 0] [1, 2, 4, 6],
   .block 0 (.loop [1, 2, 4, 6] (Q [Q [.reg [m 7 6, fa 8 2 1, l1 9 8, lq 10 9, bt 11 .lss 7 10] [1, 2, 4, 6, 11],
       C 11 (.skip) (.exit 0)],
      .block 1 (Q [.reg [fa 14 2 1, l1 15 14, m 16 6, ia 17 15 16 3, fa 18 17 0, l1 19 18, m 20 1, bt 21 .eql 19 20] [1, 2, 4, 6, 21],
        C 21 (Q [.reg [fa 22 2 1, l1 23 22, m 24 6, ia 25 23 24 3, la 26 25 3, st 3 4 26, mb 5 true] [4, 5],
          .ret]) (.skip)]),
      .reg [m 12 6, bi 13 .add 12 1, m 6 13] [1, 2, 4, 6]]))],
  .reg [o1 27 (.bld [.str [], .nil 1, .nil 5] []), st 3 4 27, mb 5 false] [4, 5],
  .ret]
theorem i_ref13_Find : image Tryz.prog Tryz.f14 [[1, 2, 4], [1, 2, 4, 6], [1, 2, 4, 6], [1, 2, 4, 6, 11], [1, 2, 4, 6, 21], [4, 5], [1, 2, 4, 6], [4, 5]] 2 = some (c_ref13_Find, [.c 4 3 true, .t 5]) := by kernel_rfl

abbrev n_ref12_scheme : Nat := 74
theorem h_ref12_scheme : Tryz.prog.funcs[74]? = some Tryz.f74 := Tryz.func74
def c_ref12_scheme : AC :=
  Q [.reg [mb 2 false] [0],
  Q [.reg [mi 3 0] [0, 3],
   .block 0 (.loop [0, 3] (Q [Q [.reg [m 4 3, m 5 0, ls 6 5, bt 7 .lss 4 6] [0, 3, 7],
       C 7 (.skip) (.exit 0)],
      .block 1 (Q [.reg [m 10 0, m 11 3, ix 12 10 11, bu 13 .lss 12 97, m 14 13, gf 14 (m 15 0), gf 14 (m 16 3), gf 14 (ix 17 15 16), gf 14 (bu 18 .gtr 17 122), po 19 14 18] [0, 3, 19],
        C 19 (Q [.reg [mb 2 false] [2],
          .ret]) (.skip)]),
      .reg [m 8 3, bi 9 .add 8 1, m 3 9] [0, 3]]))],
  .reg [m 20 0, ls 21 20, bi 22 .geq 21 1, m 23 22, gt 23 (m 24 0), gt 23 (ls 25 24), gt 23 (bi 26 .leq 25 16), pa 27 23 26, m 2 27] [2],
  .ret]
theorem i_ref12_scheme : image Tryz.prog Tryz.f74 [[0], [0, 3], [0, 3], [0, 3, 7], [0, 3, 19], [2], [0, 3], [2]] 1 = some (c_ref12_scheme, [.t 2]) := by kernel_rfl

abbrev n_ref12_signs : Nat := 71
theorem h_ref12_signs : Tryz.prog.funcs[71]? = some Tryz.f71 := Tryz.func71
def c_ref12_signs : AC :=
  Q [.reg [mb 2 false] [0],
  Q [.reg [mi 3 0] [0, 3],
   .block 0 (.loop [0, 3] (Q [Q [.reg [m 4 3, m 5 0, ls 6 5, bt 7 .lss 4 6] [0, 3, 7],
       C 7 (.skip) (.exit 0)],
      .block 1 (Q [.reg [m 10 0, m 11 3, ix 12 10 11, bu 13 .lss 12 32, m 14 13, gf 14 (m 15 0), gf 14 (m 16 3), gf 14 (ix 17 15 16), gf 14 (bu 18 .gtr 17 126), po 19 14 18] [0, 3, 19],
        C 19 (Q [.reg [mb 2 false] [2],
          .ret]) (.skip)]),
      .reg [m 8 3, bi 9 .add 8 1, m 3 9] [0, 3]]))],
  .reg [mb 2 true] [2],
  .ret]
theorem i_ref12_signs : image Tryz.prog Tryz.f71 [[0], [0, 3], [0, 3], [0, 3, 7], [0, 3, 19], [2], [0, 3], [2]] 1 = some (c_ref12_signs, [.t 2]) := by kernel_rfl

abbrev n_ref12_words : Nat := 53
theorem h_ref12_words : Tryz.prog.funcs[53]? = some Tryz.f53 := Tryz.func53
def c_ref12_words : AC :=
  Q [.reg [mb 4 false] [0, 1],
  Q [.reg [mi 5 0] [0, 1, 5],
   .block 0 (.loop [0, 1, 5] (Q [Q [.reg [m 9 5, m 10 0, lq 11 10, bt 12 .lss 9 11] [0, 1, 5, 12],
       C 12 (.skip) (.exit 0)],
      .block 1 (Q [.reg [m 15 0, m 16 5, ia 17 15 16 1, l1 18 17, ca 19 74 [18], m 6 19] [0, 1, 5, 6],
        .reg [m 20 0, m 21 5, ia 22 20 21 1, l1 23 22, ca 24 71 [23], m 7 24] [0, 1, 5, 6, 7],
        Q [.reg [m 25 1, m 26 25, gt 26 (m 27 6), gt 26 (nt' 28 27), pa 29 26 28, m 30 29, gf 30 (m 31 1), gf 30 (nt' 32 31), gf 30 (m 33 32), gt 33 (m 34 7), gt 33 (nt' 35 34), gt 33 (m 36 35), gf 36 (m 37 0), gf 36 (m 38 5), gf 36 (ia 39 37 38 1), gf 36 (l1 40 39), gf 36 (ls 41 40), gf 36 (bi 42 .gtr 41 40), gt 33 (po 43 36 42), gf 30 (pa 44 33 43), po 45 30 44] [0, 1, 5, 45],
         C 45 (Q [.reg [mb 4 false] [4],
           .ret]) (.skip)],
        .reg [mi 8 0] [0, 1, 5, 8],
        .block 2 (.loop [0, 1, 5, 8] (Q [Q [.reg [m 46 8, m 47 5, bt 48 .lss 46 47] [0, 1, 5, 8, 48],
            C 48 (.skip) (.exit 2)],
           .block 3 (Q [.regD [m 51 0, m 52 8, ia 53 51 52 1, l1 54 53, m 55 0, m 56 5, ia 57 55 56 1, l1 58 57, bt 59 .eql 54 58] [0, 1, 5, 8, 59],
             C 59 (Q [.reg [mb 4 false] [4],
               .ret]) (.skip)]),
           .reg [m 49 8, bi 50 .add 49 1, m 8 50] [0, 1, 5, 8]]))]),
      .reg [m 13 5, bi 14 .add 13 1, m 5 14] [0, 1, 5]]))],
  .reg [m 60 0, lq 61 60, bi 62 .leq 61 8, m 4 62] [4],
  .ret]
theorem i_ref12_words : image Tryz.prog Tryz.f53 [[0, 1], [0, 1, 5], [0, 1, 5], [0, 1, 5, 12], [0, 1, 5, 6], [0, 1, 5, 6, 7], [0, 1, 5, 45], [4], [0, 1, 5, 8], [0, 1, 5, 8], [0, 1, 5, 8, 48], [0, 0, 0, 3, 7, 0, 0, 48, 112, 255], [0, 1, 2, 3, 4, 5, 6, 7, 8], [0, 1, 5, 8, 59], [4], [0, 1, 5, 8], [0, 1, 5], [4]] 2 = some (c_ref12_words, [.t 4]) := by kernel_rfl

abbrev n_ref12_Good : Nat := 34
theorem h_ref12_Good : Tryz.prog.funcs[34]? = some Tryz.f34 := Tryz.func34
def c_ref12_Good : AC :=
  Q [.reg [bx 1 0, o1 2 (.alc [.int .i64 0, .nil 1, .str []])] [1, 2],
  .reg [fa 12 1 0, l1 13 12, m 3 13] [1, 2, 3],
  Q [.reg [m 14 3, bi 15 .lss 14 0] [1, 2, 3, 15],
   C 15 (.reg [m 16 3, bi 17 .add 16 1, o1 18 (.un .neg (.t 17)), m 3 18] [1, 2, 3]) (.skip)],
  .reg [m 19 3, bi 20 .rem 19 4, o1 21 (.bin .add (.v (.int .i64 1)) (.t 20)), o1 22 (.bld [.int .i64 0, .nil 1, .str []] [(0, 1, (.t 21))]), o1 4 (.alc [.int .i64 0, .nil 1, .str []]), st 3 4 22] [1, 2, 4],
  Q [.reg [fa 23 4 0, l1 24 23, bi 25 .eql 24 4] [1, 2, 4, 25],
   C 25 (Q [.reg [o1 26 (.lit 1 [.v (.str [97, 42]), .v (.str [40, 97, 124, 98, 41, 43]), .v (.str [91, 48, 45, 57, 93, 43]), .v (.str [120, 46, 121]), .v (.str [91, 94, 97, 93, 42]), .v (.str []), .v (.str [97, 124, 98, 98, 124, 99])]), m 5 26] [1, 2, 4, 5],
     .reg [mi 6 0] [1, 2, 4, 5, 6],
     Q [.reg [mi 7 0] [1, 2, 4, 5, 6, 7],
      .block 0 (.loop [1, 2, 4, 5, 6, 7] (Q [Q [.reg [m 27 7, fa 28 1 2, l1 29 28, ls 30 29, bt 31 .lss 27 30] [1, 2, 4, 5, 6, 7, 31],
          C 31 (.skip) (.exit 0)],
         .block 1 (.reg [m 34 6, fa 35 1 2, l1 36 35, m 37 7, ix 38 36 37, o1 39 (.cii .i64 (.t 38)), bt 40 .add 34 39, m 6 40] [1, 2, 4, 5, 6, 7]),
         .reg [m 32 7, bi 33 .add 32 1, m 7 33] [1, 2, 4, 5, 6, 7]]))],
     .reg [m 41 5, m 42 6, m 43 5, lq 44 43, bt 45 .rem 42 44, ia 46 41 45 1, l1 47 46, fa 48 4 2, st 1 48 47] [2, 4],
     .reg [la 49 4 3, st 3 2 49] [2],
     .ret]) (.skip)],
  Q [.reg [mi 8 0] [1, 2, 4, 8],
   .block 2 (.loop [1, 2, 4, 8] (Q [Q [.reg [m 50 8, fa 51 1 1, l1 52 51, lq 53 52, bt 54 .lss 50 53, m 55 54, gt 55 (m 56 8), gt 55 (bi 57 .lss 56 4), pa 58 55 57, m 59 58, gt 59 (fa 60 4 0), gt 59 (l1 61 60), gt 59 (bi 62 .neq 61 1), pa 63 59 62] [1, 2, 4, 8, 63],
       C 63 (.skip) (.exit 2)],
      .block 3 (Q [.reg [fa 66 1 1, l1 67 66, m 68 8, ia 69 67 68 1, l1 70 69, m 9 70] [1, 2, 4, 8, 9],
        .reg [fa 71 4 1, l1 72 71, o1 73 (.app (.v (.nil 1)) (.t 72) 9 1 16), m 74 9, o1 75 (.lit 1 [.t 74]), o1 76 (.app (.t 73) (.t 75) 9 1 16), m 10 76] [1, 2, 4, 8, 10],
        .reg [m 77 10, fa 78 4 0, l1 79 78, bi 80 .eql 79 3, ca 81 53 [77, 80], m 11 81] [1, 2, 4, 8, 10, 11],
        .reg [m 82 11] [1, 2, 4, 8, 10, 82],
        C 82 (.reg [m 83 10, fa 84 4 1, st 1 84 83] [1, 2, 4, 8]) (.skip)]),
      .reg [m 64 8, bi 65 .add 64 1, m 8 65] [1, 2, 4, 8]]))],
  Q [.reg [fa 85 4 0, l1 86 85, bi 87 .eql 86 2, m 88 87, gt 88 (fa 89 4 1), gt 88 (l1 90 89), gt 88 (lq 91 90), gt 88 (bi 92 .eql 91 0), pa 93 88 92] [2, 4, 93],
   C 93 (.reg [o1 94 (.lit 1 [.v (.str [120])]), fa 95 4 1, st 1 95 94] [2, 4]) (.skip)],
  .reg [la 96 4 3, st 3 2 96] [2],
  .ret]
theorem i_ref12_Good : image Tryz.prog Tryz.f34 [[1, 2], [1, 2, 3], [1, 2, 3, 15], [1, 2, 3], [1, 2, 4], [1, 2, 4, 25], [1, 2, 4, 5], [1, 2, 4, 5, 6], [1, 2, 4, 5, 6, 7], [1, 2, 4, 5, 6, 7], [1, 2, 4, 5, 6, 7, 31], [1, 2, 4, 5, 6, 7], [1, 2, 4, 5, 6, 7], [2, 4], [2], [1, 2, 4, 8], [1, 2, 4, 8], [1, 2, 4, 8, 63], [1, 2, 4, 8, 9], [1, 2, 4, 8, 10], [1, 2, 4, 8, 10, 11], [1, 2, 4, 8, 10, 82], [1, 2, 4, 8], [1, 2, 4, 8], [2, 4, 93], [2, 4], [2]] 1 = some (c_ref12_Good, [.c 2 3 true]) := by kernel_rfl

abbrev n_ref13_stem : Nat := 35
theorem h_ref13_stem : Tryz.prog.funcs[35]? = some Tryz.f35 := Tryz.func35
def c_ref13_stem : AC :=
  Q [.reg [mv 2 (.str []), mb 3 false] [0],
  Q [.reg [m 4 0, ls 5 4, bi 6 .gtr 5 0, m 7 6, gt 7 (m 8 0), gt 7 (m 9 0), gt 7 (ls 10 9), gt 7 (bi 11 .sub 10 1), gt 7 (ix 12 8 11), gt 7 (bu 13 .eql 12 42), pa 14 7 13] [0, 14],
   C 14 (Q [.reg [m 15 0, m 16 0, ls 17 16, bi 18 .sub 17 1, o1 19 (.sls (.t 15) none (some (.t 18))), m 2 19, mb 3 true] [2, 3],
     .ret]) (.skip)],
  .reg [m 20 0, m 2 20, mb 3 false] [2, 3],
  .ret]
theorem i_ref13_stem : image Tryz.prog Tryz.f35 [[0], [0, 14], [2, 3], [2, 3]] 1 = some (c_ref13_stem, [.t 2, .t 3]) := by kernel_rfl

abbrev n_ref13_Has : Nat := 17
theorem h_ref13_Has : Tryz.prog.funcs[17]? = some Tryz.f17 := Tryz.func17
def c_ref13_Has : AC :=
  Q [.reg [mb 4 false] [0, 1],
  Q [.reg [mi 5 0] [0, 1, 5],
   .block 0 (.loop [0, 1, 5] (Q [Q [.reg [m 6 5, m 7 0, lq 8 7, bt 9 .lss 6 8] [0, 1, 5, 9],
       C 9 (.skip) (.exit 0)],
      .block 1 (Q [.reg [m 12 0, m 13 5, ia 14 12 13 1, l1 15 14, m 16 1, bt 17 .eql 15 16] [0, 1, 5, 17],
        C 17 (Q [.reg [mb 4 true] [4],
          .ret]) (.skip)]),
      .reg [m 10 5, bi 11 .add 10 1, m 5 11] [0, 1, 5]]))],
  .reg [mb 4 false] [4],
  .ret]
theorem i_ref13_Has : image Tryz.prog Tryz.f17 [[0, 1], [0, 1, 5], [0, 1, 5], [0, 1, 5, 9], [0, 1, 5, 17], [4], [0, 1, 5], [4]] 2 = some (c_ref13_Has, [.t 4]) := by kernel_rfl

abbrev n_ref13_rules : Nat := 15
theorem h_ref13_rules : Tryz.prog.funcs[15]? = some Tryz.f15 := Tryz.func15
def c_ref13_rules : AC :=
  Q [.reg [mv 2 (.nil 5)] [0],
  .reg [mv 3 (.nil 5)] [0, 3],
  .reg [mv 4 (.nil 1)] [0, 3, 4],
  Q [.reg [mi 5 0] [0, 3, 4, 5],
   .block 0 (.loop [0, 3, 4, 5] (Q [Q [.reg [m 12 5, m 13 0, lq 14 13, bt 15 .lss 12 14, m 16 15, gt 16 (m 17 5), gt 16 (bi 18 .lss 17 3), pa 19 16 18] [0, 3, 4, 5, 19],
       C 19 (.skip) (.exit 0)],
      .block 1 (Q [.regD [m 22 0, m 23 5, ia 24 22 23 5, fa 25 24 0, l1 26 25, m 27 0, m 28 5, ia 29 27 28 5, fa 30 29 1, la 31 30 3, ca 32 34 [31], m 33 0, m 34 5, ia 35 33 34 5, fa 36 35 4, l1 37 36, o1 38 (.bld [.str [], .int .i64 0, .nil 1, .str [], .bool false] [(0, 1, (.t 26)), (1, 3, (.t 32)), (4, 1, (.t 37))]), o1 6 (.alc [.str [], .int .i64 0, .nil 1, .str [], .bool false]), st 5 6 38] [0, 3, 4, 5, 6],
        .reg [fa 40 6 0, l1 41 40, ca 42 35 [41], m 39 42, ex 43 39 0, ex 44 39 1, m 7 43, m 8 44] [0, 3, 4, 5, 6, 7, 8],
        .reg [m 45 7, ca 46 13 [45], m 9 46] [0, 3, 4, 5, 6, 8, 9],
        Q [.reg [m 47 9, nt' 48 47] [0, 3, 4, 5, 6, 8, 48],
         C 48 (Q [.reg [o1 49 (.lit 1 [.v (.str [105, 100]), .v (.str [104, 114, 101, 102]), .v (.str [100, 97, 116, 97, 45, 42])]), m 10 49] [0, 3, 4, 5, 6, 10],
           .reg [m 50 10, m 51 5, ia 52 50 51 1, l1 53 52, fa 54 6 0, st 1 54 53] [0, 3, 4, 5, 6],
           .reg [m 55 5, bi 56 .eql 55 2, m 8 56] [0, 3, 4, 5, 6, 8]]) (.skip)],
        Q [.reg [m 57 8] [0, 3, 4, 5, 6, 57],
         C 57 (.reg [fa 58 6 4, o0 (.st 1 (.t 58) (.v (.bool false)))] [0, 3, 4, 5, 6]) (.skip)],
        .reg [m 59 4, fa 60 6 0, l1 61 60, ca 62 17 [59, 61], m 11 62] [0, 3, 4, 5, 6, 11],
        .reg [m 63 11, nt' 64 63] [0, 3, 4, 5, 6, 64],
        C 64 (Q [.reg [m 65 4, fa 66 6 0, l1 67 66, o1 68 (.lit 1 [.t 67]), o1 69 (.app (.t 65) (.t 68) 9 1 16), m 4 69] [0, 3, 4, 5, 6],
          .reg [m 70 3, la 71 6 5, o1 72 (.lit 5 [.t 71]), o1 73 (.app (.t 70) (.t 72) 45 5 72), m 3 73] [0, 3, 4, 5]]) (.skip)]),
      .reg [m 20 5, bi 21 .add 20 1, m 5 21] [0, 3, 4, 5]]))],
  .reg [m 74 3, m 2 74] [2],
  .ret]
theorem i_ref13_rules : image Tryz.prog Tryz.f15 [[0], [0, 3], [0, 3, 4], [0, 3, 4, 5], [0, 3, 4, 5], [0, 3, 4, 5, 19], [0, 0, 0, 3, 7, 15, 0, 0, 96, 224, 480, 992, 0, 0, 6144, 14336, 30720, 65535, 0, 262143], [0, 1, 2, 3, 4, 5, 6, 7, 8, 9, 10, 11, 12, 13, 14, 15, 16, 17, 18], [0, 3, 4, 5, 6], [0, 3, 4, 5, 6, 7, 8], [0, 3, 4, 5, 6, 8, 9], [0, 3, 4, 5, 6, 8, 48], [0, 3, 4, 5, 6, 10], [0, 3, 4, 5, 6], [0, 3, 4, 5, 6, 8], [0, 3, 4, 5, 6, 57], [0, 3, 4, 5, 6], [0, 3, 4, 5, 6, 11], [0, 3, 4, 5, 6, 64], [0, 3, 4, 5, 6], [0, 3, 4, 5], [0, 3, 4, 5], [2]] 1 = some (c_ref13_rules, [.t 2]) := by kernel_rfl

abbrev n_ref03_Void : Nat := 54
theorem h_ref03_Void : Tryz.prog.funcs[54]? = some Tryz.f54 := Tryz.func54
def c_ref03_Void : AC :=
  Q [.reg [mb 2 false] [0],
  .reg [m 3 0, bs 4 .eql 3 [98, 114], m 5 4, gf 5 (m 6 0), gf 5 (bs 7 .eql 6 [104, 114]), po 8 5 7, m 9 8, gf 9 (m 10 0), gf 9 (bs 11 .eql 10 [105, 109, 103]), po 12 9 11, m 13 12, gf 13 (m 14 0), gf 13 (bs 15 .eql 14 [105, 110, 112, 117, 116]), po 16 13 15, m 17 16, gf 17 (m 18 0), gf 17 (bs 19 .eql 18 [119, 98, 114]), po 20 17 19, m 2 20] [2],
  .ret]
theorem i_ref03_Void : image Tryz.prog Tryz.f54 [[0], [2]] 1 = some (c_ref03_Void, [.t 2]) := by kernel_rfl

abbrev n_ref03_Raw : Nat := 55
theorem h_ref03_Raw : Tryz.prog.funcs[55]? = some Tryz.f55 := Tryz.func55
def c_ref03_Raw : AC :=
  Q [.reg [mb 2 false] [0],
  .reg [m 3 0, bs 4 .eql 3 [115, 99, 114, 105, 112, 116], m 5 4, gf 5 (m 6 0), gf 5 (bs 7 .eql 6 [115, 116, 121, 108, 101]), po 8 5 7, m 2 8] [2],
  .ret]
theorem i_ref03_Raw : image Tryz.prog Tryz.f55 [[0], [2]] 1 = some (c_ref03_Raw, [.t 2]) := by kernel_rfl

abbrev n_ref06_Closes : Nat := 56
theorem h_ref06_Closes : Tryz.prog.funcs[56]? = some Tryz.f56 := Tryz.func56
def c_ref06_Closes : AC :=
  Q [.reg [mb 4 false] [0, 1],
  .reg [mv 5 (.nil 1)] [0, 1, 5],
  Q [.reg [m 7 0] [1, 5, 7],
   .block 0 (Q [.reg [bs 9 .eql 7 [112], m 8 9] [1, 5, 7, 8],
     C 8 (.reg [o1 10 (.lit 1 [.v (.str [98, 108, 111, 99, 107, 113, 117, 111, 116, 101]), .v (.str [100, 105, 118]), .v (.str [104, 49]), .v (.str [104, 50]), .v (.str [104, 114]), .v (.str [108, 105]), .v (.str [111, 108]), .v (.str [112]), .v (.str [112, 114, 101]), .v (.str [116, 97, 98, 108, 101]), .v (.str [117, 108])]), m 5 10] [1, 5]) (Q [.reg [bs 12 .eql 7 [108, 105], m 11 12] [1, 5, 7, 11],
       C 11 (.reg [o1 13 (.lit 1 [.v (.str [108, 105])]), m 5 13] [1, 5]) (Q [Q [.reg [bs 15 .eql 7 [100, 116], m 14 15] [1, 5, 7, 14],
          C 14 (.skip) (.reg [bs 16 .eql 7 [100, 100], m 14 16] [1, 5, 7, 14])],
         C 14 (.reg [o1 17 (.lit 1 [.v (.str [100, 100]), .v (.str [100, 116])]), m 5 17] [1, 5]) (Q [.reg [bs 19 .eql 7 [111, 112, 116, 105, 111, 110], m 18 19] [1, 5, 7, 18],
           C 18 (.reg [o1 20 (.lit 1 [.v (.str [111, 112, 116, 105, 111, 110])]), m 5 20] [1, 5]) (Q [.reg [bs 22 .eql 7 [116, 100], m 21 22] [1, 5, 7, 21],
             C 21 (.reg [o1 23 (.lit 1 [.v (.str [116, 100]), .v (.str [116, 114])]), m 5 23] [1, 5]) (Q [.reg [bs 25 .eql 7 [116, 114], m 24 25] [1, 5, 24],
               C 24 (.reg [o1 26 (.lit 1 [.v (.str [116, 114])]), m 5 26] [1, 5]) (.skip)])])])])])])],
  Q [.reg [mi 6 0] [1, 5, 6],
   .block 1 (.loop [1, 5, 6] (Q [Q [.reg [m 27 6, m 28 5, lq 29 28, bt 30 .lss 27 29] [1, 5, 6, 30],
       C 30 (.skip) (.exit 1)],
      .block 2 (Q [.reg [m 33 5, m 34 6, ia 35 33 34 1, l1 36 35, m 37 1, bt 38 .eql 36 37] [1, 5, 6, 38],
        C 38 (Q [.reg [mb 4 true] [4],
          .ret]) (.skip)]),
      .reg [m 31 6, bi 32 .add 31 1, m 6 32] [1, 5, 6]]))],
  .reg [mb 4 false] [4],
  .ret]
theorem i_ref06_Closes : image Tryz.prog Tryz.f56 [[0, 1], [0, 1, 5], [1, 5, 7], [1, 5, 7, 8], [1, 5], [1, 5, 7, 11], [1, 5], [1, 5, 7, 14], [1, 5, 7, 14], [1, 5], [1, 5, 7, 18], [1, 5], [1, 5, 7, 21], [1, 5], [1, 5, 24], [1, 5], [1, 5, 6], [1, 5, 6], [1, 5, 6, 30], [1, 5, 6, 38], [4], [1, 5, 6], [4]] 2 = some (c_ref06_Closes, [.t 4]) := by kernel_rfl

abbrev n_ref13_once : Nat := 57
theorem h_ref13_once : Tryz.prog.funcs[57]? = some Tryz.f57 := Tryz.func57
def c_ref13_once : AC :=
  Q [.reg [mb 2 false] [0],
  Q [.reg [mi 3 0] [0, 3],
   .block 0 (.loop [0, 3] (Q [Q [.reg [m 5 3, m 6 0, lq 7 6, bt 8 .lss 5 7] [0, 3, 8],
       C 8 (.skip) (.exit 0)],
      .block 1 (Q [.regD [m 11 0, m 12 3, o1 13 (.slq (.t 11) none (some (.t 12)) 1), m 14 0, m 15 3, ia 16 14 15 1, l1 17 16, ca 18 17 [13, 17], m 4 18] [0, 3, 4],
        .reg [m 19 4] [0, 3, 19],
        C 19 (Q [.reg [mb 2 false] [2],
          .ret]) (.skip)]),
      .reg [m 9 3, bi 10 .add 9 1, m 3 10] [0, 3]]))],
  .reg [mb 2 true] [2],
  .ret]
theorem i_ref13_once : image Tryz.prog Tryz.f57 [[0], [0, 3], [0, 3], [0, 3, 8], [0, 0, 0, 3, 0, 0, 24, 56, 127, 255], [0, 1, 2, 3, 4, 5, 6, 7, 8], [0, 3, 4], [0, 3, 19], [2], [0, 3], [2]] 1 = some (c_ref13_once, [.t 2]) := by kernel_rfl

abbrev n_ref13_kids : Nat := 36
theorem h_ref13_kids : Tryz.prog.funcs[36]? = some Tryz.f36 := Tryz.func36
def c_ref13_kids : AC :=
  Q [.reg [bx 3 0, mb 6 false] [1, 2, 3],
  .reg [m 13 1, ca 14 54 [13], m 7 14] [1, 2, 3, 7],
  .reg [m 15 1, ca 16 55 [15], m 8 16] [1, 2, 3, 7, 8],
  Q [.reg [mi 9 0] [1, 2, 3, 7, 8, 9],
   .block 0 (.loop [1, 2, 3, 7, 8, 9] (Q [Q [.reg [m 17 9, m 18 2, lq 19 18, bt 20 .lss 17 19] [1, 2, 3, 7, 8, 9, 20],
       C 20 (.skip) (.exit 0)],
      .block 1 (Q [Q [.reg [m 23 7, m 24 23, gf 24 (m 25 8), gf 24 (m 26 25), gt 26 (m 27 2), gt 26 (m 28 9), gt 26 (ia 29 27 28 1), gt 26 (l1 30 29), gt 26 (bs 31 .neq 30 [35, 116, 101, 120, 116]), gf 24 (pa 32 26 31), po 33 24 32] [1, 2, 3, 7, 8, 9, 33],
         C 33 (Q [.reg [mb 6 false] [6],
           .ret]) (.skip)],
        Q [.reg [m 34 2, m 35 9, ia 36 34 35 1, l1 37 36, bs 38 .eql 37 [35, 116, 101, 120, 116], m 39 38, gf 39 (m 40 2), gf 39 (m 41 9), gf 39 (ia 42 40 41 1), gf 39 (l1 43 42), gf 39 (bs 44 .eql 43 [35, 99, 111, 109, 109, 101, 110, 116]), po 45 39 44] [1, 2, 3, 7, 8, 9, 45],
         C 45 (.exit 1) (.skip)],
        .regD [la 47 3 3, m 48 2, m 49 9, ia 50 48 49 1, l1 51 50, ca 52 14 [47, 51], m 46 52, ex 53 46 0, ex 54 46 1, o1 10 (.alc [.str [], .nil 1, .nil 5]), st 3 10 53, m 11 54] [1, 2, 3, 7, 8, 9, 11],
        .reg [m 55 1, m 56 2, m 57 9, ia 58 56 57 1, l1 59 58, ca 60 56 [55, 59], m 12 60] [1, 2, 3, 7, 8, 9, 11, 12],
        .reg [m 61 11, nt' 62 61, m 63 62, gf 63 (m 64 12), po 65 63 64] [1, 2, 3, 7, 8, 9, 65],
        C 65 (Q [.reg [mb 6 false] [6],
          .ret]) (.skip)]),
      .reg [m 21 9, bi 22 .add 21 1, m 9 22] [1, 2, 3, 7, 8, 9]]))],
  .reg [m 66 2, ca 67 57 [66], m 6 67] [6],
  .ret]
theorem i_ref13_kids : image Tryz.prog Tryz.f36 [[1, 2, 3], [1, 2, 3, 7], [1, 2, 3, 7, 8], [1, 2, 3, 7, 8, 9], [1, 2, 3, 7, 8, 9], [1, 2, 3, 7, 8, 9, 20], [1, 2, 3, 7, 8, 9, 33], [6], [1, 2, 3, 7, 8, 9, 45], [0, 0, 0, 0, 6, 14, 31, 63, 127, 127, 0, 767, 2047], [0, 1, 2, 3, 4, 5, 6, 7, 8, 9, 10, 11], [1, 2, 3, 7, 8, 9, 11], [1, 2, 3, 7, 8, 9, 11, 12], [1, 2, 3, 7, 8, 9, 65], [6], [1, 2, 3, 7, 8, 9], [6]] 3 = some (c_ref13_kids, [.t 6]) := by kernel_rfl

abbrev n_ref13_fitting : Nat := 16
theorem h_ref13_fitting : Tryz.prog.funcs[16]? = some Tryz.f16 := Tryz.func16
def c_ref13_fitting : AC :=
  Q [.reg [bx 3 0, mv 6 (.nil 1)] [1, 2, 3],
  .reg [mv 7 (.nil 1)] [1, 2, 3, 7],
  Q [.reg [mi 8 0] [1, 2, 3, 7, 8],
   .block 0 (.loop [1, 2, 3, 7, 8] (Q [Q [.reg [m 11 8, m 12 2, lq 13 12, bt 14 .lss 11 13, m 15 14, gt 15 (m 16 8), gt 15 (bi 17 .lss 16 8), pa 18 15 17] [1, 2, 3, 7, 8, 18],
       C 18 (.skip) (.exit 0)],
      .block 1 (Q [.regD [m 21 7, m 23 2, m 24 8, ia 25 23 24 1, l1 26 25, o1 27 (.lit 1 [.t 26]), o1 22 (.app (.v (.nil 1)) (.t 21) 9 1 16), o1 28 (.app (.t 22) (.t 27) 9 1 16), m 9 28] [1, 2, 3, 7, 8, 9],
        .reg [la 29 3 3, m 30 1, m 31 9, ca 32 36 [29, 30, 31], m 10 32] [1, 2, 3, 7, 8, 9, 10],
        .reg [m 33 10] [1, 2, 3, 7, 8, 9, 33],
        C 33 (.reg [m 34 9, m 7 34] [1, 2, 3, 7, 8]) (.skip)]),
      .reg [m 19 8, bi 20 .add 19 1, m 8 20] [1, 2, 3, 7, 8]]))],
  .reg [m 35 7, m 6 35] [6],
  .ret]
theorem i_ref13_fitting : image Tryz.prog Tryz.f16 [[1, 2, 3], [1, 2, 3, 7], [1, 2, 3, 7, 8], [1, 2, 3, 7, 8], [1, 2, 3, 7, 8, 18], [0, 0, 1, 0, 0, 12, 28, 60, 127, 255], [0, 2, 3, 4, 5, 6, 1, 7, 8], [1, 2, 3, 7, 8, 9], [1, 2, 3, 7, 8, 9, 10], [1, 2, 3, 7, 8, 9, 33], [1, 2, 3, 7, 8], [1, 2, 3, 7, 8], [6]] 3 = some (c_ref13_fitting, [.t 6]) := by kernel_rfl

abbrev n_ref13_Good : Nat := 5
theorem h_ref13_Good : Tryz.prog.funcs[5]? = some Tryz.f5 := Tryz.func5
def c_ref13_Good : AC :=
  Q [.reg [bx 1 0, o1 2 (.alc [.nil 1, .nil 3, .nil 1])] [1, 2],
  .reg [o1 3 (.alc [.nil 1, .nil 3, .nil 1])] [1, 2, 3],
  Q [.reg [mi 4 0] [1, 2, 3, 4],
   .block 0 (.loop [1, 2, 3, 4] (Q [Q [.reg [m 15 4, fa 16 1 1, l1 17 16, lq 18 17, bt 19 .lss 15 18, m 20 19, gt 20 (m 21 4), gt 20 (bi 22 .lss 21 5), pa 23 20 22] [1, 2, 3, 4, 23],
       C 23 (.skip) (.exit 0)],
      .block 1 (Q [.reg [fa 26 1 1, l1 27 26, m 28 4, ia 29 27 28 3, fa 30 29 0, l1 31 30, m 5 31] [1, 2, 3, 4, 5],
        .reg [m 32 5, ca 33 13 [32], m 6 33] [1, 2, 3, 4, 5, 6],
        Q [.reg [m 34 6, nt' 35 34] [1, 2, 3, 4, 5, 35],
         C 35 (Q [.reg [o1 36 (.lit 1 [.v (.str [97]), .v (.str [98]), .v (.str [112]), .v (.str [98, 114]), .v (.str [115, 116, 121, 108, 101])]), m 7 36] [1, 2, 3, 4, 7],
           .reg [m 37 7, m 38 4, ia 39 37 38 1, l1 40 39, m 5 40] [1, 2, 3, 4, 5]]) (.skip)],
        .reg [la 42 3 3, m 43 5, ca 44 14 [42, 43], m 41 44, ex 45 41 0, ex 46 41 1, o1 8 (.alc [.str [], .nil 1, .nil 5]), st 3 8 45, m 9 46] [1, 2, 3, 4, 5, 9],
        .reg [m 47 9, nt' 48 47] [1, 2, 3, 4, 5, 48],
        C 48 (.regD [fa 49 3 1, l1 50 49, m 51 5, fa 52 1 1, l1 53 52, m 54 4, ia 55 53 54 3, fa 56 55 2, l1 57 56, ca 58 15 [57], o1 59 (.bld [.str [], .nil 1, .nil 5] [(0, 1, (.t 51)), (2, 1, (.t 58))]), o1 60 (.lit 3 [.t 59]), o1 61 (.app (.t 50) (.t 60) 34 3 64), fa 62 3 1, st 1 62 61] [1, 2, 3, 4]) (.skip)]),
      .reg [m 24 4, bi 25 .add 24 1, m 4 25] [1, 2, 3, 4]]))],
  Q [.reg [mi 10 0] [1, 2, 3, 10],
   .block 2 (.loop [1, 2, 3, 10] (Q [Q [.reg [m 63 10, fa 64 3 1, l1 65 64, lq 66 65, bt 67 .lss 63 66] [1, 2, 3, 10, 67],
       C 67 (.skip) (.exit 2)],
      .block 3 (Q [.reg [fa 70 1 1, l1 71 70, m 72 10, ia 73 71 72 3, fa 74 73 1, l1 75 74, m 11 75] [1, 2, 3, 10, 11],
        .regD [fa 76 3 1, l1 77 76, m 78 10, la 79 3 3, fa 80 3 1, l1 81 80, m 82 10, ia 83 81 82 3, fa 84 83 0, l1 85 84, m 86 11, ca 87 16 [79, 85, 86], ia 88 77 78 3, fa 89 88 1, st 1 89 87] [1, 2, 3, 10]]),
      .reg [m 68 10, bi 69 .add 68 1, m 10 69] [1, 2, 3, 10]]))],
  .reg [la 90 3 3, fa 91 1 0, l1 92 91, o1 93 (.call 16 [.t 90, .v (.str []), .t 92]), fa 94 3 0, st 1 94 93] [1, 2, 3],
  Q [.reg [mi 12 0] [1, 2, 3, 12],
   .block 4 (.loop [1, 2, 3, 12] (Q [Q [.reg [m 95 12, fa 96 1 2, l1 97 96, lq 98 97, bt 99 .lss 95 98, m 100 99, gt 100 (m 101 12), gt 100 (bi 102 .lss 101 4), pa 103 100 102] [1, 2, 3, 12, 103],
       C 103 (.skip) (.exit 4)],
      .block 5 (Q [.reg [fa 106 1 2, l1 107 106, m 108 12, ia 109 107 108 1, l1 110 109, ca 111 13 [110], m 13 111] [1, 2, 3, 12, 13],
        .regD [fa 112 3 2, l1 113 112, fa 114 1 2, l1 115 114, m 116 12, ia 117 115 116 1, l1 118 117, ca 119 17 [113, 118], m 14 119] [1, 2, 3, 12, 13, 14],
        .reg [m 120 13, m 121 120, gt 121 (m 122 14), gt 121 (nt' 123 122), pa 124 121 123] [1, 2, 3, 12, 124],
        C 124 (.regD [fa 125 3 2, l1 126 125, fa 127 1 2, l1 128 127, m 129 12, ia 130 128 129 1, l1 131 130, o1 132 (.lit 1 [.t 131]), o1 133 (.app (.t 126) (.t 132) 9 1 16), fa 134 3 2, st 1 134 133] [1, 2, 3, 12]) (.skip)]),
      .reg [m 104 12, bi 105 .add 104 1, m 12 105] [1, 2, 3, 12]]))],
  .reg [la 135 3 3, st 3 2 135] [2],
  .ret]
theorem i_ref13_Good : image Tryz.prog Tryz.f5 [[1, 2], [1, 2, 3], [1, 2, 3, 4], [1, 2, 3, 4], [1, 2, 3, 4, 23], [1, 2, 3, 4, 5], [1, 2, 3, 4, 5, 6], [1, 2, 3, 4, 5, 35], [1, 2, 3, 4, 7], [1, 2, 3, 4, 5], [1, 2, 3, 4, 5, 9], [1, 2, 3, 4, 5, 48], [0, 0, 1, 0, 0, 8, 0, 56, 120, 248, 504, 1020, 2044, 4095, 8191, 16383], [0, 1, 2, 3, 4, 5, 6, 7, 8, 9, 10, 11, 12, 13, 14], [1, 2, 3, 4], [1, 2, 3, 4], [1, 2, 3, 10], [1, 2, 3, 10], [1, 2, 3, 10, 67], [1, 2, 3, 10, 11], [0, 0, 1, 0, 0, 0, 16, 0, 112, 240, 496, 0, 2040, 4095, 8191, 16383], [0, 1, 2, 3, 4, 5, 6, 7, 8, 9, 10, 11, 12, 13, 14], [1, 2, 3, 10], [1, 2, 3, 10], [1, 2, 3], [1, 2, 3, 12], [1, 2, 3, 12], [1, 2, 3, 12, 103], [1, 2, 3, 12, 13], [0, 0, 1, 0, 4, 0, 28, 60, 127, 255], [0, 1, 2, 3, 4, 5, 6, 7, 8], [1, 2, 3, 12, 13, 14], [1, 2, 3, 12, 124], [0, 0, 1, 0, 4, 0, 28, 60, 124, 255, 511, 1023], [0, 1, 2, 3, 4, 5, 6, 7, 8, 9, 10], [1, 2, 3, 12], [1, 2, 3, 12], [2]] 1 = some (c_ref13_Good, [.c 2 3 true]) := by kernel_rfl

abbrev n_ref21_Named : Nat := 19
theorem h_ref21_Named : Tryz.prog.funcs[19]? = some Tryz.f19 := Tryz.func19
def c_ref21_Named : AC :=
  Q [.reg [mb 2 false] [0],
  .reg [o1 3 (.lit 1 [.v (.str [101, 109, 98, 101, 100]), .v (.str [105, 102, 114, 97, 109, 101]), .v (.str [109, 97, 116, 104]), .v (.str [111, 98, 106, 101, 99, 116]), .v (.str [115, 99, 114, 105, 112, 116]), .v (.str [115, 116, 121, 108, 101]), .v (.str [115, 118, 103]), .v (.str [116, 101, 109, 112, 108, 97, 116, 101])]), m 4 0, ca 5 17 [3, 4], m 2 5] [2],
  .ret]
theorem i_ref21_Named : image Tryz.prog Tryz.f19 [[0], [2]] 1 = some (c_ref21_Named, [.t 2]) := by kernel_rfl

abbrev n_ref21_kept : Nat := 18
theorem h_ref21_kept : Tryz.prog.funcs[18]? = some Tryz.f18 := Tryz.func18
def c_ref21_kept : AC :=
  Q [.reg [mv 2 (.nil 1)] [0],
  .reg [mv 3 (.nil 1)] [0, 3],
  Q [.reg [mi 4 0] [0, 3, 4],
   .block 0 (.loop [0, 3, 4] (Q [Q [.reg [m 6 4, m 7 0, lq 8 7, bt 9 .lss 6 8] [0, 3, 4, 9],
       C 9 (.skip) (.exit 0)],
      .block 1 (Q [.reg [m 12 0, m 13 4, ia 14 12 13 1, l1 15 14, ca 16 19 [15], m 5 16] [0, 3, 4, 5],
        .reg [m 17 5, nt' 18 17] [0, 3, 4, 18],
        C 18 (.reg [m 19 3, m 20 0, m 21 4, ia 22 20 21 1, l1 23 22, o1 24 (.lit 1 [.t 23]), o1 25 (.app (.t 19) (.t 24) 9 1 16), m 3 25] [0, 3, 4]) (.skip)]),
      .reg [m 10 4, bi 11 .add 10 1, m 4 11] [0, 3, 4]]))],
  .reg [m 26 3, m 2 26] [2],
  .ret]
theorem i_ref21_kept : image Tryz.prog Tryz.f18 [[0], [0, 3], [0, 3, 4], [0, 3, 4], [0, 3, 4, 9], [0, 3, 4, 5], [0, 3, 4, 18], [0, 3, 4], [0, 3, 4], [2]] 1 = some (c_ref21_kept, [.t 2]) := by kernel_rfl

abbrev n_ref21_place : Nat := 20
theorem h_ref21_place : Tryz.prog.funcs[20]? = some Tryz.f20 := Tryz.func20
def c_ref21_place : AC :=
  Q [.reg [mb 2 false] [0],
  .reg [m 3 0, bs 4 .eql 3 [97, 99, 116, 105, 111, 110], m 5 4, gf 5 (m 6 0), gf 5 (bs 7 .eql 6 [104, 114, 101, 102]), po 8 5 7, m 9 8, gf 9 (m 10 0), gf 9 (bs 11 .eql 10 [115, 114, 99]), po 12 9 11, m 2 12] [2],
  .ret]
theorem i_ref21_place : image Tryz.prog Tryz.f20 [[0], [2]] 1 = some (c_ref21_place, [.t 2]) := by kernel_rfl

abbrev n_ref21_Guard : Nat := 6
theorem h_ref21_Guard : Tryz.prog.funcs[6]? = some Tryz.f6 := Tryz.func6
def c_ref21_Guard : AC :=
  Q [.reg [bx 1 0, o1 2 (.alc [.nil 1, .nil 3, .nil 1])] [1, 2],
  .reg [fa 11 1 0, l1 12 11, ca 13 18 [12], o1 14 (.bld [.nil 1, .nil 3, .nil 1] [(0, 1, (.t 13))]), o1 3 (.alc [.nil 1, .nil 3, .nil 1]), st 3 3 14] [1, 2, 3],
  .reg [o1 15 (.lit 1 [.v (.str [104, 116, 116, 112]), .v (.str [104, 116, 116, 112, 115]), .v (.str [109, 97, 105, 108, 116, 111])]), o1 16 (.bld [.int .i64 0, .nil 1, .str []] [(0, 1, (.v (.int .i64 3))), (1, 1, (.t 15))]), o1 4 (.alc [.int .i64 0, .nil 1, .str []]), st 3 4 16] [1, 2, 3, 4],
  Q [.reg [mi 5 0] [1, 2, 3, 4, 5],
   .block 0 (.loop [1, 2, 3, 4, 5] (Q [Q [.reg [m 17 5, fa 18 1 1, l1 19 18, lq 20 19, bt 21 .lss 17 20] [1, 2, 3, 4, 5, 21],
       C 21 (.skip) (.exit 0)],
      .block 1 (Q [.reg [fa 24 1 1, l1 25 24, m 26 5, ia 27 25 26 3, la 28 27 3, o1 6 (.alc [.str [], .nil 1, .nil 5]), st 3 6 28] [1, 2, 3, 4, 5, 6],
        .reg [fa 29 6 0, l1 30 29, ca 31 19 [30], m 7 31] [1, 2, 3, 4, 5, 6, 7],
        Q [.reg [m 32 7] [1, 2, 3, 4, 5, 6, 32],
         C 32 (.exit 1) (.skip)],
        .regD [fa 33 6 0, l1 34 33, fa 35 6 1, l1 36 35, ca 37 18 [36], o1 38 (.bld [.str [], .nil 1, .nil 5] [(0, 1, (.t 34)), (1, 1, (.t 37))]), o1 8 (.alc [.str [], .nil 1, .nil 5]), st 3 8 38] [1, 2, 3, 4, 5, 6, 8],
        .reg [fa 39 8 2, l1 40 39, o1 41 (.bld [.int .i64 0, .nil 1, .str []] [(0, 1, (.v (.int .i64 4))), (2, 1, (.v (.str [91, 94, 32, 45, 126, 93])))]), o1 42 (.bld [.str [], .int .i64 0, .nil 1, .str [], .bool false] [(0, 1, (.v (.str [111, 110, 42]))), (1, 3, (.t 41))]), o1 43 (.lit 5 [.t 42]), o1 44 (.app (.t 40) (.t 43) 45 5 72), fa 45 8 2, st 1 45 44] [1, 2, 3, 4, 5, 6, 8],
        .reg [fa 46 8 2, l1 47 46, la 48 4 3, o1 49 (.bld [.str [], .int .i64 0, .nil 1, .str [], .bool false] [(0, 1, (.v (.str [97, 99, 116, 105, 111, 110]))), (1, 3, (.t 48))]), la 50 4 3, o1 51 (.bld [.str [], .int .i64 0, .nil 1, .str [], .bool false] [(0, 1, (.v (.str [104, 114, 101, 102]))), (1, 3, (.t 50))]), la 52 4 3, o1 53 (.bld [.str [], .int .i64 0, .nil 1, .str [], .bool false] [(0, 1, (.v (.str [115, 114, 99]))), (1, 3, (.t 52))]), o1 54 (.lit 5 [.t 49, .t 51, .t 53]), o1 55 (.app (.t 47) (.t 54) 45 5 72), fa 56 8 2, st 1 56 55] [1, 2, 3, 4, 5, 6, 8],
        Q [.reg [mi 9 0] [1, 2, 3, 4, 5, 6, 8, 9],
         .block 2 (.loop [1, 2, 3, 4, 5, 6, 8, 9] (Q [Q [.reg [m 57 9, fa 58 6 2, l1 59 58, lq 60 59, bt 61 .lss 57 60] [1, 2, 3, 4, 5, 6, 8, 9, 61],
             C 61 (.skip) (.exit 2)],
            .block 3 (Q [.reg [fa 64 6 2, l1 65 64, m 66 9, ia 67 65 66 5, fa 68 67 0, l1 69 68, ca 70 20 [69], m 10 70] [1, 2, 3, 4, 5, 6, 8, 9, 10],
              .reg [m 71 10, nt' 72 71, m 73 72, gt 73 (fa 74 6 2), gt 73 (l1 75 74), gt 73 (m 76 9), gt 73 (ia 77 75 76 5), gt 73 (fa 78 77 0), gt 73 (l1 79 78), gt 73 (bs 80 .neq 79 [111, 110, 42]), pa 81 73 80] [1, 2, 3, 4, 5, 6, 8, 9, 81],
              C 81 (.regD [fa 82 8 2, l1 83 82, fa 84 6 2, l1 85 84, m 86 9, ia 87 85 86 5, fa 88 87 0, l1 89 88, o1 90 (.bld [.int .i64 0, .nil 1, .str []] [(0, 1, (.v (.int .i64 1)))]), o1 91 (.bld [.str [], .int .i64 0, .nil 1, .str [], .bool false] [(0, 1, (.t 89)), (1, 3, (.t 90))]), o1 92 (.lit 5 [.t 91]), o1 93 (.app (.t 83) (.t 92) 45 5 72), fa 94 8 2, st 1 94 93] [1, 2, 3, 4, 5, 6, 8, 9]) (.skip)]),
            .reg [m 62 9, bi 63 .add 62 1, m 9 63] [1, 2, 3, 4, 5, 6, 8, 9]]))],
        .reg [fa 95 3 1, l1 96 95, la 97 8 3, o1 98 (.lit 3 [.t 97]), o1 99 (.app (.t 96) (.t 98) 34 3 64), fa 100 3 1, st 1 100 99] [1, 2, 3, 4, 5]]),
      .reg [m 22 5, bi 23 .add 22 1, m 5 23] [1, 2, 3, 4, 5]]))],
  .reg [la 101 3 3, st 3 2 101] [2],
  .ret]
theorem i_ref21_Guard : image Tryz.prog Tryz.f6 [[1, 2], [1, 2, 3], [1, 2, 3, 4], [1, 2, 3, 4, 5], [1, 2, 3, 4, 5], [1, 2, 3, 4, 5, 21], [1, 2, 3, 4, 5, 6], [1, 2, 3, 4, 5, 6, 7], [1, 2, 3, 4, 5, 6, 32], [0, 0, 1, 0, 4, 12, 31, 0, 127], [0, 1, 2, 3, 4, 5, 6, 7], [1, 2, 3, 4, 5, 6, 8], [1, 2, 3, 4, 5, 6, 8], [1, 2, 3, 4, 5, 6, 8], [1, 2, 3, 4, 5, 6, 8, 9], [1, 2, 3, 4, 5, 6, 8, 9], [1, 2, 3, 4, 5, 6, 8, 9, 61], [1, 2, 3, 4, 5, 6, 8, 9, 10], [1, 2, 3, 4, 5, 6, 8, 9, 81], [0, 0, 1, 0, 4, 0, 28, 60, 124, 0, 508, 1020, 2047, 4095, 8191], [0, 1, 2, 3, 4, 5, 6, 7, 8, 9, 10, 11, 12, 13], [1, 2, 3, 4, 5, 6, 8, 9], [1, 2, 3, 4, 5, 6, 8, 9], [1, 2, 3, 4, 5], [1, 2, 3, 4, 5], [2]] 1 = some (c_ref21_Guard, [.c 2 3 true]) := by kernel_rfl

abbrev n_ref03_few : Nat := 79
theorem h_ref03_few : Tryz.prog.funcs[79]? = some Tryz.f79 := Tryz.func79
def c_ref03_few : AC :=
  Q [.reg [mv 2 (.str [])] [0],
  Q [.reg [m 3 0, ls 4 3, bi 5 .gtr 4 30] [0, 5],
   C 5 (Q [.reg [m 6 0, o1 7 (.sls (.t 6) none (some (.v (.int .i64 30)))), m 2 7] [2],
     .ret]) (.skip)],
  .reg [m 8 0, m 2 8] [2],
  .ret]
theorem i_ref03_few : image Tryz.prog Tryz.f79 [[0], [0, 5], [2], [2]] 1 = some (c_ref03_few, [.t 2]) := by kernel_rfl

abbrev n_ref03_Cut : Nat := 63
theorem h_ref03_Cut : Tryz.prog.funcs[63]? = some Tryz.f63 := Tryz.func63
def c_ref03_Cut : AC :=
  Q [.reg [mv 4 (.nil 5), mi 5 0] [0, 1],
  .reg [mv 6 (.nil 5)] [0, 1, 6],
  Q [.reg [mi 7 0] [0, 1, 6, 7],
   .block 0 (.loop [0, 1, 6, 7] (Q [Q [.reg [m 11 7, m 12 0, lq 13 12, bt 14 .lss 11 13, m 15 14, gt 15 (m 16 1), gt 15 (bi 17 .gtr 16 0), pa 18 15 17] [0, 1, 6, 7, 18],
       C 18 (.skip) (.exit 0)],
      .block 1 (Q [.reg [m 21 0, m 22 7, ia 23 21 22 5, la 24 23 5, o1 8 (.alc [.int .i64 0, .str [], .nil 2, .str [], .nil 5]), st 5 8 24] [0, 1, 6, 7, 8],
        .reg [m 25 1, bi 26 .sub 25 1, m 1 26] [0, 1, 6, 7, 8],
        .reg [fa 27 8 1, l1 28 27, ca 29 79 [28], fa 30 8 1, st 1 30 29] [0, 1, 6, 7, 8],
        .reg [fa 31 8 3, l1 32 31, ca 33 79 [32], fa 34 8 3, st 1 34 33] [0, 1, 6, 7, 8],
        .reg [fa 36 8 4, l1 37 36, m 38 1, ca 39 63 [37, 38], m 35 39, ex 40 35 0, ex 41 35 1, fa 42 8 4, st 1 42 40, m 1 41] [0, 1, 6, 7, 8],
        .reg [mv 9 (.nil 2)] [0, 1, 6, 7, 8, 9],
        Q [.reg [mi 10 0] [0, 1, 6, 7, 8, 9, 10],
         .block 2 (.loop [0, 1, 6, 7, 8, 9, 10] (Q [Q [.reg [m 43 10, fa 44 8 2, l1 45 44, lq 46 45, bt 47 .lss 43 46, m 48 47, gt 48 (m 49 10), gt 48 (bi 50 .lss 49 5), pa 51 48 50] [0, 1, 6, 7, 8, 9, 10, 51],
             C 51 (.skip) (.exit 2)],
            .block 3 (.regD [m 54 9, fa 55 8 2, l1 56 55, m 57 10, ia 58 56 57 2, fa 59 58 0, l1 60 59, ca 61 79 [60], fa 62 8 2, l1 63 62, m 64 10, ia 65 63 64 2, fa 66 65 1, l1 67 66, ca 68 79 [67], o1 69 (.bld [.str [], .str []] [(0, 1, (.t 61)), (1, 1, (.t 68))]), o1 70 (.lit 2 [.t 69]), o1 71 (.app (.t 54) (.t 70) 53 2 32), m 9 71] [0, 1, 6, 7, 8, 9, 10]),
            .reg [m 52 10, bi 53 .add 52 1, m 10 53] [0, 1, 6, 7, 8, 9, 10]]))],
        .reg [m 72 9, fa 73 8 2, st 1 73 72] [0, 1, 6, 7, 8],
        .reg [m 74 6, la 75 8 5, o1 76 (.lit 5 [.t 75]), o1 77 (.app (.t 74) (.t 76) 50 5 88), m 6 77] [0, 1, 6, 7]]),
      .reg [m 19 7, bi 20 .add 19 1, m 7 20] [0, 1, 6, 7]]))],
  .reg [m 78 6, m 79 1, m 4 78, m 5 79] [4, 5],
  .ret]
theorem i_ref03_Cut : image Tryz.prog Tryz.f63 [[0, 1], [0, 1, 6], [0, 1, 6, 7], [0, 1, 6, 7], [0, 1, 6, 7, 18], [0, 1, 6, 7, 8], [0, 1, 6, 7, 8], [0, 1, 6, 7, 8], [0, 1, 6, 7, 8], [0, 1, 6, 7, 8], [0, 1, 6, 7, 8, 9], [0, 1, 6, 7, 8, 9, 10], [0, 1, 6, 7, 8, 9, 10], [0, 1, 6, 7, 8, 9, 10, 51], [0, 0, 0, 2, 0, 14, 30, 62, 126, 0, 256, 0, 1792, 3840, 7936, 16382, 32766, 65534, 131071, 262143], [0, 1, 2, 3, 4, 5, 6, 7, 8, 9, 10, 11, 12, 13, 14, 15, 16, 17, 18], [0, 1, 6, 7, 8, 9, 10], [0, 1, 6, 7, 8, 9, 10], [0, 1, 6, 7, 8], [0, 1, 6, 7], [0, 1, 6, 7], [4, 5]] 2 = some (c_ref03_Cut, [.t 4, .t 5]) := by kernel_rfl

abbrev n_ref03_Few : Nat := 41
theorem h_ref03_Few : Tryz.prog.funcs[41]? = some Tryz.f41 := Tryz.func41
def c_ref03_Few : AC :=
  Q [.reg [mv 2 (.nil 5)] [0],
  .reg [m 6 0, o1 7 (.call 63 [.t 6, .v (.int .i64 40)]), m 5 7, ex 8 5 0, ex 9 5 1, m 3 8, m 4 9] [3],
  .reg [m 10 3, m 2 10] [2],
  .ret]
theorem i_ref03_Few : image Tryz.prog Tryz.f41 [[0], [3], [2]] 1 = some (c_ref03_Few, [.t 2]) := by kernel_rfl

abbrev n_ref01_follows : Nat := 108
theorem h_ref01_follows : Tryz.prog.funcs[108]? = some Tryz.f108 := Tryz.func108
def c_ref01_follows : AC :=
  Q [.reg [mb 2 false] [0],
  .reg [m 3 0, bu 4 .geq 3 128, m 5 4, gt 5 (m 6 0), gt 5 (bu 7 .lss 6 192), pa 8 5 7, m 2 8] [2],
  .ret]
theorem i_ref01_follows : image Tryz.prog Tryz.f108 [[0], [2]] 1 = some (c_ref01_follows, [.t 2]) := by kernel_rfl

abbrev n_ref01_One : Nat := 94
theorem h_ref01_One : Tryz.prog.funcs[94]? = some Tryz.f94 := Tryz.func94
def c_ref01_One : AC :=
  Q [.reg [mv 2 (.int .i32 0), mi 3 0] [0],
  .reg [m 10 0, o1 11 (.ia (.t 10) (.v (.int .i64 0)) 1), l1 12 11, o1 13 (.cii .i64 (.t 12)), m 4 13] [0, 4],
  Q [.reg [m 14 4, bi 15 .lss 14 128] [0, 4, 15],
   C 15 (Q [.reg [m 16 4, o1 17 (.cii .i32 (.t 16)), m 2 17, mi 3 1] [2, 3],
     .ret]) (.skip)],
  .reg [mi 5 0] [0, 4],
  .reg [mi 6 0] [0, 4],
  .reg [mi 7 0] [0, 4],
  Q [.reg [m 18 4, bi 19 .geq 18 192, m 20 19, gt 20 (m 21 4), gt 20 (bi 22 .lss 21 224), pa 23 20 22] [0, 4, 23],
   C 23 (Q [.reg [mi 5 2] [0, 4, 5],
     .reg [m 24 4, bi 25 .sub 24 192, m 6 25] [0, 5, 6],
     .reg [mi 7 128] [0, 5, 6, 7]]) (Q [.reg [m 26 4, bi 27 .geq 26 224, m 28 27, gt 28 (m 29 4), gt 28 (bi 30 .lss 29 240), pa 31 28 30] [0, 4, 31],
     C 31 (Q [.reg [mi 5 3] [0, 4, 5],
       .reg [m 32 4, bi 33 .sub 32 224, m 6 33] [0, 5, 6],
       .reg [mi 7 2048] [0, 5, 6, 7]]) (Q [.reg [m 34 4, bi 35 .geq 34 240, m 36 35, gt 36 (m 37 4), gt 36 (bi 38 .lss 37 248), pa 39 36 38] [0, 4, 39],
       C 39 (Q [.reg [mi 5 4] [0, 4, 5],
         .reg [m 40 4, bi 41 .sub 40 240, m 6 41] [0, 5, 6],
         .reg [mi 7 65536] [0, 5, 6, 7]]) (Q [.reg [mv 2 (.int .i32 65533), mi 3 1] [2, 3],
         .ret])])])],
  Q [.reg [m 42 0, lq 43 42, m 44 5, bt 45 .lss 43 44] [0, 5, 6, 7, 45],
   C 45 (Q [.reg [mv 2 (.int .i32 65533), mi 3 1] [2, 3],
     .ret]) (.skip)],
  Q [.reg [mi 8 1] [0, 5, 6, 7, 8],
   .block 0 (.loop [0, 5, 6, 7, 8] (Q [Q [.reg [m 46 8, m 47 5, bt 48 .lss 46 47] [0, 5, 6, 7, 8, 48],
       C 48 (.skip) (.exit 0)],
      .block 1 (Q [.reg [m 51 0, m 52 8, ia 53 51 52 1, l1 54 53, ca 55 108 [54], m 9 55] [0, 5, 6, 7, 8, 9],
        Q [.reg [m 56 9, nt' 57 56] [0, 5, 6, 7, 8, 57],
         C 57 (Q [.reg [mv 2 (.int .i32 65533), mi 3 1] [2, 3],
           .ret]) (.skip)],
        .reg [m 58 6, o1 59 (.bin .mul (.v (.int .i64 64)) (.t 58)), m 60 0, m 61 8, ia 62 60 61 1, l1 63 62, o1 64 (.cii .i64 (.t 63)), bt 65 .add 59 64, bi 66 .sub 65 128, m 6 66] [0, 5, 6, 7, 8]]),
      .reg [m 49 8, bi 50 .add 49 1, m 8 50] [0, 5, 6, 7, 8]]))],
  Q [.reg [m 67 6, m 68 7, bt 69 .lss 67 68, m 70 69, gf 70 (m 71 6), gf 70 (bi 72 .gtr 71 1114111), po 73 70 72, m 74 73, gf 74 (m 75 6), gf 74 (bi 76 .geq 75 55296), gf 74 (m 77 76), gt 77 (m 78 6), gt 77 (bi 79 .leq 78 57343), gf 74 (pa 80 77 79), po 81 74 80] [5, 6, 81],
   C 81 (Q [.reg [mv 2 (.int .i32 65533), mi 3 1] [2, 3],
     .ret]) (.skip)],
  .reg [m 82 6, o1 83 (.cii .i32 (.t 82)), m 84 5, m 2 83, m 3 84] [2, 3],
  .ret]
theorem i_ref01_One : image Tryz.prog Tryz.f94 [[0], [0, 4], [0, 4, 15], [2, 3], [0, 4], [0, 4], [0, 4], [0, 4, 23], [0, 4, 5], [0, 5, 6], [0, 5, 6, 7], [0, 4, 31], [0, 4, 5], [0, 5, 6], [0, 5, 6, 7], [0, 4, 39], [0, 4, 5], [0, 5, 6], [0, 5, 6, 7], [2, 3], [0, 5, 6, 7, 45], [2, 3], [0, 5, 6, 7, 8], [0, 5, 6, 7, 8], [0, 5, 6, 7, 8, 48], [0, 5, 6, 7, 8, 9], [0, 5, 6, 7, 8, 57], [2, 3], [0, 5, 6, 7, 8], [0, 5, 6, 7, 8], [5, 6, 81], [2, 3], [2, 3]] 1 = some (c_ref01_One, [.t 2, .t 3]) := by kernel_rfl

abbrev n_ref01_Runes : Nat := 76
theorem h_ref01_Runes : Tryz.prog.funcs[76]? = some Tryz.f76 := Tryz.func76
def c_ref01_Runes : AC :=
  Q [.reg [mv 2 (.nil 1)] [0],
  .reg [mv 3 (.nil 1)] [0, 3],
  Q [.reg [mi 4 0] [0, 3, 4],
   .block 0 (.loop [0, 3, 4] (Q [Q [.reg [m 7 4, m 8 0, lq 9 8, bt 10 .lss 7 9] [0, 3, 4, 10],
       C 10 (.skip) (.exit 0)],
      .block 1 (Q [.reg [m 12 0, m 13 4, o1 14 (.slq (.t 12) (some (.t 13)) none 1), ca 15 94 [14], m 11 15, ex 16 11 0, ex 17 11 1, m 5 16, m 6 17] [0, 3, 4, 5, 6],
        .reg [m 18 3, m 19 5, o1 20 (.lit 1 [.t 19]), o1 21 (.app (.t 18) (.t 20) 21 1 4), m 3 21] [0, 3, 4, 6],
        .reg [m 22 4, m 23 6, bt 24 .add 22 23, m 4 24] [0, 3, 4]])]))],
  .reg [m 25 3, m 2 25] [2],
  .ret]
theorem i_ref01_Runes : image Tryz.prog Tryz.f76 [[0], [0, 3], [0, 3, 4], [0, 3, 4], [0, 3, 4, 10], [0, 3, 4, 5, 6], [0, 3, 4, 6], [0, 3, 4], [2]] 1 = some (c_ref01_Runes, [.t 2]) := by kernel_rfl

abbrev n_ref01_bytes : Nat := 95
theorem h_ref01_bytes : Tryz.prog.funcs[95]? = some Tryz.f95 := Tryz.func95
def c_ref01_bytes : AC :=
  Q [.reg [mv 2 (.nil 1)] [0],
  .reg [m 4 0, o1 5 (.cii .i64 (.t 4)), m 3 5] [3],
  Q [.reg [m 6 3, bi 7 .lss 6 0, m 8 7, gf 8 (m 9 3), gf 8 (bi 10 .gtr 9 1114111), po 11 8 10, m 12 11, gf 12 (m 13 3), gf 12 (bi 14 .geq 13 55296), gf 12 (m 15 14), gt 15 (m 16 3), gt 15 (bi 17 .leq 16 57343), gf 12 (pa 18 15 17), po 19 12 18] [3, 19],
   C 19 (.reg [mi 3 65533] [3]) (.skip)],
  Q [.reg [m 20 3, bi 21 .lss 20 128] [3, 21],
   C 21 (Q [.reg [m 22 3, o1 23 (.cii .u8 (.t 22)), o1 24 (.lit 1 [.t 23]), m 2 24] [2],
     .ret]) (.skip)],
  Q [.reg [m 25 3, bi 26 .lss 25 2048] [3, 26],
   C 26 (Q [.reg [m 27 3, bi 28 .quo 27 64, o1 29 (.bin .add (.v (.int .i64 192)) (.t 28)), o1 30 (.cii .u8 (.t 29)), m 31 3, bi 32 .rem 31 64, o1 33 (.bin .add (.v (.int .i64 128)) (.t 32)), o1 34 (.cii .u8 (.t 33)), o1 35 (.lit 1 [.t 30, .t 34]), m 2 35] [2],
     .ret]) (.skip)],
  Q [.reg [m 36 3, bi 37 .lss 36 65536] [3, 37],
   C 37 (Q [.reg [m 38 3, bi 39 .quo 38 4096, o1 40 (.bin .add (.v (.int .i64 224)) (.t 39)), o1 41 (.cii .u8 (.t 40)), m 42 3, bi 43 .quo 42 64, bi 44 .rem 43 64, o1 45 (.bin .add (.v (.int .i64 128)) (.t 44)), o1 46 (.cii .u8 (.t 45)), m 47 3, bi 48 .rem 47 64, o1 49 (.bin .add (.v (.int .i64 128)) (.t 48)), o1 50 (.cii .u8 (.t 49)), o1 51 (.lit 1 [.t 41, .t 46, .t 50]), m 2 51] [2],
     .ret]) (.skip)],
  .reg [m 52 3, bi 53 .quo 52 262144, o1 54 (.bin .add (.v (.int .i64 240)) (.t 53)), o1 55 (.cii .u8 (.t 54)), m 56 3, bi 57 .quo 56 4096, bi 58 .rem 57 64, o1 59 (.bin .add (.v (.int .i64 128)) (.t 58)), o1 60 (.cii .u8 (.t 59)), m 61 3, bi 62 .quo 61 64, bi 63 .rem 62 64, o1 64 (.bin .add (.v (.int .i64 128)) (.t 63)), o1 65 (.cii .u8 (.t 64)), m 66 3, bi 67 .rem 66 64, o1 68 (.bin .add (.v (.int .i64 128)) (.t 67)), o1 69 (.cii .u8 (.t 68)), o1 70 (.lit 1 [.t 55, .t 60, .t 65, .t 69]), m 2 70] [2],
  .ret]
theorem i_ref01_bytes : image Tryz.prog Tryz.f95 [[0], [3], [3, 19], [3], [3, 21], [2], [3, 26], [2], [3, 37], [2], [2]] 1 = some (c_ref01_bytes, [.t 2]) := by kernel_rfl

abbrev n_ref01_Text : Nat := 77
theorem h_ref01_Text : Tryz.prog.funcs[77]? = some Tryz.f77 := Tryz.func77
def c_ref01_Text : AC :=
  Q [.reg [mv 2 (.str [])] [0],
  .reg [mv 3 (.nil 1)] [0, 3],
  Q [.reg [mi 4 0] [0, 3, 4],
   .block 0 (.loop [0, 3, 4] (Q [Q [.reg [m 5 4, m 6 0, lq 7 6, bt 8 .lss 5 7] [0, 3, 4, 8],
       C 8 (.skip) (.exit 0)],
      .block 1 (.reg [m 11 3, m 12 0, m 13 4, ia 14 12 13 1, l1 15 14, ca 16 95 [15], o1 17 (.app (.t 11) (.t 16) 5 1 1), m 3 17] [0, 3, 4]),
      .reg [m 9 4, bi 10 .add 9 1, m 4 10] [0, 3, 4]]))],
  .reg [m 18 3, o1 19 (.b2s (.t 18)), m 2 19] [2],
  .ret]
theorem i_ref01_Text : image Tryz.prog Tryz.f77 [[0], [0, 3], [0, 3, 4], [0, 3, 4], [0, 3, 4, 8], [0, 3, 4], [0, 3, 4], [2]] 1 = some (c_ref01_Text, [.t 2]) := by kernel_rfl

abbrev n_ref01_Right : Nat := 59
theorem h_ref01_Right : Tryz.prog.funcs[59]? = some Tryz.f59 := Tryz.func59
def c_ref01_Right : AC :=
  Q [.reg [mv 2 (.str [])] [0],
  .reg [m 7 0, ca 8 76 [7], m 3 8] [3],
  .reg [mv 4 (.nil 1)] [3, 4],
  Q [.reg [mi 5 0] [3, 4, 5],
   .block 0 (.loop [3, 4, 5] (Q [Q [.reg [m 9 5, m 10 3, lq 11 10, bt 12 .lss 9 11] [3, 4, 5, 12],
       C 12 (.skip) (.exit 0)],
      .block 1 (Q [.reg [m 15 3, m 16 5, ia 17 15 16 1, l1 18 17, m 6 18] [3, 4, 5, 6],
        Q [.reg [m 19 6, o1 20 (.bin .eql (.t 19) (.v (.int .i32 10))), m 21 20, gt 21 (m 22 5), gt 21 (bi 23 .gtr 22 0), pa 24 21 23, m 25 24, gt 25 (m 26 3), gt 25 (m 27 5), gt 25 (bi 28 .sub 27 1), gt 25 (ia 29 26 28 1), gt 25 (l1 30 29), gt 25 (o1 31 (.bin .eql (.t 30) (.v (.int .i32 13)))), pa 32 25 31] [3, 4, 5, 6, 32],
         C 32 (.exit 1) (.skip)],
        Q [.reg [m 33 6, o1 34 (.bin .eql (.t 33) (.v (.int .i32 13)))] [3, 4, 5, 6, 34],
         C 34 (.reg [mv 6 (.int .i32 10)] [3, 4, 5, 6]) (.skip)],
        Q [.reg [m 35 6, o1 36 (.bin .eql (.t 35) (.v (.int .i32 0)))] [3, 4, 5, 6, 36],
         C 36 (.reg [mv 6 (.int .i32 65533)] [3, 4, 5, 6]) (.skip)],
        .reg [m 37 4, m 38 6, o1 39 (.lit 1 [.t 38]), o1 40 (.app (.t 37) (.t 39) 21 1 4), m 4 40] [3, 4, 5]]),
      .reg [m 13 5, bi 14 .add 13 1, m 5 14] [3, 4, 5]]))],
  .reg [m 41 4, ca 42 77 [41], m 2 42] [2],
  .ret]
theorem i_ref01_Right : image Tryz.prog Tryz.f59 [[0], [3], [3, 4], [3, 4, 5], [3, 4, 5], [3, 4, 5, 12], [3, 4, 5, 6], [3, 4, 5, 6, 32], [3, 4, 5, 6, 34], [3, 4, 5, 6], [3, 4, 5, 6, 36], [3, 4, 5, 6], [3, 4, 5], [3, 4, 5], [2]] 1 = some (c_ref01_Right, [.t 2]) := by kernel_rfl

abbrev n_ref03_word : Nat := 60
theorem h_ref03_word : Tryz.prog.funcs[60]? = some Tryz.f60 := Tryz.func60
def c_ref03_word : AC :=
  Q [.reg [mv 2 (.str [])] [0],
  .reg [o1 7 (.lit 1 [.v (.str [97]), .v (.str [98]), .v (.str [112]), .v (.str [117, 108]), .v (.str [108, 105]), .v (.str [98, 114]), .v (.str [105, 109, 103]), .v (.str [100, 105, 118]), .v (.str [115, 99, 114, 105, 112, 116]), .v (.str [120, 45, 121])]), m 3 7] [0, 3],
  .reg [mi 4 0] [0, 3, 4],
  Q [.reg [mi 5 0] [0, 3, 4, 5],
   .block 0 (.loop [0, 3, 4, 5] (Q [Q [.reg [m 8 5, m 9 0, ls 10 9, bt 11 .lss 8 10] [0, 3, 4, 5, 11],
       C 11 (.skip) (.exit 0)],
      .block 1 (.reg [m 14 4, m 15 0, m 16 5, ix 17 15 16, o1 18 (.cii .i64 (.t 17)), bt 19 .add 14 18, m 4 19] [0, 3, 4, 5]),
      .reg [m 12 5, bi 13 .add 12 1, m 5 13] [0, 3, 4, 5]]))],
  .reg [m 20 0, ca 21 33 [20], m 6 21] [0, 3, 4, 6],
  Q [.reg [m 22 6] [0, 3, 4, 22],
   C 22 (Q [.reg [m 23 0, m 2 23] [2],
     .ret]) (.skip)],
  .reg [m 24 3, m 25 4, m 26 3, lq 27 26, bt 28 .rem 25 27, ia 29 24 28 1, l1 30 29, m 2 30] [2],
  .ret]
theorem i_ref03_word : image Tryz.prog Tryz.f60 [[0], [0, 3], [0, 3, 4], [0, 3, 4, 5], [0, 3, 4, 5], [0, 3, 4, 5, 11], [0, 3, 4, 5], [0, 3, 4, 5], [0, 3, 4, 6], [0, 3, 4, 22], [2], [2]] 1 = some (c_ref03_word, [.t 2]) := by kernel_rfl

abbrev n_ref01_Is : Nat := 81
theorem h_ref01_Is : Tryz.prog.funcs[81]? = some Tryz.f81 := Tryz.func81
def c_ref01_Is : AC :=
  Q [.reg [mb 2 false] [0],
  .reg [m 3 0, o1 4 (.s2b (.t 3)), ca 5 59 [4], m 6 0, bt 7 .eql 5 6, m 2 7] [2],
  .ret]
theorem i_ref01_Is : image Tryz.prog Tryz.f81 [[0], [2]] 1 = some (c_ref01_Is, [.t 2]) := by kernel_rfl

abbrev n_ref03_Attributed : Nat := 78
theorem h_ref03_Attributed : Tryz.prog.funcs[78]? = some Tryz.f78 := Tryz.func78
def c_ref03_Attributed : AC :=
  Q [.reg [mb 2 false] [0],
  .reg [m 6 0, ca 7 81 [6], m 3 7] [0, 3],
  Q [.reg [mi 4 0] [0, 3, 4],
   .block 0 (.loop [0, 3, 4] (Q [Q [.reg [m 8 4, m 9 0, ls 10 9, bt 11 .lss 8 10] [0, 3, 4, 11],
       C 11 (.skip) (.exit 0)],
      .block 1 (Q [.reg [m 14 0, m 15 4, ix 16 14 15, m 5 16] [0, 3, 4, 5],
        .reg [m 17 5, bu 18 .geq 17 65, m 19 18, gt 19 (m 20 5), gt 19 (bu 21 .leq 20 90), pa 22 19 21, m 23 22, gf 23 (m 24 5), gf 23 (bu 25 .eql 24 9), po 26 23 25, m 27 26, gf 27 (m 28 5), gf 27 (bu 29 .eql 28 10), po 30 27 29, m 31 30, gf 31 (m 32 5), gf 31 (bu 33 .eql 32 12), po 34 31 33, m 35 34, gf 35 (m 36 5), gf 35 (bu 37 .eql 36 32), po 38 35 37, m 39 38, gf 39 (m 40 5), gf 39 (bu 41 .eql 40 47), po 42 39 41, m 43 42, gf 43 (m 44 5), gf 43 (bu 45 .eql 44 62), po 46 43 45, m 47 46, gf 47 (m 48 5), gf 47 (bu 49 .eql 48 61), po 50 47 49] [0, 3, 4, 50],
        C 50 (Q [.reg [mb 2 false] [2],
          .ret]) (.skip)]),
      .reg [m 12 4, bi 13 .add 12 1, m 4 13] [0, 3, 4]]))],
  .reg [m 51 3, m 52 51, gt 52 (m 53 0), gt 52 (ls 54 53), gt 52 (bi 55 .gtr 54 0), pa 56 52 55, m 2 56] [2],
  .ret]
theorem i_ref03_Attributed : image Tryz.prog Tryz.f78 [[0], [0, 3], [0, 3, 4], [0, 3, 4], [0, 3, 4, 11], [0, 3, 4, 5], [0, 3, 4, 50], [2], [0, 3, 4], [2]] 1 = some (c_ref03_Attributed, [.t 2]) := by kernel_rfl

abbrev n_ref03_attribute : Nat := 61
theorem h_ref03_attribute : Tryz.prog.funcs[61]? = some Tryz.f61 := Tryz.func61
def c_ref03_attribute : AC :=
  Q [.reg [mv 2 (.str [])] [0],
  .reg [m 5 0, ca 6 78 [5], m 3 6] [0, 3],
  Q [.reg [m 7 3] [0, 7],
   C 7 (Q [.reg [m 8 0, m 2 8] [2],
     .ret]) (.skip)],
  .reg [o1 9 (.lit 1 [.v (.str [105, 100]), .v (.str [104, 114, 101, 102]), .v (.str [116, 105, 116, 108, 101]), .v (.str [100, 97, 116, 97, 45, 97]), .v (.str [111, 110, 99, 108, 105, 99, 107])]), m 4 9] [0, 4],
  .reg [m 10 4, m 11 0, ls 12 11, m 13 4, lq 14 13, bt 15 .rem 12 14, ia 16 10 15 1, l1 17 16, m 2 17] [2],
  .ret]
theorem i_ref03_attribute : image Tryz.prog Tryz.f61 [[0], [0, 3], [0, 7], [2], [0, 4], [2]] 1 = some (c_ref03_attribute, [.t 2]) := by kernel_rfl

abbrev n_ref03_Value : Nat := 62
theorem h_ref03_Value : Tryz.prog.funcs[62]? = some Tryz.f62 := Tryz.func62
def c_ref03_Value : AC :=
  Q [.reg [bx 2 0, mv 4 (.str []), mb 5 false] [1, 2],
  Q [.reg [mi 6 0] [1, 2, 6],
   .block 0 (.loop [1, 2, 6] (Q [Q [.reg [m 7 6, fa 8 2 2, l1 9 8, lq 10 9, bt 11 .lss 7 10] [1, 2, 6, 11],
       C 11 (.skip) (.exit 0)],
      .block 1 (Q [.reg [fa 14 2 2, l1 15 14, m 16 6, ia 17 15 16 2, fa 18 17 0, l1 19 18, m 20 1, bt 21 .eql 19 20] [1, 2, 6, 21],
        C 21 (Q [.reg [fa 22 2 2, l1 23 22, m 24 6, ia 25 23 24 2, fa 26 25 1, l1 27 26, m 4 27, mb 5 true] [4, 5],
          .ret]) (.skip)]),
      .reg [m 12 6, bi 13 .add 12 1, m 6 13] [1, 2, 6]]))],
  .reg [mv 4 (.str []), mb 5 false] [4, 5],
  .ret]
theorem i_ref03_Value : image Tryz.prog Tryz.f62 [[1, 2], [1, 2, 6], [1, 2, 6], [1, 2, 6, 11], [1, 2, 6, 21], [4, 5], [1, 2, 6], [4, 5]] 2 = some (c_ref03_Value, [.t 4, .t 5]) := by kernel_rfl

abbrev n_ref03_Merge : Nat := 39
theorem h_ref03_Merge : Tryz.prog.funcs[39]? = some Tryz.f39 := Tryz.func39
def c_ref03_Merge : AC :=
  Q [.reg [mv 2 (.nil 5)] [0],
  .reg [mv 3 (.nil 5)] [0, 3],
  Q [.reg [mi 4 0] [0, 3, 4],
   .block 0 (.loop [0, 3, 4] (Q [Q [.reg [m 6 4, m 7 0, lq 8 7, bt 9 .lss 6 8] [0, 3, 4, 9],
       C 9 (.skip) (.exit 0)],
      .block 1 (Q [.reg [m 12 3, lq 13 12, bi 14 .sub 13 1, m 5 14] [0, 3, 4, 5],
        Q [.reg [m 15 0, m 16 4, ia 17 15 16 5, fa 18 17 0, l1 19 18, bi 20 .eql 19 2, m 21 20, gt 21 (m 22 0), gt 21 (m 23 4), gt 21 (ia 24 22 23 5), gt 21 (fa 25 24 3), gt 21 (l1 26 25), gt 21 (bs 27 .eql 26 []), pa 28 21 27] [0, 3, 4, 5, 28],
         C 28 (.exit 1) (.skip)],
        .reg [m 29 0, m 30 4, ia 31 29 30 5, fa 32 31 0, l1 33 32, bi 34 .eql 33 2, m 35 34, gt 35 (m 36 5), gt 35 (bi 37 .geq 36 0), pa 38 35 37, m 39 38, gt 39 (m 40 3), gt 39 (m 41 5), gt 39 (ia 42 40 41 5), gt 39 (fa 43 42 0), gt 39 (l1 44 43), gt 39 (bi 45 .eql 44 2), pa 46 39 45] [0, 3, 4, 5, 46],
        C 46 (.regD [m 47 3, m 48 5, m 49 3, m 50 5, ia 51 49 50 5, fa 52 51 3, l1 53 52, m 54 0, m 55 4, ia 56 54 55 5, fa 57 56 3, l1 58 57, bt 59 .add 53 58, ia 60 47 48 5, fa 61 60 3, st 1 61 59] [0, 3, 4]) (.reg [m 62 3, m 63 0, m 64 4, ia 65 63 64 5, la 66 65 5, o1 67 (.lit 5 [.t 66]), o1 68 (.app (.t 62) (.t 67) 50 5 88), m 3 68] [0, 3, 4])]),
      .reg [m 10 4, bi 11 .add 10 1, m 4 11] [0, 3, 4]]))],
  .reg [m 69 3, m 2 69] [2],
  .ret]
theorem i_ref03_Merge : image Tryz.prog Tryz.f39 [[0], [0, 3], [0, 3, 4], [0, 3, 4], [0, 3, 4, 9], [0, 3, 4, 5], [0, 3, 4, 5, 28], [0, 3, 4, 5, 46], [0, 0, 0, 0, 0, 12, 28, 60, 0, 0, 384, 896, 1920, 4092, 8191, 16383, 32767], [0, 1, 2, 3, 4, 5, 6, 7, 8, 9, 10, 11, 12, 13, 14, 15], [0, 3, 4], [0, 3, 4], [0, 3, 4], [2]] 1 = some (c_ref03_Merge, [.t 2]) := by kernel_rfl

abbrev n_ref03_good : Nat := 40
theorem h_ref03_good : Tryz.prog.funcs[40]? = some Tryz.f40 := Tryz.func40
def c_ref03_good : AC :=
  Q [.reg [mv 2 (.nil 5)] [0],
  .reg [mv 3 (.nil 5)] [0, 3],
  Q [.reg [mi 4 0] [0, 3, 4],
   .block 0 (.loop [0, 3, 4] (Q [Q [.reg [m 10 4, m 11 0, lq 12 11, bt 13 .lss 10 12] [0, 3, 4, 13],
       C 13 (.skip) (.exit 0)],
      .block 1 (Q [.reg [m 16 0, m 17 4, ia 18 16 17 5, fa 19 18 0, l1 20 19, o1 21 (.bld [.int .i64 0, .str [], .nil 2, .str [], .nil 5] [(0, 1, (.t 20))]), o1 5 (.alc [.int .i64 0, .str [], .nil 2, .str [], .nil 5]), st 5 5 21] [0, 3, 4, 5],
        Q [.reg [fa 22 5 0, l1 23 22, bi 24 .lss 23 1, m 25 24, gf 25 (fa 26 5 0), gf 25 (l1 27 26), gf 25 (bi 28 .gtr 27 3), po 29 25 28] [0, 3, 4, 5, 29],
         C 29 (.reg [fa 30 5 0, o0 (.st 1 (.t 30) (.v (.int .i64 1)))] [0, 3, 4, 5]) (.skip)],
        Q [.reg [fa 31 5 0, l1 32 31, bi 33 .neq 32 1] [0, 3, 4, 5, 33],
         C 33 (Q [.reg [m 34 0, m 35 4, ia 36 34 35 5, fa 37 36 3, l1 38 37, o1 39 (.s2b (.t 38)), ca 40 59 [39], fa 41 5 3, st 1 41 40] [0, 3, 4, 5],
           .reg [m 42 3, la 43 5 5, o1 44 (.lit 5 [.t 43]), o1 45 (.app (.t 42) (.t 44) 50 5 88), m 3 45] [0, 3, 4],
           .exit 1]) (.skip)],
        .reg [m 46 0, m 47 4, ia 48 46 47 5, fa 49 48 1, l1 50 49, ca 51 60 [50], fa 52 5 1, st 1 52 51] [0, 3, 4, 5],
        Q [.reg [mi 6 0] [0, 3, 4, 5, 6],
         .block 2 (.loop [0, 3, 4, 5, 6] (Q [Q [.reg [m 53 6, m 54 0, m 55 4, ia 56 54 55 5, fa 57 56 2, l1 58 57, lq 59 58, bt 60 .lss 53 59] [0, 3, 4, 5, 6, 60],
             C 60 (.skip) (.exit 2)],
            .block 3 (Q [.regD [m 63 0, m 64 4, ia 65 63 64 5, fa 66 65 2, l1 67 66, m 68 6, ia 69 67 68 2, fa 70 69 0, l1 71 70, ca 72 61 [71], m 73 0, m 74 4, ia 75 73 74 5, fa 76 75 2, l1 77 76, m 78 6, ia 79 77 78 2, fa 80 79 1, l1 81 80, o1 82 (.s2b (.t 81)), ca 83 59 [82], o1 84 (.bld [.str [], .str []] [(0, 1, (.t 72)), (1, 1, (.t 83))]), o1 7 (.alc [.str [], .str []]), st 2 7 84] [0, 3, 4, 5, 6, 7],
              .reg [la 86 5 5, fa 87 7 0, l1 88 87, ca 89 62 [86, 88], m 85 89, ex 90 85 0, ex 91 85 1, m 8 90, m 9 91] [0, 3, 4, 5, 6, 7, 9],
              .reg [m 92 9, nt' 93 92] [0, 3, 4, 5, 6, 7, 93],
              C 93 (.reg [fa 94 5 2, l1 95 94, la 96 7 2, o1 97 (.lit 2 [.t 96]), o1 98 (.app (.t 95) (.t 97) 53 2 32), fa 99 5 2, st 1 99 98] [0, 3, 4, 5, 6]) (.skip)]),
            .reg [m 61 6, bi 62 .add 61 1, m 6 62] [0, 3, 4, 5, 6]]))],
        .reg [m 100 0, m 101 4, ia 102 100 101 5, fa 103 102 4, l1 104 103, ca 105 40 [104], fa 106 5 4, st 1 106 105] [0, 3, 4, 5],
        .reg [m 107 3, la 108 5 5, o1 109 (.lit 5 [.t 108]), o1 110 (.app (.t 107) (.t 109) 50 5 88), m 3 110] [0, 3, 4]]),
      .reg [m 14 4, bi 15 .add 14 1, m 4 15] [0, 3, 4]]))],
  .reg [m 111 3, ca 112 39 [111], m 2 112] [2],
  .ret]
theorem i_ref03_good : image Tryz.prog Tryz.f40 [[0], [0, 3], [0, 3, 4], [0, 3, 4], [0, 3, 4, 13], [0, 3, 4, 5], [0, 3, 4, 5, 29], [0, 3, 4, 5], [0, 3, 4, 5, 33], [0, 3, 4, 5], [0, 3, 4], [0, 3, 4, 5], [0, 3, 4, 5, 6], [0, 3, 4, 5, 6], [0, 3, 4, 5, 6, 60], [0, 0, 0, 3, 7, 15, 0, 63, 127, 255, 511, 0, 0, 3072, 7168, 15360, 0, 64512, 130048, 261120, 523264, 1048575, 2097151, 0, 8388607], [0, 1, 2, 3, 4, 5, 6, 7, 8, 9, 10, 11, 12, 13, 14, 15, 16, 17, 18, 19, 20, 21, 22, 23], [0, 3, 4, 5, 6, 7], [0, 3, 4, 5, 6, 7, 9], [0, 3, 4, 5, 6, 7, 93], [0, 3, 4, 5, 6], [0, 3, 4, 5, 6], [0, 3, 4, 5], [0, 3, 4], [0, 3, 4], [2]] 1 = some (c_ref03_good, [.t 2]) := by kernel_rfl

abbrev n_ref03_Good : Nat := 22
theorem h_ref03_Good : Tryz.prog.funcs[22]? = some Tryz.f22 := Tryz.func22
def c_ref03_Good : AC :=
  Q [.reg [mv 2 (.nil 5)] [0],
  .reg [m 3 0, ca 4 41 [3], ca 5 40 [4], m 2 5] [2],
  .ret]
theorem i_ref03_Good : image Tryz.prog Tryz.f22 [[0], [2]] 1 = some (c_ref03_Good, [.t 2]) := by kernel_rfl

abbrev n_ref06_has : Nat := 37
theorem h_ref06_has : Tryz.prog.funcs[37]? = some Tryz.f37 := Tryz.func37
def c_ref06_has : AC :=
  Q [.reg [mb 4 false] [0, 1],
  Q [.reg [mi 5 0] [0, 1, 5],
   .block 0 (.loop [0, 1, 5] (Q [Q [.reg [m 6 5, m 7 1, ls 8 7, bt 9 .add 6 8, m 10 0, ls 11 10, bt 12 .leq 9 11] [0, 1, 5, 12],
       C 12 (.skip) (.exit 0)],
      .block 1 (Q [.reg [m 15 0, m 16 5, m 17 5, m 18 1, ls 19 18, bt 20 .add 17 19, o1 21 (.sls (.t 15) (some (.t 16)) (some (.t 20))), m 22 1, bt 23 .eql 21 22] [0, 1, 5, 23],
        C 23 (Q [.reg [mb 4 true] [4],
          .ret]) (.skip)]),
      .reg [m 13 5, bi 14 .add 13 1, m 5 14] [0, 1, 5]]))],
  .reg [mb 4 false] [4],
  .ret]
theorem i_ref06_has : image Tryz.prog Tryz.f37 [[0, 1], [0, 1, 5], [0, 1, 5], [0, 1, 5, 12], [0, 1, 5, 23], [4], [0, 1, 5], [4]] 2 = some (c_ref06_has, [.t 4]) := by kernel_rfl

abbrev n_ref01_Fold : Nat := 92
theorem h_ref01_Fold : Tryz.prog.funcs[92]? = some Tryz.f92 := Tryz.func92
def c_ref01_Fold : AC :=
  Q [.reg [mv 2 (.str [])] [0],
  .reg [mv 3 (.nil 1)] [0, 3],
  Q [.reg [mi 4 0] [0, 3, 4],
   .block 0 (.loop [0, 3, 4] (Q [Q [.reg [m 6 4, m 7 0, ls 8 7, bt 9 .lss 6 8] [0, 3, 4, 9],
       C 9 (.skip) (.exit 0)],
      .block 1 (Q [.reg [m 12 0, m 13 4, ix 14 12 13, m 5 14] [0, 3, 4, 5],
        Q [.reg [m 15 5, bu 16 .geq 15 65, m 17 16, gt 17 (m 18 5), gt 17 (bu 19 .leq 18 90), pa 20 17 19] [0, 3, 4, 5, 20],
         C 20 (.reg [m 21 5, bu 22 .add 21 32, m 5 22] [0, 3, 4, 5]) (.skip)],
        .reg [m 23 3, m 24 5, o1 25 (.lit 1 [.t 24]), o1 26 (.app (.t 23) (.t 25) 5 1 1), m 3 26] [0, 3, 4]]),
      .reg [m 10 4, bi 11 .add 10 1, m 4 11] [0, 3, 4]]))],
  .reg [m 27 3, o1 28 (.b2s (.t 27)), m 2 28] [2],
  .ret]
theorem i_ref01_Fold : image Tryz.prog Tryz.f92 [[0], [0, 3], [0, 3, 4], [0, 3, 4], [0, 3, 4, 9], [0, 3, 4, 5], [0, 3, 4, 5, 20], [0, 3, 4, 5], [0, 3, 4], [0, 3, 4], [2]] 1 = some (c_ref01_Fold, [.t 2]) := by kernel_rfl

abbrev n_ref05_blank : Nat := 93
theorem h_ref05_blank : Tryz.prog.funcs[93]? = some Tryz.f93 := Tryz.func93
def c_ref05_blank : AC :=
  Q [.reg [mb 2 false] [0],
  .reg [m 3 0, bu 4 .eql 3 9, m 5 4, gf 5 (m 6 0), gf 5 (bu 7 .eql 6 10), po 8 5 7, m 9 8, gf 9 (m 10 0), gf 9 (bu 11 .eql 10 12), po 12 9 11, m 13 12, gf 13 (m 14 0), gf 13 (bu 15 .eql 14 32), po 16 13 15, m 2 16] [2],
  .ret]
theorem i_ref05_blank : image Tryz.prog Tryz.f93 [[0], [2]] 1 = some (c_ref05_blank, [.t 2]) := by kernel_rfl

abbrev n_ref05_Ends : Nat := 75
theorem h_ref05_Ends : Tryz.prog.funcs[75]? = some Tryz.f75 := Tryz.func75
def c_ref05_Ends : AC :=
  Q [.reg [mi 4 0] [0, 1],
  .reg [m 8 1, ls 9 8, o1 10 (.bin .add (.v (.int .i64 2)) (.t 9)), m 5 10] [0, 1, 5],
  Q [.reg [mi 6 0] [0, 1, 5, 6],
   .block 0 (.loop [0, 1, 5, 6] (Q [Q [.reg [m 11 6, m 12 5, bt 13 .add 11 12, m 14 0, ls 15 14, bt 16 .lss 13 15] [0, 1, 5, 6, 16],
       C 16 (.skip) (.exit 0)],
      .block 1 (Q [.reg [m 19 0, m 20 6, m 21 5, bt 22 .add 20 21, ix 23 19 22, m 7 23] [0, 1, 5, 6, 7],
        .reg [m 24 0, m 25 6, m 26 6, m 27 5, bt 28 .add 26 27, o1 29 (.sls (.t 24) (some (.t 25)) (some (.t 28))), ca 30 92 [29], m 31 1, o1 32 (.bin .add (.v (.str [60, 47])) (.t 31)), bt 33 .eql 30 32, m 34 33, gt 34 (m 35 7), gt 34 (ca 36 93 [35]), gt 34 (m 37 36), gf 37 (m 38 7), gf 37 (bu 39 .eql 38 47), gt 34 (po 40 37 39), gt 34 (m 41 40), gf 41 (m 42 7), gf 41 (bu 43 .eql 42 62), gt 34 (po 44 41 43), pa 45 34 44] [0, 1, 5, 6, 45],
        C 45 (Q [.reg [m 46 6, m 4 46] [4],
          .ret]) (.skip)]),
      .reg [m 17 6, bi 18 .add 17 1, m 6 18] [0, 1, 5, 6]]))],
  .reg [mi 4 (-1)] [4],
  .ret]
theorem i_ref05_Ends : image Tryz.prog Tryz.f75 [[0, 1], [0, 1, 5], [0, 1, 5, 6], [0, 1, 5, 6], [0, 1, 5, 6, 16], [0, 1, 5, 6, 7], [0, 1, 5, 6, 45], [4], [0, 1, 5, 6], [4]] 2 = some (c_ref05_Ends, [.t 4]) := by kernel_rfl

abbrev n_ref06_Fits : Nat := 58
theorem h_ref06_Fits : Tryz.prog.funcs[58]? = some Tryz.f58 := Tryz.func58
def c_ref06_Fits : AC :=
  Q [.reg [bx 3 1, mb 4 false] [0, 3],
  .reg [m 8 0, ca 9 54 [8], m 5 9] [0, 3, 5],
  .reg [m 10 0, ca 11 55 [10], m 6 11] [0, 3, 5, 6],
  Q [.reg [m 12 5] [0, 3, 6, 12],
   C 12 (Q [.reg [mb 4 false] [4],
     .ret]) (.skip)],
  Q [.reg [m 13 6] [0, 3, 13],
   C 13 (Q [.regD [fa 14 3 0, l1 15 14, bi 16 .eql 15 2, m 17 16, gt 17 (fa 18 3 3), gt 17 (l1 19 18), gt 17 (bs 20 .add 19 [60, 47]), gt 17 (m 21 0), gt 17 (bt 22 .add 20 21), gt 17 (bs 23 .add 22 [62]), gt 17 (m 24 0), gt 17 (ca 25 75 [23, 24]), gt 17 (fa 26 3 3), gt 17 (l1 27 26), gt 17 (ls 28 27), gt 17 (bt 29 .eql 25 28), pa 30 17 29, m 4 30] [4],
     .ret]) (.skip)],
  .reg [m 31 0, fa 32 3 1, l1 33 32, ca 34 56 [31, 33], m 7 34] [3, 7],
  .reg [fa 35 3 0, l1 36 35, bi 37 .neq 36 1, m 38 37, gf 38 (m 39 7), gf 38 (nt' 40 39), po 41 38 40, m 4 41] [4],
  .ret]
theorem i_ref06_Fits : image Tryz.prog Tryz.f58 [[0, 3], [0, 3, 5], [0, 3, 5, 6], [0, 3, 6, 12], [4], [0, 3, 13], [0, 0, 1, 3, 7, 15, 31, 63, 15, 255, 511, 15, 2047, 15, 4111, 12303, 32767, 65535, 131071], [0, 1, 2, 3, 4, 5, 6, 7, 8, 9, 10, 11, 12, 13, 14, 15, 16, 17], [4], [3, 7], [4]] 2 = some (c_ref06_Fits, [.t 4]) := by kernel_rfl

abbrev n_ref06_fitting : Nat := 38
theorem h_ref06_fitting : Tryz.prog.funcs[38]? = some Tryz.f38 := Tryz.func38
def c_ref06_fitting : AC :=
  Q [.reg [mv 4 (.nil 5)] [0, 1],
  .reg [mv 5 (.nil 5)] [0, 1, 5],
  Q [.reg [mi 6 0] [0, 1, 5, 6],
   .block 0 (.loop [0, 1, 5, 6] (Q [Q [.reg [m 8 6, m 9 1, lq 10 9, bt 11 .lss 8 10] [0, 1, 5, 6, 11],
       C 11 (.skip) (.exit 0)],
      .block 1 (Q [.reg [m 14 0, m 15 1, m 16 6, ia 17 15 16 5, la 18 17 5, ca 19 58 [14, 18], m 7 19] [0, 1, 5, 6, 7],
        .reg [m 20 7] [0, 1, 5, 6, 20],
        C 20 (.reg [m 21 5, m 22 1, m 23 6, ia 24 22 23 5, la 25 24 5, o1 26 (.lit 5 [.t 25]), o1 27 (.app (.t 21) (.t 26) 50 5 88), m 5 27] [0, 1, 5, 6]) (.skip)]),
      .reg [m 12 6, bi 13 .add 12 1, m 6 13] [0, 1, 5, 6]]))],
  .reg [m 28 5, m 4 28] [4],
  .ret]
theorem i_ref06_fitting : image Tryz.prog Tryz.f38 [[0, 1], [0, 1, 5], [0, 1, 5, 6], [0, 1, 5, 6], [0, 1, 5, 6, 11], [0, 1, 5, 6, 7], [0, 1, 5, 6, 20], [0, 1, 5, 6], [0, 1, 5, 6], [4]] 2 = some (c_ref06_fitting, [.t 4]) := by kernel_rfl

abbrev n_ref06_Steady : Nat := 21
theorem h_ref06_Steady : Tryz.prog.funcs[21]? = some Tryz.f21 := Tryz.func21
def c_ref06_Steady : AC :=
  Q [.reg [mv 2 (.nil 5)] [0],
  .reg [mv 3 (.nil 5)] [0, 3],
  Q [.reg [mi 4 0] [0, 3, 4],
   .block 0 (.loop [0, 3, 4] (Q [Q [.reg [m 6 4, m 7 0, lq 8 7, bt 9 .lss 6 8] [0, 3, 4, 9],
       C 9 (.skip) (.exit 0)],
      .block 1 (Q [.reg [m 12 0, m 13 4, ia 14 12 13 5, la 15 14 5, o1 5 (.alc [.int .i64 0, .str [], .nil 2, .str [], .nil 5]), st 5 5 15] [0, 3, 4, 5],
        Q [.reg [fa 16 5 0, l1 17 16, bi 18 .eql 17 3, m 19 18, gt 19 (fa 20 5 3), gt 19 (l1 21 20), gt 19 (o1 22 (.call 37 [.t 21, .v (.str [45, 45, 62])])), pa 23 19 22] [0, 3, 4, 5, 23],
         C 23 (.exit 1) (.skip)],
        Q [.reg [fa 24 5 0, l1 25 24, bi 26 .eql 25 1] [0, 3, 4, 5, 26],
         C 26 (.regD [fa 27 5 1, l1 28 27, fa 29 5 1, l1 30 29, fa 31 5 4, l1 32 31, ca 33 38 [30, 32], ca 34 21 [33], ca 35 38 [28, 34], fa 36 5 4, st 1 36 35] [0, 3, 4, 5]) (.skip)],
        .reg [m 37 3, la 38 5 5, o1 39 (.lit 5 [.t 38]), o1 40 (.app (.t 37) (.t 39) 50 5 88), m 3 40] [0, 3, 4]]),
      .reg [m 10 4, bi 11 .add 10 1, m 4 11] [0, 3, 4]]))],
  .reg [m 41 3, ca 42 39 [41], m 2 42] [2],
  .ret]
theorem i_ref06_Steady : image Tryz.prog Tryz.f21 [[0], [0, 3], [0, 3, 4], [0, 3, 4], [0, 3, 4, 9], [0, 3, 4, 5], [0, 3, 4, 5, 23], [0, 3, 4, 5, 26], [0, 0, 1, 0, 4, 0, 16, 60, 124, 255, 511, 1023], [0, 1, 2, 3, 4, 5, 6, 7, 8, 9, 10], [0, 3, 4, 5], [0, 3, 4], [0, 3, 4], [2]] 1 = some (c_ref06_Steady, [.t 2]) := by kernel_rfl

abbrev n_ref06_Good : Nat := 7
theorem h_ref06_Good : Tryz.prog.funcs[7]? = some Tryz.f7 := Tryz.func7
def c_ref06_Good : AC :=
  Q [.reg [mv 2 (.nil 5)] [0],
  .reg [m 3 0, ca 4 22 [3], ca 5 21 [4], m 2 5] [2],
  .ret]
theorem i_ref06_Good : image Tryz.prog Tryz.f7 [[0], [2]] 1 = some (c_ref06_Good, [.t 2]) := by kernel_rfl

abbrev n_ref03_element : Nat := 80
theorem h_ref03_element : Tryz.prog.funcs[80]? = some Tryz.f80 := Tryz.func80
def c_ref03_element : AC :=
  Q [.reg [bx 1 0, mi 2 0] [1],
  .reg [fa 9 1 1, l1 10 9, ca 11 33 [10], m 3 11] [1, 3],
  Q [.reg [fa 12 1 3, l1 13 12, bs 14 .neq 13 []] [1, 3, 14],
   C 14 (Q [.reg [mi 2 7] [2],
     .ret]) (.skip)],
  Q [.reg [m 15 3, nt' 16 15] [1, 16],
   C 16 (Q [.reg [mi 2 4] [2],
     .ret]) (.skip)],
  Q [.reg [mi 4 0] [1, 4],
   .block 0 (.loop [1, 4] (Q [Q [.reg [m 17 4, fa 18 1 2, l1 19 18, lq 20 19, bt 21 .lss 17 20] [1, 4, 21],
       C 21 (.skip) (.exit 0)],
      .block 1 (Q [.reg [fa 24 1 2, l1 25 24, m 26 4, ia 27 25 26 2, fa 28 27 0, l1 29 28, ca 30 78 [29], m 5 30] [1, 4, 5],
        Q [.reg [m 31 5, nt' 32 31] [1, 4, 32],
         C 32 (Q [.reg [mi 2 4] [2],
           .ret]) (.skip)],
        .reg [mi 6 0] [1, 4, 6],
        .block 2 (.loop [1, 4, 6] (Q [Q [.reg [m 33 6, m 34 4, bt 35 .lss 33 34] [1, 4, 6, 35],
            C 35 (.skip) (.exit 2)],
           .block 3 (Q [.regD [fa 38 1 2, l1 39 38, m 40 6, ia 41 39 40 2, fa 42 41 0, l1 43 42, fa 44 1 2, l1 45 44, m 46 4, ia 47 45 46 2, fa 48 47 0, l1 49 48, bt 50 .eql 43 49] [1, 4, 6, 50],
             C 50 (Q [.reg [mi 2 5] [2],
               .ret]) (.skip)]),
           .reg [m 36 6, bi 37 .add 36 1, m 6 37] [1, 4, 6]]))]),
      .reg [m 22 4, bi 23 .add 22 1, m 4 23] [1, 4]]))],
  Q [.reg [mi 7 0] [1, 7],
   .block 4 (.loop [1, 7] (Q [Q [.reg [m 51 7, fa 52 1 2, l1 53 52, lq 54 53, bt 55 .lss 51 54] [1, 7, 55],
       C 55 (.skip) (.exit 4)],
      .block 5 (Q [.reg [fa 58 1 2, l1 59 58, m 60 7, ia 61 59 60 2, fa 62 61 1, l1 63 62, ca 64 81 [63], m 8 64] [1, 7, 8],
        .reg [m 65 8, nt' 66 65] [1, 7, 66],
        C 66 (Q [.reg [mi 2 2] [2],
          .ret]) (.skip)]),
      .reg [m 56 7, bi 57 .add 56 1, m 7 57] [1, 7]]))],
  .reg [mi 2 0] [2],
  .ret]
theorem i_ref03_element : image Tryz.prog Tryz.f80 [[1], [1, 3], [1, 3, 14], [2], [1, 16], [2], [1, 4], [1, 4], [1, 4, 21], [1, 4, 5], [1, 4, 32], [2], [1, 4, 6], [1, 4, 6], [1, 4, 6, 35], [0, 0, 1, 0, 7, 15, 31, 0, 64, 0, 448, 960, 1984, 4095], [0, 1, 2, 3, 4, 5, 6, 7, 8, 9, 10, 11, 12], [1, 4, 6, 50], [2], [1, 4, 6], [1, 4], [1, 7], [1, 7], [1, 7, 55], [1, 7, 8], [1, 7, 66], [2], [1, 7], [2]] 1 = some (c_ref03_element, [.t 2]) := by kernel_rfl

abbrev n_ref03_one : Nat := 64
theorem h_ref03_one : Tryz.prog.funcs[64]? = some Tryz.f64 := Tryz.func64
def c_ref03_one : AC :=
  Q [.reg [bx 2 0, mi 4 0] [1, 2],
  Q [.reg [fa 6 2 0, l1 7 6, bi 8 .eql 7 1] [1, 2, 8],
   C 8 (Q [.reg [la 9 2 5, ca 10 80 [9], m 4 10] [4],
     .ret]) (.skip)],
  Q [.reg [fa 11 2 0, l1 12 11, bi 13 .neq 12 2, m 14 13, gt 14 (fa 15 2 0), gt 14 (l1 16 15), gt 14 (bi 17 .neq 16 3), pa 18 14 17] [1, 2, 18],
   C 18 (Q [.reg [mi 4 7] [4],
     .ret]) (.skip)],
  Q [.reg [fa 19 2 1, l1 20 19, bs 21 .neq 20 [], m 22 21, gf 22 (fa 23 2 2), gf 22 (l1 24 23), gf 22 (lq 25 24), gf 22 (bi 26 .gtr 25 0), po 27 22 26, m 28 27, gf 28 (fa 29 2 4), gf 28 (l1 30 29), gf 28 (lq 31 30), gf 28 (bi 32 .gtr 31 0), po 33 28 32] [1, 2, 33],
   C 33 (Q [.reg [mi 4 7] [4],
     .ret]) (.skip)],
  .reg [fa 34 2 3, l1 35 34, ca 36 81 [35], m 5 36] [1, 2, 5],
  Q [.reg [m 37 5, nt' 38 37, m 39 38, gf 39 (fa 40 2 0), gf 39 (l1 41 40), gf 39 (bi 42 .eql 41 2), gf 39 (m 43 42), gt 43 (fa 44 2 3), gt 43 (l1 45 44), gt 43 (bs 46 .eql 45 []), gt 43 (m 47 46), gf 47 (m 48 1), gt 43 (po 49 47 48), gf 39 (pa 50 43 49), po 51 39 50] [51],
   C 51 (Q [.reg [mi 4 2] [4],
     .ret]) (.skip)],
  .reg [mi 4 0] [4],
  .ret]
theorem i_ref03_one : image Tryz.prog Tryz.f64 [[1, 2], [1, 2, 8], [4], [1, 2, 18], [4], [1, 2, 33], [4], [1, 2, 5], [51], [4], [4]] 2 = some (c_ref03_one, [.t 4]) := by kernel_rfl

abbrev n_ref03_May : Nat := 42
theorem h_ref03_May : Tryz.prog.funcs[42]? = some Tryz.f42 := Tryz.func42
def c_ref03_May : AC :=
  Q [.reg [mi 2 0] [0],
  Q [.reg [mi 3 0] [0, 3],
   .block 0 (.loop [0, 3] (Q [Q [.reg [m 5 3, m 6 0, lq 7 6, bt 8 .lss 5 7] [0, 3, 8],
       C 8 (.skip) (.exit 0)],
      .block 1 (Q [.regD [m 11 0, m 12 3, ia 13 11 12 5, la 14 13 5, m 15 3, bi 16 .gtr 15 0, m 17 16, gt 17 (m 18 0), gt 17 (m 19 3), gt 17 (bi 20 .sub 19 1), gt 17 (ia 21 18 20 5), gt 17 (fa 22 21 0), gt 17 (l1 23 22), gt 17 (bi 24 .eql 23 2), pa 25 17 24, ca 26 64 [14, 25], m 4 26] [0, 3, 4],
        Q [.reg [m 27 4, bi 28 .neq 27 0] [0, 3, 4, 28],
         C 28 (Q [.reg [m 29 4, m 2 29] [2],
           .ret]) (.skip)],
        .reg [m 30 0, m 31 3, ia 32 30 31 5, fa 33 32 4, l1 34 33, ca 35 42 [34], m 4 35] [0, 3, 4],
        .reg [m 36 4, bi 37 .neq 36 0] [0, 3, 4, 37],
        C 37 (Q [.reg [m 38 4, m 2 38] [2],
          .ret]) (.skip)]),
      .reg [m 9 3, bi 10 .add 9 1, m 3 10] [0, 3]]))],
  .reg [mi 2 0] [2],
  .ret]
theorem i_ref03_May : image Tryz.prog Tryz.f42 [[0], [0, 3], [0, 3], [0, 3, 8], [0, 0, 0, 3, 7, 0, 16, 48, 112, 112, 368, 1008, 2032, 4080, 8176, 16368, 32767, 65535], [0, 1, 2, 3, 4, 5, 6, 7, 8, 9, 10, 11, 12, 13, 14, 15, 16], [0, 3, 4], [0, 3, 4, 28], [2], [0, 3, 4], [0, 3, 4, 37], [2], [0, 3], [2]] 1 = some (c_ref03_May, [.t 2]) := by kernel_rfl

abbrev n_ref06_all : Nat := 43
theorem h_ref06_all : Tryz.prog.funcs[43]? = some Tryz.f43 := Tryz.func43
def c_ref06_all : AC :=
  Q [.reg [mb 2 false] [0],
  Q [.reg [mi 3 0] [0, 3],
   .block 0 (.loop [0, 3] (Q [Q [.reg [m 7 3, m 8 0, lq 9 8, bt 10 .lss 7 9] [0, 3, 10],
       C 10 (.skip) (.exit 0)],
      .block 1 (Q [Q [.reg [m 13 0, m 14 3, ia 15 13 14 5, fa 16 15 0, l1 17 16, bi 18 .eql 17 3, m 19 18, gt 19 (m 20 0), gt 19 (m 21 3), gt 19 (ia 22 20 21 5), gt 19 (fa 23 22 3), gt 19 (l1 24 23), gt 19 (o1 25 (.call 37 [.t 24, .v (.str [45, 45, 62])])), pa 26 19 25] [0, 3, 26],
         C 26 (Q [.reg [mb 2 false] [2],
           .ret]) (.skip)],
        Q [.reg [mi 4 0] [0, 3, 4],
         .block 2 (.loop [0, 3, 4] (Q [Q [.reg [m 27 4, m 28 0, m 29 3, ia 30 28 29 5, fa 31 30 4, l1 32 31, lq 33 32, bt 34 .lss 27 33] [0, 3, 4, 34],
             C 34 (.skip) (.exit 2)],
            .block 3 (Q [.regD [m 37 0, m 38 3, ia 39 37 38 5, fa 40 39 1, l1 41 40, m 42 0, m 43 3, ia 44 42 43 5, fa 45 44 4, l1 46 45, m 47 4, ia 48 46 47 5, la 49 48 5, ca 50 58 [41, 49], m 5 50] [0, 3, 4, 5],
              .reg [m 51 5, nt' 52 51] [0, 3, 4, 52],
              C 52 (Q [.reg [mb 2 false] [2],
                .ret]) (.skip)]),
            .reg [m 35 4, bi 36 .add 35 1, m 4 36] [0, 3, 4]]))],
        .reg [m 53 0, m 54 3, ia 55 53 54 5, fa 56 55 4, l1 57 56, ca 58 43 [57], m 6 58] [0, 3, 6],
        .reg [m 59 6, nt' 60 59] [0, 3, 60],
        C 60 (Q [.reg [mb 2 false] [2],
          .ret]) (.skip)]),
      .reg [m 11 3, bi 12 .add 11 1, m 3 12] [0, 3]]))],
  .reg [mb 2 true] [2],
  .ret]
theorem i_ref06_all : image Tryz.prog Tryz.f43 [[0], [0, 3], [0, 3], [0, 3, 10], [0, 3, 26], [2], [0, 3, 4], [0, 3, 4], [0, 3, 4, 34], [0, 0, 0, 3, 7, 15, 0, 0, 96, 224, 480, 0, 2016, 4064, 8191, 16383], [0, 1, 2, 3, 4, 5, 6, 7, 8, 9, 10, 11, 12, 13, 14], [0, 3, 4, 5], [0, 3, 4, 52], [2], [0, 3, 4], [0, 3, 6], [0, 3, 60], [2], [0, 3], [2]] 1 = some (c_ref06_all, [.t 2]) := by kernel_rfl

abbrev n_ref06_Stable : Nat := 23
theorem h_ref06_Stable : Tryz.prog.funcs[23]? = some Tryz.f23 := Tryz.func23
def c_ref06_Stable : AC :=
  Q [.reg [mb 2 false] [0],
  .reg [m 3 0, ca 4 42 [3], bi 5 .eql 4 0, m 6 5, gt 6 (m 7 0), gt 6 (ca 8 43 [7]), pa 9 6 8, m 2 9] [2],
  .ret]
theorem i_ref06_Stable : image Tryz.prog Tryz.f23 [[0], [2]] 1 = some (c_ref06_Stable, [.t 2]) := by kernel_rfl

abbrev n_ref13_List : Nat := 82
theorem h_ref13_List : Tryz.prog.funcs[82]? = some Tryz.f82 := Tryz.func82
def c_ref13_List : AC :=
  Q [.reg [bx 2 0, mv 4 (.nil 1)] [1, 2],
  Q [.reg [m 7 1, bs 8 .eql 7 []] [1, 2, 8],
   C 8 (Q [.reg [fa 9 2 0, l1 10 9, m 4 10] [4],
     .ret]) (.skip)],
  .reg [la 12 2 3, m 13 1, ca 14 14 [12, 13], m 11 14, ex 15 11 0, ex 16 11 1, o1 5 (.alc [.str [], .nil 1, .nil 5]), st 3 5 15, m 6 16] [5],
  .reg [fa 17 5 1, l1 18 17, m 4 18] [4],
  .ret]
theorem i_ref13_List : image Tryz.prog Tryz.f82 [[1, 2], [1, 2, 8], [4], [5], [4]] 2 = some (c_ref13_List, [.t 4]) := by kernel_rfl

abbrev n_ref13_Inside : Nat := 65
theorem h_ref13_Inside : Tryz.prog.funcs[65]? = some Tryz.f65 := Tryz.func65
def c_ref13_Inside : AC :=
  Q [.reg [bx 3 0, bx 5 2, mb 6 false] [1, 3, 5],
  .reg [la 8 3 3, m 9 1, ca 10 82 [8, 9], m 7 10] [5, 7],
  Q [.reg [fa 11 5 0, l1 12 11, bi 13 .eql 12 2] [5, 7, 13],
   C 13 (Q [.reg [m 14 7, o1 15 (.call 17 [.t 14, .v (.str [35, 116, 101, 120, 116])]), m 6 15] [6],
     .ret]) (.skip)],
  Q [.reg [fa 16 5 0, l1 17 16, bi 18 .eql 17 3] [5, 7, 18],
   C 18 (Q [.reg [m 19 7, o1 20 (.call 17 [.t 19, .v (.str [35, 99, 111, 109, 109, 101, 110, 116])]), m 6 20] [6],
     .ret]) (.skip)],
  .reg [fa 21 5 0, l1 22 21, bi 23 .eql 22 1, m 24 23, gt 24 (m 25 7), gt 24 (fa 26 5 1), gt 24 (l1 27 26), gt 24 (ca 28 17 [25, 27]), pa 29 24 28, m 6 29] [6],
  .ret]
theorem i_ref13_Inside : image Tryz.prog Tryz.f65 [[1, 3, 5], [5, 7], [5, 7, 13], [6], [5, 7, 18], [6], [6]] 3 = some (c_ref13_Inside, [.t 6]) := by kernel_rfl

abbrev n_ref13_Fits : Nat := 117
theorem h_ref13_Fits : Tryz.prog.funcs[117]? = some Tryz.f117 := Tryz.func117
def c_ref13_Fits : AC :=
  Q [.reg [mb 4 false] [0, 1],
  .reg [m 9 0, ca 10 35 [9], m 8 10, ex 11 8 0, ex 12 8 1, m 5 11, m 6 12] [1, 5, 6],
  .reg [m 13 5, ca 14 13 [13], m 7 14] [1, 5, 6, 7],
  Q [.reg [m 15 7, nt' 16 15] [1, 5, 6, 16],
   C 16 (Q [.reg [mb 4 false] [4],
     .ret]) (.skip)],
  Q [.reg [m 17 6, nt' 18 17] [1, 5, 18],
   C 18 (Q [.reg [m 19 1, m 20 5, bt 21 .eql 19 20, m 4 21] [4],
     .ret]) (.skip)],
  .reg [m 22 1, ls 23 22, m 24 5, ls 25 24, bt 26 .geq 23 25, m 27 26, gt 27 (m 28 1), gt 27 (m 29 5), gt 27 (ls 30 29), gt 27 (o1 31 (.sls (.t 28) none (some (.t 30)))), gt 27 (m 32 5), gt 27 (bt 33 .eql 31 32), pa 34 27 33, m 4 34] [4],
  .ret]
theorem i_ref13_Fits : image Tryz.prog Tryz.f117 [[0, 1], [1, 5, 6], [1, 5, 6, 7], [1, 5, 6, 16], [4], [1, 5, 18], [4], [4]] 2 = some (c_ref13_Fits, [.t 4]) := by kernel_rfl

abbrev n_ref13_Rule : Nat := 109
theorem h_ref13_Rule : Tryz.prog.funcs[109]? = some Tryz.f109 := Tryz.func109
def c_ref13_Rule : AC :=
  Q [.reg [bx 2 0, o1 4 (.alc [.str [], .int .i64 0, .nil 1, .str [], .bool false]), mb 5 false] [1, 2, 4],
  Q [.reg [mi 6 0] [1, 2, 4, 6],
   .block 0 (.loop [1, 2, 4, 6] (Q [Q [.reg [m 8 6, fa 9 2 2, l1 10 9, lq 11 10, bt 12 .lss 8 11] [1, 2, 4, 6, 12],
       C 12 (.skip) (.exit 0)],
      .block 1 (Q [.reg [fa 15 2 2, l1 16 15, m 17 6, ia 18 16 17 5, fa 19 18 0, l1 20 19, m 21 1, ca 22 117 [20, 21], m 7 22] [1, 2, 4, 6, 7],
        .reg [m 23 7] [1, 2, 4, 6, 23],
        C 23 (Q [.reg [fa 24 2 2, l1 25 24, m 26 6, ia 27 25 26 5, la 28 27 5, st 5 4 28, mb 5 true] [4, 5],
          .ret]) (.skip)]),
      .reg [m 13 6, bi 14 .add 13 1, m 6 14] [1, 2, 4, 6]]))],
  .reg [o1 29 (.bld [.str [], .int .i64 0, .nil 1, .str [], .bool false] []), st 5 4 29, mb 5 false] [4, 5],
  .ret]
theorem i_ref13_Rule : image Tryz.prog Tryz.f109 [[1, 2, 4], [1, 2, 4, 6], [1, 2, 4, 6], [1, 2, 4, 6, 12], [1, 2, 4, 6, 7], [1, 2, 4, 6, 23], [4, 5], [1, 2, 4, 6], [4, 5]] 2 = some (c_ref13_Rule, [.c 4 5 true, .t 5]) := by kernel_rfl

abbrev n_ref09_among : Nat := 101
theorem h_ref09_among : Tryz.prog.funcs[101]? = some Tryz.f101 := Tryz.func101
def c_ref09_among : AC :=
  Q [.reg [mb 4 false] [0, 1],
  Q [.reg [mi 5 0] [0, 1, 5],
   .block 0 (.loop [0, 1, 5] (Q [Q [.reg [m 6 5, m 7 1, ls 8 7, bt 9 .lss 6 8] [0, 1, 5, 9],
       C 9 (.skip) (.exit 0)],
      .block 1 (Q [.reg [m 12 1, m 13 5, ix 14 12 13, m 15 0, bt 16 .eql 14 15] [0, 1, 5, 16],
        C 16 (Q [.reg [mb 4 true] [4],
          .ret]) (.skip)]),
      .reg [m 10 5, bi 11 .add 10 1, m 5 11] [0, 1, 5]]))],
  .reg [mb 4 false] [4],
  .ret]
theorem i_ref09_among : image Tryz.prog Tryz.f101 [[0, 1], [0, 1, 5], [0, 1, 5], [0, 1, 5, 9], [0, 1, 5, 16], [4], [0, 1, 5], [4]] 2 = some (c_ref09_among, [.t 4]) := by kernel_rfl

abbrev n_ref09_is : Nat := 104
theorem h_ref09_is : Tryz.prog.funcs[104]? = some Tryz.f104 := Tryz.func104
def c_ref09_is : AC :=
  Q [.reg [bx 2 0, mb 4 false] [1, 2],
  .reg [fa 5 2 2, l1 6 5, fa 7 2 1, l1 8 7, ls 9 8, bt 10 .lss 6 9, m 11 10, gt 11 (fa 12 2 1), gt 11 (l1 13 12), gt 11 (fa 14 2 2), gt 11 (l1 15 14), gt 11 (ix 16 13 15), gt 11 (m 17 1), gt 11 (bt 18 .eql 16 17), pa 19 11 18, m 4 19] [4],
  .ret]
theorem i_ref09_is : image Tryz.prog Tryz.f104 [[1, 2], [4]] 2 = some (c_ref09_is, [.t 4]) := by kernel_rfl

abbrev n_ref09_signs : Nat := 125
theorem h_ref09_signs : Tryz.prog.funcs[125]? = some Tryz.f125 := Tryz.func125
def c_ref09_signs : AC :=
  Q [.reg [mv 6 (.nil 1)] [0, 1, 2],
  .reg [o1 9 (.mks 4 1 1 (.bool false) (.v (.int .i64 95))), m 7 9] [0, 1, 2, 7],
  Q [.reg [mi 8 0] [0, 1, 2, 7, 8],
   .block 0 (.loop [0, 1, 2, 7, 8] (Q [Q [.reg [m 10 8, bi 11 .lss 10 95] [0, 1, 2, 7, 8, 11],
       C 11 (.skip) (.exit 0)],
      .block 1 (.reg [m 14 7, m 15 8, m 16 8, m 17 0, lq 18 17, bt 19 .lss 16 18, m 20 19, gt 20 (m 21 0), gt 20 (m 22 8), gt 20 (ia 23 21 22 1), gt 20 (l1 24 23), pa 25 20 24, m 26 25, gf 26 (m 27 8), gf 26 (bi 28 .add 27 32), gf 26 (m 29 1), gf 26 (o1 30 (.cii .i64 (.t 29))), gf 26 (bt 31 .geq 28 30), gf 26 (m 32 31), gt 32 (m 33 8), gt 32 (bi 34 .add 33 32), gt 32 (m 35 2), gt 32 (o1 36 (.cii .i64 (.t 35))), gt 32 (bt 37 .leq 34 36), gf 26 (pa 38 32 37), po 39 26 38, ia 40 14 15 1, st 1 40 39] [0, 1, 2, 7, 8]),
      .reg [m 12 8, bi 13 .add 12 1, m 8 13] [0, 1, 2, 7, 8]]))],
  .reg [m 41 7, m 6 41] [6],
  .ret]
theorem i_ref09_signs : image Tryz.prog Tryz.f125 [[0, 1, 2], [0, 1, 2, 7], [0, 1, 2, 7, 8], [0, 1, 2, 7, 8], [0, 1, 2, 7, 8, 11], [0, 1, 2, 7, 8], [0, 1, 2, 7, 8], [6]] 3 = some (c_ref09_signs, [.t 6]) := by kernel_rfl

abbrev n_ref09_add : Nat := 103
theorem h_ref09_add : Tryz.prog.funcs[103]? = some Tryz.f103 := Tryz.func103
def c_ref09_add : AC :=
  Q [.reg [bx 2 0, bx 3 1, o1 4 (.alc [.nil 3, .str [], .int .i64 0, .bool false]), mi 5 0] [2, 3, 4],
  .reg [mv 6 (.nil 3)] [2, 3, 4, 6],
  .reg [m 7 6, fa 8 2 0, l1 9 8, o1 10 (.app (.t 7) (.t 9) 135 3 56), m 6 10] [2, 3, 4, 6],
  .reg [m 11 6, la 12 3 3, o1 13 (.lit 3 [.t 12]), o1 14 (.app (.t 11) (.t 13) 135 3 56), fa 15 2 0, st 1 15 14] [2, 4],
  .regE [[la 16 2 4, fa 17 2 0, l1 18 17, lq 19 18, bi 20 .sub 19 1, st 4 4 16, m 5 20],
     [la 16 2 4, fa 17 2 0, l1 18 17, lq 19 18, st 4 4 16, bi 20 .sub 19 1, m 5 20],
     [la 16 2 4, fa 17 2 0, l1 18 17, st 4 4 16, lq 19 18, bi 20 .sub 19 1, m 5 20],
     [la 16 2 4, fa 17 2 0, st 4 4 16, l1 18 17, lq 19 18, bi 20 .sub 19 1, m 5 20],
     [la 16 2 4, st 4 4 16, fa 17 2 0, l1 18 17, lq 19 18, bi 20 .sub 19 1, m 5 20],
     [fa 17 2 0, la 16 2 4, l1 18 17, lq 19 18, bi 20 .sub 19 1, st 4 4 16, m 5 20],
     [fa 17 2 0, la 16 2 4, l1 18 17, lq 19 18, st 4 4 16, bi 20 .sub 19 1, m 5 20],
     [fa 17 2 0, la 16 2 4, l1 18 17, st 4 4 16, lq 19 18, bi 20 .sub 19 1, m 5 20],
     [fa 17 2 0, la 16 2 4, st 4 4 16, l1 18 17, lq 19 18, bi 20 .sub 19 1, m 5 20],
     [fa 17 2 0, l1 18 17, la 16 2 4, lq 19 18, bi 20 .sub 19 1, st 4 4 16, m 5 20],
     [fa 17 2 0, l1 18 17, la 16 2 4, lq 19 18, st 4 4 16, bi 20 .sub 19 1, m 5 20],
     [fa 17 2 0, l1 18 17, la 16 2 4, st 4 4 16, lq 19 18, bi 20 .sub 19 1, m 5 20],
     [fa 17 2 0, l1 18 17, lq 19 18, la 16 2 4, bi 20 .sub 19 1, st 4 4 16, m 5 20],
     [fa 17 2 0, l1 18 17, lq 19 18, la 16 2 4, st 4 4 16, bi 20 .sub 19 1, m 5 20],
     [fa 17 2 0, l1 18 17, lq 19 18, bi 20 .sub 19 1, la 16 2 4, st 4 4 16, m 5 20]] [4, 5],
  .ret]
theorem i_ref09_add : image Tryz.prog Tryz.f103 [[2, 3, 4], [2, 3, 4, 6], [2, 3, 4, 6], [2, 4], [], [4, 5]] 2 = some (c_ref09_add, [.c 4 4 true, .t 5]) := by kernel_rfl

abbrev n_ref09_sign : Nat := 105
theorem h_ref09_sign : Tryz.prog.funcs[105]? = some Tryz.f105 := Tryz.func105
def c_ref09_sign : AC :=
  Q [.reg [mb 2 false] [0],
  .reg [m 3 0, bu 4 .geq 3 32, m 5 4, gt 5 (m 6 0), gt 5 (bu 7 .leq 6 126), pa 8 5 7, m 2 8] [2],
  .ret]
theorem i_ref09_sign : image Tryz.prog Tryz.f105 [[0], [2]] 1 = some (c_ref09_sign, [.t 2]) := by kernel_rfl

abbrev n_ref09_plain : Nat := 127
theorem h_ref09_plain : Tryz.prog.funcs[127]? = some Tryz.f127 := Tryz.func127
def c_ref09_plain : AC :=
  Q [.reg [bx 2 0, o1 4 (.alc [.nil 3, .str [], .int .i64 0, .bool false]), mv 5 (.int .u8 0)] [1, 2, 4],
  .reg [la 8 2 4, o1 9 (.call 104 [.t 8, .v (.int .u8 92)]), m 6 9] [1, 2, 4, 6],
  Q [.reg [m 10 6] [1, 2, 4, 6, 10],
   C 10 (.reg [fa 11 2 2, l1 12 11, bi 13 .add 12 1, fa 14 2 2, st 1 14 13] [1, 2, 4, 6]) (.skip)],
  Q [.reg [fa 15 2 2, l1 16 15, fa 17 2 1, l1 18 17, ls 19 18, bt 20 .geq 16 19, m 21 20, gf 21 (fa 22 2 1), gf 21 (l1 23 22), gf 21 (fa 24 2 2), gf 21 (l1 25 24), gf 21 (ix 26 23 25), gf 21 (ca 27 105 [26]), gf 21 (nt' 28 27), po 29 21 28, m 30 29, gf 30 (m 31 6), gf 30 (nt' 32 31), gf 30 (m 33 32), gt 33 (fa 34 2 1), gt 33 (l1 35 34), gt 33 (fa 36 2 2), gt 33 (l1 37 36), gt 33 (ix 38 35 37), gt 33 (m 39 1), gt 33 (ca 40 101 [38, 39]), gf 30 (pa 41 33 40), po 42 30 41] [2, 4, 42],
   C 42 (Q [.reg [fa 43 2 3, o0 (.st 1 (.t 43) (.v (.bool true)))] [2, 4],
     .reg [la 44 2 4, st 4 4 44, mv 5 (.int .u8 32)] [4, 5],
     .ret]) (.skip)],
  .reg [fa 45 2 1, l1 46 45, fa 47 2 2, l1 48 47, ix 49 46 48, m 7 49] [2, 4, 7],
  .reg [fa 50 2 2, l1 51 50, bi 52 .add 51 1, fa 53 2 2, st 1 53 52] [2, 4, 7],
  .reg [la 54 2 4, m 55 7, st 4 4 54, m 5 55] [4, 5],
  .ret]
theorem i_ref09_plain : image Tryz.prog Tryz.f127 [[1, 2, 4], [1, 2, 4, 6], [1, 2, 4, 6, 10], [1, 2, 4, 6], [2, 4, 42], [2, 4], [4, 5], [2, 4, 7], [2, 4, 7], [4, 5]] 2 = some (c_ref09_plain, [.c 4 4 true, .t 5]) := by kernel_rfl

abbrev n_ref09_class : Nat := 126
theorem h_ref09_class : Tryz.prog.funcs[126]? = some Tryz.f126 := Tryz.func126
def c_ref09_class : AC :=
  Q [.reg [bx 1 0, o1 2 (.alc [.nil 3, .str [], .int .i64 0, .bool false]), mi 3 0] [1, 2],
  .reg [la 14 1 4, o1 15 (.call 104 [.t 14, .v (.int .u8 94)]), m 4 15] [1, 2, 4],
  Q [.reg [m 16 4] [1, 2, 4, 16],
   C 16 (.reg [fa 17 1 2, l1 18 17, bi 19 .add 18 1, fa 20 1 2, st 1 20 19] [1, 2, 4]) (.skip)],
  .reg [mv 5 (.nil 1)] [1, 2, 4, 5],
  .reg [mi 6 0] [1, 2, 4, 5, 6],
  .block 0 (.loop [1, 2, 4, 5, 6] (Q [Q [.reg [fa 21 1 3, l1 22 21, nt' 23 22, m 24 23, gt 24 (m 25 6), gt 24 (bi 26 .eql 25 0), gt 24 (m 27 26), gf 27 (la 28 1 4), gf 27 (o1 29 (.call 104 [.t 28, .v (.int .u8 93)])), gf 27 (nt' 30 29), gt 24 (po 31 27 30), pa 32 24 31] [1, 2, 4, 5, 6, 32],
      C 32 (.skip) (.exit 0)],
     .block 1 (Q [.reg [m 33 6, bi 34 .add 33 1, m 6 34] [1, 2, 4, 5, 6],
       .reg [mv 7 (.int .u8 0)] [1, 2, 4, 5, 6],
       .reg [la 36 1 4, o1 37 (.call 127 [.t 36, .v (.str [92, 93, 45, 94])]), m 35 37, ex 38 35 0, ex 39 35 1, st 4 1 38, m 7 39] [1, 2, 4, 5, 6, 7],
       .reg [m 40 7, m 8 40] [1, 2, 4, 5, 6, 7, 8],
       .reg [la 41 1 4, o1 42 (.call 104 [.t 41, .v (.int .u8 45)]), m 9 42] [1, 2, 4, 5, 6, 7, 8, 9],
       Q [.reg [m 43 9] [1, 2, 4, 5, 6, 7, 8, 43],
        C 43 (Q [.reg [fa 44 1 2, l1 45 44, bi 46 .add 45 1, fa 47 1 2, st 1 47 46] [1, 2, 4, 5, 6, 7],
          .reg [la 49 1 4, o1 50 (.call 127 [.t 49, .v (.str [92, 93, 45, 94])]), m 48 50, ex 51 48 0, ex 52 48 1, st 4 1 51, m 8 52] [1, 2, 4, 5, 6, 7, 8]]) (.skip)],
       Q [.reg [m 53 7, m 54 8, bt 55 .gtr 53 54] [1, 2, 4, 5, 6, 7, 8, 55],
        C 55 (.reg [fa 56 1 3, o0 (.st 1 (.t 56) (.v (.bool true)))] [1, 2, 4, 5, 6, 7, 8]) (.skip)],
       .reg [fa 57 1 3, l1 58 57, nt' 59 58] [1, 2, 4, 5, 6, 7, 8, 59],
       C 59 (.reg [m 60 5, m 61 7, m 62 8, ca 63 125 [60, 61, 62], m 5 63] [1, 2, 4, 5, 6]) (.skip)])])),
  .reg [la 64 1 4, o1 65 (.call 104 [.t 64, .v (.int .u8 93)]), m 10 65] [1, 2, 4, 5, 10],
  Q [.reg [m 66 10, nt' 67 66] [1, 2, 4, 5, 67],
   C 67 (.reg [fa 68 1 3, o0 (.st 1 (.t 68) (.v (.bool true)))] [1, 2, 4, 5]) (.skip)],
  .reg [fa 69 1 2, l1 70 69, bi 71 .add 70 1, fa 72 1 2, st 1 72 71] [1, 2, 4, 5],
  .reg [o1 73 (.mks 4 1 1 (.bool false) (.v (.int .i64 95))), m 11 73] [1, 2, 4, 5, 11],
  Q [.reg [mi 12 0] [1, 2, 4, 5, 11, 12],
   .block 2 (.loop [1, 2, 4, 5, 11, 12] (Q [Q [.reg [m 74 12, bi 75 .lss 74 95] [1, 2, 4, 5, 11, 12, 75],
       C 75 (.skip) (.exit 2)],
      .block 3 (Q [.reg [m 78 12, m 79 5, lq 80 79, bt 81 .lss 78 80, m 82 81, gt 82 (m 83 5), gt 82 (m 84 12), gt 82 (ia 85 83 84 1), gt 82 (l1 86 85), pa 87 82 86, m 13 87] [1, 2, 4, 5, 11, 12, 13],
        .reg [m 88 11, m 89 12, m 90 13, m 91 4, o1 92 (.beq true (.t 90) (.t 91)), ia 93 88 89 1, st 1 93 92] [1, 2, 4, 5, 11, 12]]),
      .reg [m 76 12, bi 77 .add 76 1, m 12 77] [1, 2, 4, 5, 11, 12]]))],
  .reg [la 94 1 4, m 95 11, o1 96 (.bld [.int .u8 0, .nil 1, .nil 1] [(0, 1, (.v (.int .u8 115))), (1, 1, (.t 95))]), ca 97 103 [94, 96], ex 98 97 0, ex 99 97 1, st 4 2 98, m 3 99] [2, 3],
  .ret]
theorem i_ref09_class : image Tryz.prog Tryz.f126 [[1, 2], [1, 2, 4], [1, 2, 4, 16], [1, 2, 4], [1, 2, 4, 5], [1, 2, 4, 5, 6], [1, 2, 4, 5, 6], [1, 2, 4, 5, 6, 32], [1, 2, 4, 5, 6], [1, 2, 4, 5, 6], [1, 2, 4, 5, 6, 7], [1, 2, 4, 5, 6, 7, 8], [1, 2, 4, 5, 6, 7, 8, 9], [1, 2, 4, 5, 6, 7, 8, 43], [1, 2, 4, 5, 6, 7], [1, 2, 4, 5, 6, 7, 8], [1, 2, 4, 5, 6, 7, 8, 55], [1, 2, 4, 5, 6, 7, 8], [1, 2, 4, 5, 6, 7, 8, 59], [1, 2, 4, 5, 6], [1, 2, 4, 5, 10], [1, 2, 4, 5, 67], [1, 2, 4, 5], [1, 2, 4, 5], [1, 2, 4, 5, 11], [1, 2, 4, 5, 11, 12], [1, 2, 4, 5, 11, 12], [1, 2, 4, 5, 11, 12, 75], [1, 2, 4, 5, 11, 12, 13], [1, 2, 4, 5, 11, 12], [1, 2, 4, 5, 11, 12], [2, 3]] 1 = some (c_ref09_class, [.c 2 4 true, .t 3]) := by kernel_rfl

abbrev n_ref09_atom : Nat := 116
theorem h_ref09_atom : Tryz.prog.funcs[116]? = some Tryz.f116 := Tryz.func116
def c_ref09_atom : AC :=
  Q [.reg [bx 1 0, o1 2 (.alc [.nil 3, .str [], .int .i64 0, .bool false]), mi 3 0] [1, 2],
  .reg [la 12 1 4, o1 13 (.call 104 [.t 12, .v (.int .u8 40)]), m 4 13] [1, 2, 4],
  Q [.reg [m 14 4] [1, 2, 14],
   C 14 (Q [.reg [fa 15 1 2, l1 16 15, bi 17 .add 16 1, fa 18 1 2, st 1 18 17] [1, 2],
     .reg [la 20 1 4, ca 21 90 [20], m 19 21, ex 22 19 0, ex 23 19 1, o1 5 (.alc [.nil 3, .str [], .int .i64 0, .bool false]), st 4 5 22, m 6 23] [2, 5, 6],
     .reg [la 24 5 4, o1 25 (.call 104 [.t 24, .v (.int .u8 41)]), m 7 25] [2, 5, 6, 7],
     Q [.reg [m 26 7, nt' 27 26] [2, 5, 6, 27],
      C 27 (.reg [fa 28 5 3, o0 (.st 1 (.t 28) (.v (.bool true)))] [2, 5, 6]) (.skip)],
     .reg [fa 29 5 2, l1 30 29, bi 31 .add 30 1, fa 32 5 2, st 1 32 31] [2, 5, 6],
     .reg [la 33 5 4, m 34 6, st 4 2 33, m 3 34] [2, 3],
     .ret]) (.skip)],
  .reg [la 35 1 4, o1 36 (.call 104 [.t 35, .v (.int .u8 46)]), m 8 36] [1, 2, 8],
  Q [.reg [m 37 8] [1, 2, 37],
   C 37 (Q [.reg [fa 38 1 2, l1 39 38, bi 40 .add 39 1, fa 41 1 2, st 1 41 40] [1, 2],
     .regD [la 42 1 4, o1 43 (.call 125 [.v (.nil 1), .v (.int .u8 32), .v (.int .u8 126)]), o1 44 (.bld [.int .u8 0, .nil 1, .nil 1] [(0, 1, (.v (.int .u8 115))), (1, 1, (.t 43))]), ca 45 103 [42, 44], ex 46 45 0, ex 47 45 1, st 4 2 46, m 3 47] [2, 3],
     .ret]) (.skip)],
  .reg [la 48 1 4, o1 49 (.call 104 [.t 48, .v (.int .u8 91)]), m 9 49] [1, 2, 9],
  Q [.reg [m 50 9] [1, 2, 50],
   C 50 (Q [.reg [fa 51 1 2, l1 52 51, bi 53 .add 52 1, fa 54 1 2, st 1 54 53] [1, 2],
     .reg [la 55 1 4, ca 56 126 [55], ex 57 56 0, ex 58 56 1, st 4 2 57, m 3 58] [2, 3],
     .ret]) (.skip)],
  .reg [la 60 1 4, o1 61 (.call 127 [.t 60, .v (.str [92, 40, 41, 91, 93, 124, 42, 43, 63, 46])]), m 59 61, ex 62 59 0, ex 63 59 1, o1 10 (.alc [.nil 3, .str [], .int .i64 0, .bool false]), st 4 10 62, m 11 63] [2, 10, 11],
  .regD [la 64 10 4, m 65 11, m 66 11, o1 67 (.call 125 [.v (.nil 1), .t 65, .t 66]), o1 68 (.bld [.int .u8 0, .nil 1, .nil 1] [(0, 1, (.v (.int .u8 115))), (1, 1, (.t 67))]), ca 69 103 [64, 68], ex 70 69 0, ex 71 69 1, st 4 2 70, m 3 71] [2, 3],
  .ret]
theorem i_ref09_atom : image Tryz.prog Tryz.f116 [[1, 2], [1, 2, 4], [1, 2, 14], [1, 2], [2, 5, 6], [2, 5, 6, 7], [2, 5, 6, 27], [2, 5, 6], [2, 5, 6], [2, 3], [1, 2, 8], [1, 2, 37], [1, 2], [0, 0, 0, 2, 7, 15, 15, 63, 127], [0, 1, 2, 3, 4, 5, 6, 7], [2, 3], [1, 2, 9], [1, 2, 50], [1, 2], [2, 3], [2, 10, 11], [0, 0, 0, 0, 6, 14, 31, 63, 63, 255, 511], [0, 1, 2, 3, 4, 5, 6, 7, 8, 9], [2, 3]] 1 = some (c_ref09_atom, [.c 2 4 true, .t 3]) := by kernel_rfl

abbrev n_ref09_piece : Nat := 102
theorem h_ref09_piece : Tryz.prog.funcs[102]? = some Tryz.f102 := Tryz.func102
def c_ref09_piece : AC :=
  Q [.reg [bx 1 0, o1 2 (.alc [.nil 3, .str [], .int .i64 0, .bool false]), mi 3 0] [1, 2],
  .reg [la 10 1 4, ca 11 116 [10], m 9 11, ex 12 9 0, ex 13 9 1, st 4 1 12, m 4 13] [1, 2, 4],
  .block 0 (.loop [1, 2, 4] (Q [Q [.reg [fa 14 1 3, l1 15 14, nt' 16 15] [1, 2, 4, 16],
      C 16 (.skip) (.exit 0)],
     .block 1 (Q [.reg [la 17 1 4, o1 18 (.call 104 [.t 17, .v (.int .u8 42)]), m 5 18] [1, 2, 4, 5],
       .reg [la 19 1 4, o1 20 (.call 104 [.t 19, .v (.int .u8 43)]), m 6 20] [1, 2, 4, 5, 6],
       .reg [la 21 1 4, o1 22 (.call 104 [.t 21, .v (.int .u8 63)]), m 7 22] [1, 2, 4, 5, 6, 7],
       Q [.reg [m 23 5, nt' 24 23, m 25 24, gt 25 (m 26 6), gt 25 (nt' 27 26), pa 28 25 27, m 29 28, gt 29 (m 30 7), gt 29 (nt' 31 30), pa 32 29 31] [1, 2, 4, 6, 7, 32],
        C 32 (Q [.reg [la 33 1 4, m 34 4, st 4 2 33, m 3 34] [2, 3],
          .ret]) (.skip)],
       .reg [fa 35 1 2, l1 36 35, bi 37 .add 36 1, fa 38 1 2, st 1 38 37] [1, 2, 4, 6, 7],
       .reg [mi 8 0] [1, 2, 4, 6, 7],
       Q [.reg [m 39 7] [1, 2, 4, 6, 39],
        C 39 (Q [.reg [la 41 1 4, o1 42 (.bld [.int .u8 0, .nil 1, .nil 1] [(0, 1, (.v (.int .u8 116)))]), ca 43 103 [41, 42], m 40 43, ex 44 40 0, ex 45 40 1, st 4 1 44, m 8 45] [1, 2, 4, 8],
          .reg [la 47 1 4, m 48 4, m 49 8, o1 50 (.lit 1 [.t 48, .t 49]), o1 51 (.bld [.int .u8 0, .nil 1, .nil 1] [(0, 1, (.v (.int .u8 111))), (2, 1, (.t 50))]), ca 52 103 [47, 51], m 46 52, ex 53 46 0, ex 54 46 1, st 4 1 53, m 4 54] [1, 2, 4],
          .exit 1]) (.skip)],
       .reg [la 56 1 4, m 57 4, o1 58 (.lit 1 [.t 57]), o1 59 (.bld [.int .u8 0, .nil 1, .nil 1] [(0, 1, (.v (.int .u8 109))), (2, 1, (.t 58))]), ca 60 103 [56, 59], m 55 60, ex 61 55 0, ex 62 55 1, st 4 1 61, m 8 62] [1, 2, 4, 6, 8],
       Q [.reg [m 63 6] [1, 2, 4, 8, 63],
        C 63 (.reg [la 65 1 4, m 66 4, m 67 8, o1 68 (.lit 1 [.t 66, .t 67]), o1 69 (.bld [.int .u8 0, .nil 1, .nil 1] [(0, 1, (.v (.int .u8 116))), (2, 1, (.t 68))]), ca 70 103 [65, 69], m 64 70, ex 71 64 0, ex 72 64 1, st 4 1 71, m 8 72] [1, 2, 8]) (.skip)],
       .reg [m 73 8, m 4 73] [1, 2, 4]])])),
  .reg [la 74 1 4, m 75 4, st 4 2 74, m 3 75] [2, 3],
  .ret]
theorem i_ref09_piece : image Tryz.prog Tryz.f102 [[1, 2], [1, 2, 4], [1, 2, 4], [1, 2, 4, 16], [1, 2, 4, 5], [1, 2, 4, 5, 6], [1, 2, 4, 5, 6, 7], [1, 2, 4, 6, 7, 32], [2, 3], [1, 2, 4, 6, 7], [1, 2, 4, 6, 7], [1, 2, 4, 6, 39], [1, 2, 4, 8], [1, 2, 4], [1, 2, 4, 6, 8], [1, 2, 4, 8, 63], [1, 2, 8], [1, 2, 4], [2, 3]] 1 = some (c_ref09_piece, [.c 2 4 true, .t 3]) := by kernel_rfl

abbrev n_ref09_branches : Nat := 90
theorem h_ref09_branches : Tryz.prog.funcs[90]? = some Tryz.f90 := Tryz.func90
def c_ref09_branches : AC :=
  Q [.reg [bx 1 0, o1 2 (.alc [.nil 3, .str [], .int .i64 0, .bool false]), mi 3 0] [1, 2],
  .reg [mv 4 (.nil 1)] [1, 2, 4],
  .block 0 (.loop [1, 2, 4] (.block 1 (Q [.reg [mv 5 (.nil 1)] [1, 2, 4, 5],
      .block 2 (.loop [1, 2, 4, 5] (Q [Q [.reg [fa 9 1 3, l1 10 9, nt' 11 10, m 12 11, gt 12 (fa 13 1 2), gt 12 (l1 14 13), gt 12 (fa 15 1 1), gt 12 (l1 16 15), gt 12 (ls 17 16), gt 12 (bt 18 .lss 14 17), pa 19 12 18, m 20 19, gt 20 (fa 21 1 1), gt 20 (l1 22 21), gt 20 (fa 23 1 2), gt 20 (l1 24 23), gt 20 (ix 25 22 24), gt 20 (o1 26 (.call 101 [.t 25, .v (.str [124, 41])])), gt 20 (nt' 27 26), pa 28 20 27] [1, 2, 4, 5, 28],
          C 28 (.skip) (.exit 2)],
         .block 3 (Q [.reg [mi 6 0] [1, 2, 4, 5],
           .reg [la 30 1 4, ca 31 102 [30], m 29 31, ex 32 29 0, ex 33 29 1, st 4 1 32, m 6 33] [1, 2, 4, 5, 6],
           .reg [m 34 5, m 35 6, o1 36 (.lit 1 [.t 35]), o1 37 (.app (.t 34) (.t 36) 3 1 8), m 5 37] [1, 2, 4, 5]])])),
      .reg [mi 7 0] [1, 2, 4, 5],
      .reg [la 39 1 4, m 40 5, o1 41 (.bld [.int .u8 0, .nil 1, .nil 1] [(0, 1, (.v (.int .u8 116))), (2, 1, (.t 40))]), ca 42 103 [39, 41], m 38 42, ex 43 38 0, ex 44 38 1, st 4 1 43, m 7 44] [1, 2, 4, 7],
      .reg [m 45 4, m 46 7, o1 47 (.lit 1 [.t 46]), o1 48 (.app (.t 45) (.t 47) 3 1 8), m 4 48] [1, 2, 4],
      .reg [fa 49 1 3, l1 50 49, nt' 51 50, m 52 51, gt 52 (la 53 1 4), gt 52 (o1 54 (.call 104 [.t 53, .v (.int .u8 124)])), pa 55 52 54, m 8 55] [1, 2, 4, 8],
      Q [.reg [m 56 8, nt' 57 56] [1, 2, 4, 57],
       C 57 (Q [.reg [la 58 1 4, m 59 4, o1 60 (.bld [.int .u8 0, .nil 1, .nil 1] [(0, 1, (.v (.int .u8 111))), (2, 1, (.t 59))]), ca 61 103 [58, 60], ex 62 61 0, ex 63 61 1, st 4 2 62, m 3 63] [2, 3],
         .ret]) (.skip)],
      .reg [fa 64 1 2, l1 65 64, bi 66 .add 65 1, fa 67 1 2, st 1 67 66] [1, 2, 4]])))]
theorem i_ref09_branches : image Tryz.prog Tryz.f90 [[1, 2], [1, 2, 4], [1, 2, 4], [1, 2, 4, 5], [1, 2, 4, 5], [1, 2, 4, 5, 28], [1, 2, 4, 5], [1, 2, 4, 5, 6], [1, 2, 4, 5], [1, 2, 4, 5], [1, 2, 4, 7], [1, 2, 4], [1, 2, 4, 8], [1, 2, 4, 57], [2, 3], [1, 2, 4]] 1 = some (c_ref09_branches, [.c 2 4 true, .t 3]) := by kernel_rfl

abbrev n_ref09_Parse : Nat := 72
theorem h_ref09_Parse : Tryz.prog.funcs[72]? = some Tryz.f72 := Tryz.func72
def c_ref09_Parse : AC :=
  Q [.reg [mv 2 (.nil 3), mi 3 0, mi 4 0] [0],
  Q [.reg [m 7 0, ls 8 7, bi 9 .gtr 8 60] [0, 9],
   C 9 (Q [.reg [mv 2 (.nil 3), mi 3 0, mi 4 3] [2, 3, 4],
     .ret]) (.skip)],
  .reg [m 11 0, o1 12 (.bld [.nil 3, .str [], .int .i64 0, .bool false] [(1, 1, (.t 11))]), ca 13 90 [12], m 10 13, ex 14 10 0, ex 15 10 1, o1 5 (.alc [.nil 3, .str [], .int .i64 0, .bool false]), st 4 5 14, m 6 15] [0, 5, 6],
  Q [.reg [fa 16 5 3, l1 17 16, m 18 17, gf 18 (fa 19 5 2), gf 18 (l1 20 19), gf 18 (m 21 0), gf 18 (ls 22 21), gf 18 (bt 23 .neq 20 22), po 24 18 23] [5, 6, 24],
   C 24 (Q [.reg [mv 2 (.nil 3), mi 3 0, mi 4 2] [2, 3, 4],
     .ret]) (.skip)],
  .reg [fa 25 5 0, l1 26 25, m 27 6, m 2 26, m 3 27, mi 4 0] [2, 3, 4],
  .ret]
theorem i_ref09_Parse : image Tryz.prog Tryz.f72 [[0], [0, 9], [2, 3, 4], [0, 5, 6], [5, 6, 24], [2, 3, 4], [2, 3, 4]] 1 = some (c_ref09_Parse, [.t 2, .t 3, .t 4]) := by kernel_rfl

abbrev n_ref09_both : Nat := 106
theorem h_ref09_both : Tryz.prog.funcs[106]? = some Tryz.f106 := Tryz.func106
def c_ref09_both : AC :=
  Q [.reg [mv 4 (.nil 1)] [0, 1],
  .reg [m 8 0, lq 9 8, o1 10 (.mkm 109 24 4 1 (.t 9)), m 5 10] [0, 1, 5],
  Q [.reg [mi 6 0] [0, 1, 5, 6],
   .block 0 (.loop [0, 1, 5, 6] (Q [Q [.reg [m 11 6, m 12 0, lq 13 12, bt 14 .lss 11 13] [0, 1, 5, 6, 14],
       C 14 (.skip) (.exit 0)],
      .block 1 (Q [.reg [m 17 5, m 18 6, m 19 0, lq 20 19, o1 21 (.mks 4 1 1 (.bool false) (.t 20)), ia 22 17 18 1, st 1 22 21] [0, 1, 5, 6],
        .reg [mi 7 0] [0, 1, 5, 6, 7],
        .block 2 (.loop [0, 1, 5, 6, 7] (Q [Q [.reg [m 23 7, m 24 0, lq 25 24, bt 26 .lss 23 25] [0, 1, 5, 6, 7, 26],
            C 26 (.skip) (.exit 2)],
           .block 3 (.regD [m 29 5, m 30 6, ia 31 29 30 1, l1 32 31, m 33 7, m 34 0, m 35 6, ia 36 34 35 1, l1 37 36, m 38 7, ia 39 37 38 1, l1 40 39, m 41 40, gf 41 (m 42 1), gf 41 (m 43 6), gf 41 (ia 44 42 43 1), gf 41 (l1 45 44), gf 41 (m 46 7), gf 41 (ia 47 45 46 1), gf 41 (l1 48 47), po 49 41 48, ia 50 32 33 1, st 1 50 49] [0, 1, 5, 6, 7]),
           .reg [m 27 7, bi 28 .add 27 1, m 7 28] [0, 1, 5, 6, 7]]))]),
      .reg [m 15 6, bi 16 .add 15 1, m 6 16] [0, 1, 5, 6]]))],
  .reg [m 51 5, m 4 51] [4],
  .ret]
theorem i_ref09_both : image Tryz.prog Tryz.f106 [[0, 1], [0, 1, 5], [0, 1, 5, 6], [0, 1, 5, 6], [0, 1, 5, 6, 14], [0, 1, 5, 6], [0, 1, 5, 6, 7], [0, 1, 5, 6, 7], [0, 1, 5, 6, 7, 26], [0, 0, 0, 3, 7, 0, 0, 0, 96, 224, 0, 992, 2016, 4064, 8160, 8160, 32736, 65504, 8160, 262112, 524256, 1048544, 2097151, 4194303], [0, 1, 2, 3, 4, 5, 6, 7, 8, 9, 10, 11, 12, 13, 14, 15, 16, 17, 18, 19, 20, 21, 22], [0, 1, 5, 6, 7], [0, 1, 5, 6, 7], [0, 1, 5, 6], [4]] 2 = some (c_ref09_both, [.t 4]) := by kernel_rfl

abbrev n_ref09_joined : Nat := 107
theorem h_ref09_joined : Tryz.prog.funcs[107]? = some Tryz.f107 := Tryz.func107
def c_ref09_joined : AC :=
  Q [.reg [mv 4 (.nil 1)] [0, 1],
  .reg [m 9 0, lq 10 9, o1 11 (.mkm 109 24 4 1 (.t 10)), m 5 11] [0, 1, 5],
  Q [.reg [mi 6 0] [0, 1, 5, 6],
   .block 0 (.loop [0, 1, 5, 6] (Q [Q [.reg [m 12 6, m 13 0, lq 14 13, bt 15 .lss 12 14] [0, 1, 5, 6, 15],
       C 15 (.skip) (.exit 0)],
      .block 1 (Q [.reg [m 18 5, m 19 6, m 20 0, lq 21 20, o1 22 (.mks 4 1 1 (.bool false) (.t 21)), ia 23 18 19 1, st 1 23 22] [0, 1, 5, 6],
        .reg [mi 7 0] [0, 1, 5, 6, 7],
        .block 2 (.loop [0, 1, 5, 6, 7] (Q [Q [.reg [m 24 7, m 25 0, lq 26 25, bt 27 .lss 24 26] [0, 1, 5, 6, 7, 27],
            C 27 (.skip) (.exit 2)],
           .block 3 (Q [.reg [m 30 7, m 8 30] [0, 1, 5, 6, 7, 8],
             .block 4 (.loop [0, 1, 5, 6, 7, 8] (Q [Q [.reg [m 31 8, m 32 0, lq 33 32, bt 34 .lss 31 33, m 35 34, gt 35 (m 36 0), gt 35 (m 37 6), gt 35 (ia 38 36 37 1), gt 35 (l1 39 38), gt 35 (m 40 7), gt 35 (ia 41 39 40 1), gt 35 (l1 42 41), pa 43 35 42] [0, 1, 5, 6, 7, 8, 43],
                 C 43 (.skip) (.exit 4)],
                .block 5 (.regD [m 46 5, m 47 6, ia 48 46 47 1, l1 49 48, m 50 8, m 51 5, m 52 6, ia 53 51 52 1, l1 54 53, m 55 8, ia 56 54 55 1, l1 57 56, m 58 57, gf 58 (m 59 1), gf 58 (m 60 7), gf 58 (ia 61 59 60 1), gf 58 (l1 62 61), gf 58 (m 63 8), gf 58 (ia 64 62 63 1), gf 58 (l1 65 64), po 66 58 65, ia 67 49 50 1, st 1 67 66] [0, 1, 5, 6, 7, 8]),
                .reg [m 44 8, bi 45 .add 44 1, m 8 45] [0, 1, 5, 6, 7, 8]]))]),
           .reg [m 28 7, bi 29 .add 28 1, m 7 29] [0, 1, 5, 6, 7]]))]),
      .reg [m 16 6, bi 17 .add 16 1, m 6 17] [0, 1, 5, 6]]))],
  .reg [m 68 5, m 4 68] [4],
  .ret]
theorem i_ref09_joined : image Tryz.prog Tryz.f107 [[0, 1], [0, 1, 5], [0, 1, 5, 6], [0, 1, 5, 6], [0, 1, 5, 6, 15], [0, 1, 5, 6], [0, 1, 5, 6, 7], [0, 1, 5, 6, 7], [0, 1, 5, 6, 7, 27], [0, 1, 5, 6, 7, 8], [0, 1, 5, 6, 7, 8], [0, 1, 5, 6, 7, 8, 43], [0, 0, 0, 3, 7, 0, 0, 0, 96, 224, 0, 992, 2016, 4064, 8160, 8160, 32736, 65504, 8160, 262112, 524256, 1048544, 2097151, 4194303], [0, 1, 2, 3, 4, 5, 6, 7, 8, 9, 10, 11, 12, 13, 14, 15, 16, 17, 18, 19, 20, 21, 22], [0, 1, 5, 6, 7, 8], [0, 1, 5, 6, 7, 8], [0, 1, 5, 6, 7], [0, 1, 5, 6], [4]] 2 = some (c_ref09_joined, [.t 4]) := by kernel_rfl

abbrev n_ref09_step : Nat := 91
theorem h_ref09_step : Tryz.prog.funcs[91]? = some Tryz.f91 := Tryz.func91
def c_ref09_step : AC :=
  Q [.reg [mv 8 (.nil 1)] [0, 1, 2, 3],
  .reg [m 15 2, ls 16 15, bi 17 .add 16 1, m 9 17] [0, 1, 2, 3, 9],
  .reg [m 18 9, o1 19 (.mkm 109 24 4 1 (.t 18)), m 10 19] [0, 1, 2, 3, 9, 10],
  Q [.reg [mi 11 0] [0, 1, 2, 3, 9, 10, 11],
   .block 0 (.loop [0, 1, 2, 3, 9, 10, 11] (Q [Q [.reg [m 20 11, m 21 9, bt 22 .lss 20 21] [0, 1, 2, 3, 9, 10, 11, 22],
       C 22 (.skip) (.exit 0)],
      .block 1 (Q [.reg [m 25 10, m 26 11, m 27 9, o1 28 (.mks 4 1 1 (.bool false) (.t 27)), ia 29 25 26 1, st 1 29 28] [0, 1, 2, 3, 9, 10, 11],
        .regD [m 30 10, m 31 11, ia 32 30 31 1, l1 33 32, m 34 11, m 35 0, m 36 1, ia 37 35 36 3, fa 38 37 0, l1 39 38, bu 40 .eql 39 116, m 41 40, gf 41 (m 42 0), gf 41 (m 43 1), gf 41 (ia 44 42 43 3), gf 41 (fa 45 44 0), gf 41 (l1 46 45), gf 41 (bu 47 .eql 46 109), po 48 41 47, ia 49 33 34 1, st 1 49 48] [0, 1, 2, 3, 9, 10, 11],
        .reg [m 50 0, m 51 1, ia 52 50 51 3, fa 53 52 0, l1 54 53, bu 55 .eql 54 115, m 56 55, gt 56 (m 57 11), gt 56 (m 58 2), gt 56 (ls 59 58), gt 56 (bt 60 .lss 57 59), pa 61 56 60, m 62 61, gt 62 (m 63 2), gt 62 (m 64 11), gt 62 (ix 65 63 64), gt 62 (ca 66 105 [65]), pa 67 62 66] [0, 1, 2, 3, 9, 10, 11, 67],
        C 67 (.regD [m 68 10, m 69 11, ia 70 68 69 1, l1 71 70, m 72 11, bi 73 .add 72 1, m 74 0, m 75 1, ia 76 74 75 3, fa 77 76 1, l1 78 77, m 79 2, m 80 11, ix 81 79 80, o1 82 (.cii .i64 (.t 81)), bi 83 .sub 82 32, ia 84 78 83 1, l1 85 84, ia 86 71 73 1, st 1 86 85] [0, 1, 2, 3, 9, 10, 11]) (.skip)]),
      .reg [m 23 11, bi 24 .add 23 1, m 11 24] [0, 1, 2, 3, 9, 10, 11]]))],
  Q [.reg [mi 12 0] [0, 1, 3, 9, 10, 12],
   .block 2 (.loop [0, 1, 3, 9, 10, 12] (Q [Q [.reg [m 87 12, m 88 0, m 89 1, ia 90 88 89 3, fa 91 90 2, l1 92 91, lq 93 92, bt 94 .lss 87 93] [0, 1, 3, 9, 10, 12, 94],
       C 94 (.skip) (.exit 2)],
      .block 3 (Q [.reg [m 97 3, m 98 0, m 99 1, ia 100 98 99 3, fa 101 100 2, l1 102 101, m 103 12, ia 104 102 103 1, l1 105 104, ia 106 97 105 1, l1 107 106, m 13 107] [0, 1, 3, 9, 10, 12, 13],
        .reg [m 108 0, m 109 1, ia 110 108 109 3, fa 111 110 0, l1 112 111] [0, 1, 3, 9, 10, 12, 13, 112],
        .block 4 (Q [.reg [bu 114 .eql 112 111, m 113 114] [0, 1, 3, 9, 10, 12, 13, 112, 113],
          C 113 (.reg [m 115 10, m 116 13, ca 117 106 [115, 116], m 10 117] [0, 1, 3, 9, 10, 12]) (Q [.reg [bu 119 .eql 112 116, m 118 119] [0, 1, 3, 9, 10, 12, 13, 112, 118],
            C 118 (.reg [m 120 10, m 121 13, ca 122 107 [120, 121], m 10 122] [0, 1, 3, 9, 10, 12]) (Q [.reg [bu 124 .eql 112 109, m 123 124] [0, 1, 3, 9, 10, 12, 13, 123],
              C 123 (Q [.reg [mi 14 0] [0, 1, 3, 9, 10, 12, 13, 14],
                .block 5 (.loop [0, 1, 3, 9, 10, 12, 13, 14] (Q [Q [.reg [m 125 14, m 126 9, bt 127 .lss 125 126] [0, 1, 3, 9, 10, 12, 13, 14, 127],
                    C 127 (.skip) (.exit 5)],
                   .block 6 (.reg [m 130 10, m 131 10, m 132 13, ca 133 107 [131, 132], ca 134 106 [130, 133], m 10 134] [0, 1, 3, 9, 10, 12, 13, 14]),
                   .reg [m 128 14, bi 129 .add 128 1, m 14 129] [0, 1, 3, 9, 10, 12, 13, 14]]))]) (.skip)])])])]),
      .reg [m 95 12, bi 96 .add 95 1, m 12 96] [0, 1, 3, 9, 10, 12]]))],
  .reg [m 135 10, m 8 135] [8],
  .ret]
theorem i_ref09_step : image Tryz.prog Tryz.f91 [[0, 1, 2, 3], [0, 1, 2, 3, 9], [0, 1, 2, 3, 9, 10], [0, 1, 2, 3, 9, 10, 11], [0, 1, 2, 3, 9, 10, 11], [0, 1, 2, 3, 9, 10, 11, 22], [0, 1, 2, 3, 9, 10, 11], [0, 0, 0, 3, 7, 0, 0, 0, 96, 224, 480, 992, 2016, 4064, 4064, 16352, 32736, 65504, 131040, 262112, 524287, 1048575], [0, 1, 2, 3, 4, 5, 6, 7, 8, 9, 10, 11, 12, 13, 14, 15, 16, 17, 18, 19, 20], [0, 1, 2, 3, 9, 10, 11], [0, 1, 2, 3, 9, 10, 11, 67], [0, 0, 0, 3, 7, 0, 16, 0, 0, 192, 448, 960, 0, 0, 6144, 14336, 30720, 65472, 131008, 262143, 524287], [0, 1, 2, 3, 4, 5, 6, 7, 8, 9, 10, 11, 12, 13, 14, 15, 16, 17, 18, 19], [0, 1, 2, 3, 9, 10, 11], [0, 1, 2, 3, 9, 10, 11], [0, 1, 3, 9, 10, 12], [0, 1, 3, 9, 10, 12], [0, 1, 3, 9, 10, 12, 94], [0, 1, 3, 9, 10, 12, 13], [0, 1, 3, 9, 10, 12, 13, 112], [0, 1, 3, 9, 10, 12, 13, 112, 113], [0, 1, 3, 9, 10, 12], [0, 1, 3, 9, 10, 12, 13, 112, 118], [0, 1, 3, 9, 10, 12], [0, 1, 3, 9, 10, 12, 13, 123], [0, 1, 3, 9, 10, 12, 13, 14], [0, 1, 3, 9, 10, 12, 13, 14], [0, 1, 3, 9, 10, 12, 13, 14, 127], [0, 1, 3, 9, 10, 12, 13, 14], [0, 1, 3, 9, 10, 12, 13, 14], [0, 1, 3, 9, 10, 12], [8]] 4 = some (c_ref09_step, [.t 8]) := by kernel_rfl

abbrev n_ref09_Match : Nat := 73
theorem h_ref09_Match : Tryz.prog.funcs[73]? = some Tryz.f73 := Tryz.func73
def c_ref09_Match : AC :=
  Q [.reg [mb 6 false] [0, 1, 2],
  .reg [mv 7 (.nil 1)] [0, 1, 2, 7],
  Q [.reg [mi 8 0] [0, 1, 2, 7, 8],
   .block 0 (.loop [0, 1, 2, 7, 8] (Q [Q [.reg [m 9 8, m 10 1, bt 11 .leq 9 10] [0, 1, 2, 7, 8, 11],
       C 11 (.skip) (.exit 0)],
      .block 1 (.reg [m 14 7, m 15 0, m 16 8, m 17 2, m 18 7, ca 19 91 [15, 16, 17, 18], o1 20 (.lit 1 [.t 19]), o1 21 (.app (.t 14) (.t 20) 107 1 24), m 7 21] [0, 1, 2, 7, 8]),
      .reg [m 12 8, bi 13 .add 12 1, m 8 13] [0, 1, 2, 7, 8]]))],
  .reg [m 22 7, m 23 1, ia 24 22 23 1, l1 25 24, o1 26 (.ia (.t 25) (.v (.int .i64 0)) 1), l1 27 26, m 28 2, ls 29 28, ia 30 27 29 1, l1 31 30, m 6 31] [6],
  .ret]
theorem i_ref09_Match : image Tryz.prog Tryz.f73 [[0, 1, 2], [0, 1, 2, 7], [0, 1, 2, 7, 8], [0, 1, 2, 7, 8], [0, 1, 2, 7, 8, 11], [0, 1, 2, 7, 8], [0, 1, 2, 7, 8], [6]] 3 = some (c_ref09_Match, [.t 6]) := by kernel_rfl

abbrev n_ref12_Allows : Nat := 51
theorem h_ref12_Allows : Tryz.prog.funcs[51]? = some Tryz.f51 := Tryz.func51
def c_ref12_Allows : AC :=
  Q [.reg [bx 2 0, mb 4 false] [1, 2],
  .reg [m 13 1, ca 14 71 [13], m 5 14] [1, 2, 5],
  Q [.reg [m 15 5, nt' 16 15] [1, 2, 16],
   C 16 (Q [.reg [mb 4 false] [4],
     .ret]) (.skip)],
  Q [.reg [fa 17 2 0, l1 18 17] [1, 2, 18],
   .block 0 (Q [.reg [bi 20 .eql 18 1, m 19 20] [1, 2, 18, 19],
     C 19 (Q [.reg [mb 4 true] [4],
       .ret]) (Q [.reg [bi 22 .eql 18 2, m 21 22] [1, 2, 18, 21],
       C 21 (Q [Q [.reg [mi 6 0] [1, 2, 6],
          .block 1 (.loop [1, 2, 6] (Q [Q [.reg [m 23 6, fa 24 2 1, l1 25 24, lq 26 25, bt 27 .lss 23 26] [1, 2, 6, 27],
              C 27 (.skip) (.exit 1)],
             .block 2 (Q [.reg [fa 30 2 1, l1 31 30, m 32 6, ia 33 31 32 1, l1 34 33, m 35 1, bt 36 .eql 34 35] [1, 2, 6, 36],
               C 36 (Q [.reg [mb 4 true] [4],
                 .ret]) (.skip)]),
             .reg [m 28 6, bi 29 .add 28 1, m 6 29] [1, 2, 6]]))],
         .reg [mb 4 false] [4],
         .ret]) (Q [.reg [bi 38 .eql 18 3, m 37 38] [1, 2, 37],
         C 37 (Q [.reg [mi 7 (-1)] [1, 2, 7],
           Q [.reg [mi 8 0] [1, 2, 7, 8],
            .block 3 (.loop [1, 2, 7, 8] (Q [Q [.reg [m 39 8, m 40 1, ls 41 40, bt 42 .lss 39 41, m 43 42, gt 43 (m 44 7), gt 43 (bi 45 .lss 44 0), pa 46 43 45] [1, 2, 7, 8, 46],
                C 46 (.skip) (.exit 3)],
               .block 4 (Q [.reg [m 49 1, m 50 8, ix 51 49 50, bu 52 .eql 51 58] [1, 2, 7, 8, 52],
                 C 52 (.reg [m 53 8, m 7 53] [1, 2, 7, 8]) (.skip)]),
               .reg [m 47 8, bi 48 .add 47 1, m 8 48] [1, 2, 7, 8]]))],
           Q [.reg [m 54 7, bi 55 .lss 54 0] [1, 2, 7, 55],
            C 55 (Q [.reg [mb 4 true] [4],
              .ret]) (.skip)],
           Q [.reg [mi 9 0] [1, 2, 7, 9],
            .block 5 (.loop [1, 2, 7, 9] (Q [Q [.reg [m 56 9, fa 57 2 1, l1 58 57, lq 59 58, bt 60 .lss 56 59] [1, 2, 7, 9, 60],
                C 60 (.skip) (.exit 5)],
               .block 6 (Q [.regD [fa 63 2 1, l1 64 63, m 65 9, ia 66 64 65 1, l1 67 66, m 68 1, m 69 7, o1 70 (.sls (.t 68) none (some (.t 69))), bt 71 .eql 67 70] [1, 2, 7, 9, 71],
                 C 71 (Q [.reg [mb 4 true] [4],
                   .ret]) (.skip)]),
               .reg [m 61 9, bi 62 .add 61 1, m 9 62] [1, 2, 7, 9]]))],
           .reg [mb 4 false] [4],
           .ret]) (.skip)])])])],
  .reg [fa 73 2 2, l1 74 73, ca 75 72 [74], m 72 75, ex 76 72 0, ex 77 72 1, ex 78 72 2, m 10 76, m 11 77, m 12 78] [1, 10, 11],
  .reg [m 79 10, m 80 11, m 81 1, ca 82 73 [79, 80, 81], m 4 82] [4],
  .ret]
theorem i_ref12_Allows : image Tryz.prog Tryz.f51 [[1, 2], [1, 2, 5], [1, 2, 16], [4], [1, 2, 18], [1, 2, 18, 19], [4], [1, 2, 18, 21], [1, 2, 6], [1, 2, 6], [1, 2, 6, 27], [1, 2, 6, 36], [4], [1, 2, 6], [4], [1, 2, 37], [1, 2, 7], [1, 2, 7, 8], [1, 2, 7, 8], [1, 2, 7, 8, 46], [1, 2, 7, 8, 52], [1, 2, 7, 8], [1, 2, 7, 8], [1, 2, 7, 55], [4], [1, 2, 7, 9], [1, 2, 7, 9], [1, 2, 7, 9, 60], [0, 0, 1, 0, 7, 15, 0, 0, 96, 255], [0, 1, 2, 3, 4, 5, 6, 7, 8], [1, 2, 7, 9, 71], [4], [1, 2, 7, 9], [4], [1, 10, 11], [4]] 2 = some (c_ref12_Allows, [.t 4]) := by kernel_rfl

abbrev n_ref15_Attr : Nat := 96
theorem h_ref15_Attr : Tryz.prog.funcs[96]? = some Tryz.f96 := Tryz.func96
def c_ref15_Attr : AC :=
  Q [.reg [bx 2 0, bx 3 1, mb 4 false] [2, 3],
  .reg [la 8 2 3, fa 9 3 0, l1 10 9, ca 11 109 [8, 10], m 7 11, ex 12 7 0, ex 13 7 1, o1 5 (.alc [.str [], .int .i64 0, .nil 1, .str [], .bool false]), st 5 5 12, m 6 13] [3, 5, 6],
  Q [.reg [m 14 6, nt' 15 14] [3, 5, 15],
   C 15 (Q [.reg [mb 4 false] [4],
     .ret]) (.skip)],
  .reg [fa 16 5 1, la 17 16 3, fa 18 3 1, l1 19 18, ca 20 51 [17, 19], m 4 20] [4],
  .ret]
theorem i_ref15_Attr : image Tryz.prog Tryz.f96 [[2, 3], [3, 5, 6], [3, 5, 15], [4], [4]] 2 = some (c_ref15_Attr, [.t 4]) := by kernel_rfl

abbrev n_ref15_Kept : Nat := 83
theorem h_ref15_Kept : Tryz.prog.funcs[83]? = some Tryz.f83 := Tryz.func83
def c_ref15_Kept : AC :=
  Q [.reg [bx 2 0, mv 4 (.nil 2)] [1, 2],
  .reg [mv 5 (.nil 2)] [1, 2, 5],
  Q [.reg [mi 6 0] [1, 2, 5, 6],
   .block 0 (.loop [1, 2, 5, 6] (Q [Q [.reg [m 8 6, m 9 1, lq 10 9, bt 11 .lss 8 10] [1, 2, 5, 6, 11],
       C 11 (.skip) (.exit 0)],
      .block 1 (Q [.regD [la 14 2 3, m 15 1, m 16 6, ia 17 15 16 2, la 18 17 2, ca 19 96 [14, 18], m 7 19] [1, 2, 5, 6, 7],
        .reg [m 20 7] [1, 2, 5, 6, 20],
        C 20 (.reg [m 21 5, m 22 1, m 23 6, ia 24 22 23 2, la 25 24 2, o1 26 (.lit 2 [.t 25]), o1 27 (.app (.t 21) (.t 26) 53 2 32), m 5 27] [1, 2, 5, 6]) (.skip)]),
      .reg [m 12 6, bi 13 .add 12 1, m 6 13] [1, 2, 5, 6]]))],
  .reg [m 28 5, m 4 28] [4],
  .ret]
theorem i_ref15_Kept : image Tryz.prog Tryz.f83 [[1, 2], [1, 2, 5], [1, 2, 5, 6], [1, 2, 5, 6], [1, 2, 5, 6, 11], [0, 0, 0, 0, 6, 14, 31, 63], [0, 1, 2, 3, 4, 5, 6], [1, 2, 5, 6, 7], [1, 2, 5, 6, 20], [1, 2, 5, 6], [1, 2, 5, 6], [4]] 2 = some (c_ref15_Kept, [.t 4]) := by kernel_rfl

abbrev n_ref15_Whole : Nat := 84
theorem h_ref15_Whole : Tryz.prog.funcs[84]? = some Tryz.f84 := Tryz.func84
def c_ref15_Whole : AC :=
  Q [.reg [bx 2 0, mb 4 false] [1, 2],
  Q [.reg [mi 5 0] [1, 2, 5],
   .block 0 (.loop [1, 2, 5] (Q [Q [.reg [m 8 5, fa 9 2 2, l1 10 9, lq 11 10, bt 12 .lss 8 11] [1, 2, 5, 12],
       C 12 (.skip) (.exit 0)],
      .block 1 (Q [.reg [m 16 1, o1 17 (.bld [.int .i64 0, .str [], .nil 2, .str [], .nil 5] [(2, 1, (.t 16))]), fa 18 2 2, l1 19 18, m 20 5, ia 21 19 20 5, fa 22 21 0, l1 23 22, ca 24 62 [17, 23], m 15 24, ex 25 15 0, ex 26 15 1, m 6 25, m 7 26] [1, 2, 5, 7],
        .reg [fa 27 2 2, l1 28 27, m 29 5, ia 30 28 29 5, fa 31 30 4, l1 32 31, m 33 32, gt 33 (m 34 7), gt 33 (nt' 35 34), pa 36 33 35] [1, 2, 5, 36],
        C 36 (Q [.reg [mb 4 false] [4],
          .ret]) (.skip)]),
      .reg [m 13 5, bi 14 .add 13 1, m 5 14] [1, 2, 5]]))],
  .reg [mb 4 true] [4],
  .ret]
theorem i_ref15_Whole : image Tryz.prog Tryz.f84 [[1, 2], [1, 2, 5], [1, 2, 5], [1, 2, 5, 12], [1, 2, 5, 7], [1, 2, 5, 36], [4], [1, 2, 5], [4]] 2 = some (c_ref15_Whole, [.t 4]) := by kernel_rfl

abbrev n_ref15_Holds : Nat := 66
theorem h_ref15_Holds : Tryz.prog.funcs[66]? = some Tryz.f66 := Tryz.func66
def c_ref15_Holds : AC :=
  Q [.reg [bx 2 0, mb 4 false] [1, 2],
  Q [.reg [la 5 2 3, m 6 1, ca 7 83 [5, 6], lq 8 7, m 9 1, lq 10 9, bt 11 .neq 8 10] [1, 2, 11],
   C 11 (Q [.reg [mb 4 false] [4],
     .ret]) (.skip)],
  .reg [la 12 2 3, m 13 1, ca 14 84 [12, 13], m 4 14] [4],
  .ret]
theorem i_ref15_Holds : image Tryz.prog Tryz.f66 [[1, 2], [1, 2, 11], [4], [4]] 2 = some (c_ref15_Holds, [.t 4]) := by kernel_rfl

abbrev n_ref15_odd : Nat := 44
theorem h_ref15_odd : Tryz.prog.funcs[44]? = some Tryz.f44 := Tryz.func44
def c_ref15_odd : AC :=
  Q [.reg [bx 3 0, mi 6 0, mi 7 0] [1, 2, 3],
  .reg [mi 8 0] [1, 2, 3, 8],
  Q [.reg [mi 9 0] [1, 2, 3, 8, 9],
   .block 0 (.loop [1, 2, 3, 8, 9] (Q [Q [.reg [m 15 9, m 16 2, lq 17 16, bt 18 .lss 15 17] [1, 2, 3, 8, 9, 18],
       C 18 (.skip) (.exit 0)],
      .block 1 (Q [.regD [la 21 3 3, m 22 1, m 23 2, m 24 9, ia 25 23 24 5, la 26 25 5, ca 27 65 [21, 22, 26], m 10 27] [1, 2, 3, 8, 9, 10],
        .regD [la 29 3 3, m 30 2, m 31 9, ia 32 30 31 5, fa 33 32 1, l1 34 33, ca 35 14 [29, 34], m 28 35, ex 36 28 0, ex 37 28 1, o1 11 (.alc [.str [], .nil 1, .nil 5]), st 3 11 36, m 12 37] [1, 2, 3, 8, 9, 10, 11],
        Q [.regD [m 38 10, nt' 39 38, m 40 39, gf 40 (m 41 2), gf 40 (m 42 9), gf 40 (ia 43 41 42 5), gf 40 (fa 44 43 0), gf 40 (l1 45 44), gf 40 (bi 46 .eql 45 1), gf 40 (m 47 46), gt 47 (la 48 11 3), gt 47 (m 49 2), gt 47 (m 50 9), gt 47 (ia 51 49 50 5), gt 47 (fa 52 51 2), gt 47 (l1 53 52), gt 47 (ca 54 66 [48, 53]), gt 47 (nt' 55 54), gf 40 (pa 56 47 55), po 57 40 56] [1, 2, 3, 8, 9, 57],
         C 57 (Q [.reg [m 58 8, m 59 8, m 6 58, m 7 59] [6, 7],
           .ret]) (.skip)],
        .reg [m 60 8, bi 61 .add 60 1, m 8 61] [1, 2, 3, 8, 9],
        .regD [la 63 3 3, m 64 2, m 65 9, ia 66 64 65 5, fa 67 66 1, l1 68 67, m 69 2, m 70 9, ia 71 69 70 5, fa 72 71 4, l1 73 72, ca 74 44 [63, 68, 73], m 62 74, ex 75 62 0, ex 76 62 1, m 13 75, m 14 76] [1, 2, 3, 8, 9, 13, 14],
        Q [.reg [m 77 13, bi 78 .geq 77 0] [1, 2, 3, 8, 9, 13, 14, 78],
         C 78 (Q [.reg [m 79 8, m 80 13, bt 81 .add 79 80, m 82 8, m 6 81, m 7 82] [6, 7],
           .ret]) (.skip)],
        .reg [m 83 8, m 84 14, bt 85 .add 83 84, m 8 85] [1, 2, 3, 8, 9]]),
      .reg [m 19 9, bi 20 .add 19 1, m 9 20] [1, 2, 3, 8, 9]]))],
  .reg [m 86 8, mi 6 (-1), m 7 86] [6, 7],
  .ret]
theorem i_ref15_odd : image Tryz.prog Tryz.f44 [[1, 2, 3], [1, 2, 3, 8], [1, 2, 3, 8, 9], [1, 2, 3, 8, 9], [1, 2, 3, 8, 9, 18], [0, 0, 0, 0, 0, 12, 28, 63, 127], [0, 1, 2, 3, 4, 5, 6, 7], [1, 2, 3, 8, 9, 10], [0, 0, 0, 0, 6, 14, 30, 63, 127, 255, 255, 0, 1535, 4095], [0, 1, 2, 3, 4, 5, 6, 7, 8, 9, 10, 11, 12], [1, 2, 3, 8, 9, 10, 11], [0, 0, 1, 3, 7, 7, 31, 63, 127, 255, 511, 1023, 1023, 1023, 7167, 15359, 31743, 65535, 131071, 262143, 524287], [0, 1, 2, 3, 4, 5, 6, 7, 8, 9, 10, 11, 12, 13, 14, 15, 16, 17, 18, 19], [1, 2, 3, 8, 9, 57], [6, 7], [1, 2, 3, 8, 9], [0, 0, 0, 0, 6, 14, 30, 0, 0, 192, 448, 960, 2047, 4095, 8191, 8191, 16383, 65535], [0, 1, 2, 3, 4, 5, 6, 7, 8, 9, 10, 11, 12, 13, 14, 15, 16], [1, 2, 3, 8, 9, 13, 14], [1, 2, 3, 8, 9, 13, 14, 78], [6, 7], [1, 2, 3, 8, 9], [1, 2, 3, 8, 9], [6, 7]] 3 = some (c_ref15_odd, [.t 6, .t 7]) := by kernel_rfl

abbrev n_ref15_Odd : Nat := 24
theorem h_ref15_Odd : Tryz.prog.funcs[24]? = some Tryz.f24 := Tryz.func24
def c_ref15_Odd : AC :=
  Q [.reg [bx 2 0, mi 4 0] [1, 2],
  .reg [la 8 2 3, m 9 1, o1 10 (.call 44 [.t 8, .v (.str []), .t 9]), m 7 10, ex 11 7 0, ex 12 7 1, m 5 11, m 6 12] [5],
  .reg [m 13 5, m 4 13] [4],
  .ret]
theorem i_ref15_Odd : image Tryz.prog Tryz.f24 [[1, 2], [5], [4]] 2 = some (c_ref15_Odd, [.t 4]) := by kernel_rfl

abbrev n_ref15_Nodes : Nat := 8
theorem h_ref15_Nodes : Tryz.prog.funcs[8]? = some Tryz.f8 := Tryz.func8
def c_ref15_Nodes : AC :=
  Q [.reg [bx 2 0, mb 4 false] [1, 2],
  .reg [m 6 1, ca 7 23 [6], m 5 7] [1, 2, 5],
  .reg [m 8 5, m 9 8, gt 9 (la 10 2 3), gt 9 (m 11 1), gt 9 (ca 12 24 [10, 11]), gt 9 (bi 13 .lss 12 0), pa 14 9 13, m 4 14] [4],
  .ret]
theorem i_ref15_Nodes : image Tryz.prog Tryz.f8 [[1, 2], [1, 2, 5], [4]] 2 = some (c_ref15_Nodes, [.t 4]) := by kernel_rfl

abbrev n_slices_IndexFuncIIapi_Node_api_Node : Nat := 45
theorem h_slices_IndexFuncIIapi_Node_api_Node : Tryz.prog.funcs[45]? = some Tryz.f45 := Tryz.func45
def c_slices_IndexFuncIIapi_Node_api_Node : AC :=
  Q [.reg [mi 4 0] [0, 1],
  Q [.reg [m 6 0, lq 7 6, mi 8 0] [0, 1, 7, 8],
   .block 0 (.loop [0, 1, 7, 8] (Q [.reg [bt 9 .lss 8 7] [0, 1, 7, 8, 9],
      C 9 (.skip) (.exit 0),
      .block 1 (Q [.reg [m 10 8, m 5 10] [0, 1, 5, 7, 8],
        .reg [m 11 1, m 12 0, m 13 5, ia 14 12 13 5, la 15 14 5, cv 16 11 [15]] [0, 1, 5, 7, 8, 16],
        C 16 (Q [.reg [m 17 5, m 4 17] [4],
          .ret]) (.skip)]),
      .reg [bi 18 .add 8 1, m 8 18] [0, 1, 7, 8]]))],
  .reg [mi 4 (-1)] [4],
  .ret]
theorem i_slices_IndexFuncIIapi_Node_api_Node : image Tryz.prog Tryz.f45 [[0, 1], [0, 1, 7, 8], [0, 1, 7, 8], [0, 1, 7, 8, 9], [0, 1, 5, 7, 8], [0, 1, 5, 7, 8, 16], [4], [0, 1, 7, 8], [4]] 2 = some (c_slices_IndexFuncIIapi_Node_api_Node, [.t 4]) := by kernel_rfl

abbrev n_slices_ContainsFuncIIapi_Node_api_Node : Nat := 25
theorem h_slices_ContainsFuncIIapi_Node_api_Node : Tryz.prog.funcs[25]? = some Tryz.f25 := Tryz.func25
def c_slices_ContainsFuncIIapi_Node_api_Node : AC :=
  Q [.reg [mb 4 false] [0, 1],
  .reg [m 5 0, m 6 1, ca 7 45 [5, 6], bi 8 .geq 7 0, m 4 8] [4],
  .ret]
theorem i_slices_ContainsFuncIIapi_Node_api_Node : image Tryz.prog Tryz.f25 [[0, 1], [4]] 2 = some (c_slices_ContainsFuncIIapi_Node_api_Node, [.t 4]) := by kernel_rfl

abbrev n_guard_Names : Nat := 28
theorem h_guard_Names : Tryz.prog.funcs[28]? = some Tryz.f28 := Tryz.func28
def c_guard_Names : AC :=
  Q [.reg [mv 0 (.nil 1)] [],
  .reg [o1 1 (.lit 1 [.v (.str [101, 109, 98, 101, 100]), .v (.str [105, 102, 114, 97, 109, 101]), .v (.str [109, 97, 116, 104]), .v (.str [111, 98, 106, 101, 99, 116]), .v (.str [115, 99, 114, 105, 112, 116]), .v (.str [115, 116, 121, 108, 101]), .v (.str [115, 118, 103]), .v (.str [116, 101, 109, 112, 108, 97, 116, 101])]), m 0 1] [0],
  .ret]
theorem i_guard_Names : image Tryz.prog Tryz.f28 [[], [0]] 0 = some (c_guard_Names, [.t 0]) := by kernel_rfl

abbrev n_slices_IndexIIstring_string : Nat := 70
theorem h_slices_IndexIIstring_string : Tryz.prog.funcs[70]? = some Tryz.f70 := Tryz.func70
def c_slices_IndexIIstring_string : AC :=
  Q [.reg [mi 4 0] [0, 1],
  Q [.reg [m 6 0, lq 7 6, mi 8 0] [0, 1, 7, 8],
   .block 0 (.loop [0, 1, 7, 8] (Q [.reg [bt 9 .lss 8 7] [0, 1, 7, 8, 9],
      C 9 (.skip) (.exit 0),
      .block 1 (Q [.reg [m 10 8, m 5 10] [0, 1, 5, 7, 8],
        .reg [m 11 1, m 12 0, m 13 5, ia 14 12 13 1, l1 15 14, bt 16 .eql 11 15] [0, 1, 5, 7, 8, 16],
        C 16 (Q [.reg [m 17 5, m 4 17] [4],
          .ret]) (.skip)]),
      .reg [bi 18 .add 8 1, m 8 18] [0, 1, 7, 8]]))],
  .reg [mi 4 (-1)] [4],
  .ret]
theorem i_slices_IndexIIstring_string : image Tryz.prog Tryz.f70 [[0, 1], [0, 1, 7, 8], [0, 1, 7, 8], [0, 1, 7, 8, 9], [0, 1, 5, 7, 8], [0, 1, 5, 7, 8, 16], [4], [0, 1, 7, 8], [4]] 2 = some (c_slices_IndexIIstring_string, [.t 4]) := by kernel_rfl

abbrev n_slices_ContainsIIstring_string : Nat := 48
theorem h_slices_ContainsIIstring_string : Tryz.prog.funcs[48]? = some Tryz.f48 := Tryz.func48
def c_slices_ContainsIIstring_string : AC :=
  Q [.reg [mb 4 false] [0, 1],
  .reg [m 5 0, m 6 1, ca 7 70 [5, 6], bi 8 .geq 7 0, m 4 8] [4],
  .ret]
theorem i_slices_ContainsIIstring_string : image Tryz.prog Tryz.f48 [[0, 1], [4]] 2 = some (c_slices_ContainsIIstring_string, [.t 4]) := by kernel_rfl

abbrev n_guard_named : Nat := 30
theorem h_guard_named : Tryz.prog.funcs[30]? = some Tryz.f30 := Tryz.func30
def c_guard_named : AC :=
  Q [.reg [mb 2 false] [0],
  .reg [ca 3 28 [], m 4 0, ca 5 48 [3, 4], m 2 5] [2],
  .ret]
theorem i_guard_named : image Tryz.prog Tryz.f30 [[0], [2]] 1 = some (c_guard_named, [.t 2]) := by kernel_rfl

abbrev n_slices_IndexFuncIIapi_Attr_api_Attr : Nat := 67
theorem h_slices_IndexFuncIIapi_Attr_api_Attr : Tryz.prog.funcs[67]? = some Tryz.f67 := Tryz.func67
def c_slices_IndexFuncIIapi_Attr_api_Attr : AC :=
  Q [.reg [mi 4 0] [0, 1],
  Q [.reg [m 6 0, lq 7 6, mi 8 0] [0, 1, 7, 8],
   .block 0 (.loop [0, 1, 7, 8] (Q [.reg [bt 9 .lss 8 7] [0, 1, 7, 8, 9],
      C 9 (.skip) (.exit 0),
      .block 1 (Q [.reg [m 10 8, m 5 10] [0, 1, 5, 7, 8],
        .reg [m 11 1, m 12 0, m 13 5, ia 14 12 13 2, la 15 14 2, cv 16 11 [15]] [0, 1, 5, 7, 8, 16],
        C 16 (Q [.reg [m 17 5, m 4 17] [4],
          .ret]) (.skip)]),
      .reg [bi 18 .add 8 1, m 8 18] [0, 1, 7, 8]]))],
  .reg [mi 4 (-1)] [4],
  .ret]
theorem i_slices_IndexFuncIIapi_Attr_api_Attr : image Tryz.prog Tryz.f67 [[0, 1], [0, 1, 7, 8], [0, 1, 7, 8], [0, 1, 7, 8, 9], [0, 1, 5, 7, 8], [0, 1, 5, 7, 8, 16], [4], [0, 1, 7, 8], [4]] 2 = some (c_slices_IndexFuncIIapi_Attr_api_Attr, [.t 4]) := by kernel_rfl

abbrev n_slices_ContainsFuncIIapi_Attr_api_Attr : Nat := 46
theorem h_slices_ContainsFuncIIapi_Attr_api_Attr : Tryz.prog.funcs[46]? = some Tryz.f46 := Tryz.func46
def c_slices_ContainsFuncIIapi_Attr_api_Attr : AC :=
  Q [.reg [mb 4 false] [0, 1],
  .reg [m 5 0, m 6 1, ca 7 67 [5, 6], bi 8 .geq 7 0, m 4 8] [4],
  .ret]
theorem i_slices_ContainsFuncIIapi_Attr_api_Attr : image Tryz.prog Tryz.f46 [[0, 1], [4]] 2 = some (c_slices_ContainsFuncIIapi_Attr_api_Attr, [.t 4]) := by kernel_rfl

abbrev n_internal_stringslite_HasPrefix : Nat := 85
theorem h_internal_stringslite_HasPrefix : Tryz.prog.funcs[85]? = some Tryz.f85 := Tryz.func85
def c_internal_stringslite_HasPrefix : AC :=
  Q [.reg [mb 4 false] [0, 1],
  .reg [m 5 0, ls 6 5, m 7 1, ls 8 7, bt 9 .geq 6 8, m 10 9, gt 10 (m 11 0), gt 10 (m 12 1), gt 10 (ls 13 12), gt 10 (o1 14 (.sls (.t 11) none (some (.t 13)))), gt 10 (m 15 1), gt 10 (bt 16 .eql 14 15), pa 17 10 16, m 4 17] [4],
  .ret]
theorem i_internal_stringslite_HasPrefix : image Tryz.prog Tryz.f85 [[0, 1], [4]] 2 = some (c_internal_stringslite_HasPrefix, [.t 4]) := by kernel_rfl

abbrev n_strings_HasPrefix : Nat := 68
theorem h_strings_HasPrefix : Tryz.prog.funcs[68]? = some Tryz.f68 := Tryz.func68
def c_strings_HasPrefix : AC :=
  Q [.reg [mb 4 false] [0, 1],
  .reg [m 5 0, m 6 1, ca 7 85 [5, 6], m 4 7] [4],
  .ret]
theorem i_strings_HasPrefix : image Tryz.prog Tryz.f68 [[0, 1], [4]] 2 = some (c_strings_HasPrefix, [.t 4]) := by kernel_rfl

abbrev n_guard_safe : Nat := 50
theorem h_guard_safe : Tryz.prog.funcs[50]? = some Tryz.f50 := Tryz.func50
def c_guard_safe : AC :=
  Q [.reg [o1 0 (.alc [.int .i64 0, .nil 1, .str []])] [0],
  .reg [o1 1 (.lit 1 [.v (.str [104, 116, 116, 112]), .v (.str [104, 116, 116, 112, 115]), .v (.str [109, 97, 105, 108, 116, 111])]), o1 2 (.bld [.int .i64 0, .nil 1, .str []] [(0, 1, (.v (.int .i64 3))), (1, 1, (.t 1))]), st 3 0 2] [0],
  .ret]
theorem i_guard_safe : image Tryz.prog Tryz.f50 [[0], [0]] 0 = some (c_guard_safe, [.c 0 3 true]) := by kernel_rfl

abbrev n_lang_isValue : Nat := 86
theorem h_lang_isValue : Tryz.prog.funcs[86]? = some Tryz.f86 := Tryz.func86
def c_lang_isValue : AC :=
  Q [.reg [mb 2 false] [0],
  Q [.reg [mi 3 0] [0, 3],
   .block 0 (.loop [0, 3] (Q [Q [.reg [m 4 3, m 5 0, ls 6 5, bt 7 .lss 4 6] [0, 3, 7],
       C 7 (.skip) (.exit 0)],
      .block 1 (Q [.reg [m 10 0, m 11 3, ix 12 10 11, bu 13 .lss 12 32, m 14 13, gf 14 (m 15 0), gf 14 (m 16 3), gf 14 (ix 17 15 16), gf 14 (bu 18 .gtr 17 126), po 19 14 18] [0, 3, 19],
        C 19 (Q [.reg [mb 2 false] [2],
          .ret]) (.skip)]),
      .reg [m 8 3, bi 9 .add 8 1, m 3 9] [0, 3]]))],
  .reg [mb 2 true] [2],
  .ret]
theorem i_lang_isValue : image Tryz.prog Tryz.f86 [[0], [0, 3], [0, 3], [0, 3, 7], [0, 3, 19], [2], [0, 3], [2]] 1 = some (c_lang_isValue, [.t 2]) := by kernel_rfl

abbrev n_internal_stringslite_IndexByte : Nat := 118
theorem h_internal_stringslite_IndexByte : Tryz.prog.funcs[118]? = some Tryz.f118 := Tryz.func118
def c_internal_stringslite_IndexByte : AC :=
  Q [.reg [mi 4 0] [0, 1],
  .reg [m 5 0, m 6 1, ca 7 128 [5, 6], m 4 7] [4],
  .ret]
theorem i_internal_stringslite_IndexByte : image Tryz.prog Tryz.f118 [[0, 1], [4]] 2 = some (c_internal_stringslite_IndexByte, [.t 4]) := by kernel_rfl

abbrev n_internal_stringslite_Index : Nat := 110
theorem h_internal_stringslite_Index : Tryz.prog.funcs[110]? = some Tryz.f110 := Tryz.func110
def c_internal_stringslite_Index : AC :=
  Q [.reg [mi 4 0] [0, 1],
  .reg [m 14 1, ls 15 14, m 5 15] [0, 1, 5],
  .block 0 (Q [.reg [m 17 5, bi 18 .eql 17 0, m 19 18, gf 19 (m 20 1), gf 19 (m 21 0), gf 19 (bt 22 .eql 20 21), po 23 19 22, m 16 23] [0, 1, 5, 16],
    C 16 (Q [.reg [mi 4 0] [4],
      .ret]) (Q [.reg [m 25 5, bi 26 .eql 25 1, m 24 26] [0, 1, 5, 24],
      C 24 (Q [.reg [m 27 0, m 28 1, o1 29 (.ixs (.t 28) (.v (.int .i64 0))), ca 30 118 [27, 29], m 4 30] [4],
        .ret]) (Q [.reg [m 32 5, m 33 0, ls 34 33, bt 35 .geq 32 34, m 31 35] [0, 1, 5, 31],
        C 31 (Q [.reg [mi 4 (-1)] [4],
          .ret]) (Q [.reg [m 37 5, o1 38 (.bad), bt 39 .leq 37 38, m 40 39, gt 40 (m 41 0), gt 40 (ls 42 41), gt 40 (bi 43 .leq 42 64), pa 44 40 43, m 36 44] [0, 1, 5, 36],
          C 36 (Q [.reg [m 45 0, m 46 1, ca 47 119 [45, 46], m 4 47] [4],
            .ret]) (.skip)])])])]),
  .reg [m 48 1, o1 49 (.ixs (.t 48) (.v (.int .i64 0))), m 6 49] [0, 1, 5, 6],
  .reg [m 50 1, o1 51 (.ixs (.t 50) (.v (.int .i64 1))), m 7 51] [0, 1, 5, 6, 7],
  .reg [mi 8 0] [0, 1, 5, 6, 7, 8],
  .reg [m 52 0, ls 53 52, m 54 5, bt 55 .sub 53 54, bi 56 .add 55 1, m 9 56] [0, 1, 5, 6, 7, 8, 9],
  .reg [mi 10 0] [0, 1, 5, 6, 7, 8, 9, 10],
  .block 1 (.loop [0, 1, 5, 6, 7, 8, 9, 10] (Q [Q [.reg [m 57 8, m 58 9, bt 59 .lss 57 58] [0, 1, 5, 6, 7, 8, 9, 10, 59],
      C 59 (.skip) (.exit 1)],
     .block 2 (Q [Q [.reg [m 60 0, m 61 8, ix 62 60 61, m 63 6, bt 64 .neq 62 63] [0, 1, 5, 6, 7, 8, 9, 10, 64],
        C 64 (Q [.reg [m 65 0, m 66 8, bi 67 .add 66 1, m 68 9, o1 69 (.sls (.t 65) (some (.t 67)) (some (.t 68))), m 70 6, ca 71 118 [69, 70], m 11 71] [0, 1, 5, 6, 7, 8, 9, 10, 11],
          Q [.reg [m 72 11, bi 73 .lss 72 0] [0, 1, 5, 6, 7, 8, 9, 10, 11, 73],
           C 73 (Q [.reg [mi 4 (-1)] [4],
             .ret]) (.skip)],
          .reg [m 74 8, m 75 11, bi 76 .add 75 1, bt 77 .add 74 76, m 8 77] [0, 1, 5, 6, 7, 8, 9, 10]]) (.skip)],
       Q [.reg [m 78 0, m 79 8, bi 80 .add 79 1, ix 81 78 80, m 82 7, bt 83 .eql 81 82, m 84 83, gt 84 (m 85 0), gt 84 (m 86 8), gt 84 (m 87 8), gt 84 (m 88 5), gt 84 (bt 89 .add 87 88), gt 84 (o1 90 (.sls (.t 85) (some (.t 86)) (some (.t 89)))), gt 84 (m 91 1), gt 84 (bt 92 .eql 90 91), pa 93 84 92] [0, 1, 5, 6, 7, 8, 9, 10, 93],
        C 93 (Q [.reg [m 94 8, m 4 94] [4],
          .ret]) (.skip)],
       .reg [m 95 8, bi 96 .add 95 1, m 8 96] [0, 1, 5, 6, 7, 8, 9, 10],
       .reg [m 97 10, bi 98 .add 97 1, m 10 98] [0, 1, 5, 6, 7, 8, 9, 10],
       .reg [m 99 5, o1 100 (.bad), bt 101 .leq 99 100, m 102 101, gt 102 (m 103 10), gt 102 (m 104 8), gt 102 (ca 105 120 [104]), gt 102 (bt 106 .gtr 103 105), pa 107 102 106] [0, 1, 5, 6, 7, 8, 9, 10, 107],
       C 107 (Q [.reg [m 108 0, m 109 8, o1 110 (.sls (.t 108) (some (.t 109)) none), m 111 1, ca 112 119 [110, 111], m 12 112] [8, 12],
         Q [.reg [m 113 12, bi 114 .geq 113 0] [8, 12, 114],
          C 114 (Q [.reg [m 115 12, m 116 8, bt 117 .add 115 116, m 4 117] [4],
            .ret]) (.skip)],
         .reg [mi 4 (-1)] [4],
         .ret]) (Q [.reg [m 118 5, o1 119 (.bad), bt 120 .gtr 118 119, m 121 120, gt 121 (m 122 10), gt 121 (m 123 8), gt 121 (o1 124 (.bin .shr (.t 123) (.v (.int .u64 4)))), gt 121 (o1 125 (.bin .add (.v (.int .i64 4)) (.t 124))), gt 121 (bt 126 .geq 122 125), pa 127 121 126, m 128 127, gt 128 (m 129 8), gt 128 (m 130 9), gt 128 (bt 131 .lss 129 130), pa 132 128 131] [0, 1, 5, 6, 7, 8, 9, 10, 132],
         C 132 (Q [.reg [m 133 0, m 134 8, o1 135 (.sls (.t 133) (some (.t 134)) none), m 136 1, ca 137 121 [135, 136], m 13 137] [8, 13],
           Q [.reg [m 138 13, bi 139 .lss 138 0] [8, 13, 139],
            C 139 (Q [.reg [mi 4 (-1)] [4],
              .ret]) (.skip)],
           .reg [m 140 8, m 141 13, bt 142 .add 140 141, m 4 142] [4],
           .ret]) (.skip)])])])),
  .reg [mi 4 (-1)] [4],
  .ret]
theorem i_internal_stringslite_Index : image Tryz.prog Tryz.f110 [[0, 1], [0, 1, 5], [0, 1, 5, 16], [4], [0, 1, 5, 24], [4], [0, 1, 5, 31], [4], [0, 1, 5, 36], [4], [0, 1, 5, 6], [0, 1, 5, 6, 7], [0, 1, 5, 6, 7, 8], [0, 1, 5, 6, 7, 8, 9], [0, 1, 5, 6, 7, 8, 9, 10], [0, 1, 5, 6, 7, 8, 9, 10], [0, 1, 5, 6, 7, 8, 9, 10, 59], [0, 1, 5, 6, 7, 8, 9, 10, 64], [0, 1, 5, 6, 7, 8, 9, 10, 11], [0, 1, 5, 6, 7, 8, 9, 10, 11, 73], [4], [0, 1, 5, 6, 7, 8, 9, 10], [0, 1, 5, 6, 7, 8, 9, 10, 93], [4], [0, 1, 5, 6, 7, 8, 9, 10], [0, 1, 5, 6, 7, 8, 9, 10], [0, 1, 5, 6, 7, 8, 9, 10, 107], [8, 12], [8, 12, 114], [4], [4], [0, 1, 5, 6, 7, 8, 9, 10, 132], [8, 13], [8, 13, 139], [4], [4], [4]] 2 = some (c_internal_stringslite_Index, [.t 4]) := by kernel_rfl

abbrev n_internal_stringslite_Cut : Nat := 97
theorem h_internal_stringslite_Cut : Tryz.prog.funcs[97]? = some Tryz.f97 := Tryz.func97
def c_internal_stringslite_Cut : AC :=
  Q [.reg [mv 4 (.str []), mv 5 (.str []), mb 6 false] [0, 1],
  Q [.reg [m 8 0, m 9 1, ca 10 110 [8, 9], m 7 10] [0, 1, 7],
   .reg [m 11 7, bi 12 .geq 11 0] [0, 1, 7, 12],
   C 12 (Q [.regD [m 13 0, m 14 7, o1 15 (.sls (.t 13) none (some (.t 14))), m 16 0, m 17 7, m 18 1, ls 19 18, bt 20 .add 17 19, o1 21 (.sls (.t 16) (some (.t 20)) none), m 4 15, m 5 21, mb 6 true] [4, 5, 6],
     .ret]) (.skip)],
  .reg [m 22 0, m 4 22, mv 5 (.str []), mb 6 false] [4, 5, 6],
  .ret]
theorem i_internal_stringslite_Cut : image Tryz.prog Tryz.f97 [[0, 1], [0, 1, 7], [0, 1, 7, 12], [0, 0, 0, 3, 0, 0, 0, 32, 112, 248, 7, 1023, 2047], [0, 1, 2, 3, 4, 5, 6, 7, 8, 9, 10, 11], [4, 5, 6], [4, 5, 6]] 2 = some (c_internal_stringslite_Cut, [.t 4, .t 5, .t 6]) := by kernel_rfl

abbrev n_strings_Cut : Nat := 87
theorem h_strings_Cut : Tryz.prog.funcs[87]? = some Tryz.f87 := Tryz.func87
def c_strings_Cut : AC :=
  Q [.reg [mv 4 (.str []), mv 5 (.str []), mb 6 false] [0, 1],
  .reg [m 7 0, m 8 1, ca 9 97 [7, 8], ex 10 9 0, ex 11 9 1, ex 12 9 2, m 4 10, m 5 11, m 6 12] [4, 5, 6],
  .ret]
theorem i_strings_Cut : image Tryz.prog Tryz.f87 [[0, 1], [4, 5, 6]] 2 = some (c_strings_Cut, [.t 4, .t 5, .t 6]) := by kernel_rfl

abbrev n_lang_Allows : Nat := 69
theorem h_lang_Allows : Tryz.prog.funcs[69]? = some Tryz.f69 := Tryz.func69
def c_lang_Allows : AC :=
  Q [.reg [bx 2 0, mb 4 false] [1, 2],
  Q [.reg [m 10 1, ca 11 86 [10], nt' 12 11] [1, 2, 12],
   C 12 (Q [.reg [mb 4 false] [4],
     .ret]) (.skip)],
  Q [.reg [fa 13 2 0, l1 14 13] [1, 2, 14],
   .block 0 (Q [.reg [bi 16 .eql 14 1, m 15 16] [1, 2, 14, 15],
     C 15 (Q [.reg [mb 4 true] [4],
       .ret]) (Q [.reg [bi 18 .eql 14 2, m 17 18] [1, 2, 14, 17],
       C 17 (Q [.reg [fa 19 2 1, l1 20 19, m 21 1, ca 22 48 [20, 21], m 4 22] [4],
         .ret]) (Q [.reg [bi 24 .eql 14 3, m 23 24] [1, 2, 14, 23],
         C 23 (Q [.reg [m 26 1, o1 27 (.call 87 [.t 26, .v (.str [58])]), m 25 27, ex 28 25 0, ex 29 25 1, ex 30 25 2, m 5 28, m 6 29, m 7 30] [2, 5, 7],
           .reg [m 31 7, nt' 32 31, m 33 32, gf 33 (fa 34 2 1), gf 33 (l1 35 34), gf 33 (m 36 5), gf 33 (ca 37 48 [35, 36]), po 38 33 37, m 4 38] [4],
           .ret]) (Q [.reg [bi 40 .eql 14 4, m 39 40] [1, 2, 39],
           C 39 (Q [.reg [fa 42 2 2, l1 43 42, ca 44 88 [43], m 41 44, ex 45 41 0, ex 46 41 1, m 8 45, m 9 46] [1, 8, 9],
             .reg [m 47 9, bi 48 .eql 47 0, m 49 48, gt 49 (m 50 8), gt 49 (m 51 1), gt 49 (ca 52 89 [50, 51]), pa 53 49 52, m 4 53] [4],
             .ret]) (.skip)])])])])],
  .reg [mb 4 false] [4],
  .ret]
theorem i_lang_Allows : image Tryz.prog Tryz.f69 [[1, 2], [1, 2, 12], [4], [1, 2, 14], [1, 2, 14, 15], [4], [1, 2, 14, 17], [4], [1, 2, 14, 23], [2, 5, 7], [4], [1, 2, 39], [1, 8, 9], [4], [4]] 2 = some (c_lang_Allows, [.t 4]) := by kernel_rfl

abbrev n_guard_harmful : Nat := 47
theorem h_guard_harmful : Tryz.prog.funcs[47]? = some Tryz.f47 := Tryz.func47
def c_guard_harmful : AC :=
  Q [.reg [bx 1 0, mb 2 false] [1],
  Q [.reg [fa 3 1 0, l1 4 3, o1 5 (.call 68 [.t 4, .v (.str [111, 110])])] [1, 5],
   C 5 (Q [.reg [mb 2 true] [2],
     .ret]) (.skip)],
  Q [.reg [fa 6 1 0, l1 7 6] [1, 7],
   .block 0 (Q [Q [.reg [bs 9 .eql 7 [97, 99, 116, 105, 111, 110], m 8 9] [1, 7, 8],
      C 8 (.skip) (Q [.reg [bs 10 .eql 7 [104, 114, 101, 102], m 8 10] [1, 7, 8],
        C 8 (.skip) (.reg [bs 11 .eql 7 [115, 114, 99], m 8 11] [1, 8])])],
     C 8 (Q [.regD [ca 12 50 [], fa 13 1 1, l1 14 13, ca 15 69 [12, 14], nt' 16 15, m 2 16] [2],
       .ret]) (.skip)])],
  .reg [mb 2 false] [2],
  .ret]
theorem i_guard_harmful : image Tryz.prog Tryz.f47 [[1], [1, 5], [2], [1, 7], [1, 7, 8], [1, 7, 8], [1, 8], [0, 0, 0, 2, 7, 15, 31], [0, 1, 2, 3, 4, 5], [2], [2]] 1 = some (c_guard_harmful, [.t 2]) := by kernel_rfl

abbrev n_guard_Dangerous : Nat := 27
theorem h_guard_Dangerous : Tryz.prog.funcs[27]? = some Tryz.f27 := Tryz.func27
def c_guard_Dangerous : AC :=
  Q [.reg [bx 1 0, mb 2 false] [1],
  Q [.reg [fa 3 1 0, l1 4 3, bi 5 .neq 4 1] [1, 5],
   C 5 (Q [.reg [mb 2 false] [2],
     .ret]) (.skip)],
  .reg [fa 6 1 1, l1 7 6, ca 8 30 [7], m 9 8, gf 9 (fa 10 1 2), gf 9 (l1 11 10), gf 9 (o1 12 (.call 46 [.t 11, .v (.fn (.func 47) [] [])])), po 13 9 12, m 2 13] [2],
  .ret]
theorem i_guard_Dangerous : image Tryz.prog Tryz.f27 [[1], [1, 5], [2], [2]] 1 = some (c_guard_Dangerous, [.t 2]) := by kernel_rfl

abbrev n_guard_Any_1 : Nat := 26
theorem h_guard_Any_1 : Tryz.prog.funcs[26]? = some Tryz.f26 := Tryz.func26
def c_guard_Any_1 : AC :=
  Q [.reg [bx 1 0, mb 2 false] [1],
  .reg [la 3 1 5, ca 4 27 [3], m 5 4, gf 5 (fa 6 1 4), gf 5 (l1 7 6), gf 5 (ca 8 9 [7]), po 9 5 8, m 2 9] [2],
  .ret]
theorem i_guard_Any_1 : image Tryz.prog Tryz.f26 [[1], [2]] 1 = some (c_guard_Any_1, [.t 2]) := by kernel_rfl

abbrev n_guard_Any : Nat := 9
theorem h_guard_Any : Tryz.prog.funcs[9]? = some Tryz.f9 := Tryz.func9
def c_guard_Any : AC :=
  Q [.reg [mb 2 false] [0],
  .reg [m 3 0, o1 4 (.call 25 [.t 3, .v (.fn (.func 26) [] [])]), m 2 4] [2],
  .ret]
theorem i_guard_Any : image Tryz.prog Tryz.f9 [[0], [2]] 1 = some (c_guard_Any, [.t 2]) := by kernel_rfl

abbrev n_law21_lives : Nat := 10
theorem h_law21_lives : Tryz.prog.funcs[10]? = some Tryz.f10 := Tryz.func10
def c_law21_lives : AC :=
  Q [.reg [mb 0 false] [],
  .reg [o1 3 (.bld [.str [], .str []] [(0, 1, (.v (.str [104, 114, 101, 102]))), (1, 1, (.v (.str [106, 97, 118, 97, 115, 99, 114, 105, 112, 116, 58, 120])))]), o1 4 (.lit 2 [.t 3]), o1 5 (.bld [.int .i64 0, .str [], .nil 2, .str [], .nil 5] [(0, 1, (.v (.int .i64 1))), (1, 1, (.v (.str [97]))), (2, 1, (.t 4))]), o1 1 (.alc [.int .i64 0, .str [], .nil 2, .str [], .nil 5]), st 5 1 5] [1],
  .reg [o1 6 (.bld [.str [], .str []] [(0, 1, (.v (.str [104, 114, 101, 102]))), (1, 1, (.v (.str [47, 120])))]), o1 7 (.lit 2 [.t 6]), o1 8 (.bld [.int .i64 0, .str [], .nil 2, .str [], .nil 5] [(0, 1, (.v (.int .i64 1))), (1, 1, (.v (.str [97]))), (2, 1, (.t 7))]), o1 2 (.alc [.int .i64 0, .str [], .nil 2, .str [], .nil 5]), st 5 2 8] [1, 2],
  .reg [la 9 1 5, ca 10 27 [9], m 11 10, gt 11 (la 12 2 5), gt 11 (ca 13 27 [12]), gt 11 (nt' 14 13), pa 15 11 14, m 16 15, gt 16 (ca 17 28 []), gt 16 (lq 18 17), gt 16 (bi 19 .eql 18 8), pa 20 16 19, m 0 20] [0],
  .ret]
theorem i_law21_lives : image Tryz.prog Tryz.f10 [[], [1], [1, 2], [0]] 0 = some (c_law21_lives, [.t 0]) := by kernel_rfl

abbrev n_law21_GuardMeek : Nat := 3
theorem h_law21_GuardMeek : Tryz.prog.funcs[3]? = some Tryz.f3 := Tryz.func3
def c_law21_GuardMeek : AC :=
  Q [.reg [bx 2 0, mb 4 false] [1, 2],
  .reg [la 8 2 3, ca 9 5 [8], o1 5 (.alc [.nil 1, .nil 3, .nil 1]), st 3 5 9] [1, 5],
  .reg [la 10 5 3, ca 11 6 [10], o1 6 (.alc [.nil 1, .nil 3, .nil 1]), st 3 6 11] [1, 6],
  .reg [m 12 1, ca 13 7 [12], m 7 13] [6, 7],
  .reg [la 14 6 3, m 15 7, ca 16 8 [14, 15], nt' 17 16, m 18 17, gf 18 (m 19 7), gf 18 (ca 20 9 [19]), gf 18 (nt' 21 20), po 22 18 21, m 23 22, gt 23 (ca 24 10 []), pa 25 23 24, m 4 25] [4],
  .ret]
theorem i_law21_GuardMeek : image Tryz.prog Tryz.f3 [[1, 2], [1, 5], [1, 6], [6, 7], [4]] 2 = some (c_law21_GuardMeek, [.t 4]) := by kernel_rfl

abbrev n_internal_bytealg_IndexByteString : Nat := 128
theorem h_internal_bytealg_IndexByteString : Tryz.prog.funcs[128]? = some Tryz.f128 := Tryz.func128

end Go.Abs
