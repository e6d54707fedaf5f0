/-
  The images of some of the program's functions, as the kernel reckons them. Made by program. No condition.
-/
import Derived.Test.YtpblinccnkidfaaDoorAbs15
import Derived.Test.YtpblinccnkidfaaDoorProg
import Derived.KernelRfl
set_option maxRecDepth 100000
namespace Go.Abs
open Go.Proofs

abbrev zs (n : Nat) (v : V) : List V := List.replicate n v
abbrev kz (n : Nat) (k : KK) : List KK := List.replicate n k
abbrev ty_func : Nat := 1
abbrev ty_int64 : Nat := 2
abbrev ty_int : Nat := 3
abbrev ty_bool : Nat := 4
abbrev ty_uint8 : Nat := 5
abbrev ty_abi_BoundsErrorCode : Nat := 6
abbrev ty_runtime_boundsError : Nat := 8
abbrev ty_string : Nat := 9
abbrev ty_runtime_errorString : Nat := 10
abbrev ty_runtime_plainError : Nat := 11
abbrev ty_uintptr : Nat := 12
abbrev ty_structmsgstringaddruintptr : Nat := 13
abbrev ty_runtime_errorAddressString : Nat := 14
abbrev ty_pruntime_TypeAssertionError : Nat := 15
abbrev ty_pruntime_PanicNilError : Nat := 16
abbrev ty_pabi_Type : Nat := 17
abbrev ty_structtyppabi_Type : Nat := 18
abbrev ty_maps_unhashableTypeError : Nat := 19
abbrev ty_interface : Nat := 20
abbrev ty_int32 : Nat := 21
abbrev ty_IIint : Nat := 22
abbrev ty_Ibool : Nat := 23
abbrev ty_structNextIIintFinalIbool : Nat := 24
abbrev ty_api_Auto : Nat := 25
abbrev ty_funcIIint_Iboolapi_Auto : Nat := 26
abbrev ty_string_bool : Nat := 27
abbrev ty_funcapi_Autostring_bool : Nat := 28
abbrev ty_funcapi_Autoint : Nat := 29
abbrev ty_funcbool : Nat := 30
abbrev ty_funcapi_Auto_int_stringbool : Nat := 31
abbrev ty_funcstringstring : Nat := 32
abbrev ty_funcapi_Auto_stringbool : Nat := 33
abbrev ty_funcIIint_Ibool_stringbool : Nat := 34
abbrev ty_api_Errno : Nat := 35
abbrev ty_funcapi_Autoapi_Errno : Nat := 36
abbrev ty_funcapi_Autobool : Nat := 37
abbrev ty_funcapi_Auto : Nat := 38
abbrev ty_funcapi_Autoapi_Auto : Nat := 40
abbrev ty_funcapi_Auto_api_Autobool : Nat := 41
abbrev ty_funcIint_Iintbool : Nat := 42
abbrev ty_Iint : Nat := 43
abbrev ty_api_Auto_api_Errno : Nat := 45
abbrev ty_funcIIint_Iboolbool : Nat := 50
abbrev ty_funcint_intint : Nat := 51
abbrev ty_funcintbool : Nat := 53
abbrev ty_pregex_Regex : Nat := 54
abbrev ty_pregex_Regex_api_Errno : Nat := 55
abbrev ty_funcapi_Netapi_Auto_api_Errno : Nat := 57
abbrev ty_Iapi_Edge : Nat := 58
abbrev ty_api_Net : Nat := 60
abbrev ty_funcapi_Net : Nat := 61
abbrev ty_funcapi_Auto_int_intbool : Nat := 62
abbrev ty_funcboolapi_Auto : Nat := 63
abbrev ty_IIbool : Nat := 64
abbrev ty_funcapi_AutoIIbool : Nat := 65
abbrev ty_funcbool_boolbool : Nat := 67
abbrev ty_Idfa_pair : Nat := 68
abbrev ty_Idfa_pair_IIint_bool : Nat := 69
abbrev ty_structoneinttwoint : Nat := 71
abbrev ty_dfa_pair : Nat := 72
abbrev ty_funcdfa_pair_intdfa_pair : Nat := 73
abbrev ty_pdfa_metIint : Nat := 75
abbrev ty_func___intpdfa_metIint : Nat := 76
abbrev ty_Iuint8 : Nat := 77
abbrev ty_mapIintint : Nat := 78
abbrev ty_structnumbermapIintintlistIint : Nat := 79
abbrev ty_dfa_metIint : Nat := 80
abbrev ty_funcIint_Iuint8_intstring : Nat := 81
abbrev ty_funcintint : Nat := 82
abbrev ty_pregex_reader : Nat := 83
abbrev ty_structsstringiint : Nat := 84
abbrev ty_regex_reader : Nat := 85
abbrev ty_regex_part : Nat := 87
abbrev ty_regex_part_bool : Nat := 88
abbrev ty_funcregex_part_bool : Nat := 89
abbrev ty_structpregex_part : Nat := 90
abbrev ty_regex_Regex : Nat := 91
abbrev ty_funcapi_Netapi_Errno : Nat := 92
abbrev ty_II95dfa_set : Nat := 93
abbrev ty_dfa_steps : Nat := 94
abbrev ty_funcapi_Netdfa_steps : Nat := 95
abbrev ty_I95bool : Nat := 96
abbrev ty_funcapi_NetI95bool : Nat := 97
abbrev ty_uint64 : Nat := 98
abbrev ty_I8uint64 : Nat := 99
abbrev ty_dfa_set : Nat := 100
abbrev ty_funcdfa_set_intdfa_set : Nat := 101
abbrev ty_Idfa_set : Nat := 102
abbrev ty_Idfa_set_IIint_bool : Nat := 103
abbrev ty_funcIintdfa_set : Nat := 105
abbrev ty_funcapi_Net_IintIint : Nat := 106
abbrev ty_pregex_maker : Nat := 107
abbrev ty_Iregex_job : Nat := 108
abbrev ty_regex_maker : Nat := 110
abbrev ty_funcregex_part_int_int : Nat := 111
abbrev ty_funcpregex_Regexregex_part : Nat := 112
abbrev ty_structpregex_partfrominttoint : Nat := 113
abbrev ty_regex_job : Nat := 114
abbrev ty_funcpregex_maker_int_int : Nat := 115
abbrev ty_Iint_IIint_bool : Nat := 116
abbrev ty_funcIIint_IboolIint : Nat := 118
abbrev ty_funcdfa_pairbool : Nat := 120
abbrev ty_pdfa_metIdfa_pair : Nat := 121
abbrev ty_mapIdfa_pairint : Nat := 123
abbrev ty_dfa_metIdfa_pair : Nat := 125
abbrev ty_funcdfa_pairint : Nat := 126
abbrev ty_funcIuint8 : Nat := 127
abbrev ty_int_bool : Nat := 128
abbrev ty_Iregex_part : Nat := 129
abbrev ty_funcstringbool : Nat := 130
abbrev ty_func___regex_partregex_part : Nat := 131
abbrev ty_funcapi_Net_intbool : Nat := 132
abbrev ty_api_Edge : Nat := 134
abbrev ty_I95dfa_set : Nat := 135
abbrev ty_funcpdfa_set : Nat := 136
abbrev ty_pdfa_set : Nat := 137
abbrev ty_funcuint64int : Nat := 138
abbrev ty_pdfa_metIdfa_set : Nat := 139
abbrev ty_func___dfa_setpdfa_metIdfa_set : Nat := 140
abbrev ty_mapIdfa_setint : Nat := 141
abbrev ty_dfa_metIdfa_set : Nat := 143
abbrev ty_funcdfa_setint : Nat := 144
abbrev ty_funcIboolIint : Nat := 145
abbrev ty_funcapi_Edgebool : Nat := 147
abbrev ty_regex_set : Nat := 148
abbrev ty_pdfa_metIdfa_key : Nat := 149
abbrev ty_func___dfa_keypdfa_metIdfa_key : Nat := 150
abbrev ty_uint16 : Nat := 151
abbrev ty_I96uint16 : Nat := 152
abbrev ty_dfa_key : Nat := 153
abbrev ty_funcdfa_keyint : Nat := 154
abbrev ty_mapIdfa_keyint : Nat := 155
abbrev ty_Idfa_key : Nat := 156
abbrev ty_dfa_metIdfa_key : Nat := 158
abbrev ty_structpregex_partopuint8 : Nat := 159
abbrev ty_regex_rep : Nat := 160
abbrev ty_funcstring_uint8int : Nat := 161
abbrev ty_structlIregex_part : Nat := 162
abbrev ty_regex_alt : Nat := 163
abbrev ty_I64uint8 : Nat := 164
abbrev ty_uint : Nat := 165
abbrev ty_nfa_graph : Nat := 167
abbrev ty_funcIbool_IintIint : Nat := 169
abbrev ty_funcregex_set : Nat := 170
abbrev ty_uint8_bool : Nat := 171
abbrev ty_funcstringuint8_bool : Nat := 172
abbrev ty_funcuint8regex_set : Nat := 173
abbrev ty_regex_seq : Nat := 174
abbrev ty_funcuint8bool : Nat := 175
abbrev ty_funcstring : Nat := 176
abbrev ty_runtime_TypeAssertionError : Nat := 178
abbrev ty_I0pruntime_PanicNilError : Nat := 179
abbrev ty_structI0pruntime_PanicNilError : Nat := 180
abbrev ty_runtime_PanicNilError : Nat := 181
abbrev ty_funcint : Nat := 182
abbrev ty_uint32 : Nat := 183
abbrev ty_abi_TFlag : Nat := 184
abbrev ty_abi_Kind : Nat := 185
abbrev ty_puint8 : Nat := 187
abbrev ty_abi_NameOff : Nat := 188
abbrev ty_abi_TypeOff : Nat := 189
abbrev ty_abi_Type : Nat := 191
abbrev ty_pregex_set : Nat := 192
abbrev ty_funcint_int : Nat := 193
abbrev ty_unsafe_Pointer : Nat := 194
attribute [simp] ty_I0pruntime_PanicNilError ty_I64uint8 ty_I8uint64 ty_I95bool ty_I95dfa_set ty_I96uint16 ty_II95dfa_set ty_IIbool ty_IIint ty_Iapi_Edge ty_Ibool ty_Idfa_key ty_Idfa_pair ty_Idfa_pair_IIint_bool ty_Idfa_set ty_Idfa_set_IIint_bool ty_Iint ty_Iint_IIint_bool ty_Iregex_job ty_Iregex_part ty_Iuint8 ty_abi_BoundsErrorCode ty_abi_Kind ty_abi_NameOff ty_abi_TFlag ty_abi_Type ty_abi_TypeOff ty_api_Auto ty_api_Auto_api_Errno ty_api_Edge ty_api_Errno ty_api_Net ty_bool ty_dfa_key ty_dfa_metIdfa_key ty_dfa_metIdfa_pair ty_dfa_metIdfa_set ty_dfa_metIint ty_dfa_pair ty_dfa_set ty_dfa_steps ty_func ty_funcIIint_IboolIint ty_funcIIint_Ibool_stringbool ty_funcIIint_Iboolapi_Auto ty_funcIIint_Iboolbool ty_funcIboolIint ty_funcIbool_IintIint ty_funcIint_Iintbool ty_funcIint_Iuint8_intstring ty_funcIintdfa_set ty_funcIuint8 ty_func___dfa_keypdfa_metIdfa_key ty_func___dfa_setpdfa_metIdfa_set ty_func___intpdfa_metIint ty_func___regex_partregex_part ty_funcapi_Auto ty_funcapi_AutoIIbool ty_funcapi_Auto_api_Autobool ty_funcapi_Auto_int_intbool ty_funcapi_Auto_int_stringbool ty_funcapi_Auto_stringbool ty_funcapi_Autoapi_Auto ty_funcapi_Autoapi_Errno ty_funcapi_Autobool ty_funcapi_Autoint ty_funcapi_Autostring_bool ty_funcapi_Edgebool ty_funcapi_Net ty_funcapi_NetI95bool ty_funcapi_Net_IintIint ty_funcapi_Net_intbool ty_funcapi_Netapi_Auto_api_Errno ty_funcapi_Netapi_Errno ty_funcapi_Netdfa_steps ty_funcbool ty_funcbool_boolbool ty_funcboolapi_Auto ty_funcdfa_keyint ty_funcdfa_pair_intdfa_pair ty_funcdfa_pairbool ty_funcdfa_pairint ty_funcdfa_set_intdfa_set ty_funcdfa_setint ty_funcint ty_funcint_int ty_funcint_intint ty_funcintbool ty_funcintint ty_funcpdfa_set ty_funcpregex_Regexregex_part ty_funcpregex_maker_int_int ty_funcregex_part_bool ty_funcregex_part_int_int ty_funcregex_set ty_funcstring ty_funcstring_uint8int ty_funcstringbool ty_funcstringstring ty_funcstringuint8_bool ty_funcuint64int ty_funcuint8bool ty_funcuint8regex_set ty_int ty_int32 ty_int64 ty_int_bool ty_interface ty_mapIdfa_keyint ty_mapIdfa_pairint ty_mapIdfa_setint ty_mapIintint ty_maps_unhashableTypeError ty_nfa_graph ty_pabi_Type ty_pdfa_metIdfa_key ty_pdfa_metIdfa_pair ty_pdfa_metIdfa_set ty_pdfa_metIint ty_pdfa_set ty_pregex_Regex ty_pregex_Regex_api_Errno ty_pregex_maker ty_pregex_reader ty_pregex_set ty_pruntime_PanicNilError ty_pruntime_TypeAssertionError ty_puint8 ty_regex_Regex ty_regex_alt ty_regex_job ty_regex_maker ty_regex_part ty_regex_part_bool ty_regex_reader ty_regex_rep ty_regex_seq ty_regex_set ty_runtime_PanicNilError ty_runtime_TypeAssertionError ty_runtime_boundsError ty_runtime_errorAddressString ty_runtime_errorString ty_runtime_plainError ty_string ty_string_bool ty_structI0pruntime_PanicNilError ty_structNextIIintFinalIbool ty_structlIregex_part ty_structmsgstringaddruintptr ty_structnumbermapIintintlistIint ty_structoneinttwoint ty_structpregex_part ty_structpregex_partfrominttoint ty_structpregex_partopuint8 ty_structsstringiint ty_structtyppabi_Type ty_uint ty_uint16 ty_uint32 ty_uint64 ty_uint8 ty_uint8_bool ty_uintptr ty_unsafe_Pointer
abbrev n_law11_lives : Nat := 12
theorem h_law11_lives : Tryd.prog.funcs[12]? = some Tryd.f12 := Tryd.func12
def c_law11_lives : AC :=
  Q [.reg [mb 0 false] [],
  .reg [o1 8 (.callH 36 [.v (.str [97, 124, 98, 98])]), m 7 8, ex 9 7 0, ex 10 7 1, m 1 9, m 2 10] [1],
  Q [.reg [m 11 1, o1 12 (.nlq 0 false (.t 11))] [1, 12],
   C 12 (Q [.reg [mb 0 false] [0],
     .ret]) (.skip)],
  .reg [m 14 1, ch 15 38 [14], ca 16 37 [15], m 13 16, ex 17 13 0, ex 18 13 1, o1 3 (.alc [.nil 1, .nil 1]), st 2 3 17, m 4 18] [3, 4],
  Q [.reg [m 19 4, bi 20 .neq 19 0, m 21 20, gf 21 (la 22 3 2), gf 21 (ca 23 16 [22]), gf 21 (bi 24 .neq 23 0), po 25 21 24, m 26 25, gf 26 (fa 27 3 0), gf 26 (l1 28 27), gf 26 (lq 29 28), gf 26 (bi 30 .eql 29 0), po 31 26 30] [3, 31],
   C 31 (Q [.reg [mb 0 false] [0],
     .ret]) (.skip)],
  .reg [la 33 3 2, ca 34 10 [33], m 32 34, ex 35 32 0, ex 36 32 1, m 5 35, m 6 36] [3, 5, 6],
  .reg [m 37 5, bs 38 .eql 37 [97], m 39 38, gt 39 (m 40 6), pa 41 39 40, m 42 41, gt 42 (la 43 3 2), gt 42 (o1 44 (.call 20 [.t 43, .v (.str [98, 98])])), pa 45 42 44, m 46 45, gt 46 (la 47 3 2), gt 46 (o1 48 (.call 20 [.t 47, .v (.str [98])])), gt 46 (nt' 49 48), pa 50 46 49, m 0 50] [0],
  .ret]
theorem i_law11_lives : imageE Tryd.prog Tryd.f12 [] [36, 38, 63, 52, 74, 75, 87, 94, 93, 62, 117, 121, 118, 120, 122, 123, 119, 78, 51, 81, 86, 49, 80, 85, 91, 56, 58, 64, 65, 67, 34, 33, 35, 70, 71, 45, 68, 46, 72, 69, 73] [[], [1], [1, 12], [0], [3, 4], [3, 31], [0], [3, 5, 6], [0]] 0 = some (c_law11_lives, [.t 0]) := by kernel_rfl

abbrev n_dfa_Of : Nat := 37
theorem h_dfa_Of : Tryd.prog.funcs[37]? = some Tryd.f37 := Tryd.func37
def c_dfa_Of : AC :=
  Q [.reg [bx 1 0, o1 2 (.alc [.nil 1, .nil 1]), mi 3 0] [1, 2],
  Q [.reg [la 14 1 4, ca 15 53 [14], bi 16 .neq 15 0] [1, 2, 16],
   C 16 (Q [.reg [o1 17 (.bld [.nil 1, .nil 1] []), st 2 2 17, mi 3 1] [2, 3],
     .ret]) (.skip)],
  .regF (OQ [la 18 1 4, ca 19 54 [18], la 20 1 4, ca 21 55 [20]] (.both
     (OQ [o1 4 (.alc [.nil 760]), o1 5 (.alc (zs 95 (.bool false))), st 1 4 19, st 95 5 21] .nil)
     (OQ [o1 5 (.alc (zs 95 (.bool false))), o1 4 (.alc [.nil 760]), st 1 4 19, st 95 5 21] .nil))) [1, 2, 4, 5],
  .reg [o1 6 (.alc (zs 8 (.int .u64 0)))] [1, 2, 4, 5, 6],
  .reg [o1 22 (.mkf (.func 56) [] [.t 5, .t 4, .t 6]), m 7 22] [1, 2, 7],
  .reg [la 24 1 4, fa 25 1 1, l1 26 25, o1 27 (.lit 3 1 [.t 26]), ca 28 60 [24, 27], ca 29 59 [28], m 30 7, o1 31 (.callH 58 [.t 29, .t 30, .v (.int .i64 500)]), m 23 31, ex 32 23 0, ex 33 23 1, ex 34 23 2, m 8 32, m 9 33, m 10 34] [1, 2, 8, 9, 10],
  Q [.reg [m 35 10, nt' 36 35] [1, 2, 8, 9, 36],
   C 36 (Q [.reg [o1 37 (.bld [.nil 1, .nil 1] []), st 2 2 37, mi 3 3] [2, 3],
     .ret]) (.skip)],
  .reg [m 38 8, lq 39 38, o1 40 (.mks 4 1 1 (.bool false) (.t 39)), m 11 40] [1, 2, 8, 9, 11],
  Q [.reg [m 41 8, lq 42 41, mi 43 0] [1, 2, 9, 11, 41, 42, 43],
   .block 0 (.loop [1, 2, 9, 11, 41, 42, 43] (Q [.reg [bt 44 .lss 43 42] [1, 2, 9, 11, 41, 42, 43, 44],
      C 44 (.skip) (.exit 0),
      .block 1 (Q [.reg [m 45 43, ia 46 41 43 8, la 47 46 8, o1 13 (.alc (zs 8 (.int .u64 0))), m 12 45, st 8 13 47] [1, 2, 9, 11, 12, 13, 41, 42, 43],
        .reg [m 48 11, m 49 12, la 50 13 8, fa 51 1 2, l1 52 51, ca 53 61 [50, 52], ia 54 48 49 1, st 1 54 53] [1, 2, 9, 11, 41, 42, 43]]),
      .reg [bi 55 .add 43 1, m 43 55] [1, 2, 9, 11, 41, 42, 43]]))],
  .reg [m 56 9, m 57 11, ca 58 41 [56, 57], st 2 2 58, mi 3 0] [2, 3],
  .ret]
theorem i_dfa_Of : imageE Tryd.prog Tryd.f37 [] [36, 38, 63, 52, 74, 75, 87, 94, 93, 62, 117, 121, 118, 120, 122, 123, 119, 78, 51, 81, 86, 49, 80, 85, 91, 56, 58, 64, 65, 67, 34, 33, 35, 70, 71, 45, 68, 46, 72, 69, 73] [[1, 2], [1, 2, 16], [2, 3], [1, 0, 1, 0, 7, 0, 0, 63, 127], [1, 2, 4, 5], [1, 2, 4, 5, 6], [1, 2, 7], [1, 2, 8, 9, 10], [1, 2, 8, 9, 36], [2, 3], [1, 2, 8, 9, 11], [1, 2, 9, 11, 41, 42, 43], [1, 2, 9, 11, 41, 42, 43], [1, 2, 9, 11, 41, 42, 43, 44], [1, 2, 9, 11, 12, 13, 41, 42, 43], [1, 2, 9, 11, 41, 42, 43], [1, 2, 9, 11, 41, 42, 43], [2, 3]] 1 = some (c_dfa_Of, [.c 2 2 true, .t 3]) := by kernel_rfl

abbrev n_dfa_May : Nat := 16
theorem h_dfa_May : Tryd.prog.funcs[16]? = some Tryd.f16 := Tryd.func16
def c_dfa_May : AC :=
  Q [.reg [bx 1 0, mi 2 0] [1],
  .reg [fa 8 1 0, l1 9 8, lq 10 9, m 3 10] [1, 3],
  Q [.reg [m 11 3, bi 12 .lss 11 1, m 13 12, gf 13 (m 14 3), gf 13 (bi 15 .gtr 14 500), po 16 13 15, m 17 16, gf 17 (fa 18 1 1), gf 17 (l1 19 18), gf 17 (lq 20 19), gf 17 (m 21 3), gf 17 (bt 22 .neq 20 21), po 23 17 22] [1, 3, 23],
   C 23 (Q [.reg [mi 2 1] [2],
     .ret]) (.skip)],
  Q [.reg [fa 24 1 0, l1 25 24, lq 26 25, mi 27 0] [3, 25, 26, 27],
   .block 0 (.loop [3, 25, 26, 27] (Q [.reg [bt 28 .lss 27 26] [3, 25, 26, 27, 28],
      C 28 (.skip) (.exit 0),
      .block 1 (Q [.reg [ia 29 25 27 1, l1 30 29, m 5 30] [3, 5, 25, 26, 27],
        Q [.reg [m 31 5, lq 32 31, bi 33 .neq 32 95] [3, 5, 25, 26, 27, 33],
         C 33 (Q [.reg [mi 2 1] [2],
           .ret]) (.skip)],
        .reg [m 34 5, lq 35 34, mi 36 0] [3, 25, 26, 27, 34, 35, 36],
        .block 2 (.loop [3, 25, 26, 27, 34, 35, 36] (Q [.reg [bt 37 .lss 36 35] [3, 25, 26, 27, 34, 35, 36, 37],
           C 37 (.skip) (.exit 2),
           .block 3 (Q [.reg [ia 38 34 36 1, l1 39 38, m 7 39] [3, 7, 25, 26, 27, 34, 35, 36],
             .reg [m 40 7, bi 41 .lss 40 0, m 42 41, gf 42 (m 43 7), gf 42 (m 44 3), gf 42 (bt 45 .geq 43 44), po 46 42 45] [3, 25, 26, 27, 34, 35, 36, 46],
             C 46 (Q [.reg [mi 2 1] [2],
               .ret]) (.skip)]),
           .reg [bi 47 .add 36 1, m 36 47] [3, 25, 26, 27, 34, 35, 36]]))]),
      .reg [bi 48 .add 27 1, m 27 48] [3, 25, 26, 27]]))],
  .reg [mi 2 0] [2],
  .ret]
theorem i_dfa_May : image Tryd.prog Tryd.f16 [[1], [1, 3], [1, 3, 23], [2], [3, 25, 26, 27], [3, 25, 26, 27], [3, 25, 26, 27, 28], [3, 5, 25, 26, 27], [3, 5, 25, 26, 27, 33], [2], [3, 25, 26, 27, 34, 35, 36], [3, 25, 26, 27, 34, 35, 36], [3, 25, 26, 27, 34, 35, 36, 37], [3, 7, 25, 26, 27, 34, 35, 36], [3, 25, 26, 27, 34, 35, 36, 46], [2], [3, 25, 26, 27, 34, 35, 36], [3, 25, 26, 27], [2]] 1 = some (c_dfa_May, [.t 2]) := by kernel_rfl

abbrev n_dfa_Least : Nat := 10
theorem h_dfa_Least : Tryd.prog.funcs[10]? = some Tryd.f10 := Tryd.func10
def c_dfa_Least : AC :=
  Q [.reg [bx 1 0, mv 2 (.str []), mb 3 false] [1],
  Q [.reg [la 5 1 2, ca 6 16 [5], bi 7 .neq 6 0] [1, 7],
   C 7 (Q [.reg [mv 2 (.str []), mb 3 false] [2, 3],
     .ret]) (.skip)],
  .reg [o1 8 (.mkf (.func 33) [] [.t 1]), m 4 8] [1, 4],
  .reg [m 9 4, o1 10 (.mkf (.func 35) [] [.t 1]), o1 11 (.callH 34 [.v (.int .i64 0), .t 9, .t 10]), ex 12 11 0, ex 13 11 1, m 2 12, m 3 13] [2, 3],
  .ret]
theorem i_dfa_Least : imageE Tryd.prog Tryd.f10 [] [36, 38, 63, 52, 74, 75, 87, 94, 93, 62, 117, 121, 118, 120, 122, 123, 119, 78, 51, 81, 86, 49, 80, 85, 91, 56, 58, 64, 65, 67, 34, 33, 35, 70, 71, 45, 68, 46, 72, 69, 73] [[1], [1, 7], [2, 3], [1, 4], [2, 3]] 1 = some (c_dfa_Least, [.t 2, .t 3]) := by kernel_rfl

abbrev n_dfa_Accepts : Nat := 20
theorem h_dfa_Accepts : Tryd.prog.funcs[20]? = some Tryd.f20 := Tryd.func20
def c_dfa_Accepts : AC :=
  Q [.reg [bx 2 0, mb 4 false] [1, 2],
  Q [.reg [la 7 2 2, ca 8 16 [7], bi 9 .neq 8 0] [1, 2, 9],
   C 9 (Q [.reg [mb 4 false] [4],
     .ret]) (.skip)],
  .reg [mi 5 0] [1, 2, 5],
  Q [.reg [mi 6 0] [1, 2, 5, 6],
   .block 0 (.loop [1, 2, 5, 6] (Q [Q [.reg [m 10 6, m 11 1, ls 12 11, bt 13 .lss 10 12] [1, 2, 5, 6, 13],
       C 13 (.skip) (.exit 0)],
      .block 1 (Q [Q [.reg [m 16 1, m 17 6, ix 18 16 17, bu 19 .lss 18 32, m 20 19, gf 20 (m 21 1), gf 20 (m 22 6), gf 20 (ix 23 21 22), gf 20 (bu 24 .gtr 23 126), po 25 20 24] [1, 2, 5, 6, 25],
         C 25 (Q [.reg [mb 4 false] [4],
           .ret]) (.skip)],
        .regD [fa 26 2 0, l1 27 26, m 28 5, ia 29 27 28 1, l1 30 29, m 31 1, m 32 6, ix 33 31 32, bu 34 .sub 33 32, ia 35 30 34 1, l1 36 35, m 5 36] [1, 2, 5, 6]]),
      .reg [m 14 6, bi 15 .add 14 1, m 6 15] [1, 2, 5, 6]]))],
  .reg [fa 37 2 1, l1 38 37, m 39 5, ia 40 38 39 1, l1 41 40, m 4 41] [4],
  .ret]
theorem i_dfa_Accepts : image Tryd.prog Tryd.f20 [[1, 2], [1, 2, 9], [4], [1, 2, 5], [1, 2, 5, 6], [1, 2, 5, 6], [1, 2, 5, 6, 13], [1, 2, 5, 6, 25], [4], [0, 0, 1, 0, 7, 15, 0, 0, 96, 224, 511, 1023, 2047], [0, 1, 2, 3, 4, 5, 6, 7, 8, 9, 10, 11], [1, 2, 5, 6], [1, 2, 5, 6], [4]] 2 = some (c_dfa_Accepts, [.t 4]) := by kernel_rfl

abbrev n_regex_either : Nat := 76
theorem h_regex_either : Tryd.prog.funcs[76]? = some Tryd.f76 := Tryd.func76
def c_regex_either : AC :=
  Q [.reg [mv 2 (.niliface)] [0],
  Q [.reg [m 3 0, lq 4 3] [0, 4],
   .block 0 (Q [.reg [bi 6 .eql 4 0, m 5 6] [0, 4, 5],
     C 5 (Q [.reg [o1 7 (.bld (zs 95 (.bool false)) []), o1 8 (.mki 148 (.t 7)), m 2 8] [2],
       .ret]) (Q [.reg [bi 10 .eql 4 1, m 9 10] [0, 9],
       C 9 (Q [.reg [m 11 0, o1 12 (.ia (.t 11) (.v (.int .i64 0)) 1), l1 13 12, m 2 13] [2],
         .ret]) (.skip)])])],
  .reg [m 14 0, o1 15 (.bld [.nil 1] [(0, 1, (.t 14))]), o1 16 (.mki 163 (.t 15)), m 2 16] [2],
  .ret]
theorem i_regex_either : image Tryd.prog Tryd.f76 [[0], [0, 4], [0, 4, 5], [2], [0, 9], [2], [2]] 1 = some (c_regex_either, [.t 2]) := by kernel_rfl

abbrev n_regex_row : Nat := 88
theorem h_regex_row : Tryd.prog.funcs[88]? = some Tryd.f88 := Tryd.func88
def c_regex_row : AC :=
  Q [.reg [mv 2 (.niliface)] [0],
  Q [.reg [m 3 0, lq 4 3, bi 5 .eql 4 1] [0, 5],
   C 5 (Q [.reg [m 6 0, o1 7 (.ia (.t 6) (.v (.int .i64 0)) 1), l1 8 7, m 2 8] [2],
     .ret]) (.skip)],
  .reg [m 9 0, o1 10 (.bld [.nil 1] [(0, 1, (.t 9))]), o1 11 (.mki 174 (.t 10)), m 2 11] [2],
  .ret]
theorem i_regex_row : image Tryd.prog Tryd.f88 [[0], [0, 5], [2], [2]] 1 = some (c_regex_row, [.t 2]) := by kernel_rfl

abbrev n_regex_every : Nat := 92
theorem h_regex_every : Tryd.prog.funcs[92]? = some Tryd.f92 := Tryd.func92
def c_regex_every : AC :=
  Q [.reg [o1 0 (.alc (zs 95 (.bool false)))] [0],
  .reg [o1 1 (.bld (zs 95 (.bool false)) []), ca 2 97 [1], st 95 0 2] [0],
  .ret]
theorem i_regex_every : image Tryd.prog Tryd.f92 [[0], [0]] 0 = some (c_regex_every, [.c 0 95 true]) := by kernel_rfl

abbrev n_regex_single : Nat := 95
theorem h_regex_single : Tryd.prog.funcs[95]? = some Tryd.f95 := Tryd.func95
def c_regex_single : AC :=
  Q [.reg [o1 2 (.alc (zs 95 (.bool false)))] [0, 2],
  .reg [o1 3 (.alc (zs 95 (.bool false)))] [0, 2, 3],
  .reg [m 4 0, bu 5 .sub 4 32, o1 6 (.iaa (.t 3) (.t 5) 95 1), o0 (.st 1 (.t 6) (.v (.bool true)))] [2, 3],
  .reg [la 7 3 95, st 95 2 7] [2],
  .ret]
theorem i_regex_single : image Tryd.prog Tryd.f95 [[0, 2], [0, 2, 3], [2, 3], [2]] 1 = some (c_regex_single, [.c 2 95 true]) := by kernel_rfl

abbrev n_regex_set_other : Nat := 97
theorem h_regex_set_other : Tryd.prog.funcs[97]? = some Tryd.f97 := Tryd.func97
def c_regex_set_other : AC :=
  Q [.reg [bx 1 0, o1 2 (.alc (zs 95 (.bool false)))] [1, 2],
  Q [.reg [mi 4 0] [1, 2, 4],
   .block 0 (.loop [1, 2, 4] (Q [.reg [bi 5 .lss 4 95] [1, 2, 4, 5],
      C 5 (.skip) (.exit 0),
      .block 1 (Q [.reg [m 6 4, m 3 6] [1, 2, 3, 4],
        .reg [m 7 3, m 8 3, o1 9 (.iaa (.t 1) (.t 8) 95 1), l1 10 9, nt' 11 10, o1 12 (.iaa (.t 1) (.t 7) 95 1), st 1 12 11] [1, 2, 4]]),
      .reg [bi 13 .add 4 1, m 4 13] [1, 2, 4]]))],
  .reg [la 14 1 95, st 95 2 14] [2],
  .ret]
theorem i_regex_set_other : image Tryd.prog Tryd.f97 [[1, 2], [1, 2, 4], [1, 2, 4], [1, 2, 4, 5], [1, 2, 3, 4], [1, 2, 4], [1, 2, 4], [2]] 1 = some (c_regex_set_other, [.c 2 95 true]) := by kernel_rfl

abbrev n_regex_isSign : Nat := 98
theorem h_regex_isSign : Tryd.prog.funcs[98]? = some Tryd.f98 := Tryd.func98
def c_regex_isSign : AC :=
  Q [.reg [mb 2 false] [0],
  .reg [m 3 0, o1 4 (.bin .leq (.v (.int .u8 32)) (.t 3)), m 5 4, gt 5 (m 6 0), gt 5 (bu 7 .leq 6 126), pa 8 5 7, m 2 8] [2],
  .ret]
theorem i_regex_isSign : image Tryd.prog Tryd.f98 [[0], [2]] 1 = some (c_regex_isSign, [.t 2]) := by kernel_rfl

abbrev n_nfa_May : Nat := 53
theorem h_nfa_May : Tryd.prog.funcs[53]? = some Tryd.f53 := Tryd.func53
def c_nfa_May : AC :=
  Q [.reg [bx 1 0, mi 2 0] [1],
  Q [.reg [fa 5 1 0, l1 6 5, bi 7 .lss 6 1, m 8 7, gf 8 (fa 9 1 0), gf 8 (l1 10 9), gf 8 (bi 11 .gtr 10 500), po 12 8 11, m 13 12, gf 13 (la 14 1 4), gf 13 (fa 15 1 1), gf 13 (l1 16 15), gf 13 (ca 17 77 [14, 16]), gf 13 (nt' 18 17), po 19 13 18, m 20 19, gf 20 (la 21 1 4), gf 20 (fa 22 1 2), gf 20 (l1 23 22), gf 20 (ca 24 77 [21, 23]), gf 20 (nt' 25 24), po 26 20 25] [1, 26],
   C 26 (Q [.reg [mi 2 1] [2],
     .ret]) (.skip)],
  Q [.reg [fa 27 1 3, l1 28 27, lq 29 28, mi 30 0] [1, 28, 29, 30],
   .block 0 (.loop [1, 28, 29, 30] (Q [.reg [bt 31 .lss 30 29] [1, 28, 29, 30, 31],
      C 31 (.skip) (.exit 0),
      .block 1 (Q [.reg [ia 32 28 30 4, la 33 32 4, o1 4 (.alc [.int .i64 0, .int .i64 0, .int .u8 0, .int .u8 0]), st 4 4 33] [1, 4, 28, 29, 30],
        .reg [la 34 1 4, fa 35 4 0, l1 36 35, ca 37 77 [34, 36], nt' 38 37, m 39 38, gf 39 (la 40 1 4), gf 39 (fa 41 4 1), gf 39 (l1 42 41), gf 39 (ca 43 77 [40, 42]), gf 39 (nt' 44 43), po 45 39 44] [1, 28, 29, 30, 45],
        C 45 (Q [.reg [mi 2 1] [2],
          .ret]) (.skip)]),
      .reg [bi 46 .add 30 1, m 30 46] [1, 28, 29, 30]]))],
  .reg [mi 2 0] [2],
  .ret]
theorem i_nfa_May : image Tryd.prog Tryd.f53 [[1], [1, 26], [2], [1, 28, 29, 30], [1, 28, 29, 30], [1, 28, 29, 30, 31], [1, 4, 28, 29, 30], [1, 28, 29, 30, 45], [2], [1, 28, 29, 30], [2]] 1 = some (c_nfa_May, [.t 2]) := by kernel_rfl

abbrev n_nfa_isState : Nat := 77
theorem h_nfa_isState : Tryd.prog.funcs[77]? = some Tryd.f77 := Tryd.func77
def c_nfa_isState : AC :=
  Q [.reg [bx 2 0, mb 4 false] [1, 2],
  .reg [m 5 1, o1 6 (.bin .leq (.v (.int .i64 0)) (.t 5)), m 7 6, gt 7 (m 8 1), gt 7 (fa 9 2 0), gt 7 (l1 10 9), gt 7 (bt 11 .lss 8 10), pa 12 7 11, m 4 12] [4],
  .ret]
theorem i_nfa_isState : image Tryd.prog Tryd.f77 [[1, 2], [4]] 2 = some (c_nfa_isState, [.t 4]) := by kernel_rfl

abbrev n_nfa_Closed : Nat := 60
theorem h_nfa_Closed : Tryd.prog.funcs[60]? = some Tryd.f60 := Tryd.func60
def c_nfa_Closed : AC :=
  Q [.reg [bx 2 0, mv 4 (.nil 1)] [1, 2],
  Q [.reg [la 5 2 4, ca 6 53 [5], bi 7 .neq 6 0] [1, 2, 7],
   C 7 (Q [.reg [mv 4 (.nil 1)] [4],
     .ret]) (.skip)],
  .reg [la 8 2 4, m 9 1, o1 10 (.call 83 [.t 8, .t 9, .v (.fn (.func 84) [] [])]), ca 11 82 [10], m 4 11] [4],
  .ret]
theorem i_nfa_Closed : image Tryd.prog Tryd.f60 [[1, 2], [1, 2, 7], [4], [4]] 2 = some (c_nfa_Closed, [.t 4]) := by kernel_rfl

abbrev n_nfa_reached : Nat := 83
theorem h_nfa_reached : Tryd.prog.funcs[83]? = some Tryd.f83 := Tryd.func83
def c_nfa_reached : AC :=
  Q [.reg [bx 3 0, mv 6 (.nil 1)] [1, 2, 3],
  .reg [fa 11 3 0, l1 12 11, o1 13 (.mks 4 1 1 (.bool false) (.t 12)), m 7 13] [1, 2, 3, 7],
  .reg [mv 8 (.nil 1)] [1, 2, 3, 7, 8],
  Q [.reg [m 14 1, lq 15 14, mi 16 0] [2, 3, 7, 8, 14, 15, 16],
   .block 0 (.loop [2, 3, 7, 8, 14, 15, 16] (Q [.reg [bt 17 .lss 16 15] [2, 3, 7, 8, 14, 15, 16, 17],
      C 17 (.skip) (.exit 0),
      .block 1 (Q [.reg [ia 18 14 16 1, l1 19 18, m 10 19] [2, 3, 7, 8, 10, 14, 15, 16],
        .reg [la 20 3 4, m 21 10, ca 22 77 [20, 21], m 23 22, gt 23 (m 24 7), gt 23 (m 25 10), gt 23 (ia 26 24 25 1), gt 23 (l1 27 26), gt 23 (nt' 28 27), pa 29 23 28] [2, 3, 7, 8, 10, 14, 15, 16, 29],
        C 29 (Q [.reg [m 30 7, m 31 10, ia 32 30 31 1, o0 (.st 1 (.t 32) (.v (.bool true)))] [2, 3, 7, 8, 10, 14, 15, 16],
          .reg [m 33 8, m 34 10, o1 35 (.lit 3 1 [.t 34]), o1 36 (.app (.t 33) (.t 35) 3 1 8), m 8 36] [2, 3, 7, 8, 14, 15, 16]]) (.skip)]),
      .reg [bi 37 .add 16 1, m 16 37] [2, 3, 7, 8, 14, 15, 16]]))],
  .reg [la 38 3 4, m 39 2, ca 40 90 [38, 39], m 41 7, m 42 8, ch 43 91 [40, 41, 42]] [7],
  .reg [m 44 7, m 6 44] [6],
  .ret]
theorem i_nfa_reached : imageE Tryd.prog Tryd.f83 [] [36, 38, 63, 52, 74, 75, 87, 94, 93, 62, 117, 121, 118, 120, 122, 123, 119, 78, 51, 81, 86, 49, 80, 85, 91, 56, 58, 64, 65, 67, 34, 33, 35, 70, 71, 45, 68, 46, 72, 69, 73] [[1, 2, 3], [1, 2, 3, 7], [1, 2, 3, 7, 8], [2, 3, 7, 8, 14, 15, 16], [2, 3, 7, 8, 14, 15, 16], [2, 3, 7, 8, 14, 15, 16, 17], [2, 3, 7, 8, 10, 14, 15, 16], [2, 3, 7, 8, 10, 14, 15, 16, 29], [2, 3, 7, 8, 10, 14, 15, 16], [2, 3, 7, 8, 14, 15, 16], [2, 3, 7, 8, 14, 15, 16], [7], [6]] 3 = some (c_nfa_reached, [.t 6]) := by kernel_rfl

abbrev n_nfa_graphOf : Nat := 90
theorem h_nfa_graphOf : Tryd.prog.funcs[90]? = some Tryd.f90 := Tryd.func90
def c_nfa_graphOf : AC :=
  Q [.reg [bx 2 0, o1 4 (.alc [.nil 4, .nil 1, .nil 1])] [1, 2, 4],
  .regF (OQ [fa 8 2 3, l1 9 8, fa 10 2 0, l1 11 10, fa 13 2 3, l1 14 13, lq 15 14] (.both
     (OQ [o1 12 (.mks 3 1 8 (.int .i64 0) (.t 11))] (.both
       (OQ [o1 16 (.mks 3 1 8 (.int .i64 0) (.t 15)), o1 17 (.bld [.nil 4, .nil 1, .nil 1] [(0, 1, (.t 9)), (1, 1, (.t 12)), (2, 1, (.t 16))]), o1 5 (.alc [.nil 4, .nil 1, .nil 1]), st 3 5 17] .nil)
       (OQ [o1 5 (.alc [.nil 4, .nil 1, .nil 1]), o1 16 (.mks 3 1 8 (.int .i64 0) (.t 15)), o1 17 (.bld [.nil 4, .nil 1, .nil 1] [(0, 1, (.t 9)), (1, 1, (.t 12)), (2, 1, (.t 16))]), st 3 5 17] .nil)))
     ((.both
       (OQ [o1 16 (.mks 3 1 8 (.int .i64 0) (.t 15))] (.both
         (OQ [o1 12 (.mks 3 1 8 (.int .i64 0) (.t 11)), o1 17 (.bld [.nil 4, .nil 1, .nil 1] [(0, 1, (.t 9)), (1, 1, (.t 12)), (2, 1, (.t 16))]), o1 5 (.alc [.nil 4, .nil 1, .nil 1]), st 3 5 17] .nil)
         (OQ [o1 5 (.alc [.nil 4, .nil 1, .nil 1]), o1 12 (.mks 3 1 8 (.int .i64 0) (.t 11)), o1 17 (.bld [.nil 4, .nil 1, .nil 1] [(0, 1, (.t 9)), (1, 1, (.t 12)), (2, 1, (.t 16))]), st 3 5 17] .nil)))
       (OQ [o1 5 (.alc [.nil 4, .nil 1, .nil 1])] (.both
         (OQ [o1 12 (.mks 3 1 8 (.int .i64 0) (.t 11)), o1 16 (.mks 3 1 8 (.int .i64 0) (.t 15)), o1 17 (.bld [.nil 4, .nil 1, .nil 1] [(0, 1, (.t 9)), (1, 1, (.t 12)), (2, 1, (.t 16))]), st 3 5 17] .nil)
         (OQ [o1 16 (.mks 3 1 8 (.int .i64 0) (.t 15)), o1 12 (.mks 3 1 8 (.int .i64 0) (.t 11)), o1 17 (.bld [.nil 4, .nil 1, .nil 1] [(0, 1, (.t 9)), (1, 1, (.t 12)), (2, 1, (.t 16))]), st 3 5 17] .nil))))))) [1, 2, 4, 5],
  Q [.reg [fa 18 2 3, l1 19 18, lq 20 19, mi 21 0] [1, 4, 5, 19, 20, 21],
   .block 0 (.loop [1, 4, 5, 19, 20, 21] (Q [.reg [bt 22 .lss 21 20] [1, 4, 5, 19, 20, 21, 22],
      C 22 (.skip) (.exit 0),
      .block 1 (Q [.reg [m 23 21, ia 24 19 21 4, la 25 24 4, o1 7 (.alc [.int .i64 0, .int .i64 0, .int .u8 0, .int .u8 0]), m 6 23, st 4 7 25] [1, 4, 5, 6, 7, 19, 20, 21],
        .reg [m 26 1, la 27 7 4, cv 28 26 [27]] [1, 4, 5, 6, 7, 19, 20, 21, 28],
        C 28 (Q [.regD [fa 29 5 2, l1 30 29, m 31 6, fa 32 5 1, l1 33 32, fa 34 7 0, l1 35 34, ia 36 33 35 1, l1 37 36, ia 38 30 31 1, st 1 38 37] [1, 4, 5, 6, 7, 19, 20, 21],
          .reg [fa 39 5 1, l1 40 39, fa 41 7 0, l1 42 41, m 43 6, bi 44 .add 43 1, ia 45 40 42 1, st 1 45 44] [1, 4, 5, 19, 20, 21]]) (.skip)]),
      .reg [bi 46 .add 21 1, m 21 46] [1, 4, 5, 19, 20, 21]]))],
  .reg [la 47 5 3, st 3 4 47] [4],
  .ret]
theorem i_nfa_graphOf : image Tryd.prog Tryd.f90 [[1, 2, 4], [1, 0, 1, 0, 4, 12, 0, 32, 96, 224, 511, 0, 2047], [1, 2, 4, 5], [1, 4, 5, 19, 20, 21], [1, 4, 5, 19, 20, 21], [1, 4, 5, 19, 20, 21, 22], [1, 4, 5, 6, 7, 19, 20, 21], [1, 4, 5, 6, 7, 19, 20, 21, 28], [0, 0, 1, 0, 0, 8, 0, 32, 120, 248, 511, 1023], [0, 1, 2, 3, 4, 5, 6, 7, 8, 9, 10], [1, 4, 5, 6, 7, 19, 20, 21], [1, 4, 5, 19, 20, 21], [1, 4, 5, 19, 20, 21], [4]] 2 = some (c_nfa_graphOf, [.c 4 3 true]) := by kernel_rfl

abbrev n_nfa_none : Nat := 84
theorem h_nfa_none : Tryd.prog.funcs[84]? = some Tryd.f84 := Tryd.func84
def c_nfa_none : AC :=
  Q [.reg [bx 1 0, mb 2 false] [1],
  .reg [fa 3 1 2, l1 4 3, fa 5 1 3, l1 6 5, bt 7 .gtr 4 6, m 2 7] [2],
  .ret]
theorem i_nfa_none : image Tryd.prog Tryd.f84 [[1], [2]] 1 = some (c_nfa_none, [.t 2]) := by kernel_rfl

abbrev n_nfa_states : Nat := 82
theorem h_nfa_states : Tryd.prog.funcs[82]? = some Tryd.f82 := Tryd.func82
def c_nfa_states : AC :=
  Q [.reg [mv 2 (.nil 1)] [0],
  .reg [mv 3 (.nil 1)] [0, 3],
  Q [.reg [m 6 0, lq 7 6, mi 8 0] [3, 6, 7, 8],
   .block 0 (.loop [3, 6, 7, 8] (Q [.reg [bt 9 .lss 8 7] [3, 6, 7, 8, 9],
      C 9 (.skip) (.exit 0),
      .block 1 (Q [.reg [m 10 8, ia 11 6 8 1, l1 12 11, m 4 10, m 5 12] [3, 4, 5, 6, 7, 8],
        .reg [m 13 5] [3, 4, 6, 7, 8, 13],
        C 13 (.reg [m 14 3, m 15 4, o1 16 (.lit 3 1 [.t 15]), o1 17 (.app (.t 14) (.t 16) 3 1 8), m 3 17] [3, 6, 7, 8]) (.skip)]),
      .reg [bi 18 .add 8 1, m 8 18] [3, 6, 7, 8]]))],
  .reg [m 19 3, m 2 19] [2],
  .ret]
theorem i_nfa_states : image Tryd.prog Tryd.f82 [[0], [0, 3], [3, 6, 7, 8], [3, 6, 7, 8], [3, 6, 7, 8, 9], [3, 4, 5, 6, 7, 8], [3, 4, 6, 7, 8, 13], [3, 6, 7, 8], [3, 6, 7, 8], [2]] 1 = some (c_nfa_states, [.t 2]) := by kernel_rfl

abbrev n_dfa_setOf : Nat := 59
theorem h_dfa_setOf : Tryd.prog.funcs[59]? = some Tryd.f59 := Tryd.func59
def c_dfa_setOf : AC :=
  Q [.reg [o1 2 (.alc (zs 8 (.int .u64 0)))] [0, 2],
  .reg [o1 3 (.alc (zs 8 (.int .u64 0)))] [0, 2, 3],
  Q [.reg [m 6 0, lq 7 6, mi 8 0] [2, 3, 6, 7, 8],
   .block 0 (.loop [2, 3, 6, 7, 8] (Q [.reg [bt 9 .lss 8 7] [2, 3, 6, 7, 8, 9],
      C 9 (.skip) (.exit 0),
      .block 1 (Q [.reg [ia 10 6 8 1, l1 11 10, m 5 11] [2, 3, 5, 6, 7, 8],
        .regD [m 12 5, bi 13 .quo 12 64, o1 14 (.iaa (.t 3) (.t 13) 8 1), l1 15 14, m 16 5, bi 17 .rem 16 64, o1 18 (.bin .shl (.v (.int .u64 1)) (.t 17)), bt 19 .or 15 18, o1 20 (.iaa (.t 3) (.t 13) 8 1), st 1 20 19] [2, 3, 6, 7, 8]]),
      .reg [bi 21 .add 8 1, m 8 21] [2, 3, 6, 7, 8]]))],
  .reg [la 22 3 8, st 8 2 22] [2],
  .ret]
theorem i_dfa_setOf : image Tryd.prog Tryd.f59 [[0, 2], [0, 2, 3], [2, 3, 6, 7, 8], [2, 3, 6, 7, 8], [2, 3, 6, 7, 8, 9], [2, 3, 5, 6, 7, 8], [0, 0, 1, 3, 7, 0, 16, 48, 127, 255, 511], [0, 1, 2, 3, 4, 5, 6, 7, 8, 9], [2, 3, 6, 7, 8], [2, 3, 6, 7, 8], [2]] 1 = some (c_dfa_setOf, [.c 2 8 true]) := by kernel_rfl

abbrev n_dfa_set_has : Nat := 61
theorem h_dfa_set_has : Tryd.prog.funcs[61]? = some Tryd.f61 := Tryd.func61
def c_dfa_set_has : AC :=
  Q [.reg [bx 2 0, mb 4 false] [1, 2],
  .regD [m 5 1, bi 6 .quo 5 64, o1 7 (.iaa (.t 2) (.t 6) 8 1), l1 8 7, m 9 1, bi 10 .rem 9 64, o1 11 (.bin .shl (.v (.int .u64 1)) (.t 10)), bt 12 .and 8 11, o1 13 (.bin .neq (.t 12) (.v (.int .u64 0))), m 4 13] [4],
  .ret]
theorem i_dfa_set_has : image Tryd.prog Tryd.f61 [[1, 2], [0, 0, 1, 3, 7, 0, 16, 48, 127, 255, 511], [0, 1, 2, 3, 4, 5, 6, 7, 8, 9], [4]] 2 = some (c_dfa_set_has, [.t 4]) := by kernel_rfl

abbrev n_dfa_stepsOf : Nat := 54
theorem h_dfa_stepsOf : Tryd.prog.funcs[54]? = some Tryd.f54 := Tryd.func54
def c_dfa_stepsOf : AC :=
  Q [.reg [bx 1 0, mv 2 (.nil 760)] [1],
  .reg [fa 9 1 0, l1 10 9, o1 11 (.mks 100 8 64 (.strct (zs 8 (.int .u64 0))) (.t 10)), m 3 11] [1, 3],
  Q [.reg [m 12 3, lq 13 12, mi 14 0] [1, 3, 13, 14],
   .block 0 (.loop [1, 3, 13, 14] (Q [.reg [bt 15 .lss 14 13] [1, 3, 13, 14, 15],
      C 15 (.skip) (.exit 0),
      .block 1 (Q [.reg [m 16 14, m 4 16] [1, 3, 4, 13, 14],
        .reg [m 17 3, m 18 4, la 19 1 4, m 20 4, o1 21 (.lit 3 1 [.t 20]), ca 22 60 [19, 21], ca 23 59 [22], ia 24 17 18 8, st 8 24 23] [1, 3, 13, 14]]),
      .reg [bi 25 .add 14 1, m 14 25] [1, 3, 13, 14]]))],
  .reg [fa 26 1 0, l1 27 26, o1 28 (.mks 135 760 6080 (.strct (zs 760 (.int .u64 0))) (.t 27)), m 5 28] [1, 3, 5],
  Q [.reg [fa 29 1 3, l1 30 29, lq 31 30, mi 32 0] [3, 5, 30, 31, 32],
   .block 2 (.loop [3, 5, 30, 31, 32] (Q [.reg [bt 33 .lss 32 31] [3, 5, 30, 31, 32, 33],
      C 33 (.skip) (.exit 2),
      .block 3 (Q [.reg [ia 34 30 32 4, la 35 34 4, o1 7 (.alc [.int .i64 0, .int .i64 0, .int .u8 0, .int .u8 0]), st 4 7 35] [3, 5, 7, 30, 31, 32],
        .reg [fa 36 7 2, l1 37 36, o1 38 (.cii .i64 (.t 37)), o1 39 (.mm true (.t 38) (.v (.int .i64 32))), m 8 39] [3, 5, 7, 8, 30, 31, 32],
        .block 4 (.loop [3, 5, 7, 8, 30, 31, 32] (Q [Q [.reg [m 40 8, fa 41 7 3, l1 42 41, o1 43 (.cii .i64 (.t 42)), o1 44 (.mm false (.t 43) (.v (.int .i64 126))), bt 45 .leq 40 44] [3, 5, 7, 8, 30, 31, 32, 45],
            C 45 (.skip) (.exit 4)],
           .block 5 (.regD [m 48 5, fa 49 7 0, l1 50 49, m 51 8, bi 52 .sub 51 32, ia 53 48 50 760, o1 54 (.iaa (.t 53) (.t 52) 95 8), m 55 3, fa 56 7 1, l1 57 56, ia 58 55 57 8, ch 59 78 [54, 58]] [3, 5, 7, 8, 30, 31, 32]),
           .reg [m 46 8, bi 47 .add 46 1, m 8 47] [3, 5, 7, 8, 30, 31, 32]]))]),
      .reg [bi 60 .add 32 1, m 32 60] [3, 5, 30, 31, 32]]))],
  .reg [m 61 5, m 2 61] [2],
  .ret]
theorem i_dfa_stepsOf : imageE Tryd.prog Tryd.f54 [] [36, 38, 63, 52, 74, 75, 87, 94, 93, 62, 117, 121, 118, 120, 122, 123, 119, 78, 51, 81, 86, 49, 80, 85, 91, 56, 58, 64, 65, 67, 34, 33, 35, 70, 71, 45, 68, 46, 72, 69, 73] [[1], [1, 3], [1, 3, 13, 14], [1, 3, 13, 14], [1, 3, 13, 14, 15], [1, 3, 4, 13, 14], [1, 3, 13, 14], [1, 3, 13, 14], [1, 3, 5], [3, 5, 30, 31, 32], [3, 5, 30, 31, 32], [3, 5, 30, 31, 32, 33], [3, 5, 7, 30, 31, 32], [3, 5, 7, 8, 30, 31, 32], [3, 5, 7, 8, 30, 31, 32], [3, 5, 7, 8, 30, 31, 32, 45], [0, 0, 0, 2, 0, 8, 7, 63, 0, 0, 256, 896, 2047], [0, 1, 2, 3, 4, 5, 6, 7, 8, 9, 10, 11], [3, 5, 7, 8, 30, 31, 32], [3, 5, 7, 8, 30, 31, 32], [3, 5, 30, 31, 32], [2]] 1 = some (c_dfa_stepsOf, [.t 2]) := by kernel_rfl

abbrev n_dfa_borders : Nat := 55
theorem h_dfa_borders : Tryd.prog.funcs[55]? = some Tryd.f55 := Tryd.func55
def c_dfa_borders : AC :=
  Q [.reg [bx 1 0, o1 2 (.alc (zs 95 (.bool false)))] [1, 2],
  .reg [o1 3 (.alc (zs 95 (.bool false)))] [1, 2, 3],
  .reg [o1 8 (.iaa (.t 3) (.v (.int .i64 0)) 95 1), o0 (.st 1 (.t 8) (.v (.bool true)))] [1, 2, 3],
  Q [.reg [fa 9 1 3, l1 10 9, lq 11 10, mi 12 0] [2, 3, 10, 11, 12],
   .block 0 (.loop [2, 3, 10, 11, 12] (Q [.reg [bt 13 .lss 12 11] [2, 3, 10, 11, 12, 13],
      C 13 (.skip) (.exit 0),
      .block 1 (Q [.reg [ia 14 10 12 4, la 15 14 4, o1 5 (.alc [.int .i64 0, .int .i64 0, .int .u8 0, .int .u8 0]), st 4 5 15] [2, 3, 5, 10, 11, 12],
        .regD [fa 16 5 2, l1 17 16, o1 18 (.cii .i64 (.t 17)), o1 19 (.mm true (.t 18) (.v (.int .i64 32))), fa 20 5 3, l1 21 20, o1 22 (.cii .i64 (.t 21)), o1 23 (.mm false (.t 22) (.v (.int .i64 126))), m 6 19, m 7 23] [2, 3, 6, 7, 10, 11, 12],
        Q [.reg [m 24 6, m 25 7, bt 26 .gtr 24 25] [2, 3, 6, 7, 10, 11, 12, 26],
         C 26 (.exit 1) (.skip)],
        .reg [m 27 6, bi 28 .sub 27 32, o1 29 (.iaa (.t 3) (.t 28) 95 1), o0 (.st 1 (.t 29) (.v (.bool true)))] [2, 3, 7, 10, 11, 12],
        .reg [m 30 7, bi 31 .lss 30 126] [2, 3, 7, 10, 11, 12, 31],
        C 31 (.reg [m 32 7, bi 33 .add 32 1, bi 34 .sub 33 32, o1 35 (.iaa (.t 3) (.t 34) 95 1), o0 (.st 1 (.t 35) (.v (.bool true)))] [2, 3, 10, 11, 12]) (.skip)]),
      .reg [bi 36 .add 12 1, m 12 36] [2, 3, 10, 11, 12]]))],
  .reg [la 37 3 95, st 95 2 37] [2],
  .ret]
theorem i_dfa_borders : image Tryd.prog Tryd.f55 [[1, 2], [1, 2, 3], [1, 2, 3], [2, 3, 10, 11, 12], [2, 3, 10, 11, 12], [2, 3, 10, 11, 12, 13], [2, 3, 5, 10, 11, 12], [0, 0, 1, 3, 7, 0, 16, 48, 112, 15, 511], [0, 1, 2, 3, 4, 5, 6, 7, 8, 9], [2, 3, 6, 7, 10, 11, 12], [2, 3, 6, 7, 10, 11, 12, 26], [2, 3, 7, 10, 11, 12], [2, 3, 7, 10, 11, 12, 31], [2, 3, 10, 11, 12], [2, 3, 10, 11, 12], [2]] 1 = some (c_dfa_borders, [.c 2 95 true]) := by kernel_rfl

abbrev n_dfa_steps_of : Nat := 57
theorem h_dfa_steps_of : Tryd.prog.funcs[57]? = some Tryd.f57 := Tryd.func57
def c_dfa_steps_of : AC :=
  Q [.reg [bx 4 1, o1 6 (.alc (zs 8 (.int .u64 0)))] [0, 2, 4, 6],
  .reg [o1 7 (.alc (zs 8 (.int .u64 0)))] [0, 2, 4, 6, 7],
  Q [.reg [la 10 4 8, mi 11 0] [0, 2, 6, 7, 10, 11],
   .block 0 (.loop [0, 2, 6, 7, 10, 11] (Q [.reg [bi 12 .lss 11 8] [0, 2, 6, 7, 10, 11, 12],
      C 12 (.skip) (.exit 0),
      .block 1 (Q [.reg [m 13 11, o1 14 (.ixa (.t 10) (.t 11) 8 1 false), m 8 13, m 9 14] [0, 2, 6, 7, 8, 9, 10, 11],
        .block 2 (.loop [0, 2, 6, 7, 8, 9, 10, 11] (Q [Q [.reg [m 15 9, o1 16 (.bin .neq (.t 15) (.v (.int .u64 0)))] [0, 2, 6, 7, 8, 9, 10, 11, 16],
            C 16 (.skip) (.exit 2)],
           .block 3 (.reg [m 21 0, m 22 8, o1 23 (.bin .mul (.v (.int .i64 64)) (.t 22)), m 24 9, ca 25 79 [24], bt 26 .add 23 25, m 27 2, ia 28 21 26 760, o1 29 (.iaa (.t 28) (.t 27) 95 8), ch 30 78 [7, 29]] [0, 2, 6, 7, 8, 9, 10, 11]),
           .reg [m 17 9, m 18 9, o1 19 (.bin .sub (.t 18) (.v (.int .u64 1))), bt 20 .and 17 19, m 9 20] [0, 2, 6, 7, 8, 9, 10, 11]]))]),
      .reg [bi 31 .add 11 1, m 11 31] [0, 2, 6, 7, 10, 11]]))],
  .reg [la 32 7 8, st 8 6 32] [6],
  .ret]
theorem i_dfa_steps_of : imageE Tryd.prog Tryd.f57 [] [36, 38, 63, 52, 74, 75, 87, 94, 93, 62, 117, 121, 118, 120, 122, 123, 119, 78, 51, 81, 86, 49, 80, 85, 91, 56, 58, 64, 65, 67, 34, 33, 35, 70, 71, 45, 68, 46, 72, 69, 73] [[0, 2, 4, 6], [0, 2, 4, 6, 7], [0, 2, 6, 7, 10, 11], [0, 2, 6, 7, 10, 11], [0, 2, 6, 7, 10, 11, 12], [0, 2, 6, 7, 8, 9, 10, 11], [0, 2, 6, 7, 8, 9, 10, 11], [0, 2, 6, 7, 8, 9, 10, 11, 16], [0, 2, 6, 7, 8, 9, 10, 11], [0, 2, 6, 7, 8, 9, 10, 11], [0, 2, 6, 7, 10, 11], [6]] 3 = some (c_dfa_steps_of, [.c 6 8 true]) := by kernel_rfl

abbrev n_math_bits_TrailingZeros64 : Nat := 79
theorem h_math_bits_TrailingZeros64 : Tryd.prog.funcs[79]? = some Tryd.f79 := Tryd.func79
def c_math_bits_TrailingZeros64 : AC :=
  Q [.reg [mi 2 0] [0],
  Q [.reg [m 3 0, o1 4 (.bin .eql (.t 3) (.v (.int .u64 0)))] [0, 4],
   C 4 (Q [.reg [mi 2 64] [2],
     .ret]) (.skip)],
  .reg [m 5 0, m 6 0, o1 7 (.un .neg (.t 6)), bt 8 .and 5 7, o1 9 (.bin .mul (.t 8) (.v (.int .u64 285870213051353865))), o1 10 (.bin .shr (.t 9) (.v (.int .u64 58))), o1 11 (.iaa (.v (.sptr (.strct [.int .u8 0, .int .u8 1, .int .u8 56, .int .u8 2, .int .u8 57, .int .u8 49, .int .u8 28, .int .u8 3, .int .u8 61, .int .u8 58, .int .u8 42, .int .u8 50, .int .u8 38, .int .u8 29, .int .u8 17, .int .u8 4, .int .u8 62, .int .u8 47, .int .u8 59, .int .u8 36, .int .u8 45, .int .u8 43, .int .u8 51, .int .u8 22, .int .u8 53, .int .u8 39, .int .u8 33, .int .u8 30, .int .u8 24, .int .u8 18, .int .u8 12, .int .u8 5, .int .u8 63, .int .u8 55, .int .u8 48, .int .u8 27, .int .u8 60, .int .u8 41, .int .u8 37, .int .u8 16, .int .u8 46, .int .u8 35, .int .u8 44, .int .u8 21, .int .u8 52, .int .u8 32, .int .u8 23, .int .u8 11, .int .u8 54, .int .u8 26, .int .u8 40, .int .u8 15, .int .u8 34, .int .u8 20, .int .u8 31, .int .u8 10, .int .u8 25, .int .u8 14, .int .u8 19, .int .u8 9, .int .u8 13, .int .u8 8, .int .u8 7, .int .u8 6]) 0)) (.t 10) 64 1), l1 12 11, o1 13 (.cii .i64 (.t 12)), m 2 13] [2],
  .ret]
theorem i_math_bits_TrailingZeros64 : image Tryd.prog Tryd.f79 [[0], [0, 4], [2], [2]] 1 = some (c_math_bits_TrailingZeros64, [.t 2]) := by kernel_rfl

abbrev n_dfa_form : Nat := 41
theorem h_dfa_form : Tryd.prog.funcs[41]? = some Tryd.f41 := Tryd.func41
def c_dfa_form : AC :=
  Q [.reg [bx 2 0, o1 4 (.alc [.nil 1, .nil 1])] [1, 2, 4],
  .reg [o1 20 (.mkf (.func 65) [] [.t 2]), l1 21 2, lq 22 21, o1 23 (.callH 64 [.v (.int .i64 0), .t 20, .t 22]), m 19 23, ex 24 19 0, ex 25 19 1, ex 26 19 2, m 5 24, st 1 2 25, m 6 26] [1, 2, 4, 5],
  .reg [m 27 5, lq 28 27, o1 29 (.mks 4 1 1 (.bool false) (.t 28)), m 7 29] [1, 2, 4, 5, 7],
  Q [.reg [m 30 5, lq 31 30, mi 32 0] [1, 2, 4, 5, 7, 30, 31, 32],
   .block 0 (.loop [1, 2, 4, 5, 7, 30, 31, 32] (Q [.reg [bt 33 .lss 32 31] [1, 2, 4, 5, 7, 30, 31, 32, 33],
      C 33 (.skip) (.exit 0),
      .block 1 (Q [.reg [m 34 32, ia 35 30 32 1, l1 36 35, m 8 34, m 9 36] [1, 2, 4, 5, 7, 8, 9, 30, 31, 32],
        .reg [m 37 7, m 38 8, m 39 1, m 40 9, ia 41 39 40 1, l1 42 41, ia 43 37 38 1, st 1 43 42] [1, 2, 4, 5, 7, 30, 31, 32]]),
      .reg [bi 44 .add 32 1, m 32 44] [1, 2, 4, 5, 7, 30, 31, 32]]))],
  .reg [l1 45 2, m 46 7, ca 47 66 [45, 46], o1 10 (.alc [.nil 1]), st 1 10 47] [2, 4, 5, 7, 10],
  .reg [m 48 5, lq 49 48, o1 50 (.mks 3 1 8 (.int .i64 0) (.t 49)), o1 11 (.alc [.nil 1]), st 1 11 50] [2, 4, 7, 10, 11],
  Q [.reg [l1 51 10, lq 52 51, mi 53 0] [2, 4, 7, 10, 11, 51, 52, 53],
   .block 2 (.loop [2, 4, 7, 10, 11, 51, 52, 53] (Q [.reg [bt 54 .lss 53 52] [2, 4, 7, 10, 11, 51, 52, 53, 54],
      C 54 (.skip) (.exit 2),
      .block 3 (Q [.reg [m 55 53, ia 56 51 53 1, l1 57 56, m 12 55, m 13 57] [2, 4, 7, 10, 11, 12, 13, 51, 52, 53],
        .reg [l1 58 11, m 59 13, m 60 12, ia 61 58 59 1, st 1 61 60] [2, 4, 7, 10, 11, 51, 52, 53]]),
      .reg [bi 62 .add 53 1, m 53 62] [2, 4, 7, 10, 11, 51, 52, 53]]))],
  .regD [l1 64 10, o1 65 (.ia (.t 64) (.v (.int .i64 0)) 1), l1 66 65, o1 67 (.mkf (.func 67) [] [.t 10, .t 2, .t 11]), l1 68 11, lq 69 68, ch 70 64 [66, 67, 69], m 63 70, ex 71 63 0, ex 72 63 1, ex 73 63 2, m 5 71, m 14 72, m 15 73] [4, 5, 7, 11, 14],
  .reg [m 74 14, o1 75 (.bld [.nil 1, .nil 1] [(0, 1, (.t 74))]), o1 16 (.alc [.nil 1, .nil 1]), st 2 16 75] [4, 5, 7, 11, 16],
  Q [.reg [m 76 5, lq 77 76, mi 78 0] [4, 7, 11, 16, 76, 77, 78],
   .block 4 (.loop [4, 7, 11, 16, 76, 77, 78] (Q [.reg [bt 79 .lss 78 77] [4, 7, 11, 16, 76, 77, 78, 79],
      C 79 (.skip) (.exit 4),
      .block 5 (Q [.reg [ia 80 76 78 1, l1 81 80, m 18 81] [4, 7, 11, 16, 18, 76, 77, 78],
        .regD [fa 82 16 1, l1 83 82, m 84 7, l1 85 11, m 86 18, ia 87 85 86 1, l1 88 87, ia 89 84 88 1, l1 90 89, o1 91 (.lit 4 1 [.t 90]), o1 92 (.app (.t 83) (.t 91) 4 1 1), fa 93 16 1, st 1 93 92] [4, 7, 11, 16, 76, 77, 78]]),
      .reg [bi 94 .add 78 1, m 78 94] [4, 7, 11, 16, 76, 77, 78]]))],
  .reg [la 95 16 2, st 2 4 95] [4],
  .ret]
theorem i_dfa_form : imageE Tryd.prog Tryd.f41 [] [36, 38, 63, 52, 74, 75, 87, 94, 93, 62, 117, 121, 118, 120, 122, 123, 119, 78, 51, 81, 86, 49, 80, 85, 91, 56, 58, 64, 65, 67, 34, 33, 35, 70, 71, 45, 68, 46, 72, 69, 73] [[1, 2, 4], [1, 2, 4, 5], [1, 2, 4, 5, 7], [1, 2, 4, 5, 7, 30, 31, 32], [1, 2, 4, 5, 7, 30, 31, 32], [1, 2, 4, 5, 7, 30, 31, 32, 33], [1, 2, 4, 5, 7, 8, 9, 30, 31, 32], [1, 2, 4, 5, 7, 30, 31, 32], [1, 2, 4, 5, 7, 30, 31, 32], [2, 4, 5, 7, 10], [2, 4, 7, 10, 11], [2, 4, 7, 10, 11, 51, 52, 53], [2, 4, 7, 10, 11, 51, 52, 53], [2, 4, 7, 10, 11, 51, 52, 53, 54], [2, 4, 7, 10, 11, 12, 13, 51, 52, 53], [2, 4, 7, 10, 11, 51, 52, 53], [2, 4, 7, 10, 11, 51, 52, 53], [0, 0, 1, 3, 0, 0, 16, 63, 127, 255, 255, 255, 511, 3071, 8191], [0, 1, 2, 3, 4, 5, 6, 7, 8, 9, 10, 11, 12, 13], [4, 5, 7, 11, 14], [4, 5, 7, 11, 16], [4, 7, 11, 16, 76, 77, 78], [4, 7, 11, 16, 76, 77, 78], [4, 7, 11, 16, 76, 77, 78, 79], [4, 7, 11, 16, 18, 76, 77, 78], [0, 0, 1, 0, 0, 0, 24, 56, 124, 252, 508, 1023, 2047, 4095], [0, 1, 2, 3, 4, 5, 6, 7, 8, 9, 10, 11, 12], [4, 7, 11, 16, 76, 77, 78], [4, 7, 11, 16, 76, 77, 78], [4]] 2 = some (c_dfa_form, [.c 4 2 true]) := by kernel_rfl

abbrev n_dfa_classes : Nat := 66
theorem h_dfa_classes : Tryd.prog.funcs[66]? = some Tryd.f66 := Tryd.func66
def c_dfa_classes : AC :=
  Q [.reg [mv 4 (.nil 1)] [0, 1],
  .reg [m 16 0, lq 17 16, o1 18 (.mks 3 1 8 (.int .i64 0) (.t 17)), m 5 18] [0, 1, 5],
  Q [.reg [m 19 1, lq 20 19, mi 21 0] [0, 5, 19, 20, 21],
   .block 0 (.loop [0, 5, 19, 20, 21] (Q [.reg [bt 22 .lss 21 20] [0, 5, 19, 20, 21, 22],
      C 22 (.skip) (.exit 0),
      .block 1 (Q [.reg [m 23 21, ia 24 19 21 1, l1 25 24, m 6 23, m 7 25] [0, 5, 6, 7, 19, 20, 21],
        .reg [m 26 7] [0, 5, 6, 19, 20, 21, 26],
        C 26 (.reg [m 27 5, m 28 6, ia 29 27 28 1, o0 (.st 1 (.t 29) (.v (.int .i64 1)))] [0, 5, 19, 20, 21]) (.skip)]),
      .reg [bi 30 .add 21 1, m 21 30] [0, 5, 19, 20, 21]]))],
  .reg [mi 8 0] [0, 5, 8],
  .block 2 (.loop [0, 5, 8] (.block 3 (Q [.reg [o1 31 (.callH 85 [.v (.nil 96)]), m 9 31] [0, 5, 8, 9],
      .reg [m 32 0, lq 33 32, o1 34 (.mks 3 1 8 (.int .i64 0) (.t 33)), m 10 34] [0, 5, 8, 9, 10],
      Q [.reg [m 35 0, lq 36 35, mi 37 0] [0, 5, 8, 9, 10, 35, 36, 37],
       .block 4 (.loop [0, 5, 8, 9, 10, 35, 36, 37] (Q [.reg [bt 38 .lss 37 36] [0, 5, 8, 9, 10, 35, 36, 37, 38],
          C 38 (.skip) (.exit 4),
          .block 5 (Q [.reg [m 39 37, ia 40 35 37 1, l1 41 40, m 11 39, m 12 41] [0, 5, 8, 9, 10, 11, 12, 35, 36, 37],
            .reg [m 42 5, m 43 11, ia 44 42 43 1, l1 45 44, o1 46 (.cii .u16 (.t 45)), o1 47 (.bld (zs 96 (.int .u16 0)) [(0, 1, (.t 46))]), o1 13 (.alc (zs 96 (.int .u16 0))), st 96 13 47] [0, 5, 8, 9, 10, 11, 12, 13, 35, 36, 37],
            Q [.reg [m 48 12, lq 49 48, mi 50 0] [0, 5, 8, 9, 10, 11, 13, 35, 36, 37, 48, 49, 50],
             .block 6 (.loop [0, 5, 8, 9, 10, 11, 13, 35, 36, 37, 48, 49, 50] (Q [.reg [bt 51 .lss 50 49] [0, 5, 8, 9, 10, 11, 13, 35, 36, 37, 48, 49, 50, 51],
                C 51 (.skip) (.exit 6),
                .block 7 (Q [.reg [m 52 50, ia 53 48 50 1, l1 54 53, m 14 52, m 15 54] [0, 5, 8, 9, 10, 11, 13, 14, 15, 35, 36, 37, 48, 49, 50],
                  .reg [m 55 14, o1 56 (.bin .add (.v (.int .i64 1)) (.t 55)), m 57 5, m 58 15, ia 59 57 58 1, l1 60 59, o1 61 (.cii .u16 (.t 60)), o1 62 (.iaa (.t 13) (.t 56) 96 1), st 1 62 61] [0, 5, 8, 9, 10, 11, 13, 35, 36, 37, 48, 49, 50]]),
                .reg [bi 63 .add 50 1, m 50 63] [0, 5, 8, 9, 10, 11, 13, 35, 36, 37, 48, 49, 50]]))],
            .reg [m 64 10, m 65 11, m 66 9, la 67 13 96, ch 68 86 [66, 67], ia 69 64 65 1, st 1 69 68] [0, 5, 8, 9, 10, 35, 36, 37]]),
          .reg [bi 70 .add 37 1, m 37 70] [0, 5, 8, 9, 10, 35, 36, 37]]))],
      Q [.reg [m 71 9, o1 72 (.nlc (.t 71)), fa 73 72 1, l1 74 73, lq 75 74, m 76 8, bt 77 .eql 75 76] [0, 9, 10, 77],
       C 77 (Q [.reg [m 78 10, m 4 78] [4],
         .ret]) (.skip)],
      .regD [m 79 10, m 80 9, o1 81 (.nlc (.t 80)), fa 82 81 1, l1 83 82, lq 84 83, m 5 79, m 8 84] [0, 5, 8]])))]
theorem i_dfa_classes : imageE Tryd.prog Tryd.f66 [] [36, 38, 63, 52, 74, 75, 87, 94, 93, 62, 117, 121, 118, 120, 122, 123, 119, 78, 51, 81, 86, 49, 80, 85, 91, 56, 58, 64, 65, 67, 34, 33, 35, 70, 71, 45, 68, 46, 72, 69, 73] [[0, 1], [0, 1, 5], [0, 5, 19, 20, 21], [0, 5, 19, 20, 21], [0, 5, 19, 20, 21, 22], [0, 5, 6, 7, 19, 20, 21], [0, 5, 6, 19, 20, 21, 26], [0, 5, 19, 20, 21], [0, 5, 19, 20, 21], [0, 5, 8], [0, 5, 8], [0, 5, 8, 9], [0, 5, 8, 9, 10], [0, 5, 8, 9, 10, 35, 36, 37], [0, 5, 8, 9, 10, 35, 36, 37], [0, 5, 8, 9, 10, 35, 36, 37, 38], [0, 5, 8, 9, 10, 11, 12, 35, 36, 37], [0, 5, 8, 9, 10, 11, 12, 13, 35, 36, 37], [0, 5, 8, 9, 10, 11, 13, 35, 36, 37, 48, 49, 50], [0, 5, 8, 9, 10, 11, 13, 35, 36, 37, 48, 49, 50], [0, 5, 8, 9, 10, 11, 13, 35, 36, 37, 48, 49, 50, 51], [0, 5, 8, 9, 10, 11, 13, 14, 15, 35, 36, 37, 48, 49, 50], [0, 5, 8, 9, 10, 11, 13, 35, 36, 37, 48, 49, 50], [0, 5, 8, 9, 10, 11, 13, 35, 36, 37, 48, 49, 50], [0, 5, 8, 9, 10, 35, 36, 37], [0, 5, 8, 9, 10, 35, 36, 37], [0, 9, 10, 77], [4], [0, 0, 0, 2, 6, 14, 30, 1, 127], [0, 1, 2, 3, 4, 5, 6, 7], [0, 5, 8]] 2 = some (c_dfa_classes, [.t 4]) := by kernel_rfl

abbrev n_dfa_path : Nat := 50
theorem h_dfa_path : Tryd.prog.funcs[50]? = some Tryd.f50 := Tryd.func50
def c_dfa_path : AC :=
  Q [.reg [mv 6 (.str [])] [0, 1, 2],
  .reg [mv 7 (.nil 1)] [0, 1, 2, 7],
  .block 0 (.loop [0, 1, 2, 7] (Q [Q [.reg [m 8 2, bi 9 .gtr 8 0] [0, 1, 2, 7, 9],
      C 9 (.skip) (.exit 0)],
     .block 1 (.reg [m 14 7, m 15 1, m 16 2, ia 17 15 16 1, l1 18 17, o1 19 (.lit 5 1 [.t 18]), o1 20 (.app (.t 14) (.t 19) 5 1 1), m 7 20] [0, 1, 2, 7]),
     .reg [m 10 0, m 11 2, ia 12 10 11 1, l1 13 12, m 2 13] [0, 1, 2, 7]])),
  .reg [m 21 7, ch 22 73 [21]] [7],
  .reg [m 23 7, o1 24 (.b2s (.t 23)), m 6 24] [6],
  .ret]
theorem i_dfa_path : imageE Tryd.prog Tryd.f50 [] [36, 38, 63, 52, 74, 75, 87, 94, 93, 62, 117, 121, 118, 120, 122, 123, 119, 78, 51, 81, 86, 49, 80, 85, 91, 56, 58, 64, 65, 67, 34, 33, 35, 70, 71, 45, 68, 46, 72, 69, 73] [[0, 1, 2], [0, 1, 2, 7], [0, 1, 2, 7], [0, 1, 2, 7, 9], [0, 1, 2, 7], [0, 1, 2, 7], [7], [6]] 3 = some (c_dfa_path, [.t 6]) := by kernel_rfl

abbrev n_strings_IndexByte : Nat := 89
theorem h_strings_IndexByte : Tryd.prog.funcs[89]? = some Tryd.f89 := Tryd.func89
def c_strings_IndexByte : AC :=
  Q [.reg [mi 4 0] [0, 1],
  .reg [m 5 0, m 6 1, ca 7 96 [5, 6], m 4 7] [4],
  .ret]
theorem i_strings_IndexByte : image Tryd.prog Tryd.f89 [[0, 1], [4]] 2 = some (c_strings_IndexByte, [.t 4]) := by kernel_rfl

abbrev n_internal_stringslite_IndexByte : Nat := 96
theorem h_internal_stringslite_IndexByte : Tryd.prog.funcs[96]? = some Tryd.f96 := Tryd.func96
def c_internal_stringslite_IndexByte : AC :=
  Q [.reg [mi 4 0] [0, 1],
  .reg [m 5 0, m 6 1, ca 7 99 [5, 6], m 4 7] [4],
  .ret]
theorem i_internal_stringslite_IndexByte : image Tryd.prog Tryd.f96 [[0, 1], [4]] 2 = some (c_internal_stringslite_IndexByte, [.t 4]) := by kernel_rfl

abbrev n_internal_bytealg_IndexByteString : Nat := 99
theorem h_internal_bytealg_IndexByteString : Tryd.prog.funcs[99]? = some Tryd.f99 := Tryd.func99

abbrev n_law11_DfaLeast : Nat := 3
theorem h_law11_DfaLeast : Tryd.prog.funcs[3]? = some Tryd.f3 := Tryd.func3
def c_law11_DfaLeast : AC :=
  Q [.reg [mb 6 false] [0, 1, 2],
  .reg [m 12 0, m 13 1, ca 14 9 [12, 13], o1 7 (.alc [.nil 1, .nil 1]), st 2 7 14] [2, 7],
  .reg [la 16 7 2, ca 17 10 [16], m 15 17, ex 18 15 0, ex 19 15 1, m 8 18, m 9 19] [2, 7, 8, 9],
  .reg [la 20 7 2, ca 21 11 [20], m 10 21] [2, 7, 8, 9, 10],
  Q [.reg [m 22 10, bi 23 .lss 22 0] [2, 7, 8, 9, 10, 23],
   C 23 (Q [.reg [m 24 8, bs 25 .eql 24 [], m 26 25, gt 26 (m 27 9), gt 26 (nt' 28 27), pa 29 26 28, m 30 29, gt 30 (ca 31 12 []), pa 32 30 31, m 6 32] [6],
     .ret]) (.skip)],
  Q [.reg [m 33 9, nt' 34 33, m 35 34, gf 35 (m 36 8), gf 35 (ls 37 36), gf 35 (m 38 10), gf 35 (bt 39 .neq 37 38), po 40 35 39, m 41 40, gf 41 (la 42 7 2), gf 41 (m 43 8), gf 41 (o1 44 (.call 13 [.t 42, .v (.int .i64 0), .t 43])), gf 41 (nt' 45 44), po 46 41 45] [2, 7, 8, 46],
   C 46 (Q [.reg [mb 6 false] [6],
     .ret]) (.skip)],
  .reg [m 47 2, ca 48 14 [47], m 2 48] [2, 7, 8],
  .reg [m 49 2, ls 50 49, m 51 8, ls 52 51, bt 53 .lss 50 52, m 54 53, gf 54 (m 55 2), gf 54 (ls 56 55), gf 54 (m 57 8), gf 54 (ls 58 57), gf 54 (bt 59 .eql 56 58), gf 54 (m 60 59), gt 60 (m 61 2), gt 60 (m 62 8), gt 60 (bt 63 .lss 61 62), gf 54 (pa 64 60 63), po 65 54 64, m 11 65] [2, 7, 8, 11],
  .reg [m 66 11, nt' 67 66, m 68 67, gf 68 (la 69 7 2), gf 68 (m 70 2), gf 68 (o1 71 (.call 13 [.t 69, .v (.int .i64 0), .t 70])), gf 68 (nt' 72 71), po 73 68 72, m 74 73, gt 74 (la 75 7 2), gt 74 (m 76 8), gt 74 (ca 77 15 [75, 76]), pa 78 74 77, m 79 78, gt 79 (ca 80 12 []), pa 81 79 80, m 6 81] [6],
  .ret]
theorem i_law11_DfaLeast : image Tryd.prog Tryd.f3 [[0, 1, 2], [2, 7], [2, 7, 8, 9], [2, 7, 8, 9, 10], [2, 7, 8, 9, 10, 23], [6], [2, 7, 8, 46], [6], [2, 7, 8], [2, 7, 8, 11], [6]] 3 = some (c_law11_DfaLeast, [.t 6]) := by kernel_rfl

abbrev n_law11_DfaMay : Nat := 4
theorem h_law11_DfaMay : Tryd.prog.funcs[4]? = some Tryd.f4 := Tryd.func4
def c_law11_DfaMay : AC :=
  Q [.reg [bx 4 0, mb 8 false] [1, 2, 3, 4],
  Q [.reg [fa 16 4 0, l1 17 16, lq 18 17, bi 19 .gtr 18 8] [1, 2, 3, 4, 19],
   C 19 (.reg [fa 20 4 0, l1 21 20, o1 22 (.slq (.t 21) none (some (.v (.int .i64 8))) 1), fa 23 4 0, st 1 23 22] [1, 2, 3, 4]) (.skip)],
  .reg [la 24 4 2, ca 25 16 [24], m 9 25] [1, 2, 3, 4, 9],
  .reg [la 26 4 2, ca 27 17 [26], m 10 27] [1, 2, 3, 9, 10],
  .reg [m 28 1, m 29 2, ca 30 9 [28, 29], o1 11 (.alc [.nil 1, .nil 1]), st 2 11 30] [3, 9, 10, 11],
  .reg [m 31 3, ca 32 14 [31], m 3 32] [3, 9, 10, 11],
  .reg [mb 12 true] [3, 9, 10, 11, 12],
  Q [.reg [mi 13 0] [3, 9, 10, 11, 12, 13],
   .block 0 (.loop [3, 9, 10, 11, 12, 13] (Q [Q [.reg [m 33 13, m 34 3, ls 35 34, bt 36 .lss 33 35] [3, 9, 10, 11, 12, 13, 36],
       C 36 (.skip) (.exit 0)],
      .block 1 (.reg [m 39 12, m 40 39, gt 40 (m 41 3), gt 40 (m 42 13), gt 40 (ix 43 41 42), gt 40 (bu 44 .geq 43 32), pa 45 40 44, m 46 45, gt 46 (m 47 3), gt 46 (m 48 13), gt 46 (ix 49 47 48), gt 46 (bu 50 .leq 49 126), pa 51 46 50, m 12 51] [3, 9, 10, 11, 12, 13]),
      .reg [m 37 13, bi 38 .add 37 1, m 13 38] [3, 9, 10, 11, 12, 13]]))],
  .reg [ca 52 18 [], o1 14 (.alc [.nil 1, .nil 1]), st 2 14 52] [3, 9, 10, 11, 12, 14],
  .reg [ca 53 19 [], o1 15 (.alc [.nil 1, .nil 1]), st 2 15 53] [3, 9, 10, 11, 12, 14, 15],
  Q [.reg [m 54 9, bi 55 .eql 54 0, m 56 10, o1 57 (.beq true (.t 55) (.t 56)), m 58 57, gf 58 (m 59 10), gf 58 (nt' 60 59), gf 58 (m 61 60), gt 61 (m 62 9), gt 61 (bi 63 .neq 62 1), gf 58 (pa 64 61 63), po 65 58 64, m 66 65, gf 66 (la 67 11 2), gf 66 (ca 68 16 [67]), gf 66 (bi 69 .neq 68 0), po 70 66 69, m 71 70, gf 71 (la 72 14 2), gf 71 (ca 73 16 [72]), gf 71 (bi 74 .neq 73 0), po 75 71 74, m 76 75, gf 76 (la 77 15 2), gf 76 (ca 78 16 [77]), gf 76 (bi 79 .neq 78 0), po 80 76 79] [3, 11, 12, 14, 15, 80],
   C 80 (Q [.reg [mb 8 false] [8],
     .ret]) (.skip)],
  .regD [la 81 11 2, m 82 3, ca 83 20 [81, 82], la 84 11 2, m 85 3, o1 86 (.call 13 [.t 84, .v (.int .i64 0), .t 85]), o1 87 (.beq false (.t 83) (.t 86)), m 88 87, gt 88 (la 89 14 2), gt 88 (m 90 3), gt 88 (ca 91 20 [89, 90]), gt 88 (nt' 92 91), pa 93 88 92, m 94 93, gt 94 (la 95 15 2), gt 94 (m 96 3), gt 94 (ca 97 20 [95, 96]), gt 94 (m 98 12), gt 94 (o1 99 (.beq false (.t 97) (.t 98))), pa 100 94 99, m 101 100, gt 101 (ca 102 12 []), pa 103 101 102, m 8 103] [8],
  .ret]
theorem i_law11_DfaMay : image Tryd.prog Tryd.f4 [[1, 2, 3, 4], [1, 2, 3, 4, 19], [1, 2, 3, 4], [1, 2, 3, 4, 9], [1, 2, 3, 9, 10], [3, 9, 10, 11], [3, 9, 10, 11], [3, 9, 10, 11, 12], [3, 9, 10, 11, 12, 13], [3, 9, 10, 11, 12, 13], [3, 9, 10, 11, 12, 13, 36], [3, 9, 10, 11, 12, 13], [3, 9, 10, 11, 12, 13], [3, 9, 10, 11, 12, 14], [3, 9, 10, 11, 12, 14, 15], [3, 11, 12, 14, 15, 80], [8], [0, 0, 0, 3, 0, 0, 31, 63, 127, 255, 255, 1023, 2047, 4095, 8191, 16383, 16383, 65535, 16383, 262143, 524287, 1048575, 2097151, 4194303, 8388607], [0, 1, 2, 3, 4, 5, 6, 7, 8, 9, 10, 11, 12, 13, 14, 15, 16, 17, 18, 19, 20, 21, 22, 23], [8]] 4 = some (c_law11_DfaMay, [.t 8]) := by kernel_rfl

abbrev n_law11_DfaForms : Nat := 5
theorem h_law11_DfaForms : Tryd.prog.funcs[5]? = some Tryd.f5 := Tryd.func5
def c_law11_DfaForms : AC :=
  Q [.reg [mb 6 false] [0, 1, 2],
  .reg [m 11 0, m 12 1, ca 13 9 [11, 12], o1 7 (.alc [.nil 1, .nil 1]), st 2 7 13] [2, 7],
  .reg [la 14 7 2, ca 15 21 [14], o1 8 (.alc [.nil 1, .nil 1]), st 2 8 15] [2, 7, 8],
  .reg [la 16 7 2, ca 17 22 [16], o1 9 (.alc [.nil 1, .nil 1]), st 2 9 17] [2, 7, 8, 9],
  Q [.regD [la 18 8 2, la 19 7 2, ca 20 24 [19], ca 21 23 [18, 20], nt' 22 21, m 23 22, gf 23 (fa 24 9 0), gf 23 (l1 25 24), gf 23 (lq 26 25), gf 23 (fa 27 7 0), gf 23 (l1 28 27), gf 23 (lq 29 28), gf 23 (bt 30 .neq 26 29), po 31 23 30, m 32 31, gf 32 (la 33 9 2), gf 32 (ca 34 16 [33]), gf 32 (bi 35 .neq 34 0), po 36 32 35] [2, 7, 8, 9, 36],
   C 36 (Q [.reg [mb 6 false] [6],
     .ret]) (.skip)],
  Q [.reg [mi 10 0] [2, 7, 8, 9, 10],
   .block 0 (.loop [2, 7, 8, 9, 10] (Q [Q [.reg [m 37 10, fa 38 9 0, l1 39 38, lq 40 39, bt 41 .lss 37 40] [2, 7, 8, 9, 10, 41],
       C 41 (.skip) (.exit 0)],
      .block 1 (Q [.regD [fa 44 9 0, l1 45 44, m 46 10, ia 47 45 46 1, l1 48 47, fa 49 7 0, l1 50 49, m 51 10, ia 52 50 51 1, l1 53 52, ca 54 25 [48, 53], nt' 55 54, m 56 55, gf 56 (fa 57 9 1), gf 56 (l1 58 57), gf 56 (m 59 10), gf 56 (ia 60 58 59 1), gf 56 (l1 61 60), gf 56 (fa 62 7 1), gf 56 (l1 63 62), gf 56 (m 64 10), gf 56 (ia 65 63 64 1), gf 56 (l1 66 65), gf 56 (o1 67 (.beq false (.t 61) (.t 66))), po 68 56 67] [2, 7, 8, 9, 10, 68],
        C 68 (Q [.reg [mb 6 false] [6],
          .ret]) (.skip)]),
      .reg [m 42 10, bi 43 .add 42 1, m 10 43] [2, 7, 8, 9, 10]]))],
  .regD [la 69 8 2, m 70 2, ca 71 14 [70], ca 72 20 [69, 71], la 73 7 2, m 74 2, ca 75 14 [74], o1 76 (.call 13 [.t 73, .v (.int .i64 0), .t 75]), o1 77 (.beq false (.t 72) (.t 76)), m 78 77, gt 78 (ca 79 12 []), pa 80 78 79, m 6 80] [6],
  .ret]
theorem i_law11_DfaForms : image Tryd.prog Tryd.f5 [[0, 1, 2], [2, 7], [2, 7, 8], [2, 7, 8, 9], [0, 0, 0, 2, 7, 15, 31, 63, 127, 255, 63, 575, 1599, 4095, 8191, 16383, 32767, 65535, 131071, 262143], [0, 1, 2, 3, 4, 5, 6, 7, 8, 9, 10, 11, 12, 13, 14, 15, 16, 17, 18], [2, 7, 8, 9, 36], [6], [2, 7, 8, 9, 10], [2, 7, 8, 9, 10], [2, 7, 8, 9, 10, 41], [0, 0, 1, 0, 7, 15, 0, 32, 0, 224, 480, 1023, 2047, 4095, 8191, 16383, 8191, 65535, 131071, 8191, 270335, 8191, 1843199, 3940351, 8388607, 16777215], [0, 1, 2, 3, 4, 5, 6, 7, 8, 9, 10, 11, 12, 13, 14, 15, 16, 17, 18, 19, 20, 21, 22, 23, 24], [2, 7, 8, 9, 10, 68], [6], [2, 7, 8, 9, 10], [0, 0, 0, 2, 7, 0, 0, 47, 127, 255, 511, 1023, 2047, 4095], [0, 1, 2, 3, 4, 5, 6, 7, 8, 9, 10, 11, 12], [6]] 3 = some (c_law11_DfaForms, [.t 6]) := by kernel_rfl

abbrev n_law11_DfaOne : Nat := 6
theorem h_law11_DfaOne : Tryd.prog.funcs[6]? = some Tryd.f6 := Tryd.func6
def c_law11_DfaOne : AC :=
  Q [.reg [mb 8 false] [0, 1, 2, 3],
  .reg [m 14 0, m 15 1, ca 16 9 [14, 15], o1 9 (.alc [.nil 1, .nil 1]), st 2 9 16] [2, 3, 9],
  .reg [m 17 2, m 18 3, ca 19 9 [17, 18], o1 10 (.alc [.nil 1, .nil 1]), st 2 10 19] [9, 10],
  .reg [la 20 9 2, la 21 10 2, ca 22 26 [20, 21], m 23 22, gt 23 (la 24 10 2), gt 23 (la 25 9 2), gt 23 (ca 26 26 [24, 25]), pa 27 23 26, m 11 27] [9, 10, 11],
  .reg [la 28 9 2, ca 29 21 [28], o1 12 (.alc [.nil 1, .nil 1]), st 2 12 29] [9, 10, 11, 12],
  .reg [la 30 12 2, ca 31 21 [30], o1 13 (.alc [.nil 1, .nil 1]), st 2 13 31] [9, 10, 11, 12, 13],
  .regD [la 32 12 2, la 33 10 2, ca 34 21 [33], ca 35 23 [32, 34], m 36 11, o1 37 (.beq false (.t 35) (.t 36)), m 38 37, gt 38 (la 39 12 2), gt 38 (la 40 13 2), gt 38 (ca 41 23 [39, 40]), pa 42 38 41, m 43 42, gt 43 (la 44 12 2), gt 43 (la 45 9 2), gt 43 (ca 46 27 [44, 45]), pa 47 43 46, m 48 47, gt 48 (ca 49 12 []), pa 50 48 49, m 8 50] [8],
  .ret]
theorem i_law11_DfaOne : image Tryd.prog Tryd.f6 [[0, 1, 2, 3], [2, 3, 9], [9, 10], [9, 10, 11], [9, 10, 11, 12], [9, 10, 11, 12, 13], [0, 0, 0, 2, 7, 0, 31, 63, 127, 127, 511, 1023, 2047, 4095, 4095, 16383, 32767, 65535, 131071, 262143, 524287], [0, 1, 2, 3, 4, 5, 6, 7, 8, 9, 10, 11, 12, 13, 14, 15, 16, 17, 18, 19], [8]] 4 = some (c_law11_DfaOne, [.t 8]) := by kernel_rfl

abbrev n_law11_DfaAnds : Nat := 7
theorem h_law11_DfaAnds : Tryd.prog.funcs[7]? = some Tryd.f7 := Tryd.func7
def c_law11_DfaAnds : AC :=
  Q [.reg [mb 10 false] [0, 1, 2, 3, 4],
  .reg [m 23 0, m 24 1, ca 25 9 [23, 24], o1 11 (.alc [.nil 1, .nil 1]), st 2 11 25] [2, 3, 4, 11],
  .reg [m 26 2, m 27 3, ca 28 9 [26, 27], o1 12 (.alc [.nil 1, .nil 1]), st 2 12 28] [4, 11, 12],
  .reg [la 30 11 2, la 31 12 2, ca 32 28 [30, 31], m 29 32, ex 33 29 0, ex 34 29 1, o1 13 (.alc [.nil 1, .nil 1]), st 2 13 33, m 14 34] [4, 11, 12, 13, 14],
  Q [.reg [m 35 14, bi 36 .neq 35 0] [4, 11, 12, 13, 36],
   C 36 (Q [.reg [mb 10 false] [10],
     .ret]) (.skip)],
  .regD [la 37 11 2, m 38 4, ca 39 14 [38], o1 40 (.call 13 [.t 37, .v (.int .i64 0), .t 39]), m 15 40] [4, 11, 12, 13, 15],
  .regD [la 41 12 2, m 42 4, ca 43 14 [42], o1 44 (.call 13 [.t 41, .v (.int .i64 0), .t 43]), m 16 44] [4, 11, 12, 13, 15, 16],
  .reg [la 45 11 2, la 46 12 2, ca 47 26 [45, 46], m 17 47] [4, 11, 12, 13, 15, 16, 17],
  .reg [la 48 12 2, la 49 11 2, ca 50 26 [48, 49], m 18 50] [4, 11, 12, 13, 15, 16, 17, 18],
  Q [.regD [la 51 13 2, la 52 11 2, la 53 12 2, o1 54 (.call 29 [.t 52, .t 53, .v (.bool false)]), ca 55 24 [54], ca 56 23 [51, 55], nt' 57 56] [4, 11, 12, 13, 15, 16, 17, 18, 57],
   C 57 (Q [.reg [mb 10 false] [10],
     .ret]) (.skip)],
  .reg [la 59 11 2, la 60 12 2, ca 61 30 [59, 60], m 58 61, ex 62 58 0, ex 63 58 1, m 19 62, m 20 63] [4, 11, 12, 13, 15, 16, 17, 18, 19, 20],
  .reg [la 65 13 2, ca 66 10 [65], m 64 66, ex 67 64 0, ex 68 64 1, m 21 67, m 22 68] [4, 11, 12, 13, 15, 16, 17, 18, 19, 20, 21, 22],
  Q [.reg [m 69 19, m 70 21, bt 71 .neq 69 70, m 72 71, gf 72 (m 73 20), gf 72 (m 74 22), gf 72 (o1 75 (.beq true (.t 73) (.t 74))), po 76 72 75] [4, 11, 12, 13, 15, 16, 17, 18, 76],
   C 76 (Q [.reg [mb 10 false] [10],
     .ret]) (.skip)],
  .regD [la 77 13 2, m 78 4, ca 79 14 [78], ca 80 20 [77, 79], m 81 15, m 82 81, gt 82 (m 83 16), pa 84 82 83, o1 85 (.beq false (.t 80) (.t 84)), m 86 85, gt 86 (la 87 11 2), gt 86 (la 88 12 2), gt 86 (ca 89 31 [87, 88]), gt 86 (m 90 17), gt 86 (o1 91 (.beq false (.t 89) (.t 90))), pa 92 86 91, m 93 92, gt 93 (la 94 12 2), gt 93 (la 95 11 2), gt 93 (ca 96 31 [94, 95]), gt 93 (m 97 18), gt 93 (o1 98 (.beq false (.t 96) (.t 97))), pa 99 93 98, m 100 99, gt 100 (la 101 11 2), gt 100 (la 102 12 2), gt 100 (ca 103 27 [101, 102]), gt 100 (m 104 17), gt 100 (m 105 104), gt 105 (m 106 18), gt 100 (pa 107 105 106), gt 100 (o1 108 (.beq false (.t 103) (.t 107))), pa 109 100 108, m 110 109, gt 110 (ca 111 12 []), pa 112 110 111, m 10 112] [10],
  .ret]
theorem i_law11_DfaAnds : image Tryd.prog Tryd.f7 [[0, 1, 2, 3, 4], [2, 3, 4, 11], [4, 11, 12], [4, 11, 12, 13, 14], [4, 11, 12, 13, 36], [10], [0, 0, 0, 2, 7, 15], [0, 1, 2, 3, 4], [4, 11, 12, 13, 15], [0, 0, 0, 2, 7, 15], [0, 1, 2, 3, 4], [4, 11, 12, 13, 15, 16], [4, 11, 12, 13, 15, 16, 17], [4, 11, 12, 13, 15, 16, 17, 18], [0, 0, 0, 0, 6, 14, 31, 63], [0, 1, 2, 3, 4, 5, 6], [4, 11, 12, 13, 15, 16, 17, 18, 57], [10], [4, 11, 12, 13, 15, 16, 17, 18, 19, 20], [4, 11, 12, 13, 15, 16, 17, 18, 19, 20, 21, 22], [4, 11, 12, 13, 15, 16, 17, 18, 76], [10], [0, 0, 0, 2, 7, 0, 31, 63, 127, 255, 511, 1023, 1023, 4095, 1023, 16383, 32767, 65535, 131071, 131071, 524287, 131071, 2097151, 4194303, 8388607, 16777215, 16777215, 67108863, 16777215, 268435455, 536870911, 1073741823, 2147483647, 4294967295, 8589934591, 17179869183, 34359738367, 68719476735], [0, 1, 2, 3, 4, 5, 6, 7, 8, 9, 10, 11, 12, 13, 14, 15, 16, 17, 18, 19, 20, 21, 22, 23, 24, 25, 26, 27, 28, 29, 30, 31, 32, 33, 34, 35, 36], [10]] 5 = some (c_law11_DfaAnds, [.t 10]) := by kernel_rfl

abbrev n_law11_DfaTwice : Nat := 8
theorem h_law11_DfaTwice : Tryd.prog.funcs[8]? = some Tryd.f8 := Tryd.func8
def c_law11_DfaTwice : AC :=
  Q [.reg [mb 4 false] [0, 1],
  .reg [m 14 0, m 15 1, ca 16 9 [14, 15], o1 5 (.alc [.nil 1, .nil 1]), st 2 5 16] [5],
  .reg [la 17 5 2, ca 18 22 [17], o1 6 (.alc [.nil 1, .nil 1]), st 2 6 18] [5, 6],
  .reg [la 20 5 2, la 21 5 2, ca 22 28 [20, 21], m 19 22, ex 23 19 0, ex 24 19 1, o1 7 (.alc [.nil 1, .nil 1]), st 2 7 23, m 8 24] [5, 6, 7, 8],
  .reg [la 26 5 2, la 27 6 2, ca 28 28 [26, 27], m 25 28, ex 29 25 0, ex 30 25 1, o1 9 (.alc [.nil 1, .nil 1]), st 2 9 29, m 10 30] [5, 6, 7, 8, 9, 10],
  .regD [la 31 6 2, ca 32 22 [31], la 33 5 2, ca 34 27 [32, 33], m 35 34, gt 35 (la 36 7 2), gt 35 (la 37 5 2), gt 35 (ca 38 27 [36, 37]), pa 39 35 38, m 11 39] [8, 9, 10, 11],
  .reg [la 41 9 2, ca 42 10 [41], m 40 42, ex 43 40 0, ex 44 40 1, m 12 43, m 13 44] [8, 9, 10, 11, 13],
  .regD [m 45 8, bi 46 .eql 45 0, m 47 46, gt 47 (m 48 10), gt 47 (bi 49 .eql 48 0), pa 50 47 49, m 51 50, gt 51 (m 52 11), pa 53 51 52, m 54 53, gt 54 (m 55 13), gt 54 (nt' 56 55), pa 57 54 56, m 58 57, gt 58 (la 59 9 2), gt 58 (ca 60 18 []), gt 58 (ca 61 23 [59, 60]), pa 62 58 61, m 63 62, gt 63 (ca 64 12 []), pa 65 63 64, m 4 65] [4],
  .ret]
theorem i_law11_DfaTwice : image Tryd.prog Tryd.f8 [[0, 1], [5], [5, 6], [5, 6, 7, 8], [5, 6, 7, 8, 9, 10], [0, 0, 1, 0, 7, 15, 31, 31, 127, 255, 511], [0, 1, 2, 3, 4, 5, 6, 7, 8, 9], [8, 9, 10, 11], [8, 9, 10, 11, 13], [0, 0, 1, 3, 7, 15, 31, 63, 127, 255, 511, 1023, 2047, 4095, 8191, 16383, 16383, 65535, 131071, 262143, 524287, 1048575, 2097151], [0, 1, 2, 3, 4, 5, 6, 7, 8, 9, 10, 11, 12, 13, 14, 15, 16, 17, 18, 19, 20, 21], [4]] 2 = some (c_law11_DfaTwice, [.t 4]) := by kernel_rfl

abbrev n_ref11_Good : Nat := 9
theorem h_ref11_Good : Tryd.prog.funcs[9]? = some Tryd.f9 := Tryd.func9
def c_ref11_Good : AC :=
  Q [.reg [o1 4 (.alc [.nil 1, .nil 1])] [0, 1, 4],
  .reg [m 11 0, lq 12 11, o1 13 (.call 32 [.t 12, .v (.int .i64 5)]), o1 14 (.bin .add (.v (.int .i64 1)) (.t 13)), m 5 14] [0, 1, 4, 5],
  .reg [o1 6 (.alc [.nil 1, .nil 1])] [0, 1, 4, 5, 6],
  Q [.reg [mi 7 0] [0, 1, 4, 5, 6, 7],
   .block 0 (.loop [0, 1, 4, 5, 6, 7] (Q [Q [.reg [m 15 7, m 16 5, bt 17 .lss 15 16] [0, 1, 4, 5, 6, 7, 17],
       C 17 (.skip) (.exit 0)],
      .block 1 (Q [.reg [o1 20 (.mks 3 1 8 (.int .i64 0) (.v (.int .i64 95))), m 8 20] [0, 1, 4, 5, 6, 7, 8],
        Q [.reg [mi 9 0] [0, 1, 4, 5, 6, 7, 8, 9],
         .block 2 (.loop [0, 1, 4, 5, 6, 7, 8, 9] (Q [Q [.reg [m 21 9, bi 22 .lss 21 95] [0, 1, 4, 5, 6, 7, 8, 9, 22],
             C 22 (.skip) (.exit 2)],
            .block 3 (Q [.reg [mi 10 3] [0, 1, 4, 5, 6, 7, 8, 9, 10],
              Q [.reg [m 25 9, bi 26 .geq 25 65, m 27 26, gt 27 (m 28 9), gt 27 (bi 29 .leq 28 67), pa 30 27 29] [0, 1, 4, 5, 6, 7, 8, 9, 10, 30],
               C 30 (.reg [m 31 9, bi 32 .sub 31 65, m 10 32] [0, 1, 4, 5, 6, 7, 8, 9, 10]) (.skip)],
              .reg [m 33 7, m 34 0, lq 35 34, bt 36 .lss 33 35, m 37 36, gt 37 (m 38 10), gt 37 (m 39 0), gt 37 (m 40 7), gt 37 (ia 41 39 40 1), gt 37 (l1 42 41), gt 37 (lq 43 42), gt 37 (bt 44 .lss 38 43), pa 45 37 44] [0, 1, 4, 5, 6, 7, 8, 9, 10, 45],
              C 45 (.reg [m 46 8, m 47 9, m 48 0, m 49 7, ia 50 48 49 1, l1 51 50, m 52 10, ia 53 51 52 1, l1 54 53, m 55 5, ca 56 32 [54, 55], ia 57 46 47 1, st 1 57 56] [0, 1, 4, 5, 6, 7, 8, 9]) (.skip)]),
            .reg [m 23 9, bi 24 .add 23 1, m 9 24] [0, 1, 4, 5, 6, 7, 8, 9]]))],
        .reg [fa 58 6 0, l1 59 58, m 60 8, o1 61 (.lit 43 1 [.t 60]), o1 62 (.app (.t 59) (.t 61) 43 1 24), fa 63 6 0, st 1 63 62] [0, 1, 4, 5, 6, 7],
        .regD [fa 64 6 1, l1 65 64, m 66 7, m 67 1, lq 68 67, bt 69 .lss 66 68, m 70 69, gt 70 (m 71 1), gt 70 (m 72 7), gt 70 (ia 73 71 72 1), gt 70 (l1 74 73), pa 75 70 74, o1 76 (.lit 4 1 [.t 75]), o1 77 (.app (.t 65) (.t 76) 4 1 1), fa 78 6 1, st 1 78 77] [0, 1, 4, 5, 6, 7]]),
      .reg [m 18 7, bi 19 .add 18 1, m 7 19] [0, 1, 4, 5, 6, 7]]))],
  .reg [la 79 6 2, st 2 4 79] [4],
  .ret]
theorem i_ref11_Good : image Tryd.prog Tryd.f9 [[0, 1, 4], [0, 1, 4, 5], [0, 1, 4, 5, 6], [0, 1, 4, 5, 6, 7], [0, 1, 4, 5, 6, 7], [0, 1, 4, 5, 6, 7, 17], [0, 1, 4, 5, 6, 7, 8], [0, 1, 4, 5, 6, 7, 8, 9], [0, 1, 4, 5, 6, 7, 8, 9], [0, 1, 4, 5, 6, 7, 8, 9, 22], [0, 1, 4, 5, 6, 7, 8, 9, 10], [0, 1, 4, 5, 6, 7, 8, 9, 10, 30], [0, 1, 4, 5, 6, 7, 8, 9, 10], [0, 1, 4, 5, 6, 7, 8, 9, 10, 45], [0, 1, 4, 5, 6, 7, 8, 9], [0, 1, 4, 5, 6, 7, 8, 9], [0, 1, 4, 5, 6, 7], [0, 0, 1, 0, 0, 8, 28, 60, 124, 124, 508, 1020, 2044, 4092, 8191, 16383, 32767], [0, 1, 2, 3, 4, 5, 6, 7, 8, 9, 10, 11, 12, 13, 14, 15], [0, 1, 4, 5, 6, 7], [0, 1, 4, 5, 6, 7], [4]] 2 = some (c_ref11_Good, [.c 4 2 true]) := by kernel_rfl

abbrev n_ref11_Least : Nat := 11
theorem h_ref11_Least : Tryd.prog.funcs[11]? = some Tryd.f11 := Tryd.func11
def c_ref11_Least : AC :=
  Q [.reg [bx 1 0, mi 2 0] [1],
  .reg [fa 10 1 0, l1 11 10, lq 12 11, m 3 12] [1, 3],
  .reg [m 13 3, o1 14 (.mks 4 1 1 (.bool false) (.t 13)), m 4 14] [1, 3, 4],
  .reg [m 15 4, o1 16 (.ia (.t 15) (.v (.int .i64 0)) 1), o0 (.st 1 (.t 16) (.v (.bool true)))] [1, 3, 4],
  Q [.reg [mi 5 0] [1, 3, 4, 5],
   .block 0 (.loop [1, 3, 4, 5] (Q [Q [.reg [m 17 5, m 18 3, bt 19 .leq 17 18] [1, 3, 4, 5, 19],
       C 19 (.skip) (.exit 0)],
      .block 1 (Q [.reg [m 22 3, o1 23 (.mks 4 1 1 (.bool false) (.t 22)), m 6 23] [1, 3, 4, 5, 6],
        Q [.reg [mi 7 0] [1, 3, 4, 5, 6, 7],
         .block 2 (.loop [1, 3, 4, 5, 6, 7] (Q [Q [.reg [m 24 7, m 25 3, bt 26 .lss 24 25] [1, 3, 4, 5, 6, 7, 26],
             C 26 (.skip) (.exit 2)],
            .block 3 (Q [Q [.reg [m 29 4, m 30 7, ia 31 29 30 1, l1 32 31, m 33 32, gt 33 (fa 34 1 1), gt 33 (l1 35 34), gt 33 (m 36 7), gt 33 (ia 37 35 36 1), gt 33 (l1 38 37), pa 39 33 38] [1, 3, 4, 5, 6, 7, 39],
               C 39 (Q [.reg [m 40 5, m 2 40] [2],
                 .ret]) (.skip)],
              .reg [mi 8 0] [1, 3, 4, 5, 6, 7, 8],
              .block 4 (.loop [1, 3, 4, 5, 6, 7, 8] (Q [Q [.reg [m 41 8, bi 42 .lss 41 95, m 43 42, gt 43 (m 44 4), gt 43 (m 45 7), gt 43 (ia 46 44 45 1), gt 43 (l1 47 46), pa 48 43 47] [1, 3, 4, 5, 6, 7, 8, 48],
                  C 48 (.skip) (.exit 4)],
                 .block 5 (Q [.reg [fa 51 1 0, l1 52 51, m 53 7, ia 54 52 53 1, l1 55 54, m 56 8, ia 57 55 56 1, l1 58 57, m 9 58] [1, 3, 4, 5, 6, 7, 8, 9],
                   .reg [m 59 6, m 60 9, ia 61 59 60 1, o0 (.st 1 (.t 61) (.v (.bool true)))] [1, 3, 4, 5, 6, 7, 8]]),
                 .reg [m 49 8, bi 50 .add 49 1, m 8 50] [1, 3, 4, 5, 6, 7, 8]]))]),
            .reg [m 27 7, bi 28 .add 27 1, m 7 28] [1, 3, 4, 5, 6, 7]]))],
        .reg [m 62 6, m 4 62] [1, 3, 4, 5]]),
      .reg [m 20 5, bi 21 .add 20 1, m 5 21] [1, 3, 4, 5]]))],
  .reg [mi 2 (-1)] [2],
  .ret]
theorem i_ref11_Least : image Tryd.prog Tryd.f11 [[1], [1, 3], [1, 3, 4], [1, 3, 4], [1, 3, 4, 5], [1, 3, 4, 5], [1, 3, 4, 5, 19], [1, 3, 4, 5, 6], [1, 3, 4, 5, 6, 7], [1, 3, 4, 5, 6, 7], [1, 3, 4, 5, 6, 7, 26], [1, 3, 4, 5, 6, 7, 39], [2], [1, 3, 4, 5, 6, 7, 8], [1, 3, 4, 5, 6, 7, 8], [1, 3, 4, 5, 6, 7, 8, 48], [1, 3, 4, 5, 6, 7, 8, 9], [1, 3, 4, 5, 6, 7, 8], [1, 3, 4, 5, 6, 7, 8], [1, 3, 4, 5, 6, 7], [1, 3, 4, 5], [1, 3, 4, 5], [2]] 1 = some (c_ref11_Least, [.t 2]) := by kernel_rfl

abbrev n_ref11_From : Nat := 13
theorem h_ref11_From : Tryd.prog.funcs[13]? = some Tryd.f13 := Tryd.func13
def c_ref11_From : AC :=
  Q [.reg [bx 3 0, mb 6 false] [1, 2, 3],
  Q [.reg [mi 7 0] [1, 2, 3, 7],
   .block 0 (.loop [1, 2, 3, 7] (Q [Q [.reg [m 9 7, m 10 2, ls 11 10, bt 12 .lss 9 11] [1, 2, 3, 7, 12],
       C 12 (.skip) (.exit 0)],
      .block 1 (Q [Q [.reg [m 15 2, m 16 7, ix 17 15 16, bu 18 .lss 17 32, m 19 18, gf 19 (m 20 2), gf 19 (m 21 7), gf 19 (ix 22 20 21), gf 19 (bu 23 .gtr 22 126), po 24 19 23] [1, 2, 3, 7, 24],
         C 24 (Q [.reg [mb 6 false] [6],
           .ret]) (.skip)],
        .reg [m 25 2, m 26 7, ix 27 25 26, o1 28 (.cii .i64 (.t 27)), bi 29 .sub 28 32, m 8 29] [1, 2, 3, 7, 8],
        .reg [fa 30 3 0, l1 31 30, m 32 1, ia 33 31 32 1, l1 34 33, m 35 8, ia 36 34 35 1, l1 37 36, m 1 37] [1, 2, 3, 7]]),
      .reg [m 13 7, bi 14 .add 13 1, m 7 14] [1, 2, 3, 7]]))],
  .reg [fa 38 3 1, l1 39 38, m 40 1, ia 41 39 40 1, l1 42 41, m 6 42] [6],
  .ret]
theorem i_ref11_From : image Tryd.prog Tryd.f13 [[1, 2, 3], [1, 2, 3, 7], [1, 2, 3, 7], [1, 2, 3, 7, 12], [1, 2, 3, 7, 24], [6], [1, 2, 3, 7, 8], [1, 2, 3, 7], [1, 2, 3, 7], [6]] 3 = some (c_ref11_From, [.t 6]) := by kernel_rfl

abbrev n_law11_few : Nat := 14
theorem h_law11_few : Tryd.prog.funcs[14]? = some Tryd.f14 := Tryd.func14
def c_law11_few : AC :=
  Q [.reg [mv 2 (.str [])] [0],
  Q [.reg [m 3 0, ls 4 3, bi 5 .gtr 4 10] [0, 5],
   C 5 (Q [.reg [m 6 0, o1 7 (.sls (.t 6) none (some (.v (.int .i64 10)))), m 2 7] [2],
     .ret]) (.skip)],
  .reg [m 8 0, m 2 8] [2],
  .ret]
theorem i_law11_few : image Tryd.prog Tryd.f14 [[0], [0, 5], [2], [2]] 1 = some (c_law11_few, [.t 2]) := by kernel_rfl

abbrev n_law11_first : Nat := 15
theorem h_law11_first : Tryd.prog.funcs[15]? = some Tryd.f15 := Tryd.func15
def c_law11_first : AC :=
  Q [.reg [bx 2 0, mb 4 false] [1, 2],
  .reg [mi 5 0] [1, 2, 5],
  Q [.reg [mi 6 0] [1, 2, 5, 6],
   .block 0 (.loop [1, 2, 5, 6] (Q [Q [.reg [m 11 6, m 12 1, ls 13 12, bt 14 .lss 11 13] [1, 2, 5, 6, 14],
       C 14 (.skip) (.exit 0)],
      .block 1 (Q [.reg [m 17 1, m 18 6, ix 19 17 18, o1 20 (.cii .i64 (.t 19)), bi 21 .sub 20 32, m 7 21] [1, 2, 5, 6, 7],
        Q [.reg [mi 8 0] [1, 2, 5, 6, 7, 8],
         .block 2 (.loop [1, 2, 5, 6, 7, 8] (Q [Q [.reg [m 22 8, m 23 7, bt 24 .lss 22 23] [1, 2, 5, 6, 7, 8, 24],
             C 24 (.skip) (.exit 2)],
            .block 3 (Q [.reg [fa 27 2 0, l1 28 27, m 29 5, ia 30 28 29 1, l1 31 30, m 32 8, ia 33 31 32 1, l1 34 33, m 9 34] [1, 2, 5, 6, 7, 8, 9],
              .reg [la 35 2 2, m 36 9, m 37 1, ls 38 37, m 39 6, bt 40 .sub 38 39, bi 41 .sub 40 1, ca 42 39 [35, 36, 41], m 10 42] [1, 2, 5, 6, 7, 8, 10],
              .reg [m 43 10] [1, 2, 5, 6, 7, 8, 43],
              C 43 (Q [.reg [mb 4 false] [4],
                .ret]) (.skip)]),
            .reg [m 25 8, bi 26 .add 25 1, m 8 26] [1, 2, 5, 6, 7, 8]]))],
        .reg [fa 44 2 0, l1 45 44, m 46 5, ia 47 45 46 1, l1 48 47, m 49 7, ia 50 48 49 1, l1 51 50, m 5 51] [1, 2, 5, 6]]),
      .reg [m 15 6, bi 16 .add 15 1, m 6 16] [1, 2, 5, 6]]))],
  .reg [mb 4 true] [4],
  .ret]
theorem i_law11_first : image Tryd.prog Tryd.f15 [[1, 2], [1, 2, 5], [1, 2, 5, 6], [1, 2, 5, 6], [1, 2, 5, 6, 14], [1, 2, 5, 6, 7], [1, 2, 5, 6, 7, 8], [1, 2, 5, 6, 7, 8], [1, 2, 5, 6, 7, 8, 24], [1, 2, 5, 6, 7, 8, 9], [1, 2, 5, 6, 7, 8, 10], [1, 2, 5, 6, 7, 8, 43], [4], [1, 2, 5, 6, 7, 8], [1, 2, 5, 6], [1, 2, 5, 6], [4]] 2 = some (c_law11_first, [.t 4]) := by kernel_rfl

abbrev n_ref11_May : Nat := 17
theorem h_ref11_May : Tryd.prog.funcs[17]? = some Tryd.f17 := Tryd.func17
def c_ref11_May : AC :=
  Q [.reg [bx 1 0, mb 2 false] [1],
  .reg [fa 6 1 0, l1 7 6, lq 8 7, m 3 8] [1, 3],
  Q [.reg [m 9 3, bi 10 .lss 9 1, m 11 10, gf 11 (m 12 3), gf 11 (bi 13 .gtr 12 500), po 14 11 13, m 15 14, gf 15 (fa 16 1 1), gf 15 (l1 17 16), gf 15 (lq 18 17), gf 15 (m 19 3), gf 15 (bt 20 .neq 18 19), po 21 15 20] [1, 3, 21],
   C 21 (Q [.reg [mb 2 false] [2],
     .ret]) (.skip)],
  Q [.reg [mi 4 0] [1, 3, 4],
   .block 0 (.loop [1, 3, 4] (Q [Q [.reg [m 22 4, m 23 3, bt 24 .lss 22 23] [1, 3, 4, 24],
       C 24 (.skip) (.exit 0)],
      .block 1 (Q [Q [.reg [fa 27 1 0, l1 28 27, m 29 4, ia 30 28 29 1, l1 31 30, lq 32 31, bi 33 .neq 32 95] [1, 3, 4, 33],
         C 33 (Q [.reg [mb 2 false] [2],
           .ret]) (.skip)],
        .reg [mi 5 0] [1, 3, 4, 5],
        .block 2 (.loop [1, 3, 4, 5] (Q [Q [.reg [m 34 5, bi 35 .lss 34 95] [1, 3, 4, 5, 35],
            C 35 (.skip) (.exit 2)],
           .block 3 (Q [.reg [fa 38 1 0, l1 39 38, m 40 4, ia 41 39 40 1, l1 42 41, m 43 5, ia 44 42 43 1, l1 45 44, bi 46 .lss 45 0, m 47 46, gf 47 (fa 48 1 0), gf 47 (l1 49 48), gf 47 (m 50 4), gf 47 (ia 51 49 50 1), gf 47 (l1 52 51), gf 47 (m 53 5), gf 47 (ia 54 52 53 1), gf 47 (l1 55 54), gf 47 (m 56 3), gf 47 (bt 57 .geq 55 56), po 58 47 57] [1, 3, 4, 5, 58],
             C 58 (Q [.reg [mb 2 false] [2],
               .ret]) (.skip)]),
           .reg [m 36 5, bi 37 .add 36 1, m 5 37] [1, 3, 4, 5]]))]),
      .reg [m 25 4, bi 26 .add 25 1, m 4 26] [1, 3, 4]]))],
  .reg [mb 2 true] [2],
  .ret]
theorem i_ref11_May : image Tryd.prog Tryd.f17 [[1], [1, 3], [1, 3, 21], [2], [1, 3, 4], [1, 3, 4], [1, 3, 4, 24], [1, 3, 4, 33], [2], [1, 3, 4, 5], [1, 3, 4, 5], [1, 3, 4, 5, 35], [1, 3, 4, 5, 58], [2], [1, 3, 4, 5], [1, 3, 4], [2]] 1 = some (c_ref11_May, [.t 2]) := by kernel_rfl

abbrev n_dfa_Empty : Nat := 18
theorem h_dfa_Empty : Tryd.prog.funcs[18]? = some Tryd.f18 := Tryd.func18
def c_dfa_Empty : AC :=
  Q [.reg [o1 0 (.alc [.nil 1, .nil 1])] [0],
  .reg [o1 1 (.call 40 [.v (.bool false)]), st 2 0 1] [0],
  .ret]
theorem i_dfa_Empty : image Tryd.prog Tryd.f18 [[0], [0]] 0 = some (c_dfa_Empty, [.c 0 2 true]) := by kernel_rfl

abbrev n_dfa_Full : Nat := 19
theorem h_dfa_Full : Tryd.prog.funcs[19]? = some Tryd.f19 := Tryd.func19
def c_dfa_Full : AC :=
  Q [.reg [o1 0 (.alc [.nil 1, .nil 1])] [0],
  .reg [o1 1 (.call 40 [.v (.bool true)]), st 2 0 1] [0],
  .ret]
theorem i_dfa_Full : image Tryd.prog Tryd.f19 [[0], [0]] 0 = some (c_dfa_Full, [.c 0 2 true]) := by kernel_rfl

abbrev n_dfa_Form : Nat := 21
theorem h_dfa_Form : Tryd.prog.funcs[21]? = some Tryd.f21 := Tryd.func21
def c_dfa_Form : AC :=
  Q [.reg [bx 1 0, o1 2 (.alc [.nil 1, .nil 1])] [1, 2],
  Q [.reg [la 3 1 2, ca 4 16 [3], bi 5 .neq 4 0] [1, 2, 5],
   C 5 (Q [.reg [o1 6 (.bld [.nil 1, .nil 1] []), st 2 2 6] [2],
     .ret]) (.skip)],
  .reg [fa 7 1 0, l1 8 7, fa 9 1 1, l1 10 9, ca 11 41 [8, 10], st 2 2 11] [2],
  .ret]
theorem i_dfa_Form : image Tryd.prog Tryd.f21 [[1, 2], [1, 2, 5], [2], [2]] 1 = some (c_dfa_Form, [.c 2 2 true]) := by kernel_rfl

abbrev n_dfa_Not : Nat := 22
theorem h_dfa_Not : Tryd.prog.funcs[22]? = some Tryd.f22 := Tryd.func22
def c_dfa_Not : AC :=
  Q [.reg [bx 1 0, o1 2 (.alc [.nil 1, .nil 1])] [1, 2],
  Q [.reg [la 6 1 2, ca 7 16 [6], bi 8 .neq 7 0] [1, 2, 8],
   C 8 (Q [.reg [o1 9 (.bld [.nil 1, .nil 1] []), st 2 2 9] [2],
     .ret]) (.skip)],
  .reg [o1 3 (.alc [.nil 1, .nil 1])] [1, 2, 3],
  Q [.reg [fa 10 1 0, l1 11 10, lq 12 11, mi 13 0] [1, 2, 3, 11, 12, 13],
   .block 0 (.loop [1, 2, 3, 11, 12, 13] (Q [.reg [bt 14 .lss 13 12] [1, 2, 3, 11, 12, 13, 14],
      C 14 (.skip) (.exit 0),
      .block 1 (Q [.reg [m 15 13, ia 16 11 13 1, l1 17 16, m 4 15, m 5 17] [1, 2, 3, 4, 5, 11, 12, 13],
        .regD [fa 18 3 0, l1 19 18, m 20 5, o1 21 (.app (.v (.nil 1)) (.t 20) 3 1 8), o1 22 (.lit 43 1 [.t 21]), o1 23 (.app (.t 19) (.t 22) 43 1 24), fa 24 3 0, st 1 24 23] [1, 2, 3, 4, 11, 12, 13],
        .regD [fa 25 3 1, l1 26 25, fa 27 1 1, l1 28 27, m 29 4, ia 30 28 29 1, l1 31 30, nt' 32 31, o1 33 (.lit 4 1 [.t 32]), o1 34 (.app (.t 26) (.t 33) 4 1 1), fa 35 3 1, st 1 35 34] [1, 2, 3, 11, 12, 13]]),
      .reg [bi 36 .add 13 1, m 13 36] [1, 2, 3, 11, 12, 13]]))],
  .reg [la 37 3 2, st 2 2 37] [2],
  .ret]
theorem i_dfa_Not : image Tryd.prog Tryd.f22 [[1, 2], [1, 2, 8], [2], [1, 2, 3], [1, 2, 3, 11, 12, 13], [1, 2, 3, 11, 12, 13], [1, 2, 3, 11, 12, 13, 14], [1, 2, 3, 4, 5, 11, 12, 13], [0, 0, 1, 0, 4, 12, 31, 63, 127], [0, 1, 2, 3, 4, 5, 6, 7], [1, 2, 3, 4, 11, 12, 13], [0, 0, 1, 0, 4, 0, 28, 60, 124, 252, 511, 1023, 2047], [0, 1, 2, 3, 4, 5, 6, 7, 8, 9, 10, 11], [1, 2, 3, 11, 12, 13], [1, 2, 3, 11, 12, 13], [2]] 1 = some (c_dfa_Not, [.c 2 2 true]) := by kernel_rfl

abbrev n_ref11_Equal : Nat := 23
theorem h_ref11_Equal : Tryd.prog.funcs[23]? = some Tryd.f23 := Tryd.func23
def c_ref11_Equal : AC :=
  Q [.reg [bx 2 0, bx 3 1, mb 4 false] [2, 3],
  Q [.reg [fa 7 2 0, l1 8 7, lq 9 8, fa 10 3 0, l1 11 10, lq 12 11, bt 13 .neq 9 12, m 14 13, gf 14 (fa 15 2 1), gf 14 (l1 16 15), gf 14 (lq 17 16), gf 14 (fa 18 3 1), gf 14 (l1 19 18), gf 14 (lq 20 19), gf 14 (bt 21 .neq 17 20), po 22 14 21] [2, 3, 22],
   C 22 (Q [.reg [mb 4 false] [4],
     .ret]) (.skip)],
  Q [.reg [mi 5 0] [2, 3, 5],
   .block 0 (.loop [2, 3, 5] (Q [Q [.reg [m 23 5, fa 24 2 0, l1 25 24, lq 26 25, bt 27 .lss 23 26] [2, 3, 5, 27],
       C 27 (.skip) (.exit 0)],
      .block 1 (Q [.regD [fa 30 2 0, l1 31 30, m 32 5, ia 33 31 32 1, l1 34 33, fa 35 3 0, l1 36 35, m 37 5, ia 38 36 37 1, l1 39 38, ca 40 25 [34, 39], m 6 40] [2, 3, 5, 6],
        .regD [m 41 6, nt' 42 41, m 43 42, gf 43 (fa 44 2 1), gf 43 (l1 45 44), gf 43 (m 46 5), gf 43 (ia 47 45 46 1), gf 43 (l1 48 47), gf 43 (fa 49 3 1), gf 43 (l1 50 49), gf 43 (m 51 5), gf 43 (ia 52 50 51 1), gf 43 (l1 53 52), gf 43 (o1 54 (.beq true (.t 48) (.t 53))), po 55 43 54] [2, 3, 5, 55],
        C 55 (Q [.reg [mb 4 false] [4],
          .ret]) (.skip)]),
      .reg [m 28 5, bi 29 .add 28 1, m 5 29] [2, 3, 5]]))],
  .reg [mb 4 true] [4],
  .ret]
theorem i_ref11_Equal : image Tryd.prog Tryd.f23 [[2, 3], [2, 3, 22], [4], [2, 3, 5], [2, 3, 5], [2, 3, 5, 27], [0, 0, 1, 0, 7, 15, 0, 32, 0, 224, 480, 1023, 2047], [0, 1, 2, 3, 4, 5, 6, 7, 8, 9, 10, 11], [2, 3, 5, 6], [0, 0, 1, 3, 7, 15, 7, 63, 127, 7, 263, 7, 1799, 3847, 8191, 16383], [0, 1, 2, 3, 4, 5, 6, 7, 8, 9, 10, 11, 12, 13, 14], [2, 3, 5, 55], [4], [2, 3, 5], [4]] 2 = some (c_ref11_Equal, [.t 4]) := by kernel_rfl

abbrev n_ref11_Form : Nat := 24
theorem h_ref11_Form : Tryd.prog.funcs[24]? = some Tryd.f24 := Tryd.func24
def c_ref11_Form : AC :=
  Q [.reg [bx 1 0, o1 2 (.alc [.nil 1, .nil 1])] [1, 2],
  .reg [la 14 1 2, ca 15 42 [14], m 3 15] [1, 2, 3],
  .reg [o1 16 (.lit 3 1 [.v (.int .i64 0)]), m 4 16] [1, 2, 3, 4],
  .reg [o1 5 (.alc [.nil 1, .nil 1])] [1, 2, 3, 4, 5],
  Q [.reg [mi 6 0] [1, 2, 3, 4, 5, 6],
   .block 0 (.loop [1, 2, 3, 4, 5, 6] (Q [Q [.reg [m 17 6, m 18 4, lq 19 18, bt 20 .lss 17 19] [1, 2, 3, 4, 5, 6, 20],
       C 20 (.skip) (.exit 0)],
      .block 1 (Q [.reg [m 23 4, m 24 6, ia 25 23 24 1, l1 26 25, m 7 26] [1, 2, 3, 4, 5, 6, 7],
        .reg [mv 8 (.nil 1)] [1, 2, 3, 4, 5, 6, 7, 8],
        Q [.reg [mi 9 0] [1, 2, 3, 4, 5, 6, 7, 8, 9],
         .block 2 (.loop [1, 2, 3, 4, 5, 6, 7, 8, 9] (Q [Q [.reg [m 27 9, bi 28 .lss 27 95] [1, 2, 3, 4, 5, 6, 7, 8, 9, 28],
             C 28 (.skip) (.exit 2)],
            .block 3 (Q [.reg [fa 31 1 0, l1 32 31, m 33 7, ia 34 32 33 1, l1 35 34, m 36 9, ia 37 35 36 1, l1 38 37, m 10 38] [1, 2, 3, 4, 5, 6, 7, 8, 9, 10],
              .reg [mi 11 (-1)] [1, 2, 3, 4, 5, 6, 7, 8, 9, 10, 11],
              Q [.reg [mi 12 0] [1, 2, 3, 4, 5, 6, 7, 8, 9, 10, 11, 12],
               .block 4 (.loop [1, 2, 3, 4, 5, 6, 7, 8, 9, 10, 11, 12] (Q [Q [.reg [m 39 12, m 40 4, lq 41 40, bt 42 .lss 39 41, m 43 42, gt 43 (m 44 11), gt 43 (bi 45 .lss 44 0), pa 46 43 45] [1, 2, 3, 4, 5, 6, 7, 8, 9, 10, 11, 12, 46],
                   C 46 (.skip) (.exit 4)],
                  .block 5 (Q [.reg [m 49 4, m 50 12, ia 51 49 50 1, l1 52 51, m 13 52] [1, 2, 3, 4, 5, 6, 7, 8, 9, 10, 11, 12, 13],
                    .reg [m 53 3, m 54 13, ia 55 53 54 1, l1 56 55, m 57 10, ia 58 56 57 1, l1 59 58, nt' 60 59] [1, 2, 3, 4, 5, 6, 7, 8, 9, 10, 11, 12, 60],
                    C 60 (.reg [m 61 12, m 11 61] [1, 2, 3, 4, 5, 6, 7, 8, 9, 10, 11, 12]) (.skip)]),
                  .reg [m 47 12, bi 48 .add 47 1, m 12 48] [1, 2, 3, 4, 5, 6, 7, 8, 9, 10, 11, 12]]))],
              Q [.reg [m 62 11, bi 63 .lss 62 0] [1, 2, 3, 4, 5, 6, 7, 8, 9, 10, 11, 63],
               C 63 (Q [.reg [m 64 4, lq 65 64, m 11 65] [1, 2, 3, 4, 5, 6, 7, 8, 9, 10, 11],
                 .reg [m 66 4, m 67 10, o1 68 (.lit 3 1 [.t 67]), o1 69 (.app (.t 66) (.t 68) 3 1 8), m 4 69] [1, 2, 3, 4, 5, 6, 7, 8, 9, 11]]) (.skip)],
              .reg [m 70 8, m 71 11, o1 72 (.lit 3 1 [.t 71]), o1 73 (.app (.t 70) (.t 72) 3 1 8), m 8 73] [1, 2, 3, 4, 5, 6, 7, 8, 9]]),
            .reg [m 29 9, bi 30 .add 29 1, m 9 30] [1, 2, 3, 4, 5, 6, 7, 8, 9]]))],
        .reg [fa 74 5 0, l1 75 74, m 76 8, o1 77 (.lit 43 1 [.t 76]), o1 78 (.app (.t 75) (.t 77) 43 1 24), fa 79 5 0, st 1 79 78] [1, 2, 3, 4, 5, 6, 7],
        .regD [fa 80 5 1, l1 81 80, fa 82 1 1, l1 83 82, m 84 7, ia 85 83 84 1, l1 86 85, o1 87 (.lit 4 1 [.t 86]), o1 88 (.app (.t 81) (.t 87) 4 1 1), fa 89 5 1, st 1 89 88] [1, 2, 3, 4, 5, 6]]),
      .reg [m 21 6, bi 22 .add 21 1, m 6 22] [1, 2, 3, 4, 5, 6]]))],
  .reg [la 90 5 2, st 2 2 90] [2],
  .ret]
theorem i_ref11_Form : image Tryd.prog Tryd.f24 [[1, 2], [1, 2, 3], [1, 2, 3, 4], [1, 2, 3, 4, 5], [1, 2, 3, 4, 5, 6], [1, 2, 3, 4, 5, 6], [1, 2, 3, 4, 5, 6, 20], [1, 2, 3, 4, 5, 6, 7], [1, 2, 3, 4, 5, 6, 7, 8], [1, 2, 3, 4, 5, 6, 7, 8, 9], [1, 2, 3, 4, 5, 6, 7, 8, 9], [1, 2, 3, 4, 5, 6, 7, 8, 9, 28], [1, 2, 3, 4, 5, 6, 7, 8, 9, 10], [1, 2, 3, 4, 5, 6, 7, 8, 9, 10, 11], [1, 2, 3, 4, 5, 6, 7, 8, 9, 10, 11, 12], [1, 2, 3, 4, 5, 6, 7, 8, 9, 10, 11, 12], [1, 2, 3, 4, 5, 6, 7, 8, 9, 10, 11, 12, 46], [1, 2, 3, 4, 5, 6, 7, 8, 9, 10, 11, 12, 13], [1, 2, 3, 4, 5, 6, 7, 8, 9, 10, 11, 12, 60], [1, 2, 3, 4, 5, 6, 7, 8, 9, 10, 11, 12], [1, 2, 3, 4, 5, 6, 7, 8, 9, 10, 11, 12], [1, 2, 3, 4, 5, 6, 7, 8, 9, 10, 11, 63], [1, 2, 3, 4, 5, 6, 7, 8, 9, 10, 11], [1, 2, 3, 4, 5, 6, 7, 8, 9, 11], [1, 2, 3, 4, 5, 6, 7, 8, 9], [1, 2, 3, 4, 5, 6, 7, 8, 9], [1, 2, 3, 4, 5, 6, 7], [0, 0, 1, 0, 4, 0, 28, 60, 124, 255, 511, 1023], [0, 1, 2, 3, 4, 5, 6, 7, 8, 9, 10], [1, 2, 3, 4, 5, 6], [1, 2, 3, 4, 5, 6], [2]] 1 = some (c_ref11_Form, [.c 2 2 true]) := by kernel_rfl

abbrev n_ref10_Same : Nat := 25
theorem h_ref10_Same : Tryd.prog.funcs[25]? = some Tryd.f25 := Tryd.func25
def c_ref10_Same : AC :=
  Q [.reg [mb 4 false] [0, 1],
  Q [.reg [m 6 0, lq 7 6, m 8 1, lq 9 8, bt 10 .neq 7 9] [0, 1, 10],
   C 10 (Q [.reg [mb 4 false] [4],
     .ret]) (.skip)],
  Q [.reg [mi 5 0] [0, 1, 5],
   .block 0 (.loop [0, 1, 5] (Q [Q [.reg [m 11 5, m 12 0, lq 13 12, bt 14 .lss 11 13] [0, 1, 5, 14],
       C 14 (.skip) (.exit 0)],
      .block 1 (Q [.regD [m 17 0, m 18 5, ia 19 17 18 1, l1 20 19, m 21 1, m 22 5, ia 23 21 22 1, l1 24 23, bt 25 .neq 20 24] [0, 1, 5, 25],
        C 25 (Q [.reg [mb 4 false] [4],
          .ret]) (.skip)]),
      .reg [m 15 5, bi 16 .add 15 1, m 5 16] [0, 1, 5]]))],
  .reg [mb 4 true] [4],
  .ret]
theorem i_ref10_Same : image Tryd.prog Tryd.f25 [[0, 1], [0, 1, 10], [4], [0, 1, 5], [0, 1, 5], [0, 1, 5, 14], [0, 0, 0, 3, 7, 0, 0, 48, 112, 255], [0, 1, 2, 3, 4, 5, 6, 7, 8], [0, 1, 5, 25], [4], [0, 1, 5], [4]] 2 = some (c_ref10_Same, [.t 4]) := by kernel_rfl

abbrev n_ref11_Within : Nat := 26
theorem h_ref11_Within : Tryd.prog.funcs[26]? = some Tryd.f26 := Tryd.func26
def c_ref11_Within : AC :=
  Q [.reg [bx 2 0, bx 3 1, mb 4 false] [2, 3],
  .reg [la 5 2 2, la 6 3 2, o1 7 (.call 29 [.t 5, .t 6, .v (.bool true)]), ca 8 11 [7], bi 9 .lss 8 0, m 4 9] [4],
  .ret]
theorem i_ref11_Within : image Tryd.prog Tryd.f26 [[2, 3], [4]] 2 = some (c_ref11_Within, [.t 4]) := by kernel_rfl

abbrev n_dfa_Same : Nat := 27
theorem h_dfa_Same : Tryd.prog.funcs[27]? = some Tryd.f27 := Tryd.func27
def c_dfa_Same : AC :=
  Q [.reg [bx 2 0, bx 3 1, mb 4 false] [2, 3],
  Q [.reg [la 7 2 2, ca 8 16 [7], bi 9 .neq 8 0, m 10 9, gf 10 (la 11 3 2), gf 10 (ca 12 16 [11]), gf 10 (bi 13 .neq 12 0), po 14 10 13] [2, 3, 14],
   C 14 (Q [.reg [mb 4 false] [4],
     .ret]) (.skip)],
  .reg [la 16 2 2, la 17 3 2, o1 18 (.call 43 [.t 16, .t 17, .v (.fn (.func 44) [] [])]), m 15 18, ex 19 15 0, ex 20 15 1, m 5 19, m 6 20] [6],
  .reg [m 21 6, nt' 22 21, m 4 22] [4],
  .ret]
theorem i_dfa_Same : image Tryd.prog Tryd.f27 [[2, 3], [2, 3, 14], [4], [6], [4]] 2 = some (c_dfa_Same, [.t 4]) := by kernel_rfl

abbrev n_dfa_And : Nat := 28
theorem h_dfa_And : Tryd.prog.funcs[28]? = some Tryd.f28 := Tryd.func28
def c_dfa_And : AC :=
  Q [.reg [bx 2 0, bx 3 1, o1 4 (.alc [.nil 1, .nil 1]), mi 5 0] [2, 3, 4],
  Q [.reg [la 12 2 2, ca 13 16 [12], bi 14 .neq 13 0, m 15 14, gf 15 (la 16 3 2), gf 15 (ca 17 16 [16]), gf 15 (bi 18 .neq 17 0), po 19 15 18] [2, 3, 4, 19],
   C 19 (Q [.reg [o1 20 (.bld [.nil 1, .nil 1] []), st 2 4 20, mi 5 1] [4, 5],
     .ret]) (.skip)],
  .reg [o1 22 (.bld [.int .i64 0, .int .i64 0] []), la 23 2 2, la 24 3 2, ch 25 46 [23, 24], o1 26 (.callH 45 [.t 22, .t 25, .v (.int .i64 500)]), m 21 26, ex 27 21 0, ex 28 21 1, ex 29 21 2, m 6 27, m 7 28, m 8 29] [2, 3, 4, 6, 7, 8],
  Q [.reg [m 30 8, nt' 31 30] [2, 3, 4, 6, 7, 31],
   C 31 (Q [.reg [o1 32 (.bld [.nil 1, .nil 1] []), st 2 4 32, mi 5 3] [4, 5],
     .ret]) (.skip)],
  .reg [m 33 6, lq 34 33, o1 35 (.mks 4 1 1 (.bool false) (.t 34)), m 9 35] [2, 3, 4, 6, 7, 9],
  Q [.reg [m 36 6, lq 37 36, mi 38 0] [2, 3, 4, 7, 9, 36, 37, 38],
   .block 0 (.loop [2, 3, 4, 7, 9, 36, 37, 38] (Q [.reg [bt 39 .lss 38 37] [2, 3, 4, 7, 9, 36, 37, 38, 39],
      C 39 (.skip) (.exit 0),
      .block 1 (Q [.reg [m 40 38, ia 41 36 38 2, la 42 41 2, o1 11 (.alc [.int .i64 0, .int .i64 0]), m 10 40, st 2 11 42] [2, 3, 4, 7, 9, 10, 11, 36, 37, 38],
        .reg [m 43 9, m 44 10, fa 45 2 1, l1 46 45, fa 47 11 0, l1 48 47, ia 49 46 48 1, l1 50 49, m 51 50, gt 51 (fa 52 3 1), gt 51 (l1 53 52), gt 51 (fa 54 11 1), gt 51 (l1 55 54), gt 51 (ia 56 53 55 1), gt 51 (l1 57 56), pa 58 51 57, ia 59 43 44 1, st 1 59 58] [2, 3, 4, 7, 9, 36, 37, 38]]),
      .reg [bi 60 .add 38 1, m 38 60] [2, 3, 4, 7, 9, 36, 37, 38]]))],
  .reg [m 61 7, m 62 9, ca 63 41 [61, 62], st 2 4 63, mi 5 0] [4, 5],
  .ret]
theorem i_dfa_And : imageE Tryd.prog Tryd.f28 [] [36, 38, 63, 52, 74, 75, 87, 94, 93, 62, 117, 121, 118, 120, 122, 123, 119, 78, 51, 81, 86, 49, 80, 85, 91, 56, 58, 64, 65, 67, 34, 33, 35, 70, 71, 45, 68, 46, 72, 69, 73] [[2, 3, 4], [2, 3, 4, 19], [4, 5], [2, 3, 4, 6, 7, 8], [2, 3, 4, 6, 7, 31], [4, 5], [2, 3, 4, 6, 7, 9], [2, 3, 4, 7, 9, 36, 37, 38], [2, 3, 4, 7, 9, 36, 37, 38], [2, 3, 4, 7, 9, 36, 37, 38, 39], [2, 3, 4, 7, 9, 10, 11, 36, 37, 38], [2, 3, 4, 7, 9, 36, 37, 38], [2, 3, 4, 7, 9, 36, 37, 38], [4, 5]] 2 = some (c_dfa_And, [.c 4 2 true, .t 5]) := by kernel_rfl

abbrev n_ref11_Join : Nat := 29
theorem h_ref11_Join : Tryd.prog.funcs[29]? = some Tryd.f29 := Tryd.func29
def c_ref11_Join : AC :=
  Q [.reg [bx 3 0, bx 4 1, o1 6 (.alc [.nil 1, .nil 1])] [2, 3, 4, 6],
  .reg [o1 7 (.alc [.nil 1, .nil 1])] [2, 3, 4, 6, 7],
  .reg [fa 13 4 0, l1 14 13, lq 15 14, m 8 15] [2, 3, 4, 6, 7, 8],
  Q [.reg [mi 9 0] [2, 3, 4, 6, 7, 8, 9],
   .block 0 (.loop [2, 3, 4, 6, 7, 8, 9] (Q [Q [.reg [m 16 9, fa 17 3 0, l1 18 17, lq 19 18, bt 20 .lss 16 19] [2, 3, 4, 6, 7, 8, 9, 20],
       C 20 (.skip) (.exit 0)],
      .block 1 (Q [.reg [mi 10 0] [2, 3, 4, 6, 7, 8, 9, 10],
        .block 2 (.loop [2, 3, 4, 6, 7, 8, 9, 10] (Q [Q [.reg [m 23 10, m 24 8, bt 25 .lss 23 24] [2, 3, 4, 6, 7, 8, 9, 10, 25],
            C 25 (.skip) (.exit 2)],
           .block 3 (Q [.reg [o1 28 (.mks 3 1 8 (.int .i64 0) (.v (.int .i64 95))), m 11 28] [2, 3, 4, 6, 7, 8, 9, 10, 11],
             Q [.reg [mi 12 0] [2, 3, 4, 6, 7, 8, 9, 10, 11, 12],
              .block 4 (.loop [2, 3, 4, 6, 7, 8, 9, 10, 11, 12] (Q [Q [.reg [m 29 12, bi 30 .lss 29 95] [2, 3, 4, 6, 7, 8, 9, 10, 11, 12, 30],
                  C 30 (.skip) (.exit 4)],
                 .block 5 (.regD [m 33 11, m 34 12, fa 35 3 0, l1 36 35, m 37 9, ia 38 36 37 1, l1 39 38, m 40 12, ia 41 39 40 1, l1 42 41, m 43 8, bt 44 .mul 42 43, fa 45 4 0, l1 46 45, m 47 10, ia 48 46 47 1, l1 49 48, m 50 12, ia 51 49 50 1, l1 52 51, bt 53 .add 44 52, ia 54 33 34 1, st 1 54 53] [2, 3, 4, 6, 7, 8, 9, 10, 11, 12]),
                 .reg [m 31 12, bi 32 .add 31 1, m 12 32] [2, 3, 4, 6, 7, 8, 9, 10, 11, 12]]))],
             .reg [fa 55 7 0, l1 56 55, m 57 11, o1 58 (.lit 43 1 [.t 57]), o1 59 (.app (.t 56) (.t 58) 43 1 24), fa 60 7 0, st 1 60 59] [2, 3, 4, 6, 7, 8, 9, 10],
             .regD [fa 61 7 1, l1 62 61, fa 63 3 1, l1 64 63, m 65 9, ia 66 64 65 1, l1 67 66, m 68 67, gt 68 (fa 69 4 1), gt 68 (l1 70 69), gt 68 (m 71 10), gt 68 (ia 72 70 71 1), gt 68 (l1 73 72), gt 68 (m 74 2), gt 68 (o1 75 (.beq true (.t 73) (.t 74))), pa 76 68 75, o1 77 (.lit 4 1 [.t 76]), o1 78 (.app (.t 62) (.t 77) 4 1 1), fa 79 7 1, st 1 79 78] [2, 3, 4, 6, 7, 8, 9, 10]]),
           .reg [m 26 10, bi 27 .add 26 1, m 10 27] [2, 3, 4, 6, 7, 8, 9, 10]]))]),
      .reg [m 21 9, bi 22 .add 21 1, m 9 22] [2, 3, 4, 6, 7, 8, 9]]))],
  .reg [la 80 7 2, st 2 6 80] [6],
  .ret]
theorem i_ref11_Join : image Tryd.prog Tryd.f29 [[2, 3, 4, 6], [2, 3, 4, 6, 7], [2, 3, 4, 6, 7, 8], [2, 3, 4, 6, 7, 8, 9], [2, 3, 4, 6, 7, 8, 9], [2, 3, 4, 6, 7, 8, 9, 20], [2, 3, 4, 6, 7, 8, 9, 10], [2, 3, 4, 6, 7, 8, 9, 10], [2, 3, 4, 6, 7, 8, 9, 10, 25], [2, 3, 4, 6, 7, 8, 9, 10, 11], [2, 3, 4, 6, 7, 8, 9, 10, 11, 12], [2, 3, 4, 6, 7, 8, 9, 10, 11, 12], [2, 3, 4, 6, 7, 8, 9, 10, 11, 12, 30], [0, 0, 0, 0, 4, 0, 28, 60, 0, 252, 508, 0, 2044, 0, 4096, 0, 28672, 61440, 0, 258048, 520192, 1048572, 2097151, 4194303], [0, 1, 2, 3, 4, 5, 6, 7, 8, 9, 10, 11, 12, 13, 14, 15, 16, 17, 18, 19, 20, 21, 22], [2, 3, 4, 6, 7, 8, 9, 10, 11, 12], [2, 3, 4, 6, 7, 8, 9, 10, 11, 12], [2, 3, 4, 6, 7, 8, 9, 10], [0, 0, 1, 0, 4, 0, 28, 60, 124, 252, 508, 252, 2044, 4092, 252, 16380, 32764, 65532, 131071, 262143, 524287], [0, 1, 2, 3, 4, 5, 6, 7, 8, 9, 10, 11, 12, 13, 14, 15, 16, 17, 18, 19], [2, 3, 4, 6, 7, 8, 9, 10], [2, 3, 4, 6, 7, 8, 9, 10], [2, 3, 4, 6, 7, 8, 9], [6]] 3 = some (c_ref11_Join, [.c 6 2 true]) := by kernel_rfl

abbrev n_dfa_Common : Nat := 30
theorem h_dfa_Common : Tryd.prog.funcs[30]? = some Tryd.f30 := Tryd.func30
def c_dfa_Common : AC :=
  Q [.reg [bx 2 0, bx 3 1, mv 4 (.str []), mb 5 false] [2, 3],
  .reg [la 6 2 2, la 7 3 2, o1 8 (.call 43 [.t 6, .t 7, .v (.fn (.func 47) [] [])]), ex 9 8 0, ex 10 8 1, m 4 9, m 5 10] [4, 5],
  .ret]
theorem i_dfa_Common : image Tryd.prog Tryd.f30 [[2, 3], [4, 5]] 2 = some (c_dfa_Common, [.t 4, .t 5]) := by kernel_rfl

abbrev n_dfa_Within : Nat := 31
theorem h_dfa_Within : Tryd.prog.funcs[31]? = some Tryd.f31 := Tryd.func31
def c_dfa_Within : AC :=
  Q [.reg [bx 2 0, bx 3 1, mb 4 false] [2, 3],
  Q [.reg [la 7 2 2, ca 8 16 [7], bi 9 .neq 8 0, m 10 9, gf 10 (la 11 3 2), gf 10 (ca 12 16 [11]), gf 10 (bi 13 .neq 12 0), po 14 10 13] [2, 3, 14],
   C 14 (Q [.reg [mb 4 false] [4],
     .ret]) (.skip)],
  .reg [la 16 2 2, la 17 3 2, o1 18 (.call 43 [.t 16, .t 17, .v (.fn (.func 48) [] [])]), m 15 18, ex 19 15 0, ex 20 15 1, m 5 19, m 6 20] [6],
  .reg [m 21 6, nt' 22 21, m 4 22] [4],
  .ret]
theorem i_dfa_Within : image Tryd.prog Tryd.f31 [[2, 3], [2, 3, 14], [4], [6], [4]] 2 = some (c_dfa_Within, [.t 4]) := by kernel_rfl

abbrev n_ref11_round : Nat := 32
theorem h_ref11_round : Tryd.prog.funcs[32]? = some Tryd.f32 := Tryd.func32
def c_ref11_round : AC :=
  Q [.reg [mi 4 0] [0, 1],
  Q [.reg [m 5 0, bi 6 .lss 5 0] [0, 1, 6],
   C 6 (.reg [m 7 0, bi 8 .add 7 1, o1 9 (.un .neg (.t 8)), m 0 9] [0, 1]) (.skip)],
  .reg [m 10 0, m 11 1, bt 12 .rem 10 11, m 4 12] [4],
  .ret]
theorem i_ref11_round : image Tryd.prog Tryd.f32 [[0, 1], [0, 1, 6], [0, 1], [4]] 2 = some (c_ref11_round, [.t 4]) := by kernel_rfl

abbrev n_law11_long : Nat := 39
theorem h_law11_long : Tryd.prog.funcs[39]? = some Tryd.f39 := Tryd.func39
def c_law11_long : AC :=
  Q [.reg [bx 3 0, mb 6 false] [1, 2, 3],
  .reg [fa 14 3 0, l1 15 14, lq 16 15, o1 17 (.mks 4 1 1 (.bool false) (.t 16)), m 7 17] [1, 2, 3, 7],
  .reg [m 18 7, m 19 1, ia 20 18 19 1, o0 (.st 1 (.t 20) (.v (.bool true)))] [2, 3, 7],
  Q [.reg [mi 8 0] [2, 3, 7, 8],
   .block 0 (.loop [2, 3, 7, 8] (Q [Q [.reg [m 21 8, m 22 2, bt 23 .lss 21 22] [2, 3, 7, 8, 23],
       C 23 (.skip) (.exit 0)],
      .block 1 (Q [.reg [fa 26 3 0, l1 27 26, lq 28 27, o1 29 (.mks 4 1 1 (.bool false) (.t 28)), m 9 29] [2, 3, 7, 8, 9],
        Q [.reg [mi 10 0] [2, 3, 7, 8, 9, 10],
         .block 2 (.loop [2, 3, 7, 8, 9, 10] (Q [Q [.reg [m 30 10, m 31 7, lq 32 31, bt 33 .lss 30 32] [2, 3, 7, 8, 9, 10, 33],
             C 33 (.skip) (.exit 2)],
            .block 3 (Q [.reg [mi 11 0] [2, 3, 7, 8, 9, 10, 11],
              .block 4 (.loop [2, 3, 7, 8, 9, 10, 11] (Q [Q [.reg [m 36 11, bi 37 .lss 36 95, m 38 37, gt 38 (m 39 7), gt 38 (m 40 10), gt 38 (ia 41 39 40 1), gt 38 (l1 42 41), pa 43 38 42] [2, 3, 7, 8, 9, 10, 11, 43],
                  C 43 (.skip) (.exit 4)],
                 .block 5 (Q [.reg [fa 46 3 0, l1 47 46, m 48 10, ia 49 47 48 1, l1 50 49, m 51 11, ia 52 50 51 1, l1 53 52, m 12 53] [2, 3, 7, 8, 9, 10, 11, 12],
                   .reg [m 54 9, m 55 12, ia 56 54 55 1, o0 (.st 1 (.t 56) (.v (.bool true)))] [2, 3, 7, 8, 9, 10, 11]]),
                 .reg [m 44 11, bi 45 .add 44 1, m 11 45] [2, 3, 7, 8, 9, 10, 11]]))]),
            .reg [m 34 10, bi 35 .add 34 1, m 10 35] [2, 3, 7, 8, 9, 10]]))],
        .reg [m 57 9, m 7 57] [2, 3, 7, 8]]),
      .reg [m 24 8, bi 25 .add 24 1, m 8 25] [2, 3, 7, 8]]))],
  Q [.reg [mi 13 0] [3, 7, 13],
   .block 6 (.loop [3, 7, 13] (Q [Q [.reg [m 58 13, m 59 7, lq 60 59, bt 61 .lss 58 60] [3, 7, 13, 61],
       C 61 (.skip) (.exit 6)],
      .block 7 (Q [.reg [m 64 7, m 65 13, ia 66 64 65 1, l1 67 66, m 68 67, gt 68 (fa 69 3 1), gt 68 (l1 70 69), gt 68 (m 71 13), gt 68 (ia 72 70 71 1), gt 68 (l1 73 72), pa 74 68 73] [3, 7, 13, 74],
        C 74 (Q [.reg [mb 6 true] [6],
          .ret]) (.skip)]),
      .reg [m 62 13, bi 63 .add 62 1, m 13 63] [3, 7, 13]]))],
  .reg [mb 6 false] [6],
  .ret]
theorem i_law11_long : image Tryd.prog Tryd.f39 [[1, 2, 3], [1, 2, 3, 7], [2, 3, 7], [2, 3, 7, 8], [2, 3, 7, 8], [2, 3, 7, 8, 23], [2, 3, 7, 8, 9], [2, 3, 7, 8, 9, 10], [2, 3, 7, 8, 9, 10], [2, 3, 7, 8, 9, 10, 33], [2, 3, 7, 8, 9, 10, 11], [2, 3, 7, 8, 9, 10, 11], [2, 3, 7, 8, 9, 10, 11, 43], [2, 3, 7, 8, 9, 10, 11, 12], [2, 3, 7, 8, 9, 10, 11], [2, 3, 7, 8, 9, 10, 11], [2, 3, 7, 8, 9, 10], [2, 3, 7, 8], [2, 3, 7, 8], [3, 7, 13], [3, 7, 13], [3, 7, 13, 61], [3, 7, 13, 74], [6], [3, 7, 13], [6]] 3 = some (c_law11_long, [.t 6]) := by kernel_rfl

abbrev n_dfa_single : Nat := 40
theorem h_dfa_single : Tryd.prog.funcs[40]? = some Tryd.f40 := Tryd.func40
def c_dfa_single : AC :=
  Q [.reg [o1 2 (.alc [.nil 1, .nil 1])] [0, 2],
  .reg [o1 3 (.mks 3 1 8 (.int .i64 0) (.v (.int .i64 95))), o1 4 (.lit 43 1 [.t 3]), m 5 0, o1 6 (.lit 4 1 [.t 5]), o1 7 (.bld [.nil 1, .nil 1] [(0, 1, (.t 4)), (1, 1, (.t 6))]), st 2 2 7] [2],
  .ret]
theorem i_dfa_single : image Tryd.prog Tryd.f40 [[0, 2], [2]] 1 = some (c_dfa_single, [.c 2 2 true]) := by kernel_rfl

abbrev n_ref11_Apart : Nat := 42
theorem h_ref11_Apart : Tryd.prog.funcs[42]? = some Tryd.f42 := Tryd.func42
def c_ref11_Apart : AC :=
  Q [.reg [bx 1 0, mv 2 (.nil 1)] [1],
  .reg [fa 13 1 0, l1 14 13, lq 15 14, m 3 15] [1, 3],
  .reg [m 16 3, o1 17 (.mkm 23 24 4 1 (.t 16)), m 4 17] [1, 3, 4],
  Q [.reg [mi 5 0] [1, 3, 4, 5],
   .block 0 (.loop [1, 3, 4, 5] (Q [Q [.reg [m 18 5, m 19 3, bt 20 .lss 18 19] [1, 3, 4, 5, 20],
       C 20 (.skip) (.exit 0)],
      .block 1 (Q [.reg [m 23 4, m 24 5, m 25 3, o1 26 (.mks 4 1 1 (.bool false) (.t 25)), ia 27 23 24 1, st 1 27 26] [1, 3, 4, 5],
        .reg [mi 6 0] [1, 3, 4, 5, 6],
        .block 2 (.loop [1, 3, 4, 5, 6] (Q [Q [.reg [m 28 6, m 29 3, bt 30 .lss 28 29] [1, 3, 4, 5, 6, 30],
            C 30 (.skip) (.exit 2)],
           .block 3 (.regD [m 33 4, m 34 5, ia 35 33 34 1, l1 36 35, m 37 6, fa 38 1 1, l1 39 38, m 40 5, ia 41 39 40 1, l1 42 41, fa 43 1 1, l1 44 43, m 45 6, ia 46 44 45 1, l1 47 46, o1 48 (.beq true (.t 42) (.t 47)), ia 49 36 37 1, st 1 49 48] [1, 3, 4, 5, 6]),
           .reg [m 31 6, bi 32 .add 31 1, m 6 32] [1, 3, 4, 5, 6]]))]),
      .reg [m 21 5, bi 22 .add 21 1, m 5 22] [1, 3, 4, 5]]))],
  Q [.reg [mb 7 true] [1, 3, 4, 7],
   .block 4 (.loop [1, 3, 4, 7] (Q [Q [.reg [m 50 7] [1, 3, 4, 50],
       C 50 (.skip) (.exit 4)],
      .block 5 (Q [.reg [mb 7 false] [1, 3, 4, 7],
        .reg [mi 8 0] [1, 3, 4, 7, 8],
        .block 6 (.loop [1, 3, 4, 7, 8] (Q [Q [.reg [m 51 8, m 52 3, bt 53 .lss 51 52] [1, 3, 4, 7, 8, 53],
            C 53 (.skip) (.exit 6)],
           .block 7 (Q [.reg [mi 9 0] [1, 3, 4, 7, 8, 9],
             .block 8 (.loop [1, 3, 4, 7, 8, 9] (Q [Q [.reg [m 56 9, m 57 3, bt 58 .lss 56 57] [1, 3, 4, 7, 8, 9, 58],
                 C 58 (.skip) (.exit 8)],
                .block 9 (Q [.reg [mi 10 0] [1, 3, 4, 7, 8, 9, 10],
                  .block 10 (.loop [1, 3, 4, 7, 8, 9, 10] (Q [Q [.reg [m 61 10, bi 62 .lss 61 95, m 63 62, gt 63 (m 64 4), gt 63 (m 65 8), gt 63 (ia 66 64 65 1), gt 63 (l1 67 66), gt 63 (m 68 9), gt 63 (ia 69 67 68 1), gt 63 (l1 70 69), gt 63 (nt' 71 70), pa 72 63 71] [1, 3, 4, 7, 8, 9, 10, 72],
                      C 72 (.skip) (.exit 10)],
                     .block 11 (Q [.reg [fa 75 1 0, l1 76 75, m 77 8, ia 78 76 77 1, l1 79 78, m 80 10, ia 81 79 80 1, l1 82 81, m 11 82] [1, 3, 4, 7, 8, 9, 10, 11],
                       .reg [fa 83 1 0, l1 84 83, m 85 9, ia 86 84 85 1, l1 87 86, m 88 10, ia 89 87 88 1, l1 90 89, m 12 90] [1, 3, 4, 7, 8, 9, 10, 11, 12],
                       .reg [m 91 4, m 92 11, ia 93 91 92 1, l1 94 93, m 95 12, ia 96 94 95 1, l1 97 96] [1, 3, 4, 7, 8, 9, 10, 97],
                       C 97 (Q [.reg [m 98 4, m 99 8, ia 100 98 99 1, l1 101 100, m 102 9, ia 103 101 102 1, o0 (.st 1 (.t 103) (.v (.bool true)))] [1, 3, 4, 8, 9, 10],
                         .reg [mb 7 true] [1, 3, 4, 7, 8, 9, 10]]) (.skip)]),
                     .reg [m 73 10, bi 74 .add 73 1, m 10 74] [1, 3, 4, 7, 8, 9, 10]]))]),
                .reg [m 59 9, bi 60 .add 59 1, m 9 60] [1, 3, 4, 7, 8, 9]]))]),
           .reg [m 54 8, bi 55 .add 54 1, m 8 55] [1, 3, 4, 7, 8]]))])]))],
  .reg [m 104 4, m 2 104] [2],
  .ret]
theorem i_ref11_Apart : image Tryd.prog Tryd.f42 [[1], [1, 3], [1, 3, 4], [1, 3, 4, 5], [1, 3, 4, 5], [1, 3, 4, 5, 20], [1, 3, 4, 5], [1, 3, 4, 5, 6], [1, 3, 4, 5, 6], [1, 3, 4, 5, 6, 30], [0, 0, 0, 3, 7, 0, 0, 32, 0, 224, 480, 0, 1024, 0, 7168, 15360, 32736, 65535, 131071], [0, 1, 2, 3, 4, 5, 6, 7, 8, 9, 10, 11, 12, 13, 14, 15, 16, 17], [1, 3, 4, 5, 6], [1, 3, 4, 5, 6], [1, 3, 4, 5], [1, 3, 4, 7], [1, 3, 4, 7], [1, 3, 4, 50], [1, 3, 4, 7], [1, 3, 4, 7, 8], [1, 3, 4, 7, 8], [1, 3, 4, 7, 8, 53], [1, 3, 4, 7, 8, 9], [1, 3, 4, 7, 8, 9], [1, 3, 4, 7, 8, 9, 58], [1, 3, 4, 7, 8, 9, 10], [1, 3, 4, 7, 8, 9, 10], [1, 3, 4, 7, 8, 9, 10, 72], [1, 3, 4, 7, 8, 9, 10, 11], [1, 3, 4, 7, 8, 9, 10, 11, 12], [1, 3, 4, 7, 8, 9, 10, 97], [1, 3, 4, 8, 9, 10], [1, 3, 4, 7, 8, 9, 10], [1, 3, 4, 7, 8, 9, 10], [1, 3, 4, 7, 8, 9], [1, 3, 4, 7, 8], [2]] 1 = some (c_ref11_Apart, [.t 2]) := by kernel_rfl

abbrev n_dfa_search : Nat := 43
theorem h_dfa_search : Tryd.prog.funcs[43]? = some Tryd.f43 := Tryd.func43
def c_dfa_search : AC :=
  Q [.reg [bx 3 0, bx 4 1, bx 5 2, mv 6 (.str []), mb 7 false] [3, 4, 5],
  Q [.reg [la 8 3 2, ca 9 16 [8], bi 10 .neq 9 0, m 11 10, gf 11 (la 12 4 2), gf 11 (ca 13 16 [12]), gf 11 (bi 14 .neq 13 0), po 15 11 14] [3, 4, 5, 15],
   C 15 (Q [.reg [mv 6 (.str []), mb 7 false] [6, 7],
     .ret]) (.skip)],
  .reg [o1 16 (.bld [.int .i64 0, .int .i64 0] []), la 17 3 2, la 18 4 2, ch 19 46 [17, 18], o1 20 (.mkf (.func 69) [] [.t 5, .t 3, .t 4]), ch 21 68 [16, 19, 20], ex 22 21 0, ex 23 21 1, m 6 22, m 7 23] [6, 7],
  .ret]
theorem i_dfa_search : imageE Tryd.prog Tryd.f43 [] [36, 38, 63, 52, 74, 75, 87, 94, 93, 62, 117, 121, 118, 120, 122, 123, 119, 78, 51, 81, 86, 49, 80, 85, 91, 56, 58, 64, 65, 67, 34, 33, 35, 70, 71, 45, 68, 46, 72, 69, 73] [[3, 4, 5], [3, 4, 5, 15], [6, 7], [6, 7]] 3 = some (c_dfa_search, [.t 6, .t 7]) := by kernel_rfl

abbrev n_dfa_Same_1 : Nat := 44
theorem h_dfa_Same_1 : Tryd.prog.funcs[44]? = some Tryd.f44 := Tryd.func44
def c_dfa_Same_1 : AC :=
  Q [.reg [mb 4 false] [0, 1],
  .reg [m 5 0, m 6 1, o1 7 (.beq true (.t 5) (.t 6)), m 4 7] [4],
  .ret]
theorem i_dfa_Same_1 : image Tryd.prog Tryd.f44 [[0, 1], [4]] 2 = some (c_dfa_Same_1, [.t 4]) := by kernel_rfl

abbrev n_dfa_Common_1 : Nat := 47
theorem h_dfa_Common_1 : Tryd.prog.funcs[47]? = some Tryd.f47 := Tryd.func47
def c_dfa_Common_1 : AC :=
  Q [.reg [mb 4 false] [0, 1],
  .reg [m 5 0, m 6 5, gt 6 (m 7 1), pa 8 6 7, m 4 8] [4],
  .ret]
theorem i_dfa_Common_1 : image Tryd.prog Tryd.f47 [[0, 1], [4]] 2 = some (c_dfa_Common_1, [.t 4]) := by kernel_rfl

abbrev n_dfa_Within_1 : Nat := 48
theorem h_dfa_Within_1 : Tryd.prog.funcs[48]? = some Tryd.f48 := Tryd.func48
def c_dfa_Within_1 : AC :=
  Q [.reg [mb 4 false] [0, 1],
  .reg [m 5 0, m 6 5, gt 6 (m 7 1), gt 6 (nt' 8 7), pa 9 6 8, m 4 9] [4],
  .ret]
theorem i_dfa_Within_1 : image Tryd.prog Tryd.f48 [[0, 1], [4]] 2 = some (c_dfa_Within_1, [.t 4]) := by kernel_rfl

abbrev n_regex_Parse : Nat := 36
theorem h_regex_Parse : Tryd.prog.funcs[36]? = some Tryd.f36 := Tryd.func36
def c_regex_Parse : AC :=
  Q [.reg [mv 2 (.nilptr), mi 3 0] [0],
  Q [.reg [m 7 0, ls 8 7, bi 9 .gtr 8 60] [0, 9],
   C 9 (Q [.reg [mv 2 (.nilptr), mi 3 3] [2, 3],
     .ret]) (.skip)],
  .reg [m 10 0, o1 11 (.bld [.str [], .int .i64 0] [(0, 1, (.t 10))]), bx 12 11, m 4 12] [0, 4],
  .reg [m 14 4, ch 15 52 [14], m 13 15, ex 16 13 0, ex 17 13 1, m 5 16, m 6 17] [0, 4, 5, 6],
  Q [.reg [m 18 6, nt' 19 18, m 20 19, gf 20 (m 21 4), gf 20 (o1 22 (.nlc (.t 21))), gf 20 (fa 23 22 1), gf 20 (l1 24 23), gf 20 (m 25 0), gf 20 (ls 26 25), gf 20 (bt 27 .lss 24 26), po 28 20 27] [5, 28],
   C 28 (Q [.reg [mv 2 (.nilptr), mi 3 2] [2, 3],
     .ret]) (.skip)],
  .reg [m 29 5, o1 30 (.bld [.niliface] [(0, 1, (.t 29))]), bx 31 30, m 2 31, mi 3 0] [2, 3],
  .ret]
theorem i_regex_Parse : imageE Tryd.prog Tryd.f36 [] [36, 38, 63, 52, 74, 75, 87, 94, 93, 62, 117, 121, 118, 120, 122, 123, 119, 78, 51, 81, 86, 49, 80, 85, 91, 56, 58, 64, 65, 67, 34, 33, 35, 70, 71, 45, 68, 46, 72, 69, 73] [[0], [0, 9], [2, 3], [0, 4], [0, 4, 5, 6], [5, 28], [2, 3], [2, 3]] 1 = some (c_regex_Parse, [.t 2, .t 3]) := by kernel_rfl

abbrev n_pregex_Regex_Net : Nat := 38
theorem h_pregex_Regex_Net : Tryd.prog.funcs[38]? = some Tryd.f38 := Tryd.func38
def c_pregex_Regex_Net : AC :=
  Q [.reg [o1 2 (.alc [.int .i64 0, .int .i64 0, .int .i64 0, .nil 4])] [0, 2],
  .reg [o1 6 (.bld [.int .i64 0, .nil 4, .nil 3] [(0, 1, (.v (.int .i64 2)))]), bx 7 6, m 3 7] [0, 2, 3],
  .reg [m 8 3, m 9 0, ch 10 63 [9], o1 11 (.callH 62 [.t 8, .t 10, .v (.int .i64 0), .v (.int .i64 1)])] [2, 3],
  .block 0 (.loop [2, 3] (Q [Q [.reg [m 12 3, o1 13 (.nlc (.t 12)), fa 14 13 2, l1 15 14, lq 16 15, bi 17 .gtr 16 0] [2, 3, 17],
      C 17 (.skip) (.exit 0)],
     .block 1 (Q [.reg [m 18 3, o1 19 (.nlc (.t 18)), fa 20 19 2, l1 21 20, lq 22 21, bi 23 .sub 22 1, m 4 23] [2, 3, 4],
       .reg [m 24 3, o1 25 (.nlc (.t 24)), fa 26 25 2, l1 27 26, m 28 4, ia 29 27 28 3, la 30 29 3, o1 5 (.alc [.niliface, .int .i64 0, .int .i64 0]), st 3 5 30] [2, 3, 4, 5],
       .reg [m 31 3, m 32 3, o1 33 (.nlc (.t 32)), fa 34 33 2, l1 35 34, m 36 4, o1 37 (.trc (.t 35) (.t 36) 3), o1 38 (.nlc (.t 31)), fa 39 38 2, st 1 39 37] [2, 3, 5],
       .reg [fa 40 5 0, l1 41 40, m 42 3, fa 43 5 1, l1 44 43, fa 45 5 2, l1 46 45, o1 47 (.inv [(148, 118), (160, 120), (163, 122), (174, 123)] (.t 41) [.t 42, .t 44, .t 46])] [2, 3]])])),
  .regD [m 48 3, o1 49 (.nlc (.t 48)), fa 50 49 0, l1 51 50, m 52 3, o1 53 (.nlc (.t 52)), fa 54 53 1, l1 55 54, o1 56 (.bld [.int .i64 0, .int .i64 0, .int .i64 0, .nil 4] [(0, 1, (.t 51)), (1, 1, (.v (.int .i64 0))), (2, 1, (.v (.int .i64 1))), (3, 1, (.t 55))]), st 4 2 56] [2],
  .ret]
theorem i_pregex_Regex_Net : imageE Tryd.prog Tryd.f38 [] [36, 38, 63, 52, 74, 75, 87, 94, 93, 62, 117, 121, 118, 120, 122, 123, 119, 78, 51, 81, 86, 49, 80, 85, 91, 56, 58, 64, 65, 67, 34, 33, 35, 70, 71, 45, 68, 46, 72, 69, 73, 1000000] [[0, 2], [0, 2, 3], [2, 3], [2, 3], [2, 3, 17], [2, 3, 4], [2, 3, 4, 5], [2, 3, 5], [2, 3], [0, 0, 1, 3, 7, 0, 16, 48, 112, 255, 511], [0, 1, 2, 3, 4, 5, 6, 7, 8, 9], [2]] 1 = some (c_pregex_Regex_Net, [.c 2 4 true]) := by kernel_rfl

abbrev n_regex_inner : Nat := 63
theorem h_regex_inner : Tryd.prog.funcs[63]? = some Tryd.f63 := Tryd.func63
def c_regex_inner : AC :=
  Q [.reg [mv 2 (.niliface)] [0],
  Q [.reg [m 3 0, o1 4 (.nlq 0 false (.t 3)), m 5 4, gf 5 (m 6 0), gf 5 (o1 7 (.nlc (.t 6))), gf 5 (fa 8 7 0), gf 5 (l1 9 8), gf 5 (o1 10 (.nlq 1 false (.t 9))), po 11 5 10] [0, 11],
   C 11 (Q [.reg [o1 12 (.bld (zs 95 (.bool false)) []), o1 13 (.mki 148 (.t 12)), m 2 13] [2],
     .ret]) (.skip)],
  .reg [m 14 0, o1 15 (.nlc (.t 14)), fa 16 15 0, l1 17 16, m 2 17] [2],
  .ret]
theorem i_regex_inner : image Tryd.prog Tryd.f63 [[0], [0, 11], [2], [2]] 1 = some (c_regex_inner, [.t 2]) := by kernel_rfl

abbrev n_pregex_reader_expression : Nat := 52
theorem h_pregex_reader_expression : Tryd.prog.funcs[52]? = some Tryd.f52 := Tryd.func52
def c_pregex_reader_expression : AC :=
  Q [.reg [mv 2 (.niliface), mb 3 false] [0],
  .reg [mv 4 (.nil 1)] [0, 4],
  .block 0 (.loop [0, 4] (.block 1 (Q [.reg [m 8 0, ch 9 74 [8], m 7 9, ex 10 7 0, ex 11 7 1, m 5 10, m 6 11] [0, 4, 5, 6],
      Q [.reg [m 12 6, nt' 13 12] [0, 4, 5, 13],
       C 13 (Q [.reg [mv 2 (.niliface), mb 3 false] [0, 2, 3],
         .ret]) (.skip)],
      .reg [m 14 4, m 15 5, o1 16 (.lit 87 1 [.t 15]), o1 17 (.app (.t 14) (.t 16) 87 1 16), m 4 17] [0, 4],
      Q [.reg [m 18 0, o1 19 (.callH 75 [.t 18, .v (.str [124])]), nt' 20 19] [0, 4, 20],
       C 20 (Q [.reg [m 21 4, ca 22 76 [21], m 2 22, mb 3 true] [0, 2, 3],
         .ret]) (.skip)],
      .reg [m 23 0, o1 24 (.nlc (.t 23)), fa 25 24 1, l1 26 25, bi 27 .add 26 1, o1 28 (.nlc (.t 23)), fa 29 28 1, st 1 29 27] [0, 4]])))]
theorem i_pregex_reader_expression : imageE Tryd.prog Tryd.f52 [0] [36, 38, 63, 52, 74, 75, 87, 94, 93, 62, 117, 121, 118, 120, 122, 123, 119, 78, 51, 81, 86, 49, 80, 85, 91, 56, 58, 64, 65, 67, 34, 33, 35, 70, 71, 45, 68, 46, 72, 69, 73] [[0], [0, 4], [0, 4], [0, 4, 5, 6], [0, 4, 5, 13], [0, 2, 3], [0, 4], [0, 4, 20], [0, 2, 3], [0, 4]] 1 = some (c_pregex_reader_expression, [.t 2, .t 3]) := by kernel_rfl

abbrev n_pregex_reader_branch : Nat := 74
theorem h_pregex_reader_branch : Tryd.prog.funcs[74]? = some Tryd.f74 := Tryd.func74
def c_pregex_reader_branch : AC :=
  Q [.reg [mv 2 (.niliface), mb 3 false] [0],
  .reg [mv 4 (.nil 1)] [0, 4],
  .block 0 (.loop [0, 4] (Q [Q [.regD [m 7 0, o1 8 (.nlc (.t 7)), fa 9 8 1, l1 10 9, m 11 0, o1 12 (.nlc (.t 11)), fa 13 12 0, l1 14 13, ls 15 14, bt 16 .lss 10 15, m 17 16, gt 17 (m 18 0), gt 17 (o1 19 (.callH 75 [.t 18, .v (.str [124, 41])])), gt 17 (nt' 20 19), pa 21 17 20] [0, 4, 21],
      C 21 (.skip) (.exit 0)],
     .block 1 (Q [.reg [m 23 0, ch 24 87 [23], m 22 24, ex 25 22 0, ex 26 22 1, m 5 25, m 6 26] [0, 4, 5, 6],
       Q [.reg [m 27 6, nt' 28 27] [0, 4, 5, 28],
        C 28 (Q [.reg [mv 2 (.niliface), mb 3 false] [0, 2, 3],
          .ret]) (.skip)],
       .block 2 (.loop [0, 4, 5] (Q [Q [.reg [m 29 0, o1 30 (.callH 75 [.t 29, .v (.str [42, 43, 63])])] [0, 4, 5, 30],
           C 30 (.skip) (.exit 2)],
          .block 3 (Q [.regD [m 31 5, m 32 0, o1 33 (.nlc (.t 32)), fa 34 33 0, l1 35 34, m 36 0, o1 37 (.nlc (.t 36)), fa 38 37 1, l1 39 38, ix 40 35 39, o1 41 (.bld [.niliface, .int .u8 0] [(0, 1, (.t 31)), (1, 1, (.t 40))]), o1 42 (.mki 160 (.t 41)), m 5 42] [0, 4, 5],
            .reg [m 43 0, o1 44 (.nlc (.t 43)), fa 45 44 1, l1 46 45, bi 47 .add 46 1, o1 48 (.nlc (.t 43)), fa 49 48 1, st 1 49 47] [0, 4, 5]])])),
       .reg [m 50 4, m 51 5, o1 52 (.lit 87 1 [.t 51]), o1 53 (.app (.t 50) (.t 52) 87 1 16), m 4 53] [0, 4]])])),
  .reg [m 54 4, ca 55 88 [54], m 2 55, mb 3 true] [0, 2, 3],
  .ret]
theorem i_pregex_reader_branch : imageE Tryd.prog Tryd.f74 [0] [36, 38, 63, 52, 74, 75, 87, 94, 93, 62, 117, 121, 118, 120, 122, 123, 119, 78, 51, 81, 86, 49, 80, 85, 91, 56, 58, 64, 65, 67, 34, 33, 35, 70, 71, 45, 68, 46, 72, 69, 73] [[0], [0, 4], [0, 4], [0, 0, 1, 3, 7, 0, 16, 48, 112, 240, 511, 1023, 2047, 4095, 8191, 16383], [0, 1, 2, 3, 4, 5, 6, 7, 8, 9, 10, 11, 12, 13, 14], [0, 4, 21], [0, 4, 5, 6], [0, 4, 5, 28], [0, 2, 3], [0, 4, 5], [0, 4, 5, 30], [0, 0, 0, 2, 6, 14, 0, 32, 96, 224, 510, 1023, 2047, 4095], [0, 1, 2, 3, 4, 5, 6, 7, 8, 9, 10, 11, 12], [0, 4, 5], [0, 4, 5], [0, 4], [0, 2, 3]] 1 = some (c_pregex_reader_branch, [.t 2, .t 3]) := by kernel_rfl

abbrev n_pregex_reader_at : Nat := 75
theorem h_pregex_reader_at : Tryd.prog.funcs[75]? = some Tryd.f75 := Tryd.func75
def c_pregex_reader_at : AC :=
  Q [.reg [mb 4 false] [0, 1],
  .regD [m 5 0, o1 6 (.nlc (.t 5)), fa 7 6 1, l1 8 7, m 9 0, o1 10 (.nlc (.t 9)), fa 11 10 0, l1 12 11, ls 13 12, bt 14 .lss 8 13, m 15 14, gt 15 (m 16 1), gt 15 (m 17 0), gt 15 (o1 18 (.nlc (.t 17))), gt 15 (fa 19 18 0), gt 15 (l1 20 19), gt 15 (m 21 0), gt 15 (o1 22 (.nlc (.t 21))), gt 15 (fa 23 22 1), gt 15 (l1 24 23), gt 15 (ix 25 20 24), gt 15 (ca 26 89 [16, 25]), gt 15 (bi 27 .geq 26 0), pa 28 15 27, m 4 28] [0, 4],
  .ret]
theorem i_pregex_reader_at : imageE Tryd.prog Tryd.f75 [0] [36, 38, 63, 52, 74, 75, 87, 94, 93, 62, 117, 121, 118, 120, 122, 123, 119, 78, 51, 81, 86, 49, 80, 85, 91, 56, 58, 64, 65, 67, 34, 33, 35, 70, 71, 45, 68, 46, 72, 69, 73] [[0, 1], [0, 0, 1, 3, 7, 0, 16, 48, 112, 240, 511, 1023, 2047, 2047, 6143, 14335, 30719, 2047, 67583, 198655, 460799, 1046527, 2097151, 4194303, 8388607, 16777215], [0, 1, 2, 3, 4, 5, 6, 7, 8, 9, 10, 11, 12, 13, 14, 15, 16, 17, 18, 19, 20, 21, 22, 23, 24], [0, 4]] 2 = some (c_pregex_reader_at, [.t 4]) := by kernel_rfl

abbrev n_pregex_reader_atom : Nat := 87
theorem h_pregex_reader_atom : Tryd.prog.funcs[87]? = some Tryd.f87 := Tryd.func87
def c_pregex_reader_atom : AC :=
  Q [.reg [mv 2 (.niliface), mb 3 false] [0],
  .block 0 (Q [.reg [m 9 0, o1 10 (.callH 75 [.t 9, .v (.str [40])]), m 8 10] [0, 8],
    C 8 (Q [.reg [m 11 0, o1 12 (.nlc (.t 11)), fa 13 12 1, l1 14 13, bi 15 .add 14 1, o1 16 (.nlc (.t 11)), fa 17 16 1, st 1 17 15] [0],
      .reg [m 19 0, ch 20 52 [19], m 18 20, ex 21 18 0, ex 22 18 1, m 4 21, m 5 22] [0, 4, 5],
      Q [.reg [m 23 5, nt' 24 23, m 25 24, gf 25 (m 26 0), gf 25 (o1 27 (.callH 75 [.t 26, .v (.str [41])])), gf 25 (nt' 28 27), po 29 25 28] [0, 4, 29],
       C 29 (Q [.reg [mv 2 (.niliface), mb 3 false] [0, 2, 3],
         .ret]) (.skip)],
      .reg [m 30 0, o1 31 (.nlc (.t 30)), fa 32 31 1, l1 33 32, bi 34 .add 33 1, o1 35 (.nlc (.t 30)), fa 36 35 1, st 1 36 34] [0, 4],
      .reg [m 37 4, m 2 37, mb 3 true] [0, 2, 3],
      .ret]) (Q [.reg [m 39 0, o1 40 (.callH 75 [.t 39, .v (.str [46])]), m 38 40] [0, 38],
      C 38 (Q [.reg [m 41 0, o1 42 (.nlc (.t 41)), fa 43 42 1, l1 44 43, bi 45 .add 44 1, o1 46 (.nlc (.t 41)), fa 47 46 1, st 1 47 45] [0],
        .reg [ca 48 92 [], o1 49 (.mki 148 (.t 48)), m 2 49, mb 3 true] [0, 2, 3],
        .ret]) (Q [.reg [m 51 0, o1 52 (.callH 75 [.t 51, .v (.str [91])]), m 50 52] [0, 50],
        C 50 (Q [.reg [m 53 0, o1 54 (.nlc (.t 53)), fa 55 54 1, l1 56 55, bi 57 .add 56 1, o1 58 (.nlc (.t 53)), fa 59 58 1, st 1 59 57] [0],
          .reg [m 60 0, ch 61 93 [60], ex 62 61 0, ex 63 61 1, m 2 62, m 3 63] [0, 2, 3],
          .ret]) (.skip)])])]),
  .reg [m 65 0, o1 66 (.callH 94 [.t 65, .v (.str [92, 40, 41, 91, 93, 124, 42, 43, 63, 46])]), m 64 66, ex 67 64 0, ex 68 64 1, m 6 67, m 7 68] [0, 6, 7],
  Q [.reg [m 69 7, nt' 70 69] [0, 6, 70],
   C 70 (Q [.reg [mv 2 (.niliface), mb 3 false] [0, 2, 3],
     .ret]) (.skip)],
  .reg [m 71 6, ca 72 95 [71], o1 73 (.mki 148 (.t 72)), m 2 73, mb 3 true] [0, 2, 3],
  .ret]
theorem i_pregex_reader_atom : imageE Tryd.prog Tryd.f87 [0] [36, 38, 63, 52, 74, 75, 87, 94, 93, 62, 117, 121, 118, 120, 122, 123, 119, 78, 51, 81, 86, 49, 80, 85, 91, 56, 58, 64, 65, 67, 34, 33, 35, 70, 71, 45, 68, 46, 72, 69, 73] [[0], [0, 8], [0], [0, 4, 5], [0, 4, 29], [0, 2, 3], [0, 4], [0, 2, 3], [0, 38], [0], [0, 2, 3], [0, 50], [0], [0, 2, 3], [0, 6, 7], [0, 6, 70], [0, 2, 3], [0, 2, 3]] 1 = some (c_pregex_reader_atom, [.t 2, .t 3]) := by kernel_rfl

abbrev n_pregex_reader_sign : Nat := 94
theorem h_pregex_reader_sign : Tryd.prog.funcs[94]? = some Tryd.f94 := Tryd.func94
def c_pregex_reader_sign : AC :=
  Q [.reg [mv 4 (.int .u8 0), mb 5 false] [0, 1],
  Q [.reg [m 6 0, o1 7 (.callH 75 [.t 6, .v (.str [92])])] [0, 1, 7],
   C 7 (Q [.reg [m 8 0, o1 9 (.nlc (.t 8)), fa 10 9 1, l1 11 10, bi 12 .add 11 1, o1 13 (.nlc (.t 8)), fa 14 13 1, st 1 14 12] [0],
     .reg [mv 1 (.str [])] [0, 1]]) (.skip)],
  Q [.regD [m 15 0, o1 16 (.nlc (.t 15)), fa 17 16 1, l1 18 17, m 19 0, o1 20 (.nlc (.t 19)), fa 21 20 0, l1 22 21, ls 23 22, bt 24 .eql 18 23, m 25 24, gf 25 (m 26 0), gf 25 (o1 27 (.nlc (.t 26))), gf 25 (fa 28 27 0), gf 25 (l1 29 28), gf 25 (m 30 0), gf 25 (o1 31 (.nlc (.t 30))), gf 25 (fa 32 31 1), gf 25 (l1 33 32), gf 25 (ix 34 29 33), gf 25 (ca 35 98 [34]), gf 25 (nt' 36 35), po 37 25 36, m 38 37, gf 38 (m 39 0), gf 38 (m 40 1), gf 38 (ch 41 75 [39, 40]), po 42 38 41] [0, 42],
   C 42 (Q [.reg [mv 4 (.int .u8 0), mb 5 false] [0, 4, 5],
     .ret]) (.skip)],
  .reg [m 43 0, o1 44 (.nlc (.t 43)), fa 45 44 1, l1 46 45, bi 47 .add 46 1, o1 48 (.nlc (.t 43)), fa 49 48 1, st 1 49 47] [0],
  .regD [m 50 0, o1 51 (.nlc (.t 50)), fa 52 51 0, l1 53 52, m 54 0, o1 55 (.nlc (.t 54)), fa 56 55 1, l1 57 56, bi 58 .sub 57 1, ix 59 53 58, m 4 59, mb 5 true] [0, 4, 5],
  .ret]
theorem i_pregex_reader_sign : imageE Tryd.prog Tryd.f94 [0] [36, 38, 63, 52, 74, 75, 87, 94, 93, 62, 117, 121, 118, 120, 122, 123, 119, 78, 51, 81, 86, 49, 80, 85, 91, 56, 58, 64, 65, 67, 34, 33, 35, 70, 71, 45, 68, 46, 72, 69, 73] [[0, 1], [0, 1, 7], [0], [0, 1], [0, 0, 1, 3, 7, 0, 16, 48, 112, 240, 511, 1023, 2047, 4095, 8191, 16383, 2047, 34815, 100351, 231423, 524287, 1048575, 2097151, 4194303, 8388607, 16777215, 16777215, 67108863, 134217727], [0, 1, 2, 3, 4, 5, 6, 7, 8, 9, 10, 11, 12, 13, 14, 15, 16, 17, 18, 19, 20, 21, 22, 23, 24, 25, 26, 27], [0, 42], [0, 4, 5], [0], [0, 0, 1, 3, 7, 0, 16, 48, 112, 240, 511, 1023, 2047], [0, 1, 2, 3, 4, 5, 6, 7, 8, 9, 10, 11], [0, 4, 5]] 2 = some (c_pregex_reader_sign, [.t 4, .t 5]) := by kernel_rfl

abbrev n_pregex_reader_class : Nat := 93
theorem h_pregex_reader_class : Tryd.prog.funcs[93]? = some Tryd.f93 := Tryd.func93
def c_pregex_reader_class : AC :=
  Q [.reg [mv 2 (.niliface), mb 3 false] [0],
  .reg [m 11 0, o1 12 (.callH 75 [.t 11, .v (.str [94])]), m 4 12] [0, 4],
  Q [.reg [m 13 4] [0, 4, 13],
   C 13 (.reg [m 14 0, o1 15 (.nlc (.t 14)), fa 16 15 1, l1 17 16, bi 18 .add 17 1, o1 19 (.nlc (.t 14)), fa 20 19 1, st 1 20 18] [0, 4]) (.skip)],
  .reg [o1 5 (.alc (zs 95 (.bool false)))] [0, 4, 5],
  Q [.reg [mb 6 true] [0, 4, 5, 6],
   .block 0 (.loop [0, 4, 5, 6] (Q [Q [.reg [m 21 6, m 22 21, gf 22 (m 23 0), gf 22 (o1 24 (.callH 75 [.t 23, .v (.str [93])])), gf 22 (nt' 25 24), po 26 22 25] [0, 4, 5, 26],
       C 26 (.skip) (.exit 0)],
      .block 1 (Q [.reg [m 28 0, o1 29 (.callH 94 [.t 28, .v (.str [92, 93, 45, 94])]), m 27 29, ex 30 27 0, ex 31 27 1, m 7 30, m 8 31] [0, 4, 5, 7, 8],
        Q [.reg [m 32 8, nt' 33 32] [0, 4, 5, 7, 33],
         C 33 (Q [.reg [mv 2 (.niliface), mb 3 false] [0, 2, 3],
           .ret]) (.skip)],
        .reg [m 34 7, m 9 34] [0, 4, 5, 7, 9],
        Q [.reg [m 35 0, o1 36 (.callH 75 [.t 35, .v (.str [45])])] [0, 4, 5, 7, 9, 36],
         C 36 (Q [.reg [m 37 0, o1 38 (.nlc (.t 37)), fa 39 38 1, l1 40 39, bi 41 .add 40 1, o1 42 (.nlc (.t 37)), fa 43 42 1, st 1 43 41] [0, 4, 5, 7],
           .reg [m 45 0, o1 46 (.callH 94 [.t 45, .v (.str [92, 93, 45, 94])]), m 44 46, ex 47 44 0, ex 48 44 1, m 9 47, m 8 48] [0, 4, 5, 7, 8, 9],
           .reg [m 49 8, nt' 50 49, m 51 50, gf 51 (m 52 9), gf 51 (m 53 7), gf 51 (bt 54 .lss 52 53), po 55 51 54] [0, 4, 5, 7, 9, 55],
           C 55 (Q [.reg [mv 2 (.niliface), mb 3 false] [0, 2, 3],
             .ret]) (.skip)]) (.skip)],
        .reg [m 56 7, m 10 56] [0, 4, 5, 9, 10],
        .block 2 (.loop [0, 4, 5, 9, 10] (Q [Q [.reg [m 57 10, m 58 9, bt 59 .leq 57 58] [0, 4, 5, 9, 10, 59],
            C 59 (.skip) (.exit 2)],
           .block 3 (.reg [m 62 10, bu 63 .sub 62 32, o1 64 (.iaa (.t 5) (.t 63) 95 1), o0 (.st 1 (.t 64) (.v (.bool true)))] [0, 4, 5, 9, 10]),
           .reg [m 60 10, bu 61 .add 60 1, m 10 61] [0, 4, 5, 9, 10]]))]),
      .reg [mb 6 false] [0, 4, 5, 6]]))],
  .reg [m 65 0, o1 66 (.nlc (.t 65)), fa 67 66 1, l1 68 67, bi 69 .add 68 1, o1 70 (.nlc (.t 65)), fa 71 70 1, st 1 71 69] [0, 4, 5],
  Q [.reg [m 72 4] [0, 5, 72],
   C 72 (.reg [la 73 5 95, ca 74 97 [73], st 95 5 74] [0, 5]) (.skip)],
  .reg [la 75 5 95, o1 76 (.mki 148 (.t 75)), m 2 76, mb 3 true] [0, 2, 3],
  .ret]
theorem i_pregex_reader_class : imageE Tryd.prog Tryd.f93 [0] [36, 38, 63, 52, 74, 75, 87, 94, 93, 62, 117, 121, 118, 120, 122, 123, 119, 78, 51, 81, 86, 49, 80, 85, 91, 56, 58, 64, 65, 67, 34, 33, 35, 70, 71, 45, 68, 46, 72, 69, 73] [[0], [0, 4], [0, 4, 13], [0, 4], [0, 4, 5], [0, 4, 5, 6], [0, 4, 5, 6], [0, 4, 5, 26], [0, 4, 5, 7, 8], [0, 4, 5, 7, 33], [0, 2, 3], [0, 4, 5, 7, 9], [0, 4, 5, 7, 9, 36], [0, 4, 5, 7], [0, 4, 5, 7, 8, 9], [0, 4, 5, 7, 9, 55], [0, 2, 3], [0, 4, 5, 9, 10], [0, 4, 5, 9, 10], [0, 4, 5, 9, 10, 59], [0, 4, 5, 9, 10], [0, 4, 5, 9, 10], [0, 4, 5, 6], [0, 4, 5], [0, 5, 72], [0, 5], [0, 2, 3]] 1 = some (c_pregex_reader_class, [.t 2, .t 3]) := by kernel_rfl

abbrev n_pregex_maker_part : Nat := 62
theorem h_pregex_maker_part : Tryd.prog.funcs[62]? = some Tryd.f62 := Tryd.func62
def c_pregex_maker_part : AC :=
  .reg [m 8 0, m 9 0, o1 10 (.nlc (.t 9)), fa 11 10 2, l1 12 11, m 13 1, m 14 2, m 15 3, o1 16 (.bld [.niliface, .int .i64 0, .int .i64 0] [(0, 1, (.t 13)), (1, 1, (.t 14)), (2, 1, (.t 15))]), o1 17 (.lit 114 3 [.t 16]), o1 18 (.app (.t 12) (.t 17) 114 3 32), o1 19 (.nlc (.t 8)), fa 20 19 2, st 1 20 18] [0]
theorem i_pregex_maker_part : imageE Tryd.prog Tryd.f62 [0] [36, 38, 63, 52, 74, 75, 87, 94, 93, 62, 117, 121, 118, 120, 122, 123, 119, 78, 51, 81, 86, 49, 80, 85, 91, 56, 58, 64, 65, 67, 34, 33, 35, 70, 71, 45, 68, 46, 72, 69, 73] [[0]] 4 = some (c_pregex_maker_part, []) := by kernel_rfl

abbrev n_pregex_maker_state : Nat := 117
theorem h_pregex_maker_state : Tryd.prog.funcs[117]? = some Tryd.f117 := Tryd.func117
def c_pregex_maker_state : AC :=
  Q [.reg [mi 2 0] [0],
  .reg [m 3 0, o1 4 (.nlc (.t 3)), fa 5 4 0, l1 6 5, bi 7 .add 6 1, o1 8 (.nlc (.t 3)), fa 9 8 0, st 1 9 7] [0],
  .reg [m 10 0, o1 11 (.nlc (.t 10)), fa 12 11 0, l1 13 12, bi 14 .sub 13 1, m 2 14] [0, 2],
  .ret]
theorem i_pregex_maker_state : imageE Tryd.prog Tryd.f117 [0] [36, 38, 63, 52, 74, 75, 87, 94, 93, 62, 117, 121, 118, 120, 122, 123, 119, 78, 51, 81, 86, 49, 80, 85, 91, 56, 58, 64, 65, 67, 34, 33, 35, 70, 71, 45, 68, 46, 72, 69, 73] [[0], [0], [0, 2]] 1 = some (c_pregex_maker_state, [.t 2]) := by kernel_rfl

abbrev n_pregex_maker_none : Nat := 121
theorem h_pregex_maker_none : Tryd.prog.funcs[121]? = some Tryd.f121 := Tryd.func121
def c_pregex_maker_none : AC :=
  .reg [m 6 0, m 7 0, o1 8 (.nlc (.t 7)), fa 9 8 1, l1 10 9, m 11 1, m 12 2, o1 13 (.bld [.int .i64 0, .int .i64 0, .int .u8 0, .int .u8 0] [(0, 1, (.t 11)), (1, 1, (.t 12)), (2, 1, (.v (.int .u8 1))), (3, 1, (.v (.int .u8 0)))]), o1 14 (.lit 134 4 [.t 13]), o1 15 (.app (.t 10) (.t 14) 134 4 24), o1 16 (.nlc (.t 6)), fa 17 16 1, st 1 17 15] [0]
theorem i_pregex_maker_none : imageE Tryd.prog Tryd.f121 [0] [36, 38, 63, 52, 74, 75, 87, 94, 93, 62, 117, 121, 118, 120, 122, 123, 119, 78, 51, 81, 86, 49, 80, 85, 91, 56, 58, 64, 65, 67, 34, 33, 35, 70, 71, 45, 68, 46, 72, 69, 73] [[0]] 3 = some (c_pregex_maker_none, []) := by kernel_rfl

abbrev n_regex_set_net : Nat := 118
theorem h_regex_set_net : Tryd.prog.funcs[118]? = some Tryd.f118 := Tryd.func118
def c_regex_set_net : AC :=
  Q [.reg [bx 4 0] [1, 2, 3, 4],
  .reg [mi 8 0] [1, 2, 3, 4, 8],
  .block 0 (.loop [1, 2, 3, 4, 8] (Q [Q [.reg [m 10 8, bi 11 .lss 10 95] [1, 2, 3, 4, 8, 11],
      C 11 (.skip) (.exit 0)],
     .block 1 (Q [Q [.reg [m 14 8, o1 15 (.iaa (.t 4) (.t 14) 95 1), l1 16 15, nt' 17 16] [1, 2, 3, 4, 8, 17],
        C 17 (.exit 1) (.skip)],
       .reg [m 18 8, ch 19 119 [4, 18], m 9 19] [1, 2, 3, 4, 8, 9],
       .reg [m 20 1, m 21 1, o1 22 (.nlc (.t 21)), fa 23 22 1, l1 24 23, m 25 2, m 26 3, m 27 8, o1 28 (.bin .add (.v (.int .i64 32)) (.t 27)), o1 29 (.cii .u8 (.t 28)), m 30 9, o1 31 (.bin .add (.v (.int .i64 32)) (.t 30)), o1 32 (.cii .u8 (.t 31)), o1 33 (.bld [.int .i64 0, .int .i64 0, .int .u8 0, .int .u8 0] [(0, 1, (.t 25)), (1, 1, (.t 26)), (2, 1, (.t 29)), (3, 1, (.t 32))]), o1 34 (.lit 134 4 [.t 33]), o1 35 (.app (.t 24) (.t 34) 134 4 24), o1 36 (.nlc (.t 20)), fa 37 36 1, st 1 37 35] [1, 2, 3, 4, 9],
       .reg [m 38 9, m 8 38] [1, 2, 3, 4, 8]]),
     .reg [m 12 8, bi 13 .add 12 1, m 8 13] [1, 2, 3, 4, 8]]))]
theorem i_regex_set_net : imageE Tryd.prog Tryd.f118 [1] [36, 38, 63, 52, 74, 75, 87, 94, 93, 62, 117, 121, 118, 120, 122, 123, 119, 78, 51, 81, 86, 49, 80, 85, 91, 56, 58, 64, 65, 67, 34, 33, 35, 70, 71, 45, 68, 46, 72, 69, 73] [[1, 2, 3, 4], [1, 2, 3, 4, 8], [1, 2, 3, 4, 8], [1, 2, 3, 4, 8, 11], [1, 2, 3, 4, 8, 17], [1, 2, 3, 4, 8, 9], [1, 2, 3, 4, 9], [1, 2, 3, 4, 8], [1, 2, 3, 4, 8]] 4 = some (c_regex_set_net, []) := by kernel_rfl

abbrev n_regex_rep_net : Nat := 120
theorem h_regex_rep_net : Tryd.prog.funcs[120]? = some Tryd.f120 := Tryd.func120
def c_regex_rep_net : AC :=
  Q [.reg [bx 4 0] [1, 2, 3, 4],
  .reg [fa 11 4 1, l1 12 11] [1, 2, 3, 4, 12],
  .block 0 (Q [.reg [bu 36 .eql 12 63, m 35 36] [1, 2, 3, 4, 12, 35],
    C 35 (Q [.reg [m 37 1, m 38 2, m 39 3, ch 40 121 [37, 38, 39]] [1, 2, 3, 4],
      .reg [m 41 1, fa 42 4 0, l1 43 42, m 44 2, m 45 3, ch 46 62 [41, 43, 44, 45]] [1]]) (Q [.reg [bu 48 .eql 12 42, m 47 48] [1, 2, 3, 4, 47],
      C 47 (Q [.reg [m 49 1, ch 50 117 [49], m 8 50] [1, 2, 3, 4, 8],
        .reg [m 51 1, m 52 2, m 53 8, ch 54 121 [51, 52, 53]] [1, 3, 4, 8],
        .reg [m 55 1, fa 56 4 0, l1 57 56, m 58 8, m 59 8, ch 60 62 [55, 57, 58, 59]] [1, 3, 8],
        .reg [m 61 1, m 62 8, m 63 3, ch 64 121 [61, 62, 63]] [1]]) (Q [.reg [m 13 1, ch 14 117 [13], m 15 1, ch 16 117 [15], m 9 14, m 10 16] [1, 2, 3, 4, 9, 10],
        .reg [m 17 1, m 18 2, m 19 9, ch 20 121 [17, 18, 19]] [1, 3, 4, 9, 10],
        .reg [m 21 1, fa 22 4 0, l1 23 22, m 24 9, m 25 10, ch 26 62 [21, 23, 24, 25]] [1, 3, 9, 10],
        .reg [m 27 1, m 28 10, m 29 9, ch 30 121 [27, 28, 29]] [1, 3, 10],
        .reg [m 31 1, m 32 10, m 33 3, ch 34 121 [31, 32, 33]] [1]])])])]
theorem i_regex_rep_net : imageE Tryd.prog Tryd.f120 [1] [36, 38, 63, 52, 74, 75, 87, 94, 93, 62, 117, 121, 118, 120, 122, 123, 119, 78, 51, 81, 86, 49, 80, 85, 91, 56, 58, 64, 65, 67, 34, 33, 35, 70, 71, 45, 68, 46, 72, 69, 73] [[1, 2, 3, 4], [1, 2, 3, 4, 12], [1, 2, 3, 4, 12, 35], [1, 2, 3, 4], [1], [1, 2, 3, 4, 47], [1, 2, 3, 4, 8], [1, 3, 4, 8], [1, 3, 8], [1], [1, 2, 3, 4, 9, 10], [1, 3, 4, 9, 10], [1, 3, 9, 10], [1, 3, 10], [1]] 4 = some (c_regex_rep_net, []) := by kernel_rfl

abbrev n_regex_alt_net : Nat := 122
theorem h_regex_alt_net : Tryd.prog.funcs[122]? = some Tryd.f122 := Tryd.func122
def c_regex_alt_net : AC :=
  Q [.reg [bx 4 0] [1, 2, 3, 4],
  .reg [fa 10 4 0, l1 11 10, lq 12 11, mi 13 0] [1, 2, 3, 11, 12, 13],
  .block 0 (.loop [1, 2, 3, 11, 12, 13] (Q [.reg [bt 14 .lss 13 12] [1, 2, 3, 11, 12, 13, 14],
     C 14 (.skip) (.exit 0),
     .block 1 (Q [.reg [ia 15 11 13 1, l1 16 15, m 9 16] [1, 2, 3, 9, 11, 12, 13],
       .reg [m 17 1, m 18 9, m 19 2, m 20 3, ch 21 62 [17, 18, 19, 20]] [1, 2, 3, 11, 12, 13]]),
     .reg [bi 22 .add 13 1, m 13 22] [1, 2, 3, 11, 12, 13]]))]
theorem i_regex_alt_net : imageE Tryd.prog Tryd.f122 [1] [36, 38, 63, 52, 74, 75, 87, 94, 93, 62, 117, 121, 118, 120, 122, 123, 119, 78, 51, 81, 86, 49, 80, 85, 91, 56, 58, 64, 65, 67, 34, 33, 35, 70, 71, 45, 68, 46, 72, 69, 73] [[1, 2, 3, 4], [1, 2, 3, 11, 12, 13], [1, 2, 3, 11, 12, 13], [1, 2, 3, 11, 12, 13, 14], [1, 2, 3, 9, 11, 12, 13], [1, 2, 3, 11, 12, 13], [1, 2, 3, 11, 12, 13]] 4 = some (c_regex_alt_net, []) := by kernel_rfl

abbrev n_regex_seq_net : Nat := 123
theorem h_regex_seq_net : Tryd.prog.funcs[123]? = some Tryd.f123 := Tryd.func123
def c_regex_seq_net : AC :=
  Q [.reg [bx 4 0] [1, 2, 3, 4],
  Q [.reg [fa 12 4 0, l1 13 12, lq 14 13, bi 15 .eql 14 0] [1, 2, 3, 4, 15],
   C 15 (Q [.reg [m 16 1, m 17 2, m 18 3, ch 19 121 [16, 17, 18]] [1],
     .ret]) (.skip)],
  .reg [fa 20 4 0, l1 21 20, lq 22 21, bi 23 .sub 22 1, m 8 23] [1, 2, 3, 4, 8],
  Q [.reg [fa 24 4 0, l1 25 24, m 26 8, o1 27 (.slq (.t 25) none (some (.t 26)) 1), lq 28 27, mi 29 0] [1, 2, 3, 4, 8, 27, 28, 29],
   .block 0 (.loop [1, 2, 3, 4, 8, 27, 28, 29] (Q [.reg [bt 30 .lss 29 28] [1, 2, 3, 4, 8, 27, 28, 29, 30],
      C 30 (.skip) (.exit 0),
      .block 1 (Q [.reg [ia 31 27 29 1, l1 32 31, m 10 32] [1, 2, 3, 4, 8, 10, 27, 28, 29],
        .reg [m 33 1, ch 34 117 [33], m 11 34] [1, 2, 3, 4, 8, 10, 11, 27, 28, 29],
        .reg [m 35 1, m 36 10, m 37 2, m 38 11, ch 39 62 [35, 36, 37, 38]] [1, 3, 4, 8, 11, 27, 28, 29],
        .reg [m 40 11, m 2 40] [1, 2, 3, 4, 8, 27, 28, 29]]),
      .reg [bi 41 .add 29 1, m 29 41] [1, 2, 3, 4, 8, 27, 28, 29]]))],
  .reg [m 42 1, fa 43 4 0, l1 44 43, m 45 8, ia 46 44 45 1, l1 47 46, m 48 2, m 49 3, ch 50 62 [42, 47, 48, 49]] [1]]
theorem i_regex_seq_net : imageE Tryd.prog Tryd.f123 [1] [36, 38, 63, 52, 74, 75, 87, 94, 93, 62, 117, 121, 118, 120, 122, 123, 119, 78, 51, 81, 86, 49, 80, 85, 91, 56, 58, 64, 65, 67, 34, 33, 35, 70, 71, 45, 68, 46, 72, 69, 73] [[1, 2, 3, 4], [1, 2, 3, 4, 15], [1], [1, 2, 3, 4, 8], [1, 2, 3, 4, 8, 27, 28, 29], [1, 2, 3, 4, 8, 27, 28, 29], [1, 2, 3, 4, 8, 27, 28, 29, 30], [1, 2, 3, 4, 8, 10, 27, 28, 29], [1, 2, 3, 4, 8, 10, 11, 27, 28, 29], [1, 3, 4, 8, 11, 27, 28, 29], [1, 2, 3, 4, 8, 27, 28, 29], [1, 2, 3, 4, 8, 27, 28, 29], [1]] 4 = some (c_regex_seq_net, []) := by kernel_rfl

abbrev n_pregex_set_run : Nat := 119
theorem h_pregex_set_run : Tryd.prog.funcs[119]? = some Tryd.f119 := Tryd.func119
def c_pregex_set_run : AC :=
  Q [.reg [mi 4 0] [0, 1],
  .block 0 (.loop [0, 1] (Q [Q [.reg [m 5 1, bi 6 .add 5 1, bi 7 .lss 6 95, m 8 7, gt 8 (m 9 0), gt 8 (m 10 1), gt 8 (bi 11 .add 10 1), gt 8 (o1 12 (.nlc (.t 9))), gt 8 (o1 13 (.iaa (.t 12) (.t 11) 95 1)), gt 8 (l1 14 13), pa 15 8 14] [0, 1, 15],
      C 15 (.skip) (.exit 0)],
     .block 1 (.reg [m 16 1, bi 17 .add 16 1, m 1 17] [0, 1])])),
  .reg [m 18 1, m 4 18] [0, 4],
  .ret]
theorem i_pregex_set_run : imageE Tryd.prog Tryd.f119 [0] [36, 38, 63, 52, 74, 75, 87, 94, 93, 62, 117, 121, 118, 120, 122, 123, 119, 78, 51, 81, 86, 49, 80, 85, 91, 56, 58, 64, 65, 67, 34, 33, 35, 70, 71, 45, 68, 46, 72, 69, 73] [[0, 1], [0, 1], [0, 1, 15], [0, 1], [0, 4]] 2 = some (c_pregex_set_run, [.t 4]) := by kernel_rfl

abbrev n_pdfa_set_join : Nat := 78
theorem h_pdfa_set_join : Tryd.prog.funcs[78]? = some Tryd.f78 := Tryd.func78
def c_pdfa_set_join : AC :=
  Q [.reg [m 6 1, mi 7 0] [0, 1, 6, 7],
  .block 0 (.loop [0, 1, 6, 7] (Q [.reg [bi 8 .lss 7 8] [0, 1, 6, 7, 8],
     C 8 (.skip) (.exit 0),
     .block 1 (Q [.regD [m 9 7, o1 10 (.nlc (.t 6)), o1 11 (.iaa (.t 10) (.t 7) 8 1), l1 12 11, m 4 9, m 5 12] [0, 1, 4, 5, 6, 7],
       .regD [m 13 0, m 14 4, o1 15 (.nlc (.t 13)), o1 16 (.iaa (.t 15) (.t 14) 8 1), l1 17 16, m 18 5, bt 19 .or 17 18, o1 20 (.nlc (.t 13)), o1 21 (.iaa (.t 20) (.t 14) 8 1), st 1 21 19] [0, 1, 6, 7]]),
     .reg [bi 22 .add 7 1, m 7 22] [0, 1, 6, 7]]))]
theorem i_pdfa_set_join : imageE Tryd.prog Tryd.f78 [0, 1] [36, 38, 63, 52, 74, 75, 87, 94, 93, 62, 117, 121, 118, 120, 122, 123, 119, 78, 51, 81, 86, 49, 80, 85, 91, 56, 58, 64, 65, 67, 34, 33, 35, 70, 71, 45, 68, 46, 72, 69, 73] [[0, 1, 6, 7], [0, 1, 6, 7], [0, 1, 6, 7, 8], [0, 0, 0, 2, 6, 1, 31], [0, 1, 2, 3, 4, 5], [0, 1, 4, 5, 6, 7], [0, 0, 0, 1, 7, 15, 0, 63, 1, 255, 511], [0, 1, 2, 3, 4, 5, 6, 7, 8, 9], [0, 1, 6, 7], [0, 1, 6, 7]] 2 = some (c_pdfa_set_join, []) := by kernel_rfl

abbrev n_pdfa_metIint_add : Nat := 51
theorem h_pdfa_metIint_add : Tryd.prog.funcs[51]? = some Tryd.f51 := Tryd.func51
def c_pdfa_metIint_add : AC :=
  Q [.reg [mi 4 0] [0, 1],
  .reg [m 8 0, o1 9 (.nlc (.t 8)), fa 10 9 0, l1 11 10, m 12 1, o1 13 (.lkp ⟨false, [.i .i64]⟩ (.int .i64 0) true (.t 11) (.t 12)), m 7 13, ex 14 7 0, ex 15 7 1, m 5 14, m 6 15] [0, 1, 5, 6],
  Q [.reg [m 16 6, nt' 17 16] [0, 1, 5, 17],
   C 17 (Q [.reg [m 18 0, o1 19 (.nlc (.t 18)), fa 20 19 1, l1 21 20, lq 22 21, m 5 22] [0, 1, 5],
     .reg [m 23 0, o1 24 (.nlc (.t 23)), fa 25 24 0, l1 26 25, m 27 1, m 28 5, o0 (.mup ⟨false, [.i .i64]⟩ (.t 26) (.t 27) (.t 28))] [0, 1, 5],
     .reg [m 29 0, m 30 0, o1 31 (.nlc (.t 30)), fa 32 31 1, l1 33 32, m 34 1, o1 35 (.lit 3 1 [.t 34]), o1 36 (.app (.t 33) (.t 35) 3 1 8), o1 37 (.nlc (.t 29)), fa 38 37 1, st 1 38 36] [0, 5]]) (.skip)],
  .reg [m 39 5, m 4 39] [0, 4],
  .ret]
theorem i_pdfa_metIint_add : imageE Tryd.prog Tryd.f51 [0] [36, 38, 63, 52, 74, 75, 87, 94, 93, 62, 117, 121, 118, 120, 122, 123, 119, 78, 51, 81, 86, 49, 80, 85, 91, 56, 58, 64, 65, 67, 34, 33, 35, 70, 71, 45, 68, 46, 72, 69, 73] [[0, 1], [0, 1, 5, 6], [0, 1, 5, 17], [0, 1, 5], [0, 1, 5], [0, 5], [0, 4]] 2 = some (c_pdfa_metIint_add, [.t 4]) := by kernel_rfl

abbrev n_pdfa_metIdfa_set_add : Nat := 81
theorem h_pdfa_metIdfa_set_add : Tryd.prog.funcs[81]? = some Tryd.f81 := Tryd.func81
def c_pdfa_metIdfa_set_add : AC :=
  Q [.reg [bx 3 1, mi 4 0] [0, 3],
  .regD [m 8 0, o1 9 (.nlc (.t 8)), fa 10 9 0, l1 11 10, la 12 3 8, o1 13 (.lkp ⟨true, kz 8 (.i .u64)⟩ (.int .i64 0) true (.t 11) (.t 12)), m 7 13, ex 14 7 0, ex 15 7 1, m 5 14, m 6 15] [0, 3, 5, 6],
  Q [.reg [m 16 6, nt' 17 16] [0, 3, 5, 17],
   C 17 (Q [.reg [m 18 0, o1 19 (.nlc (.t 18)), fa 20 19 1, l1 21 20, lq 22 21, m 5 22] [0, 3, 5],
     .regD [m 23 0, o1 24 (.nlc (.t 23)), fa 25 24 0, l1 26 25, la 27 3 8, m 28 5, o0 (.mup ⟨true, kz 8 (.i .u64)⟩ (.t 26) (.t 27) (.t 28))] [0, 3, 5],
     .regD [m 29 0, m 30 0, o1 31 (.nlc (.t 30)), fa 32 31 1, l1 33 32, la 34 3 8, o1 35 (.lit 100 8 [.t 34]), o1 36 (.app (.t 33) (.t 35) 100 8 64), o1 37 (.nlc (.t 29)), fa 38 37 1, st 1 38 36] [0, 5]]) (.skip)],
  .reg [m 39 5, m 4 39] [0, 4],
  .ret]
theorem i_pdfa_metIdfa_set_add : imageE Tryd.prog Tryd.f81 [0] [36, 38, 63, 52, 74, 75, 87, 94, 93, 62, 117, 121, 118, 120, 122, 123, 119, 78, 51, 81, 86, 49, 80, 85, 91, 56, 58, 64, 65, 67, 34, 33, 35, 70, 71, 45, 68, 46, 72, 69, 73] [[0, 3], [0, 0, 1, 3, 7, 0, 31, 63, 127, 127, 255, 1023], [0, 1, 2, 3, 4, 5, 6, 7, 8, 9, 10], [0, 3, 5, 6], [0, 3, 5, 17], [0, 3, 5], [0, 0, 1, 3, 7, 0, 0, 63], [0, 1, 2, 3, 4, 5, 6], [0, 3, 5], [0, 0, 0, 2, 6, 14, 0, 32, 126, 255, 511, 1023], [0, 1, 2, 3, 4, 5, 6, 7, 8, 9, 10], [0, 5], [0, 4]] 2 = some (c_pdfa_metIdfa_set_add, [.t 4]) := by kernel_rfl

abbrev n_pdfa_metIdfa_key_add : Nat := 86
theorem h_pdfa_metIdfa_key_add : Tryd.prog.funcs[86]? = some Tryd.f86 := Tryd.func86
def c_pdfa_metIdfa_key_add : AC :=
  Q [.reg [bx 3 1, mi 4 0] [0, 3],
  .regD [m 8 0, o1 9 (.nlc (.t 8)), fa 10 9 0, l1 11 10, la 12 3 96, o1 13 (.lkp ⟨true, kz 96 (.i .u16)⟩ (.int .i64 0) true (.t 11) (.t 12)), m 7 13, ex 14 7 0, ex 15 7 1, m 5 14, m 6 15] [0, 3, 5, 6],
  Q [.reg [m 16 6, nt' 17 16] [0, 3, 5, 17],
   C 17 (Q [.reg [m 18 0, o1 19 (.nlc (.t 18)), fa 20 19 1, l1 21 20, lq 22 21, m 5 22] [0, 3, 5],
     .regD [m 23 0, o1 24 (.nlc (.t 23)), fa 25 24 0, l1 26 25, la 27 3 96, m 28 5, o0 (.mup ⟨true, kz 96 (.i .u16)⟩ (.t 26) (.t 27) (.t 28))] [0, 3, 5],
     .regD [m 29 0, m 30 0, o1 31 (.nlc (.t 30)), fa 32 31 1, l1 33 32, la 34 3 96, o1 35 (.lit 153 96 [.t 34]), o1 36 (.app (.t 33) (.t 35) 153 96 192), o1 37 (.nlc (.t 29)), fa 38 37 1, st 1 38 36] [0, 5]]) (.skip)],
  .reg [m 39 5, m 4 39] [0, 4],
  .ret]
theorem i_pdfa_metIdfa_key_add : imageE Tryd.prog Tryd.f86 [0] [36, 38, 63, 52, 74, 75, 87, 94, 93, 62, 117, 121, 118, 120, 122, 123, 119, 78, 51, 81, 86, 49, 80, 85, 91, 56, 58, 64, 65, 67, 34, 33, 35, 70, 71, 45, 68, 46, 72, 69, 73] [[0, 3], [0, 0, 1, 3, 7, 0, 31, 63, 127, 127, 255, 1023], [0, 1, 2, 3, 4, 5, 6, 7, 8, 9, 10], [0, 3, 5, 6], [0, 3, 5, 17], [0, 3, 5], [0, 0, 1, 3, 7, 0, 0, 63], [0, 1, 2, 3, 4, 5, 6], [0, 3, 5], [0, 0, 0, 2, 6, 14, 0, 32, 126, 255, 511, 1023], [0, 1, 2, 3, 4, 5, 6, 7, 8, 9, 10], [0, 5], [0, 4]] 2 = some (c_pdfa_metIdfa_key_add, [.t 4]) := by kernel_rfl

abbrev n_dfa_meetIint : Nat := 49
theorem h_dfa_meetIint : Tryd.prog.funcs[49]? = some Tryd.f49 := Tryd.func49
def c_dfa_meetIint : AC :=
  Q [.reg [mv 2 (.nilptr)] [0],
  .reg [o1 6 (.mkp ⟨false, [.i .i64]⟩), o1 7 (.bld [.junk, .nil 1] [(0, 1, (.t 6))]), bx 8 7, m 3 8] [0, 3],
  Q [.reg [m 9 0, lq 10 9, mi 11 0] [3, 9, 10, 11],
   .block 0 (.loop [3, 9, 10, 11] (Q [.reg [bt 12 .lss 11 10] [3, 9, 10, 11, 12],
      C 12 (.skip) (.exit 0),
      .block 1 (Q [.reg [ia 13 9 11 1, l1 14 13, m 5 14] [3, 5, 9, 10, 11],
        .reg [m 15 3, m 16 5, ch 17 51 [15, 16]] [3, 9, 10, 11]]),
      .reg [bi 18 .add 11 1, m 11 18] [3, 9, 10, 11]]))],
  .reg [m 19 3, m 2 19] [2],
  .ret]
theorem i_dfa_meetIint : imageE Tryd.prog Tryd.f49 [] [36, 38, 63, 52, 74, 75, 87, 94, 93, 62, 117, 121, 118, 120, 122, 123, 119, 78, 51, 81, 86, 49, 80, 85, 91, 56, 58, 64, 65, 67, 34, 33, 35, 70, 71, 45, 68, 46, 72, 69, 73] [[0], [0, 3], [3, 9, 10, 11], [3, 9, 10, 11], [3, 9, 10, 11, 12], [3, 5, 9, 10, 11], [3, 9, 10, 11], [3, 9, 10, 11], [2]] 1 = some (c_dfa_meetIint, [.t 2]) := by kernel_rfl

abbrev n_dfa_meetIdfa_set : Nat := 80
theorem h_dfa_meetIdfa_set : Tryd.prog.funcs[80]? = some Tryd.f80 := Tryd.func80
def c_dfa_meetIdfa_set : AC :=
  Q [.reg [mv 2 (.nilptr)] [0],
  .reg [o1 6 (.mkp ⟨true, kz 8 (.i .u64)⟩), o1 7 (.bld [.junk, .nil 8] [(0, 1, (.t 6))]), bx 8 7, m 3 8] [0, 3],
  Q [.reg [m 9 0, lq 10 9, mi 11 0] [3, 9, 10, 11],
   .block 0 (.loop [3, 9, 10, 11] (Q [.reg [bt 12 .lss 11 10] [3, 9, 10, 11, 12],
      C 12 (.skip) (.exit 0),
      .block 1 (Q [.reg [ia 13 9 11 8, la 14 13 8, o1 5 (.alc (zs 8 (.int .u64 0))), st 8 5 14] [3, 5, 9, 10, 11],
        .reg [m 15 3, la 16 5 8, ch 17 81 [15, 16]] [3, 9, 10, 11]]),
      .reg [bi 18 .add 11 1, m 11 18] [3, 9, 10, 11]]))],
  .reg [m 19 3, m 2 19] [2],
  .ret]
theorem i_dfa_meetIdfa_set : imageE Tryd.prog Tryd.f80 [] [36, 38, 63, 52, 74, 75, 87, 94, 93, 62, 117, 121, 118, 120, 122, 123, 119, 78, 51, 81, 86, 49, 80, 85, 91, 56, 58, 64, 65, 67, 34, 33, 35, 70, 71, 45, 68, 46, 72, 69, 73] [[0], [0, 3], [3, 9, 10, 11], [3, 9, 10, 11], [3, 9, 10, 11, 12], [3, 5, 9, 10, 11], [3, 9, 10, 11], [3, 9, 10, 11], [2]] 1 = some (c_dfa_meetIdfa_set, [.t 2]) := by kernel_rfl

abbrev n_dfa_meetIdfa_key : Nat := 85
theorem h_dfa_meetIdfa_key : Tryd.prog.funcs[85]? = some Tryd.f85 := Tryd.func85
def c_dfa_meetIdfa_key : AC :=
  Q [.reg [mv 2 (.nilptr)] [0],
  .reg [o1 6 (.mkp ⟨true, kz 96 (.i .u16)⟩), o1 7 (.bld [.junk, .nil 96] [(0, 1, (.t 6))]), bx 8 7, m 3 8] [0, 3],
  Q [.reg [m 9 0, lq 10 9, mi 11 0] [3, 9, 10, 11],
   .block 0 (.loop [3, 9, 10, 11] (Q [.reg [bt 12 .lss 11 10] [3, 9, 10, 11, 12],
      C 12 (.skip) (.exit 0),
      .block 1 (Q [.reg [ia 13 9 11 96, la 14 13 96, o1 5 (.alc (zs 96 (.int .u16 0))), st 96 5 14] [3, 5, 9, 10, 11],
        .reg [m 15 3, la 16 5 96, ch 17 86 [15, 16]] [3, 9, 10, 11]]),
      .reg [bi 18 .add 11 1, m 11 18] [3, 9, 10, 11]]))],
  .reg [m 19 3, m 2 19] [2],
  .ret]
theorem i_dfa_meetIdfa_key : imageE Tryd.prog Tryd.f85 [] [36, 38, 63, 52, 74, 75, 87, 94, 93, 62, 117, 121, 118, 120, 122, 123, 119, 78, 51, 81, 86, 49, 80, 85, 91, 56, 58, 64, 65, 67, 34, 33, 35, 70, 71, 45, 68, 46, 72, 69, 73] [[0], [0, 3], [3, 9, 10, 11], [3, 9, 10, 11], [3, 9, 10, 11, 12], [3, 5, 9, 10, 11], [3, 9, 10, 11], [3, 9, 10, 11], [2]] 1 = some (c_dfa_meetIdfa_key, [.t 2]) := by kernel_rfl

abbrev n_nfa_graph_grow : Nat := 91
theorem h_nfa_graph_grow : Tryd.prog.funcs[91]? = some Tryd.f91 := Tryd.func91
def c_nfa_graph_grow : AC :=
  Q [.reg [bx 3 0, mv 6 (.nil 1)] [1, 2, 3],
  .scope 0 [1, 2, 3, 7] (Q [.reg [mi 7 0] [1, 2, 3, 7],
    .label 0,
    Q [.reg [m 10 7, m 11 2, lq 12 11, bt 13 .lss 10 12] [1, 2, 3, 7, 13],
     C 13 (Q [Q [.regD [fa 14 3 1, l1 15 14, m 16 2, m 17 7, ia 18 16 17 1, l1 19 18, ia 20 15 19 1, l1 21 20, m 8 21] [1, 2, 3, 7, 8],
        .block 0 (.loop [1, 2, 3, 7, 8] (Q [Q [.reg [m 22 8, bi 23 .neq 22 0] [1, 2, 3, 7, 8, 23],
            C 23 (.skip) (.exit 0)],
           .block 1 (Q [.reg [fa 30 3 0, l1 31 30, m 32 8, bi 33 .sub 32 1, ia 34 31 33 4, fa 35 34 1, l1 36 35, m 9 36] [1, 2, 3, 7, 8, 9],
             .reg [m 37 1, m 38 9, ia 39 37 38 1, l1 40 39, nt' 41 40] [1, 2, 3, 7, 8, 9, 41],
             C 41 (Q [.reg [m 42 1, m 43 9, ia 44 42 43 1, o0 (.st 1 (.t 44) (.v (.bool true)))] [1, 2, 3, 7, 8, 9],
               .reg [m 45 2, m 46 9, o1 47 (.lit 3 1 [.t 46]), o1 48 (.app (.t 45) (.t 47) 3 1 8), m 2 48] [1, 2, 3, 7, 8]]) (.skip)]),
           .reg [fa 24 3 2, l1 25 24, m 26 8, bi 27 .sub 26 1, ia 28 25 27 1, l1 29 28, m 8 29] [1, 2, 3, 7, 8]]))],
       .reg [m 49 7, bi 50 .add 49 1, m 7 50] [1, 2, 3, 7],
       .goto 0]) (.skip)],
    .reg [m 51 2, m 6 51] [1, 6],
    .ret]) (Q [.skip,
    Q [.reg [m 10 7, m 11 2, lq 12 11, bt 13 .lss 10 12] [1, 2, 3, 7, 13],
     C 13 (Q [Q [.regD [fa 14 3 1, l1 15 14, m 16 2, m 17 7, ia 18 16 17 1, l1 19 18, ia 20 15 19 1, l1 21 20, m 8 21] [1, 2, 3, 7, 8],
        .block 0 (.loop [1, 2, 3, 7, 8] (Q [Q [.reg [m 22 8, bi 23 .neq 22 0] [1, 2, 3, 7, 8, 23],
            C 23 (.skip) (.exit 0)],
           .block 1 (Q [.reg [fa 30 3 0, l1 31 30, m 32 8, bi 33 .sub 32 1, ia 34 31 33 4, fa 35 34 1, l1 36 35, m 9 36] [1, 2, 3, 7, 8, 9],
             .reg [m 37 1, m 38 9, ia 39 37 38 1, l1 40 39, nt' 41 40] [1, 2, 3, 7, 8, 9, 41],
             C 41 (Q [.reg [m 42 1, m 43 9, ia 44 42 43 1, o0 (.st 1 (.t 44) (.v (.bool true)))] [1, 2, 3, 7, 8, 9],
               .reg [m 45 2, m 46 9, o1 47 (.lit 3 1 [.t 46]), o1 48 (.app (.t 45) (.t 47) 3 1 8), m 2 48] [1, 2, 3, 7, 8]]) (.skip)]),
           .reg [fa 24 3 2, l1 25 24, m 26 8, bi 27 .sub 26 1, ia 28 25 27 1, l1 29 28, m 8 29] [1, 2, 3, 7, 8]]))],
       .reg [m 49 7, bi 50 .add 49 1, m 7 50] [1, 2, 3, 7],
       .goto 0]) (.skip)],
    .reg [m 51 2, m 6 51] [1, 6],
    .ret])]
theorem i_nfa_graph_grow : imageE Tryd.prog Tryd.f91 [1] [36, 38, 63, 52, 74, 75, 87, 94, 93, 62, 117, 121, 118, 120, 122, 123, 119, 78, 51, 81, 86, 49, 80, 85, 91, 56, 58, 64, 65, 67, 34, 33, 35, 70, 71, 45, 68, 46, 72, 69, 73] [[1, 2, 3], [0, 1, 2, 3, 7], [1, 2, 3, 7], [1, 2, 3, 7, 13], [0, 0, 1, 0, 0, 12, 28, 63, 127, 255], [0, 1, 2, 3, 4, 5, 6, 7, 8], [1, 2, 3, 7, 8], [1, 2, 3, 7, 8], [1, 2, 3, 7, 8, 23], [1, 2, 3, 7, 8, 9], [1, 2, 3, 7, 8, 9, 41], [1, 2, 3, 7, 8, 9], [1, 2, 3, 7, 8], [1, 2, 3, 7, 8], [1, 2, 3, 7], [1, 6]] 3 = some (c_nfa_graph_grow, [.t 6]) := by kernel_rfl

abbrev n_dfa_Of_1 : Nat := 56
theorem h_dfa_Of_1 : Tryd.prog.funcs[56]? = some Tryd.f56 := Tryd.func56
def c_dfa_Of_1 : AC :=
  Q [.reg [bx 5 0, o1 7 (.alc (zs 8 (.int .u64 0)))] [1, 2, 3, 4, 5, 7],
  Q [.reg [m 8 1, o1 9 (.iaa (.t 2) (.t 8) 95 1), l1 10 9] [1, 2, 3, 4, 5, 7, 10],
   C 10 (.reg [l1 11 3, la 12 5 8, m 13 1, ca 14 57 [11, 12, 13], st 8 4 14] [2, 3, 4, 7]) (.skip)],
  .reg [la 15 4 8, st 8 7 15] [2, 3, 4, 7],
  .ret]
theorem i_dfa_Of_1 : imageE Tryd.prog Tryd.f56 [2, 3, 4] [36, 38, 63, 52, 74, 75, 87, 94, 93, 62, 117, 121, 118, 120, 122, 123, 119, 78, 51, 81, 86, 49, 80, 85, 91, 56, 58, 64, 65, 67, 34, 33, 35, 70, 71, 45, 68, 46, 72, 69, 73] [[1, 2, 3, 4, 5, 7], [1, 2, 3, 4, 5, 7, 10], [2, 3, 4, 7], [2, 3, 4, 7]] 5 = some (c_dfa_Of_1, [.c 7 8 true]) := by kernel_rfl

abbrev n_dfa_walkIdfa_set : Nat := 58
theorem h_dfa_walkIdfa_set : Tryd.prog.funcs[58]? = some Tryd.f58 := Tryd.func58
def c_dfa_walkIdfa_set : AC :=
  Q [.reg [bx 3 0, mv 6 (.nil 8), mv 7 (.nil 1), mb 8 false] [1, 2, 3],
  .reg [la 17 3 8, o1 18 (.lit 100 8 [.t 17]), ch 19 80 [18], m 9 19] [1, 2, 9],
  .reg [mv 10 (.nil 1)] [1, 2, 9, 10],
  Q [.reg [mi 11 0] [1, 2, 9, 10, 11],
   .block 0 (.loop [1, 2, 9, 10, 11] (Q [Q [.reg [m 20 11, m 21 9, o1 22 (.nlc (.t 21)), fa 23 22 1, l1 24 23, lq 25 24, bt 26 .lss 20 25] [1, 2, 9, 10, 11, 26],
       C 26 (.skip) (.exit 0)],
      .block 1 (Q [.reg [o1 29 (.mks 3 1 8 (.int .i64 0) (.v (.int .i64 95))), m 12 29] [1, 2, 9, 10, 11, 12],
        .reg [m 30 9, o1 31 (.nlc (.t 30)), fa 32 31 1, l1 33 32, m 34 11, ia 35 33 34 8, la 36 35 8, m 37 11, o1 13 (.alc (zs 8 (.int .u64 0))), st 8 13 36, m 14 37] [1, 2, 9, 10, 11, 12, 13, 14],
        Q [.reg [m 38 12, lq 39 38, mi 40 0] [1, 2, 9, 10, 11, 12, 13, 14, 39, 40],
         .block 2 (.loop [1, 2, 9, 10, 11, 12, 13, 14, 39, 40] (Q [.reg [bt 41 .lss 40 39] [1, 2, 9, 10, 11, 12, 13, 14, 39, 40, 41],
            C 41 (.skip) (.exit 2),
            .block 3 (Q [.reg [m 42 40, m 15 42] [1, 2, 9, 10, 11, 12, 13, 14, 15, 39, 40],
              Q [.reg [m 43 1, m 44 9, o1 45 (.nlc (.t 44)), fa 46 45 1, l1 47 46, m 48 11, ia 49 47 48 8, la 50 49 8, m 51 15, cv 52 43 [50, 51], o1 16 (.alc (zs 8 (.int .u64 0))), st 8 16 52] [1, 2, 9, 10, 11, 12, 13, 14, 15, 16, 39, 40],
               .reg [la 53 16 8, la 54 13 8, o1 55 (.aeq true ⟨true, kz 8 (.i .u64)⟩ (.t 53) (.t 54))] [1, 2, 9, 10, 11, 12, 13, 14, 15, 16, 39, 40, 55],
               C 55 (.regF (OQ [m 57 9, la 58 16 8] (.both
                   (OQ [la 56 16 8, ch 59 81 [57, 58], st 8 13 56, m 14 59] .nil)
                   (OQ [ch 59 81 [57, 58], la 56 16 8, st 8 13 56, m 14 59] .nil))) [1, 2, 9, 10, 11, 12, 13, 14, 15, 39, 40]) (.skip)],
              .reg [m 60 12, m 61 15, m 62 14, ia 63 60 61 1, st 1 63 62] [1, 2, 9, 10, 11, 12, 13, 14, 39, 40]]),
            .reg [bi 64 .add 40 1, m 40 64] [1, 2, 9, 10, 11, 12, 13, 14, 39, 40]]))],
        Q [.reg [m 65 9, o1 66 (.nlc (.t 65)), fa 67 66 1, l1 68 67, lq 69 68, m 70 2, bt 71 .gtr 69 70] [1, 2, 9, 10, 11, 12, 71],
         C 71 (Q [.reg [mv 6 (.nil 8), mv 7 (.nil 1), mb 8 false] [1, 6, 7, 8],
           .ret]) (.skip)],
        .reg [m 72 10, m 73 12, o1 74 (.lit 43 1 [.t 73]), o1 75 (.app (.t 72) (.t 74) 43 1 24), m 10 75] [1, 2, 9, 10, 11]]),
      .reg [m 27 11, bi 28 .add 27 1, m 11 28] [1, 2, 9, 10, 11]]))],
  .reg [m 76 9, o1 77 (.nlc (.t 76)), fa 78 77 1, l1 79 78, m 80 10, m 6 79, m 7 80, mb 8 true] [1, 6, 7, 8],
  .ret]
theorem i_dfa_walkIdfa_set : imageE Tryd.prog Tryd.f58 [1] [36, 38, 63, 52, 74, 75, 87, 94, 93, 62, 117, 121, 118, 120, 122, 123, 119, 78, 51, 81, 86, 49, 80, 85, 91, 56, 58, 64, 65, 67, 34, 33, 35, 70, 71, 45, 68, 46, 72, 69, 73] [[1, 2, 3], [1, 2, 9], [1, 2, 9, 10], [1, 2, 9, 10, 11], [1, 2, 9, 10, 11], [1, 2, 9, 10, 11, 26], [1, 2, 9, 10, 11, 12], [1, 2, 9, 10, 11, 12, 13, 14], [1, 2, 9, 10, 11, 12, 13, 14, 39, 40], [1, 2, 9, 10, 11, 12, 13, 14, 39, 40], [1, 2, 9, 10, 11, 12, 13, 14, 39, 40, 41], [1, 2, 9, 10, 11, 12, 13, 14, 15, 39, 40], [1, 2, 9, 10, 11, 12, 13, 14, 15, 16, 39, 40], [1, 2, 9, 10, 11, 12, 13, 14, 15, 16, 39, 40, 55], [1, 0, 0, 0, 6, 15, 31], [1, 2, 9, 10, 11, 12, 13, 14, 15, 39, 40], [1, 2, 9, 10, 11, 12, 13, 14, 39, 40], [1, 2, 9, 10, 11, 12, 13, 14, 39, 40], [1, 2, 9, 10, 11, 12, 71], [1, 6, 7, 8], [1, 2, 9, 10, 11], [1, 2, 9, 10, 11], [1, 6, 7, 8]] 3 = some (c_dfa_walkIdfa_set, [.t 6, .t 7, .t 8]) := by kernel_rfl

abbrev n_dfa_walkIint : Nat := 64
theorem h_dfa_walkIint : Tryd.prog.funcs[64]? = some Tryd.f64 := Tryd.func64
def c_dfa_walkIint : AC :=
  Q [.reg [mv 6 (.nil 1), mv 7 (.nil 1), mb 8 false] [0, 1, 2],
  .reg [m 17 0, o1 18 (.lit 3 1 [.t 17]), ch 19 49 [18], m 9 19] [1, 2, 9],
  .reg [mv 10 (.nil 1)] [1, 2, 9, 10],
  Q [.reg [mi 11 0] [1, 2, 9, 10, 11],
   .block 0 (.loop [1, 2, 9, 10, 11] (Q [Q [.reg [m 20 11, m 21 9, o1 22 (.nlc (.t 21)), fa 23 22 1, l1 24 23, lq 25 24, bt 26 .lss 20 25] [1, 2, 9, 10, 11, 26],
       C 26 (.skip) (.exit 0)],
      .block 1 (Q [.reg [o1 29 (.mks 3 1 8 (.int .i64 0) (.v (.int .i64 95))), m 12 29] [1, 2, 9, 10, 11, 12],
        .reg [m 30 9, o1 31 (.nlc (.t 30)), fa 32 31 1, l1 33 32, m 34 11, ia 35 33 34 1, l1 36 35, m 37 11, m 13 36, m 14 37] [1, 2, 9, 10, 11, 12, 13, 14],
        Q [.reg [m 38 12, lq 39 38, mi 40 0] [1, 2, 9, 10, 11, 12, 13, 14, 39, 40],
         .block 2 (.loop [1, 2, 9, 10, 11, 12, 13, 14, 39, 40] (Q [.reg [bt 41 .lss 40 39] [1, 2, 9, 10, 11, 12, 13, 14, 39, 40, 41],
            C 41 (.skip) (.exit 2),
            .block 3 (Q [.reg [m 42 40, m 15 42] [1, 2, 9, 10, 11, 12, 13, 14, 15, 39, 40],
              Q [.reg [m 43 1, m 44 9, o1 45 (.nlc (.t 44)), fa 46 45 1, l1 47 46, m 48 11, ia 49 47 48 1, l1 50 49, m 51 15, cv 52 43 [50, 51], m 16 52] [1, 2, 9, 10, 11, 12, 13, 14, 15, 16, 39, 40],
               .reg [m 53 16, m 54 13, bt 55 .neq 53 54] [1, 2, 9, 10, 11, 12, 13, 14, 15, 16, 39, 40, 55],
               C 55 (.reg [m 56 16, m 57 9, m 58 16, ch 59 51 [57, 58], m 13 56, m 14 59] [1, 2, 9, 10, 11, 12, 13, 14, 15, 39, 40]) (.skip)],
              .reg [m 60 12, m 61 15, m 62 14, ia 63 60 61 1, st 1 63 62] [1, 2, 9, 10, 11, 12, 13, 14, 39, 40]]),
            .reg [bi 64 .add 40 1, m 40 64] [1, 2, 9, 10, 11, 12, 13, 14, 39, 40]]))],
        Q [.reg [m 65 9, o1 66 (.nlc (.t 65)), fa 67 66 1, l1 68 67, lq 69 68, m 70 2, bt 71 .gtr 69 70] [1, 2, 9, 10, 11, 12, 71],
         C 71 (Q [.reg [mv 6 (.nil 1), mv 7 (.nil 1), mb 8 false] [1, 6, 7, 8],
           .ret]) (.skip)],
        .reg [m 72 10, m 73 12, o1 74 (.lit 43 1 [.t 73]), o1 75 (.app (.t 72) (.t 74) 43 1 24), m 10 75] [1, 2, 9, 10, 11]]),
      .reg [m 27 11, bi 28 .add 27 1, m 11 28] [1, 2, 9, 10, 11]]))],
  .reg [m 76 9, o1 77 (.nlc (.t 76)), fa 78 77 1, l1 79 78, m 80 10, m 6 79, m 7 80, mb 8 true] [1, 6, 7, 8],
  .ret]
theorem i_dfa_walkIint : imageE Tryd.prog Tryd.f64 [1] [36, 38, 63, 52, 74, 75, 87, 94, 93, 62, 117, 121, 118, 120, 122, 123, 119, 78, 51, 81, 86, 49, 80, 85, 91, 56, 58, 64, 65, 67, 34, 33, 35, 70, 71, 45, 68, 46, 72, 69, 73] [[0, 1, 2], [1, 2, 9], [1, 2, 9, 10], [1, 2, 9, 10, 11], [1, 2, 9, 10, 11], [1, 2, 9, 10, 11, 26], [1, 2, 9, 10, 11, 12], [1, 2, 9, 10, 11, 12, 13, 14], [1, 2, 9, 10, 11, 12, 13, 14, 39, 40], [1, 2, 9, 10, 11, 12, 13, 14, 39, 40], [1, 2, 9, 10, 11, 12, 13, 14, 39, 40, 41], [1, 2, 9, 10, 11, 12, 13, 14, 15, 39, 40], [1, 2, 9, 10, 11, 12, 13, 14, 15, 16, 39, 40], [1, 2, 9, 10, 11, 12, 13, 14, 15, 16, 39, 40, 55], [1, 2, 9, 10, 11, 12, 13, 14, 15, 39, 40], [1, 2, 9, 10, 11, 12, 13, 14, 39, 40], [1, 2, 9, 10, 11, 12, 13, 14, 39, 40], [1, 2, 9, 10, 11, 12, 71], [1, 6, 7, 8], [1, 2, 9, 10, 11], [1, 2, 9, 10, 11], [1, 6, 7, 8]] 3 = some (c_dfa_walkIint, [.t 6, .t 7, .t 8]) := by kernel_rfl

abbrev n_dfa_form_1 : Nat := 65
theorem h_dfa_form_1 : Tryd.prog.funcs[65]? = some Tryd.f65 := Tryd.func65
def c_dfa_form_1 : AC :=
  Q [.reg [mi 5 0] [0, 1, 2],
  .reg [l1 6 2, m 7 0, ia 8 6 7 1, l1 9 8, m 10 1, ia 11 9 10 1, l1 12 11, m 5 12] [2, 5],
  .ret]
theorem i_dfa_form_1 : imageE Tryd.prog Tryd.f65 [2] [36, 38, 63, 52, 74, 75, 87, 94, 93, 62, 117, 121, 118, 120, 122, 123, 119, 78, 51, 81, 86, 49, 80, 85, 91, 56, 58, 64, 65, 67, 34, 33, 35, 70, 71, 45, 68, 46, 72, 69, 73] [[0, 1, 2], [2, 5]] 3 = some (c_dfa_form_1, [.t 5]) := by kernel_rfl

abbrev n_dfa_form_2 : Nat := 67
theorem h_dfa_form_2 : Tryd.prog.funcs[67]? = some Tryd.f67 := Tryd.func67
def c_dfa_form_2 : AC :=
  Q [.reg [mi 7 0] [0, 1, 2, 3, 4],
  .regD [l1 8 2, l1 9 3, l1 10 4, m 11 0, ia 12 10 11 1, l1 13 12, ia 14 9 13 1, l1 15 14, m 16 1, ia 17 15 16 1, l1 18 17, ia 19 8 18 1, l1 20 19, m 7 20] [2, 3, 4, 7],
  .ret]
theorem i_dfa_form_2 : imageE Tryd.prog Tryd.f67 [2, 3, 4] [36, 38, 63, 52, 74, 75, 87, 94, 93, 62, 117, 121, 118, 120, 122, 123, 119, 78, 51, 81, 86, 49, 80, 85, 91, 56, 58, 64, 65, 67, 34, 33, 35, 70, 71, 45, 68, 46, 72, 69, 73] [[0, 1, 2, 3, 4], [0, 0, 0, 0, 0, 12, 28, 62, 126, 0, 510, 1022, 2047, 4095, 8191], [0, 1, 2, 3, 4, 5, 6, 7, 8, 9, 10, 11, 12, 13], [2, 3, 4, 7]] 5 = some (c_dfa_form_2, [.t 7]) := by kernel_rfl

abbrev n_dfa_leastIint : Nat := 34
theorem h_dfa_leastIint : Tryd.prog.funcs[34]? = some Tryd.f34 := Tryd.func34
def c_dfa_leastIint : AC :=
  Q [.reg [mv 6 (.str []), mb 7 false] [0, 1, 2],
  .reg [m 15 0, o1 16 (.ltr 3 1 [.t 15]), ch 17 49 [16], m 8 17] [1, 2, 8],
  .reg [o1 18 (.ltr 3 1 [.v (.int .i64 0)]), o1 19 (.ltr 5 1 [.v (.int .u8 0)]), m 9 18, m 10 19] [1, 2, 8, 9, 10],
  Q [.reg [mi 11 0] [1, 2, 8, 9, 10, 11],
   .block 0 (.loop [1, 2, 8, 9, 10, 11] (Q [Q [.reg [m 20 11, m 21 8, o1 22 (.nlc (.t 21)), fa 23 22 1, l1 24 23, lq 25 24, bt 26 .lss 20 25] [1, 2, 8, 9, 10, 11, 26],
       C 26 (.skip) (.exit 0)],
      .block 1 (Q [Q [.reg [m 29 2, m 30 8, o1 31 (.nlc (.t 30)), fa 32 31 1, l1 33 32, m 34 11, ia 35 33 34 1, l1 36 35, cv 37 29 [36]] [1, 2, 8, 9, 10, 11, 37],
         C 37 (Q [.reg [m 38 9, m 39 10, m 40 11, ca 41 50 [38, 39, 40], m 6 41, mb 7 true] [1, 2, 6, 7],
           .ret]) (.skip)],
        .reg [m 42 8, o1 43 (.nlc (.t 42)), fa 44 43 1, l1 45 44, m 46 11, ia 47 45 46 1, l1 48 47, m 12 48] [1, 2, 8, 9, 10, 11, 12],
        .reg [mi 49 0] [1, 2, 8, 9, 10, 11, 12, 49],
        .block 2 (.loop [1, 2, 8, 9, 10, 11, 12, 49] (Q [.reg [bi 50 .lss 49 95] [1, 2, 8, 9, 10, 11, 12, 49, 50],
           C 50 (.skip) (.exit 2),
           .block 3 (Q [.reg [m 51 49, m 13 51] [1, 2, 8, 9, 10, 11, 12, 13, 49],
             .reg [m 52 1, m 53 8, o1 54 (.nlc (.t 53)), fa 55 54 1, l1 56 55, m 57 11, ia 58 56 57 1, l1 59 58, m 60 13, cv 61 52 [59, 60], m 14 61] [1, 2, 8, 9, 10, 11, 12, 13, 14, 49],
             Q [.reg [m 62 14, m 63 12, bt 64 .eql 62 63] [1, 2, 8, 9, 10, 11, 12, 13, 14, 49, 64],
              C 64 (.exit 3) (.skip)],
             .reg [m 65 14, m 12 65] [1, 2, 8, 9, 10, 11, 12, 13, 14, 49],
             .reg [m 66 8, m 67 14, ch 68 51 [66, 67], m 69 9, lq 70 69, bt 71 .eql 68 70] [1, 2, 8, 9, 10, 11, 12, 13, 49, 71],
             C 71 (Q [.reg [m 72 9, m 73 11, o1 74 (.ltr 3 1 [.t 73]), o1 75 (.app (.t 72) (.t 74) 3 1 8), m 9 75] [1, 2, 8, 9, 10, 11, 12, 13, 49],
               .reg [m 76 10, m 77 13, o1 78 (.bin .add (.v (.int .i64 32)) (.t 77)), o1 79 (.cii .u8 (.t 78)), o1 80 (.ltr 5 1 [.t 79]), o1 81 (.app (.t 76) (.t 80) 5 1 1), m 10 81] [1, 2, 8, 9, 10, 11, 12, 49]]) (.skip)]),
           .reg [bi 82 .add 49 1, m 49 82] [1, 2, 8, 9, 10, 11, 12, 49]]))]),
      .reg [m 27 11, bi 28 .add 27 1, m 11 28] [1, 2, 8, 9, 10, 11]]))],
  .reg [mv 6 (.str []), mb 7 false] [1, 2, 6, 7],
  .ret]
theorem i_dfa_leastIint : imageE Tryd.prog Tryd.f34 [1, 2] [36, 38, 63, 52, 74, 75, 87, 94, 93, 62, 117, 121, 118, 120, 122, 123, 119, 78, 51, 81, 86, 49, 80, 85, 91, 56, 58, 64, 65, 67, 34, 33, 35, 70, 71, 45, 68, 46, 72, 69, 73, 1000001] [[0, 1, 2], [1, 2, 8], [1, 2, 8, 9, 10], [1, 2, 8, 9, 10, 11], [1, 2, 8, 9, 10, 11], [1, 2, 8, 9, 10, 11, 26], [1, 2, 8, 9, 10, 11, 37], [1, 2, 6, 7], [1, 2, 8, 9, 10, 11, 12], [1, 2, 8, 9, 10, 11, 12, 49], [1, 2, 8, 9, 10, 11, 12, 49], [1, 2, 8, 9, 10, 11, 12, 49, 50], [1, 2, 8, 9, 10, 11, 12, 13, 49], [1, 2, 8, 9, 10, 11, 12, 13, 14, 49], [1, 2, 8, 9, 10, 11, 12, 13, 14, 49, 64], [1, 2, 8, 9, 10, 11, 12, 13, 14, 49], [1, 2, 8, 9, 10, 11, 12, 13, 49, 71], [1, 2, 8, 9, 10, 11, 12, 13, 49], [1, 2, 8, 9, 10, 11, 12, 49], [1, 2, 8, 9, 10, 11, 12, 49], [1, 2, 8, 9, 10, 11], [1, 2, 6, 7]] 3 = some (c_dfa_leastIint, [.t 6, .t 7]) := by kernel_rfl

abbrev n_dfa_Least_1 : Nat := 33
theorem h_dfa_Least_1 : Tryd.prog.funcs[33]? = some Tryd.f33 := Tryd.func33
def c_dfa_Least_1 : AC :=
  Q [.reg [mi 5 0] [0, 1, 2],
  .reg [fa 6 2 0, l1 7 6, m 8 0, ia 9 7 8 1, l1 10 9, m 11 1, ia 12 10 11 1, l1 13 12, m 5 13] [2, 5],
  .ret]
theorem i_dfa_Least_1 : imageE Tryd.prog Tryd.f33 [2] [36, 38, 63, 52, 74, 75, 87, 94, 93, 62, 117, 121, 118, 120, 122, 123, 119, 78, 51, 81, 86, 49, 80, 85, 91, 56, 58, 64, 65, 67, 34, 33, 35, 70, 71, 45, 68, 46, 72, 69, 73] [[0, 1, 2], [2, 5]] 3 = some (c_dfa_Least_1, [.t 5]) := by kernel_rfl

abbrev n_dfa_Least_2 : Nat := 35
theorem h_dfa_Least_2 : Tryd.prog.funcs[35]? = some Tryd.f35 := Tryd.func35
def c_dfa_Least_2 : AC :=
  Q [.reg [mb 3 false] [0, 1],
  .reg [fa 4 1 1, l1 5 4, m 6 0, ia 7 5 6 1, l1 8 7, m 3 8] [1, 3],
  .ret]
theorem i_dfa_Least_2 : imageE Tryd.prog Tryd.f35 [1] [36, 38, 63, 52, 74, 75, 87, 94, 93, 62, 117, 121, 118, 120, 122, 123, 119, 78, 51, 81, 86, 49, 80, 85, 91, 56, 58, 64, 65, 67, 34, 33, 35, 70, 71, 45, 68, 46, 72, 69, 73] [[0, 1], [1, 3]] 2 = some (c_dfa_Least_2, [.t 3]) := by kernel_rfl

abbrev n_dfa_meetIdfa_pair : Nat := 70
theorem h_dfa_meetIdfa_pair : Tryd.prog.funcs[70]? = some Tryd.f70 := Tryd.func70
def c_dfa_meetIdfa_pair : AC :=
  Q [.reg [mv 2 (.nilptr)] [0],
  .reg [o1 6 (.mkp ⟨true, [.i .i64, .i .i64]⟩), o1 7 (.bld [.junk, .nil 2] [(0, 1, (.t 6))]), bx 8 7, m 3 8] [0, 3],
  Q [.reg [m 9 0, lq 10 9, mi 11 0] [3, 9, 10, 11],
   .block 0 (.loop [3, 9, 10, 11] (Q [.reg [bt 12 .lss 11 10] [3, 9, 10, 11, 12],
      C 12 (.skip) (.exit 0),
      .block 1 (Q [.reg [ia 13 9 11 2, la 14 13 2, o1 5 (.alc [.int .i64 0, .int .i64 0]), st 2 5 14] [3, 5, 9, 10, 11],
        .reg [m 15 3, la 16 5 2, ch 17 71 [15, 16]] [3, 9, 10, 11]]),
      .reg [bi 18 .add 11 1, m 11 18] [3, 9, 10, 11]]))],
  .reg [m 19 3, m 2 19] [2],
  .ret]
theorem i_dfa_meetIdfa_pair : imageE Tryd.prog Tryd.f70 [] [36, 38, 63, 52, 74, 75, 87, 94, 93, 62, 117, 121, 118, 120, 122, 123, 119, 78, 51, 81, 86, 49, 80, 85, 91, 56, 58, 64, 65, 67, 34, 33, 35, 70, 71, 45, 68, 46, 72, 69, 73] [[0], [0, 3], [3, 9, 10, 11], [3, 9, 10, 11], [3, 9, 10, 11, 12], [3, 5, 9, 10, 11], [3, 9, 10, 11], [3, 9, 10, 11], [2]] 1 = some (c_dfa_meetIdfa_pair, [.t 2]) := by kernel_rfl

abbrev n_pdfa_metIdfa_pair_add : Nat := 71
theorem h_pdfa_metIdfa_pair_add : Tryd.prog.funcs[71]? = some Tryd.f71 := Tryd.func71
def c_pdfa_metIdfa_pair_add : AC :=
  Q [.reg [bx 3 1, mi 4 0] [0, 3],
  .regD [m 8 0, o1 9 (.nlc (.t 8)), fa 10 9 0, l1 11 10, la 12 3 2, o1 13 (.lkp ⟨true, [.i .i64, .i .i64]⟩ (.int .i64 0) true (.t 11) (.t 12)), m 7 13, ex 14 7 0, ex 15 7 1, m 5 14, m 6 15] [0, 3, 5, 6],
  Q [.reg [m 16 6, nt' 17 16] [0, 3, 5, 17],
   C 17 (Q [.reg [m 18 0, o1 19 (.nlc (.t 18)), fa 20 19 1, l1 21 20, lq 22 21, m 5 22] [0, 3, 5],
     .regD [m 23 0, o1 24 (.nlc (.t 23)), fa 25 24 0, l1 26 25, la 27 3 2, m 28 5, o0 (.mup ⟨true, [.i .i64, .i .i64]⟩ (.t 26) (.t 27) (.t 28))] [0, 3, 5],
     .regD [m 29 0, m 30 0, o1 31 (.nlc (.t 30)), fa 32 31 1, l1 33 32, la 34 3 2, o1 35 (.lit 72 2 [.t 34]), o1 36 (.app (.t 33) (.t 35) 72 2 16), o1 37 (.nlc (.t 29)), fa 38 37 1, st 1 38 36] [0, 5]]) (.skip)],
  .reg [m 39 5, m 4 39] [0, 4],
  .ret]
theorem i_pdfa_metIdfa_pair_add : imageE Tryd.prog Tryd.f71 [0] [36, 38, 63, 52, 74, 75, 87, 94, 93, 62, 117, 121, 118, 120, 122, 123, 119, 78, 51, 81, 86, 49, 80, 85, 91, 56, 58, 64, 65, 67, 34, 33, 35, 70, 71, 45, 68, 46, 72, 69, 73] [[0, 3], [0, 0, 1, 3, 7, 0, 31, 63, 127, 127, 255, 1023], [0, 1, 2, 3, 4, 5, 6, 7, 8, 9, 10], [0, 3, 5, 6], [0, 3, 5, 17], [0, 3, 5], [0, 0, 1, 3, 7, 0, 0, 63], [0, 1, 2, 3, 4, 5, 6], [0, 3, 5], [0, 0, 0, 2, 6, 14, 0, 32, 126, 255, 511, 1023], [0, 1, 2, 3, 4, 5, 6, 7, 8, 9, 10], [0, 5], [0, 4]] 2 = some (c_pdfa_metIdfa_pair_add, [.t 4]) := by kernel_rfl

abbrev n_dfa_walkIdfa_pair : Nat := 45
theorem h_dfa_walkIdfa_pair : Tryd.prog.funcs[45]? = some Tryd.f45 := Tryd.func45
def c_dfa_walkIdfa_pair : AC :=
  Q [.reg [bx 3 0, mv 6 (.nil 2), mv 7 (.nil 1), mb 8 false] [1, 2, 3],
  .reg [la 17 3 2, o1 18 (.lit 72 2 [.t 17]), ch 19 70 [18], m 9 19] [1, 2, 9],
  .reg [mv 10 (.nil 1)] [1, 2, 9, 10],
  Q [.reg [mi 11 0] [1, 2, 9, 10, 11],
   .block 0 (.loop [1, 2, 9, 10, 11] (Q [Q [.reg [m 20 11, m 21 9, o1 22 (.nlc (.t 21)), fa 23 22 1, l1 24 23, lq 25 24, bt 26 .lss 20 25] [1, 2, 9, 10, 11, 26],
       C 26 (.skip) (.exit 0)],
      .block 1 (Q [.reg [o1 29 (.mks 3 1 8 (.int .i64 0) (.v (.int .i64 95))), m 12 29] [1, 2, 9, 10, 11, 12],
        .reg [m 30 9, o1 31 (.nlc (.t 30)), fa 32 31 1, l1 33 32, m 34 11, ia 35 33 34 2, la 36 35 2, m 37 11, o1 13 (.alc [.int .i64 0, .int .i64 0]), st 2 13 36, m 14 37] [1, 2, 9, 10, 11, 12, 13, 14],
        Q [.reg [m 38 12, lq 39 38, mi 40 0] [1, 2, 9, 10, 11, 12, 13, 14, 39, 40],
         .block 2 (.loop [1, 2, 9, 10, 11, 12, 13, 14, 39, 40] (Q [.reg [bt 41 .lss 40 39] [1, 2, 9, 10, 11, 12, 13, 14, 39, 40, 41],
            C 41 (.skip) (.exit 2),
            .block 3 (Q [.reg [m 42 40, m 15 42] [1, 2, 9, 10, 11, 12, 13, 14, 15, 39, 40],
              Q [.reg [m 43 1, m 44 9, o1 45 (.nlc (.t 44)), fa 46 45 1, l1 47 46, m 48 11, ia 49 47 48 2, la 50 49 2, m 51 15, cv 52 43 [50, 51], o1 16 (.alc [.int .i64 0, .int .i64 0]), st 2 16 52] [1, 2, 9, 10, 11, 12, 13, 14, 15, 16, 39, 40],
               .reg [la 53 16 2, la 54 13 2, o1 55 (.aeq true ⟨true, [.i .i64, .i .i64]⟩ (.t 53) (.t 54))] [1, 2, 9, 10, 11, 12, 13, 14, 15, 16, 39, 40, 55],
               C 55 (.regF (OQ [m 57 9, la 58 16 2] (.both
                   (OQ [la 56 16 2, ch 59 71 [57, 58], st 2 13 56, m 14 59] .nil)
                   (OQ [ch 59 71 [57, 58], la 56 16 2, st 2 13 56, m 14 59] .nil))) [1, 2, 9, 10, 11, 12, 13, 14, 15, 39, 40]) (.skip)],
              .reg [m 60 12, m 61 15, m 62 14, ia 63 60 61 1, st 1 63 62] [1, 2, 9, 10, 11, 12, 13, 14, 39, 40]]),
            .reg [bi 64 .add 40 1, m 40 64] [1, 2, 9, 10, 11, 12, 13, 14, 39, 40]]))],
        Q [.reg [m 65 9, o1 66 (.nlc (.t 65)), fa 67 66 1, l1 68 67, lq 69 68, m 70 2, bt 71 .gtr 69 70] [1, 2, 9, 10, 11, 12, 71],
         C 71 (Q [.reg [mv 6 (.nil 2), mv 7 (.nil 1), mb 8 false] [1, 6, 7, 8],
           .ret]) (.skip)],
        .reg [m 72 10, m 73 12, o1 74 (.lit 43 1 [.t 73]), o1 75 (.app (.t 72) (.t 74) 43 1 24), m 10 75] [1, 2, 9, 10, 11]]),
      .reg [m 27 11, bi 28 .add 27 1, m 11 28] [1, 2, 9, 10, 11]]))],
  .reg [m 76 9, o1 77 (.nlc (.t 76)), fa 78 77 1, l1 79 78, m 80 10, m 6 79, m 7 80, mb 8 true] [1, 6, 7, 8],
  .ret]
theorem i_dfa_walkIdfa_pair : imageE Tryd.prog Tryd.f45 [1] [36, 38, 63, 52, 74, 75, 87, 94, 93, 62, 117, 121, 118, 120, 122, 123, 119, 78, 51, 81, 86, 49, 80, 85, 91, 56, 58, 64, 65, 67, 34, 33, 35, 70, 71, 45, 68, 46, 72, 69, 73] [[1, 2, 3], [1, 2, 9], [1, 2, 9, 10], [1, 2, 9, 10, 11], [1, 2, 9, 10, 11], [1, 2, 9, 10, 11, 26], [1, 2, 9, 10, 11, 12], [1, 2, 9, 10, 11, 12, 13, 14], [1, 2, 9, 10, 11, 12, 13, 14, 39, 40], [1, 2, 9, 10, 11, 12, 13, 14, 39, 40], [1, 2, 9, 10, 11, 12, 13, 14, 39, 40, 41], [1, 2, 9, 10, 11, 12, 13, 14, 15, 39, 40], [1, 2, 9, 10, 11, 12, 13, 14, 15, 16, 39, 40], [1, 2, 9, 10, 11, 12, 13, 14, 15, 16, 39, 40, 55], [1, 0, 0, 0, 6, 15, 31], [1, 2, 9, 10, 11, 12, 13, 14, 15, 39, 40], [1, 2, 9, 10, 11, 12, 13, 14, 39, 40], [1, 2, 9, 10, 11, 12, 13, 14, 39, 40], [1, 2, 9, 10, 11, 12, 71], [1, 6, 7, 8], [1, 2, 9, 10, 11], [1, 2, 9, 10, 11], [1, 6, 7, 8]] 3 = some (c_dfa_walkIdfa_pair, [.t 6, .t 7, .t 8]) := by kernel_rfl

abbrev n_dfa_leastIdfa_pair : Nat := 68
theorem h_dfa_leastIdfa_pair : Tryd.prog.funcs[68]? = some Tryd.f68 := Tryd.func68
def c_dfa_leastIdfa_pair : AC :=
  Q [.reg [bx 3 0, mv 6 (.str []), mb 7 false] [1, 2, 3],
  .reg [la 15 3 2, o1 16 (.ltr 72 2 [.t 15]), ch 17 70 [16], m 8 17] [1, 2, 8],
  .reg [o1 18 (.ltr 3 1 [.v (.int .i64 0)]), o1 19 (.ltr 5 1 [.v (.int .u8 0)]), m 9 18, m 10 19] [1, 2, 8, 9, 10],
  Q [.reg [mi 11 0] [1, 2, 8, 9, 10, 11],
   .block 0 (.loop [1, 2, 8, 9, 10, 11] (Q [Q [.reg [m 20 11, m 21 8, o1 22 (.nlc (.t 21)), fa 23 22 1, l1 24 23, lq 25 24, bt 26 .lss 20 25] [1, 2, 8, 9, 10, 11, 26],
       C 26 (.skip) (.exit 0)],
      .block 1 (Q [Q [.reg [m 29 2, m 30 8, o1 31 (.nlc (.t 30)), fa 32 31 1, l1 33 32, m 34 11, ia 35 33 34 2, la 36 35 2, cv 37 29 [36]] [1, 2, 8, 9, 10, 11, 37],
         C 37 (Q [.reg [m 38 9, m 39 10, m 40 11, ca 41 50 [38, 39, 40], m 6 41, mb 7 true] [1, 2, 6, 7],
           .ret]) (.skip)],
        .reg [m 42 8, o1 43 (.nlc (.t 42)), fa 44 43 1, l1 45 44, m 46 11, ia 47 45 46 2, la 48 47 2, o1 12 (.alc [.int .i64 0, .int .i64 0]), st 2 12 48] [1, 2, 8, 9, 10, 11, 12],
        .reg [mi 49 0] [1, 2, 8, 9, 10, 11, 12, 49],
        .block 2 (.loop [1, 2, 8, 9, 10, 11, 12, 49] (Q [.reg [bi 50 .lss 49 95] [1, 2, 8, 9, 10, 11, 12, 49, 50],
           C 50 (.skip) (.exit 2),
           .block 3 (Q [.reg [m 51 49, m 13 51] [1, 2, 8, 9, 10, 11, 12, 13, 49],
             .reg [m 52 1, m 53 8, o1 54 (.nlc (.t 53)), fa 55 54 1, l1 56 55, m 57 11, ia 58 56 57 2, la 59 58 2, m 60 13, cv 61 52 [59, 60], o1 14 (.alc [.int .i64 0, .int .i64 0]), st 2 14 61] [1, 2, 8, 9, 10, 11, 12, 13, 14, 49],
             Q [.reg [la 62 14 2, la 63 12 2, o1 64 (.aeq false ⟨true, [.i .i64, .i .i64]⟩ (.t 62) (.t 63))] [1, 2, 8, 9, 10, 11, 12, 13, 14, 49, 64],
              C 64 (.exit 3) (.skip)],
             .reg [la 65 14 2, st 2 12 65] [1, 2, 8, 9, 10, 11, 12, 13, 14, 49],
             .reg [m 66 8, la 67 14 2, ch 68 71 [66, 67], m 69 9, lq 70 69, bt 71 .eql 68 70] [1, 2, 8, 9, 10, 11, 12, 13, 49, 71],
             C 71 (Q [.reg [m 72 9, m 73 11, o1 74 (.ltr 3 1 [.t 73]), o1 75 (.app (.t 72) (.t 74) 3 1 8), m 9 75] [1, 2, 8, 9, 10, 11, 12, 13, 49],
               .reg [m 76 10, m 77 13, o1 78 (.bin .add (.v (.int .i64 32)) (.t 77)), o1 79 (.cii .u8 (.t 78)), o1 80 (.ltr 5 1 [.t 79]), o1 81 (.app (.t 76) (.t 80) 5 1 1), m 10 81] [1, 2, 8, 9, 10, 11, 12, 49]]) (.skip)]),
           .reg [bi 82 .add 49 1, m 49 82] [1, 2, 8, 9, 10, 11, 12, 49]]))]),
      .reg [m 27 11, bi 28 .add 27 1, m 11 28] [1, 2, 8, 9, 10, 11]]))],
  .reg [mv 6 (.str []), mb 7 false] [1, 2, 6, 7],
  .ret]
theorem i_dfa_leastIdfa_pair : imageE Tryd.prog Tryd.f68 [1, 2] [36, 38, 63, 52, 74, 75, 87, 94, 93, 62, 117, 121, 118, 120, 122, 123, 119, 78, 51, 81, 86, 49, 80, 85, 91, 56, 58, 64, 65, 67, 34, 33, 35, 70, 71, 45, 68, 46, 72, 69, 73, 1000001] [[1, 2, 3], [1, 2, 8], [1, 2, 8, 9, 10], [1, 2, 8, 9, 10, 11], [1, 2, 8, 9, 10, 11], [1, 2, 8, 9, 10, 11, 26], [1, 2, 8, 9, 10, 11, 37], [1, 2, 6, 7], [1, 2, 8, 9, 10, 11, 12], [1, 2, 8, 9, 10, 11, 12, 49], [1, 2, 8, 9, 10, 11, 12, 49], [1, 2, 8, 9, 10, 11, 12, 49, 50], [1, 2, 8, 9, 10, 11, 12, 13, 49], [1, 2, 8, 9, 10, 11, 12, 13, 14, 49], [1, 2, 8, 9, 10, 11, 12, 13, 14, 49, 64], [1, 2, 8, 9, 10, 11, 12, 13, 14, 49], [1, 2, 8, 9, 10, 11, 12, 13, 49, 71], [1, 2, 8, 9, 10, 11, 12, 13, 49], [1, 2, 8, 9, 10, 11, 12, 49], [1, 2, 8, 9, 10, 11, 12, 49], [1, 2, 8, 9, 10, 11], [1, 2, 6, 7]] 3 = some (c_dfa_leastIdfa_pair, [.t 6, .t 7]) := by kernel_rfl

abbrev n_dfa_both : Nat := 46
theorem h_dfa_both : Tryd.prog.funcs[46]? = some Tryd.f46 := Tryd.func46
def c_dfa_both : AC :=
  Q [.reg [bx 2 0, bx 3 1, mv 4 (.nilfn)] [2, 3],
  .reg [o1 5 (.mkf (.func 72) [] [.t 2, .t 3]), m 4 5] [4],
  .ret]
theorem i_dfa_both : image Tryd.prog Tryd.f46 [[2, 3], [4]] 2 = some (c_dfa_both, [.t 4]) := by kernel_rfl

abbrev n_dfa_both_1 : Nat := 72
theorem h_dfa_both_1 : Tryd.prog.funcs[72]? = some Tryd.f72 := Tryd.func72
def c_dfa_both_1 : AC :=
  Q [.reg [bx 4 0, o1 6 (.alc [.int .i64 0, .int .i64 0])] [1, 2, 3, 4, 6],
  .regD [fa 7 2 0, l1 8 7, fa 9 4 0, l1 10 9, ia 11 8 10 1, l1 12 11, m 13 1, ia 14 12 13 1, l1 15 14, fa 16 3 0, l1 17 16, fa 18 4 1, l1 19 18, ia 20 17 19 1, l1 21 20, m 22 1, ia 23 21 22 1, l1 24 23, o1 25 (.bld [.int .i64 0, .int .i64 0] [(0, 1, (.t 15)), (1, 1, (.t 24))]), st 2 6 25] [2, 3, 6],
  .ret]
theorem i_dfa_both_1 : imageE Tryd.prog Tryd.f72 [2, 3] [36, 38, 63, 52, 74, 75, 87, 94, 93, 62, 117, 121, 118, 120, 122, 123, 119, 78, 51, 81, 86, 49, 80, 85, 91, 56, 58, 64, 65, 67, 34, 33, 35, 70, 71, 45, 68, 46, 72, 69, 73] [[1, 2, 3, 4, 6], [0, 0, 1, 0, 4, 15, 31, 0, 127, 255, 0, 512, 0, 2048, 7680, 15872, 0, 65024, 130560, 262143, 524287], [0, 1, 2, 3, 4, 5, 6, 7, 8, 9, 10, 11, 12, 13, 14, 15, 16, 17, 18, 19], [2, 3, 6]] 4 = some (c_dfa_both_1, [.c 6 2 true]) := by kernel_rfl

abbrev n_dfa_search_1 : Nat := 69
theorem h_dfa_search_1 : Tryd.prog.funcs[69]? = some Tryd.f69 := Tryd.func69
def c_dfa_search_1 : AC :=
  Q [.reg [bx 4 0, mb 5 false] [1, 2, 3, 4],
  .regD [l1 6 1, fa 7 2 1, l1 8 7, fa 9 4 0, l1 10 9, ia 11 8 10 1, l1 12 11, fa 13 3 1, l1 14 13, fa 15 4 1, l1 16 15, ia 17 14 16 1, l1 18 17, cv 19 6 [12, 18], m 5 19] [1, 2, 3, 5],
  .ret]
theorem i_dfa_search_1 : imageE Tryd.prog Tryd.f69 [1, 2, 3] [36, 38, 63, 52, 74, 75, 87, 94, 93, 62, 117, 121, 118, 120, 122, 123, 119, 78, 51, 81, 86, 49, 80, 85, 91, 56, 58, 64, 65, 67, 34, 33, 35, 70, 71, 45, 68, 46, 72, 69, 73] [[1, 2, 3, 4], [0, 0, 0, 2, 0, 8, 30, 62, 0, 128, 0, 512, 1920, 3968, 8191, 16383], [0, 1, 2, 3, 4, 5, 6, 7, 8, 9, 10, 11, 12, 13, 14], [1, 2, 3, 5]] 4 = some (c_dfa_search_1, [.t 5]) := by kernel_rfl

abbrev n_slices_ReverseIIbyte_byte : Nat := 73
theorem h_slices_ReverseIIbyte_byte : Tryd.prog.funcs[73]? = some Tryd.f73 := Tryd.func73
def c_slices_ReverseIIbyte_byte : AC :=
  Q [.reg [m 4 0, lq 5 4, bi 6 .sub 5 1, mi 2 0, m 3 6] [0, 2, 3],
  .block 0 (.loop [0, 2, 3] (Q [Q [.reg [m 7 2, m 8 3, bt 9 .lss 7 8] [0, 2, 3, 9],
      C 9 (.skip) (.exit 0)],
     .block 1 (.regD [m 14 0, m 15 2, m 16 0, m 17 3, m 18 0, m 19 3, ia 20 18 19 1, l1 21 20, m 22 0, m 23 2, ia 24 22 23 1, l1 25 24, ia 26 14 15 1, st 1 26 21, ia 27 16 17 1, st 1 27 25] [0, 2, 3]),
     .reg [m 10 2, bi 11 .add 10 1, m 12 3, bi 13 .sub 12 1, m 2 11, m 3 13] [0, 2, 3]]))]
theorem i_slices_ReverseIIbyte_byte : imageE Tryd.prog Tryd.f73 [0] [36, 38, 63, 52, 74, 75, 87, 94, 93, 62, 117, 121, 118, 120, 122, 123, 119, 78, 51, 81, 86, 49, 80, 85, 91, 56, 58, 64, 65, 67, 34, 33, 35, 70, 71, 45, 68, 46, 72, 69, 73] [[0, 2, 3], [0, 2, 3], [0, 2, 3, 9], [0, 0, 0, 0, 0, 0, 0, 48, 112, 0, 0, 768, 1792, 4083, 8179, 16383, 32767], [0, 1, 2, 3, 4, 5, 6, 7, 8, 9, 10, 11, 12, 13, 14, 15], [0, 2, 3], [0, 2, 3]] 1 = some (c_slices_ReverseIIbyte_byte, []) := by kernel_rfl

end Go.Abs
