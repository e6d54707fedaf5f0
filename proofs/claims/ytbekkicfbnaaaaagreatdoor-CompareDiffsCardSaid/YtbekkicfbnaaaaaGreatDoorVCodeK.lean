/- The images of some of the program's functions. No condition. -/
import Derived.Test.YtbekkicfbnaaaaaGreatDoorVCodeH
set_option linter.all false
set_option maxRecDepth 100000
namespace Go.Abs
open Go.Proofs
abbrev ty_hedge_together : Nat := 116
abbrev ty_hedge_step : Nat := 161
abbrev ty_phedge_queue : Nat := 212
attribute [simp] ty_hedge_step ty_hedge_together ty_phedge_queue
abbrev n_hedge_Common : Nat := 44
def i_hedge_Common:=ymI Tryz.func44 2
abbrev n_hedge_Not : Nat := 46
def c_hedge_Not : AC :=
  Q [.reg [bx 1 0,o1 2 (.alc [.int .i64 0,.nil 2,.nil 1,.nil 1])] [1,2],
  .regF (OQ [fa 10 1 2,la 11 10 2] (.both
     (OQ [fa 8 1 0] (.both
       (OQ [l1 9 8] (.both
         (OQ [ch 12 70 [11],o1 13 (.bld [.int .i64 0,.nil 2,.nil 1,.nil 1] [(0,1,(.t 9)),(2,2,(.t 12))]),o1 3 (.alc [.int .i64 0,.nil 2,.nil 1,.nil 1]),st 4 3 13] .nil)
         (OQ [o1 3 (.alc [.int .i64 0,.nil 2,.nil 1,.nil 1]),ch 12 70 [11],o1 13 (.bld [.int .i64 0,.nil 2,.nil 1,.nil 1] [(0,1,(.t 9)),(2,2,(.t 12))]),st 4 3 13] .nil)))
       ((.both
         (OQ [ch 12 70 [11],l1 9 8,o1 13 (.bld [.int .i64 0,.nil 2,.nil 1,.nil 1] [(0,1,(.t 9)),(2,2,(.t 12))]),o1 3 (.alc [.int .i64 0,.nil 2,.nil 1,.nil 1]),st 4 3 13] .nil)
         (OQ [o1 3 (.alc [.int .i64 0,.nil 2,.nil 1,.nil 1])] (.both
           (OQ [l1 9 8,ch 12 70 [11],o1 13 (.bld [.int .i64 0,.nil 2,.nil 1,.nil 1] [(0,1,(.t 9)),(2,2,(.t 12))]),st 4 3 13] .nil)
           (OQ [ch 12 70 [11],l1 9 8,o1 13 (.bld [.int .i64 0,.nil 2,.nil 1,.nil 1] [(0,1,(.t 9)),(2,2,(.t 12))]),st 4 3 13] .nil)))))))
     ((.both
       (OQ [ch 12 70 [11],fa 8 1 0,l1 9 8,o1 13 (.bld [.int .i64 0,.nil 2,.nil 1,.nil 1] [(0,1,(.t 9)),(2,2,(.t 12))]),o1 3 (.alc [.int .i64 0,.nil 2,.nil 1,.nil 1]),st 4 3 13] .nil)
       (OQ [o1 3 (.alc [.int .i64 0,.nil 2,.nil 1,.nil 1])] (.both
         (OQ [fa 8 1 0] (.both
           (OQ [l1 9 8,ch 12 70 [11],o1 13 (.bld [.int .i64 0,.nil 2,.nil 1,.nil 1] [(0,1,(.t 9)),(2,2,(.t 12))]),st 4 3 13] .nil)
           (OQ [ch 12 70 [11],l1 9 8,o1 13 (.bld [.int .i64 0,.nil 2,.nil 1,.nil 1] [(0,1,(.t 9)),(2,2,(.t 12))]),st 4 3 13] .nil)))
         (OQ [ch 12 70 [11],fa 8 1 0,l1 9 8,o1 13 (.bld [.int .i64 0,.nil 2,.nil 1,.nil 1] [(0,1,(.t 9)),(2,2,(.t 12))]),st 4 3 13] .nil))))))) [1,2,3],
  Q [.reg [fa 14 1 1,l1 15 14,lq 16 15,mi 17 0] [2,3,15,16,17],
   .block 0 (.loop [2,3,15,16,17] (Q [.reg [bt 18 .lss 17 16] [2,3,15,16,17,18],
      C 18 (.skip) (.exit 0),
      .block 1 (Q [.reg [ia 19 15 17 2,la 20 19 2,o1 5 (.alc [.nil 1,.nil 1]),st 2 5 20] [2,3,5,15,16,17],
        .regF (OQ [la 23 5 2] (.both
           (OQ [fa 21 3 1] (.both
             (OQ [l1 22 21,ch 24 70 [23],o1 25 (.ltr 87 2 [.t 24]),o1 26 (.app (.t 22) (.t 25) 87 2 48),fa 27 3 1,st 1 27 26] .nil)
             (OQ [ch 24 70 [23]] (.both
               (OQ [l1 22 21,o1 25 (.ltr 87 2 [.t 24]),o1 26 (.app (.t 22) (.t 25) 87 2 48),fa 27 3 1,st 1 27 26] .nil)
               (OQ [o1 25 (.ltr 87 2 [.t 24]),l1 22 21,o1 26 (.app (.t 22) (.t 25) 87 2 48),fa 27 3 1,st 1 27 26] .nil)))))
           (OQ [ch 24 70 [23]] (.both
             (OQ [fa 21 3 1] (.both
               (OQ [l1 22 21,o1 25 (.ltr 87 2 [.t 24]),o1 26 (.app (.t 22) (.t 25) 87 2 48),fa 27 3 1,st 1 27 26] .nil)
               (OQ [o1 25 (.ltr 87 2 [.t 24]),l1 22 21,o1 26 (.app (.t 22) (.t 25) 87 2 48),fa 27 3 1,st 1 27 26] .nil)))
             (OQ [o1 25 (.ltr 87 2 [.t 24]),fa 21 3 1,l1 22 21,o1 26 (.app (.t 22) (.t 25) 87 2 48),fa 27 3 1,st 1 27 26] .nil))))) [2,3,15,16,17]]),
      .reg [bi 28 .add 17 1,m 17 28] [2,3,15,16,17]]))],
  Q [.reg [fa 29 3 2,fa 30 29 1,l1 31 30,lq 32 31,mi 33 0] [2,3,31,32,33],
   .block 2 (.loop [2,3,31,32,33] (Q [.reg [bt 34 .lss 33 32] [2,3,31,32,33,34],
      C 34 (.skip) (.exit 2),
      .block 3 (Q [.reg [m 35 33,ia 36 31 33 1,l1 37 36,m 6 35,m 7 37] [2,3,6,7,31,32,33],
        .reg [m 38 7] [2,3,6,31,32,33,38],
        .block 4 (Q [.reg [bi 40 .eql 38 0,m 39 40] [2,3,6,31,32,33,38,39],
          C 39 (.reg [fa 41 3 2,fa 42 41 1,l1 43 42,m 44 6,ia 45 43 44 1,o0 (.st 1 (.t 45) (.v (.int .i64 1)))] [2,3,31,32,33]) (Q [.reg [bi 47 .eql 38 1,m 46 47] [2,3,6,31,32,33,46],
            C 46 (.reg [fa 48 3 2,fa 49 48 1,l1 50 49,m 51 6,ia 52 50 51 1,o0 (.st 1 (.t 52) (.v (.int .i64 0)))] [2,3,31,32,33]) (.skip)])])]),
      .reg [bi 53 .add 33 1,m 33 53] [2,3,31,32,33]]))],
  .reg [la 54 3 4,st 4 2 54] [2],
  .ret]
theorem i_hedge_Not : ay Tryz.prog Tryz.f46 [] [70,2000087] [[1,2],[1,0,1,0,4,12,31,0,127],[1,2,3],[2,3,15,16,17],[2,3,15,16,17],[2,3,15,16,17,18],[2,3,5,15,16,17],[1,0,1,0,4,12,31,63,127],[2,3,15,16,17],[2,3,15,16,17],[2,3,31,32,33],[2,3,31,32,33],[2,3,31,32,33,34],[2,3,6,7,31,32,33],[2,3,6,31,32,33,38],[2,3,6,31,32,33,38,39],[2,3,31,32,33],[2,3,6,31,32,33,46],[2,3,31,32,33],[2,3,31,32,33],[2]] 1 = some (c_hedge_Not,[.c 2 4 true]) := by kernel_rfl
abbrev n_hedge_sound : Nat := 66
def i_hedge_sound:=ymI Tryz.func66 1
abbrev n_hedge_least : Nat := 67
def i_hedge_least:=ymE Tryz.func67 [] [101] 1
abbrev n_hedge_clone : Nat := 70
def c_hedge_clone : AC :=
  Q [.reg [bx 1 0,o1 2 (.alc [.nil 1,.nil 1])] [1,2],
  .reg [fa 6 1 1,l1 7 6,ch 8 110 [7],o1 9 (.bld [.nil 1,.nil 1] [(1,1,(.t 8))]),o1 3 (.alc [.nil 1,.nil 1]),st 2 3 9] [1,2,3],
  Q [.reg [fa 10 1 0,l1 11 10,lq 12 11,mi 13 0] [2,3,11,12,13],
   .block 0 (.loop [2,3,11,12,13] (Q [.reg [bt 14 .lss 13 12] [2,3,11,12,13,14],
      C 14 (.skip) (.exit 0),
      .block 1 (Q [.reg [ia 15 11 13 1,l1 16 15,m 5 16] [2,3,5,11,12,13],
        .regF (OQ [m 19 5] (.both
           (OQ [fa 17 3 0] (.both
             (OQ [l1 18 17,ch 20 110 [19],o1 21 (.ltr 54 1 [.t 20]),o1 22 (.app (.t 18) (.t 21) 54 1 24),fa 23 3 0,st 1 23 22] .nil)
             (OQ [ch 20 110 [19]] (.both
               (OQ [l1 18 17,o1 21 (.ltr 54 1 [.t 20]),o1 22 (.app (.t 18) (.t 21) 54 1 24),fa 23 3 0,st 1 23 22] .nil)
               (OQ [o1 21 (.ltr 54 1 [.t 20]),l1 18 17,o1 22 (.app (.t 18) (.t 21) 54 1 24),fa 23 3 0,st 1 23 22] .nil)))))
           (OQ [ch 20 110 [19]] (.both
             (OQ [fa 17 3 0] (.both
               (OQ [l1 18 17,o1 21 (.ltr 54 1 [.t 20]),o1 22 (.app (.t 18) (.t 21) 54 1 24),fa 23 3 0,st 1 23 22] .nil)
               (OQ [o1 21 (.ltr 54 1 [.t 20]),l1 18 17,o1 22 (.app (.t 18) (.t 21) 54 1 24),fa 23 3 0,st 1 23 22] .nil)))
             (OQ [o1 21 (.ltr 54 1 [.t 20]),fa 17 3 0,l1 18 17,o1 22 (.app (.t 18) (.t 21) 54 1 24),fa 23 3 0,st 1 23 22] .nil))))) [2,3,11,12,13]]),
      .reg [bi 24 .add 13 1,m 13 24] [2,3,11,12,13]]))],
  .reg [la 25 3 2,st 2 2 25] [2],
  .ret]
theorem i_hedge_clone : ay Tryz.prog Tryz.f70 [] [110,2000054] [[1,2],[1,2,3],[2,3,11,12,13],[2,3,11,12,13],[2,3,11,12,13,14],[2,3,5,11,12,13],[1,0,1,0,4,12,31,63,127],[2,3,11,12,13],[2,3,11,12,13],[2]] 1 = some (c_hedge_clone,[.c 2 2 true]) := by kernel_rfl
abbrev n_hedge_right : Nat := 100
def i_hedge_right:=ymI Tryz.func100 3
abbrev n_hedge_begin : Nat := 101
def c_hedge_begin : AC :=
  Q [.reg [mv 4 (.nilptr)] [0,1],
  .reg [m 7 0,o1 8 (.mkp ⟨true,[.i .i64,.i .i64]⟩),m 9 1,o1 10 (.mkm 54 24 3 1 (.t 9)),o1 11 (.mkp ⟨false,[.i .i64]⟩),o1 12 (.bld [.niliface,.nil 5,.junk,.nil 1,.nil 1,.junk] [(0,1,(.t 7)),(2,1,(.t 8)),(3,1,(.t 10)),(5,1,(.t 11))]),bx 13 12,m 5 13] [1,5],
  Q [.reg [m 14 1,mi 15 0] [5,14,15],
   .block 0 (.loop [5,14,15] (Q [.reg [bt 16 .lss 15 14] [5,14,15,16],
      C 16 (.skip) (.exit 0),
      .block 1 (Q [.reg [m 17 15,m 6 17] [5,6,14,15],
        .reg [m 18 5,m 19 6,o1 20 (.bld [.int .i64 0,.int .i64 0] [(0,1,(.t 19)),(1,1,(.v (.int .i64 0)))]),o1 21 (.bld [.int .i64 0,.int .i64 0,.int .i64 0,.int .i64 0,.int .i64 0] [(0,2,(.t 20)),(3,1,(.v (.int .i64 (-1)))),(4,1,(.v (.int .i64 (-1))))]),ca 22 132 [18,21]] [5,14,15]]),
      .reg [bi 23 .add 15 1,m 15 23] [5,14,15]]))],
  .reg [m 24 5,m 4 24] [4],
  .ret]
theorem i_hedge_begin : ay Tryz.prog Tryz.f101 [] [9999999] [[0,1],[1,5],[5,14,15],[5,14,15],[5,14,15,16],[5,6,14,15],[5,14,15],[5,14,15],[4]] 2 = some (c_hedge_begin,[.t 4]) := by kernel_rfl
abbrev n_phedge_finder_run : Nat := 102
def ot_run : OT :=
  (OQ [m 65 0,m 72 0,o1 73 (.nlc (.t 72)),fa 74 73 3,l1 75 74,fa 76 4 0,fa 77 76 0,l1 78 77,ia 79 75 78 1,l1 80 79,fa 81 4 0,fa 82 81 1,l1 83 82,o1 84 (.lit 3 1 [.t 83])] (.both
          (OQ [o1 66 (.nlc (.t 65))] (.both
            (OQ [fa 67 66 3] (.both
              (OQ [l1 68 67] (.both
                (OQ [fa 69 4 0] (.both
                  (OQ [fa 70 69 0] (.both
                    (OQ [l1 71 70,o1 85 (.app (.t 80) (.t 84) 3 1 8),ia 86 68 71 1,st 1 86 85] .nil)
                    (OQ [o1 85 (.app (.t 80) (.t 84) 3 1 8),l1 71 70,ia 86 68 71 1,st 1 86 85] .nil)))
                  (OQ [o1 85 (.app (.t 80) (.t 84) 3 1 8),fa 70 69 0,l1 71 70,ia 86 68 71 1,st 1 86 85] .nil)))
                (OQ [o1 85 (.app (.t 80) (.t 84) 3 1 8),fa 69 4 0,fa 70 69 0,l1 71 70,ia 86 68 71 1,st 1 86 85] .nil)))
              ((.both
                (OQ [fa 69 4 0] (.both
                  (OQ [l1 68 67] (.both
                    (OQ [fa 70 69 0] (.both
                      (OQ [l1 71 70,o1 85 (.app (.t 80) (.t 84) 3 1 8),ia 86 68 71 1,st 1 86 85] .nil)
                      (OQ [o1 85 (.app (.t 80) (.t 84) 3 1 8),l1 71 70,ia 86 68 71 1,st 1 86 85] .nil)))
                    (OQ [o1 85 (.app (.t 80) (.t 84) 3 1 8),fa 70 69 0,l1 71 70,ia 86 68 71 1,st 1 86 85] .nil)))
                  ((.both
                    (OQ [fa 70 69 0] (.both
                      (OQ [l1 68 67] (.both
                        (OQ [l1 71 70,o1 85 (.app (.t 80) (.t 84) 3 1 8),ia 86 68 71 1,st 1 86 85] .nil)
                        (OQ [o1 85 (.app (.t 80) (.t 84) 3 1 8),l1 71 70,ia 86 68 71 1,st 1 86 85] .nil)))
                      ((.both
                        (OQ [l1 71 70] (.both
                          (OQ [l1 68 67,o1 85 (.app (.t 80) (.t 84) 3 1 8),ia 86 68 71 1,st 1 86 85] .nil)
                          (OQ [o1 85 (.app (.t 80) (.t 84) 3 1 8),l1 68 67,ia 86 68 71 1,st 1 86 85] .nil)))
                        (OQ [o1 85 (.app (.t 80) (.t 84) 3 1 8),l1 68 67,l1 71 70,ia 86 68 71 1,st 1 86 85] .nil)))))
                    (OQ [o1 85 (.app (.t 80) (.t 84) 3 1 8),l1 68 67,fa 70 69 0,l1 71 70,ia 86 68 71 1,st 1 86 85] .nil)))))
                (OQ [o1 85 (.app (.t 80) (.t 84) 3 1 8),l1 68 67,fa 69 4 0,fa 70 69 0,l1 71 70,ia 86 68 71 1,st 1 86 85] .nil)))))
            ((.both
              (OQ [fa 69 4 0] (.both
                (OQ [fa 67 66 3] (.both
                  (OQ [l1 68 67] (.both
                    (OQ [fa 70 69 0] (.both
                      (OQ [l1 71 70,o1 85 (.app (.t 80) (.t 84) 3 1 8),ia 86 68 71 1,st 1 86 85] .nil)
                      (OQ [o1 85 (.app (.t 80) (.t 84) 3 1 8),l1 71 70,ia 86 68 71 1,st 1 86 85] .nil)))
                    (OQ [o1 85 (.app (.t 80) (.t 84) 3 1 8),fa 70 69 0,l1 71 70,ia 86 68 71 1,st 1 86 85] .nil)))
                  ((.both
                    (OQ [fa 70 69 0] (.both
                      (OQ [l1 68 67] (.both
                        (OQ [l1 71 70,o1 85 (.app (.t 80) (.t 84) 3 1 8),ia 86 68 71 1,st 1 86 85] .nil)
                        (OQ [o1 85 (.app (.t 80) (.t 84) 3 1 8),l1 71 70,ia 86 68 71 1,st 1 86 85] .nil)))
                      ((.both
                        (OQ [l1 71 70] (.both
                          (OQ [l1 68 67,o1 85 (.app (.t 80) (.t 84) 3 1 8),ia 86 68 71 1,st 1 86 85] .nil)
                          (OQ [o1 85 (.app (.t 80) (.t 84) 3 1 8),l1 68 67,ia 86 68 71 1,st 1 86 85] .nil)))
                        (OQ [o1 85 (.app (.t 80) (.t 84) 3 1 8),l1 68 67,l1 71 70,ia 86 68 71 1,st 1 86 85] .nil)))))
                    (OQ [o1 85 (.app (.t 80) (.t 84) 3 1 8),l1 68 67,fa 70 69 0,l1 71 70,ia 86 68 71 1,st 1 86 85] .nil)))))
                ((.both
                  (OQ [fa 70 69 0] (.both
                    (OQ [fa 67 66 3] (.both
                      (OQ [l1 68 67] (.both
                        (OQ [l1 71 70,o1 85 (.app (.t 80) (.t 84) 3 1 8),ia 86 68 71 1,st 1 86 85] .nil)
                        (OQ [o1 85 (.app (.t 80) (.t 84) 3 1 8),l1 71 70,ia 86 68 71 1,st 1 86 85] .nil)))
                      ((.both
                        (OQ [l1 71 70] (.both
                          (OQ [l1 68 67,o1 85 (.app (.t 80) (.t 84) 3 1 8),ia 86 68 71 1,st 1 86 85] .nil)
                          (OQ [o1 85 (.app (.t 80) (.t 84) 3 1 8),l1 68 67,ia 86 68 71 1,st 1 86 85] .nil)))
                        (OQ [o1 85 (.app (.t 80) (.t 84) 3 1 8),l1 68 67,l1 71 70,ia 86 68 71 1,st 1 86 85] .nil)))))
                    ((.both
                      (OQ [l1 71 70] (.both
                        (OQ [fa 67 66 3] (.both
                          (OQ [l1 68 67,o1 85 (.app (.t 80) (.t 84) 3 1 8),ia 86 68 71 1,st 1 86 85] .nil)
                          (OQ [o1 85 (.app (.t 80) (.t 84) 3 1 8),l1 68 67,ia 86 68 71 1,st 1 86 85] .nil)))
                        (OQ [o1 85 (.app (.t 80) (.t 84) 3 1 8),fa 67 66 3,l1 68 67,ia 86 68 71 1,st 1 86 85] .nil)))
                      (OQ [o1 85 (.app (.t 80) (.t 84) 3 1 8),fa 67 66 3,l1 68 67,l1 71 70,ia 86 68 71 1,st 1 86 85] .nil)))))
                  (OQ [o1 85 (.app (.t 80) (.t 84) 3 1 8),fa 67 66 3,l1 68 67,fa 70 69 0,l1 71 70,ia 86 68 71 1,st 1 86 85] .nil)))))
              (OQ [o1 85 (.app (.t 80) (.t 84) 3 1 8),fa 67 66 3,l1 68 67,fa 69 4 0,fa 70 69 0,l1 71 70,ia 86 68 71 1,st 1 86 85] .nil)))))
          ((.both
            (OQ [fa 69 4 0] (.both
              (OQ [o1 66 (.nlc (.t 65))] (.both
                (OQ [fa 67 66 3] (.both
                  (OQ [l1 68 67] (.both
                    (OQ [fa 70 69 0] (.both
                      (OQ [l1 71 70,o1 85 (.app (.t 80) (.t 84) 3 1 8),ia 86 68 71 1,st 1 86 85] .nil)
                      (OQ [o1 85 (.app (.t 80) (.t 84) 3 1 8),l1 71 70,ia 86 68 71 1,st 1 86 85] .nil)))
                    (OQ [o1 85 (.app (.t 80) (.t 84) 3 1 8),fa 70 69 0,l1 71 70,ia 86 68 71 1,st 1 86 85] .nil)))
                  ((.both
                    (OQ [fa 70 69 0] (.both
                      (OQ [l1 68 67] (.both
                        (OQ [l1 71 70,o1 85 (.app (.t 80) (.t 84) 3 1 8),ia 86 68 71 1,st 1 86 85] .nil)
                        (OQ [o1 85 (.app (.t 80) (.t 84) 3 1 8),l1 71 70,ia 86 68 71 1,st 1 86 85] .nil)))
                      ((.both
                        (OQ [l1 71 70] (.both
                          (OQ [l1 68 67,o1 85 (.app (.t 80) (.t 84) 3 1 8),ia 86 68 71 1,st 1 86 85] .nil)
                          (OQ [o1 85 (.app (.t 80) (.t 84) 3 1 8),l1 68 67,ia 86 68 71 1,st 1 86 85] .nil)))
                        (OQ [o1 85 (.app (.t 80) (.t 84) 3 1 8),l1 68 67,l1 71 70,ia 86 68 71 1,st 1 86 85] .nil)))))
                    (OQ [o1 85 (.app (.t 80) (.t 84) 3 1 8),l1 68 67,fa 70 69 0,l1 71 70,ia 86 68 71 1,st 1 86 85] .nil)))))
                ((.both
                  (OQ [fa 70 69 0] (.both
                    (OQ [fa 67 66 3] (.both
                      (OQ [l1 68 67] (.both
                        (OQ [l1 71 70,o1 85 (.app (.t 80) (.t 84) 3 1 8),ia 86 68 71 1,st 1 86 85] .nil)
                        (OQ [o1 85 (.app (.t 80) (.t 84) 3 1 8),l1 71 70,ia 86 68 71 1,st 1 86 85] .nil)))
                      ((.both
                        (OQ [l1 71 70] (.both
                          (OQ [l1 68 67,o1 85 (.app (.t 80) (.t 84) 3 1 8),ia 86 68 71 1,st 1 86 85] .nil)
                          (OQ [o1 85 (.app (.t 80) (.t 84) 3 1 8),l1 68 67,ia 86 68 71 1,st 1 86 85] .nil)))
                        (OQ [o1 85 (.app (.t 80) (.t 84) 3 1 8),l1 68 67,l1 71 70,ia 86 68 71 1,st 1 86 85] .nil)))))
                    ((.both
                      (OQ [l1 71 70] (.both
                        (OQ [fa 67 66 3] (.both
                          (OQ [l1 68 67,o1 85 (.app (.t 80) (.t 84) 3 1 8),ia 86 68 71 1,st 1 86 85] .nil)
                          (OQ [o1 85 (.app (.t 80) (.t 84) 3 1 8),l1 68 67,ia 86 68 71 1,st 1 86 85] .nil)))
                        (OQ [o1 85 (.app (.t 80) (.t 84) 3 1 8),fa 67 66 3,l1 68 67,ia 86 68 71 1,st 1 86 85] .nil)))
                      (OQ [o1 85 (.app (.t 80) (.t 84) 3 1 8),fa 67 66 3,l1 68 67,l1 71 70,ia 86 68 71 1,st 1 86 85] .nil)))))
                  (OQ [o1 85 (.app (.t 80) (.t 84) 3 1 8),fa 67 66 3,l1 68 67,fa 70 69 0,l1 71 70,ia 86 68 71 1,st 1 86 85] .nil)))))
              ((.both
                (OQ [fa 70 69 0] (.both
                  (OQ [o1 66 (.nlc (.t 65))] (.both
                    (OQ [fa 67 66 3] (.both
                      (OQ [l1 68 67] (.both
                        (OQ [l1 71 70,o1 85 (.app (.t 80) (.t 84) 3 1 8),ia 86 68 71 1,st 1 86 85] .nil)
                        (OQ [o1 85 (.app (.t 80) (.t 84) 3 1 8),l1 71 70,ia 86 68 71 1,st 1 86 85] .nil)))
                      ((.both
                        (OQ [l1 71 70] (.both
                          (OQ [l1 68 67,o1 85 (.app (.t 80) (.t 84) 3 1 8),ia 86 68 71 1,st 1 86 85] .nil)
                          (OQ [o1 85 (.app (.t 80) (.t 84) 3 1 8),l1 68 67,ia 86 68 71 1,st 1 86 85] .nil)))
                        (OQ [o1 85 (.app (.t 80) (.t 84) 3 1 8),l1 68 67,l1 71 70,ia 86 68 71 1,st 1 86 85] .nil)))))
                    ((.both
                      (OQ [l1 71 70] (.both
                        (OQ [fa 67 66 3] (.both
                          (OQ [l1 68 67,o1 85 (.app (.t 80) (.t 84) 3 1 8),ia 86 68 71 1,st 1 86 85] .nil)
                          (OQ [o1 85 (.app (.t 80) (.t 84) 3 1 8),l1 68 67,ia 86 68 71 1,st 1 86 85] .nil)))
                        (OQ [o1 85 (.app (.t 80) (.t 84) 3 1 8),fa 67 66 3,l1 68 67,ia 86 68 71 1,st 1 86 85] .nil)))
                      (OQ [o1 85 (.app (.t 80) (.t 84) 3 1 8),fa 67 66 3,l1 68 67,l1 71 70,ia 86 68 71 1,st 1 86 85] .nil)))))
                  ((.both
                    (OQ [l1 71 70] (.both
                      (OQ [o1 66 (.nlc (.t 65))] (.both
                        (OQ [fa 67 66 3] (.both
                          (OQ [l1 68 67,o1 85 (.app (.t 80) (.t 84) 3 1 8),ia 86 68 71 1,st 1 86 85] .nil)
                          (OQ [o1 85 (.app (.t 80) (.t 84) 3 1 8),l1 68 67,ia 86 68 71 1,st 1 86 85] .nil)))
                        (OQ [o1 85 (.app (.t 80) (.t 84) 3 1 8),fa 67 66 3,l1 68 67,ia 86 68 71 1,st 1 86 85] .nil)))
                      (OQ [o1 85 (.app (.t 80) (.t 84) 3 1 8),o1 66 (.nlc (.t 65)),fa 67 66 3,l1 68 67,ia 86 68 71 1,st 1 86 85] .nil)))
                    (OQ [o1 85 (.app (.t 80) (.t 84) 3 1 8),o1 66 (.nlc (.t 65)),fa 67 66 3,l1 68 67,l1 71 70,ia 86 68 71 1,st 1 86 85] .nil)))))
                (OQ [o1 85 (.app (.t 80) (.t 84) 3 1 8),o1 66 (.nlc (.t 65)),fa 67 66 3,l1 68 67,fa 70 69 0,l1 71 70,ia 86 68 71 1,st 1 86 85] .nil)))))
            (OQ [o1 85 (.app (.t 80) (.t 84) 3 1 8),o1 66 (.nlc (.t 65)),fa 67 66 3,l1 68 67,fa 69 4 0,fa 70 69 0,l1 71 70,ia 86 68 71 1,st 1 86 85] .nil)))))
def ac_run2 : AC :=
  Q [.regF ot_run [0,2,4,5,6],
       Q [.reg [m 87 0,o1 88 (.nlc (.t 87)),fa 89 88 4,l1 90 89,lq 91 90,mi 92 0] [0,2,4,5,6,90,91,92],
        .block 2 (.loop [0,2,4,5,6,90,91,92] (Q [.reg [bt 93 .lss 92 91] [0,2,4,5,6,90,91,92,93],
           C 93 (.skip) (.exit 2),
           .block 3 (Q [.reg [ia 94 90 92 1,l1 95 94,m 8 95] [0,2,4,5,6,8,90,91,92],
             .reg [m 96 0,fa 97 4 0,la 98 97 2,m 99 8,ca 100 134 [96,98,99]] [0,2,4,5,6,90,91,92]]),
           .reg [bi 101 .add 92 1,m 92 101] [0,2,4,5,6,90,91,92]]))],
       .reg [m 103 0,o1 104 (.nlc (.t 103)),fa 105 104 5,l1 106 105,m 107 5,o1 108 (.lkp ⟨false,[.i .i64]⟩ (.strct [.int .i64 0,.int .i64 0,.int .i64 0]) true (.t 106) (.t 107)),m 102 108,ex 109 102 0,ex 110 102 1,o1 9 (.alc [.int .i64 0,.int .i64 0,.int .i64 0]),st 3 9 109,m 10 110] [0,2,4,5,6,10],
       .reg [m 111 6,nt' 112 111,m 113 112,gt 113 (m 114 10),gt 113 (nt' 115 114),pa 116 113 115] [0,2,4,5,116],
       C 116 (.regD [m 117 0,m 118 5,fa 119 4 0,la 120 119 2,fa 121 4 2,l1 122 121,o1 123 (.call 136 [.t 122,.v (.int .i64 1)]),o1 124 (.bld [.int .i64 0,.int .i64 0,.int .i64 0] [(0,2,(.t 120)),(2,1,(.t 123))]),ch 125 135 [117,118,124]] [0,2]) (.skip)]
def c_phedge_finder_run : AC :=
  Q [.reg [o1 2 (.alc [.int .i64 0,.int .i64 0,.int .i64 0,.int .i64 0,.int .i64 0]),mb 3 false] [0,2],
  .block 0 (.loop [0,2] (Q [Q [.reg [m 11 0,o1 12 (.nlc (.t 11)),fa 13 12 1,l1 14 13,lq 15 14,bi 16 .gtr 15 0] [0,2,16],
      C 16 (.skip) (.exit 0)],
     .block 1 (Q [.reg [m 17 0,o1 18 (.nlc (.t 17)),fa 19 18 1,o1 20 (.mki 212 (.t 19)),ca 21 133 [20],o1 22 (.tya 161 (.strct [.int .i64 0,.int .i64 0,.int .i64 0,.int .i64 0,.int .i64 0]) false (.t 21)),o1 4 (.alc [.int .i64 0,.int .i64 0,.int .i64 0,.int .i64 0,.int .i64 0]),st 5 4 22] [0,2,4],
       Q [.regD [m 23 0,o1 24 (.nlc (.t 23)),fa 25 24 2,l1 26 25,fa 27 4 0,la 28 27 2,o1 29 (.lkp ⟨true,[.i .i64,.i .i64]⟩ (.strct [.int .i64 0,.int .i64 0,.int .i64 0,.int .i64 0,.int .i64 0,.bool false]) false (.t 26) (.t 28)),fl 30 29 5] [0,2,4,30],
        C 30 (.exit 1) (.skip)],
       .regD [m 31 0,o1 32 (.nlc (.t 31)),fa 33 32 2,l1 34 33,fa 35 4 0,la 36 35 2,la 37 4 5,o1 38 (.bld [.int .i64 0,.int .i64 0,.int .i64 0,.int .i64 0,.int .i64 0,.bool false] [(0,5,(.t 37)),(5,1,(.v (.bool true)))]),o0 (.mup ⟨true,[.i .i64,.i .i64]⟩ (.t 34) (.t 36) (.t 38))] [0,2,4],
       .regD [m 39 0,o1 40 (.nlc (.t 39)),fa 41 40 0,l1 42 41,fa 43 4 0,fa 44 43 0,l1 45 44,fa 46 4 0,fa 47 46 1,l1 48 47,o1 49 (.inv [(116,262)] (.t 42) [.t 45,.t 48]),m 5 49] [0,2,4,5],
       .regF (OQ [m 53 0,o1 54 (.nlc (.t 53)),fa 55 54 0,l1 56 55] (.both
          (OQ [fa 50 4 0] (.both
            (OQ [fa 51 50 0] (.both
              (OQ [l1 52 51,o1 57 (.inv [(116,260)] (.t 56) []),bt 58 .eql 52 57,m 6 58] .nil)
              (OQ [o1 57 (.inv [(116,260)] (.t 56) []),l1 52 51,bt 58 .eql 52 57,m 6 58] .nil)))
            (OQ [o1 57 (.inv [(116,260)] (.t 56) []),fa 51 50 0,l1 52 51,bt 58 .eql 52 57,m 6 58] .nil)))
          (OQ [o1 57 (.inv [(116,260)] (.t 56) []),fa 50 4 0,fa 51 50 0,l1 52 51,bt 58 .eql 52 57,m 6 58] .nil))) [0,2,4,5,6],
       Q [.reg [m 59 6,m 60 59,gt 60 (m 61 5),gt 60 (bi 62 .eql 61 1),pa 63 60 62] [0,2,4,5,6,63],
        C 63 (Q [.reg [la 64 4 5,st 5 2 64,mb 3 true] [0,2,3],
          .ret]) (.skip)],
       ac_run2])])),
  .reg [o1 126 (.bld [.int .i64 0,.int .i64 0,.int .i64 0,.int .i64 0,.int .i64 0] []),st 5 2 126,mb 3 false] [0,2,3],
  .ret]
theorem i_phedge_finder_run : ay Tryz.prog Tryz.f102 [0] [135] [[0,2],[0,2],[0,2,16],[0,2,4],[0,0,1,3,7,0,16,63,127],[0,1,2,3,4,5,6,7],[0,2,4,30],[0,0,1,3,7,0,16,0,64,255],[0,1,2,3,4,5,6,7,8],[0,2,4],[0,0,1,3,7,0,16,48,0,128,384,1023,2047],[0,1,2,3,4,5,6,7,8,9,10,11],[0,2,4,5],[1,0,1,3,0,8,24,56,120,255,511],[0,2,4,5,6],[0,2,4,5,6,63],[0,2,3],[1,0,1,3,7,0,16,48,0,128,384,896,0,2048,6144,16256,32640,0,65536,196608,458752,1048448,2097151,4194303],[0,2,4,5,6],[0,2,4,5,6,90,91,92],[0,2,4,5,6,90,91,92],[0,2,4,5,6,90,91,92,93],[0,2,4,5,6,8,90,91,92],[0,2,4,5,6,90,91,92],[0,2,4,5,6,90,91,92],[0,2,4,5,6,10],[0,2,4,5,116],[0,0,0,0,4,0,16,48,124,255],[0,1,2,3,4,5,6,7,8],[0,2],[0,2,3]] 1 = some (c_phedge_finder_run,[.c 2 5 true,.t 3]) := by kernel_rfl
abbrev n_phedge_finder_path : Nat := 103
def c_phedge_finder_path : AC :=
  Q [.reg [mv 6 (.nil 2)] [0,1,2],
  .reg [mv 7 (.nil 2)] [0,1,2,7],
  .reg [m 10 0,o1 11 (.nlc (.t 10)),fa 12 11 2,l1 13 12,m 14 1,m 15 2,o1 16 (.bld [.int .i64 0,.int .i64 0] [(0,1,(.t 14)),(1,1,(.t 15))]),o1 17 (.lkp ⟨true,[.i .i64,.i .i64]⟩ (.strct [.int .i64 0,.int .i64 0,.int .i64 0,.int .i64 0,.int .i64 0,.bool false]) false (.t 13) (.t 16)),o1 8 (.alc [.int .i64 0,.int .i64 0,.int .i64 0,.int .i64 0,.int .i64 0,.bool false]),st 6 8 17] [0,1,7,8],
  .block 0 (.loop [0,1,7,8] (Q [Q [.reg [fa 18 8 0,fa 19 18 4,l1 20 19,bi 21 .geq 20 0] [0,1,7,8,21],
      C 21 (.skip) (.exit 0)],
     .block 1 (Q [.regD [m 22 0,o1 23 (.nlc (.t 22)),fa 24 23 5,l1 25 24,fa 26 8 0,fa 27 26 4,l1 28 27,o1 29 (.lkp ⟨false,[.i .i64]⟩ (.strct [.int .i64 0,.int .i64 0,.int .i64 0]) false (.t 25) (.t 28)),o1 9 (.alc [.int .i64 0,.int .i64 0,.int .i64 0]),st 3 9 29] [0,1,7,8,9],
       .regF (OQ [m 30 7,m 34 0,fa 35 9 0,fa 36 35 0,l1 37 36,fa 38 9 0,fa 39 38 1,l1 40 39] (.both
          (OQ [fa 31 9 0] (.both
            (OQ [fa 32 31 0] (.both
              (OQ [l1 33 32,ch 41 103 [34,37,40],o1 42 (.bld [.int .i64 0,.nil 2] [(0,1,(.t 33)),(1,1,(.t 41))]),o1 43 (.lit 123 2 [.t 42]),o1 44 (.app (.t 30) (.t 43) 123 2 32),m 7 44] .nil)
              (OQ [ch 41 103 [34,37,40],l1 33 32,o1 42 (.bld [.int .i64 0,.nil 2] [(0,1,(.t 33)),(1,1,(.t 41))]),o1 43 (.lit 123 2 [.t 42]),o1 44 (.app (.t 30) (.t 43) 123 2 32),m 7 44] .nil)))
            (OQ [ch 41 103 [34,37,40],fa 32 31 0,l1 33 32,o1 42 (.bld [.int .i64 0,.nil 2] [(0,1,(.t 33)),(1,1,(.t 41))]),o1 43 (.lit 123 2 [.t 42]),o1 44 (.app (.t 30) (.t 43) 123 2 32),m 7 44] .nil)))
          (OQ [ch 41 103 [34,37,40],fa 31 9 0,fa 32 31 0,l1 33 32,o1 42 (.bld [.int .i64 0,.nil 2] [(0,1,(.t 33)),(1,1,(.t 41))]),o1 43 (.lit 123 2 [.t 42]),o1 44 (.app (.t 30) (.t 43) 123 2 32),m 7 44] .nil))) [0,1,7,8],
       .regD [m 45 0,o1 46 (.nlc (.t 45)),fa 47 46 2,l1 48 47,m 49 1,fa 50 8 0,fa 51 50 3,l1 52 51,o1 53 (.bld [.int .i64 0,.int .i64 0] [(0,1,(.t 49)),(1,1,(.t 52))]),o1 54 (.lkp ⟨true,[.i .i64,.i .i64]⟩ (.strct [.int .i64 0,.int .i64 0,.int .i64 0,.int .i64 0,.int .i64 0,.bool false]) false (.t 48) (.t 53)),st 6 8 54] [0,1,7,8]])])),
  .reg [m 55 7,ch 56 137 [55]] [0,7],
  .reg [m 57 7,m 6 57] [0,6],
  .ret]
theorem i_phedge_finder_path : ay Tryz.prog Tryz.f103 [0] [103,137] [[0,1,2],[0,1,2,7],[0,1,7,8],[0,1,7,8],[0,1,7,8,21],[0,0,1,3,7,0,16,48,127,0,511],[0,1,2,3,4,5,6,7,8,9],[0,1,7,8,9],[1,0,0,2,6,0,0,32,96,0,256,768,2032,4094,8190,16383,32767],[0,1,7,8],[0,0,1,3,7,0,0,32,96,240,511,1023],[0,1,2,3,4,5,6,7,8,9,10],[0,1,7,8],[0,7],[0,6]] 3 = some (c_phedge_finder_path,[.t 6]) := by kernel_rfl
abbrev n_slices_ReverseIIapi_Tree_api_Tree : Nat := 137
def i_slices_ReverseIIapi_Tree_api_Tree:=ymE Tryz.func137 [0] [] 1 [[0,0,0,0,0,0,0,48,112,0,0,768,1792,4083,8179,16383,32767],[0,1,2,3,4,5,6,7,8,9,10,11,12,13,14,15]]
abbrev n_phedge_finder_put : Nat := 132
def c_phedge_finder_put : AC :=
  Q [.reg [bx 3 1] [0,3],
  Q [.regD [m 7 0,o1 8 (.nlc (.t 7)),fa 9 8 2,l1 10 9,fa 11 3 0,la 12 11 2,o1 13 (.lkp ⟨true,[.i .i64,.i .i64]⟩ (.strct [.int .i64 0,.int .i64 0,.int .i64 0,.int .i64 0,.int .i64 0,.bool false]) true (.t 10) (.t 12)),m 6 13,ex 14 6 0,ex 15 6 1,o1 4 (.alc [.int .i64 0,.int .i64 0,.int .i64 0,.int .i64 0,.int .i64 0,.bool false]),st 6 4 14,m 5 15] [0,3,4,5],
   .reg [m 16 5,m 17 16,gt 17 (fa 18 4 5),gt 17 (l1 19 18),gt 17 (m 20 19),gf 20 (fa 21 4 0),gf 20 (fa 22 21 2),gf 20 (l1 23 22),gf 20 (fa 24 3 2),gf 20 (l1 25 24),gf 20 (bt 26 .leq 23 25),gt 17 (po 27 20 26),pa 28 17 27] [0,3,28],
   C 28 (.ret) (.skip)],
  .regD [m 29 0,o1 30 (.nlc (.t 29)),fa 31 30 2,l1 32 31,fa 33 3 0,la 34 33 2,la 35 3 5,o1 36 (.bld [.int .i64 0,.int .i64 0,.int .i64 0,.int .i64 0,.int .i64 0,.bool false] [(0,5,(.t 35))]),o0 (.mup ⟨true,[.i .i64,.i .i64]⟩ (.t 32) (.t 34) (.t 36))] [0,3],
  .regD [m 37 0,o1 38 (.nlc (.t 37)),fa 39 38 1,o1 40 (.mki 212 (.t 39)),la 41 3 5,o1 42 (.mki 161 (.t 41)),ch 43 174 [40,42]] [0]]
theorem i_phedge_finder_put : ay Tryz.prog Tryz.f132 [0] [174] [[0,3],[0,0,1,3,7,0,16,63,127,255,255,0,1535,4095],[0,1,2,3,4,5,6,7,8,9,10,11,12],[0,3,4,5],[0,3,28],[0,0,1,3,7,0,16,0,64,255],[0,1,2,3,4,5,6,7,8],[0,3],[0,0,1,3,7,0,16,63],[0,1,2,3,4,5,6],[0]] 2 = some (c_phedge_finder_put,[]) := by kernel_rfl
abbrev n_phedge_finder_goOn : Nat := 134
def c_phedge_finder_goOn : AC :=
  Q [.reg [bx 4 1] [0,2,4],
  .regD [m 8 0,o1 9 (.nlc (.t 8)),fa 10 9 2,l1 11 10,la 12 4 2,o1 13 (.lkp ⟨true,[.i .i64,.i .i64]⟩ (.strct [.int .i64 0,.int .i64 0,.int .i64 0,.int .i64 0,.int .i64 0,.bool false]) false (.t 11) (.t 12)),o1 14 (.fld (.t 13) 0 5 true),fl 15 14 2,m 16 0,o1 17 (.nlc (.t 16)),fa 18 17 5,l1 19 18,m 20 2,o1 21 (.lkp ⟨false,[.i .i64]⟩ (.strct [.int .i64 0,.int .i64 0,.int .i64 0]) false (.t 19) (.t 20)),fl 22 21 2,ca 23 136 [15,22],m 6 23] [0,2,4,6],
  .regD [m 24 0,o1 25 (.nlc (.t 24)),fa 26 25 0,l1 27 26,fa 28 4 0,l1 29 28,fa 30 4 1,l1 31 30,m 32 2,o1 33 (.inv [(116,261)] (.t 27) [.t 29,.t 31,.t 32]),m 7 33] [0,2,4,6,7],
  .reg [m 34 0,fa 35 4 0,l1 36 35,m 37 7,o1 38 (.bld [.int .i64 0,.int .i64 0] [(0,1,(.t 36)),(1,1,(.t 37))]),m 39 6,fa 40 4 1,l1 41 40,m 42 2,o1 43 (.bld [.int .i64 0,.int .i64 0,.int .i64 0,.int .i64 0,.int .i64 0] [(0,2,(.t 38)),(2,1,(.t 39)),(3,1,(.t 41)),(4,1,(.t 42))]),ca 44 132 [34,43]] [0]]
theorem i_phedge_finder_goOn : ay Tryz.prog Tryz.f134 [0] [] [[0,2,4],[0,0,1,3,7,0,31,63,127,0,256,768,1792,0,7936,16128,32767,65535],[0,1,2,3,4,5,6,7,8,9,10,11,12,13,14,15,16],[0,2,4,6],[0,0,1,3,7,0,16,0,64,0,511,1023],[0,1,2,3,4,5,6,7,8,9,10],[0,2,4,6,7],[0]] 3 = some (c_phedge_finder_goOn,[]) := by kernel_rfl
abbrev n_phedge_finder_tell : Nat := 135
def i_phedge_finder_tell:=ymE Tryz.func135 [0] [] 3 [[0,0,1,3,7,0,0,63],[0,1,2,3,4,5,6]]
abbrev n_hedge_add : Nat := 136
def i_hedge_add:=ymI Tryz.func136 2
abbrev n_container_heap_Pop : Nat := 133
def i_container_heap_Pop:=ymE Tryz.func133 [0] [] 1
abbrev n_container_heap_Push : Nat := 174
def i_container_heap_Push:=ymE Tryz.func174 [0] [] 2
abbrev n_container_heap_down : Nat := 175
def i_container_heap_down:=ymE Tryz.func175 [0] [] 3
abbrev n_container_heap_up : Nat := 203
def i_container_heap_up:=ymE Tryz.func203 [0] [] 2
abbrev n_hedge_together_labels : Nat := 260
def i_hedge_together_labels:=ymI Tryz.func260 1
abbrev n_hedge_together_next : Nat := 261
def c_hedge_together_next : AC :=
  Q [.reg [bx 4 0,mi 8 0] [1,2,3,4],
  .regF (OQ [fa 12 4 0,la 13 12 4,m 14 1,ca 15 263 [13,14],fa 16 4 4,la 17 16 4,m 18 1,ca 19 263 [17,18]] (.both
     (OQ [o1 9 (.alc [.nil 1,.nil 1]),o1 10 (.alc [.nil 1,.nil 1]),st 2 9 15,st 2 10 19] .nil)
     (OQ [o1 10 (.alc [.nil 1,.nil 1]),o1 9 (.alc [.nil 1,.nil 1]),st 2 9 15,st 2 10 19] .nil))) [2,3,4,9,10],
  .reg [fa 20 10 1,l1 21 20,lq 22 21,m 11 22] [2,3,4,9,10,11],
  .regD [fa 23 9 0,l1 24 23,m 25 2,m 26 11,bt 27 .quo 25 26,ia 28 24 27 1,l1 29 28,m 30 3,fa 31 4 4,fa 32 31 0,l1 33 32,bt 34 .quo 30 33,ia 35 29 34 1,l1 36 35,m 37 11,bt 38 .mul 36 37,fa 39 10 0,l1 40 39,m 41 2,m 42 11,bt 43 .rem 41 42,ia 44 40 43 1,l1 45 44,m 46 3,fa 47 4 4,fa 48 47 0,l1 49 48,bt 50 .rem 46 49,ia 51 45 50 1,l1 52 51,bt 53 .add 38 52,m 8 53] [8],
  .ret]
theorem i_hedge_together_next : aj Tryz.prog Tryz.f261 [[1,2,3,4],[1,0,1,0,7,0,16,0,127,0,0,1023,2047],[2,3,4,9,10],[2,3,4,9,10,11],[0,0,1,0,0,12,31,63,0,0,256,768,1920,4095,8191,0,32767,0,65536,0,0,786432,2031616,4128768,0,0,16777216,50331648,125829120,268369920,536805376,1073741823,2147483647],[0,1,2,3,4,5,6,7,8,9,10,11,12,13,14,15,16,17,18,19,20,21,22,23,24,25,26,27,28,29,30,31],[8]] 4 = some (c_hedge_together_next,[.t 8]) := by kernel_rfl
abbrev n_hedge_together_out : Nat := 262
def c_hedge_together_out : AC :=
  Q [.reg [bx 3 0,mi 6 0] [1,2,3],
  .regF (OQ [fa 12 3 0,la 13 12 4,m 14 1,ca 15 263 [13,14],fa 16 3 4,la 17 16 4,m 18 1,ca 19 263 [17,18]] (.both
     (OQ [o1 7 (.alc [.nil 1,.nil 1]),o1 8 (.alc [.nil 1,.nil 1]),st 2 7 15,st 2 8 19] .nil)
     (OQ [o1 8 (.alc [.nil 1,.nil 1]),o1 7 (.alc [.nil 1,.nil 1]),st 2 7 15,st 2 8 19] .nil))) [1,2,3,7,8],
  .reg [fa 20 8 1,l1 21 20,lq 22 21,m 9 22] [1,2,3,7,8,9],
  .regD [fa 23 7 1,l1 24 23,m 25 2,m 26 9,bt 27 .quo 25 26,ia 28 24 27 1,l1 29 28,fa 30 8 1,l1 31 30,m 32 2,m 33 9,bt 34 .rem 32 33,ia 35 31 34 1,l1 36 35,m 10 29,m 11 36] [1,3,10,11],
  Q [.reg [m 37 1,la 38 3 8,ca 39 260 [38],bt 40 .eql 37 39] [3,10,11,40],
   C 40 (Q [.reg [m 41 10,m 42 11,bt 43 .mul 41 42,m 6 43] [6],
     .ret]) (.skip)],
  .reg [m 44 10,fa 45 3 4,fa 46 45 0,l1 47 46,bt 48 .mul 44 47,m 49 11,bt 50 .add 48 49,m 6 50] [6],
  .ret]
theorem i_hedge_together_out : aj Tryz.prog Tryz.f262 [[1,2,3],[1,0,1,0,7,0,16,0,127,0,0,1023,2047],[1,2,3,7,8],[1,2,3,7,8,9],[0,0,1,0,0,12,31,63,0,128,0,0,1536,3968,8064,127,32767],[0,1,2,3,4,5,6,7,8,9,10,11,12,13,14,15],[1,3,10,11],[3,10,11,40],[6],[6]] 3 = some (c_hedge_together_out,[.t 6]) := by kernel_rfl
abbrev n_hedge_side : Nat := 263
def i_hedge_side:=ymI Tryz.func263 2
abbrev n_hedge_queue_Len : Nat := 266
def i_hedge_queue_Len:=ymI Tryz.func266 1
abbrev n_hedge_queue_Less : Nat := 267
def c_hedge_queue_Less : AC :=
  Q [.reg [mb 6 false] [0,1,2],
  .regF (OQ [m 9 0,m 10 1,ia 11 9 10 5,la 12 11 5,m 13 0,m 14 2] (.both
     (OQ [ia 15 13 14 5] (.both
       (OQ [la 16 15 5] (.both
         (OQ [o1 7 (.alc [.int .i64 0,.int .i64 0,.int .i64 0,.int .i64 0,.int .i64 0]),o1 8 (.alc [.int .i64 0,.int .i64 0,.int .i64 0,.int .i64 0,.int .i64 0]),st 5 7 12,st 5 8 16] .nil)
         (OQ [o1 8 (.alc [.int .i64 0,.int .i64 0,.int .i64 0,.int .i64 0,.int .i64 0]),o1 7 (.alc [.int .i64 0,.int .i64 0,.int .i64 0,.int .i64 0,.int .i64 0]),st 5 7 12,st 5 8 16] .nil)))
       ((.both
         (OQ [o1 7 (.alc [.int .i64 0,.int .i64 0,.int .i64 0,.int .i64 0,.int .i64 0])] (.both
           (OQ [la 16 15 5,o1 8 (.alc [.int .i64 0,.int .i64 0,.int .i64 0,.int .i64 0,.int .i64 0]),st 5 7 12,st 5 8 16] .nil)
           (OQ [o1 8 (.alc [.int .i64 0,.int .i64 0,.int .i64 0,.int .i64 0,.int .i64 0])] (.both
             (OQ [la 16 15 5,st 5 7 12,st 5 8 16] .nil)
             (OQ [st 5 7 12,la 16 15 5,st 5 8 16] .nil)))))
         (OQ [o1 8 (.alc [.int .i64 0,.int .i64 0,.int .i64 0,.int .i64 0,.int .i64 0])] (.both
           (OQ [la 16 15 5,o1 7 (.alc [.int .i64 0,.int .i64 0,.int .i64 0,.int .i64 0,.int .i64 0]),st 5 7 12,st 5 8 16] .nil)
           (OQ [o1 7 (.alc [.int .i64 0,.int .i64 0,.int .i64 0,.int .i64 0,.int .i64 0])] (.both
             (OQ [la 16 15 5,st 5 7 12,st 5 8 16] .nil)
             (OQ [st 5 7 12,la 16 15 5,st 5 8 16] .nil)))))))))
     ((.both
       (OQ [o1 7 (.alc [.int .i64 0,.int .i64 0,.int .i64 0,.int .i64 0,.int .i64 0])] (.both
         (OQ [ia 15 13 14 5] (.both
           (OQ [la 16 15 5,o1 8 (.alc [.int .i64 0,.int .i64 0,.int .i64 0,.int .i64 0,.int .i64 0]),st 5 7 12,st 5 8 16] .nil)
           (OQ [o1 8 (.alc [.int .i64 0,.int .i64 0,.int .i64 0,.int .i64 0,.int .i64 0])] (.both
             (OQ [la 16 15 5,st 5 7 12,st 5 8 16] .nil)
             (OQ [st 5 7 12,la 16 15 5,st 5 8 16] .nil)))))
         (OQ [o1 8 (.alc [.int .i64 0,.int .i64 0,.int .i64 0,.int .i64 0,.int .i64 0])] (.both
           (OQ [ia 15 13 14 5] (.both
             (OQ [la 16 15 5,st 5 7 12,st 5 8 16] .nil)
             (OQ [st 5 7 12,la 16 15 5,st 5 8 16] .nil)))
           (OQ [st 5 7 12,ia 15 13 14 5,la 16 15 5,st 5 8 16] .nil)))))
       (OQ [o1 8 (.alc [.int .i64 0,.int .i64 0,.int .i64 0,.int .i64 0,.int .i64 0])] (.both
         (OQ [ia 15 13 14 5] (.both
           (OQ [la 16 15 5,o1 7 (.alc [.int .i64 0,.int .i64 0,.int .i64 0,.int .i64 0,.int .i64 0]),st 5 7 12,st 5 8 16] .nil)
           (OQ [o1 7 (.alc [.int .i64 0,.int .i64 0,.int .i64 0,.int .i64 0,.int .i64 0])] (.both
             (OQ [la 16 15 5,st 5 7 12,st 5 8 16] .nil)
             (OQ [st 5 7 12,la 16 15 5,st 5 8 16] .nil)))))
         (OQ [o1 7 (.alc [.int .i64 0,.int .i64 0,.int .i64 0,.int .i64 0,.int .i64 0])] (.both
           (OQ [ia 15 13 14 5] (.both
             (OQ [la 16 15 5,st 5 7 12,st 5 8 16] .nil)
             (OQ [st 5 7 12,la 16 15 5,st 5 8 16] .nil)))
           (OQ [st 5 7 12,ia 15 13 14 5,la 16 15 5,st 5 8 16] .nil))))))))) [7,8],
  .regD [fa 17 7 2,l1 18 17,fa 19 8 2,l1 20 19,ca 21 270 [18,20],fa 22 7 0,fa 23 22 0,l1 24 23,fa 25 8 0,fa 26 25 0,l1 27 26,ca 28 270 [24,27],fa 29 7 0,fa 30 29 1,l1 31 30,fa 32 8 0,fa 33 32 1,l1 34 33,ca 35 270 [31,34],fa 36 7 3,l1 37 36,fa 38 8 3,l1 39 38,ca 40 270 [37,39],fa 41 7 4,l1 42 41,fa 43 8 4,l1 44 43,ca 45 270 [42,44],o1 46 (.lit 3 1 [.t 21,.t 28,.t 35,.t 40,.t 45]),ca 47 269 [46],bi 48 .lss 47 0,m 6 48] [6],
  .ret]
theorem i_hedge_queue_Less : aj Tryz.prog Tryz.f267 [[0,1,2],[1,0,0,3,7,0,0,48,112,0,0,783,2047],[7,8],[0,0,1,0,4,15,0,32,96,0,256,768,2047,0,4096,12288,0,32768,98304,262143,0,524288,0,2097152,8388607,0,16777216,0,67108864,268435455,536870911,1073741823,2147483647,4294967295],[0,1,2,3,4,5,6,7,8,9,10,11,12,13,14,15,16,17,18,19,20,21,22,23,24,25,26,27,28,29,30,31,32],[6]] 3 = some (c_hedge_queue_Less,[.t 6]) := by kernel_rfl
abbrev n_hedge_queue_Swap : Nat := 268
def i_hedge_queue_Swap:=ymE Tryz.func268 [0] [] 3 [[0,0,0,0,0,0,0,48,112,0,0,768,1792,4083,8179,16383,32767],[0,1,2,3,4,5,6,7,8,9,10,11,12,13,14,15]]
abbrev n_cmp_OrIint : Nat := 269
def i_cmp_OrIint:=ymI Tryz.func269 1
abbrev Cq : Nat := 270
def CN:=ymI Tryz.func270 2
abbrev n_cmp_isNaNIintK : Nat := 234
def i_cmp_isNaNIintK:=ymI Tryz.func234 1
abbrev n_phedge_queue_Pop : Nat := 271
def i_phedge_queue_Pop:=ymE Tryz.func271 [0] [1000000] 1
abbrev n_phedge_queue_Push : Nat := 272
def i_phedge_queue_Push:=ymE Tryz.func272 [0] [] 2 [[0,0,0,2,6,0,16,48,126,255,511],[0,1,2,3,4,5,6,7,8,9]]
end Go.Abs
