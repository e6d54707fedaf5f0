/-
  What the first functions of the document's packages answer. No condition.
  What the next functions of the document's packages answer: constraints. No condition.
  What strainerref12.Good answers: a constraint that may be. No condition.
  What the library's functions that guard calls answer: indexes, prefixes, cuts. No condition.
  What package lang makes of constraints: expressions. No condition.
-/
import Derived.Test.YtkeanhihgfnkoaaGreatDoorXCodeA
import Derived.Lib.Bytealg
import Derived.Test.YtkeanhihgfnkoaaGreatDoorXTh8
set_option linter.unusedVariables false
set_option linter.unusedSimpArgs false
set_option linter.unusedSectionVars false
section
set_option maxHeartbeats 4000000
set_option maxRecDepth 100000
namespace Go.Abs.F
open Go.Proofs
attribute [-simp] getElem?_pos
theorem mixed : Tryz.prog.follows .mixedOrders = true := by kernel_rfl
abbrev Str := List UInt8
def small (b : UInt8) : Bool := 97 ≤ b.toNat && b.toNat ≤ 122
def namedSign (b : UInt8) : Bool := small b || (48 ≤ b.toNat && b.toNat ≤ 57) || decide (b.toNat = 45)
def named : Str → Bool
 | [] => false
 | b :: s => small b && (b :: s).all namedSign
def plain (s : Str) : Bool := named s && s.length ≤ 16
structure Attr where
 name : Str
 value : Str
structure Constraint where
 kind : Int
 words : List Str
 regex : Str
structure Rule where
 name : Str
 value : Constraint
 req : Bool
structure Allowed where
 name : Str
 kids : List Str
 rules : List Rule
structure Policy where
 top : List Str
 elements : List Allowed
 unwrap : List Str
@[simp] def Attr.v (a : Attr) : V := .strct [.str a.name, .str a.value]
def Constraint.c (c : Constraint) : List V := [.int .i64 c.kind, .seq 1 (c.words.map .str), .str c.regex]
@[simp] def Constraint.v (c : Constraint) : V := .strct c.c
@[simp] def Rule.v (r : Rule) : V := .strct [.str r.name, .int .i64 r.value.kind, .seq 1 (r.value.words.map .str), .str r.value.regex, .bool r.req]
@[simp] def Allowed.v (a : Allowed) : V := .strct [.str a.name, .seq 1 (a.kids.map .str), .seq 5 (a.rules.map Rule.v)]
@[simp] def Policy.v (p : Policy) : V := .strct [.seq 1 (p.top.map .str), .seq 3 (p.elements.map Allowed.v), .seq 1 (p.unwrap.map .str)]
attribute [simp] Constraint.c
def Allowed.zero : Allowed := ⟨[], [], []⟩
def hasS : List Str → Str → Bool
 | [], _ => false
 | x :: l, s => if x = s then true else hasS l s
def sign (b : UInt8) : Bool := 32 ≤ b.toNat && b.toNat ≤ 126
theorem f_ref12_signs (s : Str) : Fn Tryz.prog n_ref12_signs [.str s] (.bool (s.all sign)) := by
 refine Fn.of_image mixed h_ref12_signs i_ref12_signs rfl fun ho => ?_
 unfold c_ref12_signs
 simp only [oks, ok, and_true] at ho
 simp (disch := omega) [-List.reduceReplicate, c_ref12_signs]
 generalize hr : s.all sign = r
 refine W_loop (fun k : Nat => ⟨[(0, .str s), (3, .int .i64 k)], []⟩) (fun k => k ≤ s.length ∧ (s.drop k).all sign = r) (fun k => s.length - k) [] _ 0 rfl (by simp [*]) (by simp [*]) ?_
 rintro k ⟨hk, hi⟩ N hN
 rcases place s k hk with ⟨he, hd⟩ | ⟨hlt, x, hx, hd⟩ <;> rw [hd] at hi <;> replace hi := hid hi
 · simp (disch := omega) [-List.reduceReplicate, he]
   simpa using hi.out
 · simp (disch := omega) [-List.reduceReplicate, hx]
   repeat' (first | (refine BrKd.mk (fun h => ?_) (fun h => ?_) <;> simp (disch := omega) [*]) | (refine BrK.mk (fun h => ?_) (fun h => ?_) <;> simp (disch := omega) [*]))
   all_goals first
    | (refine hN.out _ <| Nx.mk (k + 1) (by simp [*]) ⟨by omega, ?_⟩ (by omega); simpa (disch := omega) [*, decide_eq_true, decide_eq_false, sign] using hi.out)
    | (first | simpa (disch := omega) [*, decide_eq_true, decide_eq_false, sign] using hi.out.symm | simpa (disch := omega) [*, decide_eq_true, decide_eq_false, sign] using hi.out)
def scheme (s : Str) : Bool := s.all small && (1 ≤ s.length && s.length ≤ 16)
theorem f_ref12_scheme (s : Str) : Fn Tryz.prog n_ref12_scheme [.str s] (.bool (scheme s)) := by
 refine Fn.of_image mixed h_ref12_scheme i_ref12_scheme rfl fun ho => ?_
 unfold c_ref12_scheme
 simp only [oks, ok, and_true] at ho
 simp (disch := omega) [-List.reduceReplicate, c_ref12_scheme]
 generalize hr : scheme s = r
 refine W_loop (fun k : Nat => ⟨[(0, .str s), (3, .int .i64 k)], []⟩) (fun k => k ≤ s.length ∧ ((s.drop k).all small && (1 ≤ s.length && s.length ≤ 16)) = r) (fun k => s.length - k) [] _ 0 rfl (by simp [*]) (by simp [*, ← hr, scheme]) ?_
 rintro k ⟨hk, hi⟩ N hN
 rcases place s k hk with ⟨he, hd⟩ | ⟨hlt, x, hx, hd⟩ <;> rw [hd] at hi <;> replace hi := hid hi
 · simp (disch := omega) [-List.reduceReplicate, he]
   repeat' (first | (refine BrKd.mk (fun h => ?_) (fun h => ?_) <;> simp (disch := omega) [*]) | (refine BrK.mk (fun h => ?_) (fun h => ?_) <;> simp (disch := omega) [*]))
   all_goals (first | simpa (disch := omega) [*, decide_eq_true, decide_eq_false, ] using hi.out.symm | simpa (disch := omega) [*, decide_eq_true, decide_eq_false, ] using hi.out)
 · simp (disch := omega) [-List.reduceReplicate, hx]
   repeat' (first | (refine BrKd.mk (fun h => ?_) (fun h => ?_) <;> simp (disch := omega) [*]) | (refine BrK.mk (fun h => ?_) (fun h => ?_) <;> simp (disch := omega) [*]))
   all_goals first
    | (refine hN.out _ <| Nx.mk (k + 1) (by simp [*]) ⟨by omega, ?_⟩ (by omega); simpa (disch := omega) [*, decide_eq_true, decide_eq_false, small] using hi.out)
    | (first | simpa (disch := omega) [*, decide_eq_true, decide_eq_false, small] using hi.out.symm | simpa (disch := omega) [*, decide_eq_true, decide_eq_false, small] using hi.out)
end Go.Abs.F
end
section
set_option maxHeartbeats 4000000
set_option maxRecDepth 100000
namespace Go.Abs.F
open Go.Proofs
attribute [-simp] getElem?_pos
theorem take_snoc {α : Type} {l : List α} {k : Nat} {x : α} (h : l[k]? = some x) : l.take (k + 1) = l.take k ++ [x] := by rw [List.take_add_one, h]; rfl
theorem take_drop {α : Type} {l : List α} {k j : Nat} {x : α} (h : l[j]? = some x) (hj : j < k) : (l.take k).drop j = x :: (l.take k).drop (j + 1) :=
 drop_cons (by rw [List.getElem?_take, if_pos hj, h])
def wordOK (sch : Bool) (x : Str) : Bool := if sch then scheme x else (x.all sign && decide (x.length ≤ 40))
def wordsGo (sch : Bool) : List Str → List Str → Bool
 | _, [] => true
 | pre, x :: l => wordOK sch x && (!(hasS pre x) && wordsGo sch (pre ++ [x]) l)
def words (l : List Str) (sch : Bool) : Bool := wordsGo sch [] l && decide (l.length ≤ 8)
theorem f_ref12_words (l : List Str) (sch : Bool) : Fn Tryz.prog n_ref12_words [.seq 1 (l.map .str), .bool sch] (.bool (words l sch)) := by
 refine Fn.of_image mixed h_ref12_words i_ref12_words rfl fun ho => ?_
 unfold c_ref12_words
 simp only [oks, ok, and_true] at ho
 have hlen : l.length ≤ 140737488355328 := by have := ho.1; simpa using this
 simp (disch := omega) [-List.reduceReplicate, c_ref12_words]
 generalize hr : words l sch = r
 refine W_loop (fun k : Nat => ⟨[(0, .seq 1 (l.map .str)), (1, .bool sch), (5, .int .i64 k)], []⟩) (fun k => k ≤ l.length ∧ (wordsGo sch (l.take k) (l.drop k) && decide (l.length ≤ 8)) = r) (fun k => l.length - k) [] _ 0 rfl (by simp [*]) (by simp [*, ← hr, words]) ?_
 rintro k ⟨hk, hi⟩ N hN
 rcases place l k hk with ⟨he, hd⟩ | ⟨hlt, x, hx, hd⟩ <;> rw [hd] at hi <;> replace hi := hid hi
 · simp (disch := omega) [-List.reduceReplicate, he]
   simpa [wordsGo] using hi.out
 · rcases Bool.eq_false_or_eq_true sch with hsch | hsch
   all_goals
    simp (disch := omega) [-List.reduceReplicate, hx]
    repeat' (first | (refine BrKd.mk (fun h => ?_) (fun h => ?_) <;> simp (disch := omega) [*]) | (refine BrK.mk (fun h => ?_) (fun h => ?_) <;> simp (disch := omega) [*]) | (refine wcall_flat (f_ref12_scheme _) rfl (fun _ => ?_) <;> simp (disch := omega) [*]) | (refine wcallD_flat (f_ref12_scheme _) rfl ?_ <;> simp (disch := omega) [*]) | (refine wcall_flat (f_ref12_signs _) rfl (fun _ => ?_) <;> simp (disch := omega) [*]) | (refine wcallD_flat (f_ref12_signs _) rfl ?_ <;> simp (disch := omega) [*]))
    all_goals first
     | (first | simpa (disch := omega) [*, decide_eq_true, decide_eq_false, wordOK, wordsGo] using hi.out.symm | simpa (disch := omega) [*, decide_eq_true, decide_eq_false, wordOK, wordsGo] using hi.out)
     | (have hi := hi.out; simp (disch := omega) [wordOK, wordsGo, *, decide_eq_true, decide_eq_false] at hi; replace hi := hid hi
        refine W_loop (fun j : Nat => ⟨[(0, .seq 1 (l.map .str)), (1, .bool sch), (5, .int .i64 k), (8, .int .i64 j)], []⟩) (fun j => j ≤ k ∧ hasS (l.take k) x = hasS ((l.take k).drop j) x) (fun j => k - j) [] _ 0 rfl (by simp [*]) (by simp) ?_
        rintro j ⟨hj, hi2⟩ N2 hN2
        by_cases hlt2 : j < k
        · obtain ⟨y, hy⟩ := get_lt (l := l) (k := j) (by omega)
          rw [take_drop hy hlt2, hasS] at hi2; replace hi2 := hid hi2
          simp (disch := omega) [*]
          repeat' (first | (refine BrKd.mk (fun h => ?_) (fun h => ?_) <;> simp (disch := omega) [*]) | (refine BrK.mk (fun h => ?_) (fun h => ?_) <;> simp (disch := omega) [*]))
          all_goals first
           | (refine hN2.out _ <| Nx.mk (j + 1) (by simp [*]) ⟨by omega, ?_⟩ (by omega); rw [hi2.out, if_neg h])
           | (have hi2 := hi2.out; rw [if_pos h] at hi2; have hi := hi.out; simp [hi2] at hi; simp [hi])
        · have : (l.take k).drop j = [] := by simp; omega
          rw [this, hasS] at hi2
          have hi := hi.out; simp [hi2] at hi; replace hi := hid hi
          simp (disch := omega) [*]
          refine hN.out _ <| Nx.mk (k + 1) (by simp [*]) ⟨by omega, ?_⟩ (by omega)
          rw [take_snoc hx]; simpa [*] using hi.out)
end Go.Abs.F
end
section
set_option maxHeartbeats 4000000
set_option maxRecDepth 100000
namespace Go.Abs.F
open Go.Proofs
attribute [-simp] getElem?_pos
def sumB : Str → Nat
 | [] => 0
 | b :: s => b.toNat + sumB s
def pool12 : List Str := [[97, 42], [40, 97, 124, 98, 41, 43], [91, 48, 45, 57, 93, 43], [120, 46, 121], [91, 94, 97, 93, 42], [], [97, 124, 98, 98, 124, 99]]
def pickW (sch : Bool) : List Str → List Str → List Str
 | out, [] => out
 | out, w :: l => pickW sch (if words (out ++ [w]) sch then out ++ [w] else out) l
def kind12 (k : Int) : Int := 1 + (if k < 0 then -(k + 1) else k) % 4
def good12 (c : Constraint) : Constraint :=
 let k := kind12 c.kind
 if k = 4 then ⟨4, [], (pool12[sumB c.regex % 7]?).getD []⟩
 else
  let ws := if k = 1 then [] else pickW (decide (k = 3)) [] (c.words.take 4)
  ⟨k, if k = 2 ∧ ws = [] then [[120]] else ws, []⟩
theorem kind12_range (k : Int) : 1 ≤ kind12 k ∧ kind12 k ≤ 4 := by
 unfold kind12
 have h : 0 ≤ (if k < 0 then -(k + 1) else k) := by split <;> omega
 generalize (if k < 0 then -(k + 1) else k) = m at h
 omega
theorem pickW_len (sch : Bool) : ∀ (l out : List Str), (pickW sch out l).length ≤ out.length + l.length
 | [], out => by simp [pickW]
 | w :: l, out => by
   simp only [pickW]
   split
   · have := pickW_len sch l (out ++ [w]); simp at this ⊢; omega
   · have := pickW_len sch l out; simp at this ⊢; omega
theorem f_ref12_Good (c : Constraint) (hR : c.regex.length ≤ 1125899906842624) : Fn Tryz.prog n_ref12_Good [c.v] (good12 c).v := by
 refine Fn.of_image mixed h_ref12_Good i_ref12_Good rfl fun ho => ?_
 unfold c_ref12_Good
 simp only [oks, ok, and_true] at ho
 obtain ⟨kd, ws, rx⟩ := c
 simp at ho hR
 generalize hg : good12 ⟨kd, ws, rx⟩ = g
 have hrg := kind12_range kd
 have hgd : g = good12 ⟨kd, ws, rx⟩ := hg.symm
 simp only [good12] at hgd
 simp (disch := omega) [-List.reduceReplicate, c_ref12_Good]
 refine BrKd.mk (fun h => ?_) (fun h => ?_)
 all_goals
  first
   | (have e : 1 + -(kd + 1) % 4 = kind12 kd := by rw [kind12, if_pos h])
   | (have e : 1 + kd % 4 = kind12 kd := by rw [kind12, if_neg h])
  simp (disch := omega) [-List.reduceReplicate]
  rw [e]
  clear e
  generalize kind12 kd = q at *
  refine BrKd.mk (fun hq => ?_) (fun hq => ?_)
  · simp (disch := omega) [-List.reduceReplicate]
    refine W_loop (fun (p : Nat × Nat) => ⟨[(1, .ptr 0 0), (2, .ptr 1 0), (4, .ptr 2 0), (5, .seq 1 (pool12.map .str)), (6, .int .i64 p.2), (7, .int .i64 p.1)],
     [some (.box [.int .i64 kd, .seq 1 (ws.map .str), .str rx]), some (.box [.int .i64 0, .nil 1, .str []]), some (.box [.int .i64 q, .nil 1, .str []])]⟩)
     (fun p => p.1 ≤ rx.length ∧ p.2 ≤ 255 * p.1 ∧ p.2 + sumB (rx.drop p.1) = sumB rx) (fun p => rx.length - p.1) [] _ (0, 0) rfl (by simp [pool12]) (by simp) ?_
    rintro ⟨k, n⟩ ⟨hk, hn, hi⟩ N hN
    simp only at hk hn hi
    rcases place rx k hk with ⟨he, hd⟩ | ⟨hlt, x, hx, hd⟩ <;> rw [hd, sumB] at hi
    · have hm : n % 7 < 7 := Nat.mod_lt _ (by decide)
      have ht : ((n : Int) % 7).toNat = n % 7 := by omega
      obtain ⟨y, hy⟩ := get_lt (l := pool12) (k := n % 7) hm
      have hpl : pool12.length = 7 := rfl
      subst hq
      rw [if_pos rfl] at hgd
      simp only [Nat.add_zero] at hi
      simp (disch := omega) [-List.reduceReplicate, he, hpl, ht, hy]
      rw [hi] at hy
      simp [hgd, hy]
    · have hx8 := x.toNat_lt
      simp (disch := omega) [-List.reduceReplicate, hx]
      refine hN.out _ <| Nx.mk (k + 1, n + x.toNat) (by simp) ⟨by simp only; omega, by simp only; omega, by simp only; omega⟩ (by simp only; omega)
  · rw [if_neg hq] at hgd
    generalize hw : (if q = 1 then [] else pickW (decide (q = 3)) [] (List.take 4 ws)) = w at hgd
    have hl4 : (List.take 4 ws).length = min 4 ws.length := List.length_take
    simp (disch := omega) [-List.reduceReplicate]
    refine W_loop (fun (p : Nat × List Str) => ⟨[(1, .ptr 0 0), (2, .ptr 1 0), (4, .ptr 2 0), (8, .int .i64 p.1)],
     [some (.box [.int .i64 kd, .seq 1 (ws.map .str), .str rx]), some (.box [.int .i64 0, .nil 1, .str []]), some (.box [.int .i64 q, .ref 3 p.2.length, .str []]), some (.arr ty_string 1 (p.2.map .str))]⟩)
     (fun p => p.1 ≤ (List.take 4 ws).length ∧ p.2.length ≤ p.1 ∧ (if q = 1 then p.2 else pickW (decide (q = 3)) p.2 ((List.take 4 ws).drop p.1)) = w) (fun p => (List.take 4 ws).length - p.1) [.b 2 1 ty_string 1] _ (0, []) rfl (by simp) (by simp [hw]) ?_
    rintro ⟨k, out⟩ ⟨hk, hol, hi⟩ N hN
    simp only at hk hol hi
    by_cases hq1 : q = 1
    · rw [if_pos hq1] at hi
      subst hi
      simp (disch := omega) [-List.reduceReplicate, hq1]
      repeat' (first | (refine BrKd.mk (fun h => ?_) (fun h => ?_) <;> simp (disch := omega) [*]) | (refine BrK.mk (fun h => ?_) (fun h => ?_) <;> simp (disch := omega) [*]))
      all_goals first | omega | simp [hgd, hq1]
    · rw [if_neg hq1] at hi
      rcases place (List.take 4 ws) k hk with ⟨he, hd⟩ | ⟨hlt, x, hx, hd⟩ <;> rw [hd, pickW] at hi
      · subst hi
        clear hw
        simp (disch := omega) [-List.reduceReplicate]
        repeat' (first | (refine BrKd.mk (fun h => ?_) (fun h => ?_) <;> simp (disch := omega) [*]) | (refine BrK.mk (fun h => ?_) (fun h => ?_) <;> simp (disch := omega) [*]))
        all_goals first | omega | (cases out <;> simp_all) | simp [*]
      · have hx2 : ws[k]? = some x := by rw [List.getElem?_take] at hx; simpa [show k < 4 by omega] using hx
        replace hi := hid hi
        simp (disch := omega) [-List.reduceReplicate, hx2, hq1]
        refine wcall_flat (by simpa using f_ref12_words (out ++ [x]) (decide (q = 3))) rfl fun _ => ?_
        simp (disch := omega) [-List.reduceReplicate]
        refine BrK.mk (fun hb => ?_) (fun hb => ?_)
        · simp (disch := omega) [-List.reduceReplicate]
          refine hN.out _ <| Nx.mk (k + 1, out ++ [x]) (by simp) ⟨by simp only; omega, by simp; omega, ?_⟩ (by simp only; omega)
          have hi := hi.out
          rw [if_pos hb] at hi
          simpa [hq1] using hi
        · simp (disch := omega) [-List.reduceReplicate]
          refine hN.out _ <| Nx.mk (k + 1, out) (by simp) ⟨by simp only; omega, by simp only; omega, ?_⟩ (by simp only; omega)
          have hi := hi.out
          rw [if_neg (by simp [hb])] at hi
          simpa [hq1] using hi
end Go.Abs.F
end
section
set_option maxHeartbeats 4000000
set_option maxRecDepth 100000
namespace Go.Abs.F
open Go.Proofs
attribute [-simp] getElem?_pos Option.not_isSome
def fdx {α : Type} (f : α → Bool) : Nat → List α → Int
 | _, [] => -1
 | k, x :: l => if f x then k else fdx f (k + 1) l
theorem fdx_any {α : Type} (f : α → Bool) : ∀ (l : List α) (k : Nat), decide (0 ≤ fdx f k l) = l.any f
 | [], k => by simp [fdx]
 | x :: l, k => by
   simp only [fdx, List.any_cons]
   split
   · rename_i h; simp [h]
   · rename_i h; simp only [Bool.not_eq_true] at h; rw [fdx_any f l (k + 1), h]; rfl
theorem any_hasS (s : Str) : ∀ l : List Str, l.any (fun x => decide (s = x)) = hasS l s
 | [] => rfl
 | x :: l => by
   simp only [List.any_cons, hasS, any_hasS s l]
   by_cases h : x = s
   · simp [h]
   · have : ¬ s = x := fun e => h e.symm
     simp [h, this]
theorem f_slices_Index_string (l : List Str) (s : Str) : Fn Tryz.prog n_slices_IndexIIstring_string [.seq 1 (l.map .str), .str s] (.int .i64 (fdx (fun x => decide (s = x)) 0 l)) := by
 refine Fn.of_image mixed h_slices_IndexIIstring_string i_slices_IndexIIstring_string rfl fun ho => ?_
 unfold c_slices_IndexIIstring_string
 simp only [oks, ok, and_true] at ho
 have hlen : l.length ≤ 140737488355328 := by have := ho.1.1; simpa using this
 clear ho
 simp (disch := omega) [-List.reduceReplicate]
 generalize hr : fdx (fun x => decide (s = x)) 0 l = r
 refine W_loop (fun k : Nat => ⟨[(0, .seq 1 (l.map .str)), (1, .str s), (7, .int .i64 l.length), (8, .int .i64 k)], []⟩) (fun k => k ≤ l.length ∧ fdx (fun x => decide (s = x)) k (l.drop k) = r) (fun k => l.length - k) [] _ 0 rfl (by simp [*]) (by simp [*]) ?_
 rintro k ⟨hk, hi⟩ N hN
 rcases place l k hk with ⟨he, hd⟩ | ⟨hlt, x, hx, hd⟩ <;> rw [hd] at hi <;> replace hi := hid hi
 · simp (disch := omega) [-List.reduceReplicate, he]
   simpa [fdx] using hi.out
 · simp (disch := omega) [-List.reduceReplicate, hx]
   refine BrKd.mk (fun h => ?_) (fun h => ?_)
   · simp (disch := omega) [-List.reduceReplicate]
     have hi := hi.out
     simpa [fdx, h] using hi
   · simp (disch := omega) [-List.reduceReplicate]
     refine hN.out _ <| Nx.mk (k + 1) (by simp [*]) ⟨by omega, ?_⟩ (by omega)
     have hi := hi.out
     simpa [fdx, h] using hi
theorem f_slices_Contains_string (l : List Str) (s : Str) : Fn Tryz.prog n_slices_ContainsIIstring_string [.seq 1 (l.map .str), .str s] (.bool (hasS l s)) := by
 refine Fn.of_image mixed h_slices_ContainsIIstring_string i_slices_ContainsIIstring_string rfl fun ho => ?_
 unfold c_slices_ContainsIIstring_string
 simp only [oks, ok, and_true] at ho
 simp (disch := omega) [-List.reduceReplicate]
 refine wcall_flat (f_slices_Index_string _ _) rfl fun _ => ?_
 simp (disch := omega) [-List.reduceReplicate]
 rw [fdx_any, any_hasS]
def begins (s p : Str) : Bool := decide (p.length ≤ s.length) && decide (s.take p.length = p)
theorem f_lang_isValue (s : Str) : Fn Tryz.prog n_lang_isValue [.str s] (.bool (s.all sign)) := by
 refine Fn.of_image mixed h_lang_isValue i_lang_isValue rfl fun ho => ?_
 unfold c_lang_isValue
 simp only [oks, ok, and_true] at ho
 simp (disch := omega) [-List.reduceReplicate]
 generalize hr : s.all sign = r
 refine W_loop (fun k : Nat => ⟨[(0, .str s), (3, .int .i64 k)], []⟩) (fun k => k ≤ s.length ∧ (s.drop k).all sign = r) (fun k => s.length - k) [] _ 0 rfl (by simp [*]) (by simp [*]) ?_
 rintro k ⟨hk, hi⟩ N hN
 rcases place s k hk with ⟨he, hd⟩ | ⟨hlt, x, hx, hd⟩ <;> rw [hd] at hi <;> replace hi := hid hi
 · simp (disch := omega) [-List.reduceReplicate, he]
   simpa using hi.out
 · simp (disch := omega) [-List.reduceReplicate, hx]
   repeat' (first | (refine BrKd.mk (fun h => ?_) (fun h => ?_) <;> simp (disch := omega) [*]) | (refine BrK.mk (fun h => ?_) (fun h => ?_) <;> simp (disch := omega) [*]))
   all_goals first
    | (refine hN.out _ <| Nx.mk (k + 1) (by simp [*]) ⟨by omega, ?_⟩ (by omega); simpa (disch := omega) [*, decide_eq_true, decide_eq_false, sign] using hi.out)
    | (first | simpa (disch := omega) [*, decide_eq_true, decide_eq_false, sign] using hi.out.symm | simpa (disch := omega) [*, decide_eq_true, decide_eq_false, sign] using hi.out)
theorem indexByte_lt (c : UInt8) : ∀ s : Str, Lib.indexByte s c < (s.length : Int) + 1 ∧ (0 ≤ Lib.indexByte s c → Lib.indexByte s c < s.length)
 | [] => by simp [Lib.indexByte]
 | b :: l => by
   have := indexByte_lt c l
   unfold Lib.indexByte
   simp only [List.length_cons]
   split
   · omega
   · split
     · omega
     · omega
theorem f_bytealg_IndexByteString (s : Str) (c : UInt8) : Fn Tryz.prog n_internal_bytealg_IndexByteString [.str s, .int .u8 c.toNat] (.int .i64 (Lib.indexByte s c)) := by
 refine Fn.ext h_internal_bytealg_IndexByteString (by kernel_rfl) (by kernel_rfl) (by kernel_rfl) (e := Extern.BytealgIndexByte.indexByte) (by kernel_rfl) ?_
 intro M w cs hM hus
 obtain ⟨cl⟩ := cs
 simp only [repAll] at hus
 obtain ⟨_, _, rfl, ⟨bs, rfl, rfl, _⟩, _, _, rfl, ⟨rfl, _⟩, rfl⟩ := hus
 refine ⟨_, Lib.run_indexByteString bs (c.toNat : Int) w, ?_⟩
 have hc : ((c.toNat : Int)).toNat.toUInt8 = c := by simp
 rw [hc]
 simp only [rep]
 have h1 := Lib.indexByte_ge bs.data.toList c
 have h2 := indexByte_lt c bs.data.toList
 refine ⟨trivial, ?_, ?_⟩
 · simp; omega
 · simp; omega
theorem f_stringslite_IndexByte (s : Str) (c : UInt8) : Fn Tryz.prog n_internal_stringslite_IndexByte [.str s, .int .u8 c.toNat] (.int .i64 (Lib.indexByte s c)) := by
 refine Fn.of_image mixed h_internal_stringslite_IndexByte i_internal_stringslite_IndexByte rfl fun ho => ?_
 unfold c_internal_stringslite_IndexByte
 simp only [oks, ok, and_true] at ho
 simp (disch := omega) [-List.reduceReplicate]
 repeat' (first | (refine BrKd.mk (fun h => ?_) (fun h => ?_) <;> simp (disch := omega) [*]) | (refine BrK.mk (fun h => ?_) (fun h => ?_) <;> simp (disch := omega) [*]) | (refine wcall_flat (f_bytealg_IndexByteString _ _) rfl (fun _ => ?_) <;> simp (disch := omega) [*]) | (refine wcallD_flat (f_bytealg_IndexByteString _ _) rfl ?_ <;> simp (disch := omega) [*]))
theorem f_stringslite_Index1 (s : Str) (c : UInt8) : Fn Tryz.prog n_internal_stringslite_Index [.str s, .str [c]] (.int .i64 (Lib.indexByte s c)) := by
 refine Fn.of_image mixed h_internal_stringslite_Index i_internal_stringslite_Index rfl fun ho => ?_
 unfold c_internal_stringslite_Index
 simp only [oks, ok, and_true] at ho
 simp (disch := omega) [-List.reduceReplicate]
 repeat' (first | (refine BrKd.mk (fun h => ?_) (fun h => ?_) <;> simp (disch := omega) [*]) | (refine BrK.mk (fun h => ?_) (fun h => ?_) <;> simp (disch := omega) [*]) | (refine wcall_flat (f_stringslite_IndexByte _ _) rfl (fun _ => ?_) <;> simp (disch := omega) [*]) | (refine wcallD_flat (f_stringslite_IndexByte _ _) rfl ?_ <;> simp (disch := omega) [*]))
 all_goals (try (subst h; simp [Lib.indexByte]))
def cutB (s : Str) (c : UInt8) : Str × Str × Bool := if 0 ≤ Lib.indexByte s c then (s.take (Lib.indexByte s c).toNat, s.drop ((Lib.indexByte s c).toNat + 1), true) else (s, [], false)
theorem f_stringslite_Cut1 (s : Str) (c : UInt8) : Fn Tryz.prog n_internal_stringslite_Cut [.str s, .str [c]] (.tup [.str (cutB s c).1, .str (cutB s c).2.1, .bool (cutB s c).2.2]) := by
 refine Fn.of_image mixed h_internal_stringslite_Cut i_internal_stringslite_Cut rfl fun ho => ?_
 unfold c_internal_stringslite_Cut
 simp only [oks, ok, and_true] at ho
 have hb := indexByte_lt c s
 have hg := Lib.indexByte_ge s c
 simp (disch := omega) [-List.reduceReplicate]
 refine wcall_flat (f_stringslite_Index1 _ _) rfl fun _ => ?_
 unfold cutB
 generalize Lib.indexByte s c = n at *
 simp (disch := omega) [-List.reduceReplicate]
 refine BrKd.mk (fun h => ?_) (fun h => ?_)
 · obtain ⟨m, rfl⟩ := Int.eq_ofNat_of_zero_le h
   have hm := hb.2 h
   simp (disch := omega) [-List.reduceReplicate]
   rw [List.take_of_length_le (by simp)]
 · simp (disch := omega) [-List.reduceReplicate, h]
theorem f_strings_Cut1 (s : Str) (c : UInt8) : Fn Tryz.prog n_strings_Cut [.str s, .str [c]] (.tup [.str (cutB s c).1, .str (cutB s c).2.1, .bool (cutB s c).2.2]) := by
 refine Fn.of_image mixed h_strings_Cut i_strings_Cut rfl fun ho => ?_
 unfold c_strings_Cut
 simp only [oks, ok, and_true] at ho
 simp (disch := omega) [-List.reduceReplicate]
 repeat' (first | (refine BrKd.mk (fun h => ?_) (fun h => ?_) <;> simp (disch := omega) [*]) | (refine BrK.mk (fun h => ?_) (fun h => ?_) <;> simp (disch := omega) [*]) | (refine wcall_flat (f_stringslite_Cut1 _ _) rfl (fun _ => ?_) <;> simp (disch := omega) [*]) | (refine wcallD_flat (f_stringslite_Cut1 _ _) rfl ?_ <;> simp (disch := omega) [*]))
def allowsL (c : Constraint) (v : Str) : Bool :=
 v.all sign && (decide (c.kind = 1) || ((decide (c.kind = 2) && hasS c.words v) || (decide (c.kind = 3) && (!(cutB v 58).2.2 || hasS c.words (cutB v 58).1))))
end Go.Abs.F
end
section
set_option maxHeartbeats 1000000
set_option maxRecDepth 100000
namespace Go.Abs
open Go.Proofs Go.Aut
attribute [-simp] getElem?_pos Option.not_isSome List.map_map cl nt
theorem f_lang_parsed {s : Str} {x : Rx} (h : (s, x) ∈ poolX) : Fn Tryz.prog n_lang_parsed [.str s] (rxP x) := by
 refine Fn.of_image mixed h_lang_parsed i_lang_parsed rfl fun ho => ?_
 unfold c_lang_parsed
 simp only [oks, ok, and_true] at ho
 clear ho
 simp (disch := omega) [-List.reduceReplicate]
 refine wcall_pure (f_parse h) (by simp) fun _ => ?_
 simp (disch := omega) [-List.reduceReplicate]
theorem f_lang_any (c : V) (hc : pur [] c = some c) (hv : vids c = []) (hn : nt c = true) : Fn Tryz.prog n_lang_kind_any [c] (rxP rx7) := by
 refine Fn.of_image mixed h_lang_kind_any i_lang_kind_any rfl fun ho => ?_
 unfold c_lang_kind_any
 simp only [oks, ok, and_true] at ho
 clear ho
 simp (disch := omega) [-List.reduceReplicate, hc, hv, hn]
 refine wcall_pure (f_lang_parsed (s := [46, 42]) (x := rx7) (by simp [poolX])) (by simp) fun _ => ?_
 simp (disch := omega) [-List.reduceReplicate]
def litE (e : Str) (w : Str) : Rx := litR (w ++ e)
theorem f_lang_literals (l : List Str) (e : Str) (hl : l.length ≤ 1000) (he : e.length ≤ 1000) (hs : ∀ w ∈ l, (∀ c ∈ w ++ e, 32 ≤ c.toNat ∧ c.toNat ≤ 126) ∧ w.length ≤ 1000) : Fn Tryz.prog n_lang_literals [.seq 1 (l.map .str), .str e] (.seq 1 ((l.map (litE e)).map rxP)) := by
 refine Fn.of_image mixed h_lang_literals i_lang_literals rfl fun ho => ?_
 unfold c_lang_literals
 simp only [oks, ok, and_true] at ho
 clear ho
 obtain ⟨R, hR⟩ : ∃ R, R = l.map (litE e) := ⟨_, rfl⟩
 have hRl : R.length = l.length := by simp [hR]
 rw [← hR]
 simp (disch := omega) [-List.reduceReplicate]
 refine W_loop (fun k : Nat => ⟨[(1, .str e), (5, .ref 0 k), (8, .seq 1 (l.map .str)), (9, .int .i64 l.length), (10, .int .i64 k)], [some (.arr ty_pregex_Regex 1 ((R.take k).map rxP))]⟩) (fun k => k ≤ l.length) (fun k => l.length - k) [.r 5 ty_pregex_Regex 1] _ 0 rfl (by simp) (by simp) ?_
 intro k hk N hN
 rcases Nat.lt_or_ge k l.length with hlt | hge
 · obtain ⟨w, hw⟩ := get_lt hlt
   obtain ⟨g1, g2⟩ := hs w (List.mem_of_getElem? hw)
   have hRk : R[k]? = some (litE e w) := by rw [hR, List.getElem?_map, hw]; rfl
   have hkl : ((R.take k).map rxP).length = k := by simp; omega
   simp (disch := omega) [-List.reduceReplicate, hw]
   refine wcall_pure (f_regex_Literal (w ++ e) g1 (by simp; omega)) (by simp) fun _ => ?_
   simp (disch := omega) [-List.reduceReplicate, hkl]
   exact hN.out _ <| Nx.mk (k + 1) (by simp [take_snoc hRk, litE]) (by omega) (by omega)
 · have : k = l.length := by omega
   subst this
   have e1 : R.take l.length = R := List.take_of_length_le (by omega)
   simp (disch := omega) [-List.reduceReplicate, e1, hRl]
def cV3 (k : Int) (ws : List Str) (rx : Str) : V := .strct [.int .i64 k, .seq 1 (ws.map .str), .str rx]
theorem f_lang_enum (k : Int) (ws : List Str) (rx : Str) (hl : ws.length ≤ 1000) (hs : ∀ w ∈ ws, (∀ c ∈ w, 32 ≤ c.toNat ∧ c.toNat ≤ 126) ∧ w.length ≤ 1000) : Fn Tryz.prog n_lang_kind_enum [cV3 k ws rx] (rxP (eitherR (ws.map (litE [])))) := by
 refine Fn.of_image mixed h_lang_kind_enum i_lang_kind_enum rfl fun ho => ?_
 unfold c_lang_kind_enum
 simp only [oks, ok, and_true] at ho
 clear ho
 simp (disch := omega) [-List.reduceReplicate, cV3]
 refine wcall_pure (f_lang_literals ws [] hl (by simp) (by simpa using hs)) (by simp) fun _ => ?_
 simp (disch := omega) [-List.reduceReplicate]
 refine wcall_pure (f_regex_Or (ws.map (litE [])) (by simp; omega)) (by simp) fun _ => ?_
 simp (disch := omega) [-List.reduceReplicate]
def schR (ws : List Str) : Rx := eitherR [rx8, rowR [eitherR (ws.map (litE [58])), rx7]]
theorem f_lang_scheme (k : Int) (ws : List Str) (rx : Str) (hl : ws.length ≤ 1000) (hs : ∀ w ∈ ws, (∀ c ∈ w, 32 ≤ c.toNat ∧ c.toNat ≤ 126) ∧ w.length ≤ 900) : Fn Tryz.prog n_lang_kind_scheme [cV3 k ws rx] (rxP (schR ws)) := by
 refine Fn.of_image mixed h_lang_kind_scheme i_lang_kind_scheme rfl fun ho => ?_
 unfold c_lang_kind_scheme
 simp only [oks, ok, and_true] at ho
 clear ho
 obtain ⟨R, hR⟩ : ∃ R, R = schR ws := ⟨_, rfl⟩
 rw [← hR]
 simp (disch := omega) [-List.reduceReplicate, cV3]
 refine wcall_pure (f_lang_literals ws [58] hl (by simp) (fun w hw => by
  obtain ⟨g1, g2⟩ := hs w hw
  refine ⟨fun c hc => ?_, by omega⟩
  rcases List.mem_append.1 hc with h | h
  · exact g1 c h
  · simp at h; subst h; decide)) (by simp) fun _ => ?_
 simp (disch := omega) [-List.reduceReplicate]
 refine wcall_pure (f_regex_Or (ws.map (litE [58])) (by simp; omega)) (by simp) fun _ => ?_
 obtain ⟨S, hS⟩ : ∃ S, S = eitherR (ws.map (litE [58])) := ⟨_, rfl⟩
 have hR2 : R = eitherR [rx8, rowR [S, rx7]] := by rw [hR, hS]; rfl
 rw [← hS]
 clear hS hR
 have k1 := f_lang_parsed (s := [91, 94, 58, 93, 42]) (x := rx8) (by simp [poolX])
 have k2 := f_lang_any (cV3 k ws rx) (by simp [cV3]) (by simp [cV3, vids, vidss]) rfl
 have k3 := f_regex_Then [S, rx7] (by simp)
 have k4 := f_regex_Or [rx8, rowR [S, rx7]] (by simp)
 simp [cV3] at k2
 simp at k3 k4
 simp (disch := omega) [-List.reduceReplicate, cV3]
 refine wcallD_pure k1 (by simp) ?_
 simp (disch := omega) [-List.reduceReplicate]
 refine wcallD_pure k2 (by simp) ?_
 simp (disch := omega) [-List.reduceReplicate, sameLen]
 refine wcallD_pure k3 (by simp) ?_
 simp (disch := omega) [-List.reduceReplicate, sameLen]
 refine wcallD_pure k4 (by simp) ?_
 simp (disch := omega) [-List.reduceReplicate, hR2]
theorem f_lang_match (k : Int) (ws : List Str) (rx : Str) {x : Rx} (h : (rx, x) ∈ poolX) : Fn Tryz.prog n_lang_kind_match [cV3 k ws rx] (rxP x) := by
 refine Fn.of_image mixed h_lang_kind_match i_lang_kind_match rfl fun ho => ?_
 unfold c_lang_kind_match
 simp only [oks, ok, and_true] at ho
 clear ho
 simp (disch := omega) [-List.reduceReplicate, cV3]
 refine wcall_pure (f_lang_parsed h) (by simp) fun _ => ?_
 simp (disch := omega) [-List.reduceReplicate]
def makersM : List (V × V) := [(.int .i64 1, .fn (.func n_lang_kind_any) [] []), (.int .i64 2, .fn (.func n_lang_kind_enum) [] []), (.int .i64 3, .fn (.func n_lang_kind_scheme) [] []), (.int .i64 4, .fn (.func n_lang_kind_match) [] [])]
theorem h_makers : FnH Tryz.prog n_lang_makers [] [] [] (.ref 0 0) [some (.mp ⟨false, [.i .i64]⟩ makersM)] := by
 refine FnH.of_image mixed h_lang_makers i_lang_makers rfl fun ho hh => ?_
 unfold c_lang_makers
 clear ho hh
 simp (disch := omega) [-List.reduceReplicate, makersM, mput, eqK, eqCs, eqC]
theorem f_lang_isWord (s : Str) : Fn Tryz.prog n_lang_isWord [.str s] (.bool (s.all F.sign && decide (s.length ≤ 40))) := by
 refine Fn.of_image mixed h_lang_isWord i_lang_isWord rfl fun ho => ?_
 unfold c_lang_isWord
 simp only [oks, ok, and_true] at ho
 clear ho
 simp (disch := omega) [-List.reduceReplicate]
 refine BrKd.mk (fun h => ?_) (fun h => ?_)
 · simp (disch := omega) [-List.reduceReplicate, h]
   refine wcall_flat (F.f_lang_isValue s) rfl fun _ => ?_
   simp (disch := omega) [-List.reduceReplicate, h]
 · simp (disch := omega) [-List.reduceReplicate, h]
theorem f_lang_isScheme (s : Str) : Fn Tryz.prog n_lang_isScheme [.str s] (.bool (F.scheme s)) := by
 refine Fn.of_image mixed h_lang_isScheme i_lang_isScheme rfl fun ho => ?_
 unfold c_lang_isScheme
 simp only [oks, ok, and_true] at ho
 simp (disch := omega) [-List.reduceReplicate]
 generalize hr : F.scheme s = r
 refine W_loop (fun k : Nat => ⟨[(0, .str s), (3, .int .i64 k)], []⟩) (fun k => k ≤ s.length ∧ ((s.drop k).all F.small && (1 ≤ s.length && s.length ≤ 16)) = r) (fun k => s.length - k) [] _ 0 rfl (by simp [*]) (by simp [*, ← hr, F.scheme]) ?_
 rintro k ⟨hk, hi⟩ N hN
 rcases place s k hk with ⟨he, hd⟩ | ⟨hlt, x, hx, hd⟩ <;> rw [hd] at hi <;> replace hi := hid hi
 · simp (disch := omega) [-List.reduceReplicate, he]
   repeat' (first | (refine BrKd.mk (fun h => ?_) (fun h => ?_) <;> simp (disch := omega) [*]) | (refine BrK.mk (fun h => ?_) (fun h => ?_) <;> simp (disch := omega) [*]))
   all_goals (first | simpa (disch := omega) [*, decide_eq_true, decide_eq_false, ] using hi.out.symm | simpa (disch := omega) [*, decide_eq_true, decide_eq_false, ] using hi.out)
 · simp (disch := omega) [-List.reduceReplicate, hx]
   repeat' (first | (refine BrKd.mk (fun h => ?_) (fun h => ?_) <;> simp (disch := omega) [*]) | (refine BrK.mk (fun h => ?_) (fun h => ?_) <;> simp (disch := omega) [*]))
   all_goals first
    | (refine hN.out _ <| Nx.mk (k + 1) (by simp [*]) ⟨by omega, ?_⟩ (by omega); simpa (disch := omega) [*, decide_eq_true, decide_eq_false, F.small] using hi.out)
    | (first | simpa (disch := omega) [*, decide_eq_true, decide_eq_false, F.small] using hi.out.symm | simpa (disch := omega) [*, decide_eq_true, decide_eq_false, F.small] using hi.out)
theorem f_lang_words (sch : Bool) (is : FuncId) (his : ∀ s, Fn Tryz.prog is [.str s] (.bool (F.wordOK sch s))) (l : List Str) (h : F.words l sch = true) : Fn Tryz.prog n_lang_words [.seq 1 (l.map .str), .fn (.func is) [] []] (.bool true) := by
 refine Fn.of_image mixed h_lang_words i_lang_words rfl fun ho => ?_
 unfold c_lang_words
 simp only [oks, ok, and_true] at ho
 clear ho
 simp only [F.words, Bool.and_eq_true, decide_eq_true_eq] at h
 obtain ⟨h1, h2⟩ := h
 simp (disch := omega) [-List.reduceReplicate]
 refine W_loop (fun k : Nat => ⟨[(0, .seq 1 (l.map .str)), (1, .fn (.func is) [] []), (10, .seq 1 (l.map .str)), (11, .int .i64 l.length), (12, .int .i64 k)], []⟩) (fun k => k ≤ l.length ∧ F.wordsGo sch (l.take k) (l.drop k) = true) (fun k => l.length - k) [] _ 0 rfl (by simp) (by simp [h1]) ?_
 rintro k ⟨hk, hi⟩ N hN
 rcases place l k hk with ⟨he, hd⟩ | ⟨hlt, x, hx, hd⟩ <;> rw [hd] at hi
 · simp (disch := omega) [-List.reduceReplicate, he]
 · simp only [F.wordsGo, Bool.and_eq_true, Bool.not_eq_true'] at hi
   obtain ⟨g1, g2, g3⟩ := hi
   have hw := his x
   rw [g1] at hw
   have hc := F.f_slices_Contains_string (l.take k) x
   rw [g2] at hc
   rw [List.map_take] at hc
   simp (disch := omega) [-List.reduceReplicate, hx]
   refine wcall_flat hw rfl fun _ => ?_
   simp (disch := omega) [-List.reduceReplicate, hx]
   refine wcall_flat hc rfl fun _ => ?_
   simp (disch := omega) [-List.reduceReplicate]
   exact hN.out _ <| Nx.mk (k + 1) (by simp) ⟨by omega, by rw [take_snoc hx]; exact g3⟩ (by omega)
end Go.Abs
end
