/-
  What the next functions of the document's packages answer: constraints. No condition.
-/
import Derived.Test.YtjhcljlogdcbbaaGreatF1
set_option linter.unusedVariables false
set_option linter.unusedSimpArgs false
set_option maxHeartbeats 4000000
set_option maxRecDepth 100000
namespace Go.Abs
open Go.Proofs
attribute [-simp] getElem?_pos
theorem take_snoc {α : Type} {l : List α} {k : Nat} {x : α} (h : l[k]? = some x) : l.take (k + 1) = l.take k ++ [x] := by rw [List.take_add_one, h]; rfl
theorem take_drop {α : Type} {l : List α} {k j : Nat} {x : α} (h : l[j]? = some x) (hj : j < k) : (l.take k).drop j = x :: (l.take k).drop (j + 1) :=
  drop_cons (by rw [List.getElem?_take, if_pos hj, h])
def wordOK (sch : Bool) (x : Str) : Bool := if sch then scheme x else (x.all sign && decide (x.length ≤ 40))
def wordsGo (sch : Bool) : List Str → List Str → Bool
  | _, [] => true
  | pre, x :: l => wordOK sch x && (!(hasS pre x) && wordsGo sch (pre ++ [x]) l)
def words (l : List Str) (sch : Bool) : Bool := wordsGo sch [] l && decide (l.length ≤ 8)
theorem f_ref12_words (l : List Str) (sch : Bool) : Fn Tryz.prog n_ref12_words [.seq 1 (l.map .str), .bool sch] (.bool (words l sch)) := by
  refine Fn.of_image mixed h_ref12_words i_ref12_words rfl fun ho => ?_
  unfold c_ref12_words
  simp only [oks, ok, and_true] at ho
  have hlen : l.length ≤ 140737488355328 := by have := ho.1; simpa using this
  simp (disch := omega) [c_ref12_words]
  generalize hr : words l sch = r
  refine W_loop (fun k : Nat => ⟨[(0, .seq 1 (l.map .str)), (1, .bool sch), (5, .int .i64 k)], []⟩) (fun k => k ≤ l.length ∧ (wordsGo sch (l.take k) (l.drop k) && decide (l.length ≤ 8)) = r) (fun k => l.length - k) [] _ 0 rfl (by simp [*]) (by simp [*, ← hr, words]) ?_
  rintro k ⟨hk, hi⟩ N hN
  rcases place l k hk with ⟨he, hd⟩ | ⟨hlt, x, hx, hd⟩ <;> rw [hd] at hi <;> replace hi := hid hi
  · simp (disch := omega) [he]
    simpa [wordsGo] using hi.out
  · rcases Bool.eq_false_or_eq_true sch with hsch | hsch
    all_goals
      simp (disch := omega) [hx]
      repeat' (first | (refine BrKd.mk (fun h => ?_) (fun h => ?_) <;> simp (disch := omega) [*]) | (refine BrK.mk (fun h => ?_) (fun h => ?_) <;> simp (disch := omega) [*]) | (refine wcall_flat (f_ref12_scheme _) rfl (fun _ => ?_) <;> simp (disch := omega) [*]) | (refine wcallD_flat (f_ref12_scheme _) rfl ?_ <;> simp (disch := omega) [*]) | (refine wcall_flat (f_ref12_signs _) rfl (fun _ => ?_) <;> simp (disch := omega) [*]) | (refine wcallD_flat (f_ref12_signs _) rfl ?_ <;> simp (disch := omega) [*]))
      all_goals first
        | (first | simpa (disch := omega) [*, decide_eq_true, decide_eq_false, wordOK, wordsGo] using hi.out.symm | simpa (disch := omega) [*, decide_eq_true, decide_eq_false, wordOK, wordsGo] using hi.out)
        | (have hi := hi.out; simp (disch := omega) [wordOK, wordsGo, *, decide_eq_true, decide_eq_false] at hi; replace hi := hid hi
           refine W_loop (fun j : Nat => ⟨[(0, .seq 1 (l.map .str)), (1, .bool sch), (5, .int .i64 k), (8, .int .i64 j)], []⟩) (fun j => j ≤ k ∧ hasS (l.take k) x = hasS ((l.take k).drop j) x) (fun j => k - j) [] _ 0 rfl (by simp [*]) (by simp) ?_
           rintro j ⟨hj, hi2⟩ N2 hN2
           by_cases hlt2 : j < k
           · obtain ⟨y, hy⟩ := get_lt (l := l) (k := j) (by omega)
             rw [take_drop hy hlt2, hasS] at hi2; replace hi2 := hid hi2
             simp (disch := omega) [*]
             repeat' (first | (refine BrKd.mk (fun h => ?_) (fun h => ?_) <;> simp (disch := omega) [*]) | (refine BrK.mk (fun h => ?_) (fun h => ?_) <;> simp (disch := omega) [*]))
             all_goals first
               | (refine hN2.out _ <| Nx.mk (j + 1) (by simp [*]) ⟨by omega, ?_⟩ (by omega); rw [hi2.out, if_neg h])
               | (have hi2 := hi2.out; rw [if_pos h] at hi2; have hi := hi.out; simp [hi2] at hi; simp [hi])
           · have : (l.take k).drop j = [] := by simp; omega
             rw [this, hasS] at hi2
             have hi := hi.out; simp [hi2] at hi; replace hi := hid hi
             simp (disch := omega) [*]
             refine hN.out _ <| Nx.mk (k + 1) (by simp [*]) ⟨by omega, ?_⟩ (by omega)
             rw [take_snoc hx]; simpa [*] using hi.out)
end Go.Abs
