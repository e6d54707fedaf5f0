/-
  What strainerref12.Good answers: a constraint that may be. No condition.
-/
import Derived.Test.YtjhcljlogdcbbaaGreatF2
set_option linter.unusedVariables false
set_option linter.unusedSimpArgs false
set_option maxHeartbeats 4000000
set_option maxRecDepth 100000
namespace Go.Abs
open Go.Proofs
attribute [-simp] getElem?_pos
def sumB : Str → Nat
  | [] => 0
  | b :: s => b.toNat + sumB s
def pool12 : List Str := [[97, 42], [40, 97, 124, 98, 41, 43], [91, 48, 45, 57, 93, 43], [120, 46, 121], [91, 94, 97, 93, 42], [], [97, 124, 98, 98, 124, 99]]
def pickW (sch : Bool) : List Str → List Str → List Str
  | out, [] => out
  | out, w :: l => pickW sch (if words (out ++ [w]) sch then out ++ [w] else out) l
def kind12 (k : Int) : Int := 1 + (if k < 0 then -(k + 1) else k) % 4
def good12 (c : Constraint) : Constraint :=
  let k := kind12 c.kind
  if k = 4 then ⟨4, [], (pool12[sumB c.regex % 7]?).getD []⟩
  else
    let ws := if k = 1 then [] else pickW (decide (k = 3)) [] (c.words.take 4)
    ⟨k, if k = 2 ∧ ws = [] then [[120]] else ws, []⟩
theorem kind12_range (k : Int) : 1 ≤ kind12 k ∧ kind12 k ≤ 4 := by
  unfold kind12
  have h : 0 ≤ (if k < 0 then -(k + 1) else k) := by split <;> omega
  generalize (if k < 0 then -(k + 1) else k) = m at h
  omega
theorem pickW_len (sch : Bool) : ∀ (l out : List Str), (pickW sch out l).length ≤ out.length + l.length
  | [], out => by simp [pickW]
  | w :: l, out => by
    simp only [pickW]
    split
    · have := pickW_len sch l (out ++ [w]); simp at this ⊢; omega
    · have := pickW_len sch l out; simp at this ⊢; omega
theorem f_ref12_Good (c : Constraint) (hR : c.regex.length ≤ 1125899906842624) : Fn Tryz.prog n_ref12_Good [c.v] (good12 c).v := by
  refine Fn.of_image mixed h_ref12_Good i_ref12_Good rfl fun ho => ?_
  unfold c_ref12_Good
  simp only [oks, ok, and_true] at ho
  obtain ⟨kd, ws, rx⟩ := c
  simp at ho hR
  generalize hg : good12 ⟨kd, ws, rx⟩ = g
  have hrg := kind12_range kd
  have hgd : g = good12 ⟨kd, ws, rx⟩ := hg.symm
  simp only [good12] at hgd
  simp (disch := omega) [c_ref12_Good]
  refine BrKd.mk (fun h => ?_) (fun h => ?_)
  all_goals
    first
      | (have e : 1 + -(kd + 1) % 4 = kind12 kd := by rw [kind12, if_pos h])
      | (have e : 1 + kd % 4 = kind12 kd := by rw [kind12, if_neg h])
    simp (disch := omega) []
    rw [e]
    clear e
    generalize kind12 kd = q at *
    refine BrKd.mk (fun hq => ?_) (fun hq => ?_)
    · simp (disch := omega) []
      refine W_loop (fun (p : Nat × Nat) => ⟨[(1, .ptr 0 0), (2, .ptr 1 0), (4, .ptr 2 0), (5, .seq 1 (pool12.map .str)), (6, .int .i64 p.2), (7, .int .i64 p.1)],
        [some (.box [.int .i64 kd, .seq 1 (ws.map .str), .str rx]), some (.box [.int .i64 0, .nil 1, .str []]), some (.box [.int .i64 q, .nil 1, .str []])]⟩)
        (fun p => p.1 ≤ rx.length ∧ p.2 ≤ 255 * p.1 ∧ p.2 + sumB (rx.drop p.1) = sumB rx) (fun p => rx.length - p.1) [] _ (0, 0) rfl (by simp [pool12]) (by simp) ?_
      rintro ⟨k, n⟩ ⟨hk, hn, hi⟩ N hN
      simp only at hk hn hi
      rcases place rx k hk with ⟨he, hd⟩ | ⟨hlt, x, hx, hd⟩ <;> rw [hd, sumB] at hi
      · have hm : n % 7 < 7 := Nat.mod_lt _ (by decide)
        have ht : ((n : Int) % 7).toNat = n % 7 := by omega
        obtain ⟨y, hy⟩ := get_lt (l := pool12) (k := n % 7) hm
        have hpl : pool12.length = 7 := rfl
        subst hq
        rw [if_pos rfl] at hgd
        simp only [Nat.add_zero] at hi
        simp (disch := omega) [he, hpl, ht, hy]
        rw [hi] at hy
        simp [hgd, hy]
      · have hx8 := x.toNat_lt
        simp (disch := omega) [hx]
        refine hN.out _ <| Nx.mk (k + 1, n + x.toNat) (by simp) ⟨by simp only; omega, by simp only; omega, by simp only; omega⟩ (by simp only; omega)
    · rw [if_neg hq] at hgd
      generalize hw : (if q = 1 then [] else pickW (decide (q = 3)) [] (List.take 4 ws)) = w at hgd
      have hl4 : (List.take 4 ws).length = min 4 ws.length := List.length_take
      simp (disch := omega) []
      refine W_loop (fun (p : Nat × List Str) => ⟨[(1, .ptr 0 0), (2, .ptr 1 0), (4, .ptr 2 0), (8, .int .i64 p.1)],
        [some (.box [.int .i64 kd, .seq 1 (ws.map .str), .str rx]), some (.box [.int .i64 0, .nil 1, .str []]), some (.box [.int .i64 q, .ref 3 p.2.length, .str []]), some (.arr ty_string 1 (p.2.map .str))]⟩)
        (fun p => p.1 ≤ (List.take 4 ws).length ∧ p.2.length ≤ p.1 ∧ (if q = 1 then p.2 else pickW (decide (q = 3)) p.2 ((List.take 4 ws).drop p.1)) = w) (fun p => (List.take 4 ws).length - p.1) [.b 2 1 ty_string 1] _ (0, []) rfl (by simp) (by simp [hw]) ?_
      rintro ⟨k, out⟩ ⟨hk, hol, hi⟩ N hN
      simp only at hk hol hi
      by_cases hq1 : q = 1
      · rw [if_pos hq1] at hi
        subst hi
        simp (disch := omega) [hq1]
        repeat' (first | (refine BrKd.mk (fun h => ?_) (fun h => ?_) <;> simp (disch := omega) [*]) | (refine BrK.mk (fun h => ?_) (fun h => ?_) <;> simp (disch := omega) [*]))
        all_goals first | omega | simp [hgd, hq1]
      · rw [if_neg hq1] at hi
        rcases place (List.take 4 ws) k hk with ⟨he, hd⟩ | ⟨hlt, x, hx, hd⟩ <;> rw [hd, pickW] at hi
        · subst hi
          clear hw
          simp (disch := omega) []
          repeat' (first | (refine BrKd.mk (fun h => ?_) (fun h => ?_) <;> simp (disch := omega) [*]) | (refine BrK.mk (fun h => ?_) (fun h => ?_) <;> simp (disch := omega) [*]))
          all_goals first | omega | (cases out <;> simp_all) | simp [*]
        · have hx2 : ws[k]? = some x := by rw [List.getElem?_take] at hx; simpa [show k < 4 by omega] using hx
          replace hi := hid hi
          simp (disch := omega) [hx2, hq1]
          refine wcall_flat (by simpa using f_ref12_words (out ++ [x]) (decide (q = 3))) rfl fun _ => ?_
          simp (disch := omega) []
          refine BrK.mk (fun hb => ?_) (fun hb => ?_)
          · simp (disch := omega) []
            refine hN.out _ <| Nx.mk (k + 1, out ++ [x]) (by simp) ⟨by simp only; omega, by simp; omega, ?_⟩ (by simp only; omega)
            have hi := hi.out
            rw [if_pos hb] at hi
            simpa [hq1] using hi
          · simp (disch := omega) []
            refine hN.out _ <| Nx.mk (k + 1, out) (by simp) ⟨by simp only; omega, by simp only; omega, ?_⟩ (by simp only; omega)
            have hi := hi.out
            rw [if_neg (by simp [hb])] at hi
            simpa [hq1] using hi
end Go.Abs
