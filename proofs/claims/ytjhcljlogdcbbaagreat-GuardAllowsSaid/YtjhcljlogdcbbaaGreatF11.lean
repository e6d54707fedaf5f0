/-
  What strainerref03's functions answer that make nodes: cut, named, merged. No condition.
-/
import Derived.Test.YtjhcljlogdcbbaaGreatF10
set_option linter.unusedVariables false
set_option linter.unusedSimpArgs false
set_option maxHeartbeats 4000000
set_option maxRecDepth 100000
namespace Go.Abs
open Go.Proofs
attribute [-simp] getElem?_pos Option.not_isSome
def fewS (s : Str) : Str := s.take 30
theorem f_ref03_few (s : Str) : Fn Tryz.prog n_ref03_few [.str s] (.str (fewS s)) := by
  refine Fn.of_image mixed h_ref03_few i_ref03_few rfl fun ho => ?_
  unfold c_ref03_few
  simp only [oks, ok, and_true] at ho
  simp (disch := omega) [fewS]
  refine BrKd.mk (fun h => ?_) (fun h => ?_)
  · simp (disch := omega) [h]
  · simp (disch := omega) [h]
    rw [List.take_of_length_le (by omega)]
def fewA (a : Attr) : Attr := ⟨fewS a.name, fewS a.value⟩
mutual
def cutK : Node → Nat → List Node × Nat
  | ⟨_, _, _, _, ks⟩, m => cutL ks m
def cutL : List Node → Nat → List Node × Nat
  | [], m => ([], m)
  | n :: l, m => if m = 0 then ([], 0) else
    (⟨n.kind, fewS n.name, (n.attrs.take 5).map fewA, fewS n.text, (cutK n (m - 1)).1⟩ :: (cutL l (cutK n (m - 1)).2).1, (cutL l (cutK n (m - 1)).2).2)
end
theorem cutK_eq (n : Node) (m : Nat) : cutK n m = cutL n.kids m := by cases n; simp [cutK]
theorem cutL_cnt : ∀ (l : List Node) (m : Nat), cntNs (cutL l m).1 + (cutL l m).2 ≤ m := by
  refine nodes_ind (fun m => by simp [cutL, cntNs]) ?_
  intro n l h1 h2 m
  simp only [cutL, cutK_eq]
  split
  · simp [cntNs]
  · have g1 := h1 (m - 1)
    have g2 := h2 (cutL n.kids (m - 1)).2
    simp only [cntNs, cntN]
    omega
theorem cnt_len : ∀ l : List Node, l.length ≤ cntNs l
  | [] => by simp [cntNs]
  | n :: l => by have := cnt_len l; simp [cntNs, cntN_eq]; omega
theorem f_ref03_Cut : ∀ (l : List Node) (m : Nat), m ≤ 1000 → Fn Tryz.prog n_ref03_Cut [.seq 5 (l.map Node.v), .int .i64 m] (.tup [.seq 5 ((cutL l m).1.map Node.v), .int .i64 (cutL l m).2]) := by
  have key : ∀ l : List Node, (∀ n ∈ l, ∀ m : Nat, m ≤ 1000 → Fn Tryz.prog n_ref03_Cut [.seq 5 (n.kids.map Node.v), .int .i64 m] (.tup [.seq 5 ((cutL n.kids m).1.map Node.v), .int .i64 (cutL n.kids m).2])) →
      ∀ m : Nat, m ≤ 1000 → Fn Tryz.prog n_ref03_Cut [.seq 5 (l.map Node.v), .int .i64 m] (.tup [.seq 5 ((cutL l m).1.map Node.v), .int .i64 (cutL l m).2]) := by
    intro l hrec m hm
    refine Fn.of_image mixed h_ref03_Cut i_ref03_Cut rfl fun ho => ?_
    unfold c_ref03_Cut
    simp only [oks, ok, and_true] at ho
    have hlen : l.length ≤ 140737488355328 := by have := ho.1; simp at this; exact this.1
    clear ho
    simp (disch := omega) []
    generalize hR : cutL l m = R
    refine W_loop (fun (q : Nat × Nat × List Node) => ⟨[(0, .seq 5 (l.map Node.v)), (1, .int .i64 q.2.1), (6, .ref 0 q.2.2.length), (7, .int .i64 q.1)], [some (.arr ty_api_Node 5 (q.2.2.map Node.v))]⟩)
      (fun q => q.1 ≤ l.length ∧ q.2.2.length + q.2.1 ≤ 1000 ∧ (q.2.2 ++ (cutL (l.drop q.1) q.2.1).1, (cutL (l.drop q.1) q.2.1).2) = R) (fun q => l.length - q.1) [.r 6 ty_api_Node 5] _ (0, m, []) rfl (by simp) (by simp [hR]; omega) ?_
    rintro ⟨k, m, out⟩ ⟨hk, hol, hi⟩ N hN
    simp only at hk hol hi
    rcases place l k hk with ⟨he, hd⟩ | ⟨hlt, x, hx, hd⟩ <;> rw [hd] at hi
    · simp [cutL] at hi
      subst hi
      simp (disch := omega) [he]
    · simp only [cutL, cutK_eq] at hi
      rcases Nat.eq_zero_or_pos m with hm0 | hm0
      · subst hm0
        simp at hi
        subst hi
        simp (disch := omega) []
      · rw [if_neg (by omega)] at hi
        have hxc := cutL_cnt x.kids (m - 1)
        replace hi := hid hi
        simp (disch := omega) [hx]
        refine wcall_flat (f_ref03_few _) rfl fun _ => ?_
        simp (disch := omega) []
        refine wcall_flat (f_ref03_few _) rfl fun _ => ?_
        simp (disch := omega) []
        have hm1 : ((m : Int) - 1) = ((m - 1 : Nat) : Int) := by omega
        rw [hm1]
        refine wcall_pure (hrec x (List.mem_of_getElem? hx) (m - 1) (by omega)) (by simp) fun _ => ?_
        generalize cutL x.kids (m - 1) = ck at *
        simp (disch := omega) []
        have hl5 : (List.take 5 x.attrs).length = min 5 x.attrs.length := List.length_take
        refine W_loop (fun (q : Nat) => ⟨[(0, .seq 5 (l.map Node.v)), (1, .int .i64 ck.2), (6, .ref 0 out.length), (7, .int .i64 k), (8, .ptr 1 0), (9, .ref 2 ((x.attrs.take 5).take q).length), (10, .int .i64 q)],
            [some (.arr ty_api_Node 5 (out.map Node.v)), some (.box [.int .i64 x.kind, .str (fewS x.name), .seq 2 (x.attrs.map Attr.v), .str (fewS x.text), .seq 5 (ck.1.map Node.v)]), some (.arr ty_api_Attr 2 ((((x.attrs.take 5).take q).map fewA).map Attr.v))]⟩)
          (fun q => q ≤ (x.attrs.take 5).length) (fun q => (x.attrs.take 5).length - q) [.r 9 ty_api_Attr 2] _ 0 rfl (by simp) (by simp) ?_
        rintro j hj N2 hN2
        have hjl : ((x.attrs.take 5).take j).length = j := by rw [List.length_take]; omega
        rcases place (x.attrs.take 5) j hj with ⟨he2, hd2⟩ | ⟨hlt2, y, hy, hd2⟩
        · have htk : (x.attrs.take 5).take j = x.attrs.take 5 := List.take_of_length_le (by omega)
          rw [htk] at hjl ⊢
          have hjj : (j < x.attrs.length ∧ j = 5) ∨ j = x.attrs.length := by omega
          rcases hjj with hjj | hjj
          all_goals
            simp (disch := omega) [hjj, hjl]
            refine hN.out _ <| Nx.mk (k + 1, ck.2, out ++ [⟨x.kind, fewS x.name, (x.attrs.take 5).map fewA, fewS x.text, ck.1⟩]) (by simp) ⟨by simp only; omega, by simp; omega, by simpa using hi.out⟩ (by simp only; omega)
        · have hy2 : x.attrs[j]? = some y := by rw [List.getElem?_take] at hy; simpa [show j < 5 by omega] using hy
          rw [hjl]
          simp (disch := omega) [hy2, hjl]
          refine wcallD_flat (f_ref03_few _) rfl ?_
          simp (disch := omega) [hy2, hjl]
          refine wcallD_flat (f_ref03_few _) rfl ?_
          simp (disch := omega) [hy2, hjl]
          refine hN2.out _ <| Nx.mk (j + 1) ?_ (by omega) (by omega)
          have hjl2 : ((x.attrs.take 5).take (j + 1)).length = j + 1 := by rw [List.length_take]; omega
          rw [hjl2, take_snoc hy]
          simp [fewA]
  have all : ∀ l : List Node, ∀ n ∈ l, ∀ m : Nat, m ≤ 1000 → Fn Tryz.prog n_ref03_Cut [.seq 5 (n.kids.map Node.v), .int .i64 m] (.tup [.seq 5 ((cutL n.kids m).1.map Node.v), .int .i64 (cutL n.kids m).2]) := by
    refine nodes_ind (fun x hx => by cases hx) ?_
    intro n l h1 h2 x hx
    rcases List.mem_cons.1 hx with rfl | hx
    · exact key _ h1
    · exact h2 x hx
  exact fun l => key l (all l)
theorem f_ref03_Few (l : List Node) : Fn Tryz.prog n_ref03_Few [.seq 5 (l.map Node.v)] (.seq 5 ((cutL l 40).1.map Node.v)) := by
  refine Fn.of_image mixed h_ref03_Few i_ref03_Few rfl fun ho => ?_
  unfold c_ref03_Few
  simp only [oks, ok, and_true] at ho
  clear ho
  simp (disch := omega) []
  refine wcall_pure (f_ref03_Cut l 40 (by omega)) (by simp) fun _ => ?_
  simp (disch := omega) []
end Go.Abs
