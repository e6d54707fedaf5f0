/-
  What strainerref06's Good answers: stable nodes. No condition.
-/
import Derived.Test.YtjhcljlogdcbbaaGreatF14
set_option linter.unusedVariables false
set_option linter.unusedSimpArgs false
set_option maxHeartbeats 4000000
set_option maxRecDepth 100000
namespace Go.Abs
open Go.Proofs
attribute [-simp] getElem?_pos Option.not_isSome List.map_map
def fits6 (par : Str) (n : Node) : Bool :=
  if void par then false
  else if raw par then decide (n.kind = 2) && decide (ends (n.text ++ [60, 47] ++ par ++ [62]) par = n.text.length)
  else !decide (n.kind = 1) || !closes par n.name
theorem f_ref06_Fits (par : Str) (n : Node) (hp : par.length ≤ 1000000) (ht : n.text.length ≤ 100000000) : Fn Tryz.prog n_ref06_Fits [.str par, n.v] (.bool (fits6 par n)) := by
  refine Fn.of_image mixed h_ref06_Fits i_ref06_Fits rfl fun ho => ?_
  unfold c_ref06_Fits
  simp only [oks, ok, and_true] at ho
  clear ho
  simp (disch := omega) [fits6]
  refine wcall_flat (f_ref03_Void _) rfl fun _ => ?_
  simp (disch := omega) []
  refine wcall_flat (f_ref03_Raw _) rfl fun _ => ?_
  simp (disch := omega) []
  refine BrK.mk (fun hv => ?_) (fun hv => ?_)
  · simp (disch := omega) [hv]
  · simp (disch := omega) [hv]
    refine BrK.mk (fun hr => ?_) (fun hr => ?_)
    · simp (disch := omega) [hr]
      refine BrKd.mk (fun hk => ?_) (fun hk => ?_)
      · simp (disch := omega) [hk]
        have e : n.text ++ [60, 47] ++ par ++ [62] = n.text ++ 60 :: 47 :: (par ++ [62]) := by simp
        have hE := f_ref05_Ends (n.text ++ [60, 47] ++ par ++ [62]) par (by simp; omega) hp
        rw [e] at hE
        refine wcallD_flat hE rfl ?_
        simp (disch := omega) [hk]
      · simp (disch := omega) [hk]
    · simp (disch := omega) [hr]
      refine wcall_flat (f_ref06_Closes _ _) rfl fun _ => ?_
      simp (disch := omega) []
      repeat' (first | (refine BrKd.mk (fun h => ?_) (fun h => ?_) <;> simp (disch := omega) [*]) | (refine BrK.mk (fun h => ?_) (fun h => ?_) <;> simp (disch := omega) [*]))
def fitting6 (par : Str) (l : List Node) : List Node := l.filter (fits6 par)
theorem f_ref06_fitting (par : Str) (l : List Node) (hp : par.length ≤ 1000000) (hl : l.length ≤ 1000000) (ht : ∀ n ∈ l, n.text.length ≤ 100000000) :
    Fn Tryz.prog n_ref06_fitting [.str par, .seq 5 (l.map Node.v)] (.seq 5 ((fitting6 par l).map Node.v)) := by
  refine Fn.of_image mixed h_ref06_fitting i_ref06_fitting rfl fun ho => ?_
  unfold c_ref06_fitting
  simp only [oks, ok, and_true] at ho
  clear ho
  simp (disch := omega) []
  generalize hw : fitting6 par l = w
  refine W_loop (fun (q : Nat × List Node) => ⟨[(0, .str par), (1, .seq 5 (l.map Node.v)), (5, .ref 0 q.2.length), (6, .int .i64 q.1)], [some (.arr ty_api_Node 5 (q.2.map Node.v))]⟩)
    (fun q => q.1 ≤ l.length ∧ q.2.length ≤ q.1 ∧ q.2 ++ fitting6 par (l.drop q.1) = w) (fun q => l.length - q.1) [.r 5 ty_api_Node 5] _ (0, []) rfl (by simp) (by simp [← hw]) ?_
  rintro ⟨k, out⟩ ⟨hk, hol, hi⟩ N hN
  simp only at hk hol hi
  rcases place l k hk with ⟨he, hd⟩ | ⟨hlt, x, hx, hd⟩ <;> rw [hd] at hi
  · simp [fitting6] at hi
    subst hi
    simp (disch := omega) [he]
  · simp only [fitting6, List.filter_cons] at hi
    replace hi := hid hi
    simp (disch := omega) [hx]
    refine wcall_flat (by simpa using f_ref06_Fits par x hp (ht x (List.mem_of_getElem? hx))) rfl fun _ => ?_
    simp (disch := omega) []
    refine BrK.mk (fun h => ?_) (fun h => ?_)
    · simp (disch := omega) [hx]
      have hi := hi.out
      refine hN.out _ <| Nx.mk (k + 1, out ++ [x]) (by simp) ⟨by simp only; omega, by simp; omega, ?_⟩ (by simp only; omega)
      simpa [h, fitting6] using hi
    · simp (disch := omega) [hx]
      have hi := hi.out
      refine hN.out _ <| Nx.mk (k + 1, out) (by simp) ⟨by simp only; omega, by simp only; omega, ?_⟩ (by simp only; omega)
      simpa [h, fitting6] using hi
def arrow : Str := [45, 45, 62]
mutual
def steadyN : Node → List Node
  | ⟨k, nm, a, t, ks⟩ => if k = 3 ∧ hasW arrow t = true then [] else if k = 1 then [⟨k, nm, a, t, fitting6 nm (merge (steadyL (fits6 nm) ks))⟩] else [⟨k, nm, a, t, ks⟩]
def steadyL (f : Node → Bool) : List Node → List Node
  | [] => []
  | n :: l => (if f n then steadyN n else []) ++ steadyL f l
end
theorem steadyL_eq (f : Node → Bool) : ∀ l : List Node, steadyL f l = (l.filter f).flatMap steadyN
  | [] => by simp [steadyL]
  | n :: l => by
    simp only [steadyL, steadyL_eq f l, List.filter_cons]
    cases f n <;> simp
theorem steadyN_eq (n : Node) : steadyN n = if n.kind = 3 ∧ hasW arrow n.text = true then [] else if n.kind = 1 then [⟨n.kind, n.name, n.attrs, n.text, fitting6 n.name (merge ((fitting6 n.name n.kids).flatMap steadyN))⟩] else [n] := by
  cases n; simp [steadyN, steadyL_eq, fitting6]
def steady (l : List Node) : List Node := merge (l.flatMap steadyN)
/-- How long the texts of nodes are. -/
def tsum (l : List Node) : Nat := (l.map fun n => n.text.length).sum
theorem tsum_mem : ∀ {l : List Node} {n : Node}, n ∈ l → n.text.length ≤ tsum l
  | [], n, h => by cases h
  | x :: l, n, h => by
    simp only [tsum, List.map_cons, List.sum_cons]
    rcases List.mem_cons.1 h with rfl | h
    · omega
    · have := tsum_mem h; simp only [tsum] at this; omega
theorem tsum_append (a b : List Node) : tsum (a ++ b) = tsum a + tsum b := by simp [tsum]
theorem tsum_filter (f : Node → Bool) : ∀ l : List Node, tsum (l.filter f) ≤ tsum l
  | [] => by simp [tsum]
  | n :: l => by
    have := tsum_filter f l
    simp only [tsum, List.filter_cons] at *
    split <;> simp <;> omega
theorem tsum_set : ∀ (l : List Node) (i : Nat) (o n : Node), l[i]? = some o → tsum (l.set i n) + o.text.length = tsum l + n.text.length
  | [], i, o, n, h => by simp at h
  | x :: l, 0, o, n, h => by simp at h; subst h; simp [tsum]; omega
  | x :: l, i + 1, o, n, h => by
    have := tsum_set l i o n (by simpa using h)
    simp only [tsum, List.set_cons_succ, List.map_cons, List.sum_cons] at *
    omega
theorem mergeGo_size : ∀ (l out : List Node), (mergeGo out l).length ≤ out.length + l.length ∧ tsum (mergeGo out l) ≤ tsum out + tsum l
  | [], out => by simp [mergeGo, tsum]
  | n :: l, out => by
    have hc : tsum (n :: l) = n.text.length + tsum l := by simp [tsum]
    have h1 := mergeGo_size l out
    have h2 := mergeGo_size l (out ++ [n])
    rw [tsum_append] at h2
    have hn : tsum [n] = n.text.length := by simp [tsum]
    simp only [List.length_append, List.length_cons, List.length_nil] at h2
    simp only [mergeGo, List.length_cons]
    split
    · omega
    · split
      · rename_i o ho
        split
        · have h3 := mergeGo_size l (out.set (out.length - 1) ⟨o.kind, o.name, o.attrs, o.text ++ n.text, o.kids⟩)
          have h4 := tsum_set out (out.length - 1) o ⟨o.kind, o.name, o.attrs, o.text ++ n.text, o.kids⟩ ho
          simp only [List.length_set, List.length_append] at h3 h4
          omega
        · omega
      · omega
theorem merge_size (l : List Node) : (merge l).length ≤ l.length ∧ tsum (merge l) ≤ tsum l := by
  have := mergeGo_size l []
  simpa [merge, tsum] using this
theorem steadyN_size (n : Node) : (steadyN n).length ≤ 1 ∧ tsum (steadyN n) ≤ n.text.length := by
  rw [steadyN_eq]
  split
  · simp [tsum]
  · split <;> simp [tsum]
theorem steadyF_size : ∀ l : List Node, (l.flatMap steadyN).length ≤ l.length ∧ tsum (l.flatMap steadyN) ≤ tsum l
  | [] => by simp [tsum]
  | n :: l => by
    have h1 := steadyN_size n
    have h2 := steadyF_size l
    have hc : tsum (n :: l) = n.text.length + tsum l := by simp [tsum]
    simp only [List.flatMap_cons, List.length_append, tsum_append, List.length_cons]
    omega
theorem fitting6_size (par : Str) (l : List Node) : (fitting6 par l).length ≤ l.length ∧ tsum (fitting6 par l) ≤ tsum l := ⟨List.length_filter_le _ _, tsum_filter _ _⟩
def fine6 (n : Node) : Prop := n.name.length ≤ 1000 ∧ n.kids.length ≤ 1000 ∧ tsum n.kids ≤ 1000000
theorem f_ref06_Steady : ∀ (l : List Node), allNs fine6 l → l.length ≤ 1000 → tsum l ≤ 1000000 → Fn Tryz.prog n_ref06_Steady [.seq 5 (l.map Node.v)] (.seq 5 ((steady l).map Node.v)) := by
  have key : ∀ l : List Node, (∀ n ∈ l, ∀ l' : List Node, (∀ y ∈ l', y ∈ n.kids) → allNs fine6 n.kids → l'.length ≤ 1000 → tsum l' ≤ 1000000 → Fn Tryz.prog n_ref06_Steady [.seq 5 (l'.map Node.v)] (.seq 5 ((steady l').map Node.v))) →
      (∀ n ∈ l, fine6 n ∧ allNs fine6 n.kids) → l.length ≤ 1000 → tsum l ≤ 1000000 → Fn Tryz.prog n_ref06_Steady [.seq 5 (l.map Node.v)] (.seq 5 ((steady l).map Node.v)) := by
    intro l hrec hfi hlen hts
    refine Fn.of_image mixed h_ref06_Steady i_ref06_Steady rfl fun ho => ?_
    unfold c_ref06_Steady
    simp only [oks, ok, and_true] at ho
    clear ho
    simp (disch := omega) []
    generalize hw : l.flatMap steadyN = w
    have hws := steadyF_size l
    rw [hw] at hws
    refine W_loop (fun (q : Nat × List Node) => ⟨[(0, .seq 5 (l.map Node.v)), (3, .ref 0 q.2.length), (4, .int .i64 q.1)], [some (.arr ty_api_Node 5 (q.2.map Node.v))]⟩)
      (fun q => q.1 ≤ l.length ∧ q.2.length ≤ q.1 ∧ q.2 ++ (l.drop q.1).flatMap steadyN = w) (fun q => l.length - q.1) [.r 3 ty_api_Node 5] _ (0, []) rfl (by simp) (by simp [← hw]) ?_
    rintro ⟨k, out⟩ ⟨hk, hol, hi⟩ N hN
    simp only at hk hol hi
    rcases place l k hk with ⟨he, hd⟩ | ⟨hlt, x, hx, hd⟩ <;> rw [hd] at hi
    · simp at hi
      subst hi
      simp (disch := omega) [he]
      refine wcall_kill (f_ref03_Merge out (by omega) (fun n hn => by have := tsum_mem hn; omega)) fun _ => ?_
      simp (disch := omega) [steady, hw]
    · have hxm := List.mem_of_getElem? hx
      obtain ⟨⟨hx1, hx2, hx3⟩, hxk⟩ := hfi x hxm
      have hxt := tsum_mem hxm
      rw [List.flatMap_cons, steadyN_eq] at hi
      replace hi := hid hi
      have fin : ∀ τ : St, ∀ o2 : List Node, τ.nrm [0, 3, 4] = ⟨[(0, .seq 5 (l.map Node.v)), (3, .ref 0 o2.length), (4, .int .i64 ((k + 1 : Nat) : Int))], [some (.arr ty_api_Node 5 (o2.map Node.v))]⟩ → o2.length ≤ k + 1 → o2 ++ (l.drop (k + 1)).flatMap steadyN = w → N τ := by
        intro τ o2 h1 h2 h3
        exact hN.out _ <| Nx.mk (k + 1, o2) h1 ⟨by simp only; omega, h2, h3⟩ (by simp only; omega)
      by_cases h3 : x.kind = 3
      · simp (disch := omega) [hx, h3]
        refine wcall_flat (f_ref06_has x.text arrow (by simp [arrow]) (by omega) (by simp [arrow])) rfl fun _ => ?_
        simp (disch := omega) []
        refine BrK.mk (fun hb => ?_) (fun hb => ?_)
        · simp (disch := omega) []
          have hi := hi.out
          rw [if_pos ⟨h3, hb⟩] at hi
          exact fin _ out (by simp) (by omega) (by simpa using hi)
        · simp (disch := omega) [hx, h3]
          have hi := hi.out
          rw [if_neg (by simp [hb]), if_neg (by omega)] at hi
          exact fin _ (out ++ [x]) (by simp [h3]) (by simp; omega) (by simpa using hi)
      · by_cases h1 : x.kind = 1
        · have hi := hi.out
          rw [if_neg (by simp [h3]), if_pos h1] at hi
          have hf1 := fitting6_size x.name x.kids
          have hf2 := steadyF_size (fitting6 x.name x.kids)
          have hf3 := merge_size ((fitting6 x.name x.kids).flatMap steadyN)
          simp (disch := omega) [hx, h1]
          refine wcallD_pure (f_ref06_fitting x.name x.kids (by omega) (by omega) (fun n hn => by have := tsum_mem hn; omega)) (by simp) ?_
          simp (disch := omega) [hx, h1]
          refine wcallD_pure (hrec x hxm (fitting6 x.name x.kids) (fun y hy => (List.mem_filter.1 hy).1) hxk (by omega) (by omega)) (by simp) ?_
          simp (disch := omega) [hx, h1]
          refine wcallD_pure (f_ref06_fitting x.name (steady (fitting6 x.name x.kids)) (by omega) (by simp only [steady]; omega) (fun n hn => by have := tsum_mem hn; simp only [steady] at this; omega)) (by simp) ?_
          simp (disch := omega) [hx, h1]
          exact fin _ (out ++ [⟨x.kind, x.name, x.attrs, x.text, fitting6 x.name (merge ((fitting6 x.name x.kids).flatMap steadyN))⟩]) (by simp [h1, steady]) (by simp; omega) (by simpa using hi)
        · have hi := hi.out
          rw [if_neg (by simp [h3]), if_neg h1] at hi
          simp (disch := omega) [hx, h1, h3]
          exact fin _ (out ++ [x]) (by simp) (by simp; omega) (by simpa using hi)
  have all : ∀ l : List Node, ∀ n ∈ l, ∀ l' : List Node, (∀ y ∈ l', y ∈ n.kids) → allNs fine6 n.kids → l'.length ≤ 1000 → tsum l' ≤ 1000000 → Fn Tryz.prog n_ref06_Steady [.seq 5 (l'.map Node.v)] (.seq 5 ((steady l').map Node.v)) := by
    refine nodes_ind (fun x hx => by cases hx) ?_
    intro n l h1 h2 x hx
    rcases List.mem_cons.1 hx with rfl | hx
    · intro l' hs hf
      exact key l' (fun m hm => h1 m (hs m hm)) (fun m hm => allNs_mem hf (hs m hm))
    · exact h2 x hx
  exact fun l hf => key l (all l) (fun n hn => allNs_mem hf hn)
end Go.Abs
