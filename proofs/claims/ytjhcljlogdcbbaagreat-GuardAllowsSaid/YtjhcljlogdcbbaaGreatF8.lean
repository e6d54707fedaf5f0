/-
  What strainerref13's and strainerref21's functions answer: lists, patterns, rules, guards. No condition.
-/
import Derived.Test.YtjhcljlogdcbbaaGreatF7
set_option linter.unusedVariables false
set_option linter.unusedSimpArgs false
set_option maxHeartbeats 4000000
set_option maxRecDepth 100000
namespace Go.Abs
open Go.Proofs
attribute [-simp] getElem?_pos Option.not_isSome
def listP (p : Policy) (par : Str) : List Str := if par = [] then p.top else ((findE p.elements par).getD .zero).kids
theorem f_ref13_List (p : Policy) (par : Str) : Fn Tryz.prog n_ref13_List [p.v, .str par] (.seq 1 ((listP p par).map .str)) := by
  refine Fn.of_image mixed h_ref13_List i_ref13_List rfl fun ho => ?_
  unfold c_ref13_List
  simp only [oks, ok, and_true] at ho
  clear ho
  simp (disch := omega) [listP]
  refine BrKd.mk (fun h => ?_) (fun h => ?_)
  · simp (disch := omega) [h]
  · simp (disch := omega) [h]
    refine wcall_pure (f_ref13_Find p par) (by simp) fun _ => ?_
    simp (disch := omega) [h]
def insideP (p : Policy) (par : Str) (n : Node) : Bool :=
  if n.kind = 2 then hasS (listP p par) hText else if n.kind = 3 then hasS (listP p par) hComment else decide (n.kind = 1) && hasS (listP p par) n.name
theorem f_ref13_Inside (p : Policy) (par : Str) (n : Node) : Fn Tryz.prog n_ref13_Inside [p.v, .str par, n.v] (.bool (insideP p par n)) := by
  refine Fn.of_image mixed h_ref13_Inside i_ref13_Inside rfl fun ho => ?_
  unfold c_ref13_Inside
  simp only [oks, ok, and_true] at ho
  clear ho
  simp (disch := omega) [insideP]
  refine wcall_pure (f_ref13_List p par) (by simp) fun _ => ?_
  simp (disch := omega) []
  repeat' (first
    | (refine BrKd.mk (fun h => ?_) (fun h => ?_) <;> simp (disch := omega) [*])
    | (refine BrK.mk (fun h => ?_) (fun h => ?_) <;> simp (disch := omega) [*])
    | (refine wcall_flat (f_ref13_Has (listP p par) _) rfl (fun _ => ?_) <;> simp (disch := omega) [hText, hComment, *]))
def fits (pat nm : Str) : Bool := plain (stem pat).1 && (if (stem pat).2 then begins nm (stem pat).1 else decide (nm = (stem pat).1))
theorem f_ref13_Fits (pat nm : Str) : Fn Tryz.prog n_ref13_Fits [.str pat, .str nm] (.bool (fits pat nm)) := by
  refine Fn.of_image mixed h_ref13_Fits i_ref13_Fits rfl fun ho => ?_
  unfold c_ref13_Fits
  simp only [oks, ok, and_true] at ho
  have hs : (stem pat).1.length ≤ pat.length := by
    unfold stem
    split
    · split <;> simp
    · simp
  simp (disch := omega) [fits]
  refine wcall_flat (f_ref13_stem _) rfl fun _ => ?_
  simp (disch := omega) []
  refine wcall_flat (f_ref13_plain _) rfl fun _ => ?_
  generalize (stem pat).1 = a at *
  generalize (stem pat).2 = b at *
  simp (disch := omega) []
  repeat' (first | (refine BrKd.mk (fun h => ?_) (fun h => ?_) <;> simp (disch := omega) [*]) | (refine BrK.mk (fun h => ?_) (fun h => ?_) <;> simp (disch := omega) [*]))
  all_goals simp [begins, *]
def findR : List Rule → Str → Option Rule
  | [], _ => none
  | r :: l, s => if fits r.name s then some r else findR l s
def Rule.zero : Rule := ⟨[], ⟨0, [], []⟩, false⟩
theorem f_ref13_Rule (e : Allowed) (s : Str) : Fn Tryz.prog n_ref13_Rule [e.v, .str s] (.tup [((findR e.rules s).getD .zero).v, .bool (findR e.rules s).isSome]) := by
  refine Fn.of_image mixed h_ref13_Rule i_ref13_Rule rfl fun ho => ?_
  unfold c_ref13_Rule
  simp only [oks, ok, and_true] at ho
  have hlen : e.rules.length ≤ 140737488355328 := by have := ho.1; simp at this; exact this.2.2.1
  clear ho
  simp (disch := omega) []
  generalize hr : findR e.rules s = r
  refine W_loop (fun k : Nat => ⟨[(1, .str s), (2, .ptr 0 0), (4, .ptr 1 0), (6, .int .i64 k)], [some (.box [.str e.name, .seq 1 (e.kids.map .str), .seq 5 (e.rules.map Rule.v)]), some (.box [.str [], .int .i64 0, .nil 1, .str [], .bool false])]⟩) (fun k => k ≤ e.rules.length ∧ findR (e.rules.drop k) s = r) (fun k => e.rules.length - k) [] _ 0 rfl (by simp [*]) (by simp [*]) ?_
  rintro k ⟨hk, hi⟩ N hN
  rcases place e.rules k hk with ⟨he, hd⟩ | ⟨hlt, x, hx, hd⟩ <;> rw [hd] at hi <;> replace hi := hid hi
  · simp (disch := omega) [he]
    simp [← hi.out, findR, Rule.zero]
  · simp (disch := omega) [hx]
    refine wcall_flat (f_ref13_Fits _ _) rfl fun _ => ?_
    simp (disch := omega) []
    refine BrK.mk (fun h => ?_) (fun h => ?_)
    · simp (disch := omega) [hx]
      have hi := hi.out
      simp [findR, h] at hi
      subst hi
      simp
    · simp (disch := omega) []
      refine hN.out _ <| Nx.mk (k + 1) (by simp [*]) ⟨by omega, ?_⟩ (by omega)
      have hi := hi.out
      simpa [findR, h] using hi
def kept21 (l : List Str) : List Str := l.filter (fun s => !namedD s)
theorem f_ref21_kept (l : List Str) (hl : l.length ≤ 1099511627776) : FnN Tryz.prog n_ref21_kept [.seq 1 (l.map .str)] (.seq 1 ((kept21 l).map .str)) := by
  refine FnN.of_image mixed h_ref21_kept i_ref21_kept rfl fun ho => ?_
  unfold c_ref21_kept
  clear ho
  simp (disch := omega) []
  generalize hw : kept21 l = w
  refine W_loop (fun (q : Nat × List Str) => ⟨[(0, .seq 1 (l.map .str)), (3, .ref 0 q.2.length), (4, .int .i64 q.1)], [some (.arr ty_string 1 (q.2.map .str))]⟩)
    (fun q => q.1 ≤ l.length ∧ q.2.length ≤ q.1 ∧ q.2 ++ kept21 (l.drop q.1) = w) (fun q => l.length - q.1) [.r 3 ty_string 1] _ (0, []) rfl (by simp) (by simp [← hw]) ?_
  rintro ⟨k, out⟩ ⟨hk, hol, hi⟩ N hN
  simp only at hk hol hi
  rcases place l k hk with ⟨he, hd⟩ | ⟨hlt, x, hx, hd⟩ <;> rw [hd] at hi
  · simp [kept21] at hi
    subst hi
    simp (disch := omega) [he]
  · simp only [kept21, List.filter_cons] at hi
    replace hi := hid hi
    simp (disch := omega) [hx]
    refine wcall_flat (f_ref21_Named x) rfl fun _ => ?_
    simp (disch := omega) []
    refine BrK.mk (fun h => ?_) (fun h => ?_)
    · simp (disch := omega) []
      have hi := hi.out
      refine hN.out _ <| Nx.mk (k + 1, out) (by simp) ⟨by simp only; omega, by simp only; omega, ?_⟩ (by simp only; omega)
      simpa [h, kept21] using hi
    · simp (disch := omega) [hx]
      have hi := hi.out
      refine hN.out _ <| Nx.mk (k + 1, out ++ [x]) (by simp) ⟨by simp only; omega, by simp; omega, ?_⟩ (by simp only; omega)
      simpa [h, kept21] using hi
def onC : Constraint := ⟨4, [], [91, 94, 32, 45, 126, 93]⟩
def sOn : Str := [111, 110, 42]
def guardHead : List Rule := [⟨sOn, onC, false⟩, ⟨[97, 99, 116, 105, 111, 110], safeC, false⟩, ⟨[104, 114, 101, 102], safeC, false⟩, ⟨[115, 114, 99], safeC, false⟩]
def guardRest (l : List Rule) : List Rule := (l.filter (fun r => !placeN r.name && !decide (r.name = sOn))).map fun r => ⟨r.name, ⟨1, [], []⟩, false⟩
def guardEl (e : Allowed) : Allowed := ⟨e.name, kept21 e.kids, guardHead ++ guardRest e.rules⟩
def guardEls (l : List Allowed) : List Allowed := (l.filter (fun e => !namedD e.name)).map guardEl
def guard21 (p : Policy) : Policy := ⟨kept21 p.top, guardEls p.elements, []⟩
def Policy.few (p : Policy) : Prop := p.top.length ≤ 1000000 ∧ p.elements.length ≤ 1000000 ∧ ∀ e ∈ p.elements, e.kids.length ≤ 1000000 ∧ e.rules.length ≤ 1000000
theorem f_ref21_Guard (p : Policy) (hp : p.few) : Fn Tryz.prog n_ref21_Guard [p.v] (guard21 p).v := by
  refine Fn.of_image mixed h_ref21_Guard i_ref21_Guard rfl fun ho => ?_
  unfold c_ref21_Guard
  simp only [oks, ok, and_true] at ho
  obtain ⟨hp1, hp2, hp3⟩ := hp
  clear ho
  simp (disch := omega) []
  refine wcall_new (f_ref21_kept p.top (by omega)) fun _ => ?_
  generalize hT : kept21 p.top = T
  simp (disch := omega) []
  generalize hw : guardEls p.elements = w
  refine W_loop (fun (q : Nat × List Allowed) => ⟨[(1, .ptr 0 0), (2, .ptr 1 0), (3, .ptr 2 0), (4, .ptr 3 0), (5, .int .i64 q.1)],
    [some (.box [.seq 1 (p.top.map .str), .seq 3 (p.elements.map Allowed.v), .seq 1 (p.unwrap.map .str)]), some (.box [.nil 1, .nil 3, .nil 1]), some (.box [.seq 1 (T.map .str), .ref 4 q.2.length, .nil 1]), some (.box safeC.c), some (.arr ty_api_Allowed 3 (q.2.map Allowed.v))]⟩)
    (fun q => q.1 ≤ p.elements.length ∧ q.2.length ≤ q.1 ∧ q.2 ++ guardEls (p.elements.drop q.1) = w) (fun q => p.elements.length - q.1) [.b 2 1 ty_api_Allowed 3] _ (0, []) rfl (by simp [safeC]) (by simp [← hw]) ?_
  rintro ⟨k, out⟩ ⟨hk, hol, hi⟩ N hN
  simp only at hk hol hi
  rcases place p.elements k hk with ⟨he, hd⟩ | ⟨hlt, x, hx, hd⟩ <;> rw [hd] at hi
  · simp [guardEls] at hi
    subst hi
    simp (disch := omega) [he]
    simp [guard21, ← hw, hT]
  · obtain ⟨hx1, hx2⟩ := hp3 x (List.mem_of_getElem? hx)
    simp only [guardEls, List.filter_cons] at hi
    replace hi := hid hi
    simp (disch := omega) [hx]
    refine wcall_flat (f_ref21_Named x.name) rfl fun _ => ?_
    simp (disch := omega) []
    refine BrK.mk (fun h => ?_) (fun h => ?_)
    · simp (disch := omega) []
      have hi := hi.out
      refine hN.out _ <| Nx.mk (k + 1, out) (by simp) ⟨by simp only; omega, by simp only; omega, ?_⟩ (by simp only; omega)
      simpa [h, guardEls] using hi
    · have hi := hi.out
      have hi2 : (out ++ [guardEl x]) ++ guardEls (p.elements.drop (k + 1)) = w := by simpa [h, guardEls] using hi
      clear hi
      replace hi2 := hid hi2
      simp (disch := omega) [hx]
      refine wcallD_new (f_ref21_kept x.kids (by omega)) ?_
      simp (disch := omega) [hx, safeC]
      generalize hg : guardRest x.rules = gr
      refine W_loop (fun (q : Nat × List Rule) => ⟨[(1, .ptr 0 0), (2, .ptr 1 0), (3, .ptr 2 0), (4, .ptr 3 0), (5, .int .i64 k), (6, .ptr 4 0), (8, .ptr 5 0), (9, .int .i64 q.1)],
        [some (.box [.seq 1 (p.top.map .str), .seq 3 (p.elements.map Allowed.v), .seq 1 (p.unwrap.map .str)]), some (.box [.nil 1, .nil 3, .nil 1]), some (.box [.seq 1 (T.map .str), .ref 6 out.length, .nil 1]), some (.box safeC.c),
         some (.box [.str x.name, .seq 1 (x.kids.map .str), .seq 5 (x.rules.map Rule.v)]), some (.box [.str x.name, .seq 1 ((kept21 x.kids).map .str), .ref 7 (4 + q.2.length)]), some (.arr ty_api_Allowed 3 (out.map Allowed.v)), some (.arr ty_api_Rule 5 ((guardHead ++ q.2).map Rule.v))]⟩)
        (fun q => q.1 ≤ x.rules.length ∧ q.2.length ≤ q.1 ∧ q.2 ++ guardRest (x.rules.drop q.1) = gr) (fun q => x.rules.length - q.1) [] _ (0, []) rfl (by simp [safeC, guardHead, onC, sOn]) (by simp [← hg]) ?_
      rintro ⟨j, rs⟩ ⟨hj, hrl, hi⟩ N2 hN2
      simp only at hj hrl hi
      have hgh : guardHead.length = 4 := rfl
      rcases place x.rules j hj with ⟨he2, hd2⟩ | ⟨hlt2, y, hy, hd2⟩ <;> rw [hd2] at hi
      · simp [guardRest] at hi
        subst hi
        simp (disch := omega) [he2, hgh]
        refine hN.out _ <| Nx.mk (k + 1, out ++ [guardEl x]) (by simp [guardEl, hg, safeC]) ⟨by simp only; omega, by simp; omega, hi2.out⟩ (by simp only; omega)
      · simp only [guardRest, List.filter_cons] at hi
        replace hi := hid hi
        simp (disch := omega) [hy, hgh]
        refine wcall_flat (f_ref21_place y.name) rfl fun _ => ?_
        simp (disch := omega) [hy, hgh]
        have no : (!placeN y.name && !decide (y.name = sOn)) = false → rs ++ guardRest (x.rules.drop (j + 1)) = gr := fun h => by have hi := hi.out; rw [if_neg (by simp [h])] at hi; exact hi
        have yes : (!placeN y.name && !decide (y.name = sOn)) = true → (rs ++ [⟨y.name, ⟨1, [], []⟩, false⟩]) ++ guardRest (x.rules.drop (j + 1)) = gr := fun h => by have hi := hi.out; rw [if_pos h] at hi; simpa [guardRest] using hi
        replace no := hid no
        replace yes := hid yes
        refine BrK.mk (fun h1 => ?_) (fun h1 => ?_)
        · simp (disch := omega) [h1, hgh, hy]
          refine hN2.out _ <| Nx.mk (j + 1, rs) (by simp) ⟨by simp only; omega, by simp only; omega, no.out (by simp [h1])⟩ (by simp only; omega)
        · simp (disch := omega) [h1, hgh, hy]
          refine BrKd.mk (fun h2 => ?_) (fun h2 => ?_)
          · simp (disch := omega) [h1, h2, hgh, hy]
            refine hN2.out _ <| Nx.mk (j + 1, rs) (by simp) ⟨by simp only; omega, by simp only; omega, no.out (by simp [h2, sOn])⟩ (by simp only; omega)
          · simp (disch := omega) [h1, h2, hy, hgh]
            refine hN2.out _ <| Nx.mk (j + 1, rs ++ [⟨y.name, ⟨1, [], []⟩, false⟩]) (by simp [Nat.add_assoc]) ⟨by simp only; omega, by simp; omega, yes.out (by simp [h1, h2, sOn])⟩ (by simp only; omega)
end Go.Abs
