/-
  What strainerref13's functions answer: the lists of a policy that may be. No condition.
-/
import Derived.Test.YtjhcljlogdcbbaaGreatF3
set_option linter.unusedVariables false
set_option linter.unusedSimpArgs false
set_option maxHeartbeats 4000000
set_option maxRecDepth 100000
namespace Go.Abs
open Go.Proofs
attribute [-simp] getElem?_pos
theorem wcall_jk {P : Program} {d f vs us} {K : St → Prop} {σ : St} {r : V} (h : Fn P f us r) (hf : flat (jk r) = true) (k : ok (jk r) → K (σ.put d (jk r))) : wcall (Cn P) d f vs us K σ := wcall_flat (Fn.jk h) hf k
theorem flat_ite {l : List V} {sz : Nat} : flat (if l = [] then V.seq sz l else V.junk) = true := by split <;> simp [flat, *]
theorem flat_itm {α : Type} {f : α → V} {l : List α} {sz : Nat} : flat (if l = [] then V.seq sz (l.map f) else V.junk) = true := by split <;> simp [flat, *]
theorem flats_str : ∀ {l : List Str}, flats (l.map V.str) = true
  | [] => rfl
  | _ :: l => by simp [flats, flat, flats_str (l := l)]
attribute [simp] flat_ite flat_itm flats_str
def void (s : Str) : Bool := decide (s = [98, 114]) || (decide (s = [104, 114]) || (decide (s = [105, 109, 103]) || (decide (s = [105, 110, 112, 117, 116]) || decide (s = [119, 98, 114]))))
theorem f_ref03_Void (s : Str) : Fn Tryz.prog n_ref03_Void [.str s] (.bool (void s)) := by
  refine Fn.of_image mixed h_ref03_Void i_ref03_Void rfl fun ho => ?_
  unfold c_ref03_Void
  simp only [oks, ok, and_true] at ho
  simp (disch := omega) [c_ref03_Void, void]
  repeat' (first | (refine BrKd.mk (fun h => ?_) (fun h => ?_) <;> simp (disch := omega) [*]) | (refine BrK.mk (fun h => ?_) (fun h => ?_) <;> simp (disch := omega) [*]))
def raw (s : Str) : Bool := decide (s = [115, 99, 114, 105, 112, 116]) || decide (s = [115, 116, 121, 108, 101])
theorem f_ref03_Raw (s : Str) : Fn Tryz.prog n_ref03_Raw [.str s] (.bool (raw s)) := by
  refine Fn.of_image mixed h_ref03_Raw i_ref03_Raw rfl fun ho => ?_
  unfold c_ref03_Raw
  simp only [oks, ok, and_true] at ho
  simp (disch := omega) [c_ref03_Raw, raw]
  repeat' (first | (refine BrKd.mk (fun h => ?_) (fun h => ?_) <;> simp (disch := omega) [*]) | (refine BrK.mk (fun h => ?_) (fun h => ?_) <;> simp (disch := omega) [*]))
def closesL (o : Str) : List Str :=
  if o = [112] then [[98, 108, 111, 99, 107, 113, 117, 111, 116, 101], [100, 105, 118], [104, 49], [104, 50], [104, 114], [108, 105], [111, 108], [112], [112, 114, 101], [116, 97, 98, 108, 101], [117, 108]]
  else if o = [108, 105] then [[108, 105]]
  else if o = [100, 116] ∨ o = [100, 100] then [[100, 100], [100, 116]]
  else if o = [111, 112, 116, 105, 111, 110] then [[111, 112, 116, 105, 111, 110]]
  else if o = [116, 100] then [[116, 100], [116, 114]]
  else if o = [116, 114] then [[116, 114]]
  else []
def closes (o b : Str) : Bool := hasS (closesL o) b
theorem f_ref06_Closes (o b : Str) : Fn Tryz.prog n_ref06_Closes [.str o, .str b] (.bool (closes o b)) := by
  refine Fn.of_image mixed h_ref06_Closes i_ref06_Closes rfl fun ho => ?_
  unfold c_ref06_Closes
  simp only [oks, ok, and_true] at ho
  simp (disch := omega) [c_ref06_Closes]
  generalize hr : closes o b = r
  have hlen : (closesL o).length ≤ 11 := by unfold closesL; repeat' (split <;> try simp)
  repeat' (first | (refine BrKd.mk (fun h => ?_) (fun h => ?_) <;> simp (disch := omega) [*]) | (refine BrK.mk (fun h => ?_) (fun h => ?_) <;> simp (disch := omega) [*]))
  all_goals
    by_cases hc : closesL o = []
    · refine W_loop (fun k : Nat => ⟨[(1, .str b), (5, .nil 1), (6, .int .i64 0)], []⟩) (fun k => k = 0) (fun k => 0 - k) [] _ 0 rfl (by revert hc; simp [*, closesL]) rfl ?_
      rintro k rfl N hN
      simp [← hr, closes, hc, hasS]
    refine W_loop (fun k : Nat => ⟨[(1, .str b), (5, .seq 1 ((closesL o).map .str)), (6, .int .i64 k)], []⟩) (fun k => k ≤ (closesL o).length ∧ hasS ((closesL o).drop k) b = r) (fun k => (closesL o).length - k) [] _ 0 rfl (by revert hc; simp [*, closesL]) (by simp [← hr, closes]) ?_
    clear hr hc
    generalize closesL o = l at *
    rintro k ⟨hk, hi⟩ N hN
    rcases place l k hk with ⟨he, hd⟩ | ⟨hlt, x, hx, hd⟩ <;> rw [hd] at hi <;> replace hi := hid hi
    · simp (disch := omega) [he]
      simpa [hasS] using hi.out
    · simp (disch := omega) [hx]
      repeat' (first | (refine BrKd.mk (fun h => ?_) (fun h => ?_) <;> simp (disch := omega) [*]) | (refine BrK.mk (fun h => ?_) (fun h => ?_) <;> simp (disch := omega) [*]))
      all_goals first
        | (refine hN.out _ <| Nx.mk (k + 1) (by simp [*]) ⟨by omega, ?_⟩ (by omega); simpa (disch := omega) [*, decide_eq_true, decide_eq_false, hasS] using hi.out)
        | (first | simpa (disch := omega) [*, decide_eq_true, decide_eq_false, hasS] using hi.out.symm | simpa (disch := omega) [*, decide_eq_true, decide_eq_false, hasS] using hi.out)
def onceL : List Str → List Str → Bool
  | _, [] => true
  | pre, x :: l => !hasS pre x && onceL (pre ++ [x]) l
def once (l : List Str) : Bool := onceL [] l
theorem f_ref13_once (l : List Str) : Fn Tryz.prog n_ref13_once [.seq 1 (l.map .str)] (.bool (once l)) := by
  refine Fn.of_image mixed h_ref13_once i_ref13_once rfl fun ho => ?_
  unfold c_ref13_once
  simp only [oks, ok, and_true] at ho
  have hlen : l.length ≤ 140737488355328 := by have := ho.1; simpa using this
  simp (disch := omega) [c_ref13_once]
  generalize hr : once l = r
  refine W_loop (fun k : Nat => ⟨[(0, .seq 1 (l.map .str)), (3, .int .i64 k)], []⟩) (fun k => k ≤ l.length ∧ onceL (l.take k) (l.drop k) = r) (fun k => l.length - k) [] _ 0 rfl (by simp [*]) (by simp [*, ← hr, once]) ?_
  rintro k ⟨hk, hi⟩ N hN
  rcases place l k hk with ⟨he, hd⟩ | ⟨hlt, x, hx, hd⟩ <;> rw [hd] at hi <;> replace hi := hid hi
  · simp (disch := omega) [he]
    simpa [onceL] using hi.out
  · simp (disch := omega) [hx]
    refine wcallD_flat (by simpa [List.map_take] using f_ref13_Has (l.take k) x) rfl ?_
    simp (disch := omega) []
    refine BrK.mk (fun h => ?_) (fun h => ?_)
    · simp (disch := omega) []
      have hi := hi.out
      simpa [onceL, h] using hi
    · simp (disch := omega) []
      refine hN.out _ <| Nx.mk (k + 1) (by simp [*]) ⟨by omega, ?_⟩ (by omega)
      have hi := hi.out
      simp [onceL, h] at hi
      rw [take_snoc hx]; exact hi
def hText : Str := [35, 116, 101, 120, 116]
def hComment : Str := [35, 99, 111, 109, 109, 101, 110, 116]
def kidOK (p : Policy) (par x : Str) : Bool := !(void par || (raw par && !decide (x = hText))) && ((decide (x = hText) || decide (x = hComment)) || ((findE p.elements x).isSome && !closes par x))
def kids (p : Policy) (par : Str) (l : List Str) : Bool := l.all (kidOK p par) && once l
theorem f_ref13_kids (p : Policy) (par : Str) (l : List Str) : Fn Tryz.prog n_ref13_kids [p.v, .str par, .seq 1 (l.map .str)] (.bool (kids p par l)) := by
  refine Fn.of_image mixed h_ref13_kids i_ref13_kids rfl fun ho => ?_
  unfold c_ref13_kids
  simp only [oks, ok, and_true] at ho
  have hlen : l.length ≤ 140737488355328 := by have := ho.2.2.1; simpa using this
  simp (disch := omega) [c_ref13_kids]
  refine wcall_flat (f_ref03_Void _) rfl fun _ => ?_
  simp (disch := omega) []
  refine wcall_flat (f_ref03_Raw _) rfl fun _ => ?_
  simp (disch := omega) []
  generalize hr : kids p par l = r
  refine W_loop (fun k : Nat => ⟨[(1, .str par), (2, .seq 1 (l.map .str)), (3, .ptr 0 0), (7, .bool (void par)), (8, .bool (raw par)), (9, .int .i64 k)], [some (.box [.seq 1 (p.top.map .str), .seq 3 (p.elements.map Allowed.v), .seq 1 (p.unwrap.map .str)])]⟩) (fun k => k ≤ l.length ∧ ((l.drop k).all (kidOK p par) && once l) = r) (fun k => l.length - k) [] _ 0 rfl (by simp [*]) (by simp [*, ← hr, kids]) ?_
  rintro k ⟨hk, hi⟩ N hN
  rcases place l k hk with ⟨he, hd⟩ | ⟨hlt, x, hx, hd⟩ <;> rw [hd] at hi <;> replace hi := hid hi
  · simp (disch := omega) [he]
    refine wcall_flat (f_ref13_once _) rfl fun _ => ?_
    have hi := hi.out
    simp at hi
    simp (disch := omega) [hi]
  · simp only [List.all_cons] at hi
    have hfin : kidOK p par x = false → r = false := fun h => by have hi := hi.out; rw [h] at hi; simpa using hi.symm
    have hgo : kidOK p par x = true → ((l.drop (k + 1)).all (kidOK p par) && once l) = r := fun h => by have hi := hi.out; rw [h] at hi; simpa using hi
    replace hfin := hid hfin
    replace hgo := hid hgo
    simp (disch := omega) [hx]
    repeat' (first
      | (refine BrKd.mk (fun h => ?_) (fun h => ?_) <;> simp (disch := omega) [*])
      | (refine BrK.mk (fun h => ?_) (fun h => ?_) <;> simp (disch := omega) [*])
      | (refine wcallD_flat (Fn.jk (f_ref13_Find p x)) (by simp) ?_ <;> simp (disch := omega) [*])
      | (refine wcall_flat (f_ref06_Closes par x) rfl (fun _ => ?_) <;> simp (disch := omega) [*]))
    all_goals
      cases hf : findE p.elements x
      all_goals
        first
        | (exfalso; simp_all; done)
        | (refine hN.out _ <| Nx.mk (k + 1) (by simp [*]) ⟨by omega, hgo.out ?_⟩ (by omega); simp_all [kidOK, hText, hComment]; done)
        | (rw [hfin.out ?_]; simp_all [kidOK, hText, hComment]; done)
        | (refine (hfin.out ?_).symm; simp_all [kidOK, hText, hComment]; done)
        | (refine (hfin.out ?_); simp_all [kidOK, hText, hComment]; done)
def fitGo (p : Policy) (par : Str) : List Str → List Str → List Str
  | out, [] => out
  | out, x :: l => fitGo p par (if kids p par (out ++ [x]) then out ++ [x] else out) l
def fitting (p : Policy) (par : Str) (l : List Str) : List Str := fitGo p par [] (l.take 8)
theorem fitGo_len (p : Policy) (par : Str) : ∀ (l out : List Str), (fitGo p par out l).length ≤ out.length + l.length
  | [], out => by simp [fitGo]
  | w :: l, out => by
    simp only [fitGo]
    split
    · have := fitGo_len p par l (out ++ [w]); simp at this ⊢; omega
    · have := fitGo_len p par l out; simp at this ⊢; omega
theorem fitting_len (p : Policy) (par : Str) (l : List Str) : (fitting p par l).length ≤ 8 := by
  have := fitGo_len p par (l.take 8) []
  simp at this; simp only [fitting]; omega
theorem f_ref13_fitting (p : Policy) (par : Str) (l : List Str) : FnN Tryz.prog n_ref13_fitting [p.v, .str par, .seq 1 (l.map .str)] (.seq 1 ((fitting p par l).map .str)) := by
  refine FnN.of_image mixed h_ref13_fitting i_ref13_fitting rfl fun ho => ?_
  have hlen : l.length ≤ 140737488355328 := by have := ho.2.2.1.1; simpa using this
  unfold c_ref13_fitting
  simp (disch := omega) []
  generalize hw : fitting p par l = w
  have hl8 : (List.take 8 l).length = min 8 l.length := List.length_take
  refine W_loop (fun (q : Nat × List Str) => ⟨[(1, .str par), (2, .seq 1 (l.map .str)), (3, .ptr 0 0), (7, .ref 1 q.2.length), (8, .int .i64 q.1)],
    [some (.box [.seq 1 (p.top.map .str), .seq 3 (p.elements.map Allowed.v), .seq 1 (p.unwrap.map .str)]), some (.arr ty_string 1 (q.2.map .str))]⟩)
    (fun q => q.1 ≤ (List.take 8 l).length ∧ q.2.length ≤ q.1 ∧ fitGo p par q.2 ((List.take 8 l).drop q.1) = w) (fun q => (List.take 8 l).length - q.1) [.r 7 ty_string 1] _ (0, []) rfl (by simp) (by simp [← hw, fitting]) ?_
  rintro ⟨k, out⟩ ⟨hk, hol, hi⟩ N hN
  simp only at hk hol hi
  rcases place (List.take 8 l) k hk with ⟨he, hd⟩ | ⟨hlt, x, hx, hd⟩ <;> rw [hd, fitGo] at hi
  · subst hi
    simp (disch := omega) []
    repeat' (first | (refine BrKd.mk (fun h => ?_) (fun h => ?_) <;> simp (disch := omega) [*]) | (refine BrK.mk (fun h => ?_) (fun h => ?_) <;> simp (disch := omega) [*]))
    all_goals first | omega | simp [*]
  · have hx2 : l[k]? = some x := by rw [List.getElem?_take] at hx; simpa [show k < 8 by omega] using hx
    replace hi := hid hi
    simp (disch := omega) [hx2]
    refine wcall_flat (by simpa using f_ref13_kids p par (out ++ [x])) rfl fun _ => ?_
    simp (disch := omega) []
    refine BrK.mk (fun hb => ?_) (fun hb => ?_)
    · simp (disch := omega) []
      refine hN.out _ <| Nx.mk (k + 1, out ++ [x]) (by simp) ⟨by simp only; omega, by simp; omega, ?_⟩ (by simp only; omega)
      have hi := hi.out
      rw [if_pos hb] at hi
      simpa using hi
    · simp (disch := omega) []
      refine hN.out _ <| Nx.mk (k + 1, out) (by simp) ⟨by simp only; omega, by simp only; omega, ?_⟩ (by simp only; omega)
      have hi := hi.out
      rw [if_neg (by simp [hb])] at hi
      simpa using hi
end Go.Abs
