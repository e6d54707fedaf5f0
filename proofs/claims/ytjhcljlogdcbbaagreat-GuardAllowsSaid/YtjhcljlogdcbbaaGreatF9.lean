/-
  What strainerref15's functions answer: which nodes a policy allows. No condition.
-/
import Derived.Test.YtjhcljlogdcbbaaGreatF8
set_option linter.unusedVariables false
set_option linter.unusedSimpArgs false
set_option maxHeartbeats 4000000
set_option maxRecDepth 100000
namespace Go.Abs
open Go.Proofs
attribute [-simp] getElem?_pos Option.not_isSome
def attrOK (A : Constraint → Str → Bool) (e : Allowed) (a : Attr) : Bool := match findR e.rules a.name with
  | some r => A r.value a.value
  | none => false
theorem findR_mem : ∀ {l : List Rule} {s : Str} {r : Rule}, findR l s = some r → r ∈ l ∧ fits r.name s = true
  | [], s, r, h => by simp [findR] at h
  | x :: l, s, r, h => by
    simp only [findR] at h
    split at h
    · cases h; exact ⟨by simp, by assumption⟩
    · obtain ⟨h1, h2⟩ := findR_mem h; exact ⟨by simp [h1], h2⟩
theorem f_ref15_Attr (A : Constraint → Str → Bool) (e : Allowed) (a : Attr) (hA : ∀ r ∈ e.rules, Fn Tryz.prog n_ref12_Allows [r.value.v, .str a.value] (.bool (A r.value a.value))) :
    Fn Tryz.prog n_ref15_Attr [e.v, a.v] (.bool (attrOK A e a)) := by
  refine Fn.of_image mixed h_ref15_Attr i_ref15_Attr rfl fun ho => ?_
  unfold c_ref15_Attr
  simp only [oks, ok, and_true] at ho
  clear ho
  simp (disch := omega) [attrOK]
  refine wcall_pure (f_ref13_Rule e a.name) (by simp) fun _ => ?_
  cases hf : findR e.rules a.name with
  | none =>
    simp (disch := omega) [hf]
  | some r =>
    simp (disch := omega) [hf]
    refine wcall_flat (by simpa using hA r (findR_mem hf).1) rfl fun _ => ?_
    simp (disch := omega) []
def keptA (A : Constraint → Str → Bool) (e : Allowed) (l : List Attr) : List Attr := l.filter (attrOK A e)
theorem f_ref15_Kept (A : Constraint → Str → Bool) (e : Allowed) (l : List Attr) (hl : l.length ≤ 1000000) (hA : ∀ r ∈ e.rules, ∀ a ∈ l, Fn Tryz.prog n_ref12_Allows [r.value.v, .str a.value] (.bool (A r.value a.value))) :
    FnN Tryz.prog n_ref15_Kept [e.v, .seq 2 (l.map Attr.v)] (.seq 2 ((keptA A e l).map Attr.v)) := by
  refine FnN.of_image mixed h_ref15_Kept i_ref15_Kept rfl fun ho => ?_
  unfold c_ref15_Kept
  clear ho
  simp (disch := omega) []
  generalize hw : keptA A e l = w
  refine W_loop (fun (q : Nat × List Attr) => ⟨[(1, .seq 2 (l.map Attr.v)), (2, .ptr 0 0), (5, .ref 1 q.2.length), (6, .int .i64 q.1)], [some (.box [.str e.name, .seq 1 (e.kids.map .str), .seq 5 (e.rules.map Rule.v)]), some (.arr ty_api_Attr 2 (q.2.map Attr.v))]⟩)
    (fun q => q.1 ≤ l.length ∧ q.2.length ≤ q.1 ∧ q.2 ++ keptA A e (l.drop q.1) = w) (fun q => l.length - q.1) [.r 5 ty_api_Attr 2] _ (0, []) rfl (by simp) (by simp [← hw]) ?_
  rintro ⟨k, out⟩ ⟨hk, hol, hi⟩ N hN
  simp only at hk hol hi
  have hfl : ∀ l : List Attr, flats (l.map Attr.v) = true := fun l => by induction l <;> simp [flats, flat, *]
  rcases place l k hk with ⟨he, hd⟩ | ⟨hlt, x, hx, hd⟩ <;> rw [hd] at hi
  · simp [keptA] at hi
    subst hi
    simp (disch := omega) [he, hfl]
  · simp only [keptA, List.filter_cons] at hi
    replace hi := hid hi
    simp (disch := omega) [hx]
    refine wcallD_flat (by simpa using f_ref15_Attr A e x (fun r hr => hA r hr x (List.mem_of_getElem? hx))) rfl ?_
    simp (disch := omega) []
    refine BrK.mk (fun h => ?_) (fun h => ?_)
    · simp (disch := omega) [hx]
      have hi := hi.out
      refine hN.out _ <| Nx.mk (k + 1, out ++ [x]) (by simp) ⟨by simp only; omega, by simp; omega, ?_⟩ (by simp only; omega)
      simpa [h, keptA] using hi
    · simp (disch := omega) [hx]
      have hi := hi.out
      refine hN.out _ <| Nx.mk (k + 1, out) (by simp) ⟨by simp only; omega, by simp only; omega, ?_⟩ (by simp only; omega)
      simpa [h, keptA] using hi
def valueL : List Attr → Str → Option Str
  | [], _ => none
  | a :: l, s => if a.name = s then some a.value else valueL l s
theorem f_ref03_Value (n : Node) (s : Str) : Fn Tryz.prog n_ref03_Value [n.v, .str s] (.tup [.str ((valueL n.attrs s).getD []), .bool (valueL n.attrs s).isSome]) := by
  refine Fn.of_image mixed h_ref03_Value i_ref03_Value rfl fun ho => ?_
  unfold c_ref03_Value
  simp only [oks, ok, and_true] at ho
  have hlen : n.attrs.length ≤ 140737488355328 := by have := ho.1; simp at this; exact this.2.2.1.1
  clear ho
  simp (disch := omega) []
  generalize hr : valueL n.attrs s = r
  refine W_loop (fun k : Nat => ⟨[(1, .str s), (2, .ptr 0 0), (6, .int .i64 k)], [some (.box [.int .i64 n.kind, .str n.name, .seq 2 (n.attrs.map Attr.v), .str n.text, .seq 5 (n.kids.map Node.v)])]⟩) (fun k => k ≤ n.attrs.length ∧ valueL (n.attrs.drop k) s = r) (fun k => n.attrs.length - k) [] _ 0 rfl (by simp [*]) (by simp [*]) ?_
  rintro k ⟨hk, hi⟩ N hN
  rcases place n.attrs k hk with ⟨he, hd⟩ | ⟨hlt, x, hx, hd⟩ <;> rw [hd] at hi <;> replace hi := hid hi
  · simp (disch := omega) [he]
    simp [← hi.out, valueL]
  · simp (disch := omega) [hx]
    refine BrKd.mk (fun h => ?_) (fun h => ?_)
    · simp (disch := omega) [hx]
      have hi := hi.out
      simp [valueL, h] at hi
      subst hi
      simp
    · simp (disch := omega) []
      refine hN.out _ <| Nx.mk (k + 1) (by simp [*]) ⟨by omega, ?_⟩ (by omega)
      have hi := hi.out
      simpa [valueL, h] using hi
def whole (e : Allowed) (l : List Attr) : Bool := e.rules.all fun r => !(r.req && !(valueL l r.name).isSome)
theorem f_ref15_Whole (e : Allowed) (l : List Attr) : Fn Tryz.prog n_ref15_Whole [e.v, .seq 2 (l.map Attr.v)] (.bool (whole e l)) := by
  refine Fn.of_image mixed h_ref15_Whole i_ref15_Whole rfl fun ho => ?_
  unfold c_ref15_Whole
  simp only [oks, ok, and_true] at ho
  have hlen : e.rules.length ≤ 140737488355328 := by have := ho.1; simp at this; exact this.2.2.1
  clear ho
  simp (disch := omega) []
  generalize hr : whole e l = r
  refine W_loop (fun k : Nat => ⟨[(1, .seq 2 (l.map Attr.v)), (2, .ptr 0 0), (5, .int .i64 k)], [some (.box [.str e.name, .seq 1 (e.kids.map .str), .seq 5 (e.rules.map Rule.v)])]⟩) (fun k => k ≤ e.rules.length ∧ ((e.rules.drop k).all fun r => !(r.req && !(valueL l r.name).isSome)) = r) (fun k => e.rules.length - k) [] _ 0 rfl (by simp [*]) (by simp [*, ← hr, whole]) ?_
  rintro k ⟨hk, hi⟩ N hN
  rcases place e.rules k hk with ⟨he, hd⟩ | ⟨hlt, x, hx, hd⟩ <;> rw [hd] at hi <;> replace hi := hid hi
  · simp (disch := omega) [he]
    simpa using hi.out
  · simp only [List.all_cons] at hi
    simp (disch := omega) [hx]
    refine wcall_flat (by simpa using f_ref03_Value ⟨0, [], l, [], []⟩ x.name) rfl fun _ => ?_
    simp (disch := omega) [hx]
    refine BrK.mk (fun h1 => ?_) (fun h1 => ?_)
    · simp (disch := omega) [h1]
      refine BrK.mk (fun h2 => ?_) (fun h2 => ?_)
      · simp (disch := omega) [h2]
        refine hN.out _ <| Nx.mk (k + 1) (by simp [*]) ⟨by omega, ?_⟩ (by omega)
        have hi := hi.out
        simpa [h1, h2] using hi
      · simp (disch := omega) [h2]
        have hi := hi.out
        simpa [h1, h2] using hi
    · simp (disch := omega) [h1]
      refine hN.out _ <| Nx.mk (k + 1) (by simp [*]) ⟨by omega, ?_⟩ (by omega)
      have hi := hi.out
      simpa [h1] using hi
def holds (A : Constraint → Str → Bool) (e : Allowed) (l : List Attr) : Bool := decide ((keptA A e l).length = l.length) && whole e l
theorem f_ref15_Holds (A : Constraint → Str → Bool) (e : Allowed) (l : List Attr) (hl : l.length ≤ 1000000) (hA : ∀ r ∈ e.rules, ∀ a ∈ l, Fn Tryz.prog n_ref12_Allows [r.value.v, .str a.value] (.bool (A r.value a.value))) :
    Fn Tryz.prog n_ref15_Holds [e.v, .seq 2 (l.map Attr.v)] (.bool (holds A e l)) := by
  refine Fn.of_image mixed h_ref15_Holds i_ref15_Holds rfl fun ho => ?_
  unfold c_ref15_Holds
  simp only [oks, ok, and_true] at ho
  clear ho
  simp (disch := omega) [holds]
  refine wcall_new (by simpa using f_ref15_Kept A e l hl hA) fun _ => ?_
  simp (disch := omega) []
  refine BrKd.mk (fun h => ?_) (fun h => ?_)
  · have h' : (keptA A e l).length = l.length := by omega
    simp (disch := omega) [h]
    refine wcall_flat (by simpa using f_ref15_Whole e l) rfl fun _ => ?_
    simp (disch := omega) [h, h']
  · have h' : ¬(keptA A e l).length = l.length := by omega
    simp (disch := omega) [h, h']
mutual
def allN (f : Node → Prop) : Node → Prop
  | ⟨k, n, a, t, ks⟩ => f ⟨k, n, a, t, ks⟩ ∧ allNs f ks
def allNs (f : Node → Prop) : List Node → Prop
  | [] => True
  | n :: l => allN f n ∧ allNs f l
end
mutual
def cntN : Node → Nat
  | ⟨k, n, a, t, ks⟩ => 1 + cntNs ks
def cntNs : List Node → Nat
  | [] => 0
  | n :: l => cntN n + cntNs l
end
theorem allN_eq (f : Node → Prop) (n : Node) : allN f n = (f n ∧ allNs f n.kids) := by cases n; simp [allN]
theorem cntN_eq (n : Node) : cntN n = 1 + cntNs n.kids := by cases n; simp [cntN]
theorem cnt_mem : ∀ {l : List Node} {n : Node}, n ∈ l → cntNs n.kids + 1 ≤ cntNs l
  | [], n, h => by cases h
  | x :: l, n, h => by
    simp only [cntNs, cntN_eq]
    rcases List.mem_cons.1 h with rfl | h
    · omega
    · have := cnt_mem h; omega
theorem allNs_mem {f : Node → Prop} : ∀ {l : List Node} {n : Node}, allNs f l → n ∈ l → f n ∧ allNs f n.kids
  | [], n, _, h => by cases h
  | x :: l, n, ha, h => by
    simp only [allNs, allN_eq] at ha
    rcases List.mem_cons.1 h with rfl | h
    · exact ha.1
    · exact allNs_mem ha.2 h
/-- Is a node where it may be, and holds it? -/
def nodeOK (A : Constraint → Str → Bool) (p : Policy) (par : Str) (n : Node) : Bool :=
  insideP p par n && (!decide (n.kind = 1) || holds A ((findE p.elements n.name).getD .zero) n.attrs)
mutual
def oddK (A : Constraint → Str → Bool) (p : Policy) : Node → Int × Nat
  | ⟨_, nm, _, _, ks⟩ => oddL A p nm ks 0
def oddL (A : Constraint → Str → Bool) (p : Policy) (par : Str) : List Node → Nat → Int × Nat
  | [], many => (-1, many)
  | n :: l, many => if nodeOK A p par n then (if 0 ≤ (oddK A p n).1 then ((many + 1 : Int) + (oddK A p n).1, many + 1) else oddL A p par l (many + 1 + (oddK A p n).2)) else (many, many)
end
theorem oddK_eq (A : Constraint → Str → Bool) (p : Policy) (n : Node) : oddK A p n = oddL A p n.name n.kids 0 := by cases n; simp [oddK]
theorem oddL_le (A : Constraint → Str → Bool) (p : Policy) : ∀ (l : List Node) (par : Str) (many : Nat), many ≤ (oddL A p par l many).2 ∧ (oddL A p par l many).2 ≤ many + cntNs l ∧ -1 ≤ (oddL A p par l many).1 ∧ (oddL A p par l many).1 ≤ many + cntNs l := by
  refine nodes_ind (fun par many => by simp [oddL, cntNs]) ?_
  intro n l h1 h2 par many
  have g1 := h1 n.name 0
  simp only [oddL, cntNs, cntN_eq, oddK_eq]
  split
  · split
    · simp only; omega
    · have g2 := h2 par (many + 1 + (oddL A p n.name n.kids 0).2)
      omega
  · simp only; omega
def fineN (n : Node) : Prop := n.attrs.length ≤ 1000000 ∧ ∀ a ∈ n.attrs, a.value.length ≤ 1000
theorem findE_mem : ∀ {l : List Allowed} {s : Str} {r : Allowed}, findE l s = some r → r ∈ l ∧ r.name = s
  | [], s, r, h => by simp [findE] at h
  | x :: l, s, r, h => by
    simp only [findE] at h
    split at h
    · cases h; exact ⟨by simp, by assumption⟩
    · obtain ⟨h1, h2⟩ := findE_mem h; exact ⟨by simp [h1], h2⟩
/-- What is known of what ref12.Allows answers for a policy's rules. -/
def AllowsOK (A : Constraint → Str → Bool) (p : Policy) : Prop := ∀ e ∈ p.elements, ∀ r ∈ e.rules, ∀ v : Str, v.length ≤ 1000 → Fn Tryz.prog n_ref12_Allows [r.value.v, .str v] (.bool (A r.value v))
theorem f_ref15_odd (A : Constraint → Str → Bool) (p : Policy) (hA : AllowsOK A p) : ∀ (l : List Node) (par : Str), allNs fineN l → cntNs l ≤ 1000000000 →
    Fn Tryz.prog n_ref15_odd [p.v, .str par, .seq 5 (l.map Node.v)] (.tup [.int .i64 (oddL A p par l 0).1, .int .i64 (oddL A p par l 0).2]) := by
  have key : ∀ l : List Node, (∀ n ∈ l, ∀ (par : Str), allNs fineN n.kids → cntNs n.kids ≤ 1000000000 → Fn Tryz.prog n_ref15_odd [p.v, .str par, .seq 5 (n.kids.map Node.v)] (.tup [.int .i64 (oddL A p par n.kids 0).1, .int .i64 (oddL A p par n.kids 0).2])) →
      ∀ (par : Str), allNs fineN l → cntNs l ≤ 1000000000 → Fn Tryz.prog n_ref15_odd [p.v, .str par, .seq 5 (l.map Node.v)] (.tup [.int .i64 (oddL A p par l 0).1, .int .i64 (oddL A p par l 0).2]) := by
    intro l hrec par hfi hc
    refine Fn.of_image mixed h_ref15_odd i_ref15_odd rfl fun ho => ?_
    unfold c_ref15_odd
    simp only [oks, ok, and_true] at ho
    have hlen : l.length ≤ 140737488355328 := by have := ho.2.2; simp at this; exact this.1
    clear ho
    simp (disch := omega) []
    generalize hR : oddL A p par l 0 = R
    have hRb := oddL_le A p l par 0
    rw [hR] at hRb
    refine W_loop (fun (q : Nat × Nat) => ⟨[(1, .str par), (2, .seq 5 (l.map Node.v)), (3, .ptr 0 0), (8, .int .i64 q.2), (9, .int .i64 q.1)], [some (.box [.seq 1 (p.top.map .str), .seq 3 (p.elements.map Allowed.v), .seq 1 (p.unwrap.map .str)])]⟩)
      (fun q => q.1 ≤ l.length ∧ oddL A p par (l.drop q.1) q.2 = R) (fun q => l.length - q.1) [] _ (0, 0) rfl (by simp) (by simp [hR]) ?_
    rintro ⟨k, many⟩ ⟨hk, hi⟩ N hN
    simp only at hk hi
    rcases place l k hk with ⟨he, hd⟩ | ⟨hlt, x, hx, hd⟩ <;> rw [hd] at hi
    · simp only [oddL] at hi
      subst hi
      simp (disch := omega) [he]
    · have hxm := List.mem_of_getElem? hx
      obtain ⟨hfx, hfk⟩ := allNs_mem hfi hxm
      have hcx := cnt_mem hxm
      have hm := oddL_le A p (l.drop k) par many
      rw [hd, hi] at hm
      have hxk := oddL_le A p x.kids x.name 0
      simp only [oddL, oddK_eq] at hi
      replace hi := hid hi
      simp (disch := omega) [hx]
      refine wcallD_flat (by simpa using f_ref13_Inside p par x) rfl ?_
      simp (disch := omega) [hx]
      refine wcallD_pure (by simpa using f_ref13_Find p x.name) (by simp) ?_
      have hAe : ∀ r ∈ ((findE p.elements x.name).getD .zero).rules, ∀ a ∈ x.attrs, Fn Tryz.prog n_ref12_Allows [r.value.v, .str a.value] (.bool (A r.value a.value)) := by
        intro r hr a ha
        cases hf : findE p.elements x.name with
        | none => rw [hf] at hr; simp [Allowed.zero] at hr
        | some e => rw [hf] at hr; exact hA e (findE_mem hf).1 r hr a.value (hfx.2 a ha)
      generalize hE : (findE p.elements x.name).getD .zero = E at hAe
      have bad : nodeOK A p par x = false → R = ((many : Int), many) := fun h => by have hi := hi.out; rw [if_neg (by simp [h])] at hi; exact hi.symm
      have good : nodeOK A p par x = true → (if 0 ≤ (oddL A p x.name x.kids 0).1 then ((many + 1 : Int) + (oddL A p x.name x.kids 0).1, many + 1) else oddL A p par (l.drop (k + 1)) (many + 1 + (oddL A p x.name x.kids 0).2)) = R := fun h => by have hi := hi.out; rw [if_pos h] at hi; exact hi
      replace bad := hid bad
      replace good := hid good
      have fin : nodeOK A p par x = true → ∀ τ : St, τ.nrm [1, 2, 3, 8, 9] = ⟨[(1, .str par), (2, .seq 5 (l.map Node.v)), (3, .ptr 0 0), (8, .int .i64 ((many + 1 + (oddL A p x.name x.kids 0).2 : Nat) : Int)), (9, .int .i64 ((k + 1 : Nat) : Int))], [some (.box [.seq 1 (p.top.map .str), .seq 3 (p.elements.map Allowed.v), .seq 1 (p.unwrap.map .str)])]⟩ →
          ¬ 0 ≤ (oddL A p x.name x.kids 0).1 → N τ := by
        intro h τ hτ hn
        have g := good.out h
        rw [if_neg hn] at g
        exact hN.out _ <| Nx.mk (k + 1, many + 1 + (oddL A p x.name x.kids 0).2) hτ ⟨by simp only; omega, g⟩ (by simp only; omega)
      simp (disch := omega) [hx]
      repeat' (first
        | (refine BrKd.mk (fun h => ?_) (fun h => ?_) <;> simp (disch := omega) [hE, *])
        | (refine BrK.mk (fun h => ?_) (fun h => ?_) <;> simp (disch := omega) [hE, *])
        | (refine wcallD_flat (by simpa using f_ref15_Holds A E x.attrs hfx.1 hAe) rfl ?_ <;> simp (disch := omega) [*])
        | (refine wcallD_flat (by simpa using hrec x hxm x.name hfk (by omega)) rfl ?_ <;> simp (disch := omega) [*]))
      all_goals
        first
        | (have hb := bad.out (by simp [nodeOK, hE, *]); simp [hb]; done)
        | (have hok : nodeOK A p par x = true := by simp [nodeOK, hE, *]
           first
           | (refine fin hok _ (by simp <;> omega) (by omega); done)
           | (have g := good.out hok
              rw [if_pos (show 0 ≤ (oddL A p x.name x.kids 0).1 by omega)] at g
              simp [← g]; done))
  have all : ∀ l : List Node, ∀ n ∈ l, ∀ (par : Str), allNs fineN n.kids → cntNs n.kids ≤ 1000000000 → Fn Tryz.prog n_ref15_odd [p.v, .str par, .seq 5 (n.kids.map Node.v)] (.tup [.int .i64 (oddL A p par n.kids 0).1, .int .i64 (oddL A p par n.kids 0).2]) := by
    refine nodes_ind (fun x hx => by cases hx) ?_
    intro n l h1 h2 x hx
    rcases List.mem_cons.1 hx with rfl | hx
    · exact fun par => key _ h1 par
    · exact h2 x hx
  exact fun l par => key l (all l) par
end Go.Abs
