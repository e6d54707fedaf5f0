/-
  What a guard allows is not dangerous: the plain law, and what strainerlaw21's lives answers. No condition.
-/
import Derived.Test.YtjhcljlogdcbbaaGreatF24
import Derived.KernelRfl
set_option linter.unusedVariables false
set_option linter.unusedSimpArgs false
set_option maxHeartbeats 4000000
set_option maxRecDepth 100000
namespace Go.Abs
open Go.Proofs
attribute [-simp] getElem?_pos Option.not_isSome List.map_map
def onRx : Str := [91, 94, 32, 45, 126, 93]
def noSet : List Bool := List.replicate 95 false
theorem onRx_parse : parseF onRx = some ([⟨115, noSet, []⟩, ⟨116, [], [0]⟩, ⟨111, [], [1]⟩], 2) := by kernel_rfl
theorem sub_ff (k : Nat) : sub k false (fun _ => false) = fun _ => false := by
  funext j; simp [sub]
theorem base_ff (s : Str) (i : Nat) : base ⟨115, noSet, []⟩ s i = fun _ => false := by
  have h : ∀ j : Nat, (noSet[j]?).getD false = false := by
    intro j
    rw [noSet, List.getElem?_replicate]
    split <;> rfl
  unfold base
  split
  · split
    · simp only [h]; simp [sub_ff]
    · simp [sub_ff]
  · simp [sub_ff]
theorem onRx_none (v : Str) : rxM onRx v = false := by
  simp only [rxM, onRx_parse, matchT, List.take, tabsGo, List.nil_append, List.cons_append]
  have h0 : ∀ acc, stepT ⟨115, noSet, []⟩ v acc = fun _ _ => false := by
    intro acc
    funext i k
    simp only [stepT, kidT, base_ff]
  have h1 : ∀ acc : List Tab, acc[0]? = some (fun _ _ => false) → stepT ⟨116, [], [0]⟩ v acc = fun _ _ => false := by
    intro acc h
    funext i k
    simp [stepT, kidT, h, kid, jon, jo]
  have h2 : ∀ acc : List Tab, acc[1]? = some (fun _ _ => false) → stepT ⟨111, [], [1]⟩ v acc = fun _ _ => false := by
    intro acc h
    funext i k
    have e : base ⟨111, [], [1]⟩ v i = fun _ => false := by
      unfold base
      split <;> simp [sub_ff]
    simp [stepT, kidT, h, kid, both1, e]
  simp [h0, h1, h2]
theorem allows_on (v : Str) : allows12 onC v = false := by
  have h : rxM onC.regex v = false := onRx_none v
  simp [allows12, onC] at h ⊢
  simp [h]
theorem allows_safe (v : Str) : allows12 safeC v = allowsL safeC v := by
  simp [allows12, allowsL, safeC]
theorem allows_any (n : Str) (v : Str) : allows12 ⟨1, [], []⟩ v = v.all sign := by
  simp [allows12]
/-- An attribute that a guard's element allows does no harm. -/
theorem guard_attr (e : Allowed) (a : Attr) (h : attrOK allows12 (guardEl e) a = true) : harmful a = false := by
  have hon : fits sOn a.name = begins a.name [111, 110] := by
    have h1 : stem sOn = ([111, 110], true) := by decide
    have h2 : plain [111, 110] = true := by decide
    simp [fits, h1, h2]
  have hfit : ∀ s : Str, stem s = (s, false) → plain s = true → fits s a.name = decide (a.name = s) := by
    intro s h1 h2
    simp [fits, h1, h2]
  have hac := hfit [97, 99, 116, 105, 111, 110] (by decide) (by decide)
  have hhr := hfit [104, 114, 101, 102] (by decide) (by decide)
  have hsr := hfit [115, 114, 99] (by decide) (by decide)
  simp only [attrOK, guardEl, guardHead, List.cons_append, List.nil_append, findR, hon, hac, hhr, hsr] at h
  unfold harmful
  cases hb : begins a.name [111, 110]
  · simp only [hb, Bool.false_eq_true, if_false, decide_eq_true_eq] at h
    simp only [Bool.false_or, placeN]
    by_cases h1 : a.name = [97, 99, 116, 105, 111, 110]
    · rw [if_pos h1] at h
      simp [h1, ← allows_safe, h]
    · rw [if_neg h1] at h
      by_cases h2 : a.name = [104, 114, 101, 102]
      · rw [if_pos h2] at h
        simp [h2, ← allows_safe, h]
      · rw [if_neg h2] at h
        by_cases h3 : a.name = [115, 114, 99]
        · rw [if_pos h3] at h
          simp [h3, ← allows_safe, h]
        · simp [h1, h2, h3]
  · simp only [hb, if_true, allows_on] at h
    cases h
theorem hasS_mem : ∀ {l : List Str} {s : Str}, hasS l s = true ↔ s ∈ l
  | [], s => by simp [hasS]
  | x :: l, s => by
    simp only [hasS, List.mem_cons]
    split
    · rename_i h; simp [h]
    · rename_i h
      rw [hasS_mem]
      exact ⟨.inr, fun h' => h'.resolve_left (fun e => h e.symm)⟩
theorem kept_safe (l : List Str) (s : Str) (h : hasS (kept21 l) s = true) : namedD s = false := by
  rw [hasS_mem] at h
  have := (List.mem_filter.1 h).2
  simpa using this
theorem guard_find (p : Policy) (s : Str) : (∃ e, findE (guard21 p).elements s = some (guardEl e)) ∨ findE (guard21 p).elements s = none := by
  cases h : findE (guard21 p).elements s with
  | none => exact .inr rfl
  | some e =>
    have := (findE_mem h).1
    simp only [guard21, guardEls, List.mem_map] at this
    obtain ⟨x, _, rfl⟩ := this
    exact .inl ⟨x, rfl⟩
theorem guard_name (p : Policy) (par s : Str) (h : hasS (listP (guard21 p) par) s = true) : namedD s = false := by
  unfold listP at h
  split at h
  · exact kept_safe _ _ h
  · rcases guard_find p par with ⟨e, he⟩ | he
    · rw [he] at h; exact kept_safe _ _ h
    · rw [he] at h; simp [Allowed.zero, hasS] at h
theorem keptA_all {A : Constraint → Str → Bool} {e : Allowed} {l : List Attr} (h : (keptA A e l).length = l.length) : ∀ a ∈ l, attrOK A e a = true :=
  List.length_filter_eq_length_iff.1 h
/-- A node that a guard allows, by itself, is not dangerous. -/
theorem guard_node (p : Policy) (par : Str) (n : Node) (h : nodeOK allows12 (guard21 p) par n = true) : dang n = false := by
  unfold dang
  by_cases hk : n.kind = 1
  · simp only [nodeOK, insideP, hk, Bool.and_eq_true] at h
    obtain ⟨h1, h2⟩ := h
    simp at h1 h2
    have hn := guard_name p par n.name h1
    simp only [hk, decide_true, Bool.true_and, hn, Bool.false_or]
    rw [List.any_eq_false]
    intro a ha
    simp only [holds, Bool.and_eq_true, decide_eq_true_eq] at h2
    have hA := keptA_all h2.1 a ha
    rcases guard_find p n.name with ⟨e, he⟩ | he
    · rw [he] at hA
      simp [guard_attr e a hA]
    · rw [he] at hA
      simp [attrOK, Allowed.zero, findR] at hA
  · simp [hk]
/-- If no node of those is odd, each is as it must be. -/
theorem oddL_ok (A : Constraint → Str → Bool) (p : Policy) (f : Node → Bool) (hf : ∀ par n, nodeOK A p par n = true → f n = false) : ∀ (l : List Node) (par : Str) (many : Nat), (oddL A p par l many).1 < 0 → anyNs f l = false := by
  refine nodes_ind (fun _ _ _ => by simp [anyNs]) ?_
  intro n l h1 h2 par many h
  simp only [oddL, oddK_eq] at h
  split at h
  · rename_i hn
    split at h
    · simp only at h; omega
    · rename_i hk
      have g1 := h1 n.name 0 (by omega)
      have g2 := h2 par _ h
      simp [anyNs, anyN_eq, g1, g2, hf par n hn]
  · simp only at h; omega
theorem meek (p : Policy) (s : List Node) (h : nodes15 allows12 (guard21 p) s = true) : anyNs dang s = false := by
  simp only [nodes15, odd15, Bool.and_eq_true] at h
  exact oddL_ok allows12 (guard21 p) dang (fun par n hn => guard_node p par n hn) s [] 0 (of_decide_eq_true h.2)
theorem f_law21_lives : Fn Tryz.prog n_law21_lives [] (.bool true) := by
  refine Fn.of_image mixed h_law21_lives i_law21_lives rfl fun ho => ?_
  unfold c_law21_lives
  simp only [oks, ok, and_true] at ho
  clear ho
  simp (disch := omega) []
  refine wcall_flat (r := .bool true) (by have := f_guard_Dangerous ⟨1, [97], [⟨[104, 114, 101, 102], [106, 97, 118, 97, 115, 99, 114, 105, 112, 116, 58, 120]⟩], [], []⟩; rw [show dang _ = true by decide +kernel] at this; simpa using this) rfl fun _ => ?_
  simp (disch := omega) []
  refine wcall_flat (r := .bool false) (by have := f_guard_Dangerous ⟨1, [97], [⟨[104, 114, 101, 102], [47, 120]⟩], [], []⟩; rw [show dang _ = false by decide +kernel] at this; simpa using this) rfl fun _ => ?_
  simp (disch := omega) []
  refine wcall_pure f_guard_Names (by simp) fun _ => ?_
  simp (disch := omega) [namesD]
theorem guard_allows_ok (p : Policy) : AllowsOK allows12 (guard21 p) := by
  intro e he r hr v hv
  simp only [guard21, guardEls, List.mem_map] at he
  obtain ⟨x, _, rfl⟩ := he
  simp only [guardEl, guardHead, guardRest, List.mem_append, List.mem_map, List.mem_cons, List.not_mem_nil, or_false] at hr
  refine f_ref12_Allows r.value v ?_ ?_ hv
  · rcases hr with (rfl | rfl | rfl | rfl) | ⟨y, _, rfl⟩ <;> simp [onC, safeC]
  · rcases hr with (rfl | rfl | rfl | rfl) | ⟨y, _, rfl⟩ <;> simp [onC, safeC]
    exact on_ok
def elOK (e : Allowed) : Prop := e.kids.length ≤ 8 ∧ ∃ l, e.rules = rules13 l
theorem elsGo_ok : ∀ (l out : List Allowed) (i : Nat), (∀ e ∈ out, elOK e) → ∀ e ∈ elsGo i out l, elOK e
  | [], out, i, h => by simpa [elsGo] using h
  | x :: l, out, i, h => by
    simp only [elsGo]
    split
    · exact elsGo_ok l out _ h
    · refine elsGo_ok l _ _ fun e he => ?_
      rcases List.mem_append.1 he with he | he
      · exact h e he
      · simp at he; subst he; exact ⟨by simp, x.rules, rfl⟩
theorem setKids_ok {els : List Allowed} (k : Nat) (own : List Str) (h : ∀ e ∈ els, elOK e) : ∀ e ∈ setKids els k own, elOK e := by
  intro e he
  unfold setKids at he
  split at he
  · rename_i x hx
    rcases List.mem_or_eq_of_mem_set he with he | he
    · exact h e he
    · subst he
      exact ⟨fitting_len _ _ _, (h x (List.mem_of_getElem? hx)).2⟩
  · exact h e he
theorem kidsGo_ok : ∀ (l els : List Allowed) (k : Nat), (∀ e ∈ els, elOK e) → ∀ e ∈ kidsGo k els l, elOK e
  | [], els, k, h => by simpa [kidsGo] using h
  | x :: l, els, k, h => by
    simp only [kidsGo]
    exact kidsGo_ok l _ _ (setKids_ok k x.kids h)
theorem kidsGo_len : ∀ (l els : List Allowed) (k : Nat), (kidsGo k els l).length = els.length
  | [], els, k => by simp [kidsGo]
  | x :: l, els, k => by simp only [kidsGo]; rw [kidsGo_len l, setKids_len]
theorem good13_els (p : Policy) : ∀ e ∈ (good13 p).elements, elOK e := by
  unfold good13
  exact kidsGo_ok _ _ _ (elsGo_ok _ _ _ (by simp))
theorem good13_few (p : Policy) : (good13 p).few := by
  have h1 : (good13 p).elements.length ≤ 5 := by
    have := elsGo_len (p.elements.take 5) [] 0
    simp only [good13, kidsGo_len]
    simp at this; omega
  refine ⟨?_, by omega, fun e he => ?_⟩
  · have := fitting_len ⟨[], (good13 p).elements, []⟩ [] p.top
    simp only [good13] at this ⊢
    omega
  · obtain ⟨h2, l, h3⟩ := good13_els p e he
    have := rules13_len l
    rw [h3]; omega
theorem f_law21_GuardMeek (p : Policy) (l : List Node) (hR : ∀ e ∈ p.elements, ∀ r ∈ e.rules, r.value.regex.length ≤ 1125899906842624) : FnE Tryz.prog n_law21_GuardMeek [p.v, .seq 5 (l.map Node.v)] (.bool true) := by
  refine FnE.of_image mixed h_law21_GuardMeek i_law21_GuardMeek rfl fun ho => ?_
  unfold c_law21_GuardMeek
  clear ho
  obtain ⟨h1, h2, h3⟩ := good06_fine l
  simp (disch := omega) []
  refine wcall_pure (by simpa using f_ref13_Good p hR) (by simp) fun _ => ?_
  simp (disch := omega) []
  refine wcall_pure (by simpa using f_ref21_Guard (good13 p) (good13_few p)) (by simp) fun _ => ?_
  simp (disch := omega) []
  refine wcall_pure (f_ref06_Good l) (by simp) fun _ => ?_
  simp (disch := omega) []
  refine wcall_flat (by simpa using f_ref15_Nodes allows12 (guard21 (good13 p)) (guard_allows_ok _) (good06 l) (fineY_N _ h1) (fineY_1 _ h1 (by omega)) (by omega)) rfl fun _ => ?_
  cases hN : nodes15 allows12 (guard21 (good13 p)) (good06 l)
  · simp (disch := omega) []
    refine wcall_flat f_law21_lives rfl fun _ => ?_
    simp (disch := omega) []
  · simp (disch := omega) []
    have hm := meek (good13 p) (good06 l) hN
    refine wcall_flat (r := .bool false) (by have := f_guard_Any (good06 l); rwa [hm] at this) rfl fun _ => ?_
    simp (disch := omega) []
    refine wcall_flat f_law21_lives rfl fun _ => ?_
    simp (disch := omega) []
end Go.Abs
