/-
  Of nodes that a policy allows, its guard allows just those that are not dangerous: the plain law. No condition.
-/
import Derived.Test.YtjhcljlogdcbbaaGreatF27
set_option linter.unusedVariables false
set_option linter.unusedSimpArgs false
set_option maxHeartbeats 4000000
set_option maxRecDepth 100000
namespace Go.Abs
open Go.Proofs
attribute [-simp] getElem?_pos Option.not_isSome List.map_map
theorem harm21_eq : harm21 = harmful := by
  funext a; simp [harm21, harmful, allows_safe]
theorem dang21_eq : dang21 = dang := by
  funext n; simp [dang21, dang, harm21_eq]
/-- Are all nodes as a policy asks? -/
def okN (A : Constraint → Str → Bool) (p : Policy) (par : Str) (l : List Node) : Bool := decide ((oddL A p par l 0).1 < 0)
theorem oddL_many (A : Constraint → Str → Bool) (p : Policy) : ∀ (l : List Node) (par : Str) (many many' : Nat), (oddL A p par l many).1 < 0 → (oddL A p par l many').1 < 0 := by
  refine nodes_ind (fun _ _ _ _ => by simp [oddL]) ?_
  intro n l h1 h2 par many many' h
  simp only [oddL, oddK_eq] at h ⊢
  split at h
  · rename_i hn
    split at h
    · simp only at h; omega
    · rename_i hk
      rw [if_pos hn, if_neg hk]
      exact h2 par _ _ h
  · simp only at h; omega
theorem okN_cons (A : Constraint → Str → Bool) (p : Policy) (par : Str) (n : Node) (l : List Node) : okN A p par (n :: l) = (nodeOK A p par n && (okN A p n.name n.kids && okN A p par l)) := by
  have hb := (oddL_le A p n.kids n.name 0).2.2.1
  simp only [okN, oddL, oddK_eq]
  cases hn : nodeOK A p par n
  · simp
  · simp only [if_true, Bool.true_and]
    by_cases hk : 0 ≤ (oddL A p n.name n.kids 0).1
    · rw [if_pos hk]
      have h1 : ¬ (oddL A p n.name n.kids 0).1 < 0 := by omega
      simp [h1]; omega
    · rw [if_neg hk]
      have h1 : (oddL A p n.name n.kids 0).1 < 0 := by omega
      simp only [h1, decide_true, Bool.true_and]
      exact decide_eq_decide.2 ⟨oddL_many A p l par _ _, oddL_many A p l par _ _⟩
theorem findE_guard : ∀ (l : List Allowed) (s : Str), findE (guardEls l) s = if namedD s then none else (findE l s).map guardEl
  | [], s => by simp [guardEls, findE]
  | x :: l, s => by
    have ih := findE_guard l s
    simp only [guardEls, List.filter_cons] at ih ⊢
    cases hx : namedD x.name
    · simp only [Bool.not_false, if_true, List.map_cons, findE, guardEl]
      by_cases h : x.name = s
      · subst h; simp [hx, guardEl]
      · simp only [h, if_false]; exact ih
    · simp only [Bool.not_true, Bool.false_eq_true, if_false, findE]
      rw [ih]
      by_cases h : x.name = s
      · subst h; simp [hx]
      · simp [h]
theorem kept_has (l : List Str) (s : Str) (h : namedD s = false) : hasS (kept21 l) s = hasS l s := by
  rw [Bool.eq_iff_iff, hasS_mem, hasS_mem]
  simp [kept21, h]
theorem listP_guard (p : Policy) (par s : Str) (hp : par = [] ∨ namedD par = false) (h : namedD s = false) : hasS (listP (guard21 p) par) s = hasS (listP p par) s := by
  unfold listP
  by_cases h0 : par = []
  · simp only [h0, if_true, guard21]; exact kept_has _ _ h
  · rcases hp with hp | hp
    · exact absurd hp h0
    · simp only [h0, if_false]
      have := findE_guard p.elements par
      simp only [hp, Bool.false_eq_true, if_false] at this
      simp only [guard21, this]
      cases findE p.elements par with
      | none => rfl
      | some e => exact kept_has _ _ h
theorem inside_guard (p : Policy) (par : Str) (n : Node) (hp : par = [] ∨ namedD par = false) (h : n.kind = 1 → namedD n.name = false) : insideP (guard21 p) par n = insideP p par n := by
  unfold insideP
  rw [listP_guard p par hText hp (by decide), listP_guard p par hComment hp (by decide)]
  by_cases h1 : n.kind = 1
  · rw [listP_guard p par n.name hp (h h1)]
  · simp [h1]
theorem findR_rest {nm : Str} (hon : begins nm [111, 110] = false) (hpl : placeN nm = false) : ∀ l : List Rule, findR (guardRest l) nm = (findR l nm).map fun r => ⟨r.name, ⟨1, [], []⟩, false⟩
  | [] => by simp [guardRest, findR]
  | r :: l => by
    have ih := findR_rest hon hpl l
    simp only [guardRest, List.filter_cons] at ih ⊢
    by_cases hk : (!placeN r.name && !decide (r.name = sOn)) = true
    · simp only [hk, if_true, List.map_cons, findR]
      by_cases hf : fits r.name nm = true
      · simp [hf]
      · simp only [hf, if_false]; exact ih
    · simp only [hk, if_false, findR]
      have hf : fits r.name nm = false := by
        have h1 : stem sOn = ([111, 110], true) := by decide
        have h2 : plain [111, 110] = true := by decide
        have hfit : ∀ s : Str, stem s = (s, false) → plain s = true → r.name = s → fits r.name nm = decide (nm = s) := by
          intro s h1 h2 h3
          rw [h3]; simp [fits, h1, h2]
        by_cases h3 : r.name = sOn
        · rw [h3]; simp [fits, h1, h2, hon]
        · simp only [placeN, Bool.and_eq_true, Bool.not_eq_true', decide_eq_false_iff_not, h3, not_false_eq_true, and_true, Bool.not_eq_false, Bool.or_eq_true, decide_eq_true_eq] at hk
          simp only [placeN, Bool.or_eq_false_iff, decide_eq_false_iff_not] at hpl
          rcases hk with hk | hk | hk
          · rw [hfit _ (by decide) (by decide) hk]; simpa using hpl.1
          · rw [hfit _ (by decide) (by decide) hk]; simpa using hpl.2.1
          · rw [hfit _ (by decide) (by decide) hk]; simpa using hpl.2.2
      rw [hf]
      simpa using ih
theorem attr_guard (e : Allowed) (a : Attr) (h : attrOK allows12 e a = true) (hh : harmful a = false) : attrOK allows12 (guardEl e) a = true := by
  have hon : fits sOn a.name = begins a.name [111, 110] := by
    have h1 : stem sOn = ([111, 110], true) := by decide
    have h2 : plain [111, 110] = true := by decide
    simp [fits, h1, h2]
  have hfit : ∀ s : Str, stem s = (s, false) → plain s = true → fits s a.name = decide (a.name = s) := by
    intro s h1 h2
    simp [fits, h1, h2]
  have hac := hfit [97, 99, 116, 105, 111, 110] (by decide) (by decide)
  have hhr := hfit [104, 114, 101, 102] (by decide) (by decide)
  have hsr := hfit [115, 114, 99] (by decide) (by decide)
  unfold harmful at hh
  simp only [Bool.or_eq_false_iff, Bool.and_eq_false_imp, Bool.not_eq_false'] at hh
  obtain ⟨hb, hs⟩ := hh
  simp only [attrOK, guardEl, guardHead, List.cons_append, List.nil_append, findR, hon, hac, hhr, hsr, hb, Bool.false_eq_true, if_false, decide_eq_true_eq]
  by_cases h1 : a.name = [97, 99, 116, 105, 111, 110]
  · rw [if_pos h1]; simp only [allows_safe]; exact hs (by simp [placeN, h1])
  · rw [if_neg h1]
    by_cases h2 : a.name = [104, 114, 101, 102]
    · rw [if_pos h2]; simp only [allows_safe]; exact hs (by simp [placeN, h2])
    · rw [if_neg h2]
      by_cases h3 : a.name = [115, 114, 99]
      · rw [if_pos h3]; simp only [allows_safe]; exact hs (by simp [placeN, h3])
      · rw [if_neg h3, findR_rest hb (by simp [placeN, h1, h2, h3])]
        unfold attrOK at h
        cases hf : findR e.rules a.name with
        | none => rw [hf] at h; cases h
        | some r =>
          rw [hf] at h
          simp only [Option.map_some]
          rw [allows_any []]
          simp only [allows12, Bool.and_eq_true] at h
          exact h.1
theorem holds_guard (p : Policy) (n : Node) (hn : namedD n.name = false) (hh : n.attrs.any harmful = false) (h : holds allows12 ((findE p.elements n.name).getD .zero) n.attrs = true) :
    holds allows12 ((findE (guard21 p).elements n.name).getD .zero) n.attrs = true := by
  have hf := findE_guard p.elements n.name
  simp only [hn, Bool.false_eq_true, if_false] at hf
  simp only [guard21, hf]
  cases he : findE p.elements n.name with
  | none => rw [he] at h; exact h
  | some e =>
    rw [he] at h
    simp only [Option.getD_some, Option.map_some, holds, Bool.and_eq_true, decide_eq_true_eq] at h ⊢
    have h1 := keptA_all h.1
    refine ⟨?_, ?_⟩
    · simp only [keptA]
      rw [List.length_filter_eq_length_iff]
      intro a ha
      refine attr_guard e a (h1 a ha) ?_
      rw [List.any_eq_false] at hh
      simpa using hh a ha
    · simp only [whole, guardEl, List.all_append, Bool.and_eq_true, List.all_eq_true, Bool.not_eq_true', guardHead, guardRest, List.mem_map]
      refine ⟨by simp, ?_⟩
      rintro r ⟨x, _, rfl⟩
      rfl
theorem node_guard (p : Policy) (par : Str) (n : Node) (hp : par = [] ∨ namedD par = false) (hd : dang n = false) (h : nodeOK allows12 p par n = true) : nodeOK allows12 (guard21 p) par n = true := by
  simp only [nodeOK, Bool.and_eq_true, Bool.or_eq_true, Bool.not_eq_true', decide_eq_false_iff_not] at h ⊢
  by_cases hk : n.kind = 1
  · simp only [dang, hk, decide_true, Bool.true_and, Bool.or_eq_false_iff] at hd
    rw [inside_guard p par n hp (fun _ => hd.1)]
    refine ⟨h.1, .inr ?_⟩
    exact holds_guard p n hd.1 hd.2 (h.2.resolve_left (fun x => x hk))
  · rw [inside_guard p par n hp (fun x => absurd x hk)]
    exact ⟨h.1, .inl hk⟩
/-- Texts and comments have no kids. -/
def leafy (n : Node) : Prop := n.kind ≠ 1 → n.kids = []
theorem may_leafy : ∀ (l : List Node) (txt : Bool), mayL txt l = 0 → allNs leafy l := by
  refine nodes_ind (fun _ _ => by simp [allNs]) ?_
  intro n l h1 h2 txt h
  simp only [mayL, mayK_eq] at h
  split at h
  · rename_i ho
    split at h
    · rename_i hk
      simp only [allNs, allN_eq]
      refine ⟨⟨fun hne => ?_, h1 _ hk⟩, h2 _ h⟩
      simp only [oneE, hne, if_false] at ho
      split at ho
      · split at ho
        · rename_i h3; exact h3.2.2
        · simp at ho
      · simp at ho
    · exact absurd h (by assumption)
  · exact absurd h (by assumption)
theorem ok_guard (p : Policy) : ∀ (l : List Node) (par : Str), (par = [] ∨ namedD par = false) → allNs leafy l → okN allows12 p par l = true → anyNs dang l = false → okN allows12 (guard21 p) par l = true := by
  refine nodes_ind (fun _ _ _ _ _ => by simp [okN, oddL]) ?_
  intro n l h1 h2 par hp hl h hd
  rw [okN_cons] at h ⊢
  simp only [Bool.and_eq_true] at h ⊢
  simp only [anyNs, anyN_eq, Bool.or_eq_false_iff] at hd
  simp only [allNs, allN_eq] at hl
  refine ⟨node_guard p par n hp hd.1.1 h.1, ?_, h2 par hp hl.2 h.2.2 hd.2⟩
  by_cases hk : n.kind = 1
  · have hn := hd.1.1
    simp only [dang, hk, decide_true, Bool.true_and, Bool.or_eq_false_iff] at hn
    exact h1 n.name (.inr hn.1) hl.1.2 h.2.1 hd.1.2
  · rw [hl.1.1 hk]; simp [okN, oddL]
theorem guard_law (p : Policy) (s : List Node) (h : nodes15 allows12 p s = true) : nodes15 allows12 (guard21 p) s = !anyNs dang21 s := by
  rw [dang21_eq]
  cases hd : anyNs dang s
  · have h' : stable s = true ∧ odd15 allows12 p s < 0 := by simpa [nodes15] using h
    have hm : may s = 0 := by
      have := h'.1
      simp only [stable, Bool.and_eq_true, decide_eq_true_eq] at this
      exact this.1
    have := ok_guard p s [] (.inl rfl) (may_leafy s false hm) (decide_eq_true h'.2) hd
    have h2 : odd15 allows12 (guard21 p) s < 0 := of_decide_eq_true this
    unfold nodes15
    rw [h'.1, decide_eq_true h2]
    rfl
  · cases hn : nodes15 allows12 (guard21 p) s
    · rfl
    · have := meek p s hn
      rw [hd] at this; cases this
theorem rulesGo_good : ∀ (l out : List Rule) (i : Nat), (∀ r ∈ out, ∃ c, r.value = good12 c) → ∀ r ∈ rulesGo i out l, ∃ c, r.value = good12 c
  | [], out, i, h => by simpa [rulesGo] using h
  | x :: l, out, i, h => by
    simp only [rulesGo]
    split
    · exact rulesGo_good l out _ h
    · refine rulesGo_good l _ _ fun r hr => ?_
      rcases List.mem_append.1 hr with hr | hr
      · exact h r hr
      · simp at hr; subst hr
        unfold goodRule
        split <;> exact ⟨_, rfl⟩
theorem good12_ok (c : Constraint) : (1 ≤ (good12 c).kind ∧ (good12 c).kind ≤ 4) ∧ ((good12 c).kind = 4 → rxB (good12 c).regex = true) := by
  have hr := kind12_range c.kind
  unfold good12
  simp only
  split
  · refine ⟨by simp, fun _ => ?_⟩
    simp only
    have hm : sumB c.regex % 7 < pool12.length := Nat.mod_lt _ (by decide)
    rw [List.getElem?_eq_getElem hm]
    exact List.all_eq_true.1 pool_ok _ (List.getElem_mem hm)
  · rename_i h
    exact ⟨by simp only; omega, fun h' => absurd h' h⟩
theorem good13_allows_ok (p : Policy) : AllowsOK allows12 (good13 p) := by
  intro e he r hr v hv
  obtain ⟨_, l, hl⟩ := good13_els p e he
  rw [hl] at hr
  obtain ⟨c, hc⟩ := rulesGo_good (l.take 3) [] 0 (by simp) r hr
  rw [hc]
  have := good12_ok c
  exact f_ref12_Allows (good12 c) v this.1 this.2 hv
theorem f_law21_GuardAllows (p : Policy) (l : List Node) (hR : ∀ e ∈ p.elements, ∀ r ∈ e.rules, r.value.regex.length ≤ 1125899906842624) : FnE Tryz.prog n_law21_GuardAllows [p.v, .seq 5 (l.map Node.v)] (.bool true) := by
  refine FnE.of_image mixed h_law21_GuardAllows i_law21_GuardAllows rfl fun ho => ?_
  unfold c_law21_GuardAllows
  clear ho
  obtain ⟨h1, h2, h3⟩ := good06_fine l
  simp (disch := omega) []
  refine wcall_pure (by simpa using f_ref13_Good p hR) (by simp) fun _ => ?_
  simp (disch := omega) []
  refine wcall_pure (f_ref06_Good l) (by simp) fun _ => ?_
  simp (disch := omega) []
  refine wcall_flat (by simpa using f_ref15_Nodes allows12 (good13 p) (good13_allows_ok _) (good06 l) (fineY_N _ h1) (fineY_1 _ h1 (by omega)) (by omega)) rfl fun _ => ?_
  cases hN : nodes15 allows12 (good13 p) (good06 l)
  · simp (disch := omega) []
    refine wcall_flat f_law21_lives rfl fun _ => ?_
    simp (disch := omega) []
  · simp (disch := omega) []
    have hm := guard_law (good13 p) (good06 l) hN
    refine wcall_pure (by simpa using f_guard_Guard (good13 p) (good13_few p)) (by simp) fun _ => ?_
    simp (disch := omega) []
    refine wcall_flat (by simpa using f_ref15_Nodes allows12 (guard21 (good13 p)) (guard_allows_ok _) (good06 l) (fineY_N _ h1) (fineY_1 _ h1 (by omega)) (by omega)) rfl fun _ => ?_
    simp (disch := omega) []
    refine wcall_flat (f_ref21_Any (good06 l) (fineY_N _ h1)) rfl fun _ => ?_
    simp (disch := omega) [hm]
    refine wcall_flat f_law21_lives rfl fun _ => ?_
    simp (disch := omega) []
end Go.Abs
