/-
  How large strainerref06's Good makes nodes; what strainerlaw21's GuardMeek comes to: what a guard allows is not dangerous. No condition.
-/
import Derived.Test.YtjhcljlogdcbbaaGreatF23
set_option linter.unusedVariables false
set_option linter.unusedSimpArgs false
set_option maxHeartbeats 4000000
set_option maxRecDepth 100000
namespace Go.Abs
open Go.Proofs
attribute [-simp] getElem?_pos Option.not_isSome List.map_map
theorem allNs_iff {f : Node → Prop} : ∀ {l : List Node}, allNs f l ↔ ∀ n ∈ l, f n ∧ allNs f n.kids
  | [] => by simp [allNs]
  | n :: l => by simp [allNs, allN_eq, allNs_iff (l := l)]
theorem allNs_imp {f g : Node → Prop} (h : ∀ n, f n → allNs f n.kids → g n) : ∀ l : List Node, allNs f l → allNs g l := by
  refine nodes_ind (fun _ => by simp [allNs]) ?_
  intro n l h1 h2 ha
  simp only [allNs, allN_eq] at ha ⊢
  exact ⟨⟨h n ha.1.1 ha.1.2, h1 ha.1.2⟩, h2 ha.2⟩
theorem cntNs_append (a b : List Node) : cntNs (a ++ b) = cntNs a + cntNs b := by
  induction a with
  | nil => simp [cntNs]
  | cons x a ih => simp only [List.cons_append, cntNs, ih]; omega
theorem cntNs_filter (f : Node → Bool) : ∀ l : List Node, cntNs (l.filter f) ≤ cntNs l
  | [] => by simp [cntNs]
  | n :: l => by
    have := cntNs_filter f l
    simp only [List.filter_cons]
    split <;> simp only [cntNs] <;> omega
theorem cntNs_set : ∀ (l : List Node) (i : Nat) (o n : Node), l[i]? = some o → cntNs n.kids = cntNs o.kids → cntNs (l.set i n) = cntNs l
  | [], i, o, n, h, _ => by simp at h
  | x :: l, 0, o, n, h, hk => by simp at h; subst h; simp [cntNs, cntN_eq, hk]
  | x :: l, i + 1, o, n, h, hk => by
    have := cntNs_set l i o n (by simpa using h) hk
    simp only [List.set_cons_succ, cntNs, this]
theorem mergeGo_cnt : ∀ (l out : List Node), cntNs (mergeGo out l) ≤ cntNs out + cntNs l
  | [], out => by simp [mergeGo, cntNs]
  | n :: l, out => by
    have h1 := mergeGo_cnt l out
    have h2 := mergeGo_cnt l (out ++ [n])
    rw [cntNs_append] at h2
    have hn : cntNs [n] = cntN n := by simp [cntNs]
    have hc : cntNs (n :: l) = cntN n + cntNs l := by simp [cntNs]
    simp only [mergeGo]
    split
    · omega
    · split
      · rename_i o ho
        split
        · have h3 := mergeGo_cnt l (out.set (out.length - 1) ⟨o.kind, o.name, o.attrs, o.text ++ n.text, o.kids⟩)
          have e := cntNs_set out (out.length - 1) o ⟨o.kind, o.name, o.attrs, o.text ++ n.text, o.kids⟩ ho rfl
          rw [e] at h3
          omega
        · omega
      · omega
theorem merge_cnt (l : List Node) : cntNs (merge l) ≤ cntNs l := by
  have := mergeGo_cnt l []
  simpa [merge, cntNs] using this
theorem mergeGo_all {P : Node → Prop} (hP : ∀ k n a t ks t', P ⟨k, n, a, t, ks⟩ → P ⟨k, n, a, t', ks⟩) : ∀ (l out : List Node), (∀ n ∈ out, P n) → (∀ n ∈ l, P n) → ∀ n ∈ mergeGo out l, P n
  | [], out, ho, _ => by simpa [mergeGo] using ho
  | n :: l, out, ho, hl => by
    have hn := hl n (by simp)
    have hl' : ∀ n ∈ l, P n := fun x hx => hl x (by simp [hx])
    have hon : ∀ x ∈ out ++ [n], P x := fun x hx => by
      rcases List.mem_append.1 hx with h | h
      · exact ho x h
      · simp at h; subst h; exact hn
    simp only [mergeGo]
    split
    · exact mergeGo_all hP l out ho hl'
    · split
      · rename_i o hoo
        split
        · refine mergeGo_all hP l _ (fun x hx => ?_) hl'
          rcases List.mem_or_eq_of_mem_set hx with h | h
          · exact ho x h
          · subst h
            have := ho o (List.mem_of_getElem? hoo)
            obtain ⟨k0, n0, a0, t0, ks0⟩ := o
            exact hP _ _ _ _ _ _ this
        · exact mergeGo_all hP l _ hon hl'
      · exact mergeGo_all hP l _ hon hl'
theorem merge_all {P : Node → Prop} (hP : ∀ k n a t ks t', P ⟨k, n, a, t, ks⟩ → P ⟨k, n, a, t', ks⟩) {l : List Node} (h : ∀ n ∈ l, P n) : ∀ n ∈ merge l, P n := mergeGo_all hP l [] (fun _ h => by cases h) h
/-- What is small of a node, but for its own text. -/
def fineY (n : Node) : Prop := n.name.length ≤ 1000 ∧ n.attrs.length ≤ 1000 ∧ (∀ a ∈ n.attrs, a.name.length ≤ 1000 ∧ a.value.length ≤ 1000) ∧ n.kids.length ≤ 1000 ∧ tsum n.kids ≤ 1000000
theorem merge_fineY {l : List Node} (h : allNs fineY l) : allNs fineY (merge l) :=
  allNs_iff.2 (merge_all (P := fun n => fineY n ∧ allNs fineY n.kids) (fun k n a t ks t' h => h) (allNs_iff.1 h))
/-- What was cut. -/
def fine30 (n : Node) : Prop := n.name.length ≤ 30 ∧ n.text.length ≤ 30 ∧ n.attrs.length ≤ 5 ∧ ∀ a ∈ n.attrs, a.name.length ≤ 30 ∧ a.value.length ≤ 30
theorem cutL_fine30 : ∀ (l : List Node) (m : Nat), allNs fine30 (cutL l m).1 := by
  refine nodes_ind (fun m => by simp [cutL, allNs]) ?_
  intro n l h1 h2 m
  simp only [cutL, cutK_eq]
  split
  · simp [allNs]
  · simp only [allNs, allN]
    refine ⟨⟨⟨by simp [fewS]; omega, by simp [fewS]; omega, by simp; omega, fun a ha => ?_⟩, h1 _⟩, h2 _⟩
    simp only [List.mem_map] at ha
    obtain ⟨b, _, rfl⟩ := ha
    simp [fewA, fewS]; omega
theorem pool_len {l : List Str} {m : Nat} (h : l.all (fun s => decide (s.length ≤ m)) = true) (i : Nat) : ((l[i]?).getD []).length ≤ m := by
  cases hi : l[i]? with
  | none => simp
  | some x => simpa using List.all_eq_true.1 h x (List.mem_of_getElem? hi)
theorem goodA_fine : ∀ (l acc : List Attr), (∀ a ∈ l, a.name.length ≤ 30 ∧ a.value.length ≤ 30) → (∀ a ∈ acc, a.name.length ≤ 1000 ∧ a.value.length ≤ 1000) →
    (goodA acc l).length ≤ acc.length + l.length ∧ ∀ a ∈ goodA acc l, a.name.length ≤ 1000 ∧ a.value.length ≤ 1000
  | [], acc, _, ha => by simpa [goodA] using ha
  | x :: l, acc, hl, ha => by
    have hx := hl x (by simp)
    have hl' : ∀ a ∈ l, a.name.length ≤ 30 ∧ a.value.length ≤ 30 := fun a h => hl a (by simp [h])
    simp only [goodA]
    split
    · have := goodA_fine l acc hl' ha
      exact ⟨by simp; omega, this.2⟩
    · have := goodA_fine l (acc ++ [⟨attribute3 x.name, rightS x.value⟩]) hl' (fun a h => by
        rcases List.mem_append.1 h with h | h
        · exact ha a h
        · simp at h; subst h
          have h1 := rightS_len x.value
          have h2 : (attribute3 x.name).length ≤ 1000 := by
            unfold attribute3
            split
            · omega
            · have := pool_len (l := pool4) (m := 1000) (by decide) (x.name.length % 5)
              omega
          exact ⟨h2, by simp only; omega⟩)
      exact ⟨by have := this.1; simp at this ⊢; omega, this.2⟩
theorem tsum_map (f : Node → Node) (c : Nat) : ∀ l : List Node, (∀ n ∈ l, (f n).text.length ≤ c) → tsum (l.map f) ≤ c * l.length
  | [], _ => by simp [tsum]
  | n :: l, h => by
    have h1 := h n (by simp)
    have h2 := tsum_map f c l (fun x hx => h x (by simp [hx]))
    simp only [tsum, List.map_cons, List.sum_cons, List.length_cons, Nat.mul_succ] at *
    omega
theorem goodN_fine : ∀ l : List Node, allNs fine30 l → cntNs l ≤ 1000 → allNs fineY (l.map goodN) ∧ cntNs (l.map goodN) ≤ cntNs l ∧ (∀ n ∈ l.map goodN, n.text.length ≤ 120) := by
  refine nodes_ind (fun _ _ => by simp [allNs, cntNs]) ?_
  intro n l h1 h2 ha hc
  simp only [allNs, allN_eq] at ha
  simp only [cntNs, cntN_eq] at hc
  obtain ⟨g1, g2, g3⟩ := h2 ha.2 (by omega)
  obtain ⟨k1, k2, k3⟩ := h1 ha.1.2 (by omega)
  have hw : (word n.name).length ≤ 1000 := by
    unfold word
    split
    · have := ha.1.1.1; omega
    · have := pool_len (l := pool3) (m := 1000) (by decide) (sumB n.name % 10); omega
  have hA := goodA_fine n.attrs [] ha.1.1.2.2.2 (fun _ h => by cases h)
  have hr := rightS_len n.text
  have ht := ha.1.1.2.1
  have hat := ha.1.1.2.2.1
  have hm := merge_size (n.kids.map goodN)
  have hmc := merge_cnt (n.kids.map goodN)
  have hkl := cnt_len n.kids
  have hts := tsum_map goodN 120 n.kids (fun x hx => k3 _ (List.mem_map_of_mem hx))
  have hts2 : 120 * n.kids.length ≤ 120 * 1000 := Nat.mul_le_mul_left _ (by omega)
  simp only [List.length_map] at hm
  simp only [List.length_nil, Nat.zero_add] at hA
  refine ⟨?_, ?_, ?_⟩
  · simp only [List.map_cons, allNs, allN_eq]
    refine ⟨?_, g1⟩
    rw [goodN_eq]
    split
    · refine ⟨⟨hw, ?_, hA.2, ?_, ?_⟩, merge_fineY k1⟩
      · simp only; omega
      · simp only; omega
      · simp only; omega
    · exact ⟨⟨by simp, by simp, by simp, by simp, by simp [tsum]⟩, by simp [allNs]⟩
  · simp only [List.map_cons, cntNs, cntN_eq]
    rw [goodN_eq]
    split
    · simp only; omega
    · simp only [cntNs]; omega
  · intro x hx
    simp only [List.map_cons, List.mem_cons] at hx
    rcases hx with rfl | hx
    · rw [goodN_eq]
      split
      · simp
      · simp only; omega
    · exact g3 x hx
theorem good03_fine (l : List Node) : allNs fineY (good03 l) ∧ cntNs (good03 l) ≤ 40 ∧ tsum (good03 l) ≤ 4800 := by
  have hc := cutL_cnt l 40
  obtain ⟨h1, h2, h3⟩ := goodN_fine (cutL l 40).1 (cutL_fine30 l 40) (by omega)
  have hm := merge_size ((cutL l 40).1.map goodN)
  have hmc := merge_cnt ((cutL l 40).1.map goodN)
  have ht := tsum_map goodN 120 (cutL l 40).1 (fun x hx => h3 _ (List.mem_map_of_mem hx))
  have hl := cnt_len (cutL l 40).1
  have : 120 * (cutL l 40).1.length ≤ 120 * 40 := Nat.mul_le_mul_left _ (by omega)
  exact ⟨merge_fineY h1, by unfold good03; omega, by unfold good03; omega⟩
theorem steadyN_fine : ∀ l : List Node, allNs fineY l → allNs fineY (l.flatMap steadyN) ∧ cntNs (l.flatMap steadyN) ≤ cntNs l := by
  refine nodes_ind (fun _ => by simp [allNs, cntNs]) ?_
  intro n l h1 h2 ha
  simp only [allNs, allN_eq] at ha
  obtain ⟨g1, g2⟩ := h2 ha.2
  have happ : ∀ a b : List Node, allNs fineY a → allNs fineY b → allNs fineY (a ++ b) := fun a b ha hb => allNs_iff.2 fun x hx => by
    rcases List.mem_append.1 hx with h | h
    · exact allNs_iff.1 ha x h
    · exact allNs_iff.1 hb x h
  have key : allNs fineY (steadyN n) ∧ cntNs (steadyN n) ≤ cntN n := by
    rw [steadyN_eq]
    split
    · simp [allNs, cntNs]
    · split
      · have hk1 : allNs fineY (n.kids.flatMap steadyN) ∧ cntNs (n.kids.flatMap steadyN) ≤ cntNs n.kids := h1 ha.1.2
        have hf := fitting6_size n.name n.kids
        have hs := steadyF_size (fitting6 n.name n.kids)
        have hm := merge_size ((fitting6 n.name n.kids).flatMap steadyN)
        have hf2 := fitting6_size n.name (merge ((fitting6 n.name n.kids).flatMap steadyN))
        have hsub : allNs fineY ((fitting6 n.name n.kids).flatMap steadyN) := allNs_iff.2 fun x hx => by
          obtain ⟨y, hy, hxy⟩ := List.mem_flatMap.1 hx
          exact allNs_iff.1 hk1.1 x (List.mem_flatMap.2 ⟨y, (List.mem_filter.1 hy).1, hxy⟩)
        have hcs : ∀ ks : List Node, cntNs ((fitting6 n.name ks).flatMap steadyN) ≤ cntNs (ks.flatMap steadyN) := by
          intro ks
          induction ks with
          | nil => simp [fitting6, cntNs]
          | cons y ks ih =>
            simp only [fitting6, List.filter_cons, List.flatMap_cons, cntNs_append] at ih ⊢
            split
            · simp only [List.flatMap_cons, cntNs_append]; omega
            · omega
        have hmy := merge_fineY hsub
        have hc1 := hcs n.kids
        have hc2 := merge_cnt ((fitting6 n.name n.kids).flatMap steadyN)
        have hc3 := cntNs_filter (fits6 n.name) (merge ((fitting6 n.name n.kids).flatMap steadyN))
        have hl := ha.1.1.2.2.2
        simp only [allNs, allN_eq, cntNs, cntN_eq]
        refine ⟨⟨⟨⟨ha.1.1.1, ha.1.1.2.1, ha.1.1.2.2.1, ?_, ?_⟩, ?_⟩, trivial⟩, ?_⟩
        · simp only; omega
        · simp only; omega
        · exact allNs_iff.2 fun x hx => allNs_iff.1 hmy x (List.mem_filter.1 hx).1
        · simp only [fitting6] at *; omega
      · simp only [allNs, allN_eq, cntNs]
        exact ⟨⟨ha.1, trivial⟩, by omega⟩
  simp only [List.flatMap_cons, cntNs_append]
  exact ⟨happ _ _ key.1 g1, by simp only [cntNs]; omega⟩
def good06 (l : List Node) : List Node := steady (good03 l)
theorem good06_fine (l : List Node) : allNs fineY (good06 l) ∧ cntNs (good06 l) ≤ 40 ∧ tsum (good06 l) ≤ 4800 := by
  obtain ⟨h1, h2, h3⟩ := good03_fine l
  obtain ⟨g1, g2⟩ := steadyN_fine (good03 l) h1
  have hs := steadyF_size (good03 l)
  have hm := merge_size ((good03 l).flatMap steadyN)
  have hc := merge_cnt ((good03 l).flatMap steadyN)
  exact ⟨merge_fineY g1, by unfold good06 steady; omega, by unfold good06 steady; omega⟩
theorem fineY_1 : ∀ l : List Node, allNs fineY l → tsum l ≤ 1000000 → allNs fine1 l := by
  refine nodes_ind (fun _ _ => by simp [allNs]) ?_
  intro n l h1 h2 ha ht
  simp only [allNs, allN_eq] at ha ⊢
  have hc : tsum (n :: l) = n.text.length + tsum l := by simp [tsum]
  obtain ⟨⟨⟨a1, a2, a3, a4, a5⟩, a6⟩, a7⟩ := ha
  exact ⟨⟨⟨by omega, by omega, by omega, fun a h => by have := a3 a h; omega⟩, h1 a6 a5⟩, h2 a7 (by omega)⟩
theorem fineY_N (l : List Node) (h : allNs fineY l) : allNs fineN l := allNs_imp (fun n h _ => ⟨by have := h.2.1; omega, fun a ha => (h.2.2.1 a ha).2⟩) l h
theorem f_ref06_Good (l : List Node) : Fn Tryz.prog n_ref06_Good [.seq 5 (l.map Node.v)] (.seq 5 ((good06 l).map Node.v)) := by
  refine Fn.of_image mixed h_ref06_Good i_ref06_Good rfl fun ho => ?_
  unfold c_ref06_Good
  simp only [oks, ok, and_true] at ho
  clear ho
  obtain ⟨h1, h2, h3⟩ := good03_fine l
  have hl := cnt_len (good03 l)
  have hf : allNs fine6 (good03 l) := allNs_imp (fun n h _ => ⟨h.1, h.2.2.2⟩) _ h1
  simp (disch := omega) []
  refine wcall_pure (f_ref03_Good l) (by simp) fun _ => ?_
  simp (disch := omega) []
  refine wcall_pure (f_ref06_Steady (good03 l) hf (by omega) (by omega)) (by simp) fun _ => ?_
  simp (disch := omega) [good06]
end Go.Abs
