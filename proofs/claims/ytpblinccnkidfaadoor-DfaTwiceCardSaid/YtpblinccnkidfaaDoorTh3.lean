/-
  Nets, plainly: what is reached by edges that take no sign, as a list that grows. No condition.
-/
import Derived.Test.YtpblinccnkidfaaDoorTh2
set_option linter.unusedVariables false
set_option linter.unusedSimpArgs false
set_option linter.unusedSectionVars false
namespace Go.Aut

structure NEdge where
  fr : Nat
  to : Nat
  low : Nat
  high : Nat
structure Net where
  n : Nat
  start : Nat
  stop : Nat
  edges : List NEdge
def NEdge.free (e : NEdge) : Bool := decide (e.high < e.low)
/-- A net that may be. -/
structure Net.ok (N : Net) : Prop where
  pos : 0 < N.n
  le : N.n ≤ 500
  start : N.start < N.n
  stop : N.stop < N.n
  ends : ∀ e ∈ N.edges, e.fr < N.n ∧ e.to < N.n ∧ e.low < 256 ∧ e.high < 256

/-- The numbers of the edges out of a state that are gone by, the last one first. -/
def outsI (es : List NEdge) (s : Nat) : Nat → List Nat
  | 0 => []
  | k + 1 => match es[k]? with
    | some e => if e.free = true ∧ e.fr = s then k :: outsI es s k else outsI es s k
    | none => outsI es s k
def toE (es : List NEdge) (i : Nat) : Nat := match es[i]? with
  | some e => e.to
  | none => 0
def outs (es : List NEdge) (s : Nat) : List Nat := (outsI es s es.length).map (toE es)
def visit1 (st : List Bool × List Nat) (q : Nat) : List Bool × List Nat := if (st.1[q]?).getD true = true then st else (st.1.set q true, st.2 ++ [q])
def growGo (es : List NEdge) : Nat → Nat → List Bool × List Nat → List Bool × List Nat
  | 0, _, st => st
  | f + 1, i, st => match st.2[i]? with
    | none => st
    | some s => growGo es f (i + 1) ((outs es s).foldl visit1 st)
def closedB (es : List NEdge) (n q : Nat) : List Bool := (growGo es (n + 1) 0 ((List.replicate n false).set q true, [q])).1
def statesL : Nat → List Bool → List Nat
  | _, [] => []
  | q, b :: l => if b = true then q :: statesL (q + 1) l else statesL (q + 1) l
def closedL (es : List NEdge) (n q : Nat) : List Nat := statesL 0 (closedB es n q)

/-- Reached by edges that take no sign. -/
inductive NReach (es : List NEdge) (q : Nat) : Nat → Prop
  | refl : NReach es q q
  | step {p : Nat} {e : NEdge} : NReach es q p → e ∈ es → e.free = true → e.fr = p → NReach es q e.to

theorem mem_outsI {es : List NEdge} {s i : Nat} : ∀ {k : Nat}, i ∈ outsI es s k ↔ i < k ∧ ∃ e, es[i]? = some e ∧ e.free = true ∧ e.fr = s
  | 0 => by simp [outsI]
  | k + 1 => by
    have ih := @mem_outsI es s i k
    simp only [outsI]
    cases he : es[k]? with
    | none =>
      simp only [ih]
      constructor
      · rintro ⟨h1, h2⟩; exact ⟨by omega, h2⟩
      · rintro ⟨h1, e, h2, h3⟩
        rcases Nat.lt_or_ge i k with h | h
        · exact ⟨h, e, h2, h3⟩
        · have : i = k := by omega
          subst this; rw [he] at h2; cases h2
    | some e =>
      by_cases hc : e.free = true ∧ e.fr = s
      · rw [show (match (some e : Option NEdge) with | some e => if e.free = true ∧ e.fr = s then k :: outsI es s k else outsI es s k | none => outsI es s k) = k :: outsI es s k by simp [hc]]
        rw [List.mem_cons, ih]
        constructor
        · rintro (rfl | ⟨h1, h2⟩)
          · exact ⟨by omega, e, he, hc⟩
          · exact ⟨by omega, h2⟩
        · rintro ⟨h1, h2⟩
          rcases Nat.lt_or_ge i k with h | h
          · exact .inr ⟨h, h2⟩
          · exact .inl (by omega)
      · rw [show (match (some e : Option NEdge) with | some e => if e.free = true ∧ e.fr = s then k :: outsI es s k else outsI es s k | none => outsI es s k) = outsI es s k by simp only; rw [if_neg hc]]
        rw [ih]
        constructor
        · rintro ⟨h1, h2⟩; exact ⟨by omega, h2⟩
        · rintro ⟨h1, e', h2, h3⟩
          rcases Nat.lt_or_ge i k with h | h
          · exact ⟨h, e', h2, h3⟩
          · have : i = k := by omega
            subst this; rw [he] at h2; cases h2; exact absurd h3 hc
theorem mem_outs {es : List NEdge} {s t : Nat} : t ∈ outs es s ↔ ∃ e ∈ es, e.free = true ∧ e.fr = s ∧ e.to = t := by
  simp only [outs, List.mem_map, mem_outsI]
  constructor
  · rintro ⟨i, ⟨h1, e, h2, h3, h4⟩, rfl⟩
    exact ⟨e, List.mem_of_getElem? h2, h3, h4, by simp [toE, h2]⟩
  · rintro ⟨e, he, h3, h4, rfl⟩
    obtain ⟨i, hi⟩ := List.mem_iff_getElem?.1 he
    exact ⟨i, ⟨(List.getElem?_eq_some_iff.1 hi).1, e, hi, h3, h4⟩, by simp [toE, hi]⟩
/-- What holds while a list grows. -/
structure GInv (es : List NEdge) (n q : Nat) (i : Nat) (st : List Bool × List Nat) : Prop where
  len : st.1.length = n
  nodup : st.2.Nodup
  mem : ∀ p, st.1[p]? = some true ↔ p ∈ st.2
  lt : ∀ p ∈ st.2, p < n
  reach : ∀ p ∈ st.2, NReach es q p
  start : q ∈ st.2
  le : i ≤ st.2.length
  done : ∀ j < i, ∀ s, st.2[j]? = some s → ∀ t ∈ outs es s, t ∈ st.2
theorem visit_fold {es : List NEdge} {n q s : Nat} : ∀ (ts : List Nat) (st : List Bool × List Nat), st.1.length = n → st.2.Nodup → (∀ p, st.1[p]? = some true ↔ p ∈ st.2) → (∀ p ∈ st.2, p < n) → (∀ p ∈ st.2, NReach es q p) → (∀ t ∈ ts, t < n ∧ NReach es q t) →
    (ts.foldl visit1 st).1.length = n ∧ (ts.foldl visit1 st).2.Nodup ∧ (∀ p, (ts.foldl visit1 st).1[p]? = some true ↔ p ∈ (ts.foldl visit1 st).2) ∧ (∀ p ∈ (ts.foldl visit1 st).2, p < n) ∧ (∀ p ∈ (ts.foldl visit1 st).2, NReach es q p) ∧ (∃ u, (ts.foldl visit1 st).2 = st.2 ++ u) ∧ ∀ t ∈ ts, t ∈ (ts.foldl visit1 st).2
  | [], st, h1, h2, h3, h4, h5, _ => ⟨h1, h2, h3, h4, h5, ⟨[], by simp⟩, by simp⟩
  | t :: ts, st, h1, h2, h3, h4, h5, h6 => by
    obtain ⟨ht, hr⟩ := h6 t (by simp)
    obtain ⟨b, hb⟩ : ∃ b, st.1[t]? = some b := ⟨_, List.getElem?_eq_getElem (by omega)⟩
    simp only [List.foldl_cons]
    cases b with
    | true =>
      have e : visit1 st t = st := by simp [visit1, hb]
      rw [e]
      obtain ⟨g1, g2, g3, g4, g5, ⟨u, g6⟩, g7⟩ := visit_fold (s := s) ts st h1 h2 h3 h4 h5 fun t ht => h6 t (by simp [ht])
      refine ⟨g1, g2, g3, g4, g5, ⟨u, g6⟩, fun t' ht' => ?_⟩
      rcases List.mem_cons.1 ht' with rfl | ht'
      · rw [g6]; exact List.mem_append_left _ ((h3 _).1 hb)
      · exact g7 _ ht'
    | false =>
      have e : visit1 st t = (st.1.set t true, st.2 ++ [t]) := by simp [visit1, hb]
      have hnm : t ∉ st.2 := fun h => by have := (h3 t).2 h; rw [hb] at this; cases this
      rw [e]
      obtain ⟨g1, g2, g3, g4, g5, ⟨u, g6⟩, g7⟩ := visit_fold (s := s) ts (st.1.set t true, st.2 ++ [t]) (by simpa using h1)
        (by rw [List.nodup_append]; exact ⟨h2, by simp, fun a ha b hb => by simp at hb; subst hb; exact fun h => hnm (h ▸ ha)⟩)
        (fun p => by
          simp only [List.mem_append, List.mem_singleton]
          by_cases hp : p = t
          · subst hp; simp [List.getElem?_set_self (show p < st.1.length by omega)]
          · rw [List.getElem?_set_ne (fun h => hp h.symm)]
            simp [hp, h3])
        (fun p hp => (List.mem_append.1 hp).elim (h4 p) fun hp => by simp at hp; subst hp; exact ht)
        (fun p hp => (List.mem_append.1 hp).elim (h5 p) fun hp => by simp at hp; subst hp; exact hr)
        fun t ht => h6 t (by simp [ht])
      refine ⟨g1, g2, g3, g4, g5, ⟨[t] ++ u, by rw [g6]; simp⟩, fun t' ht' => ?_⟩
      rcases List.mem_cons.1 ht' with rfl | ht'
      · rw [g6]; simp
      · exact g7 _ ht'
theorem GInv.next {es : List NEdge} {n q i : Nat} {st : List Bool × List Nat} (hes : ∀ e ∈ es, e.to < n) (h : GInv es n q i st) {s : Nat} (hs : st.2[i]? = some s) : GInv es n q (i + 1) ((outs es s).foldl visit1 st) := by
  have hi := (List.getElem?_eq_some_iff.1 hs).1
  obtain ⟨g1, g2, g3, g4, g5, ⟨u, g6⟩, g7⟩ := visit_fold (es := es) (q := q) (s := s) (outs es s) st h.len h.nodup h.mem h.lt h.reach fun t ht => by
    obtain ⟨e, he, h1, h2, rfl⟩ := mem_outs.1 ht
    exact ⟨hes e he, .step (h.reach s (List.mem_of_getElem? hs)) he h1 h2⟩
  refine ⟨g1, g2, g3, g4, g5, by rw [g6]; exact List.mem_append_left _ h.start, by rw [g6]; simp; omega, fun j hj s' hs' t ht => ?_⟩
  rw [g6] at hs'
  rcases Nat.lt_or_ge j i with hji | hji
  · rw [List.getElem?_append_left (by omega)] at hs'
    rw [g6]
    exact List.mem_append_left _ (h.done j hji s' hs' t ht)
  · have : j = i := by omega
    subst this
    rw [List.getElem?_append_left hi, hs] at hs'
    cases hs'
    exact g7 t ht
theorem growGo_inv {es : List NEdge} {n q : Nat} (hes : ∀ e ∈ es, e.to < n) : ∀ (f i : Nat) (st : List Bool × List Nat), GInv es n q i st → n < f + i → GInv es n q (growGo es f i st).2.length (growGo es f i st)
  | 0, i, st, h, hf => by
    have := nodup_le n st.2 h.nodup h.lt
    have := h.le
    omega
  | f + 1, i, st, h, hf => by
    simp only [growGo]
    cases hs : st.2[i]? with
    | none =>
      have : i = st.2.length := by have := List.getElem?_eq_none_iff.1 hs; have := h.le; omega
      simp only
      rw [← this]; exact h
    | some s => exact growGo_inv hes f (i + 1) _ (h.next hes hs) (by omega)
theorem ginv_start {es : List NEdge} {n q : Nat} (hq : q < n) : GInv es n q 0 ((List.replicate n false).set q true, [q]) := by
  refine ⟨by simp, by simp, fun p => ?_, by simpa using hq, fun p hp => by simp at hp; subst hp; exact .refl, by simp, by simp, fun j hj => by omega⟩
  by_cases hp : p = q
  · subst hp; simp [hq]
  · rw [List.getElem?_set_ne (fun h => hp h.symm)]
    rcases Nat.lt_or_ge p n with h | h
    · simp [h, hp]
    · rw [List.getElem?_eq_none (by simpa using h)]; simp [hp]
theorem closedB_spec {es : List NEdge} {n q : Nat} (hes : ∀ e ∈ es, e.to < n) (hq : q < n) : (closedB es n q).length = n ∧ ∀ p, (closedB es n q)[p]? = some true ↔ NReach es q p := by
  have h := growGo_inv hes (n + 1) 0 _ (ginv_start hq) (by omega)
  refine ⟨h.len, fun p => ?_⟩
  rw [closedB, h.mem]
  refine ⟨h.reach p, fun hr => ?_⟩
  induction hr with
  | refl => exact h.start
  | step hr he h1 h2 ih =>
    obtain ⟨j, hj⟩ := List.mem_iff_getElem?.1 ih
    exact h.done j (List.getElem?_eq_some_iff.1 hj).1 _ hj _ (mem_outs.2 ⟨_, he, h1, h2, rfl⟩)
theorem mem_statesL : ∀ (l : List Bool) (q p : Nat), p ∈ statesL q l ↔ q ≤ p ∧ l[p - q]? = some true
  | [], q, p => by simp [statesL]
  | b :: l, q, p => by
    have ih := mem_statesL l (q + 1) p
    simp only [statesL]
    by_cases hpq : p = q
    · subst hpq
      cases b <;> simp [ih]
      omega
    · rcases Nat.lt_or_ge p q with h | h
      · have h1 : ¬q + 1 ≤ p := by omega
        cases b <;> simp [ih, hpq, h1] <;> omega
      · have e : p - q = (p - (q + 1)) + 1 := by omega
        rw [e]
        have h1 : q + 1 ≤ p := by omega
        cases b <;> simp [ih, hpq, h, h1]
theorem mem_closedL {es : List NEdge} {n q p : Nat} (hes : ∀ e ∈ es, e.to < n) (hq : q < n) : p ∈ closedL es n q ↔ NReach es q p := by
  rw [closedL, mem_statesL]
  simpa using (closedB_spec hes hq).2 p
theorem NReach.lt {es : List NEdge} {n q p : Nat} (hes : ∀ e ∈ es, e.to < n) (hq : q < n) (h : NReach es q p) : p < n := by
  cases h with
  | refl => exact hq
  | step _ he _ _ => exact hes _ he
end Go.Aut
