/-
  Automata, plainly: walks that number what they meet, and what they tell. No condition.
-/
set_option linter.unusedVariables false
set_option linter.unusedSimpArgs false
namespace Go.Aut

/-! ### Places in a list -/
section
variable {K : Type}
/-- The place of the first one in a list that is as good as k. -/
def pos (e : K → K → Bool) (k : K) : List K → Option Nat
  | [] => none
  | x :: l => if e x k = true then some 0 else (pos e k l).map (· + 1)
def addN (e : K → K → Bool) (l : List K) (k : K) : Nat := (pos e k l).getD l.length
def addL (e : K → K → Bool) (l : List K) (k : K) : List K := if (pos e k l).isSome = true then l else l ++ [k]
/-- The numbers of f c, f (c + 1), .. (m of them), and the list then. -/
def rowGo (e : K → K → Bool) (f : Nat → K) : Nat → Nat → List K → List Nat × List K
  | 0, _, l => ([], l)
  | m + 1, c, l => (addN e l (f c) :: (rowGo e f m (c + 1) (addL e l (f c))).1, (rowGo e f m (c + 1) (addL e l (f c))).2)
/-- A walk: what has been met, and the rows so far. None: more than 'most' have been met. -/
def walkGo (e : K → K → Bool) (step : K → Nat → K) (most : Nat) : Nat → Nat → List K → List (List Nat) → Option (List K × List (List Nat))
  | 0, _, _, _ => none
  | f + 1, i, l, rows => match l[i]? with
    | none => some (l, rows)
    | some q => if most < (rowGo e (step q) 95 0 l).2.length then none else walkGo e step most f (i + 1) (rowGo e (step q) 95 0 l).2 (rows ++ [(rowGo e (step q) 95 0 l).1])
def walkP (e : K → K → Bool) (step : K → Nat → K) (start : K) (most : Nat) : Option (List K × List (List Nat)) := walkGo e step most (most + 2) 0 [start] []

variable {e : K → K → Bool}
theorem pos_some {k : K} : ∀ {l : List K} {i : Nat}, pos e k l = some i → ∃ x, l[i]? = some x ∧ e x k = true
  | [], i, h => by simp [pos] at h
  | y :: l, i, h => by
    simp only [pos] at h
    split at h
    · rename_i hy; cases h; exact ⟨y, rfl, hy⟩
    · cases hp : pos e k l with
      | none => simp [hp] at h
      | some j => simp [hp] at h; subst h; simpa using pos_some hp
theorem pos_none {k : K} : ∀ {l : List K}, pos e k l = none → ∀ x ∈ l, e x k = false
  | [], _, x, hx => by cases hx
  | y :: l, h, x, hx => by
    simp only [pos] at h
    split at h
    · cases h
    · rename_i hy
      simp at h
      rcases List.mem_cons.1 hx with rfl | hx
      · simpa using hy
      · exact pos_none h x hx
theorem pos_lt {k : K} {l : List K} {i : Nat} (h : pos e k l = some i) : i < l.length := by
  obtain ⟨x, hx, _⟩ := pos_some h
  exact (List.getElem?_eq_some_iff.1 hx).1
/-- The first one: all ahead of it are others. -/
theorem pos_first {k : K} : ∀ {l : List K} {i : Nat}, pos e k l = some i → ∀ j < i, ∀ x, l[j]? = some x → e x k = false
  | [], i, h => by simp [pos] at h
  | y :: l, i, h => by
    simp only [pos] at h
    split at h
    · cases h; intro j hj; omega
    · rename_i hy
      cases hp : pos e k l with
      | none => simp [hp] at h
      | some m =>
        simp [hp] at h
        subst h
        intro j hj x hx
        cases j with
        | zero => simp at hx; subst hx; simpa using hy
        | succ j => simp at hx; exact pos_first hp j (by omega) x hx
theorem addL_pre (l : List K) (k : K) : ∃ t, addL e l k = l ++ t := by
  unfold addL; split
  · exact ⟨[], by simp⟩
  · exact ⟨[k], rfl⟩
theorem addN_get (he : ∀ a, e a a = true) (l : List K) (k : K) : ∃ x, (addL e l k)[addN e l k]? = some x ∧ e x k = true := by
  unfold addL addN
  cases hp : pos e k l with
  | none => exact ⟨k, by simp, he k⟩
  | some i => obtain ⟨x, hx, h⟩ := pos_some hp; exact ⟨x, by simpa using hx, h⟩
theorem addL_mem {l : List K} {k x : K} (h : x ∈ addL e l k) : x ∈ l ∨ x = k := by
  unfold addL at h; split at h
  · exact .inl h
  · simpa using h
/-- No two of a list are as good as one another. -/
def Apart (e : K → K → Bool) (l : List K) : Prop := ∀ (i j : Nat) (x y : K), i < j → l[i]? = some x → l[j]? = some y → e x y = false
theorem Apart.add {l : List K} (h : Apart e l) (k : K) : Apart e (addL e l k) := by
  unfold addL; split
  · exact h
  · rename_i hp
    have hp : pos e k l = none := by simpa using hp
    intro i j x y hij hx hy
    have hj := (List.getElem?_eq_some_iff.1 hy).1
    simp at hj
    rcases Nat.lt_or_ge j l.length with hjl | hjl
    · rw [List.getElem?_append_left hjl] at hy
      rw [List.getElem?_append_left (by omega)] at hx
      exact h i j x y hij hx hy
    · have : j = l.length := by omega
      subst this
      simp at hy
      subst hy
      rw [List.getElem?_append_left hij] at hx
      exact pos_none hp x (List.mem_of_getElem? hx)
theorem Apart.one (k : K) : Apart e [k] := by
  intro i j x y hij hx hy
  have := (List.getElem?_eq_some_iff.1 hy).1
  simp at this
  omega
/-- In a list that is apart: the place of one of it is that one's. -/
theorem pos_self (hs : ∀ a b, e a b = true → e b a = true) (ht : ∀ a b c, e a b = true → e b c = true → e a c = true) {l : List K} (h : Apart e l) {i : Nat} {x k : K} (hx : l[i]? = some x) (hk : e x k = true) : pos e k l = some i := by
  cases hp : pos e k l with
  | none => have := pos_none hp x (List.mem_of_getElem? hx); simp [hk] at this
  | some j =>
    obtain ⟨y, hy, hyk⟩ := pos_some hp
    rcases Nat.lt_trichotomy i j with hij | hij | hij
    · have := h i j x y hij hx hy; simp [ht x k y hk (hs _ _ hyk)] at this
    · rw [hij]
    · have := h j i y x hij hy hx; simp [ht y k x hyk (hs _ _ hk)] at this

theorem rowGo_len (f : Nat → K) : ∀ (m c : Nat) (l : List K), (rowGo e f m c l).1.length = m
  | 0, _, _ => rfl
  | m + 1, c, l => by simp [rowGo, rowGo_len f m]
theorem rowGo_pre (f : Nat → K) : ∀ (m c : Nat) (l : List K), ∃ t, (rowGo e f m c l).2 = l ++ t
  | 0, _, l => ⟨[], by simp [rowGo]⟩
  | m + 1, c, l => by
    obtain ⟨t, ht⟩ := addL_pre (e := e) l (f c)
    obtain ⟨u, hu⟩ := rowGo_pre f m (c + 1) (addL e l (f c))
    exact ⟨t ++ u, by simp only [rowGo]; rw [hu, ht]; simp⟩
theorem rowGo_mem (f : Nat → K) : ∀ (m c : Nat) (l : List K) (x : K), x ∈ (rowGo e f m c l).2 → x ∈ l ∨ ∃ d, c ≤ d ∧ d < c + m ∧ x = f d
  | 0, _, l, x, h => .inl h
  | m + 1, c, l, x, h => by
    simp only [rowGo] at h
    rcases rowGo_mem f m (c + 1) _ x h with h | ⟨d, h1, h2, h3⟩
    · rcases addL_mem h with h | h
      · exact .inl h
      · exact .inr ⟨c, by omega, by omega, h⟩
    · exact .inr ⟨d, by omega, by omega, h3⟩
theorem rowGo_get (he : ∀ a, e a a = true) (f : Nat → K) : ∀ (m c : Nat) (l : List K) (d : Nat), d < m → ∃ k x, (rowGo e f m c l).1[d]? = some k ∧ (rowGo e f m c l).2[k]? = some x ∧ e x (f (c + d)) = true
  | 0, _, _, _, h => by omega
  | m + 1, c, l, d, h => by
    simp only [rowGo]
    cases d with
    | zero =>
      obtain ⟨x, hx, hxe⟩ := addN_get he l (f c)
      obtain ⟨u, hu⟩ := rowGo_pre (e := e) f m (c + 1) (addL e l (f c))
      refine ⟨_, x, rfl, ?_, hxe⟩
      rw [hu, List.getElem?_append_left (List.getElem?_eq_some_iff.1 hx).1]; exact hx
    | succ d =>
      obtain ⟨k, x, h1, h2, h3⟩ := rowGo_get he f m (c + 1) (addL e l (f c)) d (by omega)
      exact ⟨k, x, by simpa using h1, h2, by rw [show c + (d + 1) = c + 1 + d by omega]; exact h3⟩
theorem rowGo_apart (f : Nat → K) : ∀ (m c : Nat) (l : List K), Apart e l → Apart e (rowGo e f m c l).2
  | 0, _, _, h => h
  | m + 1, c, l, h => rowGo_apart f m (c + 1) _ (h.add _)

/-- What holds in a walk: so many rows are made, and tell the numbers of the next ones. -/
structure WInv (e : K → K → Bool) (step : K → Nat → K) (D : K → Prop) (i : Nat) (l : List K) (rows : List (List Nat)) : Prop where
  len : rows.length = i
  le : i ≤ l.length
  dom : ∀ x ∈ l, D x
  apart : Apart e l
  row : ∀ j < i, ∃ q r, l[j]? = some q ∧ rows[j]? = some r ∧ r.length = 95 ∧ ∀ c < 95, ∃ k x, r[c]? = some k ∧ l[k]? = some x ∧ e x (step q c) = true
theorem WInv.next (he : ∀ a, e a a = true) {step : K → Nat → K} {D : K → Prop} (hD : ∀ q c, D q → c < 95 → D (step q c)) {i : Nat} {l : List K} {rows : List (List Nat)} (h : WInv e step D i l rows) {q : K} (hq : l[i]? = some q) :
    WInv e step D (i + 1) (rowGo e (step q) 95 0 l).2 (rows ++ [(rowGo e (step q) 95 0 l).1]) := by
  obtain ⟨t, ht⟩ := rowGo_pre (e := e) (step q) 95 0 l
  have hi := (List.getElem?_eq_some_iff.1 hq).1
  refine ⟨by simp [h.len], by rw [ht]; simp; omega, ?_, rowGo_apart _ _ _ _ h.apart, ?_⟩
  · intro x hx
    rcases rowGo_mem _ _ _ _ _ hx with hx | ⟨d, _, hd, rfl⟩
    · exact h.dom x hx
    · exact hD _ _ (h.dom q (List.mem_of_getElem? hq)) (by omega)
  · intro j hj
    rcases Nat.lt_or_ge j i with hji | hji
    · obtain ⟨p, r, h1, h2, h3, h4⟩ := h.row j hji
      refine ⟨p, r, by rw [ht, List.getElem?_append_left (by omega)]; exact h1, by rw [List.getElem?_append_left (by rw [h.len]; omega)]; exact h2, h3, fun c hc => ?_⟩
      obtain ⟨k, x, g1, g2, g3⟩ := h4 c hc
      exact ⟨k, x, g1, by rw [ht, List.getElem?_append_left (List.getElem?_eq_some_iff.1 g2).1]; exact g2, g3⟩
    · have : j = i := by omega
      subst this
      refine ⟨q, (rowGo e (step q) 95 0 l).1, by rw [ht, List.getElem?_append_left hi]; exact hq, by simp [← h.len], rowGo_len _ _ _ _, fun c hc => ?_⟩
      simpa using rowGo_get he (step q) 95 0 l c hc
theorem walkGo_inv (he : ∀ a, e a a = true) {step : K → Nat → K} {most : Nat} {D : K → Prop} (hD : ∀ q c, D q → c < 95 → D (step q c)) : ∀ (f i : Nat) (l : List K) (rows : List (List Nat)) (l' : List K) (rows' : List (List Nat)),
    WInv e step D i l rows → walkGo e step most f i l rows = some (l', rows') → WInv e step D l'.length l' rows' ∧ ∃ t, l' = l ++ t
  | 0, _, _, _, _, _, _, h => by simp [walkGo] at h
  | f + 1, i, l, rows, l', rows', hI, h => by
    simp only [walkGo] at h
    cases hq : l[i]? with
    | none =>
      simp only [hq, Option.some.injEq, Prod.mk.injEq] at h
      obtain ⟨rfl, rfl⟩ := h
      have : i = l.length := by have := List.getElem?_eq_none_iff.1 hq; have := hI.le; omega
      rw [← this]
      exact ⟨hI, [], by simp⟩
    | some q =>
      simp only [hq] at h
      split at h
      · cases h
      · obtain ⟨h1, t, h2⟩ := walkGo_inv he hD f _ _ _ _ _ (hI.next he hD hq) h
        obtain ⟨u, hu⟩ := rowGo_pre (e := e) (step q) 95 0 l
        exact ⟨h1, u ++ t, by rw [h2, hu]; simp⟩

/-! ### A walk, and one of what is behind it -/
section
variable {K' : Type} [DecidableEq K'] {φ : K → K'} {D : K → Prop}
def eqB [DecidableEq K'] (a b : K') : Bool := decide (a = b)
theorem pos_map (hφ : ∀ a b, D a → D b → (e a b = true ↔ φ a = φ b)) {k : K} (hk : D k) : ∀ {l : List K}, (∀ x ∈ l, D x) → pos eqB (φ k) (l.map φ) = pos e k l
  | [], _ => rfl
  | x :: l, h => by
    have hx := hφ x k (h x (by simp)) hk
    have ih := pos_map hφ hk (l := l) (fun y hy => h y (by simp [hy]))
    simp only [List.map_cons, pos, ih]
    by_cases hc : e x k = true
    · simp [hc, eqB, hx.1 hc]
    · have : φ x ≠ φ k := fun h => hc (hx.2 h)
      simp [hc, eqB, this]
theorem addN_map (hφ : ∀ a b, D a → D b → (e a b = true ↔ φ a = φ b)) {k : K} (hk : D k) {l : List K} (h : ∀ x ∈ l, D x) : addN eqB (l.map φ) (φ k) = addN e l k := by
  simp [addN, pos_map hφ hk h]
theorem addL_map (hφ : ∀ a b, D a → D b → (e a b = true ↔ φ a = φ b)) {k : K} (hk : D k) {l : List K} (h : ∀ x ∈ l, D x) : addL eqB (l.map φ) (φ k) = (addL e l k).map φ := by
  simp only [addL, pos_map hφ hk h]; split <;> simp
theorem addL_dom {l : List K} (h : ∀ x ∈ l, D x) {k : K} (hk : D k) : ∀ x ∈ addL e l k, D x := fun x hx => by
  rcases addL_mem hx with hx | rfl
  · exact h x hx
  · exact hk
theorem rowGo_map (hφ : ∀ a b, D a → D b → (e a b = true ↔ φ a = φ b)) {f : Nat → K} {g : Nat → K'} : ∀ (m c : Nat) (l : List K), (∀ d, c ≤ d → d < c + m → D (f d) ∧ g d = φ (f d)) → (∀ x ∈ l, D x) →
    rowGo eqB g m c (l.map φ) = ((rowGo e f m c l).1, (rowGo e f m c l).2.map φ)
  | 0, _, _, _, _ => rfl
  | m + 1, c, l, hf, h => by
    obtain ⟨h1, h2⟩ := hf c (by omega) (by omega)
    simp only [rowGo, h2, addN_map hφ h1 h, addL_map hφ h1 h]
    rw [rowGo_map hφ m (c + 1) _ (fun d hd hd' => hf d (by omega) (by omega)) (addL_dom h h1)]
theorem walkGo_map (he : ∀ a, e a a = true) (hφ : ∀ a b, D a → D b → (e a b = true ↔ φ a = φ b)) {step : K → Nat → K} {step' : K' → Nat → K'} (hD : ∀ q c, D q → c < 95 → D (step q c)) (hs : ∀ q c, D q → c < 95 → step' (φ q) c = φ (step q c)) {most : Nat} :
    ∀ (f i : Nat) (l : List K) (rows : List (List Nat)), (∀ x ∈ l, D x) → walkGo eqB step' most f i (l.map φ) rows = (walkGo e step most f i l rows).map fun r => (r.1.map φ, r.2)
  | 0, _, _, _, _ => rfl
  | f + 1, i, l, rows, h => by
    simp only [walkGo, List.getElem?_map]
    cases hq : l[i]? with
    | none => simp
    | some q =>
      have hq' := h q (List.mem_of_getElem? hq)
      simp only [Option.map_some, rowGo_map hφ (f := step q) (g := step' (φ q)) 95 0 l (fun d _ hd => ⟨hD q d hq' (by omega), hs q d hq' (by omega)⟩) h]
      simp only [List.length_map]
      split
      · simp
      · refine walkGo_map he hφ hD hs f _ _ _ fun x hx => ?_
        rcases rowGo_mem _ _ _ _ _ hx with hx | ⟨d, _, hd, rfl⟩
        · exact h x hx
        · exact hD _ _ hq' (by omega)
end

/-- With more fuel, and room, a walk ends the same. -/
theorem walkGo_more {step : K → Nat → K} {most most' : Nat} (hm : most ≤ most') : ∀ (f f' i : Nat) (l : List K) (rows : List (List Nat)) (r : List K × List (List Nat)), f ≤ f' → walkGo e step most f i l rows = some r → walkGo e step most' f' i l rows = some r
  | 0, _, _, _, _, _, _, h => by simp [walkGo] at h
  | f + 1, 0, _, _, _, _, hf, _ => by omega
  | f + 1, f' + 1, i, l, rows, r, hf, h => by
    simp only [walkGo] at h ⊢
    split at h
    · exact h
    · split at h
      · cases h
      · rename_i hn
        rw [if_neg (by omega)]
        exact walkGo_more hm f f' _ _ _ _ (by omega) h

/-- A walk that has so much fuel, and never meets too many, ends. -/
theorem walkGo_ends (he : ∀ a, e a a = true) {step : K → Nat → K} {most : Nat} {D : K → Prop} (hD : ∀ q c, D q → c < 95 → D (step q c)) (hN : ∀ l : List K, (∀ x ∈ l, D x) → Apart e l → l.length ≤ most) :
    ∀ (f i : Nat) (l : List K) (rows : List (List Nat)), (∀ x ∈ l, D x) → Apart e l → i ≤ l.length → most + 1 ≤ f + i → ∃ r, walkGo e step most f i l rows = some r
  | 0, i, l, rows, h, ha, hi, hf => by have := hN l h ha; omega
  | f + 1, i, l, rows, h, ha, hi, hf => by
    simp only [walkGo]
    cases hq : l[i]? with
    | none => exact ⟨_, rfl⟩
    | some q =>
      have hq' := h q (List.mem_of_getElem? hq)
      have hd : ∀ x ∈ (rowGo e (step q) 95 0 l).2, D x := fun x hx => by
        rcases rowGo_mem _ _ _ _ _ hx with hx | ⟨d, _, hd, rfl⟩
        · exact h x hx
        · exact hD _ _ hq' (by omega)
      have ha' := rowGo_apart (e := e) (step q) 95 0 l ha
      have := hN _ hd ha'
      obtain ⟨t, ht⟩ := rowGo_pre (e := e) (step q) 95 0 l
      have hi' := (List.getElem?_eq_some_iff.1 hq).1
      simp only
      rw [if_neg (by omega)]
      exact walkGo_ends he hD hN f (i + 1) _ _ hd ha' (by rw [ht]; simp; omega) (by omega)
end
end Go.Aut
