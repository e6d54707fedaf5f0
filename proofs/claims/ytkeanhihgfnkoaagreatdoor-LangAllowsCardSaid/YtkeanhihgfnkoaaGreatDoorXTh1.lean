/-
  Automata, plainly: walks that number what they meet, and what they tell. No condition.
  Automata, plainly: languages, the form that a language alone determines, classes of states. No condition.
  What the first functions of layer 11 answer. No condition.
  What meets states answers: their numbers, as they were first met. No condition.
  What a walk through an automaton's states answers. No condition.
  What a walk through an automaton's states answers. No condition.
  What meets keys answers: their numbers, as they were first met. No condition.
  What an automaton's classes are. No condition.
  What an automaton's form is. No condition.
-/
import Derived.Test.YtkeanhihgfnkoaaGreatDoorXCodeD
set_option linter.unusedVariables false
set_option linter.unusedSimpArgs false
set_option linter.unusedSectionVars false
section
namespace Go.Aut

/-! ### Places in a list -/
section
variable {K : Type}
def pos (e : K → K → Bool) (k : K) : List K → Option Nat
 | [] => none
 | x :: l => if e x k = true then some 0 else (pos e k l).map (· + 1)
def addN (e : K → K → Bool) (l : List K) (k : K) : Nat := (pos e k l).getD l.length
def addL (e : K → K → Bool) (l : List K) (k : K) : List K := if (pos e k l).isSome = true then l else l ++ [k]
def rowGo (e : K → K → Bool) (f : Nat → K) : Nat → Nat → List K → List Nat × List K
 | 0, _, l => ([], l)
 | m + 1, c, l => (addN e l (f c) :: (rowGo e f m (c + 1) (addL e l (f c))).1, (rowGo e f m (c + 1) (addL e l (f c))).2)
def walkGo (e : K → K → Bool) (step : K → Nat → K) (most : Nat) : Nat → Nat → List K → List (List Nat) → Option (List K × List (List Nat))
 | 0, _, _, _ => none
 | f + 1, i, l, rows => match l[i]? with
   | none => some (l, rows)
   | some q => if most < (rowGo e (step q) 95 0 l).2.length then none else walkGo e step most f (i + 1) (rowGo e (step q) 95 0 l).2 (rows ++ [(rowGo e (step q) 95 0 l).1])
def walkP (e : K → K → Bool) (step : K → Nat → K) (start : K) (most : Nat) : Option (List K × List (List Nat)) := walkGo e step most (most + 2) 0 [start] []

variable {e : K → K → Bool}
theorem pos_some {k : K} : ∀ {l : List K} {i : Nat}, pos e k l = some i → ∃ x, l[i]? = some x ∧ e x k = true
 | [], i, h => by simp [pos] at h
 | y :: l, i, h => by
   simp only [pos] at h
   split at h
   · rename_i hy; cases h; exact ⟨y, rfl, hy⟩
   · cases hp : pos e k l with
     | none => simp [hp] at h
     | some j => simp [hp] at h; subst h; simpa using pos_some hp
theorem pos_none {k : K} : ∀ {l : List K}, pos e k l = none → ∀ x ∈ l, e x k = false
 | [], _, x, hx => by cases hx
 | y :: l, h, x, hx => by
   simp only [pos] at h
   split at h
   · cases h
   · rename_i hy
     simp at h
     rcases List.mem_cons.1 hx with rfl | hx
     · simpa using hy
     · exact pos_none h x hx
theorem addL_pre (l : List K) (k : K) : ∃ t, addL e l k = l ++ t := by
 unfold addL; split
 · exact ⟨[], by simp⟩
 · exact ⟨[k], rfl⟩
theorem addN_get (he : ∀ a, e a a = true) (l : List K) (k : K) : ∃ x, (addL e l k)[addN e l k]? = some x ∧ e x k = true := by
 unfold addL addN
 cases hp : pos e k l with
 | none => exact ⟨k, by simp, he k⟩
 | some i => obtain ⟨x, hx, h⟩ := pos_some hp; exact ⟨x, by simpa using hx, h⟩
theorem addL_mem {l : List K} {k x : K} (h : x ∈ addL e l k) : x ∈ l ∨ x = k := by
 unfold addL at h; split at h
 · exact .inl h
 · simpa using h
def Apart (e : K → K → Bool) (l : List K) : Prop := ∀ (i j : Nat) (x y : K), i < j → l[i]? = some x → l[j]? = some y → e x y = false
theorem Apart.add {l : List K} (h : Apart e l) (k : K) : Apart e (addL e l k) := by
 unfold addL; split
 · exact h
 · rename_i hp
   have hp : pos e k l = none := by simpa using hp
   intro i j x y hij hx hy
   have hj := (List.getElem?_eq_some_iff.1 hy).1
   simp at hj
   rcases Nat.lt_or_ge j l.length with hjl | hjl
   · rw [List.getElem?_append_left hjl] at hy
     rw [List.getElem?_append_left (by omega)] at hx
     exact h i j x y hij hx hy
   · have : j = l.length := by omega
     subst this
     simp at hy
     subst hy
     rw [List.getElem?_append_left hij] at hx
     exact pos_none hp x (List.mem_of_getElem? hx)
theorem Apart.one (k : K) : Apart e [k] := by
 intro i j x y hij hx hy
 have := (List.getElem?_eq_some_iff.1 hy).1
 simp at this
 omega
theorem pos_self (hs : ∀ a b, e a b = true → e b a = true) (ht : ∀ a b c, e a b = true → e b c = true → e a c = true) {l : List K} (h : Apart e l) {i : Nat} {x k : K} (hx : l[i]? = some x) (hk : e x k = true) : pos e k l = some i := by
 cases hp : pos e k l with
 | none => have := pos_none hp x (List.mem_of_getElem? hx); simp [hk] at this
 | some j =>
   obtain ⟨y, hy, hyk⟩ := pos_some hp
   rcases Nat.lt_trichotomy i j with hij | hij | hij
   · have := h i j x y hij hx hy; simp [ht x k y hk (hs _ _ hyk)] at this
   · rw [hij]
   · have := h j i y x hij hy hx; simp [ht y k x hyk (hs _ _ hk)] at this

theorem rowGo_len (f : Nat → K) : ∀ (m c : Nat) (l : List K), (rowGo e f m c l).1.length = m
 | 0, _, _ => rfl
 | m + 1, c, l => by simp [rowGo, rowGo_len f m]
theorem rowGo_pre (f : Nat → K) : ∀ (m c : Nat) (l : List K), ∃ t, (rowGo e f m c l).2 = l ++ t
 | 0, _, l => ⟨[], by simp [rowGo]⟩
 | m + 1, c, l => by
   obtain ⟨t, ht⟩ := addL_pre (e := e) l (f c)
   obtain ⟨u, hu⟩ := rowGo_pre f m (c + 1) (addL e l (f c))
   exact ⟨t ++ u, by simp only [rowGo]; rw [hu, ht]; simp⟩
theorem rowGo_mem (f : Nat → K) : ∀ (m c : Nat) (l : List K) (x : K), x ∈ (rowGo e f m c l).2 → x ∈ l ∨ ∃ d, c ≤ d ∧ d < c + m ∧ x = f d
 | 0, _, l, x, h => .inl h
 | m + 1, c, l, x, h => by
   simp only [rowGo] at h
   rcases rowGo_mem f m (c + 1) _ x h with h | ⟨d, h1, h2, h3⟩
   · rcases addL_mem h with h | h
     · exact .inl h
     · exact .inr ⟨c, by omega, by omega, h⟩
   · exact .inr ⟨d, by omega, by omega, h3⟩
theorem rowGo_get (he : ∀ a, e a a = true) (f : Nat → K) : ∀ (m c : Nat) (l : List K) (d : Nat), d < m → ∃ k x, (rowGo e f m c l).1[d]? = some k ∧ (rowGo e f m c l).2[k]? = some x ∧ e x (f (c + d)) = true
 | 0, _, _, _, h => by omega
 | m + 1, c, l, d, h => by
   simp only [rowGo]
   cases d with
   | zero =>
     obtain ⟨x, hx, hxe⟩ := addN_get he l (f c)
     obtain ⟨u, hu⟩ := rowGo_pre (e := e) f m (c + 1) (addL e l (f c))
     refine ⟨_, x, rfl, ?_, hxe⟩
     rw [hu, List.getElem?_append_left (List.getElem?_eq_some_iff.1 hx).1]; exact hx
   | succ d =>
     obtain ⟨k, x, h1, h2, h3⟩ := rowGo_get he f m (c + 1) (addL e l (f c)) d (by omega)
     exact ⟨k, x, by simpa using h1, h2, by rw [show c + (d + 1) = c + 1 + d by omega]; exact h3⟩
theorem rowGo_apart (f : Nat → K) : ∀ (m c : Nat) (l : List K), Apart e l → Apart e (rowGo e f m c l).2
 | 0, _, _, h => h
 | m + 1, c, l, h => rowGo_apart f m (c + 1) _ (h.add _)

structure WInv (e : K → K → Bool) (step : K → Nat → K) (D : K → Prop) (i : Nat) (l : List K) (rows : List (List Nat)) : Prop where
 len : rows.length = i
 le : i ≤ l.length
 dom : ∀ x ∈ l, D x
 apart : Apart e l
 row : ∀ j < i, ∃ q r, l[j]? = some q ∧ rows[j]? = some r ∧ r.length = 95 ∧ ∀ c < 95, ∃ k x, r[c]? = some k ∧ l[k]? = some x ∧ e x (step q c) = true
theorem WInv.next (he : ∀ a, e a a = true) {step : K → Nat → K} {D : K → Prop} (hD : ∀ q c, D q → c < 95 → D (step q c)) {i : Nat} {l : List K} {rows : List (List Nat)} (h : WInv e step D i l rows) {q : K} (hq : l[i]? = some q) :
 WInv e step D (i + 1) (rowGo e (step q) 95 0 l).2 (rows ++ [(rowGo e (step q) 95 0 l).1]) := by
 obtain ⟨t, ht⟩ := rowGo_pre (e := e) (step q) 95 0 l
 have hi := (List.getElem?_eq_some_iff.1 hq).1
 refine ⟨by simp [h.len], by rw [ht]; simp; omega, ?_, rowGo_apart _ _ _ _ h.apart, ?_⟩
 · intro x hx
   rcases rowGo_mem _ _ _ _ _ hx with hx | ⟨d, _, hd, rfl⟩
   · exact h.dom x hx
   · exact hD _ _ (h.dom q (List.mem_of_getElem? hq)) (by omega)
 · intro j hj
   rcases Nat.lt_or_ge j i with hji | hji
   · obtain ⟨p, r, h1, h2, h3, h4⟩ := h.row j hji
     refine ⟨p, r, by rw [ht, List.getElem?_append_left (by omega)]; exact h1, by rw [List.getElem?_append_left (by rw [h.len]; omega)]; exact h2, h3, fun c hc => ?_⟩
     obtain ⟨k, x, g1, g2, g3⟩ := h4 c hc
     exact ⟨k, x, g1, by rw [ht, List.getElem?_append_left (List.getElem?_eq_some_iff.1 g2).1]; exact g2, g3⟩
   · have : j = i := by omega
     subst this
     refine ⟨q, (rowGo e (step q) 95 0 l).1, by rw [ht, List.getElem?_append_left hi]; exact hq, by simp [← h.len], rowGo_len _ _ _ _, fun c hc => ?_⟩
     simpa using rowGo_get he (step q) 95 0 l c hc
theorem walkGo_inv (he : ∀ a, e a a = true) {step : K → Nat → K} {most : Nat} {D : K → Prop} (hD : ∀ q c, D q → c < 95 → D (step q c)) : ∀ (f i : Nat) (l : List K) (rows : List (List Nat)) (l' : List K) (rows' : List (List Nat)),
 WInv e step D i l rows → walkGo e step most f i l rows = some (l', rows') → WInv e step D l'.length l' rows' ∧ ∃ t, l' = l ++ t
 | 0, _, _, _, _, _, _, h => by simp [walkGo] at h
 | f + 1, i, l, rows, l', rows', hI, h => by
   simp only [walkGo] at h
   cases hq : l[i]? with
   | none =>
     simp only [hq, Option.some.injEq, Prod.mk.injEq] at h
     obtain ⟨rfl, rfl⟩ := h
     have : i = l.length := by have := List.getElem?_eq_none_iff.1 hq; have := hI.le; omega
     rw [← this]
     exact ⟨hI, [], by simp⟩
   | some q =>
     simp only [hq] at h
     split at h
     · cases h
     · obtain ⟨h1, t, h2⟩ := walkGo_inv he hD f _ _ _ _ _ (hI.next he hD hq) h
       obtain ⟨u, hu⟩ := rowGo_pre (e := e) (step q) 95 0 l
       exact ⟨h1, u ++ t, by rw [h2, hu]; simp⟩

/-! ### A walk, and one of what is behind it -/
section
variable {K' : Type} [DecidableEq K'] {φ : K → K'} {D : K → Prop}
def eqB [DecidableEq K'] (a b : K') : Bool := decide (a = b)
theorem pos_map (hφ : ∀ a b, D a → D b → (e a b = true ↔ φ a = φ b)) {k : K} (hk : D k) : ∀ {l : List K}, (∀ x ∈ l, D x) → pos eqB (φ k) (l.map φ) = pos e k l
 | [], _ => rfl
 | x :: l, h => by
   have hx := hφ x k (h x (by simp)) hk
   have ih := pos_map hφ hk (l := l) (fun y hy => h y (by simp [hy]))
   simp only [List.map_cons, pos, ih]
   by_cases hc : e x k = true
   · simp [hc, eqB, hx.1 hc]
   · have : φ x ≠ φ k := fun h => hc (hx.2 h)
     simp [hc, eqB, this]
theorem addN_map (hφ : ∀ a b, D a → D b → (e a b = true ↔ φ a = φ b)) {k : K} (hk : D k) {l : List K} (h : ∀ x ∈ l, D x) : addN eqB (l.map φ) (φ k) = addN e l k := by
 simp [addN, pos_map hφ hk h]
theorem addL_map (hφ : ∀ a b, D a → D b → (e a b = true ↔ φ a = φ b)) {k : K} (hk : D k) {l : List K} (h : ∀ x ∈ l, D x) : addL eqB (l.map φ) (φ k) = (addL e l k).map φ := by
 simp only [addL, pos_map hφ hk h]; split <;> simp
theorem addL_dom {l : List K} (h : ∀ x ∈ l, D x) {k : K} (hk : D k) : ∀ x ∈ addL e l k, D x := fun x hx => by
 rcases addL_mem hx with hx | rfl
 · exact h x hx
 · exact hk
theorem rowGo_map (hφ : ∀ a b, D a → D b → (e a b = true ↔ φ a = φ b)) {f : Nat → K} {g : Nat → K'} : ∀ (m c : Nat) (l : List K), (∀ d, c ≤ d → d < c + m → D (f d) ∧ g d = φ (f d)) → (∀ x ∈ l, D x) →
 rowGo eqB g m c (l.map φ) = ((rowGo e f m c l).1, (rowGo e f m c l).2.map φ)
 | 0, _, _, _, _ => rfl
 | m + 1, c, l, hf, h => by
   obtain ⟨h1, h2⟩ := hf c (by omega) (by omega)
   simp only [rowGo, h2, addN_map hφ h1 h, addL_map hφ h1 h]
   rw [rowGo_map hφ m (c + 1) _ (fun d hd hd' => hf d (by omega) (by omega)) (addL_dom h h1)]
theorem walkGo_map (he : ∀ a, e a a = true) (hφ : ∀ a b, D a → D b → (e a b = true ↔ φ a = φ b)) {step : K → Nat → K} {step' : K' → Nat → K'} (hD : ∀ q c, D q → c < 95 → D (step q c)) (hs : ∀ q c, D q → c < 95 → step' (φ q) c = φ (step q c)) {most : Nat} :
 ∀ (f i : Nat) (l : List K) (rows : List (List Nat)), (∀ x ∈ l, D x) → walkGo eqB step' most f i (l.map φ) rows = (walkGo e step most f i l rows).map fun r => (r.1.map φ, r.2)
 | 0, _, _, _, _ => rfl
 | f + 1, i, l, rows, h => by
   simp only [walkGo, List.getElem?_map]
   cases hq : l[i]? with
   | none => simp
   | some q =>
     have hq' := h q (List.mem_of_getElem? hq)
     simp only [Option.map_some, rowGo_map hφ (f := step q) (g := step' (φ q)) 95 0 l (fun d _ hd => ⟨hD q d hq' (by omega), hs q d hq' (by omega)⟩) h]
     simp only [List.length_map]
     split
     · simp
     · refine walkGo_map he hφ hD hs f _ _ _ fun x hx => ?_
       rcases rowGo_mem _ _ _ _ _ hx with hx | ⟨d, _, hd, rfl⟩
       · exact h x hx
       · exact hD _ _ hq' (by omega)
end

theorem walkGo_ends (he : ∀ a, e a a = true) {step : K → Nat → K} {most : Nat} {D : K → Prop} (hD : ∀ q c, D q → c < 95 → D (step q c)) (hN : ∀ l : List K, (∀ x ∈ l, D x) → Apart e l → l.length ≤ most) :
 ∀ (f i : Nat) (l : List K) (rows : List (List Nat)), (∀ x ∈ l, D x) → Apart e l → i ≤ l.length → most + 1 ≤ f + i → ∃ r, walkGo e step most f i l rows = some r
 | 0, i, l, rows, h, ha, hi, hf => by have := hN l h ha; omega
 | f + 1, i, l, rows, h, ha, hi, hf => by
   simp only [walkGo]
   cases hq : l[i]? with
   | none => exact ⟨_, rfl⟩
   | some q =>
     have hq' := h q (List.mem_of_getElem? hq)
     have hd : ∀ x ∈ (rowGo e (step q) 95 0 l).2, D x := fun x hx => by
      rcases rowGo_mem _ _ _ _ _ hx with hx | ⟨d, _, hd, rfl⟩
      · exact h x hx
      · exact hD _ _ hq' (by omega)
     have ha' := rowGo_apart (e := e) (step q) 95 0 l ha
     have := hN _ hd ha'
     obtain ⟨t, ht⟩ := rowGo_pre (e := e) (step q) 95 0 l
     have hi' := (List.getElem?_eq_some_iff.1 hq).1
     simp only
     rw [if_neg (by omega)]
     exact walkGo_ends he hD hN f (i + 1) _ _ hd ha' (by rw [ht]; simp; omega) (by omega)
end
end Go.Aut
end
section
namespace Go.Aut

/-! ### Counting -/
theorem covers_le : ∀ (N : Nat) (l : List Nat), (∀ v < N, v ∈ l) → N ≤ l.length
 | 0, _, _ => Nat.zero_le _
 | N + 1, l, h => by
   have h1 := covers_le N (l.erase N) fun v hv => (List.mem_erase_of_ne (by omega)).2 (h v (by omega))
   have h2 := h N (by omega)
   have h3 := List.length_erase_of_mem h2
   have h4 : 0 < l.length := List.length_pos_of_mem h2
   omega
theorem covers_inj {N : Nat} {l : List Nat} (h : ∀ v < N, v ∈ l) (hl : l.length = N) {i j : Nat} (hij : i < j) {x : Nat} (hi : l[i]? = some x) (hj : l[j]? = some x) : False := by
 have h1 := covers_le N (l.eraseIdx j) fun v hv => by
  obtain ⟨m, hm⟩ := List.mem_iff_getElem?.1 (h v hv)
  rw [List.mem_eraseIdx_iff_getElem?]
  by_cases hmj : m = j
  · subst hmj
    rw [hj] at hm
    cases hm
    exact ⟨i, by omega, hi⟩
  · exact ⟨m, hmj, hm⟩
 have hjl := (List.getElem?_eq_some_iff.1 hj).1
 rw [List.length_eraseIdx_of_lt hjl] at h1
 omega
theorem nodup_le : ∀ (N : Nat) (l : List Nat), l.Nodup → (∀ x ∈ l, x < N) → l.length ≤ N
 | 0, l, _, h => by
   cases l with
   | nil => simp
   | cons x l => have := h x (by simp); omega
 | N + 1, l, hn, h => by
   have h1 := nodup_le N (l.erase N) (hn.erase N) fun x hx => by
    have := (hn.mem_erase_iff).1 hx
    have := h x this.2
    omega
   by_cases hm : N ∈ l
   · have := List.length_erase_of_mem hm; omega
   · rw [List.erase_of_not_mem hm] at h1; omega
section
variable {K : Type} [DecidableEq K]
theorem eqB_iff {a b : K} : eqB a b = true ↔ a = b := by simp [eqB]
theorem eqB_refl : ∀ a : K, (eqB : K → K → Bool) a a = true := fun a => by simp [eqB]
theorem apart_nodup {l : List K} (h : Apart eqB l) : l.Nodup := by
 rw [List.nodup_iff_pairwise_ne, List.pairwise_iff_getElem]
 intro i j hi hj hij he
 have := h i j _ _ hij (List.getElem?_eq_getElem hi) (List.getElem?_eq_getElem hj)
 simp [eqB] at this
 exact this he
end

/-! ### Languages -/
def Lang : Type := List Nat → Bool
noncomputable instance : DecidableEq Lang := fun a b => Classical.propDecidable (a = b)
def lstep (L : Lang) (c : Nat) : Lang := fun w => L (c :: w)
def lang (δ : Nat → Nat → Nat) (F : Nat → Bool) : Nat → List Nat → Bool
 | q, [] => F q
 | q, c :: w => if c < 95 then lang δ F (δ q c) w else false
def langL (δ : Nat → Nat → Nat) (F : Nat → Bool) (q : Nat) : Lang := fun w => lang δ F q w
theorem lstep_lang {δ : Nat → Nat → Nat} {F : Nat → Bool} {q c : Nat} (hc : c < 95) : lstep (langL δ F q) c = langL δ F (δ q c) := by
 funext w
 simp [lstep, langL, lang, hc]

/-! ### Automata -/
structure Aut where
 next : List (List Nat)
 final : List Bool
def dl (next : List (List Nat)) (q c : Nat) : Nat := ((next[q]?.getD [])[c]?).getD 0
def fin (final : List Bool) (q : Nat) : Bool := (final[q]?).getD false
def rowsOK (n : Nat) (next : List (List Nat)) : Prop := ∀ r ∈ next, r.length = 95 ∧ ∀ x ∈ r, x < n
theorem rowsOK.dl {n : Nat} {next : List (List Nat)} (h : rowsOK n next) {q c : Nat} (hq : q < next.length) (hc : c < 95) : ∃ r x, next[q]? = some r ∧ r[c]? = some x ∧ dl next q c = x ∧ x < n := by
 obtain ⟨r, hr⟩ : ∃ r, next[q]? = some r := ⟨_, List.getElem?_eq_getElem hq⟩
 obtain ⟨h1, h2⟩ := h r (List.mem_of_getElem? hr)
 obtain ⟨x, hx⟩ : ∃ x, r[c]? = some x := ⟨_, List.getElem?_eq_getElem (by omega)⟩
 exact ⟨r, x, hr, hx, by simp [Aut.dl, hr, hx], h2 x (List.mem_of_getElem? hx)⟩
namespace Aut
def n (a : Aut) : Nat := a.next.length
def δ (a : Aut) : Nat → Nat → Nat := dl a.next
def F (a : Aut) : Nat → Bool := fin a.final
structure ok (a : Aut) : Prop where
 pos : 0 < a.n
 fin : a.final.length = a.n
 rows : rowsOK a.n a.next
def L (a : Aut) (q : Nat) : Lang := langL a.δ a.F q
theorem ok.lt {a : Aut} (h : a.ok) {q c : Nat} (hq : q < a.n) (hc : c < 95) : a.δ q c < a.n := by
 obtain ⟨r, x, h1, h2, h3, h4⟩ := h.rows.dl hq hc
 show dl a.next q c < a.n
 omega
end Aut

/-! ### The form that a language alone determines -/
noncomputable def canonAt (most f : Nat) (L : Lang) : Option (List Lang × List (List Nat)) := walkGo eqB lstep most f 0 [L] []
def IsCanon (L : Lang) (b : Aut) : Prop := ∃ most f ls, canonAt most f L = some (ls, b.next) ∧ b.final = ls.map fun M => M []
theorem winv_start {K : Type} {e : K → K → Bool} {step : K → Nat → K} {D : K → Prop} {q : K} (h : D q) : WInv e step D 0 [q] [] :=
 ⟨rfl, by simp, by simpa using h, Apart.one q, fun j hj => by omega⟩
theorem IsCanon.inv {L : Lang} {b : Aut} (h : IsCanon L b) : ∃ ls : List Lang, WInv eqB lstep (fun _ => True) ls.length ls b.next ∧ ls[0]? = some L ∧ b.final = ls.map fun M => M [] := by
 obtain ⟨m, f, ls, h1, h2⟩ := h
 obtain ⟨h3, t, h4⟩ := walkGo_inv eqB_refl (D := fun _ => True) (fun _ _ _ _ => trivial) _ _ _ _ _ _ (winv_start trivial) h1
 exact ⟨ls, h3, by simp [h4], h2⟩
theorem IsCanon.ok {L : Lang} {b : Aut} (h : IsCanon L b) : b.ok := by
 obtain ⟨ls, h1, h2, h3⟩ := h.inv
 have hl : b.n = ls.length := h1.len
 refine ⟨?_, by rw [h3, hl]; simp, ?_⟩
 · have := (List.getElem?_eq_some_iff.1 h2).1; omega
 · intro r hr
   obtain ⟨j, hj⟩ := List.mem_iff_getElem?.1 hr
   have hjl := (List.getElem?_eq_some_iff.1 hj).1
   obtain ⟨q, r', g1, g2, g3, g4⟩ := h1.row j (by have := h1.len; omega)
   rw [hj] at g2; cases g2
   refine ⟨g3, fun x hx => ?_⟩
   obtain ⟨c, hc⟩ := List.mem_iff_getElem?.1 hx
   obtain ⟨k, y, f1, f2, f3⟩ := g4 c (by have := (List.getElem?_eq_some_iff.1 hc).1; omega)
   rw [hc] at f1; cases f1
   have := (List.getElem?_eq_some_iff.1 f2).1
   omega
def signsL (L : Lang) : Prop := ∀ w : List Nat, (∃ c ∈ w, 95 ≤ c) → L w = false
theorem lang_signs (δ : Nat → Nat → Nat) (F : Nat → Bool) : ∀ (w : List Nat) (q : Nat), (∃ c ∈ w, 95 ≤ c) → lang δ F q w = false
 | [], _, h => by simp at h
 | d :: w, q, h => by
   simp only [lang]
   split
   · refine lang_signs δ F w _ ?_
     obtain ⟨c, hc, h2⟩ := h
     rcases List.mem_cons.1 hc with rfl | hc
     · omega
     · exact ⟨c, hc, h2⟩
   · rfl
theorem signsL_lang (δ : Nat → Nat → Nat) (F : Nat → Bool) (q : Nat) : signsL (langL δ F q) := fun w h => lang_signs δ F w q h
theorem IsCanon.lang {L : Lang} {b : Aut} (h : IsCanon L b) (hL : signsL L) : b.L 0 = L := by
 obtain ⟨ls, h1, h2, h3⟩ := h.inv
 have key : ∀ (w : List Nat) (j : Nat) (M : Lang), (∀ c ∈ w, c < 95) → ls[j]? = some M → b.L j w = M w := by
  intro w
  induction w with
  | nil =>
    intro j M _ hj
    simp [Aut.L, langL, Aut.lang, Aut.F, fin, h3, hj]
  | cons c w ih =>
    intro j M hw hj
    have hc := hw c (by simp)
    obtain ⟨q, r, g1, g2, g3, g4⟩ := h1.row j (List.getElem?_eq_some_iff.1 hj).1
    rw [hj] at g1; cases g1
    obtain ⟨k, x, f1, f2, f3⟩ := g4 c hc
    have hx := eqB_iff.1 f3
    subst hx
    have := ih k _ (fun d hd => hw d (by simp [hd])) f2
    show Aut.lang b.δ b.F j (c :: w) = _
    simp only [Aut.lang, if_pos hc]
    rw [show b.δ j c = k by simp [Aut.δ, dl, g2, f1]]
    exact this
 funext w
 by_cases hw : ∀ c ∈ w, c < 95
 · exact key w 0 L hw h2
 · have : ∃ c ∈ w, 95 ≤ c := by
    apply Classical.byContradiction
    intro hn
    exact hw fun c hc => by
     apply Classical.byContradiction
     intro hc2
     exact hn ⟨c, hc, by omega⟩
   rw [hL w this]
   exact lang_signs _ _ w 0 this

theorem walk_canon {K : Type} {e : K → K → Bool} {step : K → Nat → K} {D : K → Prop} {φ : K → Lang} (he : ∀ a, e a a = true) (hφ : ∀ a b, D a → D b → (e a b = true ↔ φ a = φ b)) (hD : ∀ q c, D q → c < 95 → D (step q c)) (hs : ∀ q c, D q → c < 95 → lstep (φ q) c = φ (step q c))
 {start : K} (h0 : D start) {most f : Nat} {l : List K} {rows : List (List Nat)} (h : walkGo e step most f 0 [start] [] = some (l, rows)) : IsCanon (φ start) ⟨rows, l.map fun k => φ k []⟩ := by
 refine ⟨most, f, l.map φ, ?_, by simp⟩
 have := walkGo_map (D := D) (φ := φ) he hφ hD hs (most := most) f 0 [start] [] (by simpa using h0)
 rw [h] at this
 exact this

/-! ### Classes -/
def keyOf (next : List (List Nat)) (cls : List Nat) (q : Nat) : List Nat := (cls[q]?).getD 0 :: (next[q]?.getD []).map fun t => (cls[t]?).getD 0
def clsGo (next : List (List Nat)) : Nat → List Nat → Nat → Option (List Nat)
 | 0, _, _ => none
 | f + 1, cls, cnt => if (rowGo eqB (keyOf next cls) next.length 0 []).2.length = cnt then some (rowGo eqB (keyOf next cls) next.length 0 []).1
   else clsGo next f (rowGo eqB (keyOf next cls) next.length 0 []).1 (rowGo eqB (keyOf next cls) next.length 0 []).2.length
def b01 (b : Bool) : Nat := if b = true then 1 else 0
def classesP (next : List (List Nat)) (final : List Bool) : Option (List Nat) := clsGo next (next.length + 2) (final.map b01) 0

theorem rowGo_len2 {K : Type} {e : K → K → Bool} (f : Nat → K) : ∀ (m c : Nat) (l : List K), (rowGo e f m c l).2.length ≤ l.length + m
 | 0, _, _ => by simp [rowGo]
 | m + 1, c, l => by
   simp only [rowGo]
   have h1 := rowGo_len2 (e := e) f m (c + 1) (addL e l (f c))
   have h2 : (addL e l (f c)).length ≤ l.length + 1 := by unfold addL; split <;> simp
   omega
theorem rowGo_lt {K : Type} {e : K → K → Bool} (he : ∀ a, e a a = true) (f : Nat → K) (m : Nat) (l : List K) (c : Nat) {v : Nat} (h : v ∈ (rowGo e f m c l).1) : v < (rowGo e f m c l).2.length := by
 obtain ⟨d, hd⟩ := List.mem_iff_getElem?.1 h
 obtain ⟨k, x, h1, h2, _⟩ := rowGo_get he f m c l d (by have := (List.getElem?_eq_some_iff.1 hd).1; rw [rowGo_len] at this; exact this)
 rw [hd] at h1; cases h1
 exact (List.getElem?_eq_some_iff.1 h2).1
section
variable {a : Aut} (ha : a.ok)
structure CInv (a : Aut) (cls : List Nat) (cnt : Nat) : Prop where
 len : cls.length = a.n
 cover : ∀ v < cnt, v ∈ cls
 fin : ∀ p q, p < a.n → q < a.n → cls[p]? = cls[q]? → a.F p = a.F q
 snd : ∀ p q, p < a.n → q < a.n → a.L p = a.L q → cls[p]? = cls[q]?
theorem key_some {next : List (List Nat)} {cls : List Nat} {q : Nat} {r : List Nat} (h : next[q]? = some r) : keyOf next cls q = (cls[q]?).getD 0 :: r.map fun t => (cls[t]?).getD 0 := by
 simp [keyOf, h]
include ha in
theorem key_eq {cls : List Nat} (hl : cls.length = a.n) {p q : Nat} (hp : p < a.n) (hq : q < a.n) :
 keyOf a.next cls p = keyOf a.next cls q ↔ (cls[p]? = cls[q]? ∧ ∀ c < 95, cls[a.δ p c]? = cls[a.δ q c]?) := by
 obtain ⟨r, hr⟩ : ∃ r, a.next[p]? = some r := ⟨_, List.getElem?_eq_getElem hp⟩
 obtain ⟨s, hs⟩ : ∃ s, a.next[q]? = some s := ⟨_, List.getElem?_eq_getElem hq⟩
 have hr1 := ha.rows r (List.mem_of_getElem? hr)
 have hs1 := ha.rows s (List.mem_of_getElem? hs)
 have gd : ∀ t, t < a.n → cls[t]? = some ((cls[t]?).getD 0) := fun t ht => by rw [List.getElem?_eq_getElem (by omega)]; rfl
 rw [key_some hr, key_some hs]
 simp only [List.cons.injEq]
 refine and_congr ⟨fun h => by rw [gd p hp, gd q hq, h], fun h => congrArg (fun o : Option Nat => o.getD 0) h⟩ ?_
 constructor
 · intro h c hc
   have := congrArg (fun l => l[c]?) h
   obtain ⟨x, hx⟩ : ∃ x, r[c]? = some x := ⟨_, List.getElem?_eq_getElem (by omega)⟩
   obtain ⟨y, hy⟩ : ∃ y, s[c]? = some y := ⟨_, List.getElem?_eq_getElem (by omega)⟩
   simp only [List.getElem?_map, hx, hy, Option.map_some, Option.some.injEq] at this
   have e1 : a.δ p c = x := by simp [Aut.δ, dl, hr, hx]
   have e2 : a.δ q c = y := by simp [Aut.δ, dl, hs, hy]
   rw [e1, e2, gd x (hr1.2 x (List.mem_of_getElem? hx)), gd y (hs1.2 y (List.mem_of_getElem? hy)), this]
 · intro h
   refine List.ext_getElem? fun c => ?_
   simp only [List.getElem?_map]
   rcases Nat.lt_or_ge c 95 with hc | hc
   · obtain ⟨x, hx⟩ : ∃ x, r[c]? = some x := ⟨_, List.getElem?_eq_getElem (by omega)⟩
     obtain ⟨y, hy⟩ : ∃ y, s[c]? = some y := ⟨_, List.getElem?_eq_getElem (by omega)⟩
     have e1 : a.δ p c = x := by simp [Aut.δ, dl, hr, hx]
     have e2 : a.δ q c = y := by simp [Aut.δ, dl, hs, hy]
     have := h c hc
     rw [e1, e2] at this
     simp [hx, hy, this]
   · rw [List.getElem?_eq_none (by omega), List.getElem?_eq_none (by omega)]
theorem rowNum {K : Type} [DecidableEq K] (f : Nat → K) (m : Nat) {p q : Nat} (hp : p < m) (hq : q < m) : (rowGo eqB f m 0 []).1[p]? = (rowGo eqB f m 0 []).1[q]? ↔ f p = f q := by
 obtain ⟨k, x, h1, h2, h3⟩ := rowGo_get eqB_refl f m 0 [] p hp
 obtain ⟨k', x', h4, h5, h6⟩ := rowGo_get eqB_refl f m 0 [] q hq
 have hx := eqB_iff.1 h3
 have hx' := eqB_iff.1 h6
 simp only [Nat.zero_add] at hx hx'
 rw [h1, h4]
 simp only [Option.some.injEq]
 constructor
 · rintro rfl
   rw [h2] at h5
   cases h5
   rw [← hx, ← hx']
 · intro h
   have ha : Apart eqB (rowGo eqB f m 0 []).2 := rowGo_apart f m 0 [] (fun i j x y _ hi => by simp at hi)
   rcases Nat.lt_trichotomy k k' with hk | hk | hk
   · have := ha k k' x x' hk h2 h5; rw [hx, hx', h] at this; simp [eqB] at this
   · exact hk
   · have := ha k' k x' x hk h5 h2; rw [hx, hx', h] at this; simp [eqB] at this
theorem rowCover {K : Type} [DecidableEq K] (f : Nat → K) : ∀ (m c : Nat) (l : List K) (v : Nat), v < (rowGo eqB f m c l).2.length → v < l.length ∨ v ∈ (rowGo eqB f m c l).1
 | 0, _, _, _, h => .inl h
 | m + 1, c, l, v, h => by
   simp only [rowGo] at h ⊢
   rcases rowCover f m (c + 1) (addL eqB l (f c)) v h with h | h
   · unfold addL at h
     cases hp : pos eqB (f c) l with
     | none =>
       simp [hp] at h
       rcases Nat.lt_or_ge v l.length with hv | hv
       · exact .inl hv
       · refine .inr (List.mem_cons.2 (.inl ?_))
         simp [addN, hp]; omega
     | some i => simp [hp] at h; exact .inl h
   · exact .inr (List.mem_cons.2 (.inr h))
include ha in
theorem CInv.next {cls : List Nat} {cnt : Nat} (h : CInv a cls cnt) : CInv a (rowGo eqB (keyOf a.next cls) a.n 0 []).1 (rowGo eqB (keyOf a.next cls) a.n 0 []).2.length := by
 refine ⟨rowGo_len _ _ _ _, fun v hv => by simpa using rowCover (keyOf a.next cls) a.n 0 [] v hv, fun p q hp hq he => ?_, fun p q hp hq he => ?_⟩
 · rw [rowNum _ _ hp hq, key_eq ha h.len hp hq] at he
   exact h.fin p q hp hq he.1
 · rw [rowNum _ _ hp hq, key_eq ha h.len hp hq]
   refine ⟨h.snd p q hp hq he, fun c hc => h.snd _ _ (ha.lt hp hc) (ha.lt hq hc) ?_⟩
   have : lstep (a.L p) c = lstep (a.L q) c := by rw [he]
   rwa [Aut.L, Aut.L, lstep_lang hc, lstep_lang hc] at this
include ha in
theorem CInv.grows {cls : List Nat} {cnt : Nat} (h : CInv a cls cnt) : cnt ≤ (rowGo eqB (keyOf a.next cls) a.n 0 []).2.length ∧
 ((rowGo eqB (keyOf a.next cls) a.n 0 []).2.length = cnt → ∀ p q, p < a.n → q < a.n → cls[p]? = cls[q]? → keyOf a.next cls p = keyOf a.next cls q) := by
 obtain ⟨ks, hks⟩ : ∃ ks, ks = (rowGo eqB (keyOf a.next cls) a.n 0 []).2 := ⟨_, rfl⟩
 have hcov : ∀ q < a.n, keyOf a.next cls q ∈ ks := by
  intro q hq
  obtain ⟨k, x, h1, h2, h3⟩ := rowGo_get eqB_refl (keyOf a.next cls) a.n 0 [] q hq
  have := eqB_iff.1 h3
  rw [Nat.zero_add] at this
  rw [← this, hks]
  exact List.mem_of_getElem? h2
 have hh : ∀ v < cnt, v ∈ ks.map fun k => k.headD 0 := by
  intro v hv
  obtain ⟨q, hq⟩ := List.mem_iff_getElem?.1 (h.cover v hv)
  have hql := (List.getElem?_eq_some_iff.1 hq).1
  refine List.mem_map.2 ⟨keyOf a.next cls q, hcov q (by have := h.len; omega), by simp [keyOf, hq]⟩
 rw [← hks]
 refine ⟨by simpa using covers_le cnt _ hh, fun hc p q hp hq he => ?_⟩
 obtain ⟨i, hi⟩ := List.mem_iff_getElem?.1 (hcov p hp)
 obtain ⟨j, hj⟩ := List.mem_iff_getElem?.1 (hcov q hq)
 have e1 : (ks.map fun k => k.headD 0)[i]? = some ((cls[p]?).getD 0) := by simp [hi, keyOf]
 have e2 : (ks.map fun k => k.headD 0)[j]? = some ((cls[p]?).getD 0) := by rw [he]; simp [hj, keyOf]
 rcases Nat.lt_trichotomy i j with hij | hij | hij
 · exact (covers_inj hh (by simpa using hc) hij e1 e2).elim
 · subst hij; rw [hi] at hj; exact Option.some.inj hj
 · exact (covers_inj hh (by simpa using hc) hij e2 e1).elim
structure IsCls (a : Aut) (cls : List Nat) : Prop where
 len : cls.length = a.n
 lt : ∀ v ∈ cls, v < a.n
 cover : ∀ v ∈ cls, ∀ u < v, u ∈ cls
 eq : ∀ p q, p < a.n → q < a.n → (cls[p]? = cls[q]? ↔ a.L p = a.L q)
include ha in
theorem clsGo_spec : ∀ (f : Nat) (cls : List Nat) (cnt : Nat), CInv a cls cnt → a.n + 2 ≤ f + cnt → cnt ≤ a.n → ∃ cls', clsGo a.next f cls cnt = some cls' ∧ IsCls a cls'
 | 0, _, _, _, _, _ => by omega
 | f + 1, cls, cnt, h, hf, hle => by
   have hn : a.next.length = a.n := rfl
   obtain ⟨hg, hg2⟩ := h.grows ha
   have hnx := h.next ha
   have hlen := rowGo_len2 (e := eqB) (keyOf a.next cls) a.n 0 []
   simp only [List.length_nil, Nat.zero_add] at hlen
   simp only [clsGo, hn]
   split
   · rename_i hc
     have st := hg2 hc
     refine ⟨_, rfl, hnx.len, fun v hv => ?_, fun v hv u hu => ?_, fun p q hp hq => ⟨fun he => ?_, hnx.snd p q hp hq⟩⟩
     · have := rowGo_lt eqB_refl _ _ _ _ hv; omega
     · have := rowGo_lt eqB_refl _ _ _ _ hv; exact hnx.cover u (by omega)
     · rw [rowNum _ _ hp hq, key_eq ha h.len hp hq] at he
       have bis : ∀ (w : List Nat) (p q : Nat), p < a.n → q < a.n → cls[p]? = cls[q]? → a.L p w = a.L q w := by
        intro w
        induction w with
        | nil => intro p q hp hq he; simpa [Aut.L, langL, lang] using h.fin p q hp hq he
        | cons c w ih =>
          intro p q hp hq he
          show lang _ _ p (c :: w) = lang _ _ q (c :: w)
          simp only [lang]
          split
          · rename_i hcl
            have := st p q hp hq he
            rw [key_eq ha h.len hp hq] at this
            exact ih _ _ (ha.lt hp hcl) (ha.lt hq hcl) (this.2 c hcl)
          · rfl
       funext w
       exact bis w p q hp hq he.1
   · rename_i hc
     exact clsGo_spec f _ _ hnx (by omega) hlen
include ha in
theorem classesP_spec : ∃ cls, classesP a.next a.final = some cls ∧ IsCls a cls := by
 have hn : a.next.length = a.n := rfl
 refine clsGo_spec ha _ _ _ ⟨by simpa using ha.fin, fun v hv => by omega, fun p q hp hq he => ?_, fun p q hp hq he => ?_⟩ (by omega) (by omega)
 · have g : ∀ t, t < a.n → a.final[t]? = some (a.F t) := fun t ht => by simp [Aut.F, fin, List.getElem?_eq_getElem (show t < a.final.length by rw [ha.fin]; exact ht)]
   simp only [List.getElem?_map, g p hp, g q hq, Option.map_some, Option.some.injEq] at he
   revert he
   cases a.F p <;> cases a.F q <;> simp [b01]
 · have g : ∀ t, t < a.n → a.final[t]? = some (a.F t) := fun t ht => by simp [Aut.F, fin, List.getElem?_eq_getElem (show t < a.final.length by rw [ha.fin]; exact ht)]
   have : a.L p [] = a.L q [] := by rw [he]
   simp only [Aut.L, langL, lang] at this
   simp [g p hp, g q hq, this]
end

/-! ### The form of an automaton -/
def ofGo : Nat → List Nat → List Nat → List Nat
 | _, [], o => o
 | q, c :: cls, o => ofGo (q + 1) cls (o.set c q)
theorem ofGo_spec : ∀ (cls o full : List Nat) (q : Nat), (∀ j c, cls[j]? = some c → full[q + j]? = some c) → (∀ c ∈ cls, c < o.length) → ∀ c : Nat, (c ∈ cls ∨ ∃ p, o[c]? = some p ∧ full[p]? = some c) → ∃ p, (ofGo q cls o)[c]? = some p ∧ full[p]? = some c
 | [], o, full, q, _, _, c, h => by
   rcases h with h | h
   · cases h
   · exact h
 | d :: cls, o, full, q, hf, hl, c, h => by
   simp only [ofGo]
   refine ofGo_spec cls (o.set d q) full (q + 1) (fun j c hj => by have := hf (j + 1) c (by simpa using hj); rwa [show q + 1 + j = q + (j + 1) by omega]) (fun c hc => by simpa using hl c (by simp [hc])) c ?_
   by_cases hcd : c = d
   · subst hcd
     refine .inr ⟨q, by rw [List.getElem?_set_self (hl c (by simp))], ?_⟩
     simpa using hf 0 c (by simp)
   · rcases h with h | ⟨p, h1, h2⟩
     · rcases List.mem_cons.1 h with h | h
       · exact absurd h hcd
       · exact .inl h
     · exact .inr ⟨p, by rw [List.getElem?_set_ne (fun h => hcd h.symm)]; exact h1, h2⟩
def getN (l : List Nat) (i : Nat) : Nat := (l[i]?).getD 0
def formP (next : List (List Nat)) (final : List Bool) : Option Aut :=
 match walkP eqB (dl next) 0 next.length with
 | none => none
 | some (list, nx) => match classesP nx (list.map (fin final)) with
   | none => none
   | some cls => match walkP eqB (fun c s => getN cls (dl nx (getN (ofGo 0 cls (List.replicate list.length 0)) c) s)) (getN cls 0) list.length with
     | none => none
     | some (l2, rows) => some ⟨rows, l2.map fun c => fin (list.map (fin final)) (getN (ofGo 0 cls (List.replicate list.length 0)) c)⟩
theorem walkP_ends {K : Type} {e : K → K → Bool} (he : ∀ a, e a a = true) {step : K → Nat → K} {most : Nat} {D : K → Prop} (hD : ∀ q c, D q → c < 95 → D (step q c)) (hN : ∀ l : List K, (∀ x ∈ l, D x) → Apart e l → l.length ≤ most) {start : K} (h0 : D start) :
 ∃ l rows, walkP e step start most = some (l, rows) ∧ WInv e step D l.length l rows ∧ l[0]? = some start := by
 obtain ⟨⟨l, rows⟩, h⟩ := walkGo_ends he hD hN (most + 2) 0 [start] [] (by simpa using h0) (Apart.one _) (by simp) (by omega)
 obtain ⟨h3, t, h4⟩ := walkGo_inv he hD _ _ _ _ _ _ (winv_start h0) h
 exact ⟨l, rows, h, h3, by simp [h4]⟩
theorem walk_aut {K : Type} [DecidableEq K] {step : K → Nat → K} {D : K → Prop} {l : List K} {rows : List (List Nat)} {good : K → Bool} (h : WInv eqB step D l.length l rows) (h0 : 0 < l.length) :
 (Aut.mk rows (l.map good)).ok ∧ ∀ (w : List Nat) (j : Nat) (q : K), (∀ c ∈ w, c < 95) → l[j]? = some q → (Aut.mk rows (l.map good)).L j w = good (w.foldl step q) := by
 constructor
 · refine ⟨by have := h.len; simp only [Aut.n]; omega, by simp [Aut.n, h.len], ?_⟩
   intro r hr
   obtain ⟨j, hj⟩ := List.mem_iff_getElem?.1 hr
   have hjl := (List.getElem?_eq_some_iff.1 hj).1
   have hlen := h.len
   simp only at hj hjl
   obtain ⟨q, r', g1, g2, g3, g4⟩ := h.row j (by omega)
   rw [hj] at g2; cases g2
   refine ⟨g3, fun x hx => ?_⟩
   obtain ⟨c, hc⟩ := List.mem_iff_getElem?.1 hx
   obtain ⟨k, y, f1, f2, f3⟩ := g4 c (by have := (List.getElem?_eq_some_iff.1 hc).1; omega)
   rw [hc] at f1; cases f1
   have := (List.getElem?_eq_some_iff.1 f2).1
   simp only [Aut.n]
   omega
 · intro w
   induction w with
   | nil =>
     intro j q _ hj
     simp [Aut.L, langL, lang, Aut.F, fin, hj]
   | cons c w ih =>
     intro j q hw hj
     have hc := hw c (by simp)
     obtain ⟨q', r, g1, g2, g3, g4⟩ := h.row j (List.getElem?_eq_some_iff.1 hj).1
     rw [hj] at g1; cases g1
     obtain ⟨k, x, f1, f2, f3⟩ := g4 c hc
     have hx := eqB_iff.1 f3
     subst hx
     have := ih k _ (fun d hd => hw d (by simp [hd])) f2
     show lang _ _ j (c :: w) = _
     simp only [lang, if_pos hc]
     rw [show (Aut.mk rows (l.map good)).δ j c = k by simp [Aut.δ, dl, g2, f1]]
     exact this
theorem ok_run {a : Aut} (ha : a.ok) : ∀ (w : List Nat) (q : Nat), (∀ c ∈ w, c < 95) → q < a.n → a.L q w = a.F (w.foldl a.δ q) ∧ w.foldl a.δ q < a.n
 | [], q, _, hq => ⟨rfl, hq⟩
 | c :: w, q, hw, hq => by
   have hc := hw c (by simp)
   have := ok_run ha w (a.δ q c) (fun d hd => hw d (by simp [hd])) (ha.lt hq hc)
   refine ⟨?_, this.2⟩
   rw [← show a.L (a.δ q c) w = a.L q (c :: w) by simp [Aut.L, langL, lang, hc]]
   exact this.1
theorem lang_ext {L M : Lang} (hL : signsL L) (hM : signsL M) (h : ∀ w : List Nat, (∀ c ∈ w, c < 95) → L w = M w) : L = M := by
 funext w
 by_cases hw : ∀ c ∈ w, c < 95
 · exact h w hw
 · have : ∃ c ∈ w, 95 ≤ c := by
    apply Classical.byContradiction
    intro hn
    exact hw fun c hc => by
     apply Classical.byContradiction
     intro hc2
     exact hn ⟨c, hc, by omega⟩
   rw [hL w this, hM w this]
theorem formP_canon {a : Aut} (ha : a.ok) : ∃ b, formP a.next a.final = some b ∧ IsCanon (a.L 0) b ∧ b.n ≤ a.n := by
 obtain ⟨list, nx, hw, hI, h0⟩ := walkP_ends eqB_refl (step := dl a.next) (most := a.next.length) (D := fun q => q < a.n) (fun q c hq hc => ha.lt hq hc)
  (fun l h1 h2 => nodup_le _ l (apart_nodup h2) h1) (start := 0) ha.pos
 have hlpos : 0 < list.length := (List.getElem?_eq_some_iff.1 h0).1
 have hle : list.length ≤ a.n := nodup_le _ list (apart_nodup hI.apart) hI.dom
 obtain ⟨hb, hrun⟩ := walk_aut (good := fin a.final) hI hlpos
 obtain ⟨b, hbe⟩ : ∃ b : Aut, b = ⟨nx, list.map (fin a.final)⟩ := ⟨_, rfl⟩
 rw [← hbe] at hb hrun
 have hbn : b.n = list.length := by rw [hbe]; exact hI.len
 obtain ⟨cls, hc, hC⟩ := classesP_spec hb
 have hc' : classesP nx (list.map (fin a.final)) = some cls := by rw [hbe] at hc; exact hc
 obtain ⟨o, ho⟩ : ∃ o, o = ofGo 0 cls (List.replicate list.length 0) := ⟨_, rfl⟩
 have hof : ∀ c ∈ cls, ∃ p, o[c]? = some p ∧ cls[p]? = some c := fun c hcm => by
  rw [ho]
  exact ofGo_spec cls _ cls 0 (fun j c hj => by simpa using hj) (fun c hc => by have := hC.lt c hc; simp; omega) c (.inl hcm)
 have hst : ∀ c s, c ∈ cls → s < 95 → getN cls (dl nx (getN o c) s) ∈ cls ∧ lstep (b.L (getN o c)) s = b.L (getN o (getN cls (dl nx (getN o c) s))) := by
  intro c s hcm hs
  obtain ⟨p, hp1, hp2⟩ := hof c hcm
  have hpl : p < b.n := by have := (List.getElem?_eq_some_iff.1 hp2).1; have := hC.len; omega
  have e1 : getN o c = p := by simp [getN, hp1]
  have hd := hb.lt hpl hs
  have e2 : dl nx p s = b.δ p s := by rw [hbe]; rfl
  obtain ⟨v, hv⟩ : ∃ v, cls[b.δ p s]? = some v := ⟨_, List.getElem?_eq_getElem (by have := hC.len; omega)⟩
  have hvm := List.mem_of_getElem? hv
  obtain ⟨p', hp3, hp4⟩ := hof v hvm
  have e3 : getN cls (dl nx (getN o c) s) = v := by rw [e1, e2]; simp [getN, hv]
  rw [e3]
  refine ⟨hvm, ?_⟩
  rw [e1, show getN o v = p' by simp [getN, hp3]]
  rw [Aut.L, lstep_lang hs]
  exact (hC.eq _ _ hd (by have := (List.getElem?_eq_some_iff.1 hp4).1; have := hC.len; omega)).1 (by rw [hv, hp4])
 have hφ : ∀ c d, c ∈ cls → d ∈ cls → (eqB c d = true ↔ b.L (getN o c) = b.L (getN o d)) := by
  intro c d hcm hdm
  obtain ⟨p, hp1, hp2⟩ := hof c hcm
  obtain ⟨q, hq1, hq2⟩ := hof d hdm
  have hpl : p < b.n := by have := (List.getElem?_eq_some_iff.1 hp2).1; have := hC.len; omega
  have hql : q < b.n := by have := (List.getElem?_eq_some_iff.1 hq2).1; have := hC.len; omega
  rw [show getN o c = p by simp [getN, hp1], show getN o d = q by simp [getN, hq1], ← hC.eq p q hpl hql, hp2, hq2, eqB_iff]
  simp
 have hc0 : getN cls 0 ∈ cls := by
  have : 0 < cls.length := by have := hC.len; omega
  rw [getN, List.getElem?_eq_getElem this]
  simp
 obtain ⟨l2, rows, hw2, hI2, h02⟩ := walkP_ends eqB_refl (step := fun c s => getN cls (dl nx (getN o c) s)) (most := list.length) (D := fun c => c ∈ cls) (fun q c hq hc => (hst q c hq hc).1)
  (fun l h1 h2 => nodup_le _ l (apart_nodup h2) fun x hx => by have := hC.lt x (h1 x hx); omega) (start := getN cls 0) hc0
 have hcan := walk_canon (φ := fun c => b.L (getN o c)) eqB_refl hφ (fun q c hq hc => (hst q c hq hc).1) (fun q c hq hc => (hst q c hq hc).2) hc0 hw2
 refine ⟨⟨rows, l2.map fun c => fin (list.map (fin a.final)) (getN o c)⟩, ?_, ?_, ?_⟩
 · unfold formP; rw [hw]; dsimp only; rw [hc']; dsimp only; rw [← ho, hw2]
 · have e1 : b.L (getN o (getN cls 0)) = a.L 0 := by
    obtain ⟨p, hp1, hp2⟩ := hof _ hc0
    have hpl : p < b.n := by have := (List.getElem?_eq_some_iff.1 hp2).1; have := hC.len; omega
    have h0l : 0 < cls.length := by have := hC.len; omega
    rw [show getN o (getN cls 0) = p by rw [getN, hp1]; rfl, (hC.eq p 0 hpl hb.pos).1 (by rw [hp2, getN, List.getElem?_eq_getElem h0l]; rfl)]
    refine lang_ext (signsL_lang _ _ _) (signsL_lang _ _ _) fun w hw => ?_
    rw [hrun w 0 0 hw h0]
    exact (ok_run ha w 0 hw ha.pos).1.symm
   rw [e1] at hcan
   have e2 : (l2.map fun c => fin (list.map (fin a.final)) (getN o c)) = l2.map fun c => b.L (getN o c) [] := by
    refine List.map_congr_left fun c _ => ?_
    rw [hbe]
    rfl
   rw [e2]
   exact hcan
 · show rows.length ≤ a.n
   rw [hI2.len]
   have := nodup_le list.length l2 (apart_nodup hI2.apart) fun x hx => by have := hC.lt x (hI2.dom x hx); omega
   omega
end Go.Aut
end
section
set_option maxHeartbeats 4000000
set_option maxRecDepth 100000
namespace Go.Abs
open Go.Proofs
attribute [-simp] getElem?_pos Option.not_isSome List.map_map
theorem mixed : Tryz.prog.follows .mixedOrders = true := by kernel_rfl
abbrev Str := List UInt8
theorem take_snoc {α : Type} {l : List α} {k : Nat} {x : α} (h : l[k]? = some x) : l.take (k + 1) = l.take k ++ [x] := by rw [List.take_add_one, h]; rfl
theorem oks_mem : ∀ {l : List V} {v : V}, oks l → v ∈ l → ok v
 | [], _, _, h => by cases h
 | u :: l, v, h, hv => by
   simp only [oks] at h
   rcases List.mem_cons.1 hv with rfl | hv
   · exact h.1
   · exact oks_mem h.2 hv
def zV (n : Int) : V := .int .i64 n
@[simp] def rowZ (r : List Int) : V := .seq 1 (r.map zV)
def autoC (nx : List (List Int)) (fi : List Bool) : List V := [.seq 1 (nx.map rowZ), .seq 1 (fi.map .bool)]
def cellOK (n : Nat) (q : Int) : Bool := decide (0 ≤ q) && decide (q < n)
def rowOK (n : Nat) (r : List Int) : Bool := decide (r.length = 95) && r.all (cellOK n)
def mayZ (nx : List (List Int)) (fi : List Bool) : Bool := (decide (1 ≤ nx.length) && (decide (nx.length ≤ 500) && decide (fi.length = nx.length))) && nx.all (rowOK nx.length)
open Go.Aut
def nV (n : Nat) : V := .int .i64 n
def rowN (r : List Nat) : V := .seq 1 (r.map nV)
def nextN (nx : List (List Nat)) : V := .seq 1 (nx.map rowN)
def finN (fi : List Bool) : V := .seq 1 (fi.map .bool)
def Aut.c (a : Aut) : List V := [nextN a.next, finN a.final]
theorem rowN_eq (r : List Nat) : rowN r = rowZ (r.map fun (n : Nat) => (n : Int)) := by simp only [rowN, rowZ, List.map_map]; rfl
theorem Aut.c_eq (a : Aut) : Aut.c a = autoC (a.next.map fun r => r.map fun (n : Nat) => (n : Int)) a.final := by
 simp only [Aut.c, autoC, nextN, finN, List.map_map]
 congr 2
 refine List.map_congr_left fun r _ => ?_
 simp only [Function.comp]
 exact rowN_eq r
end Go.Abs
end
section
set_option maxHeartbeats 4000000
set_option maxRecDepth 100000
namespace Go.Abs
open Go.Proofs Go.Aut
attribute [-simp] getElem?_pos Option.not_isSome List.map_map
theorem range2 (n : Nat) : List.range' n 2 = [n, n + 1] := rfl
theorem range3 (n : Nat) : List.range' n 3 = [n, n + 1, n + 2] := rfl
theorem range4 (n : Nat) : List.range' n 4 = [n, n + 1, n + 2, n + 3] := rfl
theorem range5 (n : Nat) : List.range' n 5 = [n, n + 1, n + 2, n + 3, n + 4] := rfl
attribute [simp] range2 range3 range4 range5 nV
section
variable {K : Type} [DecidableEq K] (kv : K → V)
def ents : Nat → List K → List (V × V)
 | _, [] => []
 | i, k :: l => (kv k, nV i) :: ents (i + 1) l
variable {kv}
theorem mget_ents (he : ∀ a b, eqK (kv a) (kv b) = decide (a = b)) (k : K) : ∀ (l : List K) (i : Nat), mget (kv k) (ents kv i l) = (pos eqB k l).map fun j => nV (i + j)
 | [], i => rfl
 | x :: l, i => by
   have ih := mget_ents he k l (i + 1)
   have hx : (eqB x k = true) = (x = k) := by simp [eqB]
   simp only [ents, mget, pos, he, ih, hx, decide_eq_true_eq]
   by_cases h : x = k
   · simp [h]
   · rw [if_neg (fun e => h e.symm), if_neg h]
     cases pos eqB k l <;> simp [Nat.add_assoc, Nat.add_comm 1]
theorem mput_ents (he : ∀ a b, eqK (kv a) (kv b) = decide (a = b)) (k : K) : ∀ (l : List K) (i : Nat), pos eqB k l = none → mput (kv k) (nV (i + l.length)) (ents kv i l) = ents kv i (l ++ [k])
 | [], i, _ => rfl
 | x :: l, i, h => by
   simp only [pos] at h
   split at h
   · cases h
   · rename_i hx
     have h' : pos eqB k l = none := by simpa using h
     have ih := mput_ents he k l (i + 1) h'
     simp only [List.cons_append, ents, mput, he]
     rw [if_neg (by simp only [eqB] at hx; simpa using fun e => hx (by simp [e])), ← ih]
     congr 3
     simp; omega
end
@[simp] def metH (kt : KT) (e sz : Nat) {K : Type} (kv : K → V) (l : List K) : List (Option Ob) := [some (.box [.ref 1 0, .ref 2 l.length]), some (.mp kt (ents kv 0 l)), some (.arr e sz (l.map kv))]
@[simp] def metE (kt : KT) (sz : Nat) : List (Option Ob) := [some (.box [.ref 1 0, .nil sz]), some (.mp kt [])]
theorem eqK_nV (a b : Nat) : eqK (nV a) (nV b) = decide (a = b) := by
 have : ((a : Int) = b) ↔ a = b := by omega
 simp [eqK, eqCs, nV, cl, eqC, this]
def ktI : KT := ⟨false, [.i .i64]⟩
theorem f_met_add_int_nil (q : Nat) : FnH Tryz.prog n_pdfa_metIint_add [0] [.ptr 0 0, nV q] (metE ktI 1) (nV 0) (metH ktI ty_int 1 nV [q]) := by
 refine FnH.of_image mixed h_pdfa_metIint_add i_pdfa_metIint_add rfl fun ho hh => ?_
 unfold c_pdfa_metIint_add
 clear ho hh
 simp (disch := omega) [-List.reduceReplicate, metE, metH, ktI, nV, mget, mput, ents, kOfs, kOf, somes, fitsK, aggV]
theorem add_some {K : Type} [DecidableEq K] {l : List K} {q : K} {i : Nat} (hp : pos eqB q l = some i) : addN eqB l q = i ∧ addL eqB l q = l := by simp [addN, addL, hp]
theorem add_none {K : Type} [DecidableEq K] {l : List K} {q : K} (hp : pos eqB q l = none) : addN eqB l q = l.length ∧ addL eqB l q = l ++ [q] := by simp [addN, addL, hp]
theorem f_met_add_int (l : List Nat) (q : Nat) (hl : l.length ≤ 1000000) : FnH Tryz.prog n_pdfa_metIint_add [0] [.ptr 0 0, nV q] (metH ktI ty_int 1 nV l) (nV (addN eqB l q)) (metH ktI ty_int 1 nV (addL eqB l q)) := by
 refine FnH.of_image mixed h_pdfa_metIint_add i_pdfa_metIint_add rfl fun ho hh => ?_
 unfold c_pdfa_metIint_add
 clear ho hh
 have hm := mget_ents eqK_nV q l 0
 cases hp : pos eqB q l with
 | some i =>
   rw [hp] at hm
   replace hm : mget (.int .i64 (q : Int)) (ents nV 0 l) = some (.int .i64 (i : Int)) := by simpa [nV] using hm
   obtain ⟨h1, h2⟩ := add_some hp
   rw [h1, h2]
   simp (disch := omega) [-List.reduceReplicate, metH, ktI, nV, kOfs, kOf, somes, fitsK, aggV, hm]
 | none =>
   rw [hp] at hm
   replace hm : mget (.int .i64 (q : Int)) (ents nV 0 l) = none := by simpa [nV] using hm
   have hpt := mput_ents eqK_nV q l 0 hp
   replace hpt : mput (.int .i64 (q : Int)) (.int .i64 (l.length : Int)) (ents nV 0 l) = ents nV 0 (l ++ [q]) := by simpa [nV] using hpt
   obtain ⟨h1, h2⟩ := add_none hp
   rw [h1, h2]
   simp (disch := omega) [-List.reduceReplicate, metH, ktI, nV, kOfs, kOf, somes, fitsK, aggV, hm, hpt]
theorem f_meet_int (q : Nat) : FnH Tryz.prog n_dfa_meetIint [] [.seq 1 [nV q]] [] (.ptr 0 0) (metH ktI ty_int 1 nV [q]) := by
 refine FnH.of_image mixed h_dfa_meetIint i_dfa_meetIint rfl fun ho hh => ?_
 unfold c_dfa_meetIint
 clear ho hh
 simp (disch := omega) [-List.reduceReplicate]
 refine W_loop (fun k : Nat => if k = 0 then ⟨[(3, .ptr 0 0), (9, .seq 1 [nV q]), (10, .int .i64 1), (11, .int .i64 0)], metE ktI 1⟩ else ⟨[(3, .ptr 0 0), (9, .seq 1 [nV q]), (10, .int .i64 1), (11, .int .i64 1)], metH ktI ty_int 1 nV [q]⟩) (fun k => k ≤ 1) (fun k => 1 - k) [] _ 0 rfl (by simp [metE, ktI]) (by simp) ?_
 intro k hk N hN
 rcases (show k = 0 ∨ k = 1 by omega) with rfl | rfl
 · simp (disch := omega) [-List.reduceReplicate, metE, nV]
   refine wcallH_mk [0] 1 [0, 1] (by simp) (by simp) (by simp) (by simp) (f_met_add_int_nil q) (by simp [metH]) fun _ _ => ?_
   simp (disch := omega) [-List.reduceReplicate, metH, metE]
   exact hN.out _ <| Nx.mk 1 (by simp [metH, nV]) (by simp) (by simp)
 · simp (disch := omega) [-List.reduceReplicate, metH]
end Go.Abs
end
section
set_option maxHeartbeats 4000000
set_option maxRecDepth 100000
namespace Go.Abs
open Go.Proofs Go.Aut
attribute [-simp] getElem?_pos Option.not_isSome List.map_map
attribute [simp] rowN nextN finN
theorem f_dfa_form_1 {nx : List (List Nat)} {q c : Nat} {r : List Nat} {x : Nat} (hr : nx[q]? = some r) (hx : r[c]? = some x) : FnH Tryz.prog n_dfa_form_1 [2] [nV q, nV c, .ptr 0 0] [some (.box [nextN nx])] (nV x) [some (.box [nextN nx])] := by
 refine FnH.of_image mixed h_dfa_form_1 i_dfa_form_1 rfl fun ho hh => ?_
 unfold c_dfa_form_1
 clear ho hh
 simp (disch := omega) [-List.reduceReplicate, hr, hx]
def fillR (acc : List Nat) : List V := (acc ++ List.replicate (95 - acc.length) 0).map nV
theorem fillR_len {acc : List Nat} (h : acc.length ≤ 95) : (fillR acc).length = 95 := by simp [fillR]; omega
theorem fillR_set {acc : List Nat} (h : acc.length < 95) (k : Nat) : (fillR acc).set acc.length (nV k) = fillR (acc ++ [k]) := by
 obtain ⟨m, hm⟩ : ∃ m, 95 - acc.length = m + 1 := ⟨94 - acc.length, by omega⟩
 have h2 : 95 - (acc ++ [k]).length = m := by simp; omega
 simp only [fillR, hm, h2, List.replicate_succ, List.map_append, List.map_cons, List.append_assoc]
 rw [List.set_append_right _ _ (by simp)]
 simp
theorem fillR_get {acc : List Nat} (h : acc.length < 95) : (fillR acc)[acc.length]? = some (.int .i64 0) := by
 obtain ⟨m, hm⟩ : ∃ m, 95 - acc.length = m + 1 := ⟨94 - acc.length, by omega⟩
 simp only [fillR, hm, List.replicate_succ, List.map_append, List.map_cons]
 rw [List.getElem?_append_right (by simp)]
 simp [nV]
theorem fillR_full {acc : List Nat} (h : acc.length = 95) : fillR acc = acc.map nV := by simp [fillR, h]
theorem fillR_nil : List.replicate 95 (V.int .i64 0) = fillR [] := by simp [fillR]
theorem pos_eqB {K : Type} [DecidableEq K] {l : List K} (h : Apart eqB l) {i : Nat} {q : K} (hq : l[i]? = some q) : pos eqB q l = some i :=
 pos_self (fun a b h => by simp [eqB] at h ⊢; exact h.symm) (fun a b c h1 h2 => by simp [eqB] at h1 h2 ⊢; rw [h1, h2]) h hq (eqB_refl q)
theorem pos_snoc {K : Type} [DecidableEq K] {q : K} : ∀ {l : List K}, pos eqB q l = none → pos eqB q (l ++ [q]) = some l.length
 | [], _ => by simp [pos, eqB]
 | x :: l, h => by
   simp only [pos] at h
   split at h
   · cases h
   · rename_i hx
     have h' : pos eqB q l = none := by simpa using h
     simp only [List.cons_append, pos, hx, pos_snoc h']
     simp
theorem pos_add {K : Type} [DecidableEq K] (l : List K) (q : K) : pos eqB q (addL eqB l q) = some (addN eqB l q) := by
 cases hp : pos eqB q l with
 | some i => obtain ⟨h1, h2⟩ := add_some hp; rw [h1, h2, hp]
 | none => obtain ⟨h1, h2⟩ := add_none hp; rw [h1, h2, pos_snoc hp]
theorem addL_le {K : Type} [DecidableEq K] (l : List K) (q : K) : (addL eqB l q).length ≤ l.length + 1 := by unfold addL; split <;> simp
theorem addL_get {K : Type} [DecidableEq K] {l : List K} {q x : K} {i : Nat} (h : l[i]? = some x) : (addL eqB l q)[i]? = some x := by
 unfold addL; split
 · exact h
 · rw [List.getElem?_append_left (List.getElem?_eq_some_iff.1 h).1]; exact h
def wkH (X : Option Ob) (rows : List (List Nat)) (l : List Nat) : List (Option Ob) := [X, some (.box [.ref 3 0, .ref 4 l.length]), some (.arr ty_Iint 1 (rows.map rowN)), some (.mp ktI (ents nV 0 l)), some (.arr ty_int 1 (l.map nV))]
def wkI (X : Option Ob) (rows : List (List Nat)) (l : List Nat) (acc : List Nat) : List (Option Ob) := [X, some (.box [.ref 4 0, .ref 5 l.length]), some (.arr ty_Iint 1 (rows.map rowN)), some (.arr ty_int 1 (fillR acc)), some (.mp ktI (ents nV 0 l)), some (.arr ty_int 1 (l.map nV))]
theorem f_walk_form_1 (nx : List (List Nat)) (n : Nat) (hn : rowsOK n nx) (hnl : nx.length = n) (most : Nat) (hm : most ≤ 100000) (start : Nat) (h0 : start < n) (list : List Nat) (rows : List (List Nat)) (hw : walkP eqB (dl nx) start most = some (list, rows)) :
 FnH Tryz.prog n_dfa_walkIint [1] [nV start, .fn (.func n_dfa_form_1) [] [.ptr 0 0], nV most] [some (.box [nextN nx])] (.tup [.ref 1 list.length, .ref 2 rows.length, .bool true]) [some (.box [nextN nx]), some (.arr ty_int 1 (list.map nV)), some (.arr ty_Iint 1 (rows.map rowN))] := by
 refine FnH.of_image mixed h_dfa_walkIint i_dfa_walkIint rfl fun ho hh => ?_
 unfold c_dfa_walkIint
 clear ho hh
 obtain ⟨R, hR⟩ : ∃ R, R = (V.tup [.ref 1 list.length, .ref 2 rows.length, .bool true]) := ⟨_, rfl⟩
 rw [← hR]
 simp (disch := omega) [-List.reduceReplicate]
 refine wcallH_mk [] 0 [] (by simp) (by simp) (by simp) (by simp) (f_meet_int start) (by simp) fun _ _ => ?_
 simp (disch := omega) [-List.reduceReplicate]
 refine W_loop (fun (x : Nat × Nat × List Nat × List (List Nat)) => ⟨[(1, .fn (.func n_dfa_form_1) [] [.ptr 0 0]), (2, nV most), (9, .ptr 1 0), (10, .ref 2 x.2.2.2.length), (11, nV x.2.1)], wkH (some (.box [nextN nx])) x.2.2.2 x.2.2.1⟩)
  (fun x => (∀ q ∈ x.2.2.1, q < n) ∧ Apart eqB x.2.2.1 ∧ x.2.1 ≤ x.2.2.1.length ∧ x.2.2.2.length = x.2.1 ∧ x.2.2.1.length ≤ most + 1 ∧ walkGo eqB (dl nx) most x.1 x.2.1 x.2.2.1 x.2.2.2 = some (list, rows)) (fun x => x.1) [.r 10 ty_Iint 1] _ (most + 2, 0, [start], []) rfl (by simp [wkH, ents]) ⟨by simpa using h0, Apart.one _, by simp, rfl, by simp, hw⟩ ?_
 rintro ⟨f, i, l, rw⟩ ⟨hd, hap, hil, hrl, hlm, hi⟩ N hN
 simp only at hd hap hil hrl hlm hi
 cases f with
 | zero => simp [walkGo] at hi
 | succ f =>
 simp only [walkGo] at hi
 rcases Nat.lt_or_ge i l.length with hlt | hge
 · obtain ⟨q, hq⟩ := get_lt hlt
   rw [hq] at hi
   simp only at hi
   have hqn := hd q (List.mem_of_getElem? hq)
   obtain ⟨T, hT⟩ : ∃ T, T = rowGo eqB (dl nx q) 95 0 l := ⟨_, rfl⟩
   rw [← hT] at hi
   replace hi := hid hi
   simp (disch := omega) [-List.reduceReplicate, wkH, hq]
   refine W_loop (fun (x : List Nat × List Nat × Nat × Nat) => ⟨[(1, .fn (.func n_dfa_form_1) [] [.ptr 0 0]), (2, nV most), (9, .ptr 1 0), (10, .ref 2 rw.length), (11, nV i), (12, .ref 3 95), (13, nV x.2.2.1), (14, nV x.2.2.2), (39, .int .i64 95), (40, nV x.1.length)], wkI (some (.box [nextN nx])) rw x.2.1 x.1⟩)
    (fun x => (∀ q ∈ x.2.1, q < n) ∧ x.1.length ≤ 95 ∧ x.2.1[i]? = some q ∧ x.2.1.length ≤ most + 1 + x.1.length ∧ pos eqB x.2.2.1 x.2.1 = some x.2.2.2 ∧ (x.1 ++ (rowGo eqB (dl nx q) (95 - x.1.length) x.1.length x.2.1).1, (rowGo eqB (dl nx q) (95 - x.1.length) x.1.length x.2.1).2) = T)
    (fun x => 95 - x.1.length) [] _ ([], l, q, i) rfl (by simp [wkI, fillR_nil]) ⟨hd, by simp, hq, by simp; omega, pos_eqB hap hq, by simp [hT]⟩ ?_
   rintro ⟨acc, l', last, num⟩ ⟨hd', hc, hq', hl', hp, hi'⟩ M hM
   simp only at hd' hc hq' hl' hp hi'
   rcases Nat.lt_or_ge acc.length 95 with hc95 | hc95
   · obtain ⟨rr, t, hr1, hr2, hr3, hr4⟩ := hn.dl (q := q) (c := acc.length) (by omega) hc95
     obtain ⟨m', hm'⟩ : ∃ m', 95 - acc.length = m' + 1 := ⟨94 - acc.length, by omega⟩
     have hm2 : 95 - (acc.length + 1) = m' := by omega
     rw [hm'] at hi'
     simp only [rowGo, hr3] at hi'
     have hset := fillR_set hc95
     have hfl := fillR_len (acc := acc) (by omega)
     replace hi' := hid hi'
     have hil' := (List.getElem?_eq_some_iff.1 hq').1
     simp (disch := omega) [-List.reduceReplicate, wkI, hq']
     refine wcallH_mk [2] 1 [0] (by simp) (by simp) (by simp) (by simp) (f_dfa_form_1 hr1 hr2) (by simp) fun _ _ => ?_
     simp (disch := omega) [-List.reduceReplicate, hq']
     have next : ∀ (num' : Nat) (last' : Nat), pos eqB last' (addL eqB l' t) = some num' → num' = addN eqB l' t → ∀ τ : St, τ.nrm [1, 2, 9, 10, 11, 12, 13, 14, 39, 40] = ⟨[(1, .fn (.func n_dfa_form_1) [] [.ptr 0 0]), (2, nV most), (9, .ptr 1 0), (10, .ref 2 rw.length), (11, nV i), (12, .ref 3 95), (13, nV last'), (14, nV num'), (39, .int .i64 95), (40, .int .i64 ((acc.length : Int) + 1))], wkI (some (.box [nextN nx])) rw (addL eqB l' t) (acc ++ [num'])⟩ → M τ := by
      intro num' last' h1 h2 τ hτ
      have h3 := addL_le l' t
      refine hM.out τ <| Nx.mk (acc ++ [num'], addL eqB l' t, last', num') (by simpa using hτ) ⟨?_, by simp; omega, addL_get hq', by simp; omega, h1, ?_⟩ (by simp; omega)
      · intro x hx
        rcases addL_mem hx with hx | rfl
        · exact hd' x hx
        · exact hr4
      · have := hi'.out
        rw [← this]
        simp [hm2, h2]
     replace next := hid next
     by_cases hlt2 : t = last
     · subst hlt2
       obtain ⟨e1, e2⟩ := add_some hp
       have hs := hset num
       simp only [nV] at hs
       simp (disch := omega) [-List.reduceReplicate, hfl, hs, fillR_get hc95]
       exact next.out num t (by rw [e2]; exact hp) e1.symm _ (by simp [wkI, e2])
     · simp (disch := omega) [-List.reduceReplicate, hlt2]
       refine wcallH_mk [0] 1 [1, 4, 5] (by simp) (by simp) (by simp) (by simp) (f_met_add_int l' t (by omega)) (by simp) fun _ _ => ?_
       have hs := hset (addN eqB l' t)
       simp only [nV] at hs
       simp (disch := omega) [-List.reduceReplicate, hfl, hs, fillR_get hc95]
       exact next.out _ t (pos_add l' t) rfl _ (by simp [wkI])
   · have hacc : acc.length = 95 := by omega
     have h0 : 95 - acc.length = 0 := by omega
     rw [h0] at hi'
     simp only [rowGo, List.append_nil] at hi'
     subst hi'
     have hil' := (List.getElem?_eq_some_iff.1 hq').1
     have hi2 := hi.out
     simp only at hi2
     split at hi2
     · cases hi2
     · rename_i hle
       have hf := fillR_full hacc
       have hfl : (fillR acc).length = 95 := fillR_len (by omega)
       simp (disch := omega) [-List.reduceReplicate, wkI, hacc, hfl]
       refine hN.out _ <| Nx.mk (f, i + 1, l', rw ++ [acc]) (by simp [wkH, hf, hrl]) ⟨hd', ?_, by simp only; omega, by simp [hrl], by simp only; omega, hi2⟩ (by simp only; omega)
       have := rowGo_apart (e := eqB) (dl nx q) 95 0 l hap
       rw [← hT] at this
       exact this
 · have : i = l.length := by omega
   subst this
   rw [List.getElem?_eq_none (by omega)] at hi
   simp only [Option.some.injEq, Prod.mk.injEq] at hi
   obtain ⟨rfl, rfl⟩ := hi
   simp (disch := omega) [-List.reduceReplicate, wkH, hR]
end Go.Abs
end
section
set_option maxHeartbeats 4000000
set_option maxRecDepth 100000
namespace Go.Abs
open Go.Proofs Go.Aut
attribute [-simp] getElem?_pos Option.not_isSome List.map_map
def f2H (cls : List Nat) (nx : List (List Nat)) (of : List Nat) : List (Option Ob) := [some (.box [rowN cls]), some (.box [.ref 3 nx.length]), some (.box [.ref 4 of.length]), some (.arr ty_Iint 1 (nx.map rowN)), some (.arr ty_int 1 (of.map nV))]
def f2R (cls : List Nat) (nx : List (List Nat)) (of list : List Nat) (rows : List (List Nat)) : List (Option Ob) := [some (.box [rowN cls]), some (.box [.ref 5 nx.length]), some (.box [.ref 6 of.length]), some (.arr ty_int 1 (list.map nV)), some (.arr ty_Iint 1 (rows.map rowN)), some (.arr ty_Iint 1 (nx.map rowN)), some (.arr ty_int 1 (of.map nV))]
attribute [simp] f2H f2R
def wkH3 (cls : List Nat) (nx : List (List Nat)) (of : List Nat) (rows : List (List Nat)) (l : List Nat) : List (Option Ob) := [some (.box [rowN cls]), some (.box [.ref 5 nx.length]), some (.box [.ref 6 of.length]), some (.box [.ref 7 0, .ref 8 l.length]), some (.arr ty_Iint 1 (rows.map rowN)), some (.arr ty_Iint 1 (nx.map rowN)), some (.arr ty_int 1 (of.map nV)), some (.mp ktI (ents nV 0 l)), some (.arr ty_int 1 (l.map nV))]
def wkI3 (cls : List Nat) (nx : List (List Nat)) (of : List Nat) (rows : List (List Nat)) (l : List Nat) (acc : List Nat) : List (Option Ob) := [some (.box [rowN cls]), some (.box [.ref 6 nx.length]), some (.box [.ref 7 of.length]), some (.box [.ref 8 0, .ref 9 l.length]), some (.arr ty_Iint 1 (rows.map rowN)), some (.arr ty_int 1 (fillR acc)), some (.arr ty_Iint 1 (nx.map rowN)), some (.arr ty_int 1 (of.map nV)), some (.mp ktI (ents nV 0 l)), some (.arr ty_int 1 (l.map nV))]
theorem f_dfa_form_2 {cls : List Nat} {nx : List (List Nat)} {of : List Nat} {q c p x y : Nat} {r : List Nat} (hp : of[q]? = some p) (hr : nx[p]? = some r) (hx : r[c]? = some x) (hy : cls[x]? = some y) :
 FnH Tryz.prog n_dfa_form_2 [2, 3, 4] [nV q, nV c, .ptr 0 0, .ptr 1 0, .ptr 2 0] (f2H cls nx of) (nV y) (f2H cls nx of) := by
 refine FnH.of_image mixed h_dfa_form_2 i_dfa_form_2 rfl fun ho hh => ?_
 unfold c_dfa_form_2
 clear ho hh
 have h1 := (List.getElem?_eq_some_iff.1 hp).1
 have h2 := (List.getElem?_eq_some_iff.1 hr).1
 simp (disch := omega) [-List.reduceReplicate, hp, hr, hx, hy]
theorem f_walk_form_2 (cls : List Nat) (nx : List (List Nat)) (of : List Nat) (step : Nat → Nat → Nat) (D : Nat → Prop)
 (hst : ∀ q c, D q → c < 95 → ∃ t, step q c = t ∧ D t ∧ FnH Tryz.prog n_dfa_form_2 [2, 3, 4] [nV q, nV c, .ptr 0 0, .ptr 1 0, .ptr 2 0] (f2H cls nx of) (nV t) (f2H cls nx of))
 (most : Nat) (hm : most ≤ 100000) (start : Nat) (h0 : D start) (list : List Nat) (rows : List (List Nat)) (hw : walkP eqB step start most = some (list, rows)) :
 FnH Tryz.prog n_dfa_walkIint [1] [nV start, .fn (.func n_dfa_form_2) [] [.ptr 0 0, .ptr 1 0, .ptr 2 0], nV most] (f2H cls nx of) (.tup [.ref 3 list.length, .ref 4 rows.length, .bool true]) (f2R cls nx of list rows) := by
 refine FnH.of_image mixed h_dfa_walkIint i_dfa_walkIint rfl fun ho hh => ?_
 unfold c_dfa_walkIint
 clear ho hh
 obtain ⟨R, hR⟩ : ∃ R, R = (V.tup [.ref 3 list.length, .ref 4 rows.length, .bool true]) := ⟨_, rfl⟩
 rw [← hR]
 simp (disch := omega) [-List.reduceReplicate]
 refine wcallH_mk [] 0 [] (by simp) (by simp) (by simp) (by simp) (f_meet_int start) (by simp) fun _ _ => ?_
 simp (disch := omega) [-List.reduceReplicate]
 refine W_loop (fun (x : Nat × Nat × List Nat × List (List Nat)) => ⟨[(1, .fn (.func n_dfa_form_2) [] [.ptr 0 0, .ptr 1 0, .ptr 2 0]), (2, nV most), (9, .ptr 3 0), (10, .ref 4 x.2.2.2.length), (11, nV x.2.1)], wkH3 cls nx of x.2.2.2 x.2.2.1⟩)
  (fun x => (∀ q ∈ x.2.2.1, D q) ∧ Apart eqB x.2.2.1 ∧ x.2.1 ≤ x.2.2.1.length ∧ x.2.2.2.length = x.2.1 ∧ x.2.2.1.length ≤ most + 1 ∧ walkGo eqB step most x.1 x.2.1 x.2.2.1 x.2.2.2 = some (list, rows)) (fun x => x.1) [.r 10 ty_Iint 1] _ (most + 2, 0, [start], []) rfl (by simp [wkH3, ents]) ⟨by simpa using h0, Apart.one _, by simp, rfl, by simp, hw⟩ ?_
 rintro ⟨f, i, l, rw⟩ ⟨hd, hap, hil, hrl, hlm, hi⟩ N hN
 simp only at hd hap hil hrl hlm hi
 cases f with
 | zero => simp [walkGo] at hi
 | succ f =>
 simp only [walkGo] at hi
 rcases Nat.lt_or_ge i l.length with hlt | hge
 · obtain ⟨q, hq⟩ := get_lt hlt
   rw [hq] at hi
   simp only at hi
   have hqn := hd q (List.mem_of_getElem? hq)
   obtain ⟨T, hT⟩ : ∃ T, T = rowGo eqB (step q) 95 0 l := ⟨_, rfl⟩
   rw [← hT] at hi
   replace hi := hid hi
   simp (disch := omega) [-List.reduceReplicate, wkH3, hq]
   refine W_loop (fun (x : List Nat × List Nat × Nat × Nat) => ⟨[(1, .fn (.func n_dfa_form_2) [] [.ptr 0 0, .ptr 1 0, .ptr 2 0]), (2, nV most), (9, .ptr 3 0), (10, .ref 4 rw.length), (11, nV i), (12, .ref 5 95), (13, nV x.2.2.1), (14, nV x.2.2.2), (39, .int .i64 95), (40, nV x.1.length)], wkI3 cls nx of rw x.2.1 x.1⟩)
    (fun x => (∀ q ∈ x.2.1, D q) ∧ x.1.length ≤ 95 ∧ x.2.1[i]? = some q ∧ x.2.1.length ≤ most + 1 + x.1.length ∧ pos eqB x.2.2.1 x.2.1 = some x.2.2.2 ∧ (x.1 ++ (rowGo eqB (step q) (95 - x.1.length) x.1.length x.2.1).1, (rowGo eqB (step q) (95 - x.1.length) x.1.length x.2.1).2) = T)
    (fun x => 95 - x.1.length) [] _ ([], l, q, i) rfl (by simp [wkI3, fillR_nil]) ⟨hd, by simp, hq, by simp; omega, pos_eqB hap hq, by simp [hT]⟩ ?_
   rintro ⟨acc, l', last, num⟩ ⟨hd', hc, hq', hl', hp, hi'⟩ M hM
   simp only at hd' hc hq' hl' hp hi'
   rcases Nat.lt_or_ge acc.length 95 with hc95 | hc95
   · obtain ⟨t, hr3, hr4, hr5⟩ := hst q acc.length hqn hc95
     obtain ⟨m', hm'⟩ : ∃ m', 95 - acc.length = m' + 1 := ⟨94 - acc.length, by omega⟩
     have hm2 : 95 - (acc.length + 1) = m' := by omega
     rw [hm'] at hi'
     simp only [rowGo, hr3] at hi'
     have hset := fillR_set hc95
     have hfl := fillR_len (acc := acc) (by omega)
     replace hi' := hid hi'
     have hil' := (List.getElem?_eq_some_iff.1 hq').1
     simp (disch := omega) [-List.reduceReplicate, wkI3, hq']
     refine wcallH_mk [2, 3, 4] 3 [0, 1, 2, 6, 7] (by simp) (by simp) (by simp) (by simp) (hr5) (by simp) fun _ _ => ?_
     simp (disch := omega) [-List.reduceReplicate, hq']
     have next : ∀ (num' : Nat) (last' : Nat), pos eqB last' (addL eqB l' t) = some num' → num' = addN eqB l' t → ∀ τ : St, τ.nrm [1, 2, 9, 10, 11, 12, 13, 14, 39, 40] = ⟨[(1, .fn (.func n_dfa_form_2) [] [.ptr 0 0, .ptr 1 0, .ptr 2 0]), (2, nV most), (9, .ptr 3 0), (10, .ref 4 rw.length), (11, nV i), (12, .ref 5 95), (13, nV last'), (14, nV num'), (39, .int .i64 95), (40, .int .i64 ((acc.length : Int) + 1))], wkI3 cls nx of rw (addL eqB l' t) (acc ++ [num'])⟩ → M τ := by
      intro num' last' h1 h2 τ hτ
      have h3 := addL_le l' t
      refine hM.out τ <| Nx.mk (acc ++ [num'], addL eqB l' t, last', num') (by simpa using hτ) ⟨?_, by simp; omega, addL_get hq', by simp; omega, h1, ?_⟩ (by simp; omega)
      · intro x hx
        rcases addL_mem hx with hx | rfl
        · exact hd' x hx
        · exact hr4
      · have := hi'.out
        rw [← this]
        simp [hm2, h2]
     replace next := hid next
     by_cases hlt2 : t = last
     · subst hlt2
       obtain ⟨e1, e2⟩ := add_some hp
       have hs := hset num
       simp only [nV] at hs
       simp (disch := omega) [-List.reduceReplicate, hfl, hs, fillR_get hc95]
       exact next.out num t (by rw [e2]; exact hp) e1.symm _ (by simp [wkI3, e2])
     · simp (disch := omega) [-List.reduceReplicate, hlt2]
       refine wcallH_mk [0] 1 [3, 8, 9] (by simp) (by simp) (by simp) (by simp) (f_met_add_int l' t (by omega)) (by simp) fun _ _ => ?_
       have hs := hset (addN eqB l' t)
       simp only [nV] at hs
       simp (disch := omega) [-List.reduceReplicate, hfl, hs, fillR_get hc95]
       exact next.out _ t (pos_add l' t) rfl _ (by simp [wkI3])
   · have hacc : acc.length = 95 := by omega
     have h0 : 95 - acc.length = 0 := by omega
     rw [h0] at hi'
     simp only [rowGo, List.append_nil] at hi'
     subst hi'
     have hil' := (List.getElem?_eq_some_iff.1 hq').1
     have hi2 := hi.out
     simp only at hi2
     split at hi2
     · cases hi2
     · rename_i hle
       have hf := fillR_full hacc
       have hfl : (fillR acc).length = 95 := fillR_len (by omega)
       simp (disch := omega) [-List.reduceReplicate, wkI3, hacc, hfl]
       refine hN.out _ <| Nx.mk (f, i + 1, l', rw ++ [acc]) (by simp [wkH3, hf, hrl]) ⟨hd', ?_, by simp only; omega, by simp [hrl], by simp only; omega, hi2⟩ (by simp only; omega)
       have := rowGo_apart (e := eqB) (step q) 95 0 l hap
       rw [← hT] at this
       exact this
 · have : i = l.length := by omega
   subst this
   rw [List.getElem?_eq_none (by omega)] at hi
   simp only [Option.some.injEq, Prod.mk.injEq] at hi
   obtain ⟨rfl, rfl⟩ := hi
   simp (disch := omega) [-List.reduceReplicate, wkH3, hR]
end Go.Abs
end
section
set_option maxHeartbeats 4000000
set_option maxRecDepth 100000
namespace Go.Abs
open Go.Proofs Go.Aut
attribute [-simp] getElem?_pos Option.not_isSome List.map_map
section
variable {α : Type} {f : α → V}
theorem vidss_map (h : ∀ a, vids (f a) = []) : ∀ l : List α, vidss (l.map f) = []
 | [] => rfl
 | a :: l => by simp [vidss, h a, vidss_map h l]
theorem purs_map {hp : List (Option Ob)} (h : ∀ a, pur hp (f a) = some (f a)) : ∀ l : List α, purs hp (l.map f) = some (l.map f)
 | [] => rfl
 | a :: l => by simp [purs, h a, purs_map h l]
theorem rens_map {m : List Nat} (h : ∀ a, ren m (f a) = f a) : ∀ l : List α, rens m (l.map f) = l.map f
 | [] => rfl
 | a :: l => by simp [rens, h a, rens_map h l]
theorem bcks_map {m : List Nat} (h : ∀ a, bck m (f a) = f a) : ∀ l : List α, bcks m (l.map f) = l.map f
 | [] => rfl
 | a :: l => by simp [bcks, h a, bcks_map h l]
theorem flats_map (h : ∀ a, flat (f a) = true) : ∀ l : List α, flats (l.map f) = true
 | [] => rfl
 | a :: l => by simp [flats, h a, flats_map h l]
theorem curA_map {σ : St} (h : ∀ a, σ.cur (f a) = true) : ∀ l : List α, σ.curA (l.map f) = true
 | [] => rfl
 | a :: l => by simp [St.curA, h a, curA_map h l]
end
theorem rep1 : List.replicate 1 (none : Option Ob) = [none] := rfl
theorem rep2 : List.replicate 2 (none : Option Ob) = [none, none] := rfl
theorem rep3 : List.replicate 3 (none : Option Ob) = [none, none, none] := rfl
theorem rep4 : List.replicate 4 (none : Option Ob) = [none, none, none, none] := rfl
theorem rep5 : List.replicate 5 (none : Option Ob) = [none, none, none, none, none] := rfl
theorem rep6 : List.replicate 6 (none : Option Ob) = [none, none, none, none, none, none] := rfl
attribute [simp] rep1 rep2 rep3 rep4 rep5 rep6
theorem wrapU16 (n : Int) (h1 : 0 ≤ n) (h2 : n ≤ 65535) : IntKind.u16.wrap n = n := by
 rw [Go.IntKind.wrap_u16]; omega
theorem vcii16 {n : Int} (h1 : 0 ≤ n) (h2 : n ≤ 65535) : vcii .u16 n = some (.int .u16 n) := by simp only [vcii, wrapU16 _ h1 h2]
attribute [simp high] vcii16
def u16V (n : Nat) : V := .int .u16 n
def u64V (n : Nat) : V := .int .u64 n
section
variable (l : List Nat) (hp : List (Option Ob)) (m : List Nat) (σ : St)
@[simp] theorem vidss_u16 : vidss (l.map u16V) = [] := vidss_map (fun _ => rfl) l
@[simp] theorem purs_u16 : purs hp (l.map u16V) = some (l.map u16V) := purs_map (fun _ => rfl) l
@[simp] theorem rens_u16 : rens m (l.map u16V) = l.map u16V := rens_map (fun _ => rfl) l
@[simp] theorem bcks_u16 : bcks m (l.map u16V) = l.map u16V := bcks_map (fun _ => rfl) l
@[simp] theorem flats_u16 : flats (l.map u16V) = true := flats_map (fun _ => rfl) l
@[simp] theorem curA_u16 : σ.curA (l.map u16V) = true := curA_map (fun _ => by simp [St.cur, St.cur0, u16V, vids]) l
@[simp] theorem vidss_u64 : vidss (l.map u64V) = [] := vidss_map (fun _ => rfl) l
@[simp] theorem purs_u64 : purs hp (l.map u64V) = some (l.map u64V) := purs_map (fun _ => rfl) l
@[simp] theorem rens_u64 : rens m (l.map u64V) = l.map u64V := rens_map (fun _ => rfl) l
@[simp] theorem bcks_u64 : bcks m (l.map u64V) = l.map u64V := bcks_map (fun _ => rfl) l
@[simp] theorem flats_u64 : flats (l.map u64V) = true := flats_map (fun _ => rfl) l
@[simp] theorem curA_u64 : σ.curA (l.map u64V) = true := curA_map (fun _ => by simp [St.cur, St.cur0, u64V, vids]) l
end
theorem eqCs_u16 : ∀ (a b : List Nat), eqCs (a.map u16V) (b.map u16V) = decide (a = b)
 | [], [] => rfl
 | [], _ :: _ => rfl
 | _ :: _, [] => rfl
 | x :: a, y :: b => by
   have : ((x : Int) = y) ↔ x = y := by omega
   simp [eqCs, u16V, eqC, this]
   rw [eqCs_u16 a b]
theorem eqCs_u64 : ∀ (a b : List Nat), eqCs (a.map u64V) (b.map u64V) = decide (a = b)
 | [], [] => rfl
 | [], _ :: _ => rfl
 | _ :: _, [] => rfl
 | x :: a, y :: b => by
   have : ((x : Int) = y) ↔ x = y := by omega
   simp [eqCs, u64V, eqC, this]
   rw [eqCs_u64 a b]
theorem kOfs_u16 : ∀ l : List Nat, kOfs (l.map u16V) = somes (List.replicate l.length (.i .u16))
 | [] => rfl
 | x :: l => by simp [kOfs, kOfs_u16 l, List.replicate_succ, somes, u16V, kOf]
theorem kOfs_u64 : ∀ l : List Nat, kOfs (l.map u64V) = somes (List.replicate l.length (.i .u64))
 | [] => rfl
 | x :: l => by simp [kOfs, kOfs_u64 l, List.replicate_succ, somes, u64V, kOf]
def ktK : KT := ⟨true, kz 96 (.i .u16)⟩
def kcV (k : List Nat) : V := .strct (k.map u16V)
theorem eqK_kcV (a b : List Nat) : eqK (kcV a) (kcV b) = decide (a = b) := by simp [eqK, kcV, cl, eqCs_u16]
theorem fits_kcV {k : List Nat} (h : k.length = 96) : fitsK ktK (kcV k) = true := by
 simp only [fitsK, kcV, aggV, cl, ktK, kOfs_u16, h]
 simp
theorem f_met_add_key_nil (q : List Nat) (hq : q.length = 96) : FnH Tryz.prog n_pdfa_metIdfa_key_add [0] [.ptr 0 0, kcV q] (metE ktK 96) (nV 0) (metH ktK ty_dfa_key 96 kcV [q]) := by
 refine FnH.of_image mixed h_pdfa_metIdfa_key_add i_pdfa_metIdfa_key_add rfl fun ho hh => ?_
 unfold c_pdfa_metIdfa_key_add
 clear ho hh
 have hf := fits_kcV hq
 have ht : List.take 96 (q.map u16V) = q.map u16V := List.take_of_length_le (by simp; omega)
 simp only [kcV, ktK] at hf
 simp (disch := omega) [-List.reduceReplicate, metE, metH, ktK, kcV, mget, mput, ents, hf, hq, ht]
theorem f_met_add_key (l : List (List Nat)) (q : List Nat) (hl : l.length ≤ 1000000) (hq : q.length = 96) : FnH Tryz.prog n_pdfa_metIdfa_key_add [0] [.ptr 0 0, kcV q] (metH ktK ty_dfa_key 96 kcV l) (nV (addN eqB l q)) (metH ktK ty_dfa_key 96 kcV (addL eqB l q)) := by
 refine FnH.of_image mixed h_pdfa_metIdfa_key_add i_pdfa_metIdfa_key_add rfl fun ho hh => ?_
 unfold c_pdfa_metIdfa_key_add
 clear ho hh
 have hf := fits_kcV hq
 have ht : List.take 96 (q.map u16V) = q.map u16V := List.take_of_length_le (by simp; omega)
 simp only [kcV, ktK] at hf
 have hm := mget_ents eqK_kcV q l 0
 cases hp : pos eqB q l with
 | some i =>
   rw [hp] at hm
   replace hm : mget (.strct (q.map u16V)) (ents kcV 0 l) = some (.int .i64 (i : Int)) := by simpa [nV, kcV] using hm
   obtain ⟨h1, h2⟩ := add_some hp
   rw [h1, h2]
   simp (disch := omega) [-List.reduceReplicate, metH, ktK, kcV, hm, hf, hq, ht]
 | none =>
   rw [hp] at hm
   replace hm : mget (.strct (q.map u16V)) (ents kcV 0 l) = none := by simpa [nV, kcV] using hm
   have hpt := mput_ents eqK_kcV q l 0 hp
   replace hpt : mput (.strct (q.map u16V)) (.int .i64 (l.length : Int)) (ents kcV 0 l) = ents kcV 0 (l ++ [q]) := by simpa [nV, kcV] using hpt
   obtain ⟨h1, h2⟩ := add_none hp
   rw [h1, h2]
   simp (disch := omega) [-List.reduceReplicate, metH, ktK, kcV, hm, hpt, hf, hq, ht]
theorem f_meet_key : FnH Tryz.prog n_dfa_meetIdfa_key [] [.nil 96] [] (.ptr 0 0) (metE ktK 96) := by
 refine FnH.of_image mixed h_dfa_meetIdfa_key i_dfa_meetIdfa_key rfl fun ho hh => ?_
 unfold c_dfa_meetIdfa_key
 clear ho hh
 simp (disch := omega) [-List.reduceReplicate]
 refine W_loop (fun k : Nat => ⟨[(3, .ptr 0 0), (9, .nil 96), (10, .int .i64 0), (11, .int .i64 0)], metE ktK 96⟩) (fun k => True) (fun k => 0) [] _ 0 rfl (by simp [metE, ktK]) (by simp) ?_
 intro k hk N hN
 simp (disch := omega) [-List.reduceReplicate]
end Go.Abs
end
section
set_option maxHeartbeats 4000000
set_option maxRecDepth 100000
namespace Go.Abs
open Go.Proofs Go.Aut
attribute [-simp] getElem?_pos Option.not_isSome List.map_map
def fillF (f : Nat → V) (n : Nat) (acc : List Nat) : List V := (acc ++ List.replicate (n - acc.length) 0).map f
section
variable {f : Nat → V} {n : Nat} {acc : List Nat}
theorem fillF_len (h : acc.length ≤ n) : (fillF f n acc).length = n := by simp [fillF]; omega
theorem fillF_eq (h : acc.length < n) : fillF f n acc = acc.map f ++ f 0 :: (List.replicate (n - (acc.length + 1)) 0).map f := by
 obtain ⟨m, hm⟩ : ∃ m, n - acc.length = m + 1 := ⟨n - acc.length - 1, by omega⟩
 have h2 : n - (acc.length + 1) = m := by omega
 simp only [fillF, hm, h2, List.replicate_succ, List.map_append, List.map_cons]
theorem fillF_snoc (k : Nat) : fillF f n (acc ++ [k]) = acc.map f ++ f k :: (List.replicate (n - (acc.length + 1)) 0).map f := by
 simp [fillF]
theorem fillF_set (h : acc.length < n) (k : Nat) : (fillF f n acc).set acc.length (f k) = fillF f n (acc ++ [k]) := by
 rw [fillF_eq h, fillF_snoc, List.set_append_right _ _ (by simp)]
 simp
theorem fillF_get (h : acc.length < n) : (fillF f n acc)[acc.length]? = some (f 0) := by
 rw [fillF_eq h, List.getElem?_append_right (by simp)]
 simp
theorem fillF_full (h : acc.length = n) : fillF f n acc = acc.map f := by simp [fillF, h]
theorem fillF_nil : List.replicate n (f 0) = fillF f n [] := by simp [fillF]
theorem fillF_zero (h : acc.length < n) : fillF f n (acc ++ [0]) = fillF f n acc := by rw [fillF_eq h, fillF_snoc]
theorem fillF_splice (h : acc.length < n) (k : Nat) : List.take acc.length (fillF f n acc) ++ f k :: List.drop (acc.length + 1) (fillF f n acc) = fillF f n (acc ++ [k]) := by
 rw [fillF_eq h, fillF_snoc]
 congr 1
 · rw [List.take_append_of_le_length (by simp), List.take_of_length_le (by simp)]
 · congr 1
   rw [List.drop_append, List.drop_of_length_le (by simp)]
   simp
end
section
variable (acc : List Nat) (n : Nat) (hp : List (Option Ob)) (m : List Nat)
@[simp] theorem vidss_fill : vidss (fillF u16V n acc) = [] := vidss_u16 _
@[simp] theorem purs_fill : purs hp (fillF u16V n acc) = some (fillF u16V n acc) := purs_u16 _ _
@[simp] theorem rens_fill : rens m (fillF u16V n acc) = fillF u16V n acc := rens_u16 _ _
@[simp] theorem bcks_fill : bcks m (fillF u16V n acc) = fillF u16V n acc := bcks_u16 _ _
end
def ckH (cls fin : List V) (l : List (List Nat)) : List (Option Ob) := [some (.arr ty_int 1 cls), some (.box [.ref 3 0, .ref 4 l.length]), some (.arr ty_int 1 fin), some (.mp ktK (ents kcV 0 l)), some (.arr ty_dfa_key 96 (l.map kcV))]
def ckE (cls fin : List V) : List (Option Ob) := [some (.arr ty_int 1 cls), some (.box [.ref 3 0, .nil 96]), some (.arr ty_int 1 fin), some (.mp ktK [])]
def ck (cls fin : List V) (l : List (List Nat)) : List (Option Ob) := if l = [] then ckE cls fin else ckH cls fin l
def cjH (cls fin key : List V) (l : List (List Nat)) : List (Option Ob) := [some (.arr ty_int 1 cls), some (.box [.ref 4 0, .ref 5 l.length]), some (.arr ty_int 1 fin), some (.box key), some (.mp ktK (ents kcV 0 l)), some (.arr ty_dfa_key 96 (l.map kcV))]
def cjE (cls fin key : List V) : List (Option Ob) := [some (.arr ty_int 1 cls), some (.box [.ref 4 0, .nil 96]), some (.arr ty_int 1 fin), some (.box key), some (.mp ktK [])]
theorem f_dfa_classes (nx : List (List Nat)) (fi : List Bool) (n : Nat) (hn : rowsOK n nx) (hnl : nx.length = n) (h0 : 0 < n) (hn5 : n ≤ 10000) (hfi : fi.length = n) (cls : List Nat) (hc : classesP nx fi = some cls) : FnN Tryz.prog n_dfa_classes [nextN nx, finN fi] (rowN cls) := by
 refine FnN.of_imageE mixed h_dfa_classes i_dfa_classes rfl fun ho => ?_
 unfold c_dfa_classes
 clear ho
 obtain ⟨R, hR⟩ : ∃ R, R = rowN cls := ⟨_, rfl⟩
 rw [← hR]
 simp (disch := omega) [-List.reduceReplicate, hnl]
 obtain ⟨bs, hbs⟩ : ∃ bs, bs = fi.map b01 := ⟨_, rfl⟩
 have hbl : bs.length = n := by simp [hbs, hfi]
 refine W_loop (fun (k : Nat) => ⟨[(0, nextN nx), (5, .ref 0 n), (19, finN fi), (20, .int .i64 fi.length), (21, .int .i64 k)], [some (.arr ty_int 1 (fillF nV n (bs.take k)))]⟩) (fun k => k ≤ fi.length) (fun k => fi.length - k) [] _ 0 rfl (by simp [-List.reduceReplicate, ← fillF_nil, hnl]) (by simp) ?_
 intro k hk N hN
 rcases place fi k hk with ⟨he, hd⟩ | ⟨hlt, x, hx, hd⟩
 · subst he
   have ht : bs.take fi.length = bs := List.take_of_length_le (by omega)
   have hfl : fillF nV n bs = bs.map nV := fillF_full hbl
   have hc' : clsGo nx (n + 2) bs 0 = some cls := by rw [hbs, ← hnl]; exact hc
   clear hN hd hc
   simp (disch := omega) [-List.reduceReplicate, ht, hfl]
   refine W_loop (fun (x : Nat × List Nat × Nat) => ⟨[(0, nextN nx), (5, .ref 0 n), (8, nV x.2.2)], [some (.arr ty_int 1 (x.2.1.map nV))]⟩) (fun x => x.2.1.length = n ∧ (∀ v ∈ x.2.1, v ≤ 10000) ∧ clsGo nx x.1 x.2.1 x.2.2 = some cls) (fun x => x.1) [] _ (n + 2, bs, 0) rfl (by simp) ⟨hbl, ?_, hc'⟩ ?_
   · intro v hv
     rw [hbs] at hv
     obtain ⟨b, _, rfl⟩ := List.mem_map.1 hv
     cases b <;> simp [b01]
   clear hbs hbl ht hfl hc' bs
   rintro ⟨f, cl, cnt⟩ ⟨hcl, hcv, hgo⟩ N hN
   simp only at hcl hcv hgo
   cases f with
   | zero => simp [clsGo] at hgo
   | succ f =>
   simp only [clsGo, hnl] at hgo
   obtain ⟨T, hT⟩ : ∃ T, T = rowGo eqB (Aut.keyOf nx cl) n 0 [] := ⟨_, rfl⟩
   rw [← hT] at hgo
   replace hgo := hid hgo
   simp (disch := omega) [-List.reduceReplicate]
   refine wcallH_mk [] 0 [] (by simp) (by simp) (by simp) (by simp) f_meet_key (by simp) fun _ _ => ?_
   simp (disch := omega) [-List.reduceReplicate, hnl]
   refine W_loop (fun (x : List Nat × List (List Nat)) => ⟨[(0, nextN nx), (5, .ref 0 n), (8, nV cnt), (9, .ptr 1 0), (10, .ref 2 n), (35, nextN nx), (36, .int .i64 n), (37, nV x.1.length)], ck (cl.map nV) (fillF nV n x.1) x.2⟩)
    (fun x => x.1.length ≤ n ∧ x.2.length ≤ x.1.length ∧ (x.1 = [] ↔ x.2 = []) ∧ (x.1 ++ (rowGo eqB (Aut.keyOf nx cl) (n - x.1.length) x.1.length x.2).1, (rowGo eqB (Aut.keyOf nx cl) (n - x.1.length) x.1.length x.2).2) = T)
    (fun x => n - x.1.length) [] _ ([], []) rfl (by simp [-List.reduceReplicate, ck, ckE, ← fillF_nil]) ⟨by simp, by simp, by simp, by simp [hT]⟩ ?_
   rintro ⟨acc, l⟩ ⟨hal, hll, hnil, hi⟩ M hM
   simp only at hal hll hnil hi
   rcases Nat.lt_or_ge acc.length n with hlt | hge
   · obtain ⟨row, hrow⟩ := get_lt (l := nx) (k := acc.length) (by omega)
     obtain ⟨hr1, hr2⟩ := hn row (List.mem_of_getElem? hrow)
     obtain ⟨c0, hc0⟩ := get_lt (l := cl) (k := acc.length) (by omega)
     have hc0v := hcv c0 (List.mem_of_getElem? hc0)
     have hfln := fillF_len (f := nV) (n := n) (acc := acc) (by omega)
     obtain ⟨m', hm'⟩ : ∃ m', n - acc.length = m' + 1 := ⟨n - acc.length - 1, by omega⟩
     have hm2 : n - (acc.length + 1) = m' := by omega
     rw [hm'] at hi
     simp only [rowGo] at hi
     replace hi := hid hi
     have next : ∀ (τ : St), τ.nrm [0, 5, 8, 9, 10, 35, 36, 37] = ⟨[(0, nextN nx), (5, .ref 0 n), (8, nV cnt), (9, .ptr 1 0), (10, .ref 2 n), (35, nextN nx), (36, .int .i64 n), (37, nV (acc.length + 1))], ck (cl.map nV) (fillF nV n (acc ++ [addN eqB l (Aut.keyOf nx cl acc.length)])) (addL eqB l (Aut.keyOf nx cl acc.length))⟩ → M τ := by
      intro τ hτ
      have h3 := addL_le l (Aut.keyOf nx cl acc.length)
      refine hM.out τ <| Nx.mk (acc ++ [addN eqB l (Aut.keyOf nx cl acc.length)], addL eqB l (Aut.keyOf nx cl acc.length)) (by simpa using hτ) ⟨by simp; omega, by simp; omega, ?_, ?_⟩ (by simp; omega)
      · simp only [List.append_eq_nil_iff, List.cons_ne_nil, and_false, false_iff]
        unfold addL
        split
        · intro h
          rename_i h2
          rw [h] at h2
          simp [pos] at h2
        · simp
      · have := hi.out
        rw [← this]
        simp [hm2]
     replace next := hid next
     cases l with
     | nil =>
       have : acc = [] := hnil.2 rfl
       subst this
       simp only [List.length_nil] at hc0 hrow
       simp (disch := omega) [-List.reduceReplicate, ck, ckE, hrow, hc0, hcl, hfln]
       have hkey0 : V.int .u16 (c0 : Int) :: List.replicate 95 (V.int .u16 0) = fillF u16V 96 [c0] := by simp [-List.reduceReplicate, fillF, u16V]
       refine W_loop (fun (j : Nat) => ⟨[(0, nextN nx), (5, .ref 0 n), (8, nV cnt), (9, .ptr 1 0), (10, .ref 2 n), (11, .int .i64 0), (13, .ptr 3 0), (35, nextN nx), (36, .int .i64 n), (37, .int .i64 0), (48, rowN row), (49, .int .i64 95), (50, .int .i64 j)], cjE (cl.map nV) (fillF nV n []) (fillF u16V 96 (c0 :: (row.take j).map fun t => (cl[t]?).getD 0))⟩) (fun j => j ≤ 95) (fun j => 95 - j) [] _ 0 rfl (by simp [-List.reduceReplicate, cjE, hr1, hkey0]) (by simp) ?_
       intro j hj P hP
       have hjl : (c0 :: (row.take j).map fun t => (cl[t]?).getD 0).length = j + 1 := by simp; omega
       rcases Nat.lt_or_ge j 95 with hj95 | hj95
       · obtain ⟨t, ht⟩ := get_lt (l := row) (k := j) (by omega)
         obtain ⟨v, hv⟩ := get_lt (l := cl) (k := t) (by rw [hcl]; have := hr2 t (List.mem_of_getElem? ht); omega)
         have hvv := hcv v (List.mem_of_getElem? hv)
         have hsp := fillF_splice (f := u16V) (n := 96) (acc := c0 :: (row.take j).map fun t => (cl[t]?).getD 0) (by omega) v
         have hkl := fillF_len (f := u16V) (n := 96) (acc := c0 :: (row.take j).map fun t => (cl[t]?).getD 0) (by omega)
         have htk : (c0 :: (row.take (j + 1)).map fun t => (cl[t]?).getD 0) = (c0 :: (row.take j).map fun t => (cl[t]?).getD 0) ++ [v] := by rw [take_snoc ht]; simp [hv]
         obtain ⟨ac, hac⟩ : ∃ ac, ac = (c0 :: (row.take j).map fun t => (cl[t]?).getD 0) := ⟨_, rfl⟩
         rw [← hac] at hjl hsp hkl htk ⊢
         rw [hjl] at hsp
         simp only [u16V] at hsp
         have htl : t < n := hr2 t (List.mem_of_getElem? ht)
         have hjn : (1 + (j : Int)).toNat = j + 1 := by omega
         simp (disch := omega) [-List.reduceReplicate, cjE, ht, hv, hcl, hkl, hjl, hjn, hsp]
         exact hP.out _ <| Nx.mk (j + 1) (by rw [htk]; simp [cjE]) (by omega) (by omega)
       · have hj0 : j = 95 := by omega
         subst hj0
         have hrt : row.take 95 = row := List.take_of_length_le (by omega)
         obtain ⟨key, hkey⟩ : ∃ key, key = Aut.keyOf nx cl 0 := ⟨_, rfl⟩
         have hkd : (c0 :: row.map fun t => (cl[t]?).getD 0) = key := by rw [hkey, key_some hrow]; simp [hc0]
         rw [hrt, hkd] at hjl ⊢
         have hkf : fillF u16V 96 key = key.map u16V := fillF_full hjl
         have htk : List.take 96 (key.map u16V) = key.map u16V := List.take_of_length_le (by simp; omega)
         have hg := fillF_get (f := nV) (n := n) (acc := []) (by simp; omega)
         have hs := fillF_set (f := nV) (n := n) (acc := []) (by simp; omega) 0
         simp only [List.length_nil, nV] at hg hs
         rw [hkf]
         simp (disch := omega) [-List.reduceReplicate, cjE, hjl, htk]
         refine wcallH_mk [0] 1 [1, 4] (by simp) (by simp) (by simp [kcV]) (by simp) (f_met_add_key_nil key hjl) (by simp) fun _ _ => ?_
         replace hs : (fillF nV n []).set 0 (.int .i64 0) = fillF nV n [0] := hs
         simp (disch := omega) [-List.reduceReplicate, hg, hs, hfln]
         have e1 : addN eqB ([] : List (List Nat)) key = 0 := rfl
         have e2 : addL eqB ([] : List (List Nat)) key = [key] := rfl
         refine next.out _ ?_
         rw [List.length_nil, ← hkey, e1, e2]
         simp [ck, ckH]
     | cons k0 l0 =>
       simp (disch := omega) [-List.reduceReplicate, ck, ckH, hrow, hc0, hcl, hfln]
       have hkey0 : V.int .u16 (c0 : Int) :: List.replicate 95 (V.int .u16 0) = fillF u16V 96 [c0] := by simp [-List.reduceReplicate, fillF, u16V]
       refine W_loop (fun (j : Nat) => ⟨[(0, nextN nx), (5, .ref 0 n), (8, nV cnt), (9, .ptr 1 0), (10, .ref 2 n), (11, nV acc.length), (13, .ptr 3 0), (35, nextN nx), (36, .int .i64 n), (37, nV acc.length), (48, rowN row), (49, .int .i64 95), (50, .int .i64 j)], cjH (cl.map nV) (fillF nV n acc) (fillF u16V 96 (c0 :: (row.take j).map fun t => (cl[t]?).getD 0)) (k0 :: l0)⟩) (fun j => j ≤ 95) (fun j => 95 - j) [] _ 0 rfl (by simp [-List.reduceReplicate, cjH, hr1, hkey0]) (by simp) ?_
       intro j hj P hP
       have hjl : (c0 :: (row.take j).map fun t => (cl[t]?).getD 0).length = j + 1 := by simp; omega
       rcases Nat.lt_or_ge j 95 with hj95 | hj95
       · obtain ⟨t, ht⟩ := get_lt (l := row) (k := j) (by omega)
         obtain ⟨v, hv⟩ := get_lt (l := cl) (k := t) (by rw [hcl]; have := hr2 t (List.mem_of_getElem? ht); omega)
         have hvv := hcv v (List.mem_of_getElem? hv)
         have hsp := fillF_splice (f := u16V) (n := 96) (acc := c0 :: (row.take j).map fun t => (cl[t]?).getD 0) (by omega) v
         have hkl := fillF_len (f := u16V) (n := 96) (acc := c0 :: (row.take j).map fun t => (cl[t]?).getD 0) (by omega)
         have htk : (c0 :: (row.take (j + 1)).map fun t => (cl[t]?).getD 0) = (c0 :: (row.take j).map fun t => (cl[t]?).getD 0) ++ [v] := by rw [take_snoc ht]; simp [hv]
         obtain ⟨ac, hac⟩ : ∃ ac, ac = (c0 :: (row.take j).map fun t => (cl[t]?).getD 0) := ⟨_, rfl⟩
         rw [← hac] at hjl hsp hkl htk ⊢
         rw [hjl] at hsp
         simp only [u16V] at hsp
         have htl : t < n := hr2 t (List.mem_of_getElem? ht)
         have hjn : (1 + (j : Int)).toNat = j + 1 := by omega
         simp (disch := omega) [-List.reduceReplicate, cjH, ht, hv, hcl, hkl, hjl, hjn, hsp]
         exact hP.out _ <| Nx.mk (j + 1) (by rw [htk]; simp [cjH]) (by omega) (by omega)
       · have hj0 : j = 95 := by omega
         subst hj0
         have hrt : row.take 95 = row := List.take_of_length_le (by omega)
         obtain ⟨key, hkey⟩ : ∃ key, key = Aut.keyOf nx cl acc.length := ⟨_, rfl⟩
         have hkd : (c0 :: row.map fun t => (cl[t]?).getD 0) = key := by rw [hkey, key_some hrow]; simp [hc0]
         rw [hrt, hkd] at hjl ⊢
         have hkf : fillF u16V 96 key = key.map u16V := fillF_full hjl
         have htk : List.take 96 (key.map u16V) = key.map u16V := List.take_of_length_le (by simp; omega)
         have hg := fillF_get (f := nV) (n := n) (acc := acc) (by omega)
         have hs := fillF_set (f := nV) (n := n) (acc := acc) (by omega) (addN eqB (k0 :: l0) key)
         simp only [nV] at hg hs
         rw [hkf]
         simp (disch := omega) [-List.reduceReplicate, cjH, hjl, htk]
         refine wcallH_mk [0] 1 [1, 4, 5] (by simp) (by simp) (by simp [kcV]) (by simp) (f_met_add_key (k0 :: l0) key (by omega) hjl) (by simp) fun _ _ => ?_
         simp (disch := omega) [-List.reduceReplicate, hg, hs, hfln]
         refine next.out _ ?_
         rw [← hkey]
         obtain ⟨k1, l1, hkl1⟩ : ∃ k1 l1, addL eqB (k0 :: l0) key = k1 :: l1 := by unfold addL; split <;> exact ⟨_, _, rfl⟩
         simp [ck, ckH, hkl1]
   · have hacc : acc.length = n := by omega
     have h00 : n - acc.length = 0 := by omega
     rw [h00] at hi
     simp only [rowGo, List.append_nil] at hi
     have hne : l ≠ [] := fun h => by have := hnil.2 h; subst this; simp at hacc; omega
     obtain ⟨k1, lr, rfl⟩ : ∃ k1 lr, l = k1 :: lr := by cases l with | nil => exact absurd rfl hne | cons a b => exact ⟨a, b, rfl⟩
     have hff : fillF nV n acc = acc.map nV := fillF_full hacc
     have hgo := hgo.out
     rw [← hi] at hgo
     simp only at hgo
     split at hgo
     · rename_i heq
       simp only [Option.some.injEq] at hgo
       subst hgo
       have hce : (lr.length : Int) + 1 = cnt := by simp at heq; omega
       simp (disch := omega) [-List.reduceReplicate, ck, ckH, hacc, hff, hce, hR]
       exact flats_map (fun _ => rfl) acc
     · rename_i hne2
       have hce : ¬((lr.length : Int) + 1 = cnt) := by simp at hne2; omega
       have hlen2 := rowGo_len2 (e := eqB) (Aut.keyOf nx cl) n 0 []
       have hltv := fun v => rowGo_lt (e := eqB) eqB_refl (Aut.keyOf nx cl) n [] 0 (v := v)
       rw [← hT, ← hi] at hlen2
       rw [← hT, ← hi] at hltv
       simp only [List.length_nil, Nat.zero_add] at hlen2
       simp (disch := omega) [-List.reduceReplicate, ck, ckH, hacc, hff, hce]
       exact hN.out _ <| Nx.mk (f, acc, (k1 :: lr).length) (by simp) ⟨hacc, fun v hv => by have := hltv v hv; simp only at this; omega, hgo⟩ (by simp)
 · have hak : (bs.take k).length = k := by simp; omega
   have hbx : bs[k]? = some (b01 x) := by simp [hbs, hx]
   have hl := fillF_len (f := nV) (n := n) (acc := bs.take k) (by omega)
   have hg := fillF_get (f := nV) (n := n) (acc := bs.take k) (by omega)
   have hs := fillF_set (f := nV) (n := n) (acc := bs.take k) (by omega)
   rw [hak] at hg hs
   have h1 := hs (b01 x)
   rw [← take_snoc hbx] at h1
   simp only [nV] at hg
   simp (disch := omega) [-List.reduceReplicate, hx]
   refine BrK.mk (fun h => ?_) (fun h => ?_)
   · subst h
     replace h1 : (fillF nV n (bs.take k)).set k (.int .i64 1) = fillF nV n (bs.take (k + 1)) := h1
     simp (disch := omega) [-List.reduceReplicate, hg, hl, h1]
     exact hN.out _ <| Nx.mk (k + 1) (by simp) (by omega) (by omega)
   · subst h
     simp (disch := omega) [-List.reduceReplicate]
     refine hN.out _ <| Nx.mk (k + 1) (by rw [take_snoc hbx, show b01 false = 0 from rfl, fillF_zero (by omega)]; simp) (by omega) (by omega)
end Go.Abs
end
section
set_option maxHeartbeats 1000000
set_option maxRecDepth 100000
namespace Go.Abs
open Go.Proofs Go.Aut
attribute [-simp] getElem?_pos Option.not_isSome List.map_map
def chDK (Φ : Ctr) (d : Option Nat) (f : FuncId) (σ : St) (K : St → Prop) (vs : List V) : Prop := wcallHD Φ d f vs K σ
theorem chDK_app {Φ : Ctr} {d : Option Nat} {f : FuncId} {σ : St} {K : St → Prop} {vs : List V} : chDK Φ d f σ K vs = wcallHD Φ d f vs K σ := propext Iff.rfl
theorem aD_callH {Φ : Ctr} {d : Option Nat} {f : FuncId} {σ : St} {K : St → Prop} {xs : List AO} : wactD Φ d (.callH f xs) K σ = oM (σ.evs xs) (chDK Φ d f σ K) := by
 simp only [wactD, oM]
 cases σ.evs xs <;> rfl
attribute [simp] chDK_app aD_callH
theorem wcallHD_mk {Φ : Ctr} {σ : St} {K : St → Prop} {d : Option Nat} (ps : List Nat) (q : Nat) (m : List Nat) {f : FuncId} {vs us : List V} {H H' : List (Option Ob)} {r : V} (hc : σ.curs (pickV vs ps) = true) (hl : lent σ.h (pickV vs ps) vs = (q, m)) (hu : rens m vs = us) (hH : renH σ.h m m = H)
 (h : Φ.e f ps us H r H') (hk : kin q H H' = true) (k : hEnd σ d K q m r H') : wcallHD Φ d f vs K σ := by
 refine ⟨ps, hc, r, H', ?_, ?_, ?_⟩
 · rw [hl, hH]; exact hk
 · rw [hl, hu, hH]; exact h
 · rw [hl]; exact k
def fillG {α : Type} (f : α → V) (d : α) (n : Nat) (acc : List α) : List V := (acc ++ List.replicate (n - acc.length) d).map f
section
variable {α : Type} {f : α → V} {d : α} {n : Nat} {acc : List α}
theorem fillG_len (h : acc.length ≤ n) : (fillG f d n acc).length = n := by simp [fillG]; omega
theorem fillG_eq (h : acc.length < n) : fillG f d n acc = acc.map f ++ f d :: (List.replicate (n - (acc.length + 1)) d).map f := by
 obtain ⟨m, hm⟩ : ∃ m, n - acc.length = m + 1 := ⟨n - acc.length - 1, by omega⟩
 have h2 : n - (acc.length + 1) = m := by omega
 simp only [fillG, hm, h2, List.replicate_succ, List.map_append, List.map_cons]
theorem fillG_snoc (k : α) : fillG f d n (acc ++ [k]) = acc.map f ++ f k :: (List.replicate (n - (acc.length + 1)) d).map f := by
 simp [fillG]
theorem fillG_set (h : acc.length < n) (k : α) : (fillG f d n acc).set acc.length (f k) = fillG f d n (acc ++ [k]) := by
 rw [fillG_eq h, fillG_snoc, List.set_append_right _ _ (by simp)]
 simp
theorem fillG_get (h : acc.length < n) : (fillG f d n acc)[acc.length]? = some (f d) := by
 rw [fillG_eq h, List.getElem?_append_right (by simp)]
 simp
theorem fillG_full (h : acc.length = n) : fillG f d n acc = acc.map f := by simp [fillG, h]
theorem fillG_nil : List.replicate n (f d) = fillG f d n [] := by simp [fillG]
end
theorem walkP_len {K : Type} [DecidableEq K] {step : K → Nat → K} {start : K} {most : Nat} {l : List K} {rows : List (List Nat)} {D : K → Prop} (hD : ∀ q c, D q → c < 95 → D (step q c)) (h0 : D start) (h : walkP eqB step start most = some (l, rows)) :
 rows.length = l.length ∧ 0 < l.length ∧ l[0]? = some start ∧ (∀ q ∈ l, D q) ∧ rowsOK l.length rows ∧ l.Nodup := by
 obtain ⟨h3, t, h4⟩ := walkGo_inv eqB_refl hD _ _ _ _ _ _ (winv_start h0) h
 have hpos : 0 < l.length := by rw [h4]; simp
 refine ⟨h3.len, hpos, by simp [h4], h3.dom, ?_, apart_nodup h3.apart⟩
 have := (walk_aut (good := fun _ => true) h3 hpos).1.rows
 simpa [Aut.n, h3.len] using this
theorem f_dfa_form {a : Aut} (ha : a.ok) (hn : a.n ≤ 10000) {b : Aut} (hb : formP a.next a.final = some b) : Fn Tryz.prog n_dfa_form [nextN a.next, finN a.final] (.strct (Aut.c b)) := by
 refine Fn.of_imageE mixed h_dfa_form i_dfa_form rfl fun ho => ?_
 unfold c_dfa_form
 simp only [oks, ok, and_true] at ho
 clear ho
 unfold formP at hb
 split at hb
 · cases hb
 rename_i list nx hw
 split at hb
 · cases hb
 rename_i cls hc
 split at hb
 · cases hb
 rename_i l2 rows hw2
 simp only [Option.some.injEq] at hb
 subst hb
 obtain ⟨hl1, hl2, hl3, hl4, hl5, hl6⟩ := walkP_len (D := fun q => q < a.n) (fun q c hq hc => ha.lt hq hc) ha.pos hw
 have hnl : a.next.length = a.n := rfl
 have hln := nodup_le a.n list hl6 hl4
 have hfl : a.final.length = a.n := ha.fin
 obtain ⟨ends, hends⟩ : ∃ ends, ends = list.map (fin a.final) := ⟨_, rfl⟩
 have hel : ends.length = list.length := by simp [hends]
 rw [← hends] at hc ⊢
 obtain ⟨m, hm⟩ : ∃ m, m = list.length := ⟨_, rfl⟩
 rw [← hm] at hl1 hl2 hl5 hln hel hw2 ⊢
 obtain ⟨o, ho⟩ : ∃ o, o = ofGo 0 cls (List.replicate m 0) := ⟨_, rfl⟩
 rw [← ho] at hw2 ⊢
 obtain ⟨R, hR⟩ : ∃ R, R = V.strct (Aut.c ⟨rows, l2.map fun c => fin ends (getN o c)⟩) := ⟨_, rfl⟩
 rw [← hR]
 simp (disch := omega) [-List.reduceReplicate, hnl]
 refine wcallH_mk [1] 1 [0] (by simp) (by simp) (by simp) (by simp) (f_walk_form_1 a.next a.n ha.rows rfl a.n (by omega) 0 ha.pos list nx hw) (by simp) fun _ _ => ?_
 simp (disch := omega) [-List.reduceReplicate, hnl, ← hm, hl1]
 refine W_loop (fun (k : Nat) => ⟨[(1, finN a.final), (2, .ptr 0 0), (4, .ptr 1 0), (5, .ref 2 m), (7, .ref 3 m), (30, .ref 2 m), (31, .int .i64 m), (32, .int .i64 k)], [some (.box [.ref 4 m]), some (.box [.nil 1, .nil 1]), some (.arr ty_int 1 (list.map nV)), some (.arr ty_bool 1 (fillG V.bool false m (ends.take k))), some (.arr ty_Iint 1 (nx.map rowN))]⟩)
  (fun k => k ≤ m) (fun k => m - k) [] _ 0 rfl (by simp [-List.reduceReplicate, ← fillG_nil, ← hm, hl1]) (by simp) ?_
 intro k hk N hN
 rcases Nat.lt_or_ge k m with hlt | hge
 · obtain ⟨q, hq⟩ := get_lt (l := list) (k := k) (by omega)
   have hqn := hl4 q (List.mem_of_getElem? hq)
   obtain ⟨b, hb⟩ := get_lt (l := a.final) (k := q) (by omega)
   have he : ends[k]? = some b := by simp [hends, hq, fin, hb]
   have hak : (ends.take k).length = k := by simp; omega
   have hl := fillG_len (f := V.bool) (d := false) (n := m) (acc := ends.take k) (by omega)
   have hg := fillG_get (f := V.bool) (d := false) (n := m) (acc := ends.take k) (by omega)
   have hs := fillG_set (f := V.bool) (d := false) (n := m) (acc := ends.take k) (by omega) b
   rw [hak] at hg hs
   rw [← take_snoc he] at hs
   simp (disch := omega) [-List.reduceReplicate, hq, hb, hg, hs, hl, ← hm]
   exact hN.out _ <| Nx.mk (k + 1) (by simp) (by omega) (by omega)
 · have hkm : k = m := by omega
   subst hkm
   have ht : ends.take k = ends := List.take_of_length_le (by omega)
   have hff : fillG V.bool false k ends = ends.map V.bool := fillG_full hel
   clear hN
   simp (disch := omega) [-List.reduceReplicate, ht, hff, ← hm]
   have hbok : (Aut.mk nx ends).ok := ⟨by simp only [Aut.n]; omega, by simp only [Aut.n]; omega, by simp only [Aut.n]; rw [hl1]; exact hl5⟩
   have hC : IsCls ⟨nx, ends⟩ cls := by
    obtain ⟨cls', h1, h2⟩ := classesP_spec hbok
    rw [show classesP nx ends = some cls from hc] at h1
    cases h1
    exact h2
   have hcl : cls.length = k := by rw [hC.len]; exact hl1
   have hcm : ∀ v ∈ cls, v < k := fun v hv => by have := hC.lt v hv; simp only [Aut.n] at this; omega
   refine wcall_new (f_dfa_classes nx ends k hl5 hl1 hl2 (by omega) hel cls hc) fun _ => ?_
   simp (disch := omega) [-List.reduceReplicate, ← hm]
   refine W_loop (fun (x : Nat × List Nat) => ⟨[(2, .ptr 0 0), (4, .ptr 1 0), (7, .ref 2 k), (10, .ptr 3 0), (11, .ptr 4 0), (51, rowN cls), (52, .int .i64 k), (53, nV x.1)], [some (.box [.ref 5 k]), some (.box [.nil 1, .nil 1]), some (.arr ty_bool 1 (ends.map V.bool)), some (.box [rowN cls]), some (.box [.ref 6 k]), some (.arr ty_Iint 1 (nx.map rowN)), some (.arr ty_int 1 (x.2.map nV))]⟩)
    (fun x => x.1 ≤ k ∧ x.2.length = k ∧ ofGo x.1 (cls.drop x.1) x.2 = o) (fun x => k - x.1) [] _ (0, List.replicate k 0) rfl (by simp [-List.reduceReplicate, hcl]) ⟨by simp, by simp, by simp [ho]⟩ ?_
   rintro ⟨j, oo⟩ ⟨hj, hol, hi⟩ N hN
   simp only at hj hol hi
   rcases place cls j (by omega) with ⟨he, hd⟩ | ⟨hlt, c, hx, hd⟩ <;> rw [hd] at hi
   · simp only [ofGo] at hi
     clear hN
     subst hi
     obtain ⟨c0, hc0⟩ := get_lt (l := cls) (k := 0) (by omega)
     have hst : ∀ c s, c ∈ cls → s < 95 → ∃ t, getN cls (dl nx (getN oo c) s) = t ∧ t ∈ cls ∧ FnH Tryz.prog n_dfa_form_2 [2, 3, 4] [nV c, nV s, .ptr 0 0, .ptr 1 0, .ptr 2 0] (f2H cls nx oo) (nV t) (f2H cls nx oo) := by
      intro c s hcc hs
      obtain ⟨p, hp1, hp2⟩ := ofGo_spec cls (List.replicate k 0) cls 0 (fun j c hj => by simpa using hj) (fun c hc => by have := hcm c hc; simp; omega) c (.inl hcc)
      rw [← ho] at hp1
      have hpl := (List.getElem?_eq_some_iff.1 hp2).1
      obtain ⟨r, x, g1, g2, g3, g4⟩ := hl5.dl (q := p) (c := s) (by omega) hs
      obtain ⟨y, hy⟩ := get_lt (l := cls) (k := x) (by omega)
      refine ⟨y, ?_, List.mem_of_getElem? hy, f_dfa_form_2 hp1 g1 g2 hy⟩
      rw [show getN oo c = p by simp [getN, hp1], g3]
      simp [getN, hy]
     have hc0m := List.mem_of_getElem? hc0
     have hg0 : getN cls 0 = c0 := by simp [getN, hc0]
     rw [hg0] at hw2
     obtain ⟨gl1, gl2, gl3, gl4, gl5, gl6⟩ := walkP_len (D := fun c => c ∈ cls) (fun q c hq hc => by obtain ⟨t, h1, h2, _⟩ := hst q c hq hc; rw [h1]; exact h2) hc0m hw2
     have hl2n := nodup_le k l2 gl6 fun x hx => hcm x (gl4 x hx)
     simp (disch := omega) [-List.reduceReplicate, he, hol, hcl, hc0]
     refine wcallHD_mk [1] 3 [3, 0, 4, 5, 6] (by simp) (by simp) (by simp [hol]) (by simp [hl1, hol]) (f_walk_form_2 cls nx oo _ (fun c => c ∈ cls) hst k (by omega) c0 hc0m l2 rows hw2) (by simp) ?_
     simp (disch := omega) [-List.reduceReplicate, hol]
     refine W_loop (fun (t : Nat) => ⟨[(4, .ptr 0 0), (7, .ref 1 k), (11, .ptr 2 0), (16, .ptr 3 0), (76, .ref 4 l2.length), (77, .int .i64 l2.length), (78, nV t)], [some (.box [.nil 1, .nil 1]), some (.arr ty_bool 1 (ends.map V.bool)), some (.box [.ref 5 k]), some (.box [.ref 6 rows.length, .ref 7 t]), some (.arr ty_int 1 (l2.map nV)), some (.arr ty_int 1 (oo.map nV)), some (.arr ty_Iint 1 (rows.map rowN)), some (.arr ty_bool 1 (((l2.take t).map fun c => fin ends (getN oo c)).map V.bool))]⟩)
      (fun t => t ≤ l2.length) (fun t => l2.length - t) [.b 11 1 ty_bool 1] _ 0 (by simp; rfl) (by simp) (by simp) ?_
     intro t ht N hN
     rcases place l2 t ht with ⟨he2, hd2⟩ | ⟨hlt2, c, hc2, hd2⟩
     · have htk : l2.take t = l2 := List.take_of_length_le (by omega)
       subst he2
       simp (disch := omega) [-List.reduceReplicate, htk, hR]
       rfl
     · have hcc := gl4 c (List.mem_of_getElem? hc2)
       obtain ⟨p, hp1, hp2⟩ := ofGo_spec cls (List.replicate k 0) cls 0 (fun j c hj => by simpa using hj) (fun c hc => by have := hcm c hc; simp; omega) c (.inl hcc)
       rw [← ho] at hp1
       have hpl := (List.getElem?_eq_some_iff.1 hp2).1
       have hcl2 := (List.getElem?_eq_some_iff.1 hp1).1
       obtain ⟨b, hb⟩ := get_lt (l := ends) (k := p) (by omega)
       have hfb : fin ends (getN oo c) = b := by simp [getN, hp1, fin, hb]
       have hsn := take_snoc hc2
       have htl : (l2.take t).length = t := by simp; omega
       simp (disch := omega) [-List.reduceReplicate, hc2, hol, hp1, hel, hb, htl]
       exact hN.out _ <| Nx.mk (t + 1) (by rw [hsn]; simp [hfb]) (by omega) (by omega)
   · simp only [ofGo] at hi
     have hck := hcm c (List.mem_of_getElem? hx)
     obtain ⟨y, hy⟩ := get_lt (l := oo) (k := c) (by omega)
     replace hi := hid hi
     simp (disch := omega) [-List.reduceReplicate, hx, hol, hy, hcl]
     exact hN.out _ <| Nx.mk (j + 1, oo.set c j) (by simp) ⟨by simp only; omega, by simp [hol], hi.out⟩ (by simp only; omega)
end Go.Abs
end
