/-
  The states that words of one length reach; the shortest word that is taken. No condition.
-/
import Derived.Test.YtpblinccnkidfaaDoorTh6
set_option linter.unusedVariables false
set_option linter.unusedSimpArgs false
set_option linter.unusedSectionVars false
namespace Go.Aut
/-- A word of k signs leads from a state to a state. -/
def Rch (a : Aut) (p k t : Nat) : Prop := ∃ w : List Nat, w.length = k ∧ (∀ c ∈ w, c < 95) ∧ w.foldl a.δ p = t
theorem walk_lt {a : Aut} (ha : a.ok) : ∀ (w : List Nat) {p : Nat}, p < a.n → (∀ c ∈ w, c < 95) → w.foldl a.δ p < a.n
  | [], _, hp, _ => hp
  | c :: w, _, hp, h => walk_lt ha w (ha.lt hp (h c (by simp))) fun c hc => h c (by simp [hc])
theorem Rch.lt {a : Aut} (ha : a.ok) {p k t : Nat} (hp : p < a.n) (h : Rch a p k t) : t < a.n := by
  obtain ⟨w, _, h2, rfl⟩ := h
  exact walk_lt ha w hp h2
theorem Rch.zero {a : Aut} {p t : Nat} : Rch a p 0 t ↔ t = p := by
  constructor
  · rintro ⟨w, h1, _, rfl⟩
    have := List.eq_nil_of_length_eq_zero h1
    subst this; rfl
  · rintro rfl; exact ⟨[], rfl, by simp, rfl⟩
theorem Rch.succ {a : Aut} {p k t : Nat} : Rch a p (k + 1) t ↔ ∃ q c, Rch a p k q ∧ c < 95 ∧ a.δ q c = t := by
  constructor
  · rintro ⟨w, h1, h2, rfl⟩
    obtain ⟨u, d, rfl⟩ : ∃ u d, w = u ++ [d] := ⟨w.dropLast, w.getLast (by intro e; rw [e] at h1; simp at h1), (List.dropLast_concat_getLast _).symm⟩
    exact ⟨_, d, ⟨u, by simpa using h1, fun c hc => h2 c (by simp [hc]), rfl⟩, h2 d (by simp), by simp [List.foldl_append]⟩
  · rintro ⟨q, c, ⟨w, h1, h2, rfl⟩, hc, rfl⟩
    exact ⟨w ++ [c], by simp [h1], fun d hd => by
      simp only [List.mem_append, List.mem_singleton] at hd
      rcases hd with hd | rfl
      · exact h2 d hd
      · exact hc, by simp [List.foldl_append]⟩
/-- A list that says which states words of k signs reach. -/
def Lev (a : Aut) (p k : Nat) (S : List Bool) : Prop := S.length = a.n ∧ ∀ t, S[t]? = some true ↔ Rch a p k t
/-- .. of k + 1 signs, the states before the q-th done, and of its signs those before c. -/
def LevP (a : Aut) (p k q c : Nat) (T : List Bool) : Prop := T.length = a.n ∧ ∀ t, T[t]? = some true ↔ ∃ q' c', (q' < q ∨ (q' = q ∧ c' < c)) ∧ c' < 95 ∧ Rch a p k q' ∧ a.δ q' c' = t
theorem rep_true {n t : Nat} : (List.replicate n false)[t]? = some true ↔ False := by
  rw [List.getElem?_replicate]; split <;> simp
theorem Lev.begin {a : Aut} {p : Nat} (hp : p < a.n) : Lev a p 0 ((List.replicate a.n false).set p true) := by
  refine ⟨by simp, fun t => ?_⟩
  rw [List.getElem?_set, Rch.zero]
  simp only [List.length_replicate]
  by_cases h : p = t
  · simp [h ▸ hp, h]
  · rw [if_neg h, rep_true]; simp only [false_iff]; omega
theorem LevP.begin {a : Aut} {p k : Nat} : LevP a p k 0 0 (List.replicate a.n false) := by
  refine ⟨by simp, fun t => ?_⟩
  rw [rep_true]
  simp only [false_iff]
  rintro ⟨q', c', h, _⟩
  omega
theorem LevP.put {a : Aut} (ha : a.ok) {p k q c : Nat} {T : List Bool} (h : LevP a p k q c T) (hq : Rch a p k q) (hqn : q < a.n) (hc : c < 95) : LevP a p k q (c + 1) (T.set (a.δ q c) true) := by
  have hlt := ha.lt hqn hc
  refine ⟨by simp [h.1], fun t => ?_⟩
  rw [List.getElem?_set, h.1]
  by_cases e : a.δ q c = t
  · simp only [e, if_true, e ▸ hlt, true_iff]
    exact ⟨q, c, .inr ⟨rfl, by omega⟩, hc, hq, e⟩
  · rw [if_neg e, h.2]
    constructor
    · rintro ⟨q', c', h1, h2⟩
      exact ⟨q', c', by omega, h2⟩
    · rintro ⟨q', c', h1, h2, h3, h4⟩
      refine ⟨q', c', ?_, h2, h3, h4⟩
      rcases h1 with h1 | ⟨rfl, h1⟩
      · exact .inl h1
      · refine .inr ⟨rfl, ?_⟩
        rcases Nat.lt_or_ge c' c with g | g
        · exact g
        · have : c' = c := by omega
          subst this
          exact absurd h4 e
theorem LevP.next {a : Aut} {p k q : Nat} {T : List Bool} (h : LevP a p k q 95 T) : LevP a p k (q + 1) 0 T := by
  refine ⟨h.1, fun t => ?_⟩
  rw [h.2]
  constructor
  · rintro ⟨q', c', h1, h2⟩
    exact ⟨q', c', by omega, h2⟩
  · rintro ⟨q', c', h1, h2, h3⟩
    exact ⟨q', c', by omega, h2, h3⟩
theorem LevP.skip {a : Aut} {p k q c : Nat} {T : List Bool} (h : LevP a p k q c T) (hq : ¬Rch a p k q) : LevP a p k (q + 1) 0 T := by
  refine ⟨h.1, fun t => ?_⟩
  rw [h.2]
  constructor
  · rintro ⟨q', c', h1, h2, h3, h4⟩
    refine ⟨q', c', .inl ?_, h2, h3, h4⟩
    rcases h1 with h1 | ⟨rfl, _⟩
    · omega
    · exact absurd h3 hq
  · rintro ⟨q', c', h1, h2, h3, h4⟩
    refine ⟨q', c', ?_, h2, h3, h4⟩
    rcases Nat.lt_or_ge q' q with g | g
    · exact .inl g
    · have : q' = q := by omega
      subst this
      exact absurd h3 hq
theorem LevP.full {a : Aut} (ha : a.ok) {p k : Nat} (hp : p < a.n) {T : List Bool} (h : LevP a p k a.n 0 T) : Lev a p (k + 1) T := by
  refine ⟨h.1, fun t => ?_⟩
  rw [h.2, Rch.succ]
  constructor
  · rintro ⟨q', c', _, h2, h3, h4⟩
    exact ⟨q', c', h3, h2, h4⟩
  · rintro ⟨q, c, h1, h2, h3⟩
    exact ⟨q, c, .inl (h1.lt ha hp), h2, h1, h3⟩
/-- A state that is taken is reached by fewer signs than there are states, if it is reached at all. -/
theorem short {a : Aut} (ha : a.ok) {p : Nat} (hp : p < a.n) : ∀ (m : Nat) (w : List Nat), w.length ≤ m → (∀ c ∈ w, c < 95) → ∃ v : List Nat, v.length < a.n ∧ v.length ≤ w.length ∧ (∀ c ∈ v, c < 95) ∧ v.foldl a.δ p = w.foldl a.δ p
  | m, w, hm, hw => by
    rcases Nat.lt_or_ge w.length a.n with h | h
    · exact ⟨w, h, Nat.le_refl _, hw, rfl⟩
    · obtain ⟨P, hP⟩ : ∃ P, P = (List.range (w.length + 1)).map fun k => (w.take k).foldl a.δ p := ⟨_, rfl⟩
      have hPl : P.length = w.length + 1 := by simp [hP]
      have hPg : ∀ k, k < w.length + 1 → P[k]? = some ((w.take k).foldl a.δ p) := fun k hk => by rw [hP, List.getElem?_map, List.getElem?_range hk]; rfl
      have hnd : ¬P.Nodup := fun hnd => by
        have := nodup_le a.n P hnd fun x hx => by
          rw [hP, List.mem_map] at hx
          obtain ⟨k, _, rfl⟩ := hx
          exact walk_lt ha _ hp fun c hc => hw c (List.mem_of_mem_take hc)
        omega
      have hex : ∃ i j, i < j ∧ j < w.length + 1 ∧ (w.take i).foldl a.δ p = (w.take j).foldl a.δ p := by
        apply Classical.byContradiction
        intro hno
        apply hnd
        rw [List.nodup_iff_pairwise_ne, List.pairwise_iff_getElem]
        intro i j hi hj hij e
        refine hno ⟨i, j, hij, by omega, ?_⟩
        have h1 := hPg i (by omega)
        have h2 := hPg j (by omega)
        rw [List.getElem?_eq_getElem hi] at h1
        rw [List.getElem?_eq_getElem hj] at h2
        simp only [Option.some.injEq] at h1 h2
        rw [← h1, ← h2, e]
      obtain ⟨i, j, hij, hj, e⟩ := hex
      have hlen : (w.take i ++ w.drop j).length < w.length := by simp; omega
      cases m with
      | zero => omega
      | succ m =>
        obtain ⟨v, h1, h2, h3, h4⟩ := short ha hp m (w.take i ++ w.drop j) (by omega) fun c hc => by
          rcases List.mem_append.1 hc with hc | hc
          · exact hw c (List.mem_of_mem_take hc)
          · exact hw c (List.mem_of_mem_drop hc)
        refine ⟨v, h1, by omega, h3, ?_⟩
        rw [h4, List.foldl_append, e, ← List.foldl_append, List.take_append_drop]
theorem IsLeast.short {a : Aut} (ha : a.ok) {w : List Nat} (h : IsLeast a.δ 0 a.F (some w)) : w.length < a.n := by
  obtain ⟨v, h1, _, h3, h4⟩ := Go.Aut.short ha ha.pos _ w (Nat.le_refl _) h.1
  have := h.2.2 v h3 (by rw [h4]; exact h.2.1)
  apply Classical.byContradiction
  intro hc
  exact this (.inl (by omega))
/-- How many signs the least word has; -1: there is none. -/
def lenZ : Option (List Nat) → Int
  | none => -1
  | some w => w.length
theorem IsLeast.lev {a : Aut} {r : Option (List Nat)} (h : IsLeast a.δ 0 a.F r) {k t : Nat} (ht : Rch a 0 k t) (hF : a.F t = true) : ∃ w, r = some w ∧ w.length ≤ k := by
  obtain ⟨v, h1, h2, rfl⟩ := ht
  cases r with
  | none => rw [h v h2] at hF; cases hF
  | some w =>
    refine ⟨w, rfl, ?_⟩
    have := h.2.2 v h2 hF
    apply Classical.byContradiction
    intro hc
    exact this (.inl (by omega))
theorem lexW_at : ∀ (w : List Nat) (i j c : Nat) (u : List Nat), w[i]? = some c → j < c → u.length + i + 1 = w.length → lexW (w.take i ++ j :: u) w
  | [], i, j, c, u, h, _, _ => by simp at h
  | b :: w, 0, j, c, u, h, hj, hl => by
    simp at h
    subst h
    exact .inl hj
  | b :: w, i + 1, j, c, u, h, hj, hl => by
    simp only [List.length_cons] at hl
    exact .inr ⟨rfl, lexW_at w i j c u (by simpa using h) hj (by omega)⟩
theorem IsLeast.first {a : Aut} {w : List Nat} (h : IsLeast a.δ 0 a.F (some w)) {i j c t : Nat} (hi : w[i]? = some c) (hj : j < c) (ht : Rch a (a.δ ((w.take i).foldl a.δ 0) j) (w.length - i - 1) t) : a.F t = false := by
  have hil := (List.getElem?_eq_some_iff.1 hi).1
  obtain ⟨u, h1, h2, rfl⟩ := ht
  cases hF : a.F (u.foldl a.δ (a.δ ((w.take i).foldl a.δ 0) j)) with
  | false => rfl
  | true =>
    have hc := h.1 c (List.mem_of_getElem? hi)
    have h95 : ∀ d ∈ w.take i ++ j :: u, d < 95 := fun d hd => by
      simp only [List.mem_append, List.mem_cons] at hd
      rcases hd with hd | rfl | hd
      · exact h.1 d (List.mem_of_mem_take hd)
      · omega
      · exact h2 d hd
    exact absurd (.inr ⟨by simp; omega, lexW_at w i j c u hi hj (by omega)⟩) (h.2.2 (w.take i ++ j :: u) h95 (by rw [List.foldl_append]; exact hF))
end Go.Aut
