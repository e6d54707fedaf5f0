/-
  What strainerref09's matching tells: tables of truth values. No condition.
-/
import Derived.Test.YtjhcljlogdcbbaaGreatF16
set_option linter.unusedVariables false
set_option linter.unusedSimpArgs false
set_option maxHeartbeats 4000000
set_option maxRecDepth 100000
namespace Go.Abs
open Go.Proofs
attribute [-simp] getElem?_pos Option.not_isSome
/-- A list by its places. -/
def tab {α : Type} (n : Nat) (F : Nat → α) : List α := (List.range n).map F
section
variable {α β : Type} {n i : Nat} {F G : Nat → α}
theorem tab_len : (tab n F).length = n := by simp [tab]
theorem tab_get (h : i < n) : (tab n F)[i]? = some (F i) := by simp only [tab, List.getElem?_map, List.getElem?_range h, Option.map_some]
theorem tab_ge (h : n ≤ i) : (tab n F)[i]? = none := by rw [List.getElem?_eq_none]; rw [tab_len]; exact h
theorem tab_set {x : α} : (tab n F).set i x = tab n (fun j => if j = i then x else F j) := by
  apply List.ext_getElem?
  intro j
  rw [List.getElem?_set, tab_len]
  by_cases h : j < n
  · rw [tab_get h, tab_get h]
    by_cases hj : i = j
    · subst hj; simp [h]
    · rw [if_neg hj, if_neg (fun e => hj e.symm)]
  · rw [tab_ge (by omega), tab_ge (by omega)]
    split <;> simp_all
theorem tab_congr (h : ∀ i, i < n → F i = G i) : tab n F = tab n G := by
  unfold tab
  exact List.map_congr_left fun i hi => h i (by simpa using hi)
theorem tab_rep {x : α} : List.replicate n x = tab n (fun _ => x) := by rw [tab, List.map_const', List.length_range]
theorem tab_map {g : α → β} : (tab n F).map g = tab n (fun i => g (F i)) := by simp [tab]
theorem tab_all {p : α → Bool} : (tab n F).all p = (List.range n).all (fun i => p (F i)) := by simp [tab, List.all_map]; rfl
end
attribute [simp] tab_len tab_get tab_set tab_map
/-- A table. -/
def rowV (n : Nat) (f : Nat → Bool) : List V := tab n fun k => .bool (f k)
def matV (n : Nat) (f : Nat → Nat → Bool) : V := .seq 1 (tab n fun i => .seq 1 (rowV n (f i)))
theorem rowV_get {n k : Nat} {f : Nat → Bool} (h : k < n) : (rowV n f)[k]? = some (.bool (f k)) := by simp [rowV, h]
theorem rowV_len {n : Nat} {f : Nat → Bool} : (rowV n f).length = n := by simp [rowV]
def sub (k : Nat) (b : Bool) (f : Nat → Bool) (j : Nat) : Bool := if j = k then b else f j
theorem rowV_set {n k : Nat} {f : Nat → Bool} {b : Bool} : (rowV n f).set k (.bool b) = rowV n (sub k b f) := by
  simp only [rowV, tab_set]
  exact tab_congr fun j _ => by unfold sub; split <;> rfl
theorem rowV_rep {n : Nat} : List.replicate n (V.bool false) = rowV n (fun _ => false) := by simp [rowV, tab_rep]
theorem rowV_congr {n : Nat} {f g : Nat → Bool} (h : ∀ k, k < n → f k = g k) : rowV n f = rowV n g := tab_congr fun k hk => by rw [h k hk]
theorem rowV_flat {n : Nat} {f : Nat → Bool} : flats (rowV n f) = true := by
  unfold rowV tab
  induction List.range n with
  | nil => rfl
  | cons x l ih => simp [flats, flat, ih]
attribute [simp] rowV_get rowV_len rowV_set rowV_rep rowV_flat
/-- A table under way: 'i' rows are whole. -/
def half (n i : Nat) (R : Nat → List V) : List (List V) := tab n fun j => if j < i then R j else []
def step1 (n i : Nat) (R : Nat → List V) (r : List V) : List (List V) := tab n fun j => if j = i then r else if j < i then R j else []
theorem half_len {n i : Nat} {R : Nat → List V} : (half n i R).length = n := by simp [half]
theorem step1_len {n i : Nat} {R : Nat → List V} {r : List V} : (step1 n i R r).length = n := by simp [step1]
theorem half_get {n i : Nat} {R : Nat → List V} (h : i < n) : (half n i R)[i]? = some [] := by simp [half, h]
theorem step1_get {n i : Nat} {R : Nat → List V} {r : List V} (h : i < n) : (step1 n i R r)[i]? = some r := by simp [step1, h]
theorem half_set {n i : Nat} {R : Nat → List V} {r : List V} : (half n i R).set i r = step1 n i R r := by simp [half, step1]
theorem step1_set {n i : Nat} {R : Nat → List V} {r s : List V} : (step1 n i R r).set i s = step1 n i R s := by
  simp only [step1, tab_set]
  exact tab_congr fun j _ => by by_cases h : j = i <;> simp [h]
theorem step1_half {n i : Nat} {R : Nat → List V} : step1 n i R (R i) = half n (i + 1) R := by
  refine tab_congr fun j _ => ?_
  by_cases h : j = i
  · subst h; simp
  · simp only [if_neg h]
    by_cases h' : j < i
    · rw [if_pos h', if_pos (by omega)]
    · rw [if_neg h', if_neg (by omega)]
theorem half_rep {n : Nat} {R : Nat → List V} : List.replicate n ([] : List V) = half n 0 R := by simp [half, tab_rep]
theorem half_all {n : Nat} {R : Nat → List V} : half n n R = tab n R := tab_congr fun j h => by rw [if_pos h]
attribute [simp] half_len step1_len half_get step1_get half_set step1_set
/-- A row under way. -/
def upto (k : Nat) (F : Nat → Bool) (c : Nat) : Bool := if c < k then F c else false
theorem upto_all {n : Nat} {F : Nat → Bool} : rowV n (upto n F) = rowV n F := rowV_congr fun c hc => by rw [upto, if_pos hc]
theorem upto_none {n : Nat} {F : Nat → Bool} : rowV n (fun _ => false) = rowV n (upto 0 F) := rowV_congr fun c hc => by rw [upto, if_neg (by omega)]
theorem upto_step {n k : Nat} {F : Nat → Bool} {b : Bool} (h : b = F k) : rowV n (sub k b (upto k F)) = rowV n (upto (k + 1) F) := rowV_congr fun c hc => by
  simp only [upto, sub]
  by_cases h1 : c = k
  · subst h1; rw [if_pos rfl, if_pos (by omega), h]
  · rw [if_neg h1]
    by_cases h2 : c < k
    · rw [if_pos h2, if_pos (by omega)]
    · rw [if_neg h2, if_neg (by omega)]
theorem f_ref09_both (n : Nat) (f g : Nat → Nat → Bool) (hn : n ≤ 100000) : FnN Tryz.prog n_ref09_both [matV n f, matV n g] (matV n fun i k => f i k || g i k) := by
  refine FnN.of_image mixed h_ref09_both i_ref09_both rfl fun ho => ?_
  unfold c_ref09_both
  clear ho
  simp only [matV]
  simp (disch := omega) []
  generalize hR : (fun i => rowV n fun k => f i k || g i k) = R
  have hRi : ∀ i, R i = rowV n fun k => f i k || g i k := fun i => by rw [← hR]
  rw [half_rep (R := R)]
  refine W_loop (fun i : Nat => ⟨[(0, .seq 1 (tab n fun i => .seq 1 (rowV n (f i)))), (1, .seq 1 (tab n fun i => .seq 1 (rowV n (g i)))), (5, .ref 0 n), (6, .int .i64 i)],
    [some (.mat ty_Ibool ty_bool 1 (sm (half n i R)))]⟩) (fun i => i ≤ n) (fun i => n - i) [] _ 0 rfl (by simp) (by simp) ?_
  rintro i hi N hN
  rcases Nat.lt_or_ge i n with hlt | hge
  · simp (disch := omega) []
    rw [upto_none (F := fun c => f i c || g i c)]
    refine W_loop (fun k : Nat => ⟨[(0, .seq 1 (tab n fun i => .seq 1 (rowV n (f i)))), (1, .seq 1 (tab n fun i => .seq 1 (rowV n (g i)))), (5, .ref 0 n), (6, .int .i64 i), (7, .int .i64 k)],
      [some (.mat ty_Ibool ty_bool 1 (sm (step1 n i R (rowV n (upto k fun c => f i c || g i c)))))]⟩) (fun k => k ≤ n) (fun k => n - k) [] _ 0 rfl (by simp) (by simp) ?_
    rintro k hk M hM
    rcases Nat.lt_or_ge k n with hlt2 | hge2
    · simp (disch := omega) []
      refine BrK.mk (fun h => ?_) (fun h => ?_)
      all_goals
        simp (disch := omega) [h]
        rw [upto_step (by simp [h])]
        exact hM.out _ <| Nx.mk (k + 1) (by simp) (by omega) (by omega)
    · have : k = n := by omega
      subst this
      simp (disch := omega) []
      rw [upto_all, ← hRi, step1_half]
      exact hN.out _ <| Nx.mk (i + 1) (by simp) (by omega) (by omega)
  · have : i = n := by omega
    subst this
    simp (disch := omega) [half_all]
    refine ⟨fun x hx => ?_, ?_⟩
    · simp only [tab, List.mem_map] at hx
      obtain ⟨j, _, rfl⟩ := hx
      rw [hRi]; exact rowV_flat
    · exact tab_congr fun j _ => by rw [hRi]
/-- One behind the other: by way of which places. -/
def jo (f g : Nat → Nat → Bool) (i m c : Nat) : Bool := (List.range m).any fun x => decide (x ≤ c) && (f i x && g x c)
theorem jo_succ {f g : Nat → Nat → Bool} {i m c : Nat} : jo f g i (m + 1) c = (jo f g i m c || (decide (m ≤ c) && (f i m && g m c))) := by
  simp only [jo, List.range_succ, List.any_append]
  simp
def mixd (k : Nat) (F G : Nat → Bool) (c : Nat) : Bool := if c < k then F c else G c
theorem mixd_at {k : Nat} {F G : Nat → Bool} : mixd k F G k = G k := by simp [mixd]
theorem mixd_all {n : Nat} {F G : Nat → Bool} : rowV n (mixd n F G) = rowV n F := rowV_congr fun c hc => by rw [mixd, if_pos hc]
theorem mixd_eq {n k : Nat} {F G : Nat → Bool} (h : ∀ c, c < k → F c = G c) : rowV n (mixd k F G) = rowV n G := rowV_congr fun c hc => by
  unfold mixd
  split
  · exact h c (by assumption)
  · rfl
theorem mixd_step {n k : Nat} {F G : Nat → Bool} {b : Bool} (h : b = F k) : rowV n (sub k b (mixd k F G)) = rowV n (mixd (k + 1) F G) := rowV_congr fun c hc => by
  simp only [mixd, sub]
  by_cases h1 : c = k
  · subst h1; rw [if_pos rfl, if_pos (by omega), h]
  · rw [if_neg h1]
    by_cases h2 : c < k
    · rw [if_pos h2, if_pos (by omega)]
    · rw [if_neg h2, if_neg (by omega)]
theorem f_ref09_joined (n : Nat) (f g : Nat → Nat → Bool) (hn : n ≤ 100000) : FnN Tryz.prog n_ref09_joined [matV n f, matV n g] (matV n fun i k => jo f g i n k) := by
  refine FnN.of_image mixed h_ref09_joined i_ref09_joined rfl fun ho => ?_
  unfold c_ref09_joined
  clear ho
  simp only [matV]
  simp (disch := omega) []
  generalize hR : (fun i => rowV n fun k => jo f g i n k) = R
  have hRi : ∀ i, R i = rowV n fun k => jo f g i n k := fun i => by rw [← hR]
  rw [half_rep (R := R)]
  refine W_loop (fun i : Nat => ⟨[(0, .seq 1 (tab n fun i => .seq 1 (rowV n (f i)))), (1, .seq 1 (tab n fun i => .seq 1 (rowV n (g i)))), (5, .ref 0 n), (6, .int .i64 i)],
    [some (.mat ty_Ibool ty_bool 1 (sm (half n i R)))]⟩) (fun i => i ≤ n) (fun i => n - i) [] _ 0 rfl (by simp) (by simp) ?_
  rintro i hi N hN
  rcases Nat.lt_or_ge i n with hlt | hge
  · simp (disch := omega) []
    have e0 : rowV n (fun _ => false) = rowV n (jo f g i 0) := rowV_congr fun c _ => rfl
    rw [e0]
    refine W_loop (fun m : Nat => ⟨[(0, .seq 1 (tab n fun i => .seq 1 (rowV n (f i)))), (1, .seq 1 (tab n fun i => .seq 1 (rowV n (g i)))), (5, .ref 0 n), (6, .int .i64 i), (7, .int .i64 m)],
      [some (.mat ty_Ibool ty_bool 1 (sm (step1 n i R (rowV n (jo f g i m)))))]⟩) (fun m => m ≤ n) (fun m => n - m) [] _ 0 rfl (by simp) (by simp) ?_
    rintro m hm M hM
    rcases Nat.lt_or_ge m n with hlt2 | hge2
    · simp (disch := omega) []
      have e1 : rowV n (jo f g i m) = rowV n (mixd m (jo f g i (m + 1)) (jo f g i m)) := (mixd_eq fun c hc => by rw [jo_succ]; simp; omega).symm
      rw [e1]
      refine W_loop (fun k : Nat => ⟨[(0, .seq 1 (tab n fun i => .seq 1 (rowV n (f i)))), (1, .seq 1 (tab n fun i => .seq 1 (rowV n (g i)))), (5, .ref 0 n), (6, .int .i64 i), (7, .int .i64 m), (8, .int .i64 k)],
        [some (.mat ty_Ibool ty_bool 1 (sm (step1 n i R (rowV n (mixd k (jo f g i (m + 1)) (jo f g i m))))))]⟩) (fun k => m ≤ k ∧ k ≤ n ∧ (f i m = false → k = m)) (fun k => n - k) [] _ m rfl (by simp) (by simp; omega) ?_
      rintro k ⟨hk, hk2, hkf⟩ L hL
      have last : rowV n (mixd k (jo f g i (m + 1)) (jo f g i m)) = rowV n (jo f g i (m + 1)) → ∀ τ : St, τ.nrm [0, 1, 5, 6, 7] = ⟨[(0, .seq 1 (tab n fun i => .seq 1 (rowV n (f i)))), (1, .seq 1 (tab n fun i => .seq 1 (rowV n (g i)))), (5, .ref 0 n), (6, .int .i64 i), (7, .int .i64 ((m + 1 : Nat) : Int))],
          [some (.mat ty_Ibool ty_bool 1 (sm (step1 n i R (rowV n (mixd k (jo f g i (m + 1)) (jo f g i m))))))]⟩ → M τ := fun h τ hτ => by
        rw [h] at hτ
        exact hM.out _ <| Nx.mk (m + 1) hτ (by omega) (by omega)
      cases hf : f i m with
      | false =>
        have hkm := hkf hf
        subst hkm
        replace last := last (by rw [mixd_eq fun c hc => by rw [jo_succ]; simp; omega]; exact rowV_congr fun c _ => by rw [jo_succ, hf]; simp)
        simp (disch := omega) [hf]
        exact last _ (by simp)
      | true =>
        rcases Nat.lt_or_ge k n with hlt3 | hge3
        · simp (disch := omega) [hf, mixd_at]
          refine BrK.mk (fun h => ?_) (fun h => ?_)
          all_goals
            simp (disch := omega) [h]
            rw [mixd_step (by rw [jo_succ, h, hf]; simp [hk])]
            exact hL.out _ <| Nx.mk (k + 1) (by simp) ⟨by omega, by omega, fun h => by rw [hf] at h; cases h⟩ (by omega)
        · have : k = n := by omega
          subst this
          replace last := last mixd_all
          simp (disch := omega) [hf]
          exact last _ (by simp)
    · have : m = n := by omega
      subst this
      simp (disch := omega) []
      rw [← hRi, step1_half]
      exact hN.out _ <| Nx.mk (i + 1) (by simp) (by omega) (by omega)
  · have : i = n := by omega
    subst this
    simp (disch := omega) [half_all]
    refine ⟨fun x hx => ?_, ?_⟩
    · simp only [tab, List.mem_map] at hx
      obtain ⟨j, _, rfl⟩ := hx
      rw [hRi]; exact rowV_flat
    · exact tab_congr fun j _ => by rw [hRi]
end Go.Abs
