/-
  What ref11.Apart tells: which states tell words apart. No condition.
  ref10.Same, ref11.Equal: rows and automata that are the same. No condition.
  ref11.Join, ref11.Within: two automata side by side. No condition.
  What meets pairs of states answers. No condition.
  Two automata read side by side: the closures of a search. No condition.
  The least word that two automata, read side by side, are searched for. No condition.
  search, Same, Common, Within of package dfa; DfaOne's function answers true. No condition.
  A walk through pairs of states. No condition.
  ref11.Form: the form that the language alone determines. No condition.
  And, Common of package dfa. No condition.
  DfaAnds' function answers true. No condition.
  dfa.Not. No condition.
  DfaForms' function answers true. No condition.
  DfaTwice's function answers true. No condition.
-/
import Derived.Test.YtpblinccnkidfaaDoorD27
set_option linter.unusedVariables false
set_option linter.unusedSimpArgs false
set_option linter.unusedSectionVars false
set_option maxHeartbeats 1000000
set_option maxRecDepth 100000
namespace Go.Abs
open Go.Proofs Go.Aut
attribute [-simp] getElem?_pos Option.not_isSome
/-- A list by its places. -/
def tab {α : Type} (n : Nat) (F : Nat → α) : List α := (List.range n).map F
section
variable {α β : Type} {n i : Nat} {F G : Nat → α}
theorem tab_len : (tab n F).length = n := by simp [tab]
theorem tab_get (h : i < n) : (tab n F)[i]? = some (F i) := by simp only [tab, List.getElem?_map, List.getElem?_range h, Option.map_some]
theorem tab_ge (h : n ≤ i) : (tab n F)[i]? = none := by rw [List.getElem?_eq_none]; rw [tab_len]; exact h
theorem tab_set {x : α} : (tab n F).set i x = tab n (fun j => if j = i then x else F j) := by
  apply List.ext_getElem?
  intro j
  rw [List.getElem?_set, tab_len]
  by_cases h : j < n
  · rw [tab_get h, tab_get h]
    by_cases hj : i = j
    · subst hj; simp [h]
    · rw [if_neg hj, if_neg (fun e => hj e.symm)]
  · rw [tab_ge (by omega), tab_ge (by omega)]
    split <;> simp_all
theorem tab_congr (h : ∀ i, i < n → F i = G i) : tab n F = tab n G := by
  unfold tab
  exact List.map_congr_left fun i hi => h i (by simpa using hi)
theorem tab_rep {x : α} : List.replicate n x = tab n (fun _ => x) := by rw [tab, List.map_const', List.length_range]
theorem tab_map {g : α → β} : (tab n F).map g = tab n (fun i => g (F i)) := by simp [tab]
theorem tab_all {p : α → Bool} : (tab n F).all p = (List.range n).all (fun i => p (F i)) := by simp [tab, List.all_map]; rfl
end
attribute [simp] tab_len tab_get tab_set tab_map
/-- A table. -/
def rowV (n : Nat) (f : Nat → Bool) : List V := tab n fun k => .bool (f k)
def matV (n : Nat) (f : Nat → Nat → Bool) : V := .seq 1 (tab n fun i => .seq 1 (rowV n (f i)))
theorem rowV_get {n k : Nat} {f : Nat → Bool} (h : k < n) : (rowV n f)[k]? = some (.bool (f k)) := by simp [rowV, h]
theorem rowV_len {n : Nat} {f : Nat → Bool} : (rowV n f).length = n := by simp [rowV]
def sub (k : Nat) (b : Bool) (f : Nat → Bool) (j : Nat) : Bool := if j = k then b else f j
theorem rowV_set {n k : Nat} {f : Nat → Bool} {b : Bool} : (rowV n f).set k (.bool b) = rowV n (sub k b f) := by
  simp only [rowV, tab_set]
  exact tab_congr fun j _ => by unfold sub; split <;> rfl
theorem rowV_rep {n : Nat} : List.replicate n (V.bool false) = rowV n (fun _ => false) := by simp [rowV, tab_rep]
theorem rowV_congr {n : Nat} {f g : Nat → Bool} (h : ∀ k, k < n → f k = g k) : rowV n f = rowV n g := tab_congr fun k hk => by rw [h k hk]
theorem rowV_flat {n : Nat} {f : Nat → Bool} : flats (rowV n f) = true := by
  unfold rowV tab
  induction List.range n with
  | nil => rfl
  | cons x l ih => simp [flats, flat, ih]
attribute [simp] rowV_get rowV_len rowV_set rowV_rep rowV_flat
/-- A table under way: 'i' rows are whole. -/
def half (n i : Nat) (R : Nat → List V) : List (List V) := tab n fun j => if j < i then R j else []
def step1 (n i : Nat) (R : Nat → List V) (r : List V) : List (List V) := tab n fun j => if j = i then r else if j < i then R j else []
theorem half_len {n i : Nat} {R : Nat → List V} : (half n i R).length = n := by simp [half]
theorem step1_len {n i : Nat} {R : Nat → List V} {r : List V} : (step1 n i R r).length = n := by simp [step1]
theorem half_get {n i : Nat} {R : Nat → List V} (h : i < n) : (half n i R)[i]? = some [] := by simp [half, h]
theorem step1_get {n i : Nat} {R : Nat → List V} {r : List V} (h : i < n) : (step1 n i R r)[i]? = some r := by simp [step1, h]
theorem half_set {n i : Nat} {R : Nat → List V} {r : List V} : (half n i R).set i r = step1 n i R r := by simp [half, step1]
theorem step1_set {n i : Nat} {R : Nat → List V} {r s : List V} : (step1 n i R r).set i s = step1 n i R s := by
  simp only [step1, tab_set]
  exact tab_congr fun j _ => by by_cases h : j = i <;> simp [h]
theorem step1_half {n i : Nat} {R : Nat → List V} : step1 n i R (R i) = half n (i + 1) R := by
  refine tab_congr fun j _ => ?_
  by_cases h : j = i
  · subst h; simp
  · simp only [if_neg h]
    by_cases h' : j < i
    · rw [if_pos h', if_pos (by omega)]
    · rw [if_neg h', if_neg (by omega)]
theorem half_rep {n : Nat} {R : Nat → List V} : List.replicate n ([] : List V) = half n 0 R := by simp [half, tab_rep]
theorem half_all {n : Nat} {R : Nat → List V} : half n n R = tab n R := tab_congr fun j h => by rw [if_pos h]
attribute [simp] half_len step1_len half_get step1_get half_set step1_set
/-- A row under way. -/
def upto (k : Nat) (F : Nat → Bool) (c : Nat) : Bool := if c < k then F c else false
theorem upto_all {n : Nat} {F : Nat → Bool} : rowV n (upto n F) = rowV n F := rowV_congr fun c hc => by rw [upto, if_pos hc]
theorem upto_none {n : Nat} {F : Nat → Bool} : rowV n (fun _ => false) = rowV n (upto 0 F) := rowV_congr fun c hc => by rw [upto, if_neg (by omega)]
theorem upto_step {n k : Nat} {F : Nat → Bool} {b : Bool} (h : b = F k) : rowV n (sub k b (upto k F)) = rowV n (upto (k + 1) F) := rowV_congr fun c hc => by
  simp only [upto, sub]
  by_cases h1 : c = k
  · subst h1; rw [if_pos rfl, if_pos (by omega), h]
  · rw [if_neg h1]
    by_cases h2 : c < k
    · rw [if_pos h2, if_pos (by omega)]
    · rw [if_neg h2, if_neg (by omega)]
/-- How many pairs are not told apart. -/
def cntF (n : Nat) (f : Nat → Nat → Bool) : Nat := ((List.range n).map fun i => (List.range n).countP fun j => !f i j).sum
def set2 (f : Nat → Nat → Bool) (i j : Nat) (x y : Nat) : Bool := if x = i ∧ y = j then true else f x y
theorem sum_lt {α : Type} {g h : α → Nat} : ∀ {l : List α} {x : α}, (∀ y ∈ l, h y ≤ g y) → x ∈ l → h x < g x → (l.map h).sum < (l.map g).sum
  | [], _, _, hx, _ => by simp at hx
  | y :: l, x, hle, hx, hlt => by
    have h0 := hle y (by simp)
    have h1 : (l.map h).sum ≤ (l.map g).sum := by
      clear hx hlt
      induction l with
      | nil => simp
      | cons z l ih =>
        have := ih (fun y hy => by
          rcases List.mem_cons.1 hy with rfl | hy
          · exact hle _ (by simp)
          · exact hle _ (by simp [hy]))
        have := hle z (by simp)
        simp only [List.map_cons, List.sum_cons]; omega
    simp only [List.map_cons, List.sum_cons]
    rcases List.mem_cons.1 hx with rfl | hx
    · omega
    · have := sum_lt (l := l) (fun y hy => hle y (by simp [hy])) hx hlt
      omega
theorem count_lt {p q : Nat → Bool} : ∀ {l : List Nat} {x : Nat}, (∀ y ∈ l, q y = true → p y = true) → x ∈ l → p x = true → q x = false → l.countP q < l.countP p
  | [], _, _, hx, _, _ => by simp at hx
  | y :: l, x, hle, hx, hp, hq => by
    have h1 : l.countP q ≤ l.countP p := List.countP_mono_left fun z hz h => hle z (by simp [hz]) h
    rw [List.countP_cons, List.countP_cons]
    rcases List.mem_cons.1 hx with rfl | hx
    · simp only [hp, hq, if_true]; simp; omega
    · have := count_lt (l := l) (fun z hz h => hle z (by simp [hz]) h) hx hp hq
      have h2 := hle y (by simp)
      cases hqy : q y with
      | true => simp only [h2 hqy, if_true]; omega
      | false => simp only [Bool.false_eq_true, if_false]; omega
theorem cntF_set2 {n i j : Nat} {f : Nat → Nat → Bool} (hi : i < n) (hj : j < n) (h : f i j = false) : cntF n (set2 f i j) < cntF n f := by
  refine sum_lt (x := i) (fun y _ => List.countP_mono_left fun z _ hz => ?_) (by simpa using hi) (count_lt (x := j) (fun z _ hz => ?_) (by simpa using hj) (by simp [h]) (by simp [set2]))
  all_goals
    simp only [set2] at hz
    split at hz
    · cases hz
    · exact hz
theorem rows_set2 {n i j : Nat} {f : Nat → Nat → Bool} (hi : i < n) : (tab n fun x => rowV n (f x)).set i (rowV n (sub j true (f i))) = tab n fun x => rowV n (set2 f i j x) := by
  rw [tab_set]
  refine tab_congr fun x hx => ?_
  by_cases h : x = i
  · subst h
    rw [if_pos rfl]
    exact rowV_congr fun k hk => by simp [sub, set2]
  · rw [if_neg h]
    exact rowV_congr fun k hk => by simp [set2, h]
/-- Pairs that are told apart so far. -/
structure AInv (a : Aut) (f : Nat → Nat → Bool) : Prop where
  sound : ∀ i j, i < a.n → j < a.n → f i j = true → a.L i ≠ a.L j
  base : ∀ i j, i < a.n → j < a.n → f i j = false → a.F i = a.F j
def ADone (a : Aut) (f : Nat → Nat → Bool) (i j c : Nat) : Prop := ∀ i' j' c', i' < a.n → j' < a.n → c' < 95 → (i' < i ∨ (i' = i ∧ (j' < j ∨ (j' = j ∧ c' < c)))) → f i' j' = false → f (a.δ i' c') (a.δ j' c') = false
theorem ADone.start {a : Aut} {f : Nat → Nat → Bool} : ADone a f 0 0 0 := fun i' j' c' _ _ _ h => by omega
theorem ADone.row {a : Aut} {f : Nat → Nat → Bool} {i : Nat} (h : ADone a f i a.n 0) : ADone a f (i + 1) 0 0 := fun i' j' c' h1 h2 h3 h4 => h i' j' c' h1 h2 h3 (by omega)
theorem ADone.pair {a : Aut} {f : Nat → Nat → Bool} {i j : Nat} (h : ADone a f i j 95) : ADone a f i (j + 1) 0 := fun i' j' c' h1 h2 h3 h4 => h i' j' c' h1 h2 h3 (by omega)
theorem ADone.hit {a : Aut} {f : Nat → Nat → Bool} {i j c : Nat} (h : ADone a f i j c) (hf : f i j = true) : ADone a f i (j + 1) 0 := fun i' j' c' h1 h2 h3 h4 h5 => by
  by_cases e : i' = i ∧ j' = j
  · rw [e.1, e.2, hf] at h5; cases h5
  · exact h i' j' c' h1 h2 h3 (by omega) h5
theorem ADone.sign {a : Aut} {f : Nat → Nat → Bool} {i j c : Nat} (h : ADone a f i j c) (hf : f i j = false → f (a.δ i c) (a.δ j c) = false) : ADone a f i j (c + 1) := fun i' j' c' h1 h2 h3 h4 h5 => by
  by_cases e : i' = i ∧ j' = j ∧ c' = c
  · obtain ⟨rfl, rfl, rfl⟩ := e
    exact hf h5
  · exact h i' j' c' h1 h2 h3 (by omega) h5
theorem L_step {a : Aut} {q c : Nat} (hc : c < 95) (w : List Nat) : a.L q (c :: w) = a.L (a.δ q c) w := by
  show lstep (langL a.δ a.F q) c w = _
  rw [lstep_lang hc]; rfl
theorem AInv.set2 {a : Aut} (ha : a.ok) {f : Nat → Nat → Bool} (h : AInv a f) {i j c : Nat} (hi : i < a.n) (hj : j < a.n) (hc : c < 95) (hf : f (a.δ i c) (a.δ j c) = true) : AInv a (Go.Abs.set2 f i j) := by
  refine ⟨fun x y hx hy hxy e => ?_, fun x y hx hy hxy => ?_⟩
  · simp only [Go.Abs.set2] at hxy
    split at hxy
    · rename_i h1
      obtain ⟨rfl, rfl⟩ := h1
      refine h.sound _ _ (ha.lt hi hc) (ha.lt hj hc) hf ?_
      funext w
      rw [← L_step hc, ← L_step hc, e]
    · exact h.sound x y hx hy hxy e
  · simp only [Go.Abs.set2] at hxy
    split at hxy
    · cases hxy
    · exact h.base x y hx hy hxy
theorem ADone.all {a : Aut} (ha : a.ok) {f : Nat → Nat → Bool} (h : AInv a f) (hd : ADone a f a.n 0 0) : ∀ i j, i < a.n → j < a.n → (f i j = false ↔ a.L i = a.L j) := by
  intro i j hi hj
  constructor
  · intro hf
    refine lang_ext (signsL_lang _ _ _) (signsL_lang _ _ _) fun w => ?_
    induction w generalizing i j with
    | nil => intro _; exact h.base i j hi hj hf
    | cons c w ih =>
      intro hw
      have hc := hw c (by simp)
      show a.L i (c :: w) = a.L j (c :: w)
      rw [L_step hc, L_step hc]
      exact ih _ _ (ha.lt hi hc) (ha.lt hj hc) (hd i j c hi hj hc (.inl hi) hf) fun d hd => hw d (by simp [hd])
  · intro e
    cases hf : f i j with
    | false => rfl
    | true => exact absurd e (h.sound i j hi hj hf)
theorem f_ref11_Apart {a : Aut} (ha : a.ok) (hn : a.n ≤ 500) (g : Nat → Nat → Bool) (hg : ∀ i j, i < a.n → j < a.n → (g i j = false ↔ a.L i = a.L j)) : FnN Tryd.prog n_ref11_Apart [.strct (Aut.c a)] (matV a.n g) := by
  refine FnN.of_image mixed h_ref11_Apart i_ref11_Apart rfl fun ho => ?_
  unfold c_ref11_Apart
  clear ho
  have hnl : a.next.length = a.n := rfl
  have hfl : a.final.length = a.n := ha.fin
  have fin1 : ∀ f, AInv a f → ADone a f a.n 0 0 → (tab a.n fun i => rowV a.n (f i)) = tab a.n fun i => rowV a.n (g i) := fun f h1 h2 => by
    have := ADone.all ha h1 h2
    refine tab_congr fun i hi => rowV_congr fun j hj => ?_
    have e1 := this i j hi hj
    have e2 := hg i j hi hj
    rw [← e1] at e2
    cases hf : f i j <;> cases hgg : g i j <;> simp_all
  replace fin1 := hid fin1
  simp (disch := omega) [-List.reduceReplicate, Aut.c, hnl]
  generalize hR : (fun i => rowV a.n fun k => a.F i != a.F k) = R
  have hRi : ∀ i, R i = rowV a.n fun k => a.F i != a.F k := fun i => by rw [← hR]
  rw [half_rep (R := R)]
  refine W_loop (fun i : Nat => ⟨[(1, .ptr 0 0), (3, nV a.n), (4, .ref 1 a.n), (5, nV i)], [some (.box (Aut.c a)), some (.mat ty_Ibool ty_bool 1 (sm (half a.n i R)))]⟩) (fun i => i ≤ a.n) (fun i => a.n - i) [] _ 0 rfl (by simp [Aut.c]) (by simp) ?_
  rintro i hi N hN
  rcases Nat.lt_or_ge i a.n with hlt | hge
  · obtain ⟨fi, hfi⟩ := get_lt (l := a.final) (k := i) (by omega)
    have hFi : a.F i = fi := by simp [Aut.F, fin, hfi]
    simp (disch := omega) [-List.reduceReplicate, Aut.c]
    rw [upto_none (F := fun c => a.F i != a.F c)]
    refine W_loop (fun k : Nat => ⟨[(1, .ptr 0 0), (3, nV a.n), (4, .ref 1 a.n), (5, nV i), (6, nV k)], [some (.box (Aut.c a)), some (.mat ty_Ibool ty_bool 1 (sm (step1 a.n i R (rowV a.n (upto k fun c => a.F i != a.F c)))))]⟩) (fun k => k ≤ a.n) (fun k => a.n - k) [] _ 0 rfl (by simp [Aut.c]) (by simp) ?_
    rintro k hk M hM
    rcases Nat.lt_or_ge k a.n with hlt2 | hge2
    · obtain ⟨fk, hfk⟩ := get_lt (l := a.final) (k := k) (by omega)
      have hFk : a.F k = fk := by simp [Aut.F, fin, hfk]
      simp (disch := omega) [-List.reduceReplicate, Aut.c, hfi, hfk]
      rw [upto_step (by rw [hFi, hFk]; rfl)]
      exact hM.out _ <| Nx.mk (k + 1) (by simp [Aut.c]) (by omega) (by omega)
    · have : k = a.n := by omega
      subst this
      simp (disch := omega) [-List.reduceReplicate, Aut.c]
      rw [upto_all, ← hRi, step1_half]
      exact hN.out _ <| Nx.mk (i + 1) (by simp [Aut.c]) (by omega) (by omega)
  · have : i = a.n := by omega
    subst this
    obtain ⟨f0, hf0⟩ : ∃ f0 : Nat → Nat → Bool, f0 = fun i k => a.F i != a.F k := ⟨_, rfl⟩
    have hR' : tab a.n R = tab a.n fun i => rowV a.n (f0 i) := by rw [← hR, hf0]
    have h0 : AInv a f0 := by
      subst hf0
      refine ⟨fun x y _ _ h e => ?_, fun x y _ _ h => by simpa using h⟩
      have : a.F x = a.F y := congrFun e []
      simp [this] at h
    clear hf0 hR hRi
    simp (disch := omega) [-List.reduceReplicate, Aut.c, half_all]
    refine W_loop (fun (x : (Nat → Nat → Bool) × Bool) => ⟨[(1, .ptr 0 0), (3, nV a.n), (4, .ref 1 a.n), (7, .bool x.2)], [some (.box (Aut.c a)), some (.mat ty_Ibool ty_bool 1 (sm (tab a.n fun i => rowV a.n (x.1 i))))]⟩) (fun x => AInv a x.1 ∧ (x.2 = false → ADone a x.1 a.n 0 0)) (fun x => 2 * cntF a.n x.1 + (if x.2 = true then 1 else 0)) [] _ (f0, true) rfl (by simp [Aut.c, hR']) ⟨h0, by simp⟩ ?_
    rintro ⟨f, ch⟩ ⟨hI, hcl⟩ M hM
    simp only at hI hcl
    cases ch with
    | false =>
      simp (disch := omega) [-List.reduceReplicate, Aut.c]
      refine ⟨fun x hx => ?_, ?_⟩
      · simp only [tab, List.mem_map] at hx
        obtain ⟨j, _, rfl⟩ := hx
        exact rowV_flat
      · have := congrArg (List.map fun r => V.seq 1 r) (fin1.out f hI (hcl rfl))
        simp only [tab_map] at this
        rw [matV, ← this]
    | true =>
      simp (disch := omega) [-List.reduceReplicate, Aut.c]
      refine W_loop (fun (x : Nat × (Nat → Nat → Bool) × Bool) => ⟨[(1, .ptr 0 0), (3, nV a.n), (4, .ref 1 a.n), (7, .bool x.2.2), (8, nV x.1)], [some (.box (Aut.c a)), some (.mat ty_Ibool ty_bool 1 (sm (tab a.n fun i => rowV a.n (x.2.1 i))))]⟩) (fun x => x.1 ≤ a.n ∧ AInv a x.2.1 ∧ (x.2.2 = false → ADone a x.2.1 x.1 0 0) ∧ cntF a.n x.2.1 ≤ cntF a.n f ∧ (x.2.2 = true → cntF a.n x.2.1 < cntF a.n f)) (fun x => a.n - x.1) [] _ (0, f, false) rfl (by simp [Aut.c]) ⟨by simp, hI, fun _ => ADone.start, by simp, by simp⟩ ?_
      rintro ⟨i, f1, ch1⟩ ⟨hi, hI1, hd1, hc1, hl1⟩ Q hQ
      simp only at hi hI1 hd1 hc1 hl1
      rcases Nat.lt_or_ge i a.n with hin | hin
      · simp (disch := omega) [-List.reduceReplicate, Aut.c]
        refine W_loop (fun (x : Nat × (Nat → Nat → Bool) × Bool) => ⟨[(1, .ptr 0 0), (3, nV a.n), (4, .ref 1 a.n), (7, .bool x.2.2), (8, nV i), (9, nV x.1)], [some (.box (Aut.c a)), some (.mat ty_Ibool ty_bool 1 (sm (tab a.n fun i => rowV a.n (x.2.1 i))))]⟩) (fun x => x.1 ≤ a.n ∧ AInv a x.2.1 ∧ (x.2.2 = false → ADone a x.2.1 i x.1 0) ∧ cntF a.n x.2.1 ≤ cntF a.n f ∧ (x.2.2 = true → cntF a.n x.2.1 < cntF a.n f)) (fun x => a.n - x.1) [] _ (0, f1, ch1) rfl (by simp [Aut.c]) ⟨by simp, hI1, hd1, hc1, hl1⟩ ?_
        rintro ⟨j, f2, ch2⟩ ⟨hj, hI2, hd2, hc2, hl2⟩ O hO
        simp only at hj hI2 hd2 hc2 hl2
        rcases Nat.lt_or_ge j a.n with hjn | hjn
        · simp (disch := omega) [-List.reduceReplicate, Aut.c]
          refine W_loop (fun (x : Nat × (Nat → Nat → Bool) × Bool) => ⟨[(1, .ptr 0 0), (3, nV a.n), (4, .ref 1 a.n), (7, .bool x.2.2), (8, nV i), (9, nV j), (10, nV x.1)], [some (.box (Aut.c a)), some (.mat ty_Ibool ty_bool 1 (sm (tab a.n fun i => rowV a.n (x.2.1 i))))]⟩) (fun x => x.1 ≤ 95 ∧ AInv a x.2.1 ∧ (x.2.2 = false → ADone a x.2.1 i j x.1) ∧ cntF a.n x.2.1 ≤ cntF a.n f ∧ (x.2.2 = true → cntF a.n x.2.1 < cntF a.n f)) (fun x => 95 - x.1) [] _ (0, f2, ch2) rfl (by simp [Aut.c]) ⟨by simp, hI2, hd2, hc2, hl2⟩ ?_
          rintro ⟨c, f3, ch3⟩ ⟨hc, hI3, hd3, hc3, hl3⟩ L hL
          simp only at hc hI3 hd3 hc3 hl3
          rcases Nat.lt_or_ge c 95 with hc95 | hc95
          · cases hf : f3 i j with
            | true =>
              simp (disch := omega) [-List.reduceReplicate, Aut.c, hf]
              exact hO.out _ <| Nx.mk (j + 1, f3, ch3) (by simp [Aut.c]) ⟨by simp only; omega, hI3, fun h => (hd3 h).hit hf, hc3, hl3⟩ (by simp only; omega)
            | false =>
              obtain ⟨r1, t1, g1, g2, g3, g4⟩ := ha.rows.dl (q := i) (c := c) hin hc95
              obtain ⟨r2, t2, g5, g6, g7, g8⟩ := ha.rows.dl (q := j) (c := c) hjn hc95
              have hδ1 : a.δ i c = t1 := g3
              have hδ2 : a.δ j c = t2 := g7
              have ht1 : t1 < a.n := g4
              have ht2 : t2 < a.n := g8
              cases hf2 : f3 t1 t2 with
              | true =>
                have hset := hI3.set2 ha hin hjn hc95 (by rw [hδ1, hδ2]; exact hf2)
                have hcnt := cntF_set2 hin hjn hf
                simp (disch := omega) [-List.reduceReplicate, Aut.c, hf, g1, g2, g5, g6, hf2]
                have hrs := rows_set2 (j := j) (f := f3) hin
                rw [tab_set] at hrs
                rw [hrs]
                exact hL.out _ <| Nx.mk (c + 1, set2 f3 i j, true) (by simp [Aut.c]) ⟨by simp only; omega, hset, by simp, by simp only; omega, fun _ => by simp only; omega⟩ (by simp only; omega)
              | false =>
                simp (disch := omega) [-List.reduceReplicate, Aut.c, hf, g1, g2, g5, g6, hf2]
                exact hL.out _ <| Nx.mk (c + 1, f3, ch3) (by simp [Aut.c]) ⟨by simp only; omega, hI3, fun h => (hd3 h).sign fun _ => by rw [hδ1, hδ2]; exact hf2, hc3, hl3⟩ (by simp only; omega)
          · have : c = 95 := by omega
            subst this
            simp (disch := omega) [-List.reduceReplicate, Aut.c]
            exact hO.out _ <| Nx.mk (j + 1, f3, ch3) (by simp [Aut.c]) ⟨by simp only; omega, hI3, fun h => (hd3 h).pair, hc3, hl3⟩ (by simp only; omega)
        · have : j = a.n := by omega
          subst this
          simp (disch := omega) [-List.reduceReplicate, Aut.c]
          exact hQ.out _ <| Nx.mk (i + 1, f2, ch2) (by simp [Aut.c]) ⟨by simp only; omega, hI2, fun h => (hd2 h).row, hc2, hl2⟩ (by simp only; omega)
      · have : i = a.n := by omega
        subst this
        simp (disch := omega) [-List.reduceReplicate, Aut.c]
        refine hM.out _ <| Nx.mk (f1, ch1) (by simp [Aut.c]) ⟨hI1, hd1⟩ ?_
        cases ch1 with
        | true => have := hl1 rfl; simp only [if_true]; omega
        | false => simp; omega
end Go.Abs
set_option linter.unusedVariables false
set_option linter.unusedSimpArgs false
set_option maxHeartbeats 1000000
set_option maxRecDepth 100000
namespace Go.Abs
open Go.Proofs Go.Aut
attribute [-simp] getElem?_pos Option.not_isSome List.map_map
theorem f_ref10_Same (x y : List Nat) (hx : x.length ≤ 100000) (hy : y.length ≤ 100000) : Fn Tryd.prog n_ref10_Same [rowN x, rowN y] (.bool (decide (x = y))) := by
  refine Fn.of_image mixed h_ref10_Same i_ref10_Same rfl fun ho => ?_
  unfold c_ref10_Same
  simp only [oks, ok, and_true] at ho
  clear ho
  obtain ⟨R, hR⟩ : ∃ R, R = decide (x = y) := ⟨_, rfl⟩
  rw [← hR]
  by_cases hl : x.length = y.length
  · have hl' : (x.length : Int) = (y.length : Int) := by omega
    simp (disch := omega) [-List.reduceReplicate, rowN, hl']
    refine W_loop (fun k : Nat => ⟨[(0, rowN x), (1, rowN y), (5, nV k)], []⟩) (fun k => k ≤ x.length ∧ decide (x.drop k = y.drop k) = R) (fun k => x.length - k) [] _ 0 rfl (by simp [rowN]) ⟨by simp, by simp [hR]⟩ ?_
    rintro k ⟨hk, hi⟩ N hN
    rcases Nat.lt_or_ge k x.length with hlt | hge
    · obtain ⟨u, hu⟩ := get_lt (l := x) (k := k) hlt
      obtain ⟨v, hv⟩ := get_lt (l := y) (k := k) (by omega)
      rw [drop_cons hu, drop_cons hv] at hi
      by_cases huv : u = v
      · have huv' : (u : Int) = (v : Int) := by omega
        simp only [huv, List.cons.injEq, true_and] at hi
        simp (disch := omega) [-List.reduceReplicate, rowN, hu, hv, huv']
        exact hN.out _ <| Nx.mk (k + 1) (by simp [rowN]) ⟨by omega, hi⟩ (by omega)
      · have huv' : ¬(u : Int) = (v : Int) := by omega
        simp only [huv, List.cons.injEq, false_and, decide_false] at hi
        simp (disch := omega) [-List.reduceReplicate, rowN, hu, hv, huv']
        exact hi.symm
    · have h1 : x.drop k = [] := List.drop_eq_nil_of_le (by omega)
      have h2 : y.drop k = [] := List.drop_eq_nil_of_le (by omega)
      simp only [h1, h2, decide_true] at hi
      have hl2 : (y.length : Int) ≤ (k : Int) := by omega
      simp (disch := omega) [-List.reduceReplicate, rowN]
      exact hi.symm
  · have hl' : ¬(x.length : Int) = (y.length : Int) := by omega
    have : R = false := by rw [hR, decide_eq_false_iff_not]; rintro rfl; exact hl rfl
    simp (disch := omega) [-List.reduceReplicate, rowN, hl']
    rw [this]
theorem f_ref11_Equal {a b : Aut} (ha : a.ok) (hb : b.ok) (han : a.n ≤ 100000) (hbn : b.n ≤ 100000) (R : Bool) (hR : R = true ↔ a = b) : Fn Tryd.prog n_ref11_Equal [.strct (Aut.c a), .strct (Aut.c b)] (.bool R) := by
  refine Fn.of_image mixed h_ref11_Equal i_ref11_Equal rfl fun ho => ?_
  unfold c_ref11_Equal
  simp only [oks, ok, and_true] at ho
  clear ho
  have hnl : a.next.length = a.n := rfl
  have hfl : a.final.length = a.n := ha.fin
  have hnl2 : b.next.length = b.n := rfl
  have hfl2 : b.final.length = b.n := hb.fin
  have no : (¬a = b) → R = false := fun h => by
    cases R with
    | false => rfl
    | true => exact absurd (hR.1 rfl) h
  have yes : a = b → R = true := hR.2
  clear hR
  replace no := hid no
  replace yes := hid yes
  by_cases hl : a.n = b.n
  · have hl' : (a.n : Int) = (b.n : Int) := by omega
    simp (disch := omega) [-List.reduceReplicate, Aut.c, hnl, hnl2, hfl, hfl2, hl']
    refine W_loop (fun k : Nat => ⟨[(2, .ptr 0 0), (3, .ptr 1 0), (5, nV k)], [some (.box (Aut.c a)), some (.box (Aut.c b))]⟩) (fun k => k ≤ a.n ∧ a.next.take k = b.next.take k ∧ a.final.take k = b.final.take k) (fun k => a.n - k) [] _ 0 rfl (by simp [Aut.c]) ⟨by simp, by simp, by simp⟩ ?_
    rintro k ⟨hk, h1, h2⟩ N hN
    rcases Nat.lt_or_ge k a.n with hlt | hge
    · obtain ⟨u, hu⟩ := get_lt (l := a.next) (k := k) (by omega)
      obtain ⟨v, hv⟩ := get_lt (l := b.next) (k := k) (by omega)
      obtain ⟨f, hf⟩ := get_lt (l := a.final) (k := k) (by omega)
      obtain ⟨g, hg⟩ := get_lt (l := b.final) (k := k) (by omega)
      have hul : u.length = 95 := (ha.rows u (List.mem_of_getElem? hu)).1
      have hvl : v.length = 95 := (hb.rows v (List.mem_of_getElem? hv)).1
      have hsame := f_ref10_Same u v (by omega) (by omega)
      have e1 : a = b → u = v ∧ f = g := fun e => by
        subst e
        rw [hu] at hv; rw [hf] at hg
        exact ⟨Option.some.inj hv, Option.some.inj hg⟩
      by_cases huv : u = v
      · rw [decide_eq_true huv] at hsame
        by_cases hfg : f = g
        · simp (disch := omega) [-List.reduceReplicate, Aut.c, hu, hv, rowN]
          simp [rowN] at hsame
          refine wcallD_flat hsame rfl ?_
          simp (disch := omega) [-List.reduceReplicate, hf, hg, hfg]
          refine hN.out _ <| Nx.mk (k + 1) (by simp [Aut.c]) ⟨by omega, ?_, ?_⟩ (by omega)
          · rw [take_snoc hu, take_snoc hv, h1, huv]
          · rw [take_snoc hf, take_snoc hg, h2, hfg]
        · have hR := no.out fun e => hfg (e1 e).2
          have hfg' : (f == g) = false := by simp [hfg]
          simp (disch := omega) [-List.reduceReplicate, Aut.c, hu, hv, rowN]
          simp [rowN] at hsame
          refine wcallD_flat hsame rfl ?_
          simp (disch := omega) [-List.reduceReplicate, hf, hg, hfg']
          rw [hR]
      · rw [decide_eq_false huv] at hsame
        have hR := no.out fun e => huv (e1 e).1
        simp (disch := omega) [-List.reduceReplicate, Aut.c, hu, hv, rowN]
        simp [rowN] at hsame
        refine wcallD_flat hsame rfl ?_
        simp (disch := omega) [-List.reduceReplicate, hf, hg]
        rw [hR]
    · have hk2 : k = a.n := by omega
      have hR : R = true := yes.out (by
        rw [List.take_of_length_le (by omega), List.take_of_length_le (by omega)] at h1 h2
        cases a; cases b; simp_all)
      have hl2 : (b.n : Int) ≤ (k : Int) := by omega
      simp (disch := omega) [-List.reduceReplicate, Aut.c, hnl]
      rw [hR]
  · have hl' : ¬(a.n : Int) = (b.n : Int) := by omega
    have hR := no.out fun e => hl (by rw [e])
    simp (disch := omega) [-List.reduceReplicate, Aut.c, hnl, hnl2, hfl, hfl2, hl']
    rw [hR]
end Go.Abs
set_option linter.unusedVariables false
set_option linter.unusedSimpArgs false
set_option maxHeartbeats 4000000
set_option maxRecDepth 100000
namespace Go.Abs
open Go.Proofs Go.Aut
attribute [-simp] getElem?_pos Option.not_isSome List.map_map
def joinC (a b : Aut) (i j c : Nat) : Nat := a.δ i c * b.n + b.δ j c
def joinR (a b : Aut) (i j : Nat) : List Nat := (List.range 95).map (joinC a b i j)
def joinA (a b : Aut) (cm : Bool) : Aut := ⟨(List.range (a.n * b.n)).map fun k => joinR a b (k / b.n) (k % b.n), (List.range (a.n * b.n)).map fun k => a.F (k / b.n) && (b.F (k % b.n) != cm)⟩
theorem join_n {a b : Aut} {cm : Bool} : (joinA a b cm).n = a.n * b.n := by simp [joinA, Aut.n]
theorem join_lt {n m i j : Nat} (hi : i < n) (hj : j < m) : i * m + j < n * m := by
  have : (i + 1) * m ≤ n * m := Nat.mul_le_mul_right m hi
  rw [Nat.succ_mul] at this
  omega
theorem join_div {m i j : Nat} (hj : j < m) : (i * m + j) / m = i ∧ (i * m + j) % m = j := by
  rw [Nat.mul_comm i m, Nat.mul_add_div (by omega), Nat.div_eq_of_lt hj, Nat.mul_add_mod, Nat.mod_eq_of_lt hj]
  exact ⟨rfl, rfl⟩
theorem join_ok {a b : Aut} (ha : a.ok) (hb : b.ok) (cm : Bool) : (joinA a b cm).ok := by
  have hn := join_n (a := a) (b := b) (cm := cm)
  refine ⟨by rw [hn]; exact Nat.mul_pos ha.pos hb.pos, by rw [hn]; simp [joinA], fun r hr => ?_⟩
  simp only [joinA, List.mem_map, List.mem_range] at hr
  obtain ⟨k, hk, rfl⟩ := hr
  refine ⟨by simp [joinR], fun x hx => ?_⟩
  simp only [joinR, List.mem_map, List.mem_range] at hx
  obtain ⟨c, hc, rfl⟩ := hx
  rw [hn]
  have h1 : k / b.n < a.n := by rw [Nat.div_lt_iff_lt_mul hb.pos]; exact hk
  have h2 : k % b.n < b.n := Nat.mod_lt _ hb.pos
  exact join_lt (ha.lt h1 hc) (hb.lt h2 hc)
theorem join_δ {a b : Aut} {cm : Bool} {i j c : Nat} (hi : i < a.n) (hj : j < b.n) (hc : c < 95) : (joinA a b cm).δ (i * b.n + j) c = a.δ i c * b.n + b.δ j c := by
  have hk := join_lt hi hj
  obtain ⟨h1, h2⟩ := join_div (i := i) hj
  show dl (joinA a b cm).next _ c = _
  simp only [joinA, dl, List.getElem?_map, List.getElem?_range hk, Option.map_some, Option.getD_some, h1, h2, joinR, List.getElem?_range hc, joinC]
theorem join_F {a b : Aut} {cm : Bool} {i j : Nat} (hi : i < a.n) (hj : j < b.n) : (joinA a b cm).F (i * b.n + j) = (a.F i && (b.F j != cm)) := by
  have hk := join_lt hi hj
  obtain ⟨h1, h2⟩ := join_div (i := i) hj
  show fin (joinA a b cm).final _ = _
  simp only [joinA, fin, List.getElem?_map, List.getElem?_range hk, Option.map_some, Option.getD_some, h1, h2]
theorem join_run {a b : Aut} (ha : a.ok) (hb : b.ok) {cm : Bool} : ∀ (w : List Nat) (i j : Nat), i < a.n → j < b.n → (∀ c ∈ w, c < 95) → w.foldl (joinA a b cm).δ (i * b.n + j) = w.foldl a.δ i * b.n + w.foldl b.δ j
  | [], _, _, _, _, _ => rfl
  | c :: w, i, j, hi, hj, h => by
    have hc := h c (by simp)
    simp only [List.foldl_cons, join_δ hi hj hc]
    exact join_run ha hb w _ _ (ha.lt hi hc) (hb.lt hj hc) fun d hd => h d (by simp [hd])
theorem join_good {a b : Aut} (ha : a.ok) (hb : b.ok) {cm : Bool} (w : List Nat) (h : ∀ c ∈ w, c < 95) : (joinA a b cm).F (w.foldl (joinA a b cm).δ 0) = (a.F (w.foldl a.δ 0) && (b.F (w.foldl b.δ 0) != cm)) := by
  have := join_run ha hb (cm := cm) w 0 0 ha.pos hb.pos h
  simp only [Nat.zero_mul, Nat.zero_add] at this
  rw [this, join_F (walk_lt ha w ha.pos h) (walk_lt hb w hb.pos h)]
theorem f_ref11_Join {a b : Aut} (ha : a.ok) (hb : b.ok) (han : a.n ≤ 100) (hbn : b.n ≤ 100) (cm : Bool) : Fn Tryd.prog n_ref11_Join [.strct (Aut.c a), .strct (Aut.c b), .bool cm] (.strct (Aut.c (joinA a b cm))) := by
  refine Fn.of_image mixed h_ref11_Join i_ref11_Join rfl fun ho => ?_
  unfold c_ref11_Join
  simp only [oks, ok, and_true] at ho
  clear ho
  have hnl : a.next.length = a.n := rfl
  have hnl2 : b.next.length = b.n := rfl
  have hfl : a.final.length = a.n := ha.fin
  have hfl2 : b.final.length = b.n := hb.fin
  obtain ⟨R, hR⟩ : ∃ R, R = V.strct (Aut.c (joinA a b cm)) := ⟨_, rfl⟩
  rw [← hR]
  obtain ⟨rw', hrw⟩ : ∃ rw', rw' = (List.range (a.n * b.n)).map fun k => joinR a b (k / b.n) (k % b.n) := ⟨_, rfl⟩
  obtain ⟨fs, hfs⟩ : ∃ fs, fs = (List.range (a.n * b.n)).map fun k => a.F (k / b.n) && (b.F (k % b.n) != cm) := ⟨_, rfl⟩
  have hA : joinA a b cm = ⟨rw', fs⟩ := by rw [hrw, hfs]; rfl
  have hab : a.n * b.n ≤ 10000 := Nat.le_trans (Nat.mul_le_mul han hbn) (by decide)
  have hrwl : rw'.length = a.n * b.n := by simp [hrw]
  have hfsl : fs.length = a.n * b.n := by simp [hfs]
  have hrg : ∀ i j, i < a.n → j < b.n → rw'[i * b.n + j]? = some (joinR a b i j) ∧ fs[i * b.n + j]? = some (a.F i && (b.F j != cm)) := fun i j hi hj => by
    have hk := join_lt hi hj
    obtain ⟨h1, h2⟩ := join_div (i := i) hj
    rw [hrw, hfs]
    simp only [List.getElem?_map, List.getElem?_range hk, Option.map_some, h1, h2]
    exact ⟨trivial, trivial⟩
  clear hrw hfs
  simp (disch := omega) [-List.reduceReplicate, Aut.c, hnl2]
  refine W_loop (fun (x : Nat × Nat) => ⟨[(2, .bool cm), (3, .ptr 0 0), (4, .ptr 1 0), (6, .ptr 2 0), (7, .ptr 3 0), (8, nV b.n), (9, nV x.1)], [some (.box (Aut.c a)), some (.box (Aut.c b)), some (.box [.nil 1, .nil 1]), some (.box [.ref 4 x.2, .ref 5 x.2]), some (.arr ty_Iint 1 ((rw'.take x.2).map rowN)), some (.arr ty_bool 1 ((fs.take x.2).map V.bool))]⟩)
    (fun x => x.1 ≤ a.n ∧ x.2 = x.1 * b.n ∧ x.2 ≤ a.n * b.n) (fun x => a.n - x.1) [.b 3 0 ty_Iint 1, .b 3 1 ty_bool 1] _ (0, 0) rfl (by simp [Aut.c]) (by simp) ?_
  rintro ⟨i, k⟩ ⟨hi, hk, hkl⟩ N hN
  simp only at hi hk hkl
  rcases Nat.lt_or_ge i a.n with hin | hin
  · simp (disch := omega) [-List.reduceReplicate, Aut.c]
    refine W_loop (fun (x : Nat × Nat) => ⟨[(2, .bool cm), (3, .ptr 0 0), (4, .ptr 1 0), (6, .ptr 2 0), (7, .ptr 3 0), (8, nV b.n), (9, nV i), (10, nV x.1)], [some (.box (Aut.c a)), some (.box (Aut.c b)), some (.box [.nil 1, .nil 1]), some (.box [.ref 4 x.2, .ref 5 x.2]), some (.arr ty_Iint 1 ((rw'.take x.2).map rowN)), some (.arr ty_bool 1 ((fs.take x.2).map V.bool))]⟩)
      (fun x => x.1 ≤ b.n ∧ x.2 = i * b.n + x.1 ∧ x.2 ≤ a.n * b.n) (fun x => b.n - x.1) [] _ (0, k) rfl (by simp [Aut.c]) ⟨by simp, by simp [hk], hkl⟩ ?_
    rintro ⟨j, k'⟩ ⟨hj, hk', hkl'⟩ M hM
    simp only at hj hk' hkl'
    rcases Nat.lt_or_ge j b.n with hjn | hjn
    · obtain ⟨hg1, hg2⟩ := hrg i j hin hjn
      have hlt := join_lt hin hjn
      rw [← hk'] at hg1 hg2 hlt
      have hrt := take_snoc hg1
      have hft := take_snoc hg2
      have hrtl : (rw'.take k').length = k' := by simp; omega
      have hftl : (fs.take k').length = k' := by simp; omega
      obtain ⟨row, hrow⟩ : ∃ row, row = joinR a b i j := ⟨_, rfl⟩
      have hrowl : row.length = 95 := by simp [hrow, joinR]
      have hrowg : ∀ c, c < 95 → row[c]? = some (joinC a b i j c) := fun c hc => by rw [hrow, joinR, List.getElem?_map, List.getElem?_range hc]; rfl
      rw [← hrow] at hrt
      simp (disch := omega) [-List.reduceReplicate, Aut.c]
      refine W_loop (fun c : Nat => ⟨[(2, .bool cm), (3, .ptr 0 0), (4, .ptr 1 0), (6, .ptr 2 0), (7, .ptr 3 0), (8, nV b.n), (9, nV i), (10, nV j), (11, .ref 4 95), (12, nV c)], [some (.box (Aut.c a)), some (.box (Aut.c b)), some (.box [.nil 1, .nil 1]), some (.box [.ref 5 k', .ref 6 k']), some (.arr ty_int 1 (fillR (row.take c))), some (.arr ty_Iint 1 ((rw'.take k').map rowN)), some (.arr ty_bool 1 ((fs.take k').map V.bool))]⟩)
        (fun c => c ≤ 95) (fun c => 95 - c) [] _ 0 rfl (by simp [Aut.c, fillR_nil]) (by simp) ?_
      intro c hc Q hQ
      rcases Nat.lt_or_ge c 95 with hc95 | hc95
      · have hak : (row.take c).length = c := by simp; omega
        have hg := fillR_get (acc := row.take c) (by omega)
        have hs := fillR_set (acc := row.take c) (by omega) (joinC a b i j c)
        have hfl3 := fillR_len (acc := row.take c) (by omega)
        rw [hak] at hg hs
        rw [← take_snoc (hrowg c hc95)] at hs
        simp only [nV] at hs
        obtain ⟨r1, t1, g1, g2, g3, g4⟩ := ha.rows.dl (q := i) (c := c) hin hc95
        obtain ⟨r2, t2, g5, g6, g7, g8⟩ := hb.rows.dl (q := j) (c := c) hjn hc95
        have hδ1 : a.δ i c = t1 := g3
        have hδ2 : b.δ j c = t2 := g7
        have ht1 : t1 < a.n := g4
        have ht2 : t2 < b.n := g8
        have hmb := Nat.mul_le_mul (Nat.le_of_lt ht1) (Nat.le_refl b.n)
        obtain ⟨P, hP⟩ : ∃ P, P = t1 * b.n := ⟨_, rfl⟩
        have hPv : (t1 : Int) * (b.n : Int) = (P : Int) := by rw [hP]; simp
        have hJ : joinC a b i j c = P + t2 := by simp only [joinC, hδ1, hδ2, hP]
        rw [← hP] at hmb
        rw [hJ] at hs
        obtain ⟨S, hS⟩ : ∃ S, S = P + t2 := ⟨_, rfl⟩
        have hJv : (P : Int) + (t2 : Int) = (S : Int) := by omega
        rw [← hS] at hs
        simp (disch := omega) [-List.reduceReplicate, Aut.c, g1, g2, g5, g6, hPv, hJv, hfl3, hg, hs]
        exact hQ.out _ <| Nx.mk (c + 1) (by simp [Aut.c]) (by omega) (by omega)
      · have hc0 : c = 95 := by omega
        subst hc0
        have hrf : row.take 95 = row := List.take_of_length_le (by omega)
        have hff := fillR_full hrowl
        have hflen : (fillR row).length = 95 := fillR_len (by omega)
        rw [hrf]
        obtain ⟨f1, hf1⟩ := get_lt (l := a.final) (k := i) (by omega)
        obtain ⟨f2, hf2⟩ := get_lt (l := b.final) (k := j) (by omega)
        have hF1 : a.F i = f1 := by simp [Aut.F, fin, hf1]
        have hF2 : b.F j = f2 := by simp [Aut.F, fin, hf2]
        rw [hF1, hF2] at hft
        cases f1
        all_goals
          simp (disch := omega) [-List.reduceReplicate, Aut.c, hflen, hrtl, hftl, hf1, hf2]
          exact hM.out _ <| Nx.mk (j + 1, k' + 1) (by rw [hrt, hft]; cases f2 <;> cases cm <;> simp [Aut.c, hff]) ⟨by simp only; omega, by simp only; omega, by simp only; omega⟩ (by simp only; omega)
    · have : j = b.n := by omega
      subst this
      simp (disch := omega) [-List.reduceReplicate, Aut.c]
      exact hN.out _ <| Nx.mk (i + 1, k') (by simp [Aut.c]) ⟨by simp only; omega, by simp only [Nat.succ_mul]; exact hk', hkl'⟩ (by simp only; omega)
  · have : i = a.n := by omega
    subst this
    have h1 : rw'.take k = rw' := List.take_of_length_le (by omega)
    have h2 : fs.take k = fs := List.take_of_length_le (by omega)
    simp (disch := omega) [-List.reduceReplicate, Aut.c, h1, h2, hR, hA]
    try rfl
theorem f_ref11_Within {a b : Aut} (ha : a.ok) (hb : b.ok) (han : a.n ≤ 20) (hbn : b.n ≤ 20) (r : Option (List Nat)) (hr : IsLeast (joinA a b true).δ 0 (joinA a b true).F r) : Fn Tryd.prog n_ref11_Within [.strct (Aut.c a), .strct (Aut.c b)] (.bool r.isNone) := by
  refine Fn.of_image mixed h_ref11_Within i_ref11_Within rfl fun ho => ?_
  unfold c_ref11_Within
  simp only [oks, ok, and_true] at ho
  clear ho
  have hj := f_ref11_Join ha hb (by omega) (by omega) true
  have hab : a.n * b.n ≤ 400 := Nat.le_trans (Nat.mul_le_mul han hbn) (by decide)
  have hl := f_ref11_Least (join_ok ha hb true) (by rw [join_n]; omega) r hr
  obtain ⟨J, hJ⟩ : ∃ J, J = joinA a b true := ⟨_, rfl⟩
  rw [← hJ] at hj hl
  clear hJ hr
  simp [Aut.c] at hj hl
  simp (disch := omega) [-List.reduceReplicate, Aut.c]
  refine wcall_pure hj (by simp) fun _ => ?_
  simp (disch := omega) [-List.reduceReplicate]
  refine wcall_flat hl rfl fun _ => ?_
  cases r with
  | none => simp (disch := omega) [-List.reduceReplicate, lenZ]
  | some w => simp (disch := omega) [-List.reduceReplicate, lenZ]
end Go.Abs
set_option linter.unusedVariables false
set_option linter.unusedSimpArgs false
set_option maxHeartbeats 2000000
set_option maxRecDepth 100000
namespace Go.Abs
open Go.Proofs Go.Aut
attribute [-simp] getElem?_pos Option.not_isSome List.map_map
def ktP : KT := ⟨true, [.i .i64, .i .i64]⟩
def pV (p : Nat × Nat) : V := .strct [nV p.1, nV p.2]
theorem eqK_pV (a b : Nat × Nat) : eqK (pV a) (pV b) = decide (a = b) := by
  have h1 : ((a.1 : Int) = b.1) ↔ a.1 = b.1 := by omega
  have h2 : ((a.2 : Int) = b.2) ↔ a.2 = b.2 := by omega
  simp [eqK, eqCs, nV, cl, eqC, pV, h1, h2, Prod.ext_iff]
theorem f_met_add_pair_nil (q : Nat × Nat) : FnH Tryd.prog n_pdfa_metIdfa_pair_add [0] [.ptr 0 0, pV q] (metE ktP 2) (nV 0) (metH ktP ty_dfa_pair 2 pV [q]) := by
  refine FnH.of_image mixed h_pdfa_metIdfa_pair_add i_pdfa_metIdfa_pair_add rfl fun ho hh => ?_
  unfold c_pdfa_metIdfa_pair_add
  clear ho hh
  simp (disch := omega) [-List.reduceReplicate, metE, metH, ktP, nV, pV, mget, mput, ents, kOfs, kOf, somes, fitsK, aggV]
theorem f_met_add_pair (l : List (Nat × Nat)) (q : Nat × Nat) (hl : l.length ≤ 1000000) : FnH Tryd.prog n_pdfa_metIdfa_pair_add [0] [.ptr 0 0, pV q] (metH ktP ty_dfa_pair 2 pV l) (nV (addN eqB l q)) (metH ktP ty_dfa_pair 2 pV (addL eqB l q)) := by
  refine FnH.of_image mixed h_pdfa_metIdfa_pair_add i_pdfa_metIdfa_pair_add rfl fun ho hh => ?_
  unfold c_pdfa_metIdfa_pair_add
  clear ho hh
  have hm := mget_ents eqK_pV q l 0
  cases hp : pos eqB q l with
  | some i =>
    rw [hp] at hm
    replace hm : mget (.strct [.int .i64 (q.1 : Int), .int .i64 (q.2 : Int)]) (ents pV 0 l) = some (.int .i64 (i : Int)) := by simpa [nV, pV] using hm
    obtain ⟨h1, h2⟩ := add_some hp
    rw [h1, h2]
    simp (disch := omega) [-List.reduceReplicate, metH, ktP, nV, pV, kOfs, kOf, somes, fitsK, aggV, hm]
  | none =>
    rw [hp] at hm
    replace hm : mget (.strct [.int .i64 (q.1 : Int), .int .i64 (q.2 : Int)]) (ents pV 0 l) = none := by simpa [nV, pV] using hm
    have hpt := mput_ents eqK_pV q l 0 hp
    replace hpt : mput (.strct [.int .i64 (q.1 : Int), .int .i64 (q.2 : Int)]) (.int .i64 (l.length : Int)) (ents pV 0 l) = ents pV 0 (l ++ [q]) := by simpa [nV, pV] using hpt
    obtain ⟨h1, h2⟩ := add_none hp
    rw [h1, h2]
    simp (disch := omega) [-List.reduceReplicate, metH, ktP, nV, pV, kOfs, kOf, somes, fitsK, aggV, hm, hpt]
theorem f_meet_pair_ref (q : Nat × Nat) : FnH Tryd.prog n_dfa_meetIdfa_pair [] [.ref 0 1] [some (.arr ty_dfa_pair 2 [pV q])] (.ptr 0 0) (metH ktP ty_dfa_pair 2 pV [q]) := by
  refine FnH.of_image mixed h_dfa_meetIdfa_pair i_dfa_meetIdfa_pair rfl fun ho hh => ?_
  unfold c_dfa_meetIdfa_pair
  clear ho hh
  simp (disch := omega) [-List.reduceReplicate, pV]
  refine W_loop (fun k : Nat => if k = 0 then ⟨[(3, .ptr 0 0), (9, .ref 1 1), (10, .int .i64 1), (11, .int .i64 0)], [some (.box [.ref 2 0, .nil 2]), some (.arr ty_dfa_pair 2 [pV q]), some (.mp ktP [])]⟩ else ⟨[(3, .ptr 0 0), (9, .ref 1 1), (10, .int .i64 1), (11, .int .i64 1)], [some (.box [.ref 2 0, .ref 3 1]), some (.arr ty_dfa_pair 2 [pV q]), some (.mp ktP (ents pV 0 [q])), some (.arr ty_dfa_pair 2 [pV q])]⟩) (fun k => k ≤ 1) (fun k => 1 - k) [] _ 0 rfl (by simp [ktP, pV]) (by simp) ?_
  intro k hk N hN
  have hadd := f_met_add_pair_nil q
  simp [pV] at hadd
  rcases (show k = 0 ∨ k = 1 by omega) with rfl | rfl
  · simp (disch := omega) [-List.reduceReplicate, pV]
    refine wcallH_mk [0] 1 [0, 2] (by simp) (by simp) (by simp) (by simp) hadd (by simp) fun _ _ => ?_
    simp (disch := omega) [-List.reduceReplicate]
    exact hN.out _ <| Nx.mk 1 (by simp [pV]) (by simp) (by simp)
  · simp (disch := omega) [-List.reduceReplicate, pV]
theorem f_meet_pair (q : Nat × Nat) : FnH Tryd.prog n_dfa_meetIdfa_pair [] [.seq 2 [pV q]] [] (.ptr 0 0) (metH ktP ty_dfa_pair 2 pV [q]) := by
  refine FnH.of_image mixed h_dfa_meetIdfa_pair i_dfa_meetIdfa_pair rfl fun ho hh => ?_
  unfold c_dfa_meetIdfa_pair
  clear ho hh
  simp (disch := omega) [-List.reduceReplicate, pV]
  refine W_loop (fun k : Nat => if k = 0 then ⟨[(3, .ptr 0 0), (9, .seq 2 [pV q]), (10, .int .i64 1), (11, .int .i64 0)], metE ktP 2⟩ else ⟨[(3, .ptr 0 0), (9, .seq 2 [pV q]), (10, .int .i64 1), (11, .int .i64 1)], metH ktP ty_dfa_pair 2 pV [q]⟩) (fun k => k ≤ 1) (fun k => 1 - k) [] _ 0 rfl (by simp [ktP, pV]) (by simp) ?_
  intro k hk N hN
  have hadd := f_met_add_pair_nil q
  simp [pV] at hadd
  rcases (show k = 0 ∨ k = 1 by omega) with rfl | rfl
  · simp (disch := omega) [-List.reduceReplicate, pV]
    refine wcallH_mk [0] 1 [0, 1] (by simp) (by simp) (by simp) (by simp) hadd (by simp) fun _ _ => ?_
    simp (disch := omega) [-List.reduceReplicate]
    exact hN.out _ <| Nx.mk 1 (by simp [pV]) (by simp) (by simp)
  · simp (disch := omega) [-List.reduceReplicate, pV]
end Go.Abs
set_option linter.unusedVariables false
set_option linter.unusedSimpArgs false
set_option maxHeartbeats 2000000
set_option maxRecDepth 100000
namespace Go.Abs
open Go.Proofs Go.Aut
attribute [-simp] getElem?_pos Option.not_isSome List.map_map
theorem f_dfa_both_1 {a b : Aut} {p : Nat × Nat} {c x y : Nat} {r s : List Nat} (hr : a.next[p.1]? = some r) (hx : r[c]? = some x) (hs : b.next[p.2]? = some s) (hy : s[c]? = some y) :
    FnH Tryd.prog n_dfa_both_1 [2, 3] [pV p, nV c, .ptr 0 0, .ptr 1 0] [some (.box (Aut.c a)), some (.box (Aut.c b))] (pV (x, y)) [some (.box (Aut.c a)), some (.box (Aut.c b))] := by
  refine FnH.of_image mixed h_dfa_both_1 i_dfa_both_1 rfl fun ho hh => ?_
  unfold c_dfa_both_1
  clear ho hh
  simp (disch := omega) [-List.reduceReplicate, Aut.c, pV, hr, hx, hs, hy]
theorem imageE_of {P : Program} {fn : Func} {K : List (List Nat)} {n : Nat} {r : AC × List RV} (h : image P fn K n = some r) : imageE P fn [] [] K n = some r := by
  unfold image at h
  unfold imageE
  simpa using h
theorem f_dfa_both {a b : Aut} : FnH Tryd.prog n_dfa_both [] [.strct (Aut.c a), .strct (Aut.c b)] [] (.fn (.func n_dfa_both_1) [] [.ptr 0 0, .ptr 1 0]) [some (.box (Aut.c a)), some (.box (Aut.c b))] := by
  refine FnH.of_image mixed h_dfa_both (imageE_of i_dfa_both) rfl fun ho hh => ?_
  unfold c_dfa_both
  clear ho hh
  simp (disch := omega) [-List.reduceReplicate, Aut.c]
theorem f_dfa_search_1 {a b : Aut} {p : Nat × Nat} {f1 f2 : Bool} (h1 : a.final[p.1]? = some f1) (h2 : b.final[p.2]? = some f2) {g : Nat} {op : Bool → Bool → Bool} (hg : ∀ x y, Fn Tryd.prog g [.bool x, .bool y] (.bool (op x y))) :
    FnH Tryd.prog n_dfa_search_1 [1, 2, 3] [pV p, .ptr 0 0, .ptr 1 0, .ptr 2 0] [some (.box [.fn (.func g) [] []]), some (.box (Aut.c a)), some (.box (Aut.c b))] (.bool (op f1 f2)) [some (.box [.fn (.func g) [] []]), some (.box (Aut.c a)), some (.box (Aut.c b))] := by
  refine FnH.of_image mixed h_dfa_search_1 i_dfa_search_1 rfl fun ho hh => ?_
  unfold c_dfa_search_1
  clear ho hh
  simp (disch := omega) [-List.reduceReplicate, Aut.c, pV, h1, h2]
  refine wcallD_flat (hg f1 f2) rfl ?_
  simp (disch := omega) [-List.reduceReplicate]
theorem f_Same_1 (x y : Bool) : Fn Tryd.prog n_dfa_Same_1 [.bool x, .bool y] (.bool (x != y)) := by
  refine Fn.of_image mixed h_dfa_Same_1 i_dfa_Same_1 rfl fun ho => ?_
  unfold c_dfa_Same_1
  simp only [oks, ok, and_true] at ho
  clear ho
  cases x <;> cases y <;> simp (disch := omega) [-List.reduceReplicate]
theorem f_Common_1 (x y : Bool) : Fn Tryd.prog n_dfa_Common_1 [.bool x, .bool y] (.bool (x && y)) := by
  refine Fn.of_image mixed h_dfa_Common_1 i_dfa_Common_1 rfl fun ho => ?_
  unfold c_dfa_Common_1
  simp only [oks, ok, and_true] at ho
  clear ho
  cases x <;> simp (disch := omega) [-List.reduceReplicate]
theorem f_Within_1 (x y : Bool) : Fn Tryd.prog n_dfa_Within_1 [.bool x, .bool y] (.bool (x && !y)) := by
  refine Fn.of_image mixed h_dfa_Within_1 i_dfa_Within_1 rfl fun ho => ?_
  unfold c_dfa_Within_1
  simp only [oks, ok, and_true] at ho
  clear ho
  cases x <;> simp (disch := omega) [-List.reduceReplicate]
end Go.Abs
set_option linter.unusedVariables false
set_option linter.unusedSimpArgs false
set_option maxHeartbeats 4000000
set_option maxRecDepth 100000
namespace Go.Abs
open Go.Proofs Go.Aut
attribute [-simp] getElem?_pos Option.not_isSome List.map_map
def stepP2 (a b : Aut) (p : Nat × Nat) (c : Nat) : Nat × Nat := (a.δ p.1 c, b.δ p.2 c)
def goodP2 (a b : Aut) (op : Bool → Bool → Bool) (p : Nat × Nat) : Bool := op (a.F p.1) (b.F p.2)
def fiveB (a b : Aut) (g : Nat) : List (Option Ob) := [some (.box (Aut.c a)), some (.box (Aut.c b)), some (.box [.fn (.func g) [] []]), some (.box (Aut.c a)), some (.box (Aut.c b))]
def lsP (a b : Aut) (g : Nat) (fr by' : List Nat) (l : List (Nat × Nat)) : List (Option Ob) := fiveB a b g ++ [some (.box [.ref 8 0, .ref 9 l.length]), some (.arr ty_int 1 (fr.map nV)), some (.arr ty_uint8 1 (by'.map u8V)), some (.mp ktP (ents pV 0 l)), some (.arr ty_dfa_pair 2 (l.map pV))]
def lsQ (a b : Aut) (g : Nat) (fr by' : List Nat) (last : Nat × Nat) (l : List (Nat × Nat)) : List (Option Ob) := fiveB a b g ++ [some (.box [.ref 9 0, .ref 10 l.length]), some (.arr ty_int 1 (fr.map nV)), some (.arr ty_uint8 1 (by'.map u8V)), some (.box [nV last.1, nV last.2]), some (.mp ktP (ents pV 0 l)), some (.arr ty_dfa_pair 2 (l.map pV))]
theorem nodup_map_inj {α β : Type} {f : α → β} : ∀ {l : List α}, l.Nodup → (∀ x ∈ l, ∀ y ∈ l, f x = f y → x = y) → (l.map f).Nodup
  | [], _, _ => by simp
  | x :: l, h, hi => by
    rw [List.nodup_cons] at h
    rw [List.map_cons, List.nodup_cons]
    refine ⟨fun hm => ?_, nodup_map_inj h.2 fun y hy z hz => hi y (by simp [hy]) z (by simp [hz])⟩
    obtain ⟨y, hy, e⟩ := List.mem_map.1 hm
    have := hi y (by simp [hy]) x (by simp) e
    subst this
    exact h.1 hy
theorem nodup_pairs {n m : Nat} {l : List (Nat × Nat)} (h : l.Nodup) (hd : ∀ x ∈ l, x.1 < n ∧ x.2 < m) : l.length ≤ n * m := by
  have := nodup_le (n * m) (l.map fun p => p.1 * m + p.2) (nodup_map_inj h fun x hx y hy e => by
    have h1 := join_div (i := x.1) (hd x hx).2
    have h2 := join_div (i := y.1) (hd y hy).2
    rw [e] at h1
    exact Prod.ext (h1.1.symm.trans h2.1) (h1.2.symm.trans h2.2)) fun x hx => by
      obtain ⟨p, hp, rfl⟩ := List.mem_map.1 hx
      exact join_lt (hd p hp).1 (hd p hp).2
  simpa using this
theorem f_least_pair {a b : Aut} (ha : a.ok) (hb : b.ok) (hab : a.n * b.n ≤ 10000) {g : Nat} {op : Bool → Bool → Bool} (hg : ∀ x y, Fn Tryd.prog g [.bool x, .bool y] (.bool (op x y))) (r : Option (List Nat)) (hr : leastGo (stepP2 a b) (goodP2 a b op) (a.n * b.n + 1) 0 [(0, 0)] [[]] = some r) :
    FnH Tryd.prog n_dfa_leastIdfa_pair [1, 2] [pV (0, 0), .fn (.func n_dfa_both_1) [] [.ptr 0 0, .ptr 1 0], .fn (.func n_dfa_search_1) [] [.ptr 2 0, .ptr 3 0, .ptr 4 0]] (fiveB a b g) (resL r) (fiveB a b g) := by
  refine FnH.of_image mixed h_dfa_leastIdfa_pair i_dfa_leastIdfa_pair rfl fun ho hh => ?_
  unfold c_dfa_leastIdfa_pair
  clear ho hh
  obtain ⟨X, hX⟩ : ∃ X, X = resL r := ⟨_, rfl⟩
  rw [← hX]
  have hnl : a.next.length = a.n := rfl
  have hnl2 : b.next.length = b.n := rfl
  have hD : ∀ (q : Nat × Nat) (c : Nat), (q.1 < a.n ∧ q.2 < b.n) → c < 95 → ((stepP2 a b q c).1 < a.n ∧ (stepP2 a b q c).2 < b.n) := fun q c hq hc => ⟨ha.lt hq.1 hc, hb.lt hq.2 hc⟩
  have hfl : a.final.length = a.n := ha.fin
  have hfl2 : b.final.length = b.n := hb.fin
  have hmeet := f_meet_pair_ref (0, 0)
  simp [pV] at hmeet
  simp (disch := omega) [-List.reduceReplicate, Aut.c, fiveB, pV]
  refine wcallH_mk [] 0 [6] (by simp) (by simp) (by simp) (by simp) hmeet (by simp) fun _ _ => ?_
  simp (disch := omega) [-List.reduceReplicate]
  refine W_loop (fun (x : Nat × Nat × List (Nat × Nat) × List Nat × List Nat × List (List Nat)) => ⟨[(1, .fn (.func n_dfa_both_1) [] [.ptr 0 0, .ptr 1 0]), (2, .fn (.func n_dfa_search_1) [] [.ptr 2 0, .ptr 3 0, .ptr 4 0]), (8, .ptr 5 0), (9, .ref 6 x.2.2.1.length), (10, .ref 7 x.2.2.1.length), (11, nV x.2.1)], lsP a b g x.2.2.2.1 x.2.2.2.2.1 x.2.2.1⟩)
    (fun x => LInv (stepP2 a b) (0, 0) (fun q => q.1 < a.n ∧ q.2 < b.n) x.2.1 0 x.2.2.1 x.2.2.2.2.2 ∧ x.2.1 ≤ x.2.2.1.length ∧ CameBy x.2.2.2.1 x.2.2.2.2.1 x.2.2.2.2.2 ∧ wlen x.2.2.2.2.2 ∧ leastGo (stepP2 a b) (goodP2 a b op) x.1 x.2.1 x.2.2.1 x.2.2.2.2.2 = some r) (fun x => x.1) [] _ (a.n * b.n + 1, 0, [(0, 0)], [0], [0], [[]]) rfl (by simp [lsP, fiveB, ents, Aut.c, ktP, pV])
    ⟨LInv.begin ⟨ha.pos, hb.pos⟩, by simp, ⟨rfl, rfl, fun w hw => by simpa using hw.symm, fun i w hi hw => by cases i with | zero => omega | succ i => simp at hw⟩, fun k w hw => by cases k with | zero => (simp at hw; subst hw; simp) | succ k => simp at hw, hr⟩ ?_
  rintro ⟨f, i, l, fr, by', ws⟩ ⟨hI, hil, hC, hwl, hgo⟩ N hN
  simp only at hI hil hC hwl hgo
  have hln := nodup_pairs hI.nodup hI.dom
  have hwsl := hI.len
  have hfrl := hC.len1
  have hbyl := hC.len2
  cases f with
  | zero => simp [leastGo] at hgo
  | succ f =>
  simp only [leastGo] at hgo
  rcases Nat.lt_or_ge i l.length with hlt | hge
  · obtain ⟨q, hq⟩ := get_lt hlt
    obtain ⟨w, hw⟩ := get_lt (l := ws) (k := i) (by omega)
    have hqn := hI.dom q (List.mem_of_getElem? hq)
    obtain ⟨f1, hf1⟩ := get_lt (l := a.final) (k := q.1) (by omega)
    obtain ⟨f2, hf2⟩ := get_lt (l := b.final) (k := q.2) (by omega)
    have hF : goodP2 a b op q = op f1 f2 := by simp [goodP2, Aut.F, fin, hf1, hf2]
    rw [hq, hw] at hgo
    simp only [Option.getD_some, hF] at hgo
    have hgood := f_dfa_search_1 (a := a) (b := b) hf1 hf2 hg
    obtain ⟨bb, hbb⟩ : ∃ bb, bb = op f1 f2 := ⟨_, rfl⟩
    rw [← hbb] at hF hgood hgo
    simp [pV, Aut.c] at hgood
    have hw95 := (hI.run i q w hq hw).2
    replace hgo := hid hgo
    simp (disch := omega) [-List.reduceReplicate, lsP, fiveB, pV, hq, Aut.c]
    refine wcallH_mk [1, 2, 3] 3 [2, 3, 4] (by simp) (by simp) (by simp) (by simp [Aut.c]) hgood (by simp) fun _ _ => ?_
    simp (disch := omega) [-List.reduceReplicate, Aut.c]
    cases bb with
    | true =>
      have hgo := hgo.out
      simp only [if_true, Option.some.injEq] at hgo
      subst hgo
      have hpath := f_dfa_path fr by' ws hC (by omega) i w hw hw95 (hwl i w hw)
      simp at hpath
      simp (disch := omega) [-List.reduceReplicate, hfrl, hbyl, hwsl]
      refine wcall_flat hpath rfl fun _ => ?_
      simp (disch := omega) [-List.reduceReplicate, Aut.c, fiveB, hX, resL]
    | false =>
      have hgo := hgo.out
      rw [if_neg (by decide)] at hgo
      obtain ⟨T, hT⟩ : ∃ T, T = lrow (stepP2 a b q) w 95 0 l ws := ⟨_, rfl⟩
      rw [← hT] at hgo
      replace hgo := hid hgo
      simp (disch := omega) [-List.reduceReplicate, hq, Aut.c, pV]
      have hposq : pos eqB q l = some i := by
        refine pos_eqB ?_ hq
        intro j k x y hjk hx hy
        have := (List.pairwise_iff_getElem.1 (List.nodup_iff_pairwise_ne.1 hI.nodup)) j k (List.getElem?_eq_some_iff.1 hx).1 (List.getElem?_eq_some_iff.1 hy).1 hjk
        rw [(List.getElem?_eq_some_iff.1 hx).2, (List.getElem?_eq_some_iff.1 hy).2] at this
        simp [eqB, this]
      refine W_loop (fun (x : Nat × (Nat × Nat) × List (Nat × Nat) × List Nat × List Nat × List (List Nat)) => ⟨[(1, .fn (.func n_dfa_both_1) [] [.ptr 0 0, .ptr 1 0]), (2, .fn (.func n_dfa_search_1) [] [.ptr 2 0, .ptr 3 0, .ptr 4 0]), (8, .ptr 5 0), (9, .ref 6 x.2.2.1.length), (10, .ref 7 x.2.2.1.length), (11, nV i), (12, .ptr 8 0), (49, nV x.1)], lsQ a b g x.2.2.2.1 x.2.2.2.2.1 x.2.1 x.2.2.1⟩)
        (fun x => x.1 ≤ 95 ∧ LInv (stepP2 a b) (0, 0) (fun q => q.1 < a.n ∧ q.2 < b.n) i x.1 x.2.2.1 x.2.2.2.2.2 ∧ CameBy x.2.2.2.1 x.2.2.2.2.1 x.2.2.2.2.2 ∧ wlen x.2.2.2.2.2 ∧ x.2.2.1[i]? = some q ∧ x.2.2.2.2.2[i]? = some w ∧ (pos eqB x.2.1 x.2.2.1).isSome = true ∧ lrow (stepP2 a b q) w (95 - x.1) x.1 x.2.2.1 x.2.2.2.2.2 = T) (fun x => 95 - x.1) [] _ (0, q, l, fr, by', ws) rfl (by simp [lsP, lsQ, fiveB, pV, Aut.c, hfrl, hbyl, hwsl]) ⟨by simp, hI, hC, hwl, hq, hw, by simp [hposq], by simp [hT]⟩ ?_
      rintro ⟨c, last, l', fr', by2, ws'⟩ ⟨hc, hI', hC', hwl', hq', hw', hp, hrow⟩ M hM
      simp only at hc hI' hC' hwl' hq' hw' hp hrow
      have hln' := nodup_pairs hI'.nodup hI'.dom
      have hwsl' := hI'.len
      have hfrl' := hC'.len1
      have hbyl' := hC'.len2
      have hil' := (List.getElem?_eq_some_iff.1 hq').1
      rcases Nat.lt_or_ge c 95 with hc95 | hc95
      · obtain ⟨rr, t1, hr1, hr2, hr3, hr4⟩ := ha.rows.dl (q := q.1) (c := c) (by omega) hc95
        obtain ⟨rr2, t2, hr5, hr6, hr7, hr8⟩ := hb.rows.dl (q := q.2) (c := c) (by omega) hc95
        have hl1 := f_dfa_both_1 (a := a) (b := b) (p := q) hr1 hr2 hr5 hr6
        obtain ⟨t, ht⟩ : ∃ t : Nat × Nat, t = (t1, t2) := ⟨_, rfl⟩
        have hδ : stepP2 a b q c = t := by rw [ht]; exact Prod.ext hr3 hr7
        rw [← ht] at hl1
        simp [pV, Aut.c] at hl1
        obtain ⟨m', hm'⟩ : ∃ m', 95 - c = m' + 1 := ⟨94 - c, by omega⟩
        have hm2 : 95 - (c + 1) = m' := by omega
        rw [hm'] at hrow
        simp only [lrow, hδ] at hrow
        have hstep := hI'.one hD hc95 hq' hw'
        rw [hδ] at hstep
        replace hrow := hid hrow
        simp (disch := omega) [-List.reduceReplicate, lsQ, fiveB, pV, hq', Aut.c]
        refine wcallH_mk [2, 3] 2 [0, 1] (by simp) (by simp) (by simp) (by simp [Aut.c]) hl1 (by simp) fun _ _ => ?_
        have hek : eqK (V.strct [V.int IntKind.i64 (t.1 : Int), V.int IntKind.i64 (t.2 : Int)]) (V.strct [V.int IntKind.i64 (last.1 : Int), V.int IntKind.i64 (last.2 : Int)]) = decide (t = last) := by simpa [pV] using eqK_pV t last
        have hadd := f_met_add_pair l' t (by omega)
        simp [pV] at hadd
        simp (disch := omega) [-List.reduceReplicate, Aut.c, fitsK, aggV, kOfs, kOf, somes, hek]
        by_cases htl : t = last
        · subst htl
          have hrow := hrow.out
          rw [if_pos hp] at hrow
          rw [if_pos hp, if_pos hp] at hstep
          simp (disch := omega) [-List.reduceReplicate]
          exact hM.out _ <| Nx.mk (c + 1, t, l', fr', by2, ws') (by simp [lsP, lsQ, fiveB, pV, Aut.c]) ⟨by simp only; omega, hstep, hC', hwl', hq', hw', hp, by simpa [hm2] using hrow⟩ (by simp only; omega)
        · simp (disch := omega) [-List.reduceReplicate, htl]
          refine wcallH_mk [0] 1 [5, 9, 10] (by simp) (by simp) (by simp) (by simp) hadd (by simp) fun _ _ => ?_
          cases hpt : pos eqB t l' with
          | some j =>
            have hjl := pos_lt hpt
            obtain ⟨e1, e2⟩ := add_some hpt
            have hrow := hrow.out
            have hps : (pos eqB t l').isSome = true := by simp [hpt]
            rw [if_pos hps] at hrow
            rw [if_pos hps, if_pos hps] at hstep
            have hne : ¬j = l'.length := by omega
            simp (disch := omega) [-List.reduceReplicate, e1, e2, hfrl', hwsl', hne, Aut.c]
            exact hM.out _ <| Nx.mk (c + 1, t, l', fr', by2, ws') (by simp [lsP, lsQ, fiveB, pV, Aut.c]) ⟨by simp only; omega, hstep, hC', hwl', hq', hw', hps, by simpa [hm2] using hrow⟩ (by simp only; omega)
          | none =>
            obtain ⟨e1, e2⟩ := add_none hpt
            have hrow := hrow.out
            have hps : ¬(pos eqB t l').isSome = true := by simp [hpt]
            rw [if_neg hps] at hrow
            rw [if_neg hps, if_neg hps] at hstep
            have hC2 := hC'.add hw' hc95
            have hwl2 : wlen (ws' ++ [w ++ [c]]) := fun k u hu => by
              rcases Nat.lt_or_ge k ws'.length with hk | hk
              · rw [List.getElem?_append_left hk] at hu; exact hwl' k u hu
              · have hkk := (List.getElem?_eq_some_iff.1 hu).1
                simp at hkk
                have : k = ws'.length := by omega
                subst this
                rw [List.getElem?_append_right (Nat.le_refl _), Nat.sub_self] at hu
                simp only [List.getElem?_cons_zero, Option.some.injEq] at hu
                subst hu
                have := hwl' i w hw'
                simp
                omega
            simp (disch := omega) [-List.reduceReplicate, e1, e2, hfrl', hwsl', hbyl', Aut.c]
            exact hM.out _ <| Nx.mk (c + 1, t, l' ++ [t], fr' ++ [i], by2 ++ [32 + c], ws' ++ [w ++ [c]]) (by simp [lsP, lsQ, fiveB, pV, Aut.c]) ⟨by simp only; omega, hstep, hC2, hwl2, by rw [List.getElem?_append_left hil']; exact hq', by rw [List.getElem?_append_left (by omega)]; exact hw', by simp [pos_snoc hpt], by simpa [hm2] using hrow⟩ (by simp only; omega)
      · have hc0 : c = 95 := by omega
        subst hc0
        simp only [Nat.sub_self, lrow] at hrow
        subst hrow
        have hgo := hgo.out
        simp (disch := omega) [-List.reduceReplicate, lsP, lsQ, fiveB, pV, Aut.c]
        exact hN.out _ <| Nx.mk (f, i + 1, l', fr', by2, ws') (by simp [lsP, lsQ, fiveB, pV, Aut.c]) ⟨hI'.next hil', by simp only; omega, hC', hwl', hgo⟩ (by simp only; omega)
  · have : i = l.length := by omega
    rw [List.getElem?_eq_none (by omega)] at hgo
    simp only [Option.some.injEq] at hgo
    subst hgo
    simp (disch := omega) [-List.reduceReplicate, lsP, lsQ, fiveB, pV, Aut.c, hX, resL]
end Go.Abs
set_option linter.unusedVariables false
set_option linter.unusedSimpArgs false
set_option maxHeartbeats 4000000
set_option maxRecDepth 100000
namespace Go.Abs
open Go.Proofs Go.Aut
attribute [-simp] getElem?_pos Option.not_isSome List.map_map
theorem f_dfa_search {a b : Aut} (ha : a.ok) (hb : b.ok) (han : a.n ≤ 100) (hbn : b.n ≤ 100) {g : Nat} {op : Bool → Bool → Bool} (hg : ∀ x y, Fn Tryd.prog g [.bool x, .bool y] (.bool (op x y))) (r : Option (List Nat)) (hr : leastGo (stepP2 a b) (goodP2 a b op) (a.n * b.n + 1) 0 [(0, 0)] [[]] = some r) :
    Fn Tryd.prog n_dfa_search [.strct (Aut.c a), .strct (Aut.c b), .fn (.func g) [] []] (resL r) := by
  refine Fn.of_imageE mixed h_dfa_search i_dfa_search rfl fun ho => ?_
  unfold c_dfa_search
  simp only [oks, ok, and_true] at ho
  clear ho
  have hab : a.n * b.n ≤ 10000 := Nat.le_trans (Nat.mul_le_mul han hbn) (by decide)
  have hma := f_dfa_May_ok ha (by omega)
  have hmb := f_dfa_May_ok hb (by omega)
  have hbo := f_dfa_both (a := a) (b := b)
  have hl := f_least_pair ha hb hab hg r hr
  obtain ⟨X, hX⟩ : ∃ X, X = resL r := ⟨_, rfl⟩
  rw [← hX]
  simp [Aut.c] at hma hmb hbo
  simp [Aut.c, fiveB, pV] at hl
  simp (disch := omega) [-List.reduceReplicate, Aut.c]
  refine wcall_flat hma rfl fun _ => ?_
  simp (disch := omega) [-List.reduceReplicate]
  refine wcall_flat hmb rfl fun _ => ?_
  simp (disch := omega) [-List.reduceReplicate]
  refine wcallH_mk [] 0 [] (by simp) (by simp) (by simp) (by simp) hbo (by simp) fun _ _ => ?_
  simp (disch := omega) [-List.reduceReplicate]
  refine wcallH_mk [1, 2] 5 [3, 4, 2, 0, 1] (by simp) (by simp) (by simp) (by simp) hl (by simp) fun _ _ => ?_
  cases r with
  | none => simp (disch := omega) [-List.reduceReplicate, resL, hX]
  | some w => simp (disch := omega) [-List.reduceReplicate, resL, hX]
theorem f_dfa_Same {a b : Aut} (ha : a.ok) (hb : b.ok) (han : a.n ≤ 100) (hbn : b.n ≤ 100) (r : Option (List Nat)) (hr : leastGo (stepP2 a b) (goodP2 a b fun x y => x != y) (a.n * b.n + 1) 0 [(0, 0)] [[]] = some r) :
    Fn Tryd.prog n_dfa_Same [.strct (Aut.c a), .strct (Aut.c b)] (.bool r.isNone) := by
  refine Fn.of_image mixed h_dfa_Same i_dfa_Same rfl fun ho => ?_
  unfold c_dfa_Same
  simp only [oks, ok, and_true] at ho
  clear ho
  have hma := f_dfa_May_ok ha (by omega)
  have hmb := f_dfa_May_ok hb (by omega)
  have hs := f_dfa_search ha hb han hbn f_Same_1 r hr
  simp [Aut.c] at hma hmb hs
  simp (disch := omega) [-List.reduceReplicate, Aut.c]
  refine wcall_flat hma rfl fun _ => ?_
  simp (disch := omega) [-List.reduceReplicate]
  refine wcall_flat hmb rfl fun _ => ?_
  simp (disch := omega) [-List.reduceReplicate]
  cases r with
  | none =>
    simp [resL] at hs
    refine wcall_pure hs (by simp) fun _ => ?_
    simp (disch := omega) [-List.reduceReplicate]
  | some w =>
    simp [resL] at hs
    refine wcall_pure hs (by simp) fun _ => ?_
    simp (disch := omega) [-List.reduceReplicate]
theorem f_dfa_Within {a b : Aut} (ha : a.ok) (hb : b.ok) (han : a.n ≤ 100) (hbn : b.n ≤ 100) (r : Option (List Nat)) (hr : leastGo (stepP2 a b) (goodP2 a b fun x y => x && !y) (a.n * b.n + 1) 0 [(0, 0)] [[]] = some r) :
    Fn Tryd.prog n_dfa_Within [.strct (Aut.c a), .strct (Aut.c b)] (.bool r.isNone) := by
  refine Fn.of_image mixed h_dfa_Within i_dfa_Within rfl fun ho => ?_
  unfold c_dfa_Within
  simp only [oks, ok, and_true] at ho
  clear ho
  have hma := f_dfa_May_ok ha (by omega)
  have hmb := f_dfa_May_ok hb (by omega)
  have hs := f_dfa_search ha hb han hbn f_Within_1 r hr
  simp [Aut.c] at hma hmb hs
  simp (disch := omega) [-List.reduceReplicate, Aut.c]
  refine wcall_flat hma rfl fun _ => ?_
  simp (disch := omega) [-List.reduceReplicate]
  refine wcall_flat hmb rfl fun _ => ?_
  simp (disch := omega) [-List.reduceReplicate]
  cases r with
  | none =>
    simp [resL] at hs
    refine wcall_pure hs (by simp) fun _ => ?_
    simp (disch := omega) [-List.reduceReplicate]
  | some w =>
    simp [resL] at hs
    refine wcall_pure hs (by simp) fun _ => ?_
    simp (disch := omega) [-List.reduceReplicate]
/-- A search ends. -/
theorem exists_pair {a b : Aut} (ha : a.ok) (hb : b.ok) (op : Bool → Bool → Bool) : ∃ r, leastGo (stepP2 a b) (goodP2 a b op) (a.n * b.n + 1) 0 [(0, 0)] [[]] = some r ∧ IsLeast (stepP2 a b) (0, 0) (goodP2 a b op) r := by
  have hD : ∀ (q : Nat × Nat) (c : Nat), (q.1 < a.n ∧ q.2 < b.n) → c < 95 → ((stepP2 a b q c).1 < a.n ∧ (stepP2 a b q c).2 < b.n) := fun q c hq hc => ⟨ha.lt hq.1 hc, hb.lt hq.2 hc⟩
  have h0 : LInv (stepP2 a b) (0, 0) (fun q => q.1 < a.n ∧ q.2 < b.n) 0 0 [(0, 0)] [[]] := LInv.begin ⟨ha.pos, hb.pos⟩
  obtain ⟨r, hr⟩ := leastGo_ends hD (fun l h1 h2 => nodup_pairs h2 h1) (good := goodP2 a b op) (a.n * b.n + 1) 0 [(0, 0)] [[]] h0 (by simp) (by omega)
  exact ⟨r, hr, leastGo_spec hD _ _ _ _ r h0 (by simp) (fun k hk => by omega) hr⟩
theorem exists_least {a : Aut} (ha : a.ok) : ∃ r, leastGo a.δ a.F (a.n + 1) 0 [0] [[]] = some r ∧ IsLeast a.δ 0 a.F r := by
  have hD : ∀ q c, q < a.n → c < 95 → a.δ q c < a.n := fun q c hq hc => ha.lt hq hc
  obtain ⟨r, hr⟩ := leastGo_ends hD (fun l h1 h2 => nodup_le _ l h2 h1) (good := a.F) (a.n + 1) 0 [0] [[]] (LInv.begin ha.pos) (by simp) (by omega)
  exact ⟨r, hr, leastGo_spec hD _ _ _ _ r (LInv.begin ha.pos) (by simp) (fun k hk => by omega) hr⟩
theorem run_pair {a b : Aut} : ∀ (w : List Nat) (p q : Nat), w.foldl (stepP2 a b) (p, q) = (w.foldl a.δ p, w.foldl b.δ q)
  | [], _, _ => rfl
  | c :: w, p, q => run_pair w _ _
theorem none_iff {K : Type} {step : K → Nat → K} {start : K} {good : K → Bool} {r : Option (List Nat)} (h : IsLeast step start good r) : r.isNone = true ↔ ∀ w : List Nat, (∀ c ∈ w, c < 95) → good (w.foldl step start) = false := by
  cases r with
  | none => exact ⟨fun _ => h, fun _ => rfl⟩
  | some w =>
    refine ⟨(fun h => by cases h), fun hh => ?_⟩
    have := hh w h.1
    rw [h.2.1] at this; cases this
/-- What a state takes, said of words. -/
theorem L_eq {a b : Aut} (ha : a.ok) (hb : b.ok) : a.L 0 = b.L 0 ↔ ∀ w : List Nat, (∀ c ∈ w, c < 95) → a.F (w.foldl a.δ 0) = b.F (w.foldl b.δ 0) := by
  constructor
  · intro e w hw
    rw [← (ok_run ha w 0 hw ha.pos).1, ← (ok_run hb w 0 hw hb.pos).1, e]
  · intro h
    refine lang_ext (signsL_lang _ _ _) (signsL_lang _ _ _) fun w hw => ?_
    show a.L 0 w = b.L 0 w
    rw [(ok_run ha w 0 hw ha.pos).1, (ok_run hb w 0 hw hb.pos).1]
    exact h w hw
theorem same_pair {a b : Aut} (ha : a.ok) (hb : b.ok) {r : Option (List Nat)} (hr : IsLeast (stepP2 a b) (0, 0) (goodP2 a b fun x y => x != y) r) : r.isNone = true ↔ a.L 0 = b.L 0 := by
  rw [none_iff hr, L_eq ha hb]
  constructor
  · intro h w hw
    have := h w hw
    rw [run_pair] at this
    simpa [goodP2] using this
  · intro h w hw
    rw [run_pair]
    simp [goodP2, h w hw]
theorem within_join {a b : Aut} (ha : a.ok) (hb : b.ok) {r : Option (List Nat)} (hr : IsLeast (joinA a b true).δ 0 (joinA a b true).F r) : r.isNone = true ↔ ∀ w : List Nat, (∀ c ∈ w, c < 95) → a.F (w.foldl a.δ 0) = true → b.F (w.foldl b.δ 0) = true := by
  rw [none_iff hr]
  constructor
  · intro h w hw h1
    have := h w hw
    rw [join_good ha hb w hw, h1] at this
    simpa using this
  · intro h w hw
    rw [join_good ha hb w hw]
    cases h1 : a.F (w.foldl a.δ 0) with
    | false => rfl
    | true => rw [h w hw h1]; rfl
theorem f_law11_DfaOne (l1 : List (List Int)) (f1 : List Bool) (l2 : List (List Int)) (f2 : List Bool) : FnE Tryd.prog n_law11_DfaOne [.seq 1 (l1.map rowZ), finN f1, .seq 1 (l2.map rowZ), finN f2] (.bool true) := by
  refine FnE.of_image mixed h_law11_DfaOne i_law11_DfaOne rfl fun ho => ?_
  unfold c_law11_DfaOne
  clear ho
  obtain ⟨hx, hx5, _⟩ := goodA_ok l1 f1
  have hgx := f_ref11_Good l1 f1
  obtain ⟨x, hxd⟩ : ∃ x, x = goodA l1 f1 := ⟨_, rfl⟩
  rw [← hxd] at hx hx5 hgx
  clear hxd
  obtain ⟨hy, hy5, _⟩ := goodA_ok l2 f2
  have hgy := f_ref11_Good l2 f2
  obtain ⟨y, hyd⟩ : ∃ y, y = goodA l2 f2 := ⟨_, rfl⟩
  rw [← hyd] at hy hy5 hgy
  clear hyd
  obtain ⟨cx, hcx1, hcx2, hcxn⟩ := formP_canon hx
  obtain ⟨cy, hcy1, hcy2, hcyn⟩ := formP_canon hy
  have hcx := hcx2.ok
  have hcy := hcy2.ok
  have hLx : cx.L 0 = x.L 0 := hcx2.lang (signsL_lang _ _ _)
  have hLy : cy.L 0 = y.L 0 := hcy2.lang (signsL_lang _ _ _)
  obtain ⟨cz, hcz1, hcz2, hczn⟩ := formP_canon hcx
  rw [hLx] at hcz2
  have hz : cz = cx := hcz2.unique hcx2
  subst hz
  obtain ⟨r1, _, hr1⟩ := exists_least (join_ok hx hy true)
  obtain ⟨r2, _, hr2⟩ := exists_least (join_ok hy hx true)
  obtain ⟨r3, hr3g, hr3⟩ := exists_pair hcx hx fun x y => x != y
  have hw1 := f_ref11_Within hx hy (by omega) (by omega) r1 hr1
  have hw2 := f_ref11_Within hy hx (by omega) (by omega) r2 hr2
  have hn1 := within_join hx hy hr1
  have hn2 := within_join hy hx hr2
  have hsame := f_dfa_Same hcx hx (by omega) (by omega) r3 hr3g
  rw [(same_pair hcx hx hr3).2 hLx] at hsame
  have hboth : (r1.isNone && r2.isNone) = true ↔ cz = cy := by
    rw [Bool.and_eq_true, hn1, hn2]
    constructor
    · rintro ⟨h1, h2⟩
      have : x.L 0 = y.L 0 := (L_eq hx hy).2 fun w hw => by
        have e1 := h1 w hw
        have e2 := h2 w hw
        cases hxx : x.F (w.foldl x.δ 0) <;> cases hyy : y.F (w.foldl y.δ 0) <;> simp_all
      rw [this] at hcx2
      exact hcx2.unique hcy2
    · intro e
      have : x.L 0 = y.L 0 := by rw [← hLx, ← hLy, e]
      have := (L_eq hx hy).1 this
      exact ⟨fun w hw h => by rw [← this w hw]; exact h, fun w hw h => by rw [this w hw]; exact h⟩
  have hfx := f_dfa_Form hx (by omega) hcx1
  have hfy := f_dfa_Form hy (by omega) hcy1
  have hfz := f_dfa_Form hcx (by omega) hcz1
  have he1 := f_ref11_Equal hcx hcy (by omega) (by omega) _ hboth
  have he2 := f_ref11_Equal hcx hcx (by omega) (by omega) true (by simp)
  have hlives := f_law11_lives
  obtain ⟨b1, hb1⟩ : ∃ b1, b1 = r1.isNone := ⟨_, rfl⟩
  obtain ⟨b2, hb2⟩ : ∃ b2, b2 = r2.isNone := ⟨_, rfl⟩
  rw [← hb1, ← hb2] at he1
  rw [← hb1] at hw1
  rw [← hb2] at hw2
  clear hboth hb1 hb2 hn1 hn2 hr1 hr2 hr3 hr3g hcx1 hcx2 hcy1 hcy2 hcz1 hcz2 hLx hLy
  simp [Aut.c] at hgx hgy hw1 hw2 hsame hfx hfy hfz he1 he2
  cases b1
  all_goals
    simp (disch := omega) [-List.reduceReplicate]
    refine wcall_pure hgx (by simp) fun _ => ?_
    simp (disch := omega) [-List.reduceReplicate, Aut.c]
    refine wcall_pure hgy (by simp) fun _ => ?_
    simp (disch := omega) [-List.reduceReplicate, Aut.c]
    refine wcall_flat hw1 rfl fun _ => ?_
    simp (disch := omega) [-List.reduceReplicate]
    try refine wcall_flat hw2 rfl fun _ => ?_
    try simp (disch := omega) [-List.reduceReplicate]
    refine wcall_pure hfx (by simp) fun _ => ?_
    simp (disch := omega) [-List.reduceReplicate, Aut.c]
    refine wcall_pure hfz (by simp) fun _ => ?_
    simp (disch := omega) [-List.reduceReplicate, Aut.c]
    refine wcallD_pure hfy (by simp) ?_
    simp (disch := omega) [-List.reduceReplicate]
    refine wcallD_flat he1 rfl ?_
    simp (disch := omega) [-List.reduceReplicate]
    refine wcallD_flat he2 rfl ?_
    simp (disch := omega) [-List.reduceReplicate]
    refine wcallD_flat hsame rfl ?_
    simp (disch := omega) [-List.reduceReplicate]
    refine wcallD_flat hlives rfl ?_
    simp (disch := omega) [-List.reduceReplicate]
end Go.Abs
set_option linter.unusedVariables false
set_option linter.unusedSimpArgs false
set_option maxHeartbeats 4000000
set_option maxRecDepth 100000
namespace Go.Abs
open Go.Proofs Go.Aut
attribute [-simp] getElem?_pos Option.not_isSome List.map_map
attribute [local simp] Aut.c
def wpH (a b : Aut) (rows : List (List Nat)) (l : List (Nat × Nat)) : List (Option Ob) := [some (.box (Aut.c a)), some (.box (Aut.c b)), some (.box [.ref 4 0, .ref 5 l.length]), some (.arr ty_Iint 1 (rows.map rowN)), some (.mp ktP (ents pV 0 l)), some (.arr ty_dfa_pair 2 (l.map pV))]
def wpI (a b : Aut) (rows : List (List Nat)) (l : List (Nat × Nat)) (acc : List Nat) (last : Nat × Nat) : List (Option Ob) := [some (.box (Aut.c a)), some (.box (Aut.c b)), some (.box [.ref 6 0, .ref 7 l.length]), some (.arr ty_Iint 1 (rows.map rowN)), some (.arr ty_int 1 (fillR acc)), some (.box [nV last.1, nV last.2]), some (.mp ktP (ents pV 0 l)), some (.arr ty_dfa_pair 2 (l.map pV))]
theorem f_walk_pair {a b : Aut} (ha : a.ok) (hb : b.ok) (most : Nat) (hm : most ≤ 100000) (list : List (Nat × Nat)) (rows : List (List Nat)) (hw : walkP eqB (stepP2 a b) (0, 0) most = some (list, rows)) :
    FnH Tryd.prog n_dfa_walkIdfa_pair [1] [pV (0, 0), .fn (.func n_dfa_both_1) [] [.ptr 0 0, .ptr 1 0], nV most] [some (.box (Aut.c a)), some (.box (Aut.c b))] (.tup [.ref 2 list.length, .ref 3 rows.length, .bool true]) [some (.box (Aut.c a)), some (.box (Aut.c b)), some (.arr ty_dfa_pair 2 (list.map pV)), some (.arr ty_Iint 1 (rows.map rowN))] := by
  refine FnH.of_image mixed h_dfa_walkIdfa_pair i_dfa_walkIdfa_pair rfl fun ho hh => ?_
  unfold c_dfa_walkIdfa_pair
  clear ho hh
  have hnl : a.next.length = a.n := rfl
  have hnl2 : b.next.length = b.n := rfl
  have hmeet := f_meet_pair (0, 0)
  simp [pV] at hmeet
  simp (disch := omega) [-List.reduceReplicate, pV]
  refine wcallH_mk [] 0 [] (by simp) (by simp) (by simp) (by simp) hmeet (by simp) fun _ _ => ?_
  simp (disch := omega) [-List.reduceReplicate]
  refine W_loop (fun (x : Nat × Nat × List (Nat × Nat) × List (List Nat)) => ⟨[(1, .fn (.func n_dfa_both_1) [] [.ptr 0 0, .ptr 1 0]), (2, nV most), (9, .ptr 2 0), (10, .ref 3 x.2.2.2.length), (11, nV x.2.1)], wpH a b x.2.2.2 x.2.2.1⟩)
    (fun x => (∀ q ∈ x.2.2.1, (q.1 < a.n ∧ q.2 < b.n)) ∧ Apart eqB x.2.2.1 ∧ x.2.1 ≤ x.2.2.1.length ∧ x.2.2.2.length = x.2.1 ∧ x.2.2.1.length ≤ most + 1 ∧ walkGo eqB (stepP2 a b) most x.1 x.2.1 x.2.2.1 x.2.2.2 = some (list, rows)) (fun x => x.1) [.r 10 ty_Iint 1] _ (most + 2, 0, [(0, 0)], []) rfl (by simp [wpH, ents, pV]) ⟨by simp [ha.pos, hb.pos], Apart.one _, by simp, rfl, by simp, hw⟩ ?_
  rintro ⟨f, i, l, rw⟩ ⟨hd, hap, hil, hrl, hlm, hi⟩ N hN
  simp only at hd hap hil hrl hlm hi
  cases f with
  | zero => simp [walkGo] at hi
  | succ f =>
  simp only [walkGo] at hi
  rcases Nat.lt_or_ge i l.length with hlt | hge
  · obtain ⟨q, hq⟩ := get_lt hlt
    rw [hq] at hi
    simp only at hi
    have hqn := hd q (List.mem_of_getElem? hq)
    obtain ⟨T, hT⟩ : ∃ T, T = rowGo eqB (stepP2 a b q) 95 0 l := ⟨_, rfl⟩
    rw [← hT] at hi
    replace hi := hid hi
    simp (disch := omega) [-List.reduceReplicate, wpH, hq, pV]
    refine W_loop (fun (x : List Nat × List (Nat × Nat) × (Nat × Nat) × Nat) => ⟨[(1, .fn (.func n_dfa_both_1) [] [.ptr 0 0, .ptr 1 0]), (2, nV most), (9, .ptr 2 0), (10, .ref 3 rw.length), (11, nV i), (12, .ref 4 95), (13, .ptr 5 0), (14, nV x.2.2.2), (39, .int .i64 95), (40, nV x.1.length)], wpI a b rw x.2.1 x.1 x.2.2.1⟩)
      (fun x => (∀ q ∈ x.2.1, (q.1 < a.n ∧ q.2 < b.n)) ∧ x.1.length ≤ 95 ∧ x.2.1[i]? = some q ∧ x.2.1.length ≤ most + 1 + x.1.length ∧ pos eqB x.2.2.1 x.2.1 = some x.2.2.2 ∧ (x.1 ++ (rowGo eqB (stepP2 a b q) (95 - x.1.length) x.1.length x.2.1).1, (rowGo eqB (stepP2 a b q) (95 - x.1.length) x.1.length x.2.1).2) = T)
      (fun x => 95 - x.1.length) [] _ ([], l, q, i) rfl (by simp [wpI, fillR_nil, pV]) ⟨hd, by simp, hq, by simp; omega, pos_eqB hap hq, by simp [hT]⟩ ?_
    rintro ⟨acc, l', last, num⟩ ⟨hd', hc, hq', hl', hp, hi'⟩ M hM
    simp only at hd' hc hq' hl' hp hi'
    have hil' := (List.getElem?_eq_some_iff.1 hq').1
    rcases Nat.lt_or_ge acc.length 95 with hc95 | hc95
    · obtain ⟨rr, t1, hr1, hr2, hr3, hr4⟩ := ha.rows.dl (q := q.1) (c := acc.length) (by omega) hc95
      obtain ⟨rr2, t2, hr5, hr6, hr7, hr8⟩ := hb.rows.dl (q := q.2) (c := acc.length) (by omega) hc95
      have hof := f_dfa_both_1 (a := a) (b := b) (p := q) hr1 hr2 hr5 hr6
      obtain ⟨to, ht⟩ : ∃ to : Nat × Nat, to = (t1, t2) := ⟨_, rfl⟩
      have htoe : to = stepP2 a b q acc.length := by rw [ht]; exact (Prod.ext hr3 hr7).symm
      have hton : to.1 < a.n ∧ to.2 < b.n := by rw [ht]; exact ⟨hr4, hr8⟩
      rw [← ht] at hof
      obtain ⟨m', hm'⟩ : ∃ m', 95 - acc.length = m' + 1 := ⟨94 - acc.length, by omega⟩
      have hm2 : 95 - (acc.length + 1) = m' := by omega
      rw [hm'] at hi'
      simp only [rowGo, ← htoe] at hi'
      have hset := fillR_set hc95
      have hfl := fillR_len (acc := acc) (by omega)
      have hek : eqK (V.strct [V.int IntKind.i64 (to.1 : Int), V.int IntKind.i64 (to.2 : Int)]) (V.strct [V.int IntKind.i64 (last.1 : Int), V.int IntKind.i64 (last.2 : Int)]) = decide (to = last) := by simpa [pV] using eqK_pV to last
      have hadd := f_met_add_pair l' to (by omega)
      simp [pV] at hadd hof
      replace hi' := hid hi'
      simp (disch := omega) [-List.reduceReplicate, wpI, hq', pV]
      refine wcallH_mk [2, 3] 2 [0, 1] (by simp) (by simp) (by simp) (by simp) hof (by simp) fun _ _ => ?_
      simp (disch := omega) [-List.reduceReplicate, fitsK, aggV, kOfs, kOf, somes, hek]
      have next : ∀ (num' : Nat) (last' : Nat × Nat), pos eqB last' (addL eqB l' to) = some num' → num' = addN eqB l' to → ∀ τ : St, τ.nrm [1, 2, 9, 10, 11, 12, 13, 14, 39, 40] = ⟨[(1, .fn (.func n_dfa_both_1) [] [.ptr 0 0, .ptr 1 0]), (2, nV most), (9, .ptr 2 0), (10, .ref 3 rw.length), (11, nV i), (12, .ref 4 95), (13, .ptr 5 0), (14, nV num'), (39, .int .i64 95), (40, .int .i64 ((acc.length : Int) + 1))], wpI a b rw (addL eqB l' to) (acc ++ [num']) last'⟩ → M τ := by
        intro num' last' h1 h2 τ hτ
        have h3 := addL_le l' to
        refine hM.out τ <| Nx.mk (acc ++ [num'], addL eqB l' to, last', num') (by simpa using hτ) ⟨?_, by simp; omega, addL_get hq', by simp; omega, h1, ?_⟩ (by simp; omega)
        · intro x hx
          rcases addL_mem hx with hx | rfl
          · exact hd' x hx
          · exact hton
        · have := hi'.out
          rw [← this]
          simp [hm2, h2]
      replace next := hid next
      by_cases hlt2 : to = last
      · subst hlt2
        obtain ⟨e1, e2⟩ := add_some hp
        have hs := hset num
        simp only [nV] at hs
        simp (disch := omega) [-List.reduceReplicate, hfl, hs, fillR_get hc95]
        exact next.out num to (by rw [e2]; exact hp) e1.symm _ (by simp [wpI, e2])
      · simp (disch := omega) [-List.reduceReplicate, hlt2]
        refine wboth_one ⟨[(1, .fn (.func n_dfa_both_1) [] [.ptr 0 0, .ptr 1 0]), (2, nV most), (9, .ptr 2 0), (10, .ref 3 rw.length), (11, nV i), (12, .ref 4 95), (13, .ptr 5 0), (14, nV (addN eqB l' to)), (15, nV acc.length), (39, .int .i64 95), (40, nV acc.length)], wpI a b rw (addL eqB l' to) acc to⟩ (fun F hF => ?_) ?_
        · simp [wpI] at hF
          refine wbothK.mk ?_ ?_
          · simp (disch := omega) [-List.reduceReplicate]
            refine wcallHD_mk [0] 1 [2, 6, 7] (by simp) (by simp) (by simp) (by simp) hadd (by simp) ?_
            simp (disch := omega) [-List.reduceReplicate]
            exact hF
          · simp (disch := omega) [-List.reduceReplicate]
            refine wcallHD_mk [0] 1 [2, 6, 7] (by simp) (by simp) (by simp) (by simp) hadd (by simp) ?_
            simp (disch := omega) [-List.reduceReplicate]
            exact hF
        have hs := hset (addN eqB l' to)
        simp only [nV] at hs
        simp (disch := omega) [-List.reduceReplicate, wpI, hfl, hs, fillR_get hc95]
        exact next.out _ to (pos_add l' to) rfl _ (by simp [wpI])
    · have hacc : acc.length = 95 := by omega
      have h0 : 95 - acc.length = 0 := by omega
      rw [h0] at hi'
      simp only [rowGo, List.append_nil] at hi'
      subst hi'
      have hi2 := hi.out
      simp only at hi2
      split at hi2
      · cases hi2
      · rename_i hle
        have hf := fillR_full hacc
        have hfl : (fillR acc).length = 95 := fillR_len (by omega)
        have hil' := (List.getElem?_eq_some_iff.1 hq').1
        simp (disch := omega) [-List.reduceReplicate, wpI, hacc, hfl]
        refine hN.out _ <| Nx.mk (f, i + 1, l', rw ++ [acc]) (by simp [wpH, hf, hrl]) ⟨hd', ?_, by simp only; omega, by simp [hrl], by simp only; omega, hi2⟩ (by simp only; omega)
        have := rowGo_apart (e := eqB) (stepP2 a b q) 95 0 l hap
        rw [← hT] at this
        exact this
  · have hil2 : i = l.length := by omega
    rw [List.getElem?_eq_none (by omega)] at hi
    simp only [Option.some.injEq, Prod.mk.injEq] at hi
    obtain ⟨rfl, rfl⟩ := hi
    subst hil2
    simp (disch := omega) [-List.reduceReplicate, wpH]
end Go.Abs
set_option linter.unusedVariables false
set_option linter.unusedSimpArgs false
set_option maxHeartbeats 8000000
set_option maxRecDepth 100000
namespace Go.Abs
open Go.Proofs Go.Aut
attribute [-simp] getElem?_pos Option.not_isSome List.map_map
def c_ref11_Form_r : AC :=
  Q [.reg [bx 1 0, o1 2 (.alc [.nil 1, .nil 1])] [1, 2],
  .reg [la 14 1 2, ca 15 42 [14], m 3 15] [1, 2, 3],
  .reg [o1 16 (.ltr 3 1 [.v (.int .i64 0)]), m 4 16] [1, 2, 3, 4],
  .reg [o1 5 (.alc [.nil 1, .nil 1])] [1, 2, 3, 4, 5],
  Q [.reg [mi 6 0] [1, 2, 3, 4, 5, 6],
   .block 0 (.loop [1, 2, 3, 4, 5, 6] (Q [Q [.reg [m 17 6, m 18 4, lq 19 18, bt 20 .lss 17 19] [1, 2, 3, 4, 5, 6, 20],
       C 20 (.skip) (.exit 0)],
      .block 1 (Q [.reg [m 23 4, m 24 6, ia 25 23 24 1, l1 26 25, m 7 26] [1, 2, 3, 4, 5, 6, 7],
        .reg [mv 8 (.nil 1)] [1, 2, 3, 4, 5, 6, 7, 8],
        Q [.reg [mi 9 0] [1, 2, 3, 4, 5, 6, 7, 8, 9],
         .block 2 (.loop [1, 2, 3, 4, 5, 6, 7, 8, 9] (Q [Q [.reg [m 27 9, bi 28 .lss 27 95] [1, 2, 3, 4, 5, 6, 7, 8, 9, 28],
             C 28 (.skip) (.exit 2)],
            .block 3 (Q [.reg [fa 31 1 0, l1 32 31, m 33 7, ia 34 32 33 1, l1 35 34, m 36 9, ia 37 35 36 1, l1 38 37, m 10 38] [1, 2, 3, 4, 5, 6, 7, 8, 9, 10],
              .reg [mi 11 (-1)] [1, 2, 3, 4, 5, 6, 7, 8, 9, 10, 11],
              Q [.reg [mi 12 0] [1, 2, 3, 4, 5, 6, 7, 8, 9, 10, 11, 12],
               .block 4 (.loop [1, 2, 3, 4, 5, 6, 7, 8, 9, 10, 11, 12] (Q [Q [.reg [m 39 12, m 40 4, lq 41 40, bt 42 .lss 39 41, m 43 42, gt 43 (m 44 11), gt 43 (bi 45 .lss 44 0), pa 46 43 45] [1, 2, 3, 4, 5, 6, 7, 8, 9, 10, 11, 12, 46],
                   C 46 (.skip) (.exit 4)],
                  .block 5 (Q [.reg [m 49 4, m 50 12, ia 51 49 50 1, l1 52 51, m 13 52] [1, 2, 3, 4, 5, 6, 7, 8, 9, 10, 11, 12, 13],
                    .reg [m 53 3, m 54 13, ia 55 53 54 1, l1 56 55, m 57 10, ia 58 56 57 1, l1 59 58, nt' 60 59] [1, 2, 3, 4, 5, 6, 7, 8, 9, 10, 11, 12, 60],
                    C 60 (.reg [m 61 12, m 11 61] [1, 2, 3, 4, 5, 6, 7, 8, 9, 10, 11, 12]) (.skip)]),
                  .reg [m 47 12, bi 48 .add 47 1, m 12 48] [1, 2, 3, 4, 5, 6, 7, 8, 9, 10, 11, 12]]))],
              Q [.reg [m 62 11, bi 63 .lss 62 0] [1, 2, 3, 4, 5, 6, 7, 8, 9, 10, 11, 63],
               C 63 (Q [.reg [m 64 4, lq 65 64, m 11 65] [1, 2, 3, 4, 5, 6, 7, 8, 9, 10, 11],
                 .reg [m 66 4, m 67 10, o1 68 (.ltr 3 1 [.t 67]), o1 69 (.app (.t 66) (.t 68) 3 1 8), m 4 69] [1, 2, 3, 4, 5, 6, 7, 8, 9, 11]]) (.skip)],
              .reg [m 70 8, m 71 11, o1 72 (.ltr 3 1 [.t 71]), o1 73 (.app (.t 70) (.t 72) 3 1 8), m 8 73] [1, 2, 3, 4, 5, 6, 7, 8, 9]]),
            .reg [m 29 9, bi 30 .add 29 1, m 9 30] [1, 2, 3, 4, 5, 6, 7, 8, 9]]))],
        .reg [fa 74 5 0, l1 75 74, m 76 8, o1 77 (.lit 43 1 [.t 76]), o1 78 (.app (.t 75) (.t 77) 43 1 24), fa 79 5 0, st 1 79 78] [1, 2, 3, 4, 5, 6, 7],
        .regD [fa 80 5 1, l1 81 80, fa 82 1 1, l1 83 82, m 84 7, ia 85 83 84 1, l1 86 85, o1 87 (.lit 4 1 [.t 86]), o1 88 (.app (.t 81) (.t 87) 4 1 1), fa 89 5 1, st 1 89 88] [1, 2, 3, 4, 5, 6]]),
      .reg [m 21 6, bi 22 .add 21 1, m 6 22] [1, 2, 3, 4, 5, 6]]))],
  .reg [la 90 5 2, st 2 2 90] [2],
  .ret]
theorem i_ref11_Form_r : imageE Tryd.prog Tryd.f24 [] [2000003] [[1, 2], [1, 2, 3], [1, 2, 3, 4], [1, 2, 3, 4, 5], [1, 2, 3, 4, 5, 6], [1, 2, 3, 4, 5, 6], [1, 2, 3, 4, 5, 6, 20], [1, 2, 3, 4, 5, 6, 7], [1, 2, 3, 4, 5, 6, 7, 8], [1, 2, 3, 4, 5, 6, 7, 8, 9], [1, 2, 3, 4, 5, 6, 7, 8, 9], [1, 2, 3, 4, 5, 6, 7, 8, 9, 28], [1, 2, 3, 4, 5, 6, 7, 8, 9, 10], [1, 2, 3, 4, 5, 6, 7, 8, 9, 10, 11], [1, 2, 3, 4, 5, 6, 7, 8, 9, 10, 11, 12], [1, 2, 3, 4, 5, 6, 7, 8, 9, 10, 11, 12], [1, 2, 3, 4, 5, 6, 7, 8, 9, 10, 11, 12, 46], [1, 2, 3, 4, 5, 6, 7, 8, 9, 10, 11, 12, 13], [1, 2, 3, 4, 5, 6, 7, 8, 9, 10, 11, 12, 60], [1, 2, 3, 4, 5, 6, 7, 8, 9, 10, 11, 12], [1, 2, 3, 4, 5, 6, 7, 8, 9, 10, 11, 12], [1, 2, 3, 4, 5, 6, 7, 8, 9, 10, 11, 63], [1, 2, 3, 4, 5, 6, 7, 8, 9, 10, 11], [1, 2, 3, 4, 5, 6, 7, 8, 9, 11], [1, 2, 3, 4, 5, 6, 7, 8, 9], [1, 2, 3, 4, 5, 6, 7, 8, 9], [1, 2, 3, 4, 5, 6, 7], [0, 0, 1, 0, 4, 0, 28, 60, 124, 255, 511, 1023], [0, 1, 2, 3, 4, 5, 6, 7, 8, 9, 10], [1, 2, 3, 4, 5, 6], [1, 2, 3, 4, 5, 6], [2]] 1 = some (c_ref11_Form_r, [.c 2 2 true]) := by kernel_rfl
/-- Of one language. -/
noncomputable def eL (a : Aut) (x y : Nat) : Bool := eqB (a.L x) (a.L y)
theorem eL_iff {a : Aut} {x y : Nat} : eL a x y = true ↔ a.L x = a.L y := eqB_iff
theorem pos_drop {e : Nat → Nat → Bool} {k : Nat} : ∀ {l : List Nat} {j : Nat} {x : Nat}, l[j]? = some x → pos e k (l.drop j) = if e x k = true then some 0 else (pos e k (l.drop (j + 1))).map (· + 1) := fun {l j x} h => by
  have := drop_cons h
  rw [this]; rfl
theorem opt_shift (p : Option Nat) (j : Nat) : (p.map (· + 1)).map (· + j) = p.map (· + (j + 1)) := by
  cases p with
  | none => rfl
  | some x => simp only [Option.map_some, Option.some.injEq]; omega
def atZ : Option Nat → Int
  | none => -1
  | some k => k
theorem f_ref11_Form {a : Aut} (ha : a.ok) (hn : a.n ≤ 500) {list : List Nat} {rows : List (List Nat)} (hw : walkGo (eL a) a.δ a.n (a.n + 2) 0 [0] [] = some (list, rows)) : Fn Tryd.prog n_ref11_Form [.strct (Aut.c a)] (.strct (Aut.c ⟨rows, list.map a.F⟩)) := by
  refine Fn.of_imageE mixed h_ref11_Form i_ref11_Form_r rfl fun ho => ?_
  unfold c_ref11_Form_r
  clear ho
  have hnl : a.next.length = a.n := rfl
  have hfl : a.final.length = a.n := ha.fin
  have hap := f_ref11_Apart ha hn (fun x y => !eL a x y) fun i j _ _ => by
    simp only [Bool.not_eq_false']; exact eL_iff
  obtain ⟨R, hR⟩ : ∃ R, R = V.strct (Aut.c ⟨rows, list.map a.F⟩) := ⟨_, rfl⟩
  rw [← hR]
  simp [Aut.c] at hap
  simp (disch := omega) [-List.reduceReplicate, Aut.c, hnl]
  refine wcall_new hap fun _ => ?_
  have hD : ∀ q c, q < a.n → c < 95 → a.δ q c < a.n := fun q c hq hc => ha.lt hq hc
  have hR0 : R = V.strct (Aut.c ⟨rows, list.map a.F⟩) := hR
  clear hR hap
  simp (disch := omega) [-List.reduceReplicate, matV]
  obtain ⟨AP, hAP⟩ : ∃ AP, AP = (tab a.n fun i => V.seq 1 (rowV a.n fun y => !eL a i y)) := ⟨_, rfl⟩
  have hget : ∀ i, i < a.n → AP[i]? = some (.seq 1 (rowV a.n fun y => !eL a i y)) := fun i hi => by rw [hAP]; exact tab_get hi
  have hAPl : AP.length = a.n := by rw [hAP]; exact tab_len
  simp only [← hAP]
  clear hAP
  refine W_loop (fun (x : Nat × Nat × List Nat × List (List Nat)) => ⟨[(1, .ptr 0 0), (2, .ptr 1 0), (3, .seq 1 AP), (4, .ref 2 x.2.2.1.length), (5, .ptr 3 0), (6, nV x.2.1)], [some (.box (Aut.c a)), some (.box [.nil 1, .nil 1])] ++ [some (.arr ty_int 1 (x.2.2.1.map nV))] ++ [some (.box [.ref 4 x.2.2.2.length, .ref 5 x.2.2.2.length]), some (.arr ty_Iint 1 (x.2.2.2.map rowN)), some (.arr ty_bool 1 ((x.2.2.1.take x.2.1).map fun q => V.bool (a.F q)))]⟩)
    (fun x => (∀ q ∈ x.2.2.1, q < a.n) ∧ x.2.1 ≤ x.2.2.1.length ∧ x.2.2.2.length = x.2.1 ∧ x.2.2.1.length ≤ a.n + 1 ∧ walkGo (eL a) a.δ a.n x.1 x.2.1 x.2.2.1 x.2.2.2 = some (list, rows)) (fun x => x.1) [.b 3 0 ty_Iint 1, .b 3 1 ty_bool 1] _ (a.n + 2, 0, [0], []) rfl (by simp [Aut.c]) ⟨by simpa using ha.pos, by simp, rfl, by simp, hw⟩ ?_
  rintro ⟨f, i, l, rw⟩ ⟨hd, hil, hrl, hlm, hi⟩ N hN
  simp only at hd hil hrl hlm hi
  cases f with
  | zero => simp [walkGo] at hi
  | succ f =>
  simp only [walkGo] at hi
  rcases Nat.lt_or_ge i l.length with hlt | hge
  · obtain ⟨q, hq⟩ := get_lt hlt
    rw [hq] at hi
    simp only at hi
    have hqn := hd q (List.mem_of_getElem? hq)
    obtain ⟨b, hb⟩ := get_lt (l := a.final) (k := q) (by omega)
    have hF : a.F q = b := by simp [Aut.F, fin, hb]
    obtain ⟨T, hT⟩ : ∃ T, T = rowGo (eL a) (a.δ q) 95 0 l := ⟨_, rfl⟩
    rw [← hT] at hi
    replace hi := hid hi
    obtain ⟨FSk, hFS⟩ : ∃ FSk, FSk = (l.take i).map fun q => V.bool (a.F q) := ⟨_, rfl⟩
    have hFSl : FSk.length = i := by rw [hFS]; simp; omega
    simp (disch := omega) [-List.reduceReplicate, Aut.c, hq, ← hFS]
    refine W_loop (fun (x : List Nat × List Nat) => ⟨[(1, .ptr 0 0), (2, .ptr 1 0), (3, .seq 1 AP), (4, .ref 2 x.2.length), (5, .ptr 3 0), (6, nV i), (7, nV q), (8, .ref 4 x.1.length), (9, nV x.1.length)], [some (.box (Aut.c a)), some (.box [.nil 1, .nil 1])] ++ [some (.arr ty_int 1 (x.2.map nV))] ++ [some (.box [.ref 5 rw.length, .ref 6 rw.length]), some (.arr ty_int 1 (x.1.map nV)), some (.arr ty_Iint 1 (rw.map rowN)), some (.arr ty_bool 1 FSk)]⟩)
      (fun x => (∀ q ∈ x.2, q < a.n) ∧ x.1.length ≤ 95 ∧ x.2[i]? = some q ∧ x.2.length ≤ a.n + 1 + x.1.length ∧ (x.1 ++ (rowGo (eL a) (a.δ q) (95 - x.1.length) x.1.length x.2).1, (rowGo (eL a) (a.δ q) (95 - x.1.length) x.1.length x.2).2) = T)
      (fun x => 95 - x.1.length) [.r 8 ty_int 1] _ ([], l) rfl (by simp [Aut.c]) ⟨hd, by simp, hq, by simp; omega, by simp [hT]⟩ ?_
    rintro ⟨acc, l'⟩ ⟨hd', hc, hq', hl', hi'⟩ M hM
    simp only at hd' hc hq' hl' hi'
    have hil' := (List.getElem?_eq_some_iff.1 hq').1
    rcases Nat.lt_or_ge acc.length 95 with hc95 | hc95
    · obtain ⟨rr, t, hr1, hr2, hr3, hr4⟩ := ha.rows.dl (q := q) (c := acc.length) hqn hc95
      have hδ : a.δ q acc.length = t := hr3
      have ht4 : t < a.n := hr4
      obtain ⟨m', hm'⟩ : ∃ m', 95 - acc.length = m' + 1 := ⟨94 - acc.length, by omega⟩
      have hm2 : 95 - (acc.length + 1) = m' := by omega
      rw [hm'] at hi'
      simp only [rowGo, hδ] at hi'
      have next : ∀ (τ : St), τ.nrm [1, 2, 3, 4, 5, 6, 7, 8, 9] = ⟨[(1, .ptr 0 0), (2, .ptr 1 0), (3, .seq 1 AP), (4, .ref 2 (addL (eL a) l' t).length), (5, .ptr 3 0), (6, nV i), (7, nV q), (8, .ref 4 (acc.length + 1)), (9, .int .i64 ((acc.length : Int) + 1))], [some (.box (Aut.c a)), some (.box [.nil 1, .nil 1])] ++ [some (.arr ty_int 1 ((addL (eL a) l' t).map nV))] ++ [some (.box [.ref 5 rw.length, .ref 6 rw.length]), some (.arr ty_int 1 ((acc ++ [addN (eL a) l' t]).map nV)), some (.arr ty_Iint 1 (rw.map rowN)), some (.arr ty_bool 1 FSk)]⟩ → M τ := by
        intro τ hτ
        have h3 : (addL (eL a) l' t).length ≤ l'.length + 1 := by unfold addL; split <;> simp
        refine hM.out τ <| Nx.mk (acc ++ [addN (eL a) l' t], addL (eL a) l' t) (by simpa using hτ) ⟨?_, by simp; omega, ?_, by simp; omega, ?_⟩ (by simp; omega)
        · intro x hx
          rcases addL_mem hx with hx | rfl
          · exact hd' x hx
          · exact ht4
        · obtain ⟨u, hu⟩ := addL_pre (e := eL a) l' t
          simp only [hu]
          rw [List.getElem?_append_left hil']; exact hq'
        · rw [← hi']
          simp [hm2]
      replace next := hid next
      replace hi' := hid hi'
      simp (disch := omega) [-List.reduceReplicate, Aut.c, hr1, hr2]
      refine W_loop (fun (x : Nat × Option Nat) => ⟨[(1, .ptr 0 0), (2, .ptr 1 0), (3, .seq 1 AP), (4, .ref 2 l'.length), (5, .ptr 3 0), (6, nV i), (7, nV q), (8, .ref 4 acc.length), (9, nV acc.length), (10, nV t), (11, .int .i64 (atZ x.2)), (12, nV x.1)], [some (.box (Aut.c a)), some (.box [.nil 1, .nil 1])] ++ [some (.arr ty_int 1 (l'.map nV))] ++ [some (.box [.ref 5 rw.length, .ref 6 rw.length]), some (.arr ty_int 1 (acc.map nV)), some (.arr ty_Iint 1 (rw.map rowN)), some (.arr ty_bool 1 FSk)]⟩)
        (fun x => x.1 ≤ l'.length ∧ (x.2 = none → pos (eL a) t l' = (pos (eL a) t (l'.drop x.1)).map (· + x.1)) ∧ ∀ k, x.2 = some k → pos (eL a) t l' = some k ∧ k < x.1) (fun x => l'.length - x.1) [] _ (0, none) rfl (by simp [Aut.c, atZ]) ⟨by simp, by simp, by simp⟩ ?_
      rintro ⟨j, at'⟩ ⟨hj, hno, hyes⟩ Q hQ
      simp only at hj hno hyes
      cases at' with
      | some k =>
        obtain ⟨hk, hkj⟩ := hyes k rfl
        have e1 : addN (eL a) l' t = k := by simp [addN, hk]
        have e2 : addL (eL a) l' t = l' := by simp [addL, hk]
        rw [e1, e2] at next
        have hat : ¬(k : Int) < 0 := by omega
        rcases Nat.lt_or_ge j l'.length with hjl | hjl
        all_goals
          simp (disch := omega) [-List.reduceReplicate, Aut.c, atZ, hat]
          exact next.out _ (by simp [Aut.c])
      | none =>
        rcases Nat.lt_or_ge j l'.length with hjl | hjl
        · obtain ⟨o, ho⟩ := get_lt (l := l') (k := j) hjl
          have hon := hd' o (List.mem_of_getElem? ho)
          have hpd := pos_drop (e := eL a) (k := t) ho
          rw [hpd] at hno
          have hno := hno rfl
          cases he : eL a o t with
          | true =>
            have hno : pos (eL a) t l' = some j := by rw [hno]; simp [he]
            simp (disch := omega) [-List.reduceReplicate, Aut.c, atZ, ho, hget, he]
            exact hQ.out _ <| Nx.mk (j + 1, some j) (by simp [Aut.c, atZ]) ⟨by simp only; omega, by simp, fun k hk => by
              simp only [Option.some.injEq] at hk
              subst hk
              exact ⟨hno, by simp only; omega⟩⟩ (by simp only; omega)
          | false =>
            simp only [he, Bool.false_eq_true, if_false] at hno
            rw [opt_shift] at hno
            simp (disch := omega) [-List.reduceReplicate, Aut.c, atZ, ho, hget, he]
            exact hQ.out _ <| Nx.mk (j + 1, none) (by simp [Aut.c, atZ]) ⟨by simp only; omega, fun _ => hno, by simp⟩ (by simp only; omega)
        · have hjl2 : j = l'.length := by omega
          subst hjl2
          have hnone : pos (eL a) t l' = none := by rw [hno rfl]; simp [pos]
          have e1 : addN (eL a) l' t = l'.length := by simp [addN, hnone]
          have e2 : addL (eL a) l' t = l' ++ [t] := by simp [addL, hnone]
          rw [e1, e2] at next
          simp (disch := omega) [-List.reduceReplicate, Aut.c, atZ]
          refine next.out _ ?_
          simp [Aut.c]
    · have hacc : acc.length = 95 := by omega
      have h0 : 95 - acc.length = 0 := by omega
      rw [h0] at hi'
      simp only [rowGo, List.append_nil] at hi'
      subst hi'
      have hi2 := hi.out
      have hpre : ∃ u, l' = l ++ u := by
        obtain ⟨u, hu⟩ := rowGo_pre (e := eL a) (a.δ q) 95 0 l
        rw [← hT] at hu
        exact ⟨u, hu⟩
      have htl : l'.take i = l.take i := by
        obtain ⟨u, rfl⟩ := hpre
        rw [List.take_append_of_le_length (by omega)]
      simp only at hi2
      split at hi2
      · cases hi2
      · rename_i hle
        have htk := take_snoc hq'
        simp (disch := omega) [-List.reduceReplicate, Aut.c, hacc, hb, hFSl, hrl]
        refine hN.out _ <| Nx.mk (f, i + 1, l', rw ++ [acc]) (by rw [htk, htl]; simp only [List.map_append, ← hFS]; simp [Aut.c, hF, hrl]) ⟨hd', by simp only; omega, by simp [hrl], by simp only; omega, hi2⟩ (by simp only; omega)
  · have : i = l.length := by omega
    subst this
    rw [List.getElem?_eq_none (by omega)] at hi
    simp only [Option.some.injEq, Prod.mk.injEq] at hi
    obtain ⟨rfl, rfl⟩ := hi
    simp (disch := omega) [-List.reduceReplicate, Aut.c, hR0]
    rw [List.map_map]; rfl
end Go.Abs
set_option linter.unusedVariables false
set_option linter.unusedSimpArgs false
set_option maxHeartbeats 4000000
set_option maxRecDepth 100000
namespace Go.Abs
open Go.Proofs Go.Aut
attribute [-simp] getElem?_pos Option.not_isSome List.map_map
theorem f_dfa_Common {a b : Aut} (ha : a.ok) (hb : b.ok) (han : a.n ≤ 100) (hbn : b.n ≤ 100) (r : Option (List Nat)) (hr : leastGo (stepP2 a b) (goodP2 a b fun x y => x && y) (a.n * b.n + 1) 0 [(0, 0)] [[]] = some r) :
    Fn Tryd.prog n_dfa_Common [.strct (Aut.c a), .strct (Aut.c b)] (resL r) := by
  refine Fn.of_image mixed h_dfa_Common i_dfa_Common rfl fun ho => ?_
  unfold c_dfa_Common
  simp only [oks, ok, and_true] at ho
  clear ho
  have hs := f_dfa_search ha hb han hbn f_Common_1 r hr
  simp [Aut.c] at hs
  simp (disch := omega) [-List.reduceReplicate, Aut.c]
  cases r with
  | none =>
    simp [resL] at hs
    refine wcall_pure hs (by simp) fun _ => ?_
    simp (disch := omega) [-List.reduceReplicate, resL]
  | some w =>
    simp [resL] at hs
    refine wcall_pure hs (by simp) fun _ => ?_
    simp (disch := omega) [-List.reduceReplicate, resL]
def finU (gd : Nat × Nat → Bool) (l : List (Nat × Nat)) (k : Nat) : List Bool := (l.take k).map gd ++ List.replicate (l.length - k) false
theorem finU_len {gd : Nat × Nat → Bool} {l : List (Nat × Nat)} {k : Nat} (h : k ≤ l.length) : (finU gd l k).length = l.length := by simp [finU]; omega
theorem finU_get {gd : Nat × Nat → Bool} {l : List (Nat × Nat)} {k : Nat} (h : k < l.length) : (finU gd l k)[k]? = some false := by
  have h1 : ((l.take k).map gd).length = k := by simp; omega
  rw [finU, List.getElem?_append_right (by omega), h1, Nat.sub_self, List.getElem?_replicate, if_pos (by omega)]
theorem finU_set {gd : Nat × Nat → Bool} {l : List (Nat × Nat)} {k : Nat} {p : Nat × Nat} (h : l[k]? = some p) : (finU gd l k).set k (gd p) = finU gd l (k + 1) := by
  have hk := (List.getElem?_eq_some_iff.1 h).1
  have h1 : ((l.take k).map gd).length = k := by simp; omega
  obtain ⟨m, hm⟩ : ∃ m, l.length - k = m + 1 := ⟨l.length - k - 1, by omega⟩
  have hm2 : l.length - (k + 1) = m := by omega
  simp only [finU, take_snoc h, hm, hm2, List.replicate_succ, List.map_append, List.map_cons, List.map_nil, List.append_assoc]
  rw [List.set_append_right _ _ (by omega), h1, Nat.sub_self]
  rfl
theorem f_dfa_And {a b : Aut} (ha : a.ok) (hb : b.ok) (han : a.n ≤ 20) (hbn : b.n ≤ 20) : ∃ c : Aut, Fn Tryd.prog n_dfa_And [.strct (Aut.c a), .strct (Aut.c b)] (.tup [.strct (Aut.c c), .int .i64 0]) ∧ IsCanon ((joinA a b false).L 0) c ∧ c.n ≤ a.n * b.n := by
  have hab : a.n * b.n ≤ 400 := Nat.le_trans (Nat.mul_le_mul han hbn) (by decide)
  obtain ⟨list, rows, hw, hI, hl0⟩ := walkP_ends eqB_refl (step := stepP2 a b) (most := 500) (D := fun q => q.1 < a.n ∧ q.2 < b.n) (fun q c hq hc => ⟨ha.lt hq.1 hc, hb.lt hq.2 hc⟩)
    (fun l h1 h2 => by have := nodup_pairs (apart_nodup h2) h1; omega) (start := (0, 0)) ⟨ha.pos, hb.pos⟩
  have hlpos : 0 < list.length := (List.getElem?_eq_some_iff.1 hl0).1
  have hlen := nodup_pairs (apart_nodup hI.apart) hI.dom
  obtain ⟨gd, hgd⟩ : ∃ gd, gd = goodP2 a b fun x y => x && y := ⟨_, rfl⟩
  obtain ⟨hA, hrun⟩ := walk_aut (good := gd) hI hlpos
  obtain ⟨A, hAe⟩ : ∃ A : Aut, A = ⟨rows, list.map gd⟩ := ⟨_, rfl⟩
  have hrl : rows.length = list.length := hI.len
  rw [← hAe] at hA hrun
  have hAn : A.n = list.length := by rw [hAe]; exact hrl
  obtain ⟨c, hc1, hc2, hc3⟩ := formP_canon hA
  have hL : A.L 0 = (joinA a b false).L 0 := by
    refine lang_ext (signsL_lang _ _ _) (signsL_lang _ _ _) fun w hw => ?_
    show A.L 0 w = (joinA a b false).L 0 w
    have hj := join_ok ha hb false
    rw [hrun w 0 (0, 0) hw hl0, (ok_run hj w 0 hw hj.pos).1, join_good ha hb w hw, hgd, run_pair]
    simp [goodP2]
  refine ⟨c, ?_, by rw [← hL]; exact hc2, by omega⟩
  have hfo := f_dfa_form hA (by omega) hc1
  rw [hAe] at hfo
  have hwk := f_walk_pair ha hb 500 (by omega) list rows hw
  have hbo := f_dfa_both (a := a) (b := b)
  have hma := f_dfa_May_ok ha (by omega)
  have hmb := f_dfa_May_ok hb (by omega)
  have hfl : a.final.length = a.n := ha.fin
  have hfl2 : b.final.length = b.n := hb.fin
  have hdom := hI.dom
  have hU0 : List.replicate list.length (V.bool false) = (finU gd list 0).map V.bool := by simp [finU, -List.reduceReplicate]
  have hUn : finU gd list list.length = list.map gd := by simp [finU]
  clear hrun hL hI hw hAe hc1 hc2
  obtain ⟨X, hX⟩ : ∃ X, X = V.tup [.strct (Aut.c c), .int .i64 0] := ⟨_, rfl⟩
  rw [← hX]
  refine Fn.of_imageE mixed h_dfa_And i_dfa_And rfl fun ho => ?_
  unfold c_dfa_And
  simp only [oks, ok, and_true] at ho
  clear ho
  simp [Aut.c] at hma hmb hbo
  simp [Aut.c, pV] at hwk
  simp (disch := omega) [-List.reduceReplicate, Aut.c]
  refine wcall_flat hma rfl fun _ => ?_
  simp (disch := omega) [-List.reduceReplicate]
  refine wcall_flat hmb rfl fun _ => ?_
  simp (disch := omega) [-List.reduceReplicate]
  refine wcallH_mk [] 0 [] (by simp) (by simp) (by simp) (by simp) hbo (by simp) fun _ _ => ?_
  simp (disch := omega) [-List.reduceReplicate]
  refine wcallH_mk [1] 2 [3, 4] (by simp) (by simp) (by simp) (by simp) hwk (by simp) fun _ _ => ?_
  simp (disch := omega) [-List.reduceReplicate, hU0]
  refine W_loop (fun k : Nat => ⟨[(2, .ptr 0 0), (3, .ptr 1 0), (4, .ptr 2 0), (7, .ref 3 rows.length), (9, .ref 4 list.length), (36, .ref 5 list.length), (37, .int .i64 list.length), (38, nV k)], [some (.box (Aut.c a)), some (.box (Aut.c b)), some (.box [.nil 1, .nil 1]), some (.arr ty_Iint 1 (rows.map rowN)), some (.arr ty_bool 1 ((finU gd list k).map V.bool)), some (.arr ty_dfa_pair 2 (list.map pV))]⟩) (fun k => k ≤ list.length) (fun k => list.length - k) [] _ 0 rfl (by simp [Aut.c]) (by simp) ?_
  intro k hk N hN
  have hfu := finU_len (gd := gd) hk
  rcases Nat.lt_or_ge k list.length with hlt | hge
  · obtain ⟨p, hp⟩ := get_lt hlt
    obtain ⟨hp1, hp2⟩ := hdom p (List.mem_of_getElem? hp)
    obtain ⟨f1, hf1⟩ := get_lt (l := a.final) (k := p.1) (by omega)
    obtain ⟨f2, hf2⟩ := get_lt (l := b.final) (k := p.2) (by omega)
    have hg : gd p = (f1 && f2) := by rw [hgd]; simp [goodP2, Aut.F, fin, hf1, hf2]
    have hset := finU_set (gd := gd) hp
    have hget := finU_get (gd := gd) hlt
    rw [hg] at hset
    cases f1
    all_goals
      simp (disch := omega) [-List.reduceReplicate, Aut.c, hp, pV, hf1, hf2, hget, hfu]
      exact hN.out _ <| Nx.mk (k + 1) (by rw [← hset]; simp [Aut.c, List.map_set, pV]) (by omega) (by omega)
  · have : k = list.length := by omega
    subst this
    rw [hUn]
    simp [nextN, finN] at hfo
    simp (disch := omega) [-List.reduceReplicate, Aut.c]
    refine wcall_kill hfo fun _ => ?_
    simp (disch := omega) [-List.reduceReplicate, hX, Aut.c]
end Go.Abs
set_option linter.unusedVariables false
set_option linter.unusedSimpArgs false
set_option maxHeartbeats 4000000
set_option maxRecDepth 100000
namespace Go.Abs
open Go.Proofs Go.Aut
attribute [-simp] getElem?_pos Option.not_isSome List.map_map
theorem exists_form {a : Aut} (ha : a.ok) : ∃ list rows, walkGo (eL a) a.δ a.n (a.n + 2) 0 [0] [] = some (list, rows) ∧ IsCanon (a.L 0) ⟨rows, list.map a.F⟩ := by
  have he : ∀ x, eL a x x = true := fun x => eL_iff.2 rfl
  have hD : ∀ q c, q < a.n → c < 95 → a.δ q c < a.n := fun q c hq hc => ha.lt hq hc
  obtain ⟨list, rows, h, _, _⟩ := walkP_ends (e := eL a) he (step := a.δ) (most := a.n) (D := fun q => q < a.n) hD
    (fun l h1 h2 => nodup_le _ l (apart_nodup fun i j x y hij hx hy => by
      have := h2 i j x y hij hx hy
      simp only [eqB, decide_eq_false_iff_not]
      rintro rfl
      rw [he] at this; cases this) h1) (start := 0) ha.pos
  exact ⟨list, rows, h, walk_canon (φ := a.L) (D := fun q => q < a.n) he (fun x y _ _ => eL_iff) hD (fun q c _ hc => lstep_lang hc) ha.pos h⟩
theorem acc_and {c x y : Aut} (h : ∀ w : List Nat, (∀ d ∈ w, d < 95) → c.F (w.foldl c.δ 0) = (x.F (w.foldl x.δ 0) && y.F (w.foldl y.δ 0))) (s : Str) : accS c 0 s = (accS x 0 s && accS y 0 s) := by
  by_cases hs : ∃ v : List Nat, (∀ d ∈ v, d < 95) ∧ s = wordS v
  · obtain ⟨v, hv, rfl⟩ := hs
    rw [acc_wordS v 0 hv, acc_wordS v 0 hv, acc_wordS v 0 hv, h v hv]
  · have no : ∀ a : Aut, accS a 0 s = false := fun a => by
      cases ha : accS a 0 s with
      | false => rfl
      | true =>
        obtain ⟨v, h1, h2, _⟩ := acc_word s 0 ha
        exact absurd ⟨v, h1, h2⟩ hs
    rw [no c, no x]; rfl
theorem bool_iff {p q : Bool} (h : p = true ↔ q = true) : p = q := by cases p <;> cases q <;> simp_all
theorem within_pair {a b : Aut} {r : Option (List Nat)} (hr : IsLeast (stepP2 a b) (0, 0) (goodP2 a b fun x y => x && !y) r) : r.isNone = true ↔ ∀ w : List Nat, (∀ c ∈ w, c < 95) → a.F (w.foldl a.δ 0) = true → b.F (w.foldl b.δ 0) = true := by
  rw [none_iff hr]
  constructor
  · intro h w hw h1
    have := h w hw
    rw [run_pair] at this
    simpa [goodP2, h1] using this
  · intro h w hw
    rw [run_pair]
    cases h1 : a.F (w.foldl a.δ 0) with
    | false => simp [goodP2, h1]
    | true => simp [goodP2, h1, h w hw h1]
theorem f_law11_DfaAnds (l1 : List (List Int)) (f1 : List Bool) (l2 : List (List Int)) (f2 : List Bool) (s : Str) : FnE Tryd.prog n_law11_DfaAnds [.seq 1 (l1.map rowZ), finN f1, .seq 1 (l2.map rowZ), finN f2, .str s] (.bool true) := by
  refine FnE.of_image mixed h_law11_DfaAnds i_law11_DfaAnds rfl fun ho => ?_
  unfold c_law11_DfaAnds
  clear ho
  obtain ⟨hx, hx5, _⟩ := goodA_ok l1 f1
  have hgx := f_ref11_Good l1 f1
  obtain ⟨x, hxd⟩ : ∃ x, x = goodA l1 f1 := ⟨_, rfl⟩
  rw [← hxd] at hx hx5 hgx
  clear hxd
  obtain ⟨hy, hy5, _⟩ := goodA_ok l2 f2
  have hgy := f_ref11_Good l2 f2
  obtain ⟨y, hyd⟩ : ∃ y, y = goodA l2 f2 := ⟨_, rfl⟩
  rw [← hyd] at hy hy5 hgy
  clear hyd
  have hfew := f_law11_few s
  have hsl : (s.take 10).length ≤ 10 := by simp; omega
  obtain ⟨s', hs'⟩ : ∃ s', s' = s.take 10 := ⟨_, rfl⟩
  rw [← hs'] at hfew hsl
  obtain ⟨c, hand, hc, hcn⟩ := f_dfa_And hx hy (by omega) (by omega)
  have hcok := hc.ok
  have hxy : x.n * y.n ≤ 25 := Nat.le_trans (Nat.mul_le_mul hx5 hy5) (by decide)
  have hjok := join_ok hx hy false
  have hjn : (joinA x y false).n ≤ 25 := by rw [join_n]; exact hxy
  have hjo := f_ref11_Join hx hy (by omega) (by omega) false
  obtain ⟨list, rows, hfw, hfc⟩ := exists_form hjok
  have hform := f_ref11_Form hjok (by omega) hfw
  rw [hfc.unique hc] at hform
  have hL : c.L 0 = (joinA x y false).L 0 := hc.lang (signsL_lang _ _ _)
  have hcF : ∀ w : List Nat, (∀ d ∈ w, d < 95) → c.F (w.foldl c.δ 0) = (x.F (w.foldl x.δ 0) && y.F (w.foldl y.δ 0)) := fun w hw => by
    rw [(L_eq hcok hjok).1 hL w hw, join_good hx hy w hw]
    simp
  have he := f_ref11_Equal hcok hcok (by omega) (by omega) true (by simp)
  obtain ⟨r1, _, hr1⟩ := exists_least (join_ok hx hy true)
  obtain ⟨r2, _, hr2⟩ := exists_least (join_ok hy hx true)
  have hw1 := f_ref11_Within hx hy (by omega) (by omega) r1 hr1
  have hw2 := f_ref11_Within hy hx (by omega) (by omega) r2 hr2
  have hn1 := within_join hx hy hr1
  have hn2 := within_join hy hx hr2
  obtain ⟨r3, hr3g, hr3⟩ := exists_pair hx hy fun x y => x && y
  have hcom := f_dfa_Common hx hy (by omega) (by omega) r3 hr3g
  obtain ⟨r4, hr4g, hr4⟩ := exists_least hcok
  have hle := f_dfa_Least hcok (by omega) r4 hr4g
  have h34 : r4 = r3 := IsLeast.unique (fun v hv => by rw [hcF v hv, run_pair]; rfl) hr4 hr3
  rw [h34] at hle
  obtain ⟨r5, hr5g, hr5⟩ := exists_pair hx hy fun x y => x && !y
  obtain ⟨r6, hr6g, hr6⟩ := exists_pair hy hx fun x y => x && !y
  obtain ⟨r7, hr7g, hr7⟩ := exists_pair hx hy fun x y => x != y
  have hwi1 := f_dfa_Within hx hy (by omega) (by omega) r5 hr5g
  have hwi2 := f_dfa_Within hy hx (by omega) (by omega) r6 hr6g
  have hsame := f_dfa_Same hx hy (by omega) (by omega) r7 hr7g
  have e5 : r5.isNone = r1.isNone := bool_iff (by rw [within_pair hr5, hn1])
  have e6 : r6.isNone = r2.isNone := bool_iff (by rw [within_pair hr6, hn2])
  have e7 : r7.isNone = (r1.isNone && r2.isNone) := bool_iff (by
    rw [same_pair hx hy hr7, Bool.and_eq_true, hn1, hn2, L_eq hx hy]
    constructor
    · intro h
      exact ⟨fun w hw h1 => by rw [← h w hw]; exact h1, fun w hw h1 => by rw [h w hw]; exact h1⟩
    · rintro ⟨h1, h2⟩ w hw
      exact bool_iff ⟨h1 w hw, h2 w hw⟩)
  rw [e5] at hwi1
  rw [e6] at hwi2
  rw [e7] at hsame
  have hfx := f_ref11_From hx (by omega) 0 hx.pos s'
  have hfy := f_ref11_From hy (by omega) 0 hy.pos s'
  have hacc := f_dfa_Accepts hcok (by omega) s'
  rw [acc_and hcF s'] at hacc
  have hlives := f_law11_lives
  obtain ⟨p, hp⟩ : ∃ p, p = accS x 0 s' := ⟨_, rfl⟩
  obtain ⟨q, hq⟩ : ∃ q, q = accS y 0 s' := ⟨_, rfl⟩
  obtain ⟨b1, hb1⟩ : ∃ b1, b1 = r1.isNone := ⟨_, rfl⟩
  obtain ⟨b2, hb2⟩ : ∃ b2, b2 = r2.isNone := ⟨_, rfl⟩
  rw [← hp] at hfx hacc
  rw [← hq] at hfy hacc
  rw [← hb1] at hw1 hwi1 hsame
  rw [← hb2] at hw2 hwi2 hsame
  obtain ⟨J, hJ⟩ : ∃ J, J = joinA x y false := ⟨_, rfl⟩
  rw [← hJ] at hjo hform
  obtain ⟨wd, ok', hwd⟩ : ∃ (wd : Str) (ok' : Bool), resL r3 = .tup [.str wd, .bool ok'] := by
    cases r3 with
    | none => exact ⟨_, _, rfl⟩
    | some w => exact ⟨_, _, rfl⟩
  rw [hwd] at hcom hle
  clear hp hq hb1 hb2 hJ hwd e5 e6 e7 hr1 hr2 hr3 hr3g hr4 hr4g hr5 hr5g hr6 hr6g hr7 hr7g hn1 hn2 h34 hL hcF hfc hfw hc hjok hs'
  simp [Aut.c] at hgx hgy hand hjo hform he hw1 hw2 hcom hle hwi1 hwi2 hsame hfx hfy hacc
  simp (disch := omega) [-List.reduceReplicate]
  refine wcall_pure hgx (by simp) fun _ => ?_
  simp (disch := omega) [-List.reduceReplicate, Aut.c]
  refine wcall_pure hgy (by simp) fun _ => ?_
  simp (disch := omega) [-List.reduceReplicate, Aut.c]
  refine wcall_pure hand (by simp) fun _ => ?_
  simp (disch := omega) [-List.reduceReplicate, Aut.c]
  refine wcallD_flat hfew rfl ?_
  simp (disch := omega) [-List.reduceReplicate]
  refine wcallD_flat hfx rfl ?_
  simp (disch := omega) [-List.reduceReplicate]
  refine wcallD_flat hfew rfl ?_
  simp (disch := omega) [-List.reduceReplicate]
  refine wcallD_flat hfy rfl ?_
  simp (disch := omega) [-List.reduceReplicate]
  refine wcall_flat hw1 rfl fun _ => ?_
  simp (disch := omega) [-List.reduceReplicate]
  refine wcall_flat hw2 rfl fun _ => ?_
  simp (disch := omega) [-List.reduceReplicate]
  refine wcallD_pure hjo (by simp) ?_
  simp (disch := omega) [-List.reduceReplicate]
  refine wcallD_pure hform (by simp) ?_
  simp (disch := omega) [-List.reduceReplicate]
  refine wcallD_flat he rfl ?_
  simp (disch := omega) [-List.reduceReplicate]
  refine wcall_flat hcom rfl fun _ => ?_
  simp (disch := omega) [-List.reduceReplicate]
  refine wcall_flat hle rfl fun _ => ?_
  simp (disch := omega) [-List.reduceReplicate]
  refine wcallD_flat hfew rfl ?_
  simp (disch := omega) [-List.reduceReplicate]
  refine wcallD_flat hacc rfl ?_
  cases p <;> cases b1
  all_goals
    simp (disch := omega) [-List.reduceReplicate]
    refine wcallD_flat hwi1 rfl ?_
    simp (disch := omega) [-List.reduceReplicate]
    refine wcallD_flat hwi2 rfl ?_
    simp (disch := omega) [-List.reduceReplicate]
    refine wcallD_flat hsame rfl ?_
    simp (disch := omega) [-List.reduceReplicate]
    refine wcallD_flat hlives rfl ?_
    simp (disch := omega) [-List.reduceReplicate]
end Go.Abs
set_option linter.unusedVariables false
set_option linter.unusedSimpArgs false
set_option maxHeartbeats 4000000
set_option maxRecDepth 100000
namespace Go.Abs
open Go.Proofs Go.Aut
attribute [-simp] getElem?_pos Option.not_isSome List.map_map
def c_dfa_Not_r : AC :=
  Q [.reg [bx 1 0, o1 2 (.alc [.nil 1, .nil 1])] [1, 2],
  Q [.reg [la 6 1 2, ca 7 16 [6], bi 8 .neq 7 0] [1, 2, 8],
   C 8 (Q [.reg [o1 9 (.bld [.nil 1, .nil 1] []), st 2 2 9] [2],
     .ret]) (.skip)],
  .reg [o1 3 (.alc [.nil 1, .nil 1])] [1, 2, 3],
  Q [.reg [fa 10 1 0, l1 11 10, lq 12 11, mi 13 0] [1, 2, 3, 11, 12, 13],
   .block 0 (.loop [1, 2, 3, 11, 12, 13] (Q [.reg [bt 14 .lss 13 12] [1, 2, 3, 11, 12, 13, 14],
      C 14 (.skip) (.exit 0),
      .block 1 (Q [.reg [m 15 13, ia 16 11 13 1, l1 17 16, m 4 15, m 5 17] [1, 2, 3, 4, 5, 11, 12, 13],
        .regF (OQ [m 20 5] (.both
           (OQ [fa 18 3 0] (.both
             (OQ [l1 19 18, o1 21 (.app (.v (.nil 1)) (.t 20) 3 1 8), o1 22 (.ltr 43 1 [.t 21]), o1 23 (.app (.t 19) (.t 22) 43 1 24), fa 24 3 0, st 1 24 23] .nil)
             (OQ [o1 21 (.app (.v (.nil 1)) (.t 20) 3 1 8)] (.both
               (OQ [l1 19 18, o1 22 (.ltr 43 1 [.t 21]), o1 23 (.app (.t 19) (.t 22) 43 1 24), fa 24 3 0, st 1 24 23] .nil)
               (OQ [o1 22 (.ltr 43 1 [.t 21]), l1 19 18, o1 23 (.app (.t 19) (.t 22) 43 1 24), fa 24 3 0, st 1 24 23] .nil)))))
           (OQ [o1 21 (.app (.v (.nil 1)) (.t 20) 3 1 8)] (.both
             (OQ [fa 18 3 0] (.both
               (OQ [l1 19 18, o1 22 (.ltr 43 1 [.t 21]), o1 23 (.app (.t 19) (.t 22) 43 1 24), fa 24 3 0, st 1 24 23] .nil)
               (OQ [o1 22 (.ltr 43 1 [.t 21]), l1 19 18, o1 23 (.app (.t 19) (.t 22) 43 1 24), fa 24 3 0, st 1 24 23] .nil)))
             (OQ [o1 22 (.ltr 43 1 [.t 21]), fa 18 3 0, l1 19 18, o1 23 (.app (.t 19) (.t 22) 43 1 24), fa 24 3 0, st 1 24 23] .nil))))) [1, 2, 3, 4, 11, 12, 13],
        .regD [fa 25 3 1, l1 26 25, fa 27 1 1, l1 28 27, m 29 4, ia 30 28 29 1, l1 31 30, nt' 32 31, o1 33 (.lit 4 1 [.t 32]), o1 34 (.app (.t 26) (.t 33) 4 1 1), fa 35 3 1, st 1 35 34] [1, 2, 3, 11, 12, 13]]),
      .reg [bi 36 .add 13 1, m 13 36] [1, 2, 3, 11, 12, 13]]))],
  .reg [la 37 3 2, st 2 2 37] [2],
  .ret]
theorem i_dfa_Not_r : imageE Tryd.prog Tryd.f22 [] [2000043] [[1, 2], [1, 2, 8], [2], [1, 2, 3], [1, 2, 3, 11, 12, 13], [1, 2, 3, 11, 12, 13], [1, 2, 3, 11, 12, 13, 14], [1, 2, 3, 4, 5, 11, 12, 13], [1, 0, 1, 0, 4, 12, 31, 63, 127], [1, 2, 3, 4, 11, 12, 13], [0, 0, 1, 0, 4, 0, 28, 60, 124, 252, 511, 1023, 2047], [0, 1, 2, 3, 4, 5, 6, 7, 8, 9, 10, 11], [1, 2, 3, 11, 12, 13], [1, 2, 3, 11, 12, 13], [2]] 1 = some (c_dfa_Not_r, [.c 2 2 true]) := by kernel_rfl

theorem aD_ltr {Φ : Ctr} {d : Option Nat} {K : St → Prop} {σ : St} {e sz : Nat} {xs : List AO} : wactD Φ d (.ltr e sz xs) K σ = wact Φ d (.ltr e sz xs) K σ := propext Iff.rfl
attribute [local simp] aD_ltr
def notA (a : Aut) : Aut := ⟨a.next, a.final.map (!·)⟩
theorem f_dfa_Not {a : Aut} (ha : a.ok) (hn : a.n ≤ 500) : Fn Tryd.prog n_dfa_Not [.strct (Aut.c a)] (.strct (Aut.c (notA a))) := by
  refine Fn.of_imageE mixed h_dfa_Not i_dfa_Not_r rfl fun ho => ?_
  unfold c_dfa_Not_r
  clear ho
  have hnl : a.next.length = a.n := rfl
  have hfl : a.final.length = a.n := ha.fin
  have hma := f_dfa_May_ok ha hn
  obtain ⟨R, hR⟩ : ∃ R, R = V.strct (Aut.c (notA a)) := ⟨_, rfl⟩
  rw [← hR]
  obtain ⟨fs, hfs⟩ : ∃ fs, fs = a.final.map (!·) := ⟨_, rfl⟩
  have hfsl : fs.length = a.n := by rw [hfs]; simp [hfl]
  simp [Aut.c] at hma
  simp (disch := omega) [-List.reduceReplicate, Aut.c]
  refine wcall_flat hma rfl fun _ => ?_
  simp (disch := omega) [-List.reduceReplicate, hnl]
  refine W_loop (fun k : Nat => ⟨[(1, .ptr 0 0), (2, .ptr 1 0), (3, .ptr 2 0), (11, .seq 1 (a.next.map rowN)), (12, .int .i64 a.n), (13, nV k)], [some (.box (Aut.c a)), some (.box [.nil 1, .nil 1]), some (.box [.ref 3 k, .ref 4 k]), some (.arr ty_Iint 1 ((a.next.take k).map rowN)), some (.arr ty_bool 1 ((fs.take k).map V.bool))]⟩) (fun k => k ≤ a.n) (fun k => a.n - k) [.b 2 0 ty_Iint 1, .b 2 1 ty_bool 1] _ 0 rfl (by simp [Aut.c]) (by simp) ?_
  intro k hk N hN
  rcases Nat.lt_or_ge k a.n with hlt | hge
  · obtain ⟨r, hr⟩ := get_lt (l := a.next) (k := k) (by omega)
    obtain ⟨f, hf⟩ := get_lt (l := a.final) (k := k) (by omega)
    have hrl : r.length = 95 := (ha.rows r (List.mem_of_getElem? hr)).1
    have hfg : fs[k]? = some (!f) := by rw [hfs, List.getElem?_map, hf]; rfl
    have hrt := take_snoc hr
    have hft := take_snoc hfg
    have hrtl : (a.next.take k).length = k := by simp; omega
    have hftl : (fs.take k).length = k := by simp; omega
    simp (disch := omega) [-List.reduceReplicate, Aut.c, hr, hrtl, hftl]
    refine wboth_one ⟨[(1, .ptr 0 0), (2, .ptr 1 0), (3, .ptr 2 0), (4, nV k), (11, .seq 1 (a.next.map rowN)), (12, .int .i64 a.n), (13, nV k)], [some (.box (Aut.c a)), some (.box [.nil 1, .nil 1]), some (.box [.ref 3 (k + 1), .ref 4 k]), some (.arr ty_Iint 1 ((a.next.take k ++ [r]).map rowN)), some (.arr ty_bool 1 ((fs.take k).map V.bool))]⟩ (fun F hF => ?_) ?_
    · simp [Aut.c] at hF
      repeat' first | exact hF | refine wbothK.mk ?_ ?_ | simp (disch := omega) [-List.reduceReplicate, hrtl, hftl, hrl]
    simp (disch := omega) [-List.reduceReplicate, Aut.c, hf, hrtl, hftl]
    exact hN.out _ <| Nx.mk (k + 1) (by rw [hrt, hft]; simp [Aut.c]) (by omega) (by omega)
  · have : k = a.n := by omega
    subst this
    have h1 : a.next.take a.n = a.next := List.take_of_length_le (by omega)
    have h2 : fs.take a.n = fs := List.take_of_length_le (by omega)
    simp (disch := omega) [-List.reduceReplicate, Aut.c, h1, h2]
    rw [hR, hfs]
    simp [notA, Aut.c]
end Go.Abs
set_option linter.unusedVariables false
set_option linter.unusedSimpArgs false
set_option maxHeartbeats 4000000
set_option maxRecDepth 100000
namespace Go.Abs
open Go.Proofs Go.Aut
attribute [-simp] getElem?_pos Option.not_isSome List.map_map
theorem notA_ok {a : Aut} (ha : a.ok) : (notA a).ok := ⟨ha.pos, by simp [notA, Aut.n]; exact ha.fin, ha.rows⟩
theorem notA_n {a : Aut} : (notA a).n = a.n := rfl
theorem f_law11_DfaForms (l1 : List (List Int)) (f1 : List Bool) (s : Str) : FnE Tryd.prog n_law11_DfaForms [.seq 1 (l1.map rowZ), finN f1, .str s] (.bool true) := by
  refine FnE.of_image mixed h_law11_DfaForms i_law11_DfaForms rfl fun ho => ?_
  unfold c_law11_DfaForms
  clear ho
  obtain ⟨hx, hx5, _⟩ := goodA_ok l1 f1
  have hgx := f_ref11_Good l1 f1
  obtain ⟨x, hxd⟩ : ∃ x, x = goodA l1 f1 := ⟨_, rfl⟩
  rw [← hxd] at hx hx5 hgx
  clear hxd
  have hfew := f_law11_few s
  have hsl : (s.take 10).length ≤ 10 := by simp; omega
  obtain ⟨s', hs'⟩ : ∃ s', s' = s.take 10 := ⟨_, rfl⟩
  rw [← hs'] at hfew hsl
  obtain ⟨cx, hcx1, hcx2, hcxn⟩ := formP_canon hx
  have hcx := hcx2.ok
  have hLx : cx.L 0 = x.L 0 := hcx2.lang (signsL_lang _ _ _)
  obtain ⟨list, rows, hfw, hfc⟩ := exists_form hx
  have hform := f_ref11_Form hx (by omega) hfw
  rw [hfc.unique hcx2] at hform
  have hfx := f_dfa_Form hx (by omega) hcx1
  have he := f_ref11_Equal hcx hcx (by omega) (by omega) true (by simp)
  have hnot := f_dfa_Not hx (by omega)
  have hmn := f_dfa_May_ok (notA_ok hx) (by rw [notA_n]; omega)
  have hacc := f_dfa_Accepts hcx (by omega) s'
  have hfr := f_ref11_From hx (by omega) 0 hx.pos s'
  have hsame : accS cx 0 s' = accS x 0 s' := by
    rw [acc_and (c := cx) (x := x) (y := x) (fun w hw => by rw [(L_eq hcx hx).1 hLx w hw, Bool.and_self]) s', Bool.and_self]
  rw [hsame] at hacc
  obtain ⟨p, hp⟩ : ∃ p, p = accS x 0 s' := ⟨_, rfl⟩
  rw [← hp] at hfr hacc
  have hlives := f_law11_lives
  have hnl : x.next.length = x.n := rfl
  have hfl : x.final.length = x.n := hx.fin
  have hrows := hx.rows
  clear hp hsame hfc hfw hLx hcx1 hcx2 hs'
  simp [Aut.c, notA] at hgx hform hfx he hnot hmn hacc hfr
  simp (disch := omega) [-List.reduceReplicate]
  refine wcall_pure hgx (by simp) fun _ => ?_
  simp (disch := omega) [-List.reduceReplicate, Aut.c]
  refine wcall_pure hfx (by simp) fun _ => ?_
  simp (disch := omega) [-List.reduceReplicate, Aut.c]
  refine wcall_pure hnot (by simp) fun _ => ?_
  simp (disch := omega) [-List.reduceReplicate, Aut.c]
  refine wcallD_pure hform (by simp) ?_
  simp (disch := omega) [-List.reduceReplicate]
  refine wcallD_flat he rfl ?_
  simp (disch := omega) [-List.reduceReplicate]
  refine wcallD_flat hmn rfl ?_
  simp (disch := omega) [-List.reduceReplicate, hnl]
  refine W_loop (fun k : Nat => ⟨[(2, .str s), (7, .ptr 0 0), (8, .ptr 1 0), (9, .ptr 2 0), (10, nV k)], [some (.box (Aut.c x)), some (.box (Aut.c cx)), some (.box (Aut.c (notA x)))]⟩) (fun k => k ≤ x.n) (fun k => x.n - k) [] _ 0 rfl (by simp [Aut.c, notA]) (by simp) ?_
  intro k hk N hN
  rcases Nat.lt_or_ge k x.n with hlt | hge
  · obtain ⟨r, hr⟩ := get_lt (l := x.next) (k := k) (by omega)
    obtain ⟨f, hf⟩ := get_lt (l := x.final) (k := k) (by omega)
    have hrl : r.length = 95 := (hrows r (List.mem_of_getElem? hr)).1
    have hs := f_ref10_Same r r (by omega) (by omega)
    simp [rowN] at hs
    simp (disch := omega) [-List.reduceReplicate, Aut.c, notA, hr, rowN]
    refine wcallD_flat hs rfl ?_
    cases f
    all_goals
      simp (disch := omega) [-List.reduceReplicate, hf]
      exact hN.out _ <| Nx.mk (k + 1) (by simp [Aut.c, notA]) (by omega) (by omega)
  · simp (disch := omega) [-List.reduceReplicate, Aut.c, notA, hnl]
    refine wcallD_flat hfew rfl ?_
    simp (disch := omega) [-List.reduceReplicate]
    refine wcallD_flat hacc rfl ?_
    simp (disch := omega) [-List.reduceReplicate]
    refine wcallD_flat hfew rfl ?_
    simp (disch := omega) [-List.reduceReplicate]
    refine wcallD_flat hfr rfl ?_
    simp (disch := omega) [-List.reduceReplicate]
    refine wcallD_flat hlives rfl ?_
    simp (disch := omega) [-List.reduceReplicate]
end Go.Abs
set_option linter.unusedVariables false
set_option linter.unusedSimpArgs false
set_option maxHeartbeats 4000000
set_option maxRecDepth 100000
namespace Go.Abs
open Go.Proofs Go.Aut
attribute [-simp] getElem?_pos Option.not_isSome List.map_map
theorem notA_notA (a : Aut) : notA (notA a) = a := by
  cases a
  simp [notA, List.map_map, Function.comp_def]
theorem notA_F {a : Aut} {q : Nat} (ha : a.ok) (hq : q < a.n) : (notA a).F q = !a.F q := by
  obtain ⟨f, hf⟩ := get_lt (l := a.final) (k := q) (by rw [ha.fin]; exact hq)
  have h1 : a.F q = f := by show fin a.final q = f; simp only [fin, hf, Option.getD_some]
  have h2 : (notA a).F q = !f := by show fin (a.final.map (!·)) q = !f; simp only [fin, List.getElem?_map, hf, Option.map_some, Option.getD_some]
  rw [h1, h2]
theorem empty_form : formP (Aut.mk [List.replicate 95 0] [false]).next (Aut.mk [List.replicate 95 0] [false]).final = some (Aut.mk [List.replicate 95 0] [false]) := by
  kernel_rfl
theorem empty_F (w : List Nat) : (Aut.mk [List.replicate 95 0] [false]).F (w.foldl (Aut.mk [List.replicate 95 0] [false]).δ 0) = false := by
  show fin [false] _ = false
  unfold fin
  cases h : w.foldl (Aut.mk [List.replicate 95 0] [false]).δ 0 with
  | zero => rfl
  | succ n => rfl
theorem f_law11_DfaTwice (l1 : List (List Int)) (f1 : List Bool) : FnE Tryd.prog n_law11_DfaTwice [.seq 1 (l1.map rowZ), finN f1] (.bool true) := by
  refine FnE.of_image mixed h_law11_DfaTwice i_law11_DfaTwice rfl fun ho => ?_
  unfold c_law11_DfaTwice
  clear ho
  obtain ⟨hx, hx5, _⟩ := goodA_ok l1 f1
  have hgx := f_ref11_Good l1 f1
  obtain ⟨x, hxd⟩ : ∃ x, x = goodA l1 f1 := ⟨_, rfl⟩
  rw [← hxd] at hx hx5 hgx
  clear hxd
  have hno := notA_ok hx
  have hnn : (notA x).n = x.n := rfl
  have hxx : x.n * x.n ≤ 25 := Nat.le_trans (Nat.mul_le_mul hx5 hx5) (by decide)
  have hnot := f_dfa_Not hx (by omega)
  have hnot2 := f_dfa_Not hno (by omega)
  rw [notA_notA] at hnot2
  obtain ⟨c, hand1, hc, hcn⟩ := f_dfa_And hx hx (by omega) (by omega)
  obtain ⟨d, hand2, hd, hdn⟩ := f_dfa_And hx hno (by omega) (by omega)
  rw [hnn] at hdn
  have hcok := hc.ok
  have hdok := hd.ok
  have hLc : c.L 0 = (joinA x x false).L 0 := hc.lang (signsL_lang _ _ _)
  have hLd : d.L 0 = (joinA x (notA x) false).L 0 := hd.lang (signsL_lang _ _ _)
  have hcx : c.L 0 = x.L 0 := (L_eq hcok hx).2 fun w hw => by
    rw [(L_eq hcok (join_ok hx hx false)).1 hLc w hw, join_good hx hx w hw]
    cases x.F (w.foldl x.δ 0) <;> rfl
  have hdF : ∀ w : List Nat, (∀ c ∈ w, c < 95) → d.F (w.foldl d.δ 0) = false := fun w hw => by
    rw [(L_eq hdok (join_ok hx hno false)).1 hLd w hw, join_good hx hno w hw]
    have e : w.foldl (notA x).δ 0 = w.foldl x.δ 0 := rfl
    rw [e, notA_F hx (walk_lt hx w hx.pos hw)]
    cases x.F (w.foldl x.δ 0) <;> rfl
  have hde : d = Aut.mk [List.replicate 95 0] [false] := by
    obtain ⟨b, hb1, hb2, _⟩ := formP_canon (single_ok false)
    rw [empty_form] at hb1
    cases hb1
    have : d.L 0 = (Aut.mk [List.replicate 95 0] [false]).L 0 := (L_eq hdok (single_ok false)).2 fun w hw => by rw [hdF w hw, empty_F]
    rw [hLd] at this
    rw [this] at hd
    exact hd.unique hb2
  obtain ⟨r1, hr1g, hr1⟩ := exists_pair hx hx fun x y => x != y
  obtain ⟨r2, hr2g, hr2⟩ := exists_pair hcok hx fun x y => x != y
  have hs1 := f_dfa_Same hx hx (by omega) (by omega) r1 hr1g
  have hs2 := f_dfa_Same hcok hx (by omega) (by omega) r2 hr2g
  rw [(same_pair hx hx hr1).2 rfl] at hs1
  rw [(same_pair hcok hx hr2).2 hcx] at hs2
  obtain ⟨r3, hr3g, hr3⟩ := exists_least hdok
  have hle := f_dfa_Least hdok (by omega) r3 hr3g
  have hr3n : r3 = none := by
    have := (none_iff hr3).2 hdF
    cases r3 with
    | none => rfl
    | some w => cases this
  rw [hr3n] at hle
  have he := f_ref11_Equal hdok hdok (by omega) (by omega) true (by simp)
  have hE := f_dfa_Empty
  rw [single_c, ← hde] at hE
  have hlives := f_law11_lives
  obtain ⟨nx, hnx⟩ : ∃ nx, nx = notA x := ⟨_, rfl⟩
  rw [← hnx] at hnot hnot2 hand2
  clear hnx hr1 hr1g hr2 hr2g hr3 hr3g hde hdF hcx hLc hLd hc hd
  simp [Aut.c, resL] at hgx hnot hnot2 hand1 hand2 hs1 hs2 hle he hE
  simp (disch := omega) [-List.reduceReplicate]
  refine wcall_pure hgx (by simp) fun _ => ?_
  simp (disch := omega) [-List.reduceReplicate, Aut.c]
  refine wcall_pure hnot (by simp) fun _ => ?_
  simp (disch := omega) [-List.reduceReplicate, Aut.c]
  refine wcall_pure hand1 (by simp) fun _ => ?_
  simp (disch := omega) [-List.reduceReplicate, Aut.c]
  refine wcall_pure hand2 (by simp) fun _ => ?_
  simp (disch := omega) [-List.reduceReplicate, Aut.c]
  refine wcallD_pure hnot2 (by simp) ?_
  simp (disch := omega) [-List.reduceReplicate]
  refine wcallD_flat hs1 rfl ?_
  simp (disch := omega) [-List.reduceReplicate]
  refine wcallD_flat hs2 rfl ?_
  simp (disch := omega) [-List.reduceReplicate]
  refine wcall_flat hle rfl fun _ => ?_
  simp (disch := omega) [-List.reduceReplicate]
  refine wcallD_pure hE (by simp) ?_
  simp (disch := omega) [-List.reduceReplicate]
  refine wcallD_flat he rfl ?_
  simp (disch := omega) [-List.reduceReplicate]
  refine wcallD_flat hlives rfl ?_
  simp (disch := omega) [-List.reduceReplicate]
end Go.Abs
