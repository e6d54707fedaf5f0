/-
  Automata, plainly: languages, the form that a language alone determines, classes of states. No condition.
-/
import Derived.Test.YtpblinccnkidfaaDoorTh1
set_option linter.unusedVariables false
set_option linter.unusedSimpArgs false
set_option linter.unusedSectionVars false
namespace Go.Aut

/-! ### Counting -/
theorem covers_le : ∀ (N : Nat) (l : List Nat), (∀ v < N, v ∈ l) → N ≤ l.length
  | 0, _, _ => Nat.zero_le _
  | N + 1, l, h => by
    have h1 := covers_le N (l.erase N) fun v hv => (List.mem_erase_of_ne (by omega)).2 (h v (by omega))
    have h2 := h N (by omega)
    have h3 := List.length_erase_of_mem h2
    have h4 : 0 < l.length := List.length_pos_of_mem h2
    omega
theorem covers_inj {N : Nat} {l : List Nat} (h : ∀ v < N, v ∈ l) (hl : l.length = N) {i j : Nat} (hij : i < j) {x : Nat} (hi : l[i]? = some x) (hj : l[j]? = some x) : False := by
  have h1 := covers_le N (l.eraseIdx j) fun v hv => by
    obtain ⟨m, hm⟩ := List.mem_iff_getElem?.1 (h v hv)
    rw [List.mem_eraseIdx_iff_getElem?]
    by_cases hmj : m = j
    · subst hmj
      rw [hj] at hm
      cases hm
      exact ⟨i, by omega, hi⟩
    · exact ⟨m, hmj, hm⟩
  have hjl := (List.getElem?_eq_some_iff.1 hj).1
  rw [List.length_eraseIdx_of_lt hjl] at h1
  omega
theorem nodup_le : ∀ (N : Nat) (l : List Nat), l.Nodup → (∀ x ∈ l, x < N) → l.length ≤ N
  | 0, l, _, h => by
    cases l with
    | nil => simp
    | cons x l => have := h x (by simp); omega
  | N + 1, l, hn, h => by
    have h1 := nodup_le N (l.erase N) (hn.erase N) fun x hx => by
      have := (hn.mem_erase_iff).1 hx
      have := h x this.2
      omega
    by_cases hm : N ∈ l
    · have := List.length_erase_of_mem hm; omega
    · rw [List.erase_of_not_mem hm] at h1; omega
section
variable {K : Type} [DecidableEq K]
theorem eqB_iff {a b : K} : eqB a b = true ↔ a = b := by simp [eqB]
theorem eqB_refl : ∀ a : K, (eqB : K → K → Bool) a a = true := fun a => by simp [eqB]
theorem eqB_refl' (a : K) : eqB a a = true := by simp [eqB]
theorem apart_nodup {l : List K} (h : Apart eqB l) : l.Nodup := by
  rw [List.nodup_iff_pairwise_ne, List.pairwise_iff_getElem]
  intro i j hi hj hij he
  have := h i j _ _ hij (List.getElem?_eq_getElem hi) (List.getElem?_eq_getElem hj)
  simp [eqB] at this
  exact this he
end

/-! ### Languages -/
def Lang : Type := List Nat → Bool
noncomputable instance : DecidableEq Lang := fun a b => Classical.propDecidable (a = b)
def lstep (L : Lang) (c : Nat) : Lang := fun w => L (c :: w)
/-- What is accepted from a state. -/
def lang (δ : Nat → Nat → Nat) (F : Nat → Bool) : Nat → List Nat → Bool
  | q, [] => F q
  | q, c :: w => if c < 95 then lang δ F (δ q c) w else false
def langL (δ : Nat → Nat → Nat) (F : Nat → Bool) (q : Nat) : Lang := fun w => lang δ F q w
theorem lstep_lang {δ : Nat → Nat → Nat} {F : Nat → Bool} {q c : Nat} (hc : c < 95) : lstep (langL δ F q) c = langL δ F (δ q c) := by
  funext w
  simp [lstep, langL, lang, hc]

/-! ### Automata -/
structure Aut where
  next : List (List Nat)
  final : List Bool
def dl (next : List (List Nat)) (q c : Nat) : Nat := ((next[q]?.getD [])[c]?).getD 0
def fin (final : List Bool) (q : Nat) : Bool := (final[q]?).getD false
/-- Every row is of 95 states that are there. -/
def rowsOK (n : Nat) (next : List (List Nat)) : Prop := ∀ r ∈ next, r.length = 95 ∧ ∀ x ∈ r, x < n
theorem rowsOK.dl {n : Nat} {next : List (List Nat)} (h : rowsOK n next) {q c : Nat} (hq : q < next.length) (hc : c < 95) : ∃ r x, next[q]? = some r ∧ r[c]? = some x ∧ dl next q c = x ∧ x < n := by
  obtain ⟨r, hr⟩ : ∃ r, next[q]? = some r := ⟨_, List.getElem?_eq_getElem hq⟩
  obtain ⟨h1, h2⟩ := h r (List.mem_of_getElem? hr)
  obtain ⟨x, hx⟩ : ∃ x, r[c]? = some x := ⟨_, List.getElem?_eq_getElem (by omega)⟩
  exact ⟨r, x, hr, hx, by simp [Aut.dl, hr, hx], h2 x (List.mem_of_getElem? hx)⟩
namespace Aut
def n (a : Aut) : Nat := a.next.length
def δ (a : Aut) : Nat → Nat → Nat := dl a.next
def F (a : Aut) : Nat → Bool := fin a.final
structure ok (a : Aut) : Prop where
  pos : 0 < a.n
  fin : a.final.length = a.n
  rows : rowsOK a.n a.next
def L (a : Aut) (q : Nat) : Lang := langL a.δ a.F q
theorem ok.lt {a : Aut} (h : a.ok) {q c : Nat} (hq : q < a.n) (hc : c < 95) : a.δ q c < a.n := by
  obtain ⟨r, x, h1, h2, h3, h4⟩ := h.rows.dl hq hc
  show dl a.next q c < a.n
  omega
end Aut

/-! ### The form that a language alone determines -/
noncomputable def canonAt (most f : Nat) (L : Lang) : Option (List Lang × List (List Nat)) := walkGo eqB lstep most f 0 [L] []
def IsCanon (L : Lang) (b : Aut) : Prop := ∃ most f ls, canonAt most f L = some (ls, b.next) ∧ b.final = ls.map fun M => M []
theorem IsCanon.unique {L : Lang} {a b : Aut} (ha : IsCanon L a) (hb : IsCanon L b) : a = b := by
  obtain ⟨m1, f1, l1, h1, h2⟩ := ha
  obtain ⟨m2, f2, l2, h3, h4⟩ := hb
  have h5 := walkGo_more (Nat.le_max_left m1 m2) f1 (max f1 f2) _ _ _ _ (Nat.le_max_left _ _) h1
  have h6 := walkGo_more (Nat.le_max_right m1 m2) f2 (max f1 f2) _ _ _ _ (Nat.le_max_right _ _) h3
  rw [h5] at h6
  simp only [Option.some.injEq, Prod.mk.injEq] at h6
  obtain ⟨rfl, h7⟩ := h6
  cases a; cases b
  simp_all
theorem winv_start {K : Type} {e : K → K → Bool} {step : K → Nat → K} {D : K → Prop} {q : K} (h : D q) : WInv e step D 0 [q] [] :=
  ⟨rfl, by simp, by simpa using h, Apart.one q, fun j hj => by omega⟩
theorem IsCanon.inv {L : Lang} {b : Aut} (h : IsCanon L b) : ∃ ls : List Lang, WInv eqB lstep (fun _ => True) ls.length ls b.next ∧ ls[0]? = some L ∧ b.final = ls.map fun M => M [] := by
  obtain ⟨m, f, ls, h1, h2⟩ := h
  obtain ⟨h3, t, h4⟩ := walkGo_inv eqB_refl (D := fun _ => True) (fun _ _ _ _ => trivial) _ _ _ _ _ _ (winv_start trivial) h1
  exact ⟨ls, h3, by simp [h4], h2⟩
theorem IsCanon.ok {L : Lang} {b : Aut} (h : IsCanon L b) : b.ok := by
  obtain ⟨ls, h1, h2, h3⟩ := h.inv
  have hl : b.n = ls.length := h1.len
  refine ⟨?_, by rw [h3, hl]; simp, ?_⟩
  · have := (List.getElem?_eq_some_iff.1 h2).1; omega
  · intro r hr
    obtain ⟨j, hj⟩ := List.mem_iff_getElem?.1 hr
    have hjl := (List.getElem?_eq_some_iff.1 hj).1
    obtain ⟨q, r', g1, g2, g3, g4⟩ := h1.row j (by have := h1.len; omega)
    rw [hj] at g2; cases g2
    refine ⟨g3, fun x hx => ?_⟩
    obtain ⟨c, hc⟩ := List.mem_iff_getElem?.1 hx
    obtain ⟨k, y, f1, f2, f3⟩ := g4 c (by have := (List.getElem?_eq_some_iff.1 hc).1; omega)
    rw [hc] at f1; cases f1
    have := (List.getElem?_eq_some_iff.1 f2).1
    omega
/-- Of signs alone. -/
def signsL (L : Lang) : Prop := ∀ w : List Nat, (∃ c ∈ w, 95 ≤ c) → L w = false
theorem lang_signs (δ : Nat → Nat → Nat) (F : Nat → Bool) : ∀ (w : List Nat) (q : Nat), (∃ c ∈ w, 95 ≤ c) → lang δ F q w = false
  | [], _, h => by simp at h
  | d :: w, q, h => by
    simp only [lang]
    split
    · refine lang_signs δ F w _ ?_
      obtain ⟨c, hc, h2⟩ := h
      rcases List.mem_cons.1 hc with rfl | hc
      · omega
      · exact ⟨c, hc, h2⟩
    · rfl
theorem signsL_lang (δ : Nat → Nat → Nat) (F : Nat → Bool) (q : Nat) : signsL (langL δ F q) := fun w h => lang_signs δ F w q h
theorem IsCanon.lang {L : Lang} {b : Aut} (h : IsCanon L b) (hL : signsL L) : b.L 0 = L := by
  obtain ⟨ls, h1, h2, h3⟩ := h.inv
  have key : ∀ (w : List Nat) (j : Nat) (M : Lang), (∀ c ∈ w, c < 95) → ls[j]? = some M → b.L j w = M w := by
    intro w
    induction w with
    | nil =>
      intro j M _ hj
      simp [Aut.L, langL, Aut.lang, Aut.F, fin, h3, hj]
    | cons c w ih =>
      intro j M hw hj
      have hc := hw c (by simp)
      obtain ⟨q, r, g1, g2, g3, g4⟩ := h1.row j (List.getElem?_eq_some_iff.1 hj).1
      rw [hj] at g1; cases g1
      obtain ⟨k, x, f1, f2, f3⟩ := g4 c hc
      have hx := eqB_iff.1 f3
      subst hx
      have := ih k _ (fun d hd => hw d (by simp [hd])) f2
      show Aut.lang b.δ b.F j (c :: w) = _
      simp only [Aut.lang, if_pos hc]
      rw [show b.δ j c = k by simp [Aut.δ, dl, g2, f1]]
      exact this
  funext w
  by_cases hw : ∀ c ∈ w, c < 95
  · exact key w 0 L hw h2
  · have : ∃ c ∈ w, 95 ≤ c := by
      apply Classical.byContradiction
      intro hn
      exact hw fun c hc => by
        apply Classical.byContradiction
        intro hc2
        exact hn ⟨c, hc, by omega⟩
    rw [hL w this]
    exact lang_signs _ _ w 0 this

/-- A walk tells the form of what is accepted from where it starts, if states are the same there just if they accept the same. -/
theorem walk_canon {K : Type} {e : K → K → Bool} {step : K → Nat → K} {D : K → Prop} {φ : K → Lang} (he : ∀ a, e a a = true) (hφ : ∀ a b, D a → D b → (e a b = true ↔ φ a = φ b)) (hD : ∀ q c, D q → c < 95 → D (step q c)) (hs : ∀ q c, D q → c < 95 → lstep (φ q) c = φ (step q c))
    {start : K} (h0 : D start) {most f : Nat} {l : List K} {rows : List (List Nat)} (h : walkGo e step most f 0 [start] [] = some (l, rows)) : IsCanon (φ start) ⟨rows, l.map fun k => φ k []⟩ := by
  refine ⟨most, f, l.map φ, ?_, by simp⟩
  have := walkGo_map (D := D) (φ := φ) he hφ hD hs (most := most) f 0 [start] [] (by simpa using h0)
  rw [h] at this
  exact this

/-! ### Classes -/
def keyOf (next : List (List Nat)) (cls : List Nat) (q : Nat) : List Nat := (cls[q]?).getD 0 :: (next[q]?.getD []).map fun t => (cls[t]?).getD 0
def clsGo (next : List (List Nat)) : Nat → List Nat → Nat → Option (List Nat)
  | 0, _, _ => none
  | f + 1, cls, cnt => if (rowGo eqB (keyOf next cls) next.length 0 []).2.length = cnt then some (rowGo eqB (keyOf next cls) next.length 0 []).1
    else clsGo next f (rowGo eqB (keyOf next cls) next.length 0 []).1 (rowGo eqB (keyOf next cls) next.length 0 []).2.length
def b01 (b : Bool) : Nat := if b = true then 1 else 0
def classesP (next : List (List Nat)) (final : List Bool) : Option (List Nat) := clsGo next (next.length + 2) (final.map b01) 0

theorem rowGo_len2 {K : Type} {e : K → K → Bool} (f : Nat → K) : ∀ (m c : Nat) (l : List K), (rowGo e f m c l).2.length ≤ l.length + m
  | 0, _, _ => by simp [rowGo]
  | m + 1, c, l => by
    simp only [rowGo]
    have h1 := rowGo_len2 (e := e) f m (c + 1) (addL e l (f c))
    have h2 : (addL e l (f c)).length ≤ l.length + 1 := by unfold addL; split <;> simp
    omega
theorem rowGo_lt {K : Type} {e : K → K → Bool} (he : ∀ a, e a a = true) (f : Nat → K) (m : Nat) (l : List K) (c : Nat) {v : Nat} (h : v ∈ (rowGo e f m c l).1) : v < (rowGo e f m c l).2.length := by
  obtain ⟨d, hd⟩ := List.mem_iff_getElem?.1 h
  obtain ⟨k, x, h1, h2, _⟩ := rowGo_get he f m c l d (by have := (List.getElem?_eq_some_iff.1 hd).1; rw [rowGo_len] at this; exact this)
  rw [hd] at h1; cases h1
  exact (List.getElem?_eq_some_iff.1 h2).1
section
variable {a : Aut} (ha : a.ok)
/-- A partition that tells final states apart, and no two states that accept the same. -/
structure CInv (a : Aut) (cls : List Nat) (cnt : Nat) : Prop where
  len : cls.length = a.n
  cover : ∀ v < cnt, v ∈ cls
  fin : ∀ p q, p < a.n → q < a.n → cls[p]? = cls[q]? → a.F p = a.F q
  snd : ∀ p q, p < a.n → q < a.n → a.L p = a.L q → cls[p]? = cls[q]?
theorem key_some {next : List (List Nat)} {cls : List Nat} {q : Nat} {r : List Nat} (h : next[q]? = some r) : keyOf next cls q = (cls[q]?).getD 0 :: r.map fun t => (cls[t]?).getD 0 := by
  simp [keyOf, h]
include ha in
theorem key_eq {cls : List Nat} (hl : cls.length = a.n) {p q : Nat} (hp : p < a.n) (hq : q < a.n) :
    keyOf a.next cls p = keyOf a.next cls q ↔ (cls[p]? = cls[q]? ∧ ∀ c < 95, cls[a.δ p c]? = cls[a.δ q c]?) := by
  obtain ⟨r, hr⟩ : ∃ r, a.next[p]? = some r := ⟨_, List.getElem?_eq_getElem hp⟩
  obtain ⟨s, hs⟩ : ∃ s, a.next[q]? = some s := ⟨_, List.getElem?_eq_getElem hq⟩
  have hr1 := ha.rows r (List.mem_of_getElem? hr)
  have hs1 := ha.rows s (List.mem_of_getElem? hs)
  have gd : ∀ t, t < a.n → cls[t]? = some ((cls[t]?).getD 0) := fun t ht => by rw [List.getElem?_eq_getElem (by omega)]; rfl
  rw [key_some hr, key_some hs]
  simp only [List.cons.injEq]
  refine and_congr ⟨fun h => by rw [gd p hp, gd q hq, h], fun h => congrArg (fun o : Option Nat => o.getD 0) h⟩ ?_
  constructor
  · intro h c hc
    have := congrArg (fun l => l[c]?) h
    obtain ⟨x, hx⟩ : ∃ x, r[c]? = some x := ⟨_, List.getElem?_eq_getElem (by omega)⟩
    obtain ⟨y, hy⟩ : ∃ y, s[c]? = some y := ⟨_, List.getElem?_eq_getElem (by omega)⟩
    simp only [List.getElem?_map, hx, hy, Option.map_some, Option.some.injEq] at this
    have e1 : a.δ p c = x := by simp [Aut.δ, dl, hr, hx]
    have e2 : a.δ q c = y := by simp [Aut.δ, dl, hs, hy]
    rw [e1, e2, gd x (hr1.2 x (List.mem_of_getElem? hx)), gd y (hs1.2 y (List.mem_of_getElem? hy)), this]
  · intro h
    refine List.ext_getElem? fun c => ?_
    simp only [List.getElem?_map]
    rcases Nat.lt_or_ge c 95 with hc | hc
    · obtain ⟨x, hx⟩ : ∃ x, r[c]? = some x := ⟨_, List.getElem?_eq_getElem (by omega)⟩
      obtain ⟨y, hy⟩ : ∃ y, s[c]? = some y := ⟨_, List.getElem?_eq_getElem (by omega)⟩
      have e1 : a.δ p c = x := by simp [Aut.δ, dl, hr, hx]
      have e2 : a.δ q c = y := by simp [Aut.δ, dl, hs, hy]
      have := h c hc
      rw [e1, e2] at this
      simp [hx, hy, this]
    · rw [List.getElem?_eq_none (by omega), List.getElem?_eq_none (by omega)]
/-- The numbers of keys: the same just if the keys are. -/
theorem rowNum {K : Type} [DecidableEq K] (f : Nat → K) (m : Nat) {p q : Nat} (hp : p < m) (hq : q < m) : (rowGo eqB f m 0 []).1[p]? = (rowGo eqB f m 0 []).1[q]? ↔ f p = f q := by
  obtain ⟨k, x, h1, h2, h3⟩ := rowGo_get eqB_refl f m 0 [] p hp
  obtain ⟨k', x', h4, h5, h6⟩ := rowGo_get eqB_refl f m 0 [] q hq
  have hx := eqB_iff.1 h3
  have hx' := eqB_iff.1 h6
  simp only [Nat.zero_add] at hx hx'
  rw [h1, h4]
  simp only [Option.some.injEq]
  constructor
  · rintro rfl
    rw [h2] at h5
    cases h5
    rw [← hx, ← hx']
  · intro h
    have ha : Apart eqB (rowGo eqB f m 0 []).2 := rowGo_apart f m 0 [] (fun i j x y _ hi => by simp at hi)
    rcases Nat.lt_trichotomy k k' with hk | hk | hk
    · have := ha k k' x x' hk h2 h5; rw [hx, hx', h] at this; simp [eqB] at this
    · exact hk
    · have := ha k' k x' x hk h5 h2; rw [hx, hx', h] at this; simp [eqB] at this
theorem rowCover {K : Type} [DecidableEq K] (f : Nat → K) : ∀ (m c : Nat) (l : List K) (v : Nat), v < (rowGo eqB f m c l).2.length → v < l.length ∨ v ∈ (rowGo eqB f m c l).1
  | 0, _, _, _, h => .inl h
  | m + 1, c, l, v, h => by
    simp only [rowGo] at h ⊢
    rcases rowCover f m (c + 1) (addL eqB l (f c)) v h with h | h
    · unfold addL at h
      cases hp : pos eqB (f c) l with
      | none =>
        simp [hp] at h
        rcases Nat.lt_or_ge v l.length with hv | hv
        · exact .inl hv
        · refine .inr (List.mem_cons.2 (.inl ?_))
          simp [addN, hp]; omega
      | some i => simp [hp] at h; exact .inl h
    · exact .inr (List.mem_cons.2 (.inr h))
include ha in
theorem CInv.next {cls : List Nat} {cnt : Nat} (h : CInv a cls cnt) : CInv a (rowGo eqB (keyOf a.next cls) a.n 0 []).1 (rowGo eqB (keyOf a.next cls) a.n 0 []).2.length := by
  refine ⟨rowGo_len _ _ _ _, fun v hv => by simpa using rowCover (keyOf a.next cls) a.n 0 [] v hv, fun p q hp hq he => ?_, fun p q hp hq he => ?_⟩
  · rw [rowNum _ _ hp hq, key_eq ha h.len hp hq] at he
    exact h.fin p q hp hq he.1
  · rw [rowNum _ _ hp hq, key_eq ha h.len hp hq]
    refine ⟨h.snd p q hp hq he, fun c hc => h.snd _ _ (ha.lt hp hc) (ha.lt hq hc) ?_⟩
    have : lstep (a.L p) c = lstep (a.L q) c := by rw [he]
    rwa [Aut.L, Aut.L, lstep_lang hc, lstep_lang hc] at this
include ha in
theorem CInv.grows {cls : List Nat} {cnt : Nat} (h : CInv a cls cnt) : cnt ≤ (rowGo eqB (keyOf a.next cls) a.n 0 []).2.length ∧
    ((rowGo eqB (keyOf a.next cls) a.n 0 []).2.length = cnt → ∀ p q, p < a.n → q < a.n → cls[p]? = cls[q]? → keyOf a.next cls p = keyOf a.next cls q) := by
  obtain ⟨ks, hks⟩ : ∃ ks, ks = (rowGo eqB (keyOf a.next cls) a.n 0 []).2 := ⟨_, rfl⟩
  have hcov : ∀ q < a.n, keyOf a.next cls q ∈ ks := by
    intro q hq
    obtain ⟨k, x, h1, h2, h3⟩ := rowGo_get eqB_refl (keyOf a.next cls) a.n 0 [] q hq
    have := eqB_iff.1 h3
    rw [Nat.zero_add] at this
    rw [← this, hks]
    exact List.mem_of_getElem? h2
  have hh : ∀ v < cnt, v ∈ ks.map fun k => k.headD 0 := by
    intro v hv
    obtain ⟨q, hq⟩ := List.mem_iff_getElem?.1 (h.cover v hv)
    have hql := (List.getElem?_eq_some_iff.1 hq).1
    refine List.mem_map.2 ⟨keyOf a.next cls q, hcov q (by have := h.len; omega), by simp [keyOf, hq]⟩
  rw [← hks]
  refine ⟨by simpa using covers_le cnt _ hh, fun hc p q hp hq he => ?_⟩
  obtain ⟨i, hi⟩ := List.mem_iff_getElem?.1 (hcov p hp)
  obtain ⟨j, hj⟩ := List.mem_iff_getElem?.1 (hcov q hq)
  have e1 : (ks.map fun k => k.headD 0)[i]? = some ((cls[p]?).getD 0) := by simp [hi, keyOf]
  have e2 : (ks.map fun k => k.headD 0)[j]? = some ((cls[p]?).getD 0) := by rw [he]; simp [hj, keyOf]
  rcases Nat.lt_trichotomy i j with hij | hij | hij
  · exact (covers_inj hh (by simpa using hc) hij e1 e2).elim
  · subst hij; rw [hi] at hj; exact Option.some.inj hj
  · exact (covers_inj hh (by simpa using hc) hij e2 e1).elim
/-- The classes of states that accept the same. -/
structure IsCls (a : Aut) (cls : List Nat) : Prop where
  len : cls.length = a.n
  lt : ∀ v ∈ cls, v < a.n
  cover : ∀ v ∈ cls, ∀ u < v, u ∈ cls
  eq : ∀ p q, p < a.n → q < a.n → (cls[p]? = cls[q]? ↔ a.L p = a.L q)
include ha in
theorem clsGo_spec : ∀ (f : Nat) (cls : List Nat) (cnt : Nat), CInv a cls cnt → a.n + 2 ≤ f + cnt → cnt ≤ a.n → ∃ cls', clsGo a.next f cls cnt = some cls' ∧ IsCls a cls'
  | 0, _, _, _, _, _ => by omega
  | f + 1, cls, cnt, h, hf, hle => by
    have hn : a.next.length = a.n := rfl
    obtain ⟨hg, hg2⟩ := h.grows ha
    have hnx := h.next ha
    have hlen := rowGo_len2 (e := eqB) (keyOf a.next cls) a.n 0 []
    simp only [List.length_nil, Nat.zero_add] at hlen
    simp only [clsGo, hn]
    split
    · rename_i hc
      have st := hg2 hc
      refine ⟨_, rfl, hnx.len, fun v hv => ?_, fun v hv u hu => ?_, fun p q hp hq => ⟨fun he => ?_, hnx.snd p q hp hq⟩⟩
      · have := rowGo_lt eqB_refl _ _ _ _ hv; omega
      · have := rowGo_lt eqB_refl _ _ _ _ hv; exact hnx.cover u (by omega)
      · rw [rowNum _ _ hp hq, key_eq ha h.len hp hq] at he
        have bis : ∀ (w : List Nat) (p q : Nat), p < a.n → q < a.n → cls[p]? = cls[q]? → a.L p w = a.L q w := by
          intro w
          induction w with
          | nil => intro p q hp hq he; simpa [Aut.L, langL, lang] using h.fin p q hp hq he
          | cons c w ih =>
            intro p q hp hq he
            show lang _ _ p (c :: w) = lang _ _ q (c :: w)
            simp only [lang]
            split
            · rename_i hcl
              have := st p q hp hq he
              rw [key_eq ha h.len hp hq] at this
              exact ih _ _ (ha.lt hp hcl) (ha.lt hq hcl) (this.2 c hcl)
            · rfl
        funext w
        exact bis w p q hp hq he.1
    · rename_i hc
      exact clsGo_spec f _ _ hnx (by omega) hlen
include ha in
theorem classesP_spec : ∃ cls, classesP a.next a.final = some cls ∧ IsCls a cls := by
  have hn : a.next.length = a.n := rfl
  refine clsGo_spec ha _ _ _ ⟨by simpa using ha.fin, fun v hv => by omega, fun p q hp hq he => ?_, fun p q hp hq he => ?_⟩ (by omega) (by omega)
  · have g : ∀ t, t < a.n → a.final[t]? = some (a.F t) := fun t ht => by simp [Aut.F, fin, List.getElem?_eq_getElem (show t < a.final.length by rw [ha.fin]; exact ht)]
    simp only [List.getElem?_map, g p hp, g q hq, Option.map_some, Option.some.injEq] at he
    revert he
    cases a.F p <;> cases a.F q <;> simp [b01]
  · have g : ∀ t, t < a.n → a.final[t]? = some (a.F t) := fun t ht => by simp [Aut.F, fin, List.getElem?_eq_getElem (show t < a.final.length by rw [ha.fin]; exact ht)]
    have : a.L p [] = a.L q [] := by rw [he]
    simp only [Aut.L, langL, lang] at this
    simp [g p hp, g q hq, this]
end

/-! ### The form of an automaton -/
def ofGo : Nat → List Nat → List Nat → List Nat
  | _, [], o => o
  | q, c :: cls, o => ofGo (q + 1) cls (o.set c q)
theorem ofGo_len : ∀ (q : Nat) (cls o : List Nat), (ofGo q cls o).length = o.length
  | _, [], _ => rfl
  | q, c :: cls, o => by simp [ofGo, ofGo_len]
theorem ofGo_spec : ∀ (cls o full : List Nat) (q : Nat), (∀ j c, cls[j]? = some c → full[q + j]? = some c) → (∀ c ∈ cls, c < o.length) → ∀ c : Nat, (c ∈ cls ∨ ∃ p, o[c]? = some p ∧ full[p]? = some c) → ∃ p, (ofGo q cls o)[c]? = some p ∧ full[p]? = some c
  | [], o, full, q, _, _, c, h => by
    rcases h with h | h
    · cases h
    · exact h
  | d :: cls, o, full, q, hf, hl, c, h => by
    simp only [ofGo]
    refine ofGo_spec cls (o.set d q) full (q + 1) (fun j c hj => by have := hf (j + 1) c (by simpa using hj); rwa [show q + 1 + j = q + (j + 1) by omega]) (fun c hc => by simpa using hl c (by simp [hc])) c ?_
    by_cases hcd : c = d
    · subst hcd
      refine .inr ⟨q, by rw [List.getElem?_set_self (hl c (by simp))], ?_⟩
      simpa using hf 0 c (by simp)
    · rcases h with h | ⟨p, h1, h2⟩
      · rcases List.mem_cons.1 h with h | h
        · exact absurd h hcd
        · exact .inl h
      · exact .inr ⟨p, by rw [List.getElem?_set_ne (fun h => hcd h.symm)]; exact h1, h2⟩
def getN (l : List Nat) (i : Nat) : Nat := (l[i]?).getD 0
/-- The form: what the program reckons. -/
def formP (next : List (List Nat)) (final : List Bool) : Option Aut :=
  match walkP eqB (dl next) 0 next.length with
  | none => none
  | some (list, nx) => match classesP nx (list.map (fin final)) with
    | none => none
    | some cls => match walkP eqB (fun c s => getN cls (dl nx (getN (ofGo 0 cls (List.replicate list.length 0)) c) s)) (getN cls 0) list.length with
      | none => none
      | some (l2, rows) => some ⟨rows, l2.map fun c => fin (list.map (fin final)) (getN (ofGo 0 cls (List.replicate list.length 0)) c)⟩
theorem walkP_ends {K : Type} {e : K → K → Bool} (he : ∀ a, e a a = true) {step : K → Nat → K} {most : Nat} {D : K → Prop} (hD : ∀ q c, D q → c < 95 → D (step q c)) (hN : ∀ l : List K, (∀ x ∈ l, D x) → Apart e l → l.length ≤ most) {start : K} (h0 : D start) :
    ∃ l rows, walkP e step start most = some (l, rows) ∧ WInv e step D l.length l rows ∧ l[0]? = some start := by
  obtain ⟨⟨l, rows⟩, h⟩ := walkGo_ends he hD hN (most + 2) 0 [start] [] (by simpa using h0) (Apart.one _) (by simp) (by omega)
  obtain ⟨h3, t, h4⟩ := walkGo_inv he hD _ _ _ _ _ _ (winv_start h0) h
  exact ⟨l, rows, h, h3, by simp [h4]⟩
/-- The automaton of what is met in a walk. -/
theorem walk_aut {K : Type} [DecidableEq K] {step : K → Nat → K} {D : K → Prop} {l : List K} {rows : List (List Nat)} {good : K → Bool} (h : WInv eqB step D l.length l rows) (h0 : 0 < l.length) :
    (Aut.mk rows (l.map good)).ok ∧ ∀ (w : List Nat) (j : Nat) (q : K), (∀ c ∈ w, c < 95) → l[j]? = some q → (Aut.mk rows (l.map good)).L j w = good (w.foldl step q) := by
  constructor
  · refine ⟨by have := h.len; simp only [Aut.n]; omega, by simp [Aut.n, h.len], ?_⟩
    intro r hr
    obtain ⟨j, hj⟩ := List.mem_iff_getElem?.1 hr
    have hjl := (List.getElem?_eq_some_iff.1 hj).1
    have hlen := h.len
    simp only at hj hjl
    obtain ⟨q, r', g1, g2, g3, g4⟩ := h.row j (by omega)
    rw [hj] at g2; cases g2
    refine ⟨g3, fun x hx => ?_⟩
    obtain ⟨c, hc⟩ := List.mem_iff_getElem?.1 hx
    obtain ⟨k, y, f1, f2, f3⟩ := g4 c (by have := (List.getElem?_eq_some_iff.1 hc).1; omega)
    rw [hc] at f1; cases f1
    have := (List.getElem?_eq_some_iff.1 f2).1
    simp only [Aut.n]
    omega
  · intro w
    induction w with
    | nil =>
      intro j q _ hj
      simp [Aut.L, langL, lang, Aut.F, fin, hj]
    | cons c w ih =>
      intro j q hw hj
      have hc := hw c (by simp)
      obtain ⟨q', r, g1, g2, g3, g4⟩ := h.row j (List.getElem?_eq_some_iff.1 hj).1
      rw [hj] at g1; cases g1
      obtain ⟨k, x, f1, f2, f3⟩ := g4 c hc
      have hx := eqB_iff.1 f3
      subst hx
      have := ih k _ (fun d hd => hw d (by simp [hd])) f2
      show lang _ _ j (c :: w) = _
      simp only [lang, if_pos hc]
      rw [show (Aut.mk rows (l.map good)).δ j c = k by simp [Aut.δ, dl, g2, f1]]
      exact this
theorem ok_run {a : Aut} (ha : a.ok) : ∀ (w : List Nat) (q : Nat), (∀ c ∈ w, c < 95) → q < a.n → a.L q w = a.F (w.foldl a.δ q) ∧ w.foldl a.δ q < a.n
  | [], q, _, hq => ⟨rfl, hq⟩
  | c :: w, q, hw, hq => by
    have hc := hw c (by simp)
    have := ok_run ha w (a.δ q c) (fun d hd => hw d (by simp [hd])) (ha.lt hq hc)
    refine ⟨?_, this.2⟩
    rw [← show a.L (a.δ q c) w = a.L q (c :: w) by simp [Aut.L, langL, lang, hc]]
    exact this.1
theorem lang_ext {L M : Lang} (hL : signsL L) (hM : signsL M) (h : ∀ w : List Nat, (∀ c ∈ w, c < 95) → L w = M w) : L = M := by
  funext w
  by_cases hw : ∀ c ∈ w, c < 95
  · exact h w hw
  · have : ∃ c ∈ w, 95 ≤ c := by
      apply Classical.byContradiction
      intro hn
      exact hw fun c hc => by
        apply Classical.byContradiction
        intro hc2
        exact hn ⟨c, hc, by omega⟩
    rw [hL w this, hM w this]
theorem formP_canon {a : Aut} (ha : a.ok) : ∃ b, formP a.next a.final = some b ∧ IsCanon (a.L 0) b ∧ b.n ≤ a.n := by
  obtain ⟨list, nx, hw, hI, h0⟩ := walkP_ends eqB_refl (step := dl a.next) (most := a.next.length) (D := fun q => q < a.n) (fun q c hq hc => ha.lt hq hc)
    (fun l h1 h2 => nodup_le _ l (apart_nodup h2) h1) (start := 0) ha.pos
  have hlpos : 0 < list.length := (List.getElem?_eq_some_iff.1 h0).1
  have hle : list.length ≤ a.n := nodup_le _ list (apart_nodup hI.apart) hI.dom
  obtain ⟨hb, hrun⟩ := walk_aut (good := fin a.final) hI hlpos
  obtain ⟨b, hbe⟩ : ∃ b : Aut, b = ⟨nx, list.map (fin a.final)⟩ := ⟨_, rfl⟩
  rw [← hbe] at hb hrun
  have hbn : b.n = list.length := by rw [hbe]; exact hI.len
  obtain ⟨cls, hc, hC⟩ := classesP_spec hb
  have hc' : classesP nx (list.map (fin a.final)) = some cls := by rw [hbe] at hc; exact hc
  obtain ⟨o, ho⟩ : ∃ o, o = ofGo 0 cls (List.replicate list.length 0) := ⟨_, rfl⟩
  have hof : ∀ c ∈ cls, ∃ p, o[c]? = some p ∧ cls[p]? = some c := fun c hcm => by
    rw [ho]
    exact ofGo_spec cls _ cls 0 (fun j c hj => by simpa using hj) (fun c hc => by have := hC.lt c hc; simp; omega) c (.inl hcm)
  have hst : ∀ c s, c ∈ cls → s < 95 → getN cls (dl nx (getN o c) s) ∈ cls ∧ lstep (b.L (getN o c)) s = b.L (getN o (getN cls (dl nx (getN o c) s))) := by
    intro c s hcm hs
    obtain ⟨p, hp1, hp2⟩ := hof c hcm
    have hpl : p < b.n := by have := (List.getElem?_eq_some_iff.1 hp2).1; have := hC.len; omega
    have e1 : getN o c = p := by simp [getN, hp1]
    have hd := hb.lt hpl hs
    have e2 : dl nx p s = b.δ p s := by rw [hbe]; rfl
    obtain ⟨v, hv⟩ : ∃ v, cls[b.δ p s]? = some v := ⟨_, List.getElem?_eq_getElem (by have := hC.len; omega)⟩
    have hvm := List.mem_of_getElem? hv
    obtain ⟨p', hp3, hp4⟩ := hof v hvm
    have e3 : getN cls (dl nx (getN o c) s) = v := by rw [e1, e2]; simp [getN, hv]
    rw [e3]
    refine ⟨hvm, ?_⟩
    rw [e1, show getN o v = p' by simp [getN, hp3]]
    rw [Aut.L, lstep_lang hs]
    exact (hC.eq _ _ hd (by have := (List.getElem?_eq_some_iff.1 hp4).1; have := hC.len; omega)).1 (by rw [hv, hp4])
  have hφ : ∀ c d, c ∈ cls → d ∈ cls → (eqB c d = true ↔ b.L (getN o c) = b.L (getN o d)) := by
    intro c d hcm hdm
    obtain ⟨p, hp1, hp2⟩ := hof c hcm
    obtain ⟨q, hq1, hq2⟩ := hof d hdm
    have hpl : p < b.n := by have := (List.getElem?_eq_some_iff.1 hp2).1; have := hC.len; omega
    have hql : q < b.n := by have := (List.getElem?_eq_some_iff.1 hq2).1; have := hC.len; omega
    rw [show getN o c = p by simp [getN, hp1], show getN o d = q by simp [getN, hq1], ← hC.eq p q hpl hql, hp2, hq2, eqB_iff]
    simp
  have hc0 : getN cls 0 ∈ cls := by
    have : 0 < cls.length := by have := hC.len; omega
    rw [getN, List.getElem?_eq_getElem this]
    simp
  obtain ⟨l2, rows, hw2, hI2, h02⟩ := walkP_ends eqB_refl (step := fun c s => getN cls (dl nx (getN o c) s)) (most := list.length) (D := fun c => c ∈ cls) (fun q c hq hc => (hst q c hq hc).1)
    (fun l h1 h2 => nodup_le _ l (apart_nodup h2) fun x hx => by have := hC.lt x (h1 x hx); omega) (start := getN cls 0) hc0
  have hcan := walk_canon (φ := fun c => b.L (getN o c)) eqB_refl hφ (fun q c hq hc => (hst q c hq hc).1) (fun q c hq hc => (hst q c hq hc).2) hc0 hw2
  refine ⟨⟨rows, l2.map fun c => fin (list.map (fin a.final)) (getN o c)⟩, ?_, ?_, ?_⟩
  · unfold formP; rw [hw]; dsimp only; rw [hc']; dsimp only; rw [← ho, hw2]
  · have e1 : b.L (getN o (getN cls 0)) = a.L 0 := by
      obtain ⟨p, hp1, hp2⟩ := hof _ hc0
      have hpl : p < b.n := by have := (List.getElem?_eq_some_iff.1 hp2).1; have := hC.len; omega
      have h0l : 0 < cls.length := by have := hC.len; omega
      rw [show getN o (getN cls 0) = p by rw [getN, hp1]; rfl, (hC.eq p 0 hpl hb.pos).1 (by rw [hp2, getN, List.getElem?_eq_getElem h0l]; rfl)]
      refine lang_ext (signsL_lang _ _ _) (signsL_lang _ _ _) fun w hw => ?_
      rw [hrun w 0 0 hw h0]
      exact (ok_run ha w 0 hw ha.pos).1.symm
    rw [e1] at hcan
    have e2 : (l2.map fun c => fin (list.map (fin a.final)) (getN o c)) = l2.map fun c => b.L (getN o c) [] := by
      refine List.map_congr_left fun c _ => ?_
      rw [hbe]
      rfl
    rw [e2]
    exact hcan
  · show rows.length ≤ a.n
    rw [hI2.len]
    have := nodup_le list.length l2 (apart_nodup hI2.apart) fun x hx => by have := hC.lt x (hI2.dom x hx); omega
    omega
end Go.Aut
