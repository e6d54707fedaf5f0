/-
  The least word by which something good is reached, plainly. No condition.
-/
import Derived.Test.YtpblinccnkidfaaDoorTh2
set_option linter.unusedVariables false
set_option linter.unusedSimpArgs false
set_option linter.unusedSectionVars false
namespace Go.Aut
/-- Ahead in a list of words of one length. -/
def lexW : List Nat → List Nat → Prop
  | a :: u, b :: v => a < b ∨ (a = b ∧ lexW u v)
  | _, _ => False
/-- Shorter, or as long and ahead. -/
def wlt (u v : List Nat) : Prop := u.length < v.length ∨ (u.length = v.length ∧ lexW u v)
theorem lexW_irrefl : ∀ u : List Nat, ¬lexW u u
  | [], h => h
  | a :: u, h => by
    rcases h with h | ⟨_, h⟩
    · omega
    · exact lexW_irrefl u h
theorem lexW_trans : ∀ {u v w : List Nat}, lexW u v → lexW v w → lexW u w
  | a :: u, b :: v, c :: w, h, h' => by
    simp only [lexW] at h h' ⊢
    rcases h with h | ⟨h, h2⟩
    · rcases h' with h' | ⟨h', _⟩
      · left; omega
      · left; omega
    · rcases h' with h' | ⟨h', h3⟩
      · left; omega
      · right; exact ⟨by omega, lexW_trans h2 h3⟩
  | [], _, _, h, _ => by simp [lexW] at h
  | _ :: _, [], _, h, _ => by simp [lexW] at h
  | _ :: _, _ :: _, [], _, h => by simp [lexW] at h
theorem lexW_total : ∀ {u v : List Nat}, u.length = v.length → lexW u v ∨ u = v ∨ lexW v u
  | [], [], _ => .inr (.inl rfl)
  | a :: u, b :: v, h => by
    simp only [List.length_cons, Nat.add_right_cancel_iff] at h
    rcases Nat.lt_trichotomy a b with h1 | h1 | h1
    · exact .inl (.inl h1)
    · subst h1
      rcases lexW_total h with h2 | h2 | h2
      · exact .inl (.inr ⟨rfl, h2⟩)
      · exact .inr (.inl (by rw [h2]))
      · exact .inr (.inr (.inr ⟨rfl, h2⟩))
    · exact .inr (.inr (.inl h1))
  | [], _ :: _, h => by simp at h
  | _ :: _, [], h => by simp at h
theorem lexW_snoc : ∀ {u v : List Nat} (a b : Nat), u.length = v.length → lexW u v → lexW (u ++ [a]) (v ++ [b])
  | x :: u, y :: v, a, b, hl, h => by
    simp only [List.length_cons, Nat.add_right_cancel_iff] at hl
    simp only [lexW, List.cons_append] at h ⊢
    rcases h with h | ⟨h, h2⟩
    · exact .inl h
    · exact .inr ⟨h, lexW_snoc a b hl h2⟩
  | [], _, _, _, _, h => by simp [lexW] at h
  | _ :: _, [], _, _, hl, _ => by simp at hl
theorem lexW_last : ∀ (u : List Nat) {a b : Nat}, a < b → lexW (u ++ [a]) (u ++ [b])
  | [], _, _, h => .inl h
  | x :: u, _, _, h => .inr ⟨rfl, lexW_last u h⟩
theorem wlt_irrefl (u : List Nat) : ¬wlt u u := fun h => by
  rcases h with h | ⟨_, h⟩
  · omega
  · exact lexW_irrefl u h
theorem wlt_trans {u v w : List Nat} (h : wlt u v) (h' : wlt v w) : wlt u w := by
  rcases h with h | ⟨h, h2⟩
  · rcases h' with h' | ⟨h', _⟩
    · left; omega
    · left; omega
  · rcases h' with h' | ⟨h', h3⟩
    · left; omega
    · right; exact ⟨by omega, lexW_trans h2 h3⟩
theorem wlt_total (u v : List Nat) : wlt u v ∨ u = v ∨ wlt v u := by
  rcases Nat.lt_trichotomy u.length v.length with h | h | h
  · exact .inl (.inl h)
  · rcases lexW_total h with h2 | h2 | h2
    · exact .inl (.inr ⟨h, h2⟩)
    · exact .inr (.inl h2)
    · exact .inr (.inr (.inr ⟨h.symm, h2⟩))
  · exact .inr (.inr (.inl h))
theorem wlt_snoc {u v : List Nat} (a b : Nat) (h : wlt u v) : wlt (u ++ [a]) (v ++ [b]) := by
  rcases h with h | ⟨h, h2⟩
  · left; simp; omega
  · right; exact ⟨by simp [h], lexW_snoc a b h h2⟩
theorem wlt_last (u : List Nat) {a b : Nat} (h : a < b) : wlt (u ++ [a]) (u ++ [b]) := .inr ⟨by simp, lexW_last u h⟩
/-- No more than. -/
def wle (u v : List Nat) : Prop := u = v ∨ wlt u v
theorem wle_lt {u v w : List Nat} (h : wle u v) (h' : wlt v w) : wlt u w := by
  rcases h with rfl | h
  · exact h'
  · exact wlt_trans h h'
theorem wle_trans {u v w : List Nat} (h : wle u v) (h' : wle v w) : wle u w := by
  rcases h' with rfl | h'
  · exact h
  · exact .inr (wle_lt h h')
theorem wle_snoc {u v : List Nat} (a : Nat) (h : wle u v) : wle (u ++ [a]) (v ++ [a]) := by
  rcases h with rfl | h
  · exact .inl rfl
  · exact .inr (wlt_snoc a a h)

section
variable {K : Type} [DecidableEq K]
def lrow (f : Nat → K) (w : List Nat) : Nat → Nat → List K → List (List Nat) → List K × List (List Nat)
  | 0, _, l, ws => (l, ws)
  | m + 1, c, l, ws => if (pos eqB (f c) l).isSome = true then lrow f w m (c + 1) l ws else lrow f w m (c + 1) (l ++ [f c]) (ws ++ [w ++ [c]])
def leastGo (step : K → Nat → K) (good : K → Bool) : Nat → Nat → List K → List (List Nat) → Option (Option (List Nat))
  | 0, _, _, _ => none
  | f + 1, i, l, ws => match l[i]? with
    | none => some none
    | some q => if good q = true then some (some ((ws[i]?).getD [])) else leastGo step good f (i + 1) (lrow (step q) ((ws[i]?).getD []) 95 0 l ws).1 (lrow (step q) ((ws[i]?).getD []) 95 0 l ws).2
/-- What has been met, by which words: at the i-th one, by the signs below c. -/
structure LInv (step : K → Nat → K) (start : K) (D : K → Prop) (i c : Nat) (l : List K) (ws : List (List Nat)) : Prop where
  len : ws.length = l.length
  dom : ∀ x ∈ l, D x
  first : l[0]? = some start ∧ ws[0]? = some []
  run : ∀ (k : Nat) (q : K) (w : List Nat), l[k]? = some q → ws[k]? = some w → w.foldl step start = q ∧ ∀ d ∈ w, d < 95
  nodup : l.Nodup
  sorted : ∀ (j k : Nat) (u v : List Nat), j < k → ws[j]? = some u → ws[k]? = some v → wlt u v
  bound : ∀ (k : Nat) (u w : List Nat), ws[k]? = some u → ws[i]? = some w → wlt u (w ++ [c])
  done : ∀ (k d : Nat) (q : K) (w : List Nat), (k < i ∨ (k = i ∧ d < c)) → d < 95 → l[k]? = some q → ws[k]? = some w → ∃ (j : Nat) (u : List Nat), l[j]? = some (step q d) ∧ ws[j]? = some u ∧ wle u (w ++ [d])
variable {step : K → Nat → K} {start : K} {D : K → Prop}
theorem LInv.one {c i : Nat} {l : List K} {ws : List (List Nat)} (h : LInv step start D i c l ws) (hD : ∀ q c, D q → c < 95 → D (step q c)) (hc : c < 95) {q : K} {w : List Nat} (hq : l[i]? = some q) (hw : ws[i]? = some w) :
    LInv step start D i (c + 1) (if (pos eqB (step q c) l).isSome = true then l else l ++ [step q c]) (if (pos eqB (step q c) l).isSome = true then ws else ws ++ [w ++ [c]]) := by
  have hil := (List.getElem?_eq_some_iff.1 hq).1
  cases hp : pos eqB (step q c) l with
  | some j =>
    simp only [Option.isSome_some, if_true]
    obtain ⟨x, hx, hxe⟩ := pos_some hp
    have := eqB_iff.1 hxe
    subst this
    obtain ⟨u, hu⟩ : ∃ u, ws[j]? = some u := ⟨_, List.getElem?_eq_getElem (by rw [h.len]; exact (List.getElem?_eq_some_iff.1 hx).1)⟩
    refine ⟨h.len, h.dom, h.first, h.run, h.nodup, h.sorted, fun k u' w' hk hw' => ?_, fun k d q' w' hkd hd hq' hw' => ?_⟩
    · exact wlt_trans (h.bound k u' w' hk hw') (wlt_last _ (by omega))
    · rcases hkd with hkd | ⟨rfl, hkd⟩
      · exact h.done k d q' w' (.inl hkd) hd hq' hw'
      · rcases Nat.lt_or_ge d c with hdc | hdc
        · exact h.done k d q' w' (.inr ⟨rfl, hdc⟩) hd hq' hw'
        · have : d = c := by omega
          subst this
          rw [hq] at hq'; cases hq'
          rw [hw] at hw'; cases hw'
          exact ⟨j, u, hx, hu, .inr (h.bound j u w hu hw)⟩
  | none =>
    simp only [Option.isSome_none, Bool.false_eq_true, if_false]
    have hnm : step q c ∉ l := fun hm => by have := pos_none hp _ hm; simp [eqB] at this
    have app : ∀ {α : Type} {l : List α} {x y : α} {k : Nat}, (l ++ [x])[k]? = some y → (k < l.length ∧ l[k]? = some y) ∨ (k = l.length ∧ y = x) := fun {α l x y k} h => by
      rcases Nat.lt_or_ge k l.length with hk | hk
      · rw [List.getElem?_append_left hk] at h; exact .inl ⟨hk, h⟩
      · have hkl := (List.getElem?_eq_some_iff.1 h).1
        simp at hkl
        have : k = l.length := by omega
        subst this
        simp at h
        exact .inr ⟨rfl, h.symm⟩
    have ext : ∀ {α : Type} {l : List α} {x y : α} {k : Nat}, l[k]? = some y → (l ++ [x])[k]? = some y := fun {α l x y k} h => by
      rw [List.getElem?_append_left (List.getElem?_eq_some_iff.1 h).1]; exact h
    refine ⟨by simp [h.len], fun x hx => ?_, ⟨ext h.first.1, ext h.first.2⟩, fun k q' w' hq' hw' => ?_, ?_, fun j k u v hjk hu hv => ?_, fun k u' w' hk hw' => ?_, fun k d q' w' hkd hd hq' hw' => ?_⟩
    · rcases List.mem_append.1 hx with hx | hx
      · exact h.dom x hx
      · simp at hx; subst hx; exact hD _ _ (h.dom q (List.mem_of_getElem? hq)) hc
    · rcases app hq' with ⟨h1, h2⟩ | ⟨h1, h2⟩
      · rcases app hw' with ⟨h3, h4⟩ | ⟨h3, h4⟩
        · exact h.run k q' w' h2 h4
        · have := h.len; omega
      · rcases app hw' with ⟨h3, h4⟩ | ⟨h3, h4⟩
        · have := h.len; omega
        · subst h2 h4
          obtain ⟨g1, g2⟩ := h.run i q w hq hw
          refine ⟨by rw [List.foldl_append, g1]; rfl, fun d hd => ?_⟩
          rcases List.mem_append.1 hd with hd | hd
          · exact g2 d hd
          · simp at hd; omega
    · rw [List.nodup_append]
      exact ⟨h.nodup, by simp, fun a ha b hb => by simp at hb; subst hb; exact fun e => hnm (e ▸ ha)⟩
    · rcases app hv with ⟨h3, h4⟩ | ⟨h3, h4⟩
      · rcases app hu with ⟨h1, h2⟩ | ⟨h1, h2⟩
        · exact h.sorted j k u v hjk h2 h4
        · omega
      · rcases app hu with ⟨h1, h2⟩ | ⟨h1, h2⟩
        · subst h4; exact h.bound j u w h2 hw
        · omega
    · rcases app hw' with ⟨h1, h2⟩ | ⟨h1, h2⟩
      · rw [hw] at h2; cases h2
        rcases app hk with ⟨h3, h4⟩ | ⟨h3, h4⟩
        · exact wlt_trans (h.bound k u' w h4 hw) (wlt_last _ (by omega))
        · subst h4; exact wlt_last _ (by omega)
      · have := h.len; omega
    · have hkl : k < l.length := by rcases hkd with hkd | ⟨rfl, _⟩ <;> omega
      rcases app hq' with ⟨_, h2⟩ | ⟨h1, _⟩
      · rcases app hw' with ⟨_, h4⟩ | ⟨h3, _⟩
        · by_cases hnew : k = i ∧ d = c
          · obtain ⟨rfl, rfl⟩ := hnew
            rw [hq] at h2; cases h2
            rw [hw] at h4; cases h4
            exact ⟨l.length, w ++ [d], by simp, by rw [← h.len]; simp, .inl rfl⟩
          · obtain ⟨j, u, g1, g2, g3⟩ := h.done k d q' w' (by omega) hd h2 h4
            exact ⟨j, u, ext g1, ext g2, g3⟩
        · have := h.len; omega
      · omega
theorem lrow_inv (hD : ∀ q c, D q → c < 95 → D (step q c)) {i : Nat} {q : K} {w : List Nat} : ∀ (m c : Nat) (l : List K) (ws : List (List Nat)), LInv step start D i c l ws → c + m ≤ 95 → l[i]? = some q → ws[i]? = some w →
    LInv step start D i (c + m) (lrow (step q) w m c l ws).1 (lrow (step q) w m c l ws).2 ∧ ∃ t, (lrow (step q) w m c l ws).1 = l ++ t
  | 0, c, l, ws, h, _, _, _ => ⟨h, [], by simp [lrow]⟩
  | m + 1, c, l, ws, h, hm, hq, hw => by
    have h1 := h.one hD (by omega) hq hw
    simp only [lrow]
    have e : c + (m + 1) = c + 1 + m := by omega
    rw [e]
    split
    · rename_i hp
      rw [if_pos hp, if_pos hp] at h1
      exact lrow_inv hD m (c + 1) l ws h1 (by omega) hq hw
    · rename_i hp
      rw [if_neg hp, if_neg hp] at h1
      obtain ⟨g1, t, g2⟩ := lrow_inv hD m (c + 1) _ _ h1 (by omega) (by rw [List.getElem?_append_left (List.getElem?_eq_some_iff.1 hq).1]; exact hq) (by rw [List.getElem?_append_left (List.getElem?_eq_some_iff.1 hw).1]; exact hw)
      exact ⟨g1, [step q c] ++ t, by rw [g2]; simp⟩
theorem LInv.next {i : Nat} {l : List K} {ws : List (List Nat)} (h : LInv step start D i 95 l ws) (hi : i < l.length) : LInv step start D (i + 1) 0 l ws := by
  obtain ⟨w, hw⟩ : ∃ w, ws[i]? = some w := ⟨_, List.getElem?_eq_getElem (by rw [h.len]; exact hi)⟩
  refine ⟨h.len, h.dom, h.first, h.run, h.nodup, h.sorted, fun k u v hk hv => ?_, fun k d q' w' hkd hd hq' hw' => ?_⟩
  · exact wlt_trans (h.bound k u w hk hw) (wlt_snoc _ _ (h.sorted i (i + 1) w v (by omega) hw hv))
  · refine h.done k d q' w' ?_ hd hq' hw'
    rcases hkd with hkd | ⟨rfl, hkd⟩
    · rcases Nat.lt_or_ge k i with h1 | h1
      · exact .inl h1
      · exact .inr ⟨by omega, hd⟩
    · omega
/-- What is told: the least word that is good, or that there is none. -/
def IsLeast (step : K → Nat → K) (start : K) (good : K → Bool) : Option (List Nat) → Prop
  | none => ∀ v : List Nat, (∀ c ∈ v, c < 95) → good (v.foldl step start) = false
  | some w => (∀ c ∈ w, c < 95) ∧ good (w.foldl step start) = true ∧ ∀ v : List Nat, (∀ c ∈ v, c < 95) → good (v.foldl step start) = true → ¬wlt v w
theorem reach_all {i : Nat} {l : List K} {ws : List (List Nat)} (h : LInv step start D i 0 l ws) (B : List Nat → Prop) (hB : ∀ (k : Nat) (w v : List Nat), l.length ≤ k ∨ i ≤ k → ws[k]? = some w → wle w v → ¬B v) (hpre : ∀ v c, B (v ++ [c]) → B v) :
    ∀ (n : Nat) (v : List Nat), v.length = n → (∀ c ∈ v, c < 95) → B v → ∃ (k : Nat) (w : List Nat), l[k]? = some (v.foldl step start) ∧ ws[k]? = some w ∧ wle w v
  | 0, v, hn, _, hb => by
    have : v = [] := List.eq_nil_of_length_eq_zero hn
    subst this
    exact ⟨0, [], h.first.1, h.first.2, .inl rfl⟩
  | n + 1, v, hn, hv, hb => by
    obtain ⟨u, d, rfl⟩ : ∃ u d, v = u ++ [d] := ⟨v.dropLast, v.getLast (by intro e; rw [e] at hn; simp at hn), (List.dropLast_concat_getLast _).symm⟩
    obtain ⟨k, w, h1, h2, h3⟩ := reach_all h B hB hpre n u (by simpa using hn) (fun c hc => hv c (by simp [hc])) (hpre u d hb)
    have hki : k < i := by
      apply Classical.byContradiction
      intro hk
      exact hB k w u (.inr (by omega)) h2 h3 (hpre u d hb)
    obtain ⟨j, x, g1, g2, g3⟩ := h.done k d _ w (.inl hki) (hv d (by simp)) h1 h2
    exact ⟨j, x, by rw [List.foldl_append]; exact g1, g2, wle_trans g3 (wle_snoc d h3)⟩
theorem leastGo_spec (hD : ∀ q c, D q → c < 95 → D (step q c)) {good : K → Bool} : ∀ (f i : Nat) (l : List K) (ws : List (List Nat)) (r : Option (List Nat)), LInv step start D i 0 l ws → i ≤ l.length → (∀ k < i, ∀ q, l[k]? = some q → good q = false) → leastGo step good f i l ws = some r → IsLeast step start good r
  | 0, _, _, _, _, _, _, _, h => by simp [leastGo] at h
  | f + 1, i, l, ws, r, hI, hil, hg, h => by
    simp only [leastGo] at h
    cases hq : l[i]? with
    | none =>
      simp only [hq, Option.some.injEq] at h
      subst h
      have hi : i = l.length := by have := List.getElem?_eq_none_iff.1 hq; omega
      intro v hv
      obtain ⟨k, w, h1, h2, _⟩ := reach_all hI (fun _ => True) (fun k w v hk hw _ => by have := (List.getElem?_eq_some_iff.1 hw).1; have := hI.len; omega) (fun _ _ h => h) v.length v rfl hv trivial
      exact hg k (by have := (List.getElem?_eq_some_iff.1 h1).1; omega) _ h1
    | some q =>
      have hii := (List.getElem?_eq_some_iff.1 hq).1
      obtain ⟨w, hw⟩ : ∃ w, ws[i]? = some w := ⟨_, List.getElem?_eq_getElem (by rw [hI.len]; exact hii)⟩
      simp only [hq, hw, Option.getD_some] at h
      split at h
      · rename_i hgood
        simp only [Option.some.injEq] at h
        subst h
        obtain ⟨g1, g2⟩ := hI.run i q w hq hw
        refine ⟨g2, by rw [g1]; exact hgood, fun v hv hgv hlt => ?_⟩
        have hmono : ∀ k u, i ≤ k → ws[k]? = some u → wle w u := fun k u hk hu => by
          rcases Nat.lt_or_ge i k with h1 | h1
          · exact .inr (hI.sorted i k w u h1 hw hu)
          · have : k = i := by omega
            subst this
            rw [hw] at hu; cases hu; exact .inl rfl
        obtain ⟨k, u, h1, h2, h3⟩ := reach_all hI (fun v => wlt v w) (fun k u v hk hu huv hlt => by
            have hki : i ≤ k := by rcases hk with hk | hk <;> omega
            exact wlt_irrefl _ (wle_lt (wle_trans (hmono k u hki hu) huv) hlt))
          (fun v c h => by
            rcases h with h | ⟨h, h2⟩
            · left; simp at h; omega
            · left; simp at h; omega) v.length v rfl hv hlt
        have hki : k < i := by
          apply Classical.byContradiction
          intro hk
          exact wlt_irrefl _ (wle_lt (wle_trans (hmono k u (by omega) h2) h3) hlt)
        have := hg k hki _ h1
        rw [hgv] at this
        cases this
      · rename_i hgood
        obtain ⟨g1, t, g2⟩ := lrow_inv hD 95 0 l ws hI (by omega) hq hw
        have hlen : i < (lrow (step q) w 95 0 l ws).1.length := by rw [g2]; simp; omega
        refine leastGo_spec hD f (i + 1) _ _ r (g1.next hlen) (by omega) (fun k hk q' hq' => ?_) h
        rw [g2, List.getElem?_append_left (by omega)] at hq'
        rcases Nat.lt_or_ge k i with h1 | h1
        · exact hg k h1 q' hq'
        · have : k = i := by omega
          subst this
          rw [hq] at hq'; cases hq'
          simpa using hgood
theorem LInv.begin (h0 : D start) : LInv step start D 0 0 [start] [[]] := by
  have one : ∀ {α : Type} {x y : α} {k : Nat}, [x][k]? = some y → k = 0 ∧ y = x := fun {α x y k} h => by
    cases k with
    | zero => simp at h; exact ⟨rfl, h.symm⟩
    | succ k => simp at h
  refine ⟨rfl, by simpa using h0, ⟨rfl, rfl⟩, fun k q w hq hw => ?_, by simp, fun j k u v hjk hu hv => ?_, fun k u w hu hw => ?_, fun k d q w hkd => by omega⟩
  · obtain ⟨_, rfl⟩ := one hq
    obtain ⟨_, rfl⟩ := one hw
    exact ⟨rfl, by simp⟩
  · have := (one hv).1; omega
  · obtain ⟨_, rfl⟩ := one hu
    obtain ⟨_, rfl⟩ := one hw
    left; simp
/-- It ends. -/
theorem leastGo_ends (hD : ∀ q c, D q → c < 95 → D (step q c)) {N : Nat} (hN : ∀ l : List K, (∀ x ∈ l, D x) → l.Nodup → l.length ≤ N) {good : K → Bool} : ∀ (f i : Nat) (l : List K) (ws : List (List Nat)), LInv step start D i 0 l ws → i ≤ l.length → N + 1 ≤ f + i → ∃ r, leastGo step good f i l ws = some r
  | 0, i, l, ws, hI, hil, hf => by have := hN l hI.dom hI.nodup; omega
  | f + 1, i, l, ws, hI, hil, hf => by
    simp only [leastGo]
    cases hq : l[i]? with
    | none => exact ⟨_, rfl⟩
    | some q =>
      have hii := (List.getElem?_eq_some_iff.1 hq).1
      obtain ⟨w, hw⟩ : ∃ w, ws[i]? = some w := ⟨_, List.getElem?_eq_getElem (by rw [hI.len]; exact hii)⟩
      simp only [hw, Option.getD_some]
      split
      · exact ⟨_, rfl⟩
      · obtain ⟨g1, t, g2⟩ := lrow_inv hD 95 0 l ws hI (by omega) hq hw
        have hlen : i < (lrow (step q) w 95 0 l ws).1.length := by rw [g2]; simp; omega
        exact leastGo_ends hD hN f (i + 1) _ _ (g1.next hlen) (by omega) (by omega)
/-- There is one least word at most. -/
theorem IsLeast.unique {K' : Type} [DecidableEq K'] {step' : K' → Nat → K'} {start' : K'} {good : K → Bool} {good' : K' → Bool} (h : ∀ v : List Nat, (∀ c ∈ v, c < 95) → good (v.foldl step start) = good' (v.foldl step' start')) {r r' : Option (List Nat)} (hr : IsLeast step start good r) (hr' : IsLeast step' start' good' r') : r = r' := by
  cases r with
  | none => cases r' with
    | none => rfl
    | some w' =>
      obtain ⟨h1, h2, _⟩ := hr'
      have := hr w' h1
      rw [h w' h1, h2] at this
      cases this
  | some w => cases r' with
    | none =>
      obtain ⟨h1, h2, _⟩ := hr
      have := hr' w h1
      rw [← h w h1, h2] at this
      cases this
    | some w' =>
      obtain ⟨h1, h2, h3⟩ := hr
      obtain ⟨g1, g2, g3⟩ := hr'
      rcases wlt_total w w' with e | e | e
      · exact absurd e (g3 w h1 (by rw [← h w h1]; exact h2))
      · rw [e]
      · exact absurd e (h3 w' g1 (by rw [h w' g1]; exact g2))
end
end Go.Aut
