/-
  The least word by which something good is reached, plainly. No condition.
  The least text that an automaton accepts: what is answered. No condition.
  The least text that an automaton accepts. No condition.
  What Least and Accepts answer; the document's example. No condition.
  Pairs of states: what meets them; searches; Within, Common, Not of package dfa. No condition.
-/
import Derived.Test.YtoonahofkpnihaaGreatDoorWTh1
import Derived.Test.YtoonahofkpnihaaGreatDoorWTh4
set_option linter.unusedVariables false
set_option linter.unusedSimpArgs false
set_option linter.unusedSectionVars false
set_option maxHeartbeats 4000000
set_option maxRecDepth 100000
section
namespace Go.Aut
def lexW : List Nat → List Nat → Prop
 | a :: u, b :: v => a < b ∨ (a = b ∧ lexW u v)
 | _, _ => False
def wlt (u v : List Nat) : Prop := u.length < v.length ∨ (u.length = v.length ∧ lexW u v)
theorem lexW_irrefl : ∀ u : List Nat, ¬lexW u u
 | [], h => h
 | a :: u, h => by
   rcases h with h | ⟨_, h⟩
   · omega
   · exact lexW_irrefl u h
theorem lexW_trans : ∀ {u v w : List Nat}, lexW u v → lexW v w → lexW u w
 | a :: u, b :: v, c :: w, h, h' => by
   simp only [lexW] at h h' ⊢
   rcases h with h | ⟨h, h2⟩
   · rcases h' with h' | ⟨h', _⟩
     · left; omega
     · left; omega
   · rcases h' with h' | ⟨h', h3⟩
     · left; omega
     · right; exact ⟨by omega, lexW_trans h2 h3⟩
 | [], _, _, h, _ => by simp [lexW] at h
 | _ :: _, [], _, h, _ => by simp [lexW] at h
 | _ :: _, _ :: _, [], _, h => by simp [lexW] at h
theorem lexW_total : ∀ {u v : List Nat}, u.length = v.length → lexW u v ∨ u = v ∨ lexW v u
 | [], [], _ => .inr (.inl rfl)
 | a :: u, b :: v, h => by
   simp only [List.length_cons, Nat.add_right_cancel_iff] at h
   rcases Nat.lt_trichotomy a b with h1 | h1 | h1
   · exact .inl (.inl h1)
   · subst h1
     rcases lexW_total h with h2 | h2 | h2
     · exact .inl (.inr ⟨rfl, h2⟩)
     · exact .inr (.inl (by rw [h2]))
     · exact .inr (.inr (.inr ⟨rfl, h2⟩))
   · exact .inr (.inr (.inl h1))
 | [], _ :: _, h => by simp at h
 | _ :: _, [], h => by simp at h
theorem lexW_snoc : ∀ {u v : List Nat} (a b : Nat), u.length = v.length → lexW u v → lexW (u ++ [a]) (v ++ [b])
 | x :: u, y :: v, a, b, hl, h => by
   simp only [List.length_cons, Nat.add_right_cancel_iff] at hl
   simp only [lexW, List.cons_append] at h ⊢
   rcases h with h | ⟨h, h2⟩
   · exact .inl h
   · exact .inr ⟨h, lexW_snoc a b hl h2⟩
 | [], _, _, _, _, h => by simp [lexW] at h
 | _ :: _, [], _, _, hl, _ => by simp at hl
theorem lexW_last : ∀ (u : List Nat) {a b : Nat}, a < b → lexW (u ++ [a]) (u ++ [b])
 | [], _, _, h => .inl h
 | x :: u, _, _, h => .inr ⟨rfl, lexW_last u h⟩
theorem wlt_irrefl (u : List Nat) : ¬wlt u u := fun h => by
 rcases h with h | ⟨_, h⟩
 · omega
 · exact lexW_irrefl u h
theorem wlt_trans {u v w : List Nat} (h : wlt u v) (h' : wlt v w) : wlt u w := by
 rcases h with h | ⟨h, h2⟩
 · rcases h' with h' | ⟨h', _⟩
   · left; omega
   · left; omega
 · rcases h' with h' | ⟨h', h3⟩
   · left; omega
   · right; exact ⟨by omega, lexW_trans h2 h3⟩
theorem wlt_total (u v : List Nat) : wlt u v ∨ u = v ∨ wlt v u := by
 rcases Nat.lt_trichotomy u.length v.length with h | h | h
 · exact .inl (.inl h)
 · rcases lexW_total h with h2 | h2 | h2
   · exact .inl (.inr ⟨h, h2⟩)
   · exact .inr (.inl h2)
   · exact .inr (.inr (.inr ⟨h.symm, h2⟩))
 · exact .inr (.inr (.inl h))
theorem wlt_snoc {u v : List Nat} (a b : Nat) (h : wlt u v) : wlt (u ++ [a]) (v ++ [b]) := by
 rcases h with h | ⟨h, h2⟩
 · left; simp; omega
 · right; exact ⟨by simp [h], lexW_snoc a b h h2⟩
theorem wlt_last (u : List Nat) {a b : Nat} (h : a < b) : wlt (u ++ [a]) (u ++ [b]) := .inr ⟨by simp, lexW_last u h⟩
def wle (u v : List Nat) : Prop := u = v ∨ wlt u v
theorem wle_lt {u v w : List Nat} (h : wle u v) (h' : wlt v w) : wlt u w := by
 rcases h with rfl | h
 · exact h'
 · exact wlt_trans h h'
theorem wle_trans {u v w : List Nat} (h : wle u v) (h' : wle v w) : wle u w := by
 rcases h' with rfl | h'
 · exact h
 · exact .inr (wle_lt h h')
theorem wle_snoc {u v : List Nat} (a : Nat) (h : wle u v) : wle (u ++ [a]) (v ++ [a]) := by
 rcases h with rfl | h
 · exact .inl rfl
 · exact .inr (wlt_snoc a a h)

section
variable {K : Type} [DecidableEq K]
def lrow (f : Nat → K) (w : List Nat) : Nat → Nat → List K → List (List Nat) → List K × List (List Nat)
 | 0, _, l, ws => (l, ws)
 | m + 1, c, l, ws => if (pos eqB (f c) l).isSome = true then lrow f w m (c + 1) l ws else lrow f w m (c + 1) (l ++ [f c]) (ws ++ [w ++ [c]])
def leastGo (step : K → Nat → K) (good : K → Bool) : Nat → Nat → List K → List (List Nat) → Option (Option (List Nat))
 | 0, _, _, _ => none
 | f + 1, i, l, ws => match l[i]? with
   | none => some none
   | some q => if good q = true then some (some ((ws[i]?).getD [])) else leastGo step good f (i + 1) (lrow (step q) ((ws[i]?).getD []) 95 0 l ws).1 (lrow (step q) ((ws[i]?).getD []) 95 0 l ws).2
structure LInv (step : K → Nat → K) (start : K) (D : K → Prop) (i c : Nat) (l : List K) (ws : List (List Nat)) : Prop where
 len : ws.length = l.length
 dom : ∀ x ∈ l, D x
 first : l[0]? = some start ∧ ws[0]? = some []
 run : ∀ (k : Nat) (q : K) (w : List Nat), l[k]? = some q → ws[k]? = some w → w.foldl step start = q ∧ ∀ d ∈ w, d < 95
 nodup : l.Nodup
 sorted : ∀ (j k : Nat) (u v : List Nat), j < k → ws[j]? = some u → ws[k]? = some v → wlt u v
 bound : ∀ (k : Nat) (u w : List Nat), ws[k]? = some u → ws[i]? = some w → wlt u (w ++ [c])
 done : ∀ (k d : Nat) (q : K) (w : List Nat), (k < i ∨ (k = i ∧ d < c)) → d < 95 → l[k]? = some q → ws[k]? = some w → ∃ (j : Nat) (u : List Nat), l[j]? = some (step q d) ∧ ws[j]? = some u ∧ wle u (w ++ [d])
variable {step : K → Nat → K} {start : K} {D : K → Prop}
theorem LInv.one {c i : Nat} {l : List K} {ws : List (List Nat)} (h : LInv step start D i c l ws) (hD : ∀ q c, D q → c < 95 → D (step q c)) (hc : c < 95) {q : K} {w : List Nat} (hq : l[i]? = some q) (hw : ws[i]? = some w) :
 LInv step start D i (c + 1) (if (pos eqB (step q c) l).isSome = true then l else l ++ [step q c]) (if (pos eqB (step q c) l).isSome = true then ws else ws ++ [w ++ [c]]) := by
 have hil := (List.getElem?_eq_some_iff.1 hq).1
 cases hp : pos eqB (step q c) l with
 | some j =>
   simp only [Option.isSome_some, if_true]
   obtain ⟨x, hx, hxe⟩ := pos_some hp
   have := eqB_iff.1 hxe
   subst this
   obtain ⟨u, hu⟩ : ∃ u, ws[j]? = some u := ⟨_, List.getElem?_eq_getElem (by rw [h.len]; exact (List.getElem?_eq_some_iff.1 hx).1)⟩
   refine ⟨h.len, h.dom, h.first, h.run, h.nodup, h.sorted, fun k u' w' hk hw' => ?_, fun k d q' w' hkd hd hq' hw' => ?_⟩
   · exact wlt_trans (h.bound k u' w' hk hw') (wlt_last _ (by omega))
   · rcases hkd with hkd | ⟨rfl, hkd⟩
     · exact h.done k d q' w' (.inl hkd) hd hq' hw'
     · rcases Nat.lt_or_ge d c with hdc | hdc
       · exact h.done k d q' w' (.inr ⟨rfl, hdc⟩) hd hq' hw'
       · have : d = c := by omega
         subst this
         rw [hq] at hq'; cases hq'
         rw [hw] at hw'; cases hw'
         exact ⟨j, u, hx, hu, .inr (h.bound j u w hu hw)⟩
 | none =>
   simp only [Option.isSome_none, Bool.false_eq_true, if_false]
   have hnm : step q c ∉ l := fun hm => by have := pos_none hp _ hm; simp [eqB] at this
   have app : ∀ {α : Type} {l : List α} {x y : α} {k : Nat}, (l ++ [x])[k]? = some y → (k < l.length ∧ l[k]? = some y) ∨ (k = l.length ∧ y = x) := fun {α l x y k} h => by
    rcases Nat.lt_or_ge k l.length with hk | hk
    · rw [List.getElem?_append_left hk] at h; exact .inl ⟨hk, h⟩
    · have hkl := (List.getElem?_eq_some_iff.1 h).1
      simp at hkl
      have : k = l.length := by omega
      subst this
      simp at h
      exact .inr ⟨rfl, h.symm⟩
   have ext : ∀ {α : Type} {l : List α} {x y : α} {k : Nat}, l[k]? = some y → (l ++ [x])[k]? = some y := fun {α l x y k} h => by
    rw [List.getElem?_append_left (List.getElem?_eq_some_iff.1 h).1]; exact h
   refine ⟨by simp [h.len], fun x hx => ?_, ⟨ext h.first.1, ext h.first.2⟩, fun k q' w' hq' hw' => ?_, ?_, fun j k u v hjk hu hv => ?_, fun k u' w' hk hw' => ?_, fun k d q' w' hkd hd hq' hw' => ?_⟩
   · rcases List.mem_append.1 hx with hx | hx
     · exact h.dom x hx
     · simp at hx; subst hx; exact hD _ _ (h.dom q (List.mem_of_getElem? hq)) hc
   · rcases app hq' with ⟨h1, h2⟩ | ⟨h1, h2⟩
     · rcases app hw' with ⟨h3, h4⟩ | ⟨h3, h4⟩
       · exact h.run k q' w' h2 h4
       · have := h.len; omega
     · rcases app hw' with ⟨h3, h4⟩ | ⟨h3, h4⟩
       · have := h.len; omega
       · subst h2 h4
         obtain ⟨g1, g2⟩ := h.run i q w hq hw
         refine ⟨by rw [List.foldl_append, g1]; rfl, fun d hd => ?_⟩
         rcases List.mem_append.1 hd with hd | hd
         · exact g2 d hd
         · simp at hd; omega
   · rw [List.nodup_append]
     exact ⟨h.nodup, by simp, fun a ha b hb => by simp at hb; subst hb; exact fun e => hnm (e ▸ ha)⟩
   · rcases app hv with ⟨h3, h4⟩ | ⟨h3, h4⟩
     · rcases app hu with ⟨h1, h2⟩ | ⟨h1, h2⟩
       · exact h.sorted j k u v hjk h2 h4
       · omega
     · rcases app hu with ⟨h1, h2⟩ | ⟨h1, h2⟩
       · subst h4; exact h.bound j u w h2 hw
       · omega
   · rcases app hw' with ⟨h1, h2⟩ | ⟨h1, h2⟩
     · rw [hw] at h2; cases h2
       rcases app hk with ⟨h3, h4⟩ | ⟨h3, h4⟩
       · exact wlt_trans (h.bound k u' w h4 hw) (wlt_last _ (by omega))
       · subst h4; exact wlt_last _ (by omega)
     · have := h.len; omega
   · have hkl : k < l.length := by rcases hkd with hkd | ⟨rfl, _⟩ <;> omega
     rcases app hq' with ⟨_, h2⟩ | ⟨h1, _⟩
     · rcases app hw' with ⟨_, h4⟩ | ⟨h3, _⟩
       · by_cases hnew : k = i ∧ d = c
         · obtain ⟨rfl, rfl⟩ := hnew
           rw [hq] at h2; cases h2
           rw [hw] at h4; cases h4
           exact ⟨l.length, w ++ [d], by simp, by rw [← h.len]; simp, .inl rfl⟩
         · obtain ⟨j, u, g1, g2, g3⟩ := h.done k d q' w' (by omega) hd h2 h4
           exact ⟨j, u, ext g1, ext g2, g3⟩
       · have := h.len; omega
     · omega
theorem lrow_inv (hD : ∀ q c, D q → c < 95 → D (step q c)) {i : Nat} {q : K} {w : List Nat} : ∀ (m c : Nat) (l : List K) (ws : List (List Nat)), LInv step start D i c l ws → c + m ≤ 95 → l[i]? = some q → ws[i]? = some w →
 LInv step start D i (c + m) (lrow (step q) w m c l ws).1 (lrow (step q) w m c l ws).2 ∧ ∃ t, (lrow (step q) w m c l ws).1 = l ++ t
 | 0, c, l, ws, h, _, _, _ => ⟨h, [], by simp [lrow]⟩
 | m + 1, c, l, ws, h, hm, hq, hw => by
   have h1 := h.one hD (by omega) hq hw
   simp only [lrow]
   have e : c + (m + 1) = c + 1 + m := by omega
   rw [e]
   split
   · rename_i hp
     rw [if_pos hp, if_pos hp] at h1
     exact lrow_inv hD m (c + 1) l ws h1 (by omega) hq hw
   · rename_i hp
     rw [if_neg hp, if_neg hp] at h1
     obtain ⟨g1, t, g2⟩ := lrow_inv hD m (c + 1) _ _ h1 (by omega) (by rw [List.getElem?_append_left (List.getElem?_eq_some_iff.1 hq).1]; exact hq) (by rw [List.getElem?_append_left (List.getElem?_eq_some_iff.1 hw).1]; exact hw)
     exact ⟨g1, [step q c] ++ t, by rw [g2]; simp⟩
theorem LInv.next {i : Nat} {l : List K} {ws : List (List Nat)} (h : LInv step start D i 95 l ws) (hi : i < l.length) : LInv step start D (i + 1) 0 l ws := by
 obtain ⟨w, hw⟩ : ∃ w, ws[i]? = some w := ⟨_, List.getElem?_eq_getElem (by rw [h.len]; exact hi)⟩
 refine ⟨h.len, h.dom, h.first, h.run, h.nodup, h.sorted, fun k u v hk hv => ?_, fun k d q' w' hkd hd hq' hw' => ?_⟩
 · exact wlt_trans (h.bound k u w hk hw) (wlt_snoc _ _ (h.sorted i (i + 1) w v (by omega) hw hv))
 · refine h.done k d q' w' ?_ hd hq' hw'
   rcases hkd with hkd | ⟨rfl, hkd⟩
   · rcases Nat.lt_or_ge k i with h1 | h1
     · exact .inl h1
     · exact .inr ⟨by omega, hd⟩
   · omega
def IsLeast (step : K → Nat → K) (start : K) (good : K → Bool) : Option (List Nat) → Prop
 | none => ∀ v : List Nat, (∀ c ∈ v, c < 95) → good (v.foldl step start) = false
 | some w => (∀ c ∈ w, c < 95) ∧ good (w.foldl step start) = true ∧ ∀ v : List Nat, (∀ c ∈ v, c < 95) → good (v.foldl step start) = true → ¬wlt v w
theorem reach_all {i : Nat} {l : List K} {ws : List (List Nat)} (h : LInv step start D i 0 l ws) (B : List Nat → Prop) (hB : ∀ (k : Nat) (w v : List Nat), l.length ≤ k ∨ i ≤ k → ws[k]? = some w → wle w v → ¬B v) (hpre : ∀ v c, B (v ++ [c]) → B v) :
 ∀ (n : Nat) (v : List Nat), v.length = n → (∀ c ∈ v, c < 95) → B v → ∃ (k : Nat) (w : List Nat), l[k]? = some (v.foldl step start) ∧ ws[k]? = some w ∧ wle w v
 | 0, v, hn, _, hb => by
   have : v = [] := List.eq_nil_of_length_eq_zero hn
   subst this
   exact ⟨0, [], h.first.1, h.first.2, .inl rfl⟩
 | n + 1, v, hn, hv, hb => by
   obtain ⟨u, d, rfl⟩ : ∃ u d, v = u ++ [d] := ⟨v.dropLast, v.getLast (by intro e; rw [e] at hn; simp at hn), (List.dropLast_concat_getLast _).symm⟩
   obtain ⟨k, w, h1, h2, h3⟩ := reach_all h B hB hpre n u (by simpa using hn) (fun c hc => hv c (by simp [hc])) (hpre u d hb)
   have hki : k < i := by
    apply Classical.byContradiction
    intro hk
    exact hB k w u (.inr (by omega)) h2 h3 (hpre u d hb)
   obtain ⟨j, x, g1, g2, g3⟩ := h.done k d _ w (.inl hki) (hv d (by simp)) h1 h2
   exact ⟨j, x, by rw [List.foldl_append]; exact g1, g2, wle_trans g3 (wle_snoc d h3)⟩
theorem leastGo_spec (hD : ∀ q c, D q → c < 95 → D (step q c)) {good : K → Bool} : ∀ (f i : Nat) (l : List K) (ws : List (List Nat)) (r : Option (List Nat)), LInv step start D i 0 l ws → i ≤ l.length → (∀ k < i, ∀ q, l[k]? = some q → good q = false) → leastGo step good f i l ws = some r → IsLeast step start good r
 | 0, _, _, _, _, _, _, _, h => by simp [leastGo] at h
 | f + 1, i, l, ws, r, hI, hil, hg, h => by
   simp only [leastGo] at h
   cases hq : l[i]? with
   | none =>
     simp only [hq, Option.some.injEq] at h
     subst h
     have hi : i = l.length := by have := List.getElem?_eq_none_iff.1 hq; omega
     intro v hv
     obtain ⟨k, w, h1, h2, _⟩ := reach_all hI (fun _ => True) (fun k w v hk hw _ => by have := (List.getElem?_eq_some_iff.1 hw).1; have := hI.len; omega) (fun _ _ h => h) v.length v rfl hv trivial
     exact hg k (by have := (List.getElem?_eq_some_iff.1 h1).1; omega) _ h1
   | some q =>
     have hii := (List.getElem?_eq_some_iff.1 hq).1
     obtain ⟨w, hw⟩ : ∃ w, ws[i]? = some w := ⟨_, List.getElem?_eq_getElem (by rw [hI.len]; exact hii)⟩
     simp only [hq, hw, Option.getD_some] at h
     split at h
     · rename_i hgood
       simp only [Option.some.injEq] at h
       subst h
       obtain ⟨g1, g2⟩ := hI.run i q w hq hw
       refine ⟨g2, by rw [g1]; exact hgood, fun v hv hgv hlt => ?_⟩
       have hmono : ∀ k u, i ≤ k → ws[k]? = some u → wle w u := fun k u hk hu => by
        rcases Nat.lt_or_ge i k with h1 | h1
        · exact .inr (hI.sorted i k w u h1 hw hu)
        · have : k = i := by omega
          subst this
          rw [hw] at hu; cases hu; exact .inl rfl
       obtain ⟨k, u, h1, h2, h3⟩ := reach_all hI (fun v => wlt v w) (fun k u v hk hu huv hlt => by
        have hki : i ≤ k := by rcases hk with hk | hk <;> omega
        exact wlt_irrefl _ (wle_lt (wle_trans (hmono k u hki hu) huv) hlt))
        (fun v c h => by
          rcases h with h | ⟨h, h2⟩
          · left; simp at h; omega
          · left; simp at h; omega) v.length v rfl hv hlt
       have hki : k < i := by
        apply Classical.byContradiction
        intro hk
        exact wlt_irrefl _ (wle_lt (wle_trans (hmono k u (by omega) h2) h3) hlt)
       have := hg k hki _ h1
       rw [hgv] at this
       cases this
     · rename_i hgood
       obtain ⟨g1, t, g2⟩ := lrow_inv hD 95 0 l ws hI (by omega) hq hw
       have hlen : i < (lrow (step q) w 95 0 l ws).1.length := by rw [g2]; simp; omega
       refine leastGo_spec hD f (i + 1) _ _ r (g1.next hlen) (by omega) (fun k hk q' hq' => ?_) h
       rw [g2, List.getElem?_append_left (by omega)] at hq'
       rcases Nat.lt_or_ge k i with h1 | h1
       · exact hg k h1 q' hq'
       · have : k = i := by omega
         subst this
         rw [hq] at hq'; cases hq'
         simpa using hgood
theorem LInv.begin (h0 : D start) : LInv step start D 0 0 [start] [[]] := by
 have one : ∀ {α : Type} {x y : α} {k : Nat}, [x][k]? = some y → k = 0 ∧ y = x := fun {α x y k} h => by
  cases k with
  | zero => simp at h; exact ⟨rfl, h.symm⟩
  | succ k => simp at h
 refine ⟨rfl, by simpa using h0, ⟨rfl, rfl⟩, fun k q w hq hw => ?_, by simp, fun j k u v hjk hu hv => ?_, fun k u w hu hw => ?_, fun k d q w hkd => by omega⟩
 · obtain ⟨_, rfl⟩ := one hq
   obtain ⟨_, rfl⟩ := one hw
   exact ⟨rfl, by simp⟩
 · have := (one hv).1; omega
 · obtain ⟨_, rfl⟩ := one hu
   obtain ⟨_, rfl⟩ := one hw
   left; simp
theorem leastGo_ends (hD : ∀ q c, D q → c < 95 → D (step q c)) {N : Nat} (hN : ∀ l : List K, (∀ x ∈ l, D x) → l.Nodup → l.length ≤ N) {good : K → Bool} : ∀ (f i : Nat) (l : List K) (ws : List (List Nat)), LInv step start D i 0 l ws → i ≤ l.length → N + 1 ≤ f + i → ∃ r, leastGo step good f i l ws = some r
 | 0, i, l, ws, hI, hil, hf => by have := hN l hI.dom hI.nodup; omega
 | f + 1, i, l, ws, hI, hil, hf => by
   simp only [leastGo]
   cases hq : l[i]? with
   | none => exact ⟨_, rfl⟩
   | some q =>
     have hii := (List.getElem?_eq_some_iff.1 hq).1
     obtain ⟨w, hw⟩ : ∃ w, ws[i]? = some w := ⟨_, List.getElem?_eq_getElem (by rw [hI.len]; exact hii)⟩
     simp only [hw, Option.getD_some]
     split
     · exact ⟨_, rfl⟩
     · obtain ⟨g1, t, g2⟩ := lrow_inv hD 95 0 l ws hI (by omega) hq hw
       have hlen : i < (lrow (step q) w 95 0 l ws).1.length := by rw [g2]; simp; omega
       exact leastGo_ends hD hN f (i + 1) _ _ (g1.next hlen) (by omega) (by omega)
theorem IsLeast.unique {K' : Type} [DecidableEq K'] {step' : K' → Nat → K'} {start' : K'} {good : K → Bool} {good' : K' → Bool} (h : ∀ v : List Nat, (∀ c ∈ v, c < 95) → good (v.foldl step start) = good' (v.foldl step' start')) {r r' : Option (List Nat)} (hr : IsLeast step start good r) (hr' : IsLeast step' start' good' r') : r = r' := by
 cases r with
 | none => cases r' with
   | none => rfl
   | some w' =>
     obtain ⟨h1, h2, _⟩ := hr'
     have := hr w' h1
     rw [h w' h1, h2] at this
     cases this
 | some w => cases r' with
   | none =>
     obtain ⟨h1, h2, _⟩ := hr
     have := hr' w h1
     rw [← h w h1, h2] at this
     cases this
   | some w' =>
     obtain ⟨h1, h2, h3⟩ := hr
     obtain ⟨g1, g2, g3⟩ := hr'
     rcases wlt_total w w' with e | e | e
     · exact absurd e (g3 w h1 (by rw [← h w h1]; exact h2))
     · rw [e]
     · exact absurd e (h3 w' g1 (by rw [h w' g1]; exact g2))
end
end Go.Aut
end
section
namespace Go.Abs
open Go.Proofs Go.Aut
attribute [-simp] getElem?_pos Option.not_isSome List.map_map
def revGo (l : List V) (i : Nat) : List V := (l.reverse.take i) ++ ((l.drop i).take (l.length - 2 * i)) ++ l.reverse.drop (l.length - i)
theorem revGo_len {l : List V} {i : Nat} (h : 2 * i ≤ l.length) : (revGo l i).length = l.length := by simp [revGo]; omega
theorem revGo_zero (l : List V) : revGo l 0 = l := by simp [revGo]
theorem revGo_at {l : List V} {i : Nat} (h : 2 * i ≤ l.length) (k : Nat) : (revGo l i)[k]? = if k < i ∨ l.length - i ≤ k then l.reverse[k]? else l[k]? := by
 unfold revGo
 rcases Nat.lt_or_ge k i with h1 | h1
 · rw [List.append_assoc, List.getElem?_append_left (by simp; omega), if_pos (.inl h1), List.getElem?_take, if_pos h1]
 · rcases Nat.lt_or_ge k (l.length - i) with h2 | h2
   · rw [List.getElem?_append_left (by simp; omega), List.getElem?_append_right (by simp; omega), if_neg (by omega), List.getElem?_take, List.getElem?_drop]
     have e : k - (l.reverse.take i).length = k - i := by simp; omega
     rw [e, if_pos (by omega)]
     congr 1
     omega
   · rw [List.getElem?_append_right (by simp; omega), if_pos (.inr h2), List.getElem?_drop]
     congr 1
     simp
     omega
theorem revGo_step {l : List V} {i : Nat} (h : 2 * i + 1 < l.length) {a b : V} (ha : l[i]? = some a) (hb : l[l.length - 1 - i]? = some b) : ((revGo l i).set i b).set (l.length - 1 - i) a = revGo l (i + 1) := by
 refine List.ext_getElem? fun k => ?_
 have hl := revGo_len (l := l) (i := i) (by omega)
 rw [revGo_at (by omega)]
 by_cases h1 : l.length - 1 - i = k
 · subst h1
   rw [List.getElem?_set_self (by simp [hl]; omega), if_pos (.inr (by omega)), List.getElem?_reverse (by omega)]
   rw [show l.length - 1 - (l.length - 1 - i) = i by omega, ha]
 · rw [List.getElem?_set_ne h1]
   by_cases h2 : i = k
   · subst h2
     rw [List.getElem?_set_self (by rw [hl]; omega), if_pos (.inl (by omega)), List.getElem?_reverse (by omega), hb]
   · rw [List.getElem?_set_ne h2, revGo_at (by omega)]
     by_cases h3 : k < i ∨ l.length - i ≤ k
     · rw [if_pos h3, if_pos (by omega)]
     · rw [if_neg h3, if_neg (by omega)]
theorem revGo_full {l : List V} {i : Nat} (h : 2 * i ≤ l.length) (h2 : l.length ≤ 2 * i + 1) : revGo l i = l.reverse := by
 refine List.ext_getElem? fun k => ?_
 rw [revGo_at h]
 split
 · rfl
 · rename_i hk
   rw [List.getElem?_reverse (by omega)]
   congr 1
   omega
theorem f_slices_Reverse (bs : List Nat) (hl : bs.length ≤ 1000000) : FnH Tryz.prog n_slices_ReverseIIbyte_byte [0] [.ref 0 bs.length] [some (.arr ty_uint8 1 (bs.map u8V))] (.tup []) [some (.arr ty_uint8 1 (bs.reverse.map u8V))] := by
 refine FnH.of_image qF h_slices_ReverseIIbyte_byte i_slices_ReverseIIbyte_byte rfl fun ho hh => ?_
 unfold c_slices_ReverseIIbyte_byte
 clear ho hh
 obtain ⟨l, hld⟩ : ∃ l, l = bs.map u8V := ⟨_, rfl⟩
 have hll : l.length = bs.length := by simp [hld]
 have hrev : bs.reverse.map u8V = l.reverse := by rw [hld, List.map_reverse]
 have hget : ∀ k, k < l.length → ∃ x : Nat, l[k]? = some (.int .u8 (x : Int)) := fun k hk => by
  obtain ⟨x, hx⟩ := qP (l := bs) (k := k) (by omega)
  exact ⟨x, by rw [hld, List.getElem?_map, hx]; rfl⟩
 rw [hrev, ← hld, ← hll]
 rw [← hll] at hl
 clear hrev hld hll
 simp (disch := omega) [-List.reduceReplicate]
 refine qI (fun i : Nat => ⟨[(0, .ref 0 l.length), (2, nV i), (3, .int .i64 ((l.length : Int) - 1 - i))], [some (.arr ty_uint8 1 (revGo l i))]⟩) (fun i => 2 * i ≤ l.length) (fun i => l.length - i) [] _ 0 rfl (by simp [revGo_zero]) (by simp) ?_
 intro i hi N hN
 have hlen := revGo_len hi
 rcases Nat.lt_or_ge (2 * i + 1) l.length with hlt | hge
 · obtain ⟨a, ha⟩ := hget i (by omega)
   obtain ⟨b, hb⟩ := hget (l.length - 1 - i) (by omega)
   have h1 := revGo_at hi i
   have h2 := revGo_at hi (l.length - 1 - i)
   rw [if_neg (by omega), ha] at h1
   rw [if_neg (by omega), hb] at h2
   have hst := revGo_step hlt ha hb
   have hj : ((l.length : Int) - 1 - i).toNat = l.length - 1 - i := by omega
   have h3 : ((revGo l i).set i (.int .u8 (b : Int)))[l.length - 1 - i]? = some (.int .u8 (b : Int)) := by rw [List.getElem?_set_ne (by omega)]; exact h2
   simp (disch := omega) [-List.reduceReplicate, hlen, hj, h1, h2, h3, hst]
   exact hN.out _ <| Nx.mk (i + 1) (by simp; omega) (by omega) (by omega)
 · have := revGo_full hi (by omega)
   simp (disch := omega) [-List.reduceReplicate, this]
def pathN (fr by' : List Nat) : Nat → Nat → List Nat
 | 0, _ => []
 | f + 1, i => if i = 0 then [] else zA by' i :: pathN fr by' f (zA fr i)
structure CameBy (fr by' : List Nat) (ws : List (List Nat)) : Prop where
 len1 : fr.length = ws.length
 len2 : by'.length = ws.length
 zero : ∀ w, ws[0]? = some w → w = []
 back : ∀ (i : Nat) (w : List Nat), 0 < i → ws[i]? = some w → ∃ (j c : Nat) (u : List Nat), fr[i]? = some j ∧ by'[i]? = some (32 + c) ∧ j < i ∧ ws[j]? = some u ∧ w = u ++ [c] ∧ c < 95
theorem pathN_eq {fr by' : List Nat} {ws : List (List Nat)} (h : CameBy fr by' ws) : ∀ (f i : Nat) (w : List Nat), i < f → ws[i]? = some w → pathN fr by' f i = w.reverse.map (32 + ·)
 | 0, _, _, hf, _ => by omega
 | f + 1, i, w, hf, hw => by
   simp only [pathN]
   by_cases hi : i = 0
   · subst hi
     rw [if_pos rfl, h.zero w hw]; rfl
   · rw [if_neg hi]
     obtain ⟨j, c, u, h1, h2, h3, h4, rfl, _⟩ := h.back i w (by omega) hw
     rw [show zA by' i = 32 + c by simp [zA, h2], show zA fr i = j by simp [zA, h1], pathN_eq h f j u (by omega) h4]
     simp
def wordS (w : List Nat) : List UInt8 := w.map fun c => UInt8.ofNat (32 + c)
theorem ofBytes_word : ∀ (w : List Nat), (∀ c ∈ w, c < 95) → ofBytesV ((w.map (32 + ·)).map u8V) = some (wordS w)
 | [], _ => rfl
 | c :: w, h => by
   have ih := ofBytes_word w fun c hc => h c (by simp [hc])
   have hc := h c (by simp)
   simp only [List.map_cons, ofBytesV, ih, u8V, Option.map_some, Int.toNat_natCast]
   rfl
theorem f_dfa_path (fr by' : List Nat) (ws : List (List Nat)) (h : CameBy fr by' ws) (hl : ws.length ≤ 1000000) (i : Nat) (w : List Nat) (hw : ws[i]? = some w) (hw95 : ∀ c ∈ w, c < 95) (hwl : w.length ≤ i) : Fn Tryz.prog n_dfa_path [rowN fr, .seq 1 (by'.map u8V), nV i] (.str (wordS w)) := by
 refine Fn.of_imageE qF h_dfa_path i_dfa_path rfl fun ho => ?_
 unfold c_dfa_path
 simp only [oks, ok, and_true] at ho
 clear ho
 have hil := (List.getElem?_eq_some_iff.1 hw).1
 have h1 := h.len1
 have h2 := h.len2
 obtain ⟨R, hR⟩ : ∃ R, R = w.reverse.map (32 + ·) := ⟨_, rfl⟩
 have hRl : R.length = w.length := by simp [hR]
 have hpn : pathN fr by' (i + 1) i = R := by rw [hR]; exact pathN_eq h (i + 1) i w (by omega) hw
 simp (disch := omega) [-List.reduceReplicate]
 refine qI (fun (x : Nat × Nat × List Nat) => ⟨[(0, rowN fr), (1, .seq 1 (by'.map u8V)), (2, nV x.2.1), (7, .ref 0 x.2.2.length)], [some (.arr ty_uint8 1 (x.2.2.map u8V))]⟩)
  (fun x => x.2.1 < x.1 ∧ x.2.1 ≤ i ∧ x.2.2.length + x.2.1 ≤ i ∧ x.2.2 ++ pathN fr by' x.1 x.2.1 = R) (fun x => x.1) [.r 7 ty_uint8 1] _ (i + 1, i, []) rfl (by simp) ⟨by simp, by simp, by simp, by simpa using hpn⟩ ?_
 rintro ⟨f, k, out⟩ ⟨hf, hk, hol, hi⟩ N hN
 simp only at hf hk hol hi
 cases f with
 | zero => omega
 | succ f =>
 simp only [pathN] at hi
 obtain ⟨u, hu⟩ := qP (l := ws) (k := k) (by omega)
 by_cases hk0 : k = 0
 · subst hk0
   rw [if_pos rfl, List.append_nil] at hi
   subst hi
   have hrv := f_slices_Reverse out (by omega)
   have hob : ofBytesV ((out.map u8V).reverse) = some (wordS w) := by
    rw [hR, List.map_reverse, List.map_reverse, List.reverse_reverse]
    exact ofBytes_word w hw95
   simp (disch := omega) [-List.reduceReplicate]
   refine qH [0] 1 [0] (by simp) (by simp) (by simp) (by simp) hrv (by simp) fun _ _ => ?_
   simp (disch := omega) [-List.reduceReplicate, hob]
 · rw [if_neg hk0] at hi
   obtain ⟨j, c, u', g1, g2, g3, g4, g5, g6⟩ := h.back k u (by omega) hu
   rw [show zA by' k = 32 + c by simp [zA, g2], show zA fr k = j by simp [zA, g1]] at hi
   replace hi := hid hi
   simp (disch := omega) [-List.reduceReplicate, g1, g2]
   exact hN.out _ <| Nx.mk (f, j, out ++ [32 + c]) (by simp) ⟨by simp only; omega, by simp only; omega, by simp; omega, by simpa using hi.out⟩ (by simp only; omega)
def ltrKK (e sz : Nat) (d : Option Nat) (K : St → Prop) (σ : St) (vs us : List V) : Prop := jD sz us = true ∧ us.length ≤ 16777216 ∧ K (St.put ⟨(σ.kill (qE vs)).r, (σ.kill (qE vs)).h ++ [some (Ob.arr e sz us)]⟩ d (.ref (σ.kill (qE vs)).h.length us.length))
def ltrK (e sz : Nat) (d : Option Nat) (K : St → Prop) (σ : St) (vs : List V) : Prop := oM (purs σ.h vs) (ltrKK e sz d K σ vs)
theorem ltrKK_app {e sz : Nat} {d : Option Nat} {K : St → Prop} {σ : St} {vs us : List V} : ltrKK e sz d K σ vs us = (jD sz us = true ∧ us.length ≤ 16777216 ∧ K (St.put ⟨(σ.kill (qE vs)).r, (σ.kill (qE vs)).h ++ [some (Ob.arr e sz us)]⟩ d (.ref (σ.kill (qE vs)).h.length us.length))) := propext Iff.rfl
theorem ltrK_app {e sz : Nat} {d : Option Nat} {K : St → Prop} {σ : St} {vs : List V} : ltrK e sz d K σ vs = oM (purs σ.h vs) (ltrKK e sz d K σ vs) := propext Iff.rfl
theorem a_ltr {Φ : Ctr} {d : Option Nat} {K : St → Prop} {σ : St} {e sz : Nat} {xs : List AO} : qC Φ d (.ltr e sz xs) K σ = oM (σ.evs xs) (ltrK e sz d K σ) := by
 simp only [qC, oM]
 cases σ.evs xs with
 | none => rfl
 | some vs =>
   simp only [ltrK, oM]
   cases purs σ.h vs <;> rfl
attribute [simp] ltrKK_app ltrK_app a_ltr
def resL : Option (List Nat) → V
 | some w => .tup [.str (wordS w), .bool true]
 | none => .tup [.str [], .bool false]
theorem CameBy.add {fr by' : List Nat} {ws : List (List Nat)} (h : CameBy fr by' ws) {i c : Nat} {w : List Nat} (hw : ws[i]? = some w) (hc : c < 95) : CameBy (fr ++ [i]) (by' ++ [32 + c]) (ws ++ [w ++ [c]]) := by
 have hil := (List.getElem?_eq_some_iff.1 hw).1
 have h1 := h.len1
 have h2 := h.len2
 refine ⟨by simp [h1], by simp [h2], fun u hu => ?_, fun k u hk hu => ?_⟩
 · rw [List.getElem?_append_left (by omega)] at hu
   exact h.zero u hu
 · rcases Nat.lt_or_ge k ws.length with hkl | hkl
   · rw [List.getElem?_append_left hkl] at hu
     obtain ⟨j, d, v, g1, g2, g3, g4, g5, g6⟩ := h.back k u hk hu
     exact ⟨j, d, v, by rw [List.getElem?_append_left (by omega)]; exact g1, by rw [List.getElem?_append_left (by omega)]; exact g2, g3, by rw [List.getElem?_append_left (by omega)]; exact g4, g5, g6⟩
   · have hkk := (List.getElem?_eq_some_iff.1 hu).1
     simp at hkk
     have : k = ws.length := by omega
     subst this
     rw [List.getElem?_append_right (Nat.le_refl _), Nat.sub_self] at hu
     simp only [List.getElem?_cons_zero, Option.some.injEq] at hu
     refine ⟨i, c, w, by rw [← h1, List.getElem?_append_right (Nat.le_refl _), Nat.sub_self]; rfl, by rw [← h2, List.getElem?_append_right (Nat.le_refl _), Nat.sub_self]; rfl, hil, by rw [List.getElem?_append_left hil]; exact hw, hu.symm, hc⟩
def wlen (ws : List (List Nat)) : Prop := ∀ (k : Nat) (w : List Nat), ws[k]? = some w → w.length ≤ k
def sgn (c : UInt8) : Bool := decide (32 ≤ c.toNat) && decide (c.toNat ≤ 126)
def accS (a : Aut) : Nat → Str → Bool
 | q, [] => a.F q
 | q, b :: s => if sgn b = true then accS a (a.δ q (b.toNat - 32)) s else false
theorem join_lt {n m i j : Nat} (hi : i < n) (hj : j < m) : i * m + j < n * m := by
 have : (i + 1) * m ≤ n * m := Nat.mul_le_mul_right m hi
 rw [Nat.succ_mul] at this
 omega
theorem join_div {m i j : Nat} (hj : j < m) : (i * m + j) / m = i ∧ (i * m + j) % m = j := by
 rw [Nat.mul_comm i m, Nat.mul_add_div (by omega), Nat.div_eq_of_lt hj, Nat.mul_add_mod, Nat.mod_eq_of_lt hj]
 exact ⟨rfl, rfl⟩
def ktP : KT := ⟨true, [.i .i64, .i .i64]⟩
def pV (p : Nat × Nat) : V := .strct [nV p.1, nV p.2]
theorem eqK_pV (a b : Nat × Nat) : eqK (pV a) (pV b) = decide (a = b) := by
 have h1 : ((a.1 : Int) = b.1) ↔ a.1 = b.1 := by omega
 have h2 : ((a.2 : Int) = b.2) ↔ a.2 = b.2 := by omega
 simp [eqK, eqCs, nV, cl, eqC, pV, h1, h2, Prod.ext_iff]
theorem f_met_add_pair_nil (q : Nat × Nat) : FnH Tryz.prog n_pdfa_metIdfa_pair_add [0] [.ptr 0 0, pV q] (metE ktP 2) (nV 0) (metH ktP ty_dfa_pair 2 pV [q]) := by
 refine FnH.of_image qF h_pdfa_metIdfa_pair_add i_pdfa_metIdfa_pair_add rfl fun ho hh => ?_
 unfold c_pdfa_metIdfa_pair_add
 clear ho hh
 simp (disch := omega) [metE, metH, ktP, nV, pV, mget, mput, ents, zT, kOf, qT, zL, aggV]
theorem f_met_add_pair (l : List (Nat × Nat)) (q : Nat × Nat) (hl : l.length ≤ 1000000) : FnH Tryz.prog n_pdfa_metIdfa_pair_add [0] [.ptr 0 0, pV q] (metH ktP ty_dfa_pair 2 pV l) (nV (addN eqB l q)) (metH ktP ty_dfa_pair 2 pV (addL eqB l q)) := by
 refine FnH.of_image qF h_pdfa_metIdfa_pair_add i_pdfa_metIdfa_pair_add rfl fun ho hh => ?_
 unfold c_pdfa_metIdfa_pair_add
 clear ho hh
 have hm := mget_ents eqK_pV q l 0
 cases hp : pos eqB q l with
 | some i =>
   rw [hp] at hm
   replace hm : mget (.strct [.int .i64 (q.1 : Int), .int .i64 (q.2 : Int)]) (ents pV 0 l) = some (.int .i64 (i : Int)) := by simpa [nV, pV] using hm
   obtain ⟨h1, h2⟩ := add_some hp
   rw [h1, h2]
   simp (disch := omega) [metH, ktP, nV, pV, zT, kOf, qT, zL, aggV, hm]
 | none =>
   rw [hp] at hm
   replace hm : mget (.strct [.int .i64 (q.1 : Int), .int .i64 (q.2 : Int)]) (ents pV 0 l) = none := by simpa [nV, pV] using hm
   have hpt := mput_ents eqK_pV q l 0 hp
   replace hpt : mput (.strct [.int .i64 (q.1 : Int), .int .i64 (q.2 : Int)]) (.int .i64 (l.length : Int)) (ents pV 0 l) = ents pV 0 (l ++ [q]) := by simpa [nV, pV] using hpt
   obtain ⟨h1, h2⟩ := add_none hp
   rw [h1, h2]
   simp (disch := omega) [metH, ktP, nV, pV, zT, kOf, qT, zL, aggV, hm, hpt]
theorem f_meet_pair_ref (q : Nat × Nat) : FnH Tryz.prog n_dfa_meetIdfa_pair [] [.ref 0 1] [some (.arr ty_dfa_pair 2 [pV q])] (.ptr 0 0) (metH ktP ty_dfa_pair 2 pV [q]) := by
 refine FnH.of_image qF h_dfa_meetIdfa_pair i_dfa_meetIdfa_pair rfl fun ho hh => ?_
 unfold c_dfa_meetIdfa_pair
 clear ho hh
 simp (disch := omega) [pV]
 refine qI (fun k : Nat => if k = 0 then ⟨[(3, .ptr 0 0), (9, .ref 1 1), (10, .int .i64 1), (11, .int .i64 0)], [some (.box [.ref 2 0, .nil 2]), some (.arr ty_dfa_pair 2 [pV q]), some (.mp ktP [])]⟩ else ⟨[(3, .ptr 0 0), (9, .ref 1 1), (10, .int .i64 1), (11, .int .i64 1)], [some (.box [.ref 2 0, .ref 3 1]), some (.arr ty_dfa_pair 2 [pV q]), some (.mp ktP (ents pV 0 [q])), some (.arr ty_dfa_pair 2 [pV q])]⟩) (fun k => k ≤ 1) (fun k => 1 - k) [] _ 0 rfl (by simp [ktP, pV]) (by simp) ?_
 intro k hk N hN
 have hadd := f_met_add_pair_nil q
 simp [pV] at hadd
 rcases (show k = 0 ∨ k = 1 by omega) with rfl | rfl
 · simp (disch := omega) [pV]
   refine qH [0] 1 [0, 2] (by simp) (by simp) (by simp) (by simp) hadd (by simp) fun _ _ => ?_
   simp (disch := omega)
   exact hN.out _ <| Nx.mk 1 (by simp [pV]) (by simp) (by simp)
 · simp (disch := omega) [pV]
theorem f_dfa_both_1 {a b : Aut} {p : Nat × Nat} {c x y : Nat} {r s : List Nat} (hr : a.next[p.1]? = some r) (hx : r[c]? = some x) (hs : b.next[p.2]? = some s) (hy : s[c]? = some y) :
 FnH Tryz.prog n_dfa_both_1 [2, 3] [pV p, nV c, .ptr 0 0, .ptr 1 0] [some (.box (Aut.c a)), some (.box (Aut.c b))] (pV (x, y)) [some (.box (Aut.c a)), some (.box (Aut.c b))] := by
 refine FnH.of_image qF h_dfa_both_1 i_dfa_both_1 rfl fun ho hh => ?_
 unfold c_dfa_both_1
 clear ho hh
 simp (disch := omega) [Aut.c, pV, hr, hx, hs, hy]
theorem imageE_of {P : Program} {fn : Func} {K : List (List Nat)} {n : Nat} {r : AC × List RV} (h : qK P fn K n = some r) : qL P fn [] [] K n = some r := by
 unfold qK at h
 unfold qL
 simpa using h
theorem f_dfa_both {a b : Aut} : FnH Tryz.prog n_dfa_both [] [.strct (Aut.c a), .strct (Aut.c b)] [] (.fn (.func n_dfa_both_1) [] [.ptr 0 0, .ptr 1 0]) [some (.box (Aut.c a)), some (.box (Aut.c b))] := by
 refine FnH.of_image qF h_dfa_both (imageE_of i_dfa_both) rfl fun ho hh => ?_
 unfold c_dfa_both
 clear ho hh
 simp (disch := omega) [Aut.c]
theorem f_dfa_search_1 {a b : Aut} {p : Nat × Nat} {f1 f2 : Bool} (h1 : a.final[p.1]? = some f1) (h2 : b.final[p.2]? = some f2) {g : Nat} {op : Bool → Bool → Bool} (hg : ∀ x y, Fn Tryz.prog g [.bool x, .bool y] (.bool (op x y))) :
 FnH Tryz.prog n_dfa_search_1 [1, 2, 3] [pV p, .ptr 0 0, .ptr 1 0, .ptr 2 0] [some (.box [.fn (.func g) [] []]), some (.box (Aut.c a)), some (.box (Aut.c b))] (.bool (op f1 f2)) [some (.box [.fn (.func g) [] []]), some (.box (Aut.c a)), some (.box (Aut.c b))] := by
 refine FnH.of_image qF h_dfa_search_1 i_dfa_search_1 rfl fun ho hh => ?_
 unfold c_dfa_search_1
 clear ho hh
 simp (disch := omega) [Aut.c, pV, h1, h2]
 refine wcallD_flat (hg f1 f2) rfl ?_
 simp (disch := omega)
theorem f_Common_1 (x y : Bool) : Fn Tryz.prog n_dfa_Common_1 [.bool x, .bool y] (.bool (x && y)) := by
 refine Fn.of_image qF h_dfa_Common_1 i_dfa_Common_1 rfl fun ho => ?_
 unfold c_dfa_Common_1
 simp only [oks, ok, and_true] at ho
 clear ho
 cases x <;> simp (disch := omega)
theorem f_Within_1 (x y : Bool) : Fn Tryz.prog n_dfa_Within_1 [.bool x, .bool y] (.bool (x && !y)) := by
 refine Fn.of_image qF h_dfa_Within_1 i_dfa_Within_1 rfl fun ho => ?_
 unfold c_dfa_Within_1
 simp only [oks, ok, and_true] at ho
 clear ho
 cases x <;> simp (disch := omega)
def stepP2 (a b : Aut) (p : Nat × Nat) (c : Nat) : Nat × Nat := (a.δ p.1 c, b.δ p.2 c)
def goodP2 (a b : Aut) (op : Bool → Bool → Bool) (p : Nat × Nat) : Bool := op (a.F p.1) (b.F p.2)
def fiveB (a b : Aut) (g : Nat) : List (Option Ob) := [some (.box (Aut.c a)), some (.box (Aut.c b)), some (.box [.fn (.func g) [] []]), some (.box (Aut.c a)), some (.box (Aut.c b))]
def lsP (a b : Aut) (g : Nat) (fr by' : List Nat) (l : List (Nat × Nat)) : List (Option Ob) := fiveB a b g ++ [some (.box [.ref 8 0, .ref 9 l.length]), some (.arr qO 1 (fr.map nV)), some (.arr ty_uint8 1 (by'.map u8V)), some (.mp ktP (ents pV 0 l)), some (.arr ty_dfa_pair 2 (l.map pV))]
def lsQ (a b : Aut) (g : Nat) (fr by' : List Nat) (last : Nat × Nat) (l : List (Nat × Nat)) : List (Option Ob) := fiveB a b g ++ [some (.box [.ref 9 0, .ref 10 l.length]), some (.arr qO 1 (fr.map nV)), some (.arr ty_uint8 1 (by'.map u8V)), some (.box [nV last.1, nV last.2]), some (.mp ktP (ents pV 0 l)), some (.arr ty_dfa_pair 2 (l.map pV))]
theorem nodup_map_inj {α β : Type} {f : α → β} : ∀ {l : List α}, l.Nodup → (∀ x ∈ l, ∀ y ∈ l, f x = f y → x = y) → (l.map f).Nodup
 | [], _, _ => by simp
 | x :: l, h, hi => by
   rw [List.nodup_cons] at h
   rw [List.map_cons, List.nodup_cons]
   refine ⟨fun hm => ?_, nodup_map_inj h.2 fun y hy z hz => hi y (by simp [hy]) z (by simp [hz])⟩
   obtain ⟨y, hy, e⟩ := List.mem_map.1 hm
   have := hi y (by simp [hy]) x (by simp) e
   subst this
   exact h.1 hy
theorem nodup_pairs {n m : Nat} {l : List (Nat × Nat)} (h : l.Nodup) (hd : ∀ x ∈ l, x.1 < n ∧ x.2 < m) : l.length ≤ n * m := by
 have := nodup_le (n * m) (l.map fun p => p.1 * m + p.2) (nodup_map_inj h fun x hx y hy e => by
  have h1 := join_div (i := x.1) (hd x hx).2
  have h2 := join_div (i := y.1) (hd y hy).2
  rw [e] at h1
  exact Prod.ext (h1.1.symm.trans h2.1) (h1.2.symm.trans h2.2)) fun x hx => by
   obtain ⟨p, hp, rfl⟩ := List.mem_map.1 hx
   exact join_lt (hd p hp).1 (hd p hp).2
 simpa using this
theorem f_least_pair {a b : Aut} (ha : a.ok) (hb : b.ok) (hab : a.n * b.n ≤ 250000) {g : Nat} {op : Bool → Bool → Bool} (hg : ∀ x y, Fn Tryz.prog g [.bool x, .bool y] (.bool (op x y))) (r : Option (List Nat)) (hr : leastGo (stepP2 a b) (goodP2 a b op) (a.n * b.n + 1) 0 [(0, 0)] [[]] = some r) :
 FnH Tryz.prog n_dfa_leastIdfa_pair [1, 2] [pV (0, 0), .fn (.func n_dfa_both_1) [] [.ptr 0 0, .ptr 1 0], .fn (.func n_dfa_search_1) [] [.ptr 2 0, .ptr 3 0, .ptr 4 0]] (fiveB a b g) (resL r) (fiveB a b g) := by
 refine FnH.of_image qF h_dfa_leastIdfa_pair i_dfa_leastIdfa_pair rfl fun ho hh => ?_
 unfold c_dfa_leastIdfa_pair
 clear ho hh
 obtain ⟨X, hX⟩ : ∃ X, X = resL r := ⟨_, rfl⟩
 rw [← hX]
 have hnl : a.next.length = a.n := rfl
 have hnl2 : b.next.length = b.n := rfl
 have hD : ∀ (q : Nat × Nat) (c : Nat), (q.1 < a.n ∧ q.2 < b.n) → c < 95 → ((stepP2 a b q c).1 < a.n ∧ (stepP2 a b q c).2 < b.n) := fun q c hq hc => ⟨ha.lt hq.1 hc, hb.lt hq.2 hc⟩
 have hfl : a.final.length = a.n := ha.fin
 have hfl2 : b.final.length = b.n := hb.fin
 have hmeet := f_meet_pair_ref (0, 0)
 simp [pV] at hmeet
 simp (disch := omega) [Aut.c, fiveB, pV]
 refine qH [] 0 [6] (by simp) (by simp) (by simp) (by simp) hmeet (by simp) fun _ _ => ?_
 simp (disch := omega)
 refine qI (fun (x : Nat × Nat × List (Nat × Nat) × List Nat × List Nat × List (List Nat)) => ⟨[(1, .fn (.func n_dfa_both_1) [] [.ptr 0 0, .ptr 1 0]), (2, .fn (.func n_dfa_search_1) [] [.ptr 2 0, .ptr 3 0, .ptr 4 0]), (8, .ptr 5 0), (9, .ref 6 x.2.2.1.length), (10, .ref 7 x.2.2.1.length), (11, nV x.2.1)], lsP a b g x.2.2.2.1 x.2.2.2.2.1 x.2.2.1⟩)
  (fun x => LInv (stepP2 a b) (0, 0) (fun q => q.1 < a.n ∧ q.2 < b.n) x.2.1 0 x.2.2.1 x.2.2.2.2.2 ∧ x.2.1 ≤ x.2.2.1.length ∧ CameBy x.2.2.2.1 x.2.2.2.2.1 x.2.2.2.2.2 ∧ wlen x.2.2.2.2.2 ∧ leastGo (stepP2 a b) (goodP2 a b op) x.1 x.2.1 x.2.2.1 x.2.2.2.2.2 = some r) (fun x => x.1) [] _ (a.n * b.n + 1, 0, [(0, 0)], [0], [0], [[]]) rfl (by simp [lsP, fiveB, ents, Aut.c, ktP, pV])
  ⟨LInv.begin ⟨ha.pos, hb.pos⟩, by simp, ⟨rfl, rfl, fun w hw => by simpa using hw.symm, fun i w hi hw => by cases i with | zero => omega | succ i => simp at hw⟩, fun k w hw => by cases k with | zero => (simp at hw; subst hw; simp) | succ k => simp at hw, hr⟩ ?_
 rintro ⟨f, i, l, fr, by', ws⟩ ⟨hI, hil, hC, hwl, hgo⟩ N hN
 simp only at hI hil hC hwl hgo
 have hln := nodup_pairs hI.nodup hI.dom
 have hwsl := hI.len
 have hfrl := hC.len1
 have hbyl := hC.len2
 cases f with
 | zero => simp [leastGo] at hgo
 | succ f =>
 simp only [leastGo] at hgo
 rcases Nat.lt_or_ge i l.length with hlt | hge
 · obtain ⟨q, hq⟩ := qP hlt
   obtain ⟨w, hw⟩ := qP (l := ws) (k := i) (by omega)
   have hqn := hI.dom q (List.mem_of_getElem? hq)
   obtain ⟨f1, hf1⟩ := qP (l := a.final) (k := q.1) (by omega)
   obtain ⟨f2, hf2⟩ := qP (l := b.final) (k := q.2) (by omega)
   have hF : goodP2 a b op q = op f1 f2 := by simp [goodP2, Aut.F, fin, hf1, hf2]
   rw [hq, hw] at hgo
   simp only [Option.getD_some, hF] at hgo
   have hgood := f_dfa_search_1 (a := a) (b := b) hf1 hf2 hg
   obtain ⟨bb, hbb⟩ : ∃ bb, bb = op f1 f2 := ⟨_, rfl⟩
   rw [← hbb] at hF hgood hgo
   simp [pV, Aut.c] at hgood
   have hw95 := (hI.run i q w hq hw).2
   replace hgo := hid hgo
   simp (disch := omega) [lsP, fiveB, pV, hq, Aut.c]
   refine qH [1, 2, 3] 3 [2, 3, 4] (by simp) (by simp) (by simp) (by simp [Aut.c]) hgood (by simp) fun _ _ => ?_
   simp (disch := omega) [Aut.c]
   cases bb with
   | true =>
     have hgo := hgo.out
     simp only [if_true, Option.some.injEq] at hgo
     subst hgo
     have hpath := f_dfa_path fr by' ws hC (by omega) i w hw hw95 (hwl i w hw)
     simp at hpath
     simp (disch := omega) [hfrl, hbyl, hwsl]
     refine qB hpath rfl fun _ => ?_
     simp (disch := omega) [Aut.c, fiveB, hX, resL]
   | false =>
     have hgo := hgo.out
     rw [if_neg (by decide)] at hgo
     obtain ⟨T, hT⟩ : ∃ T, T = lrow (stepP2 a b q) w 95 0 l ws := ⟨_, rfl⟩
     rw [← hT] at hgo
     replace hgo := hid hgo
     simp (disch := omega) [hq, Aut.c, pV]
     have hposq : pos eqB q l = some i := by
      refine pos_eqB ?_ hq
      intro j k x y hjk hx hy
      have := (List.pairwise_iff_getElem.1 (List.nodup_iff_pairwise_ne.1 hI.nodup)) j k (List.getElem?_eq_some_iff.1 hx).1 (List.getElem?_eq_some_iff.1 hy).1 hjk
      rw [(List.getElem?_eq_some_iff.1 hx).2, (List.getElem?_eq_some_iff.1 hy).2] at this
      simp [eqB, this]
     refine qI (fun (x : Nat × (Nat × Nat) × List (Nat × Nat) × List Nat × List Nat × List (List Nat)) => ⟨[(1, .fn (.func n_dfa_both_1) [] [.ptr 0 0, .ptr 1 0]), (2, .fn (.func n_dfa_search_1) [] [.ptr 2 0, .ptr 3 0, .ptr 4 0]), (8, .ptr 5 0), (9, .ref 6 x.2.2.1.length), (10, .ref 7 x.2.2.1.length), (11, nV i), (12, .ptr 8 0), (49, nV x.1)], lsQ a b g x.2.2.2.1 x.2.2.2.2.1 x.2.1 x.2.2.1⟩)
      (fun x => x.1 ≤ 95 ∧ LInv (stepP2 a b) (0, 0) (fun q => q.1 < a.n ∧ q.2 < b.n) i x.1 x.2.2.1 x.2.2.2.2.2 ∧ CameBy x.2.2.2.1 x.2.2.2.2.1 x.2.2.2.2.2 ∧ wlen x.2.2.2.2.2 ∧ x.2.2.1[i]? = some q ∧ x.2.2.2.2.2[i]? = some w ∧ (pos eqB x.2.1 x.2.2.1).isSome = true ∧ lrow (stepP2 a b q) w (95 - x.1) x.1 x.2.2.1 x.2.2.2.2.2 = T) (fun x => 95 - x.1) [] _ (0, q, l, fr, by', ws) rfl (by simp [lsP, lsQ, fiveB, pV, Aut.c, hfrl, hbyl, hwsl]) ⟨by simp, hI, hC, hwl, hq, hw, by simp [hposq], by simp [hT]⟩ ?_
     rintro ⟨c, last, l', fr', by2, ws'⟩ ⟨hc, hI', hC', hwl', hq', hw', hp, hrow⟩ M hM
     simp only at hc hI' hC' hwl' hq' hw' hp hrow
     have hln' := nodup_pairs hI'.nodup hI'.dom
     have hwsl' := hI'.len
     have hfrl' := hC'.len1
     have hbyl' := hC'.len2
     have hil' := (List.getElem?_eq_some_iff.1 hq').1
     rcases Nat.lt_or_ge c 95 with hc95 | hc95
     · obtain ⟨rr, t1, hr1, hr2, hr3, hr4⟩ := ha.rows.dl (q := q.1) (c := c) (by omega) hc95
       obtain ⟨rr2, t2, hr5, hr6, hr7, hr8⟩ := hb.rows.dl (q := q.2) (c := c) (by omega) hc95
       have hl1 := f_dfa_both_1 (a := a) (b := b) (p := q) hr1 hr2 hr5 hr6
       obtain ⟨t, ht⟩ : ∃ t : Nat × Nat, t = (t1, t2) := ⟨_, rfl⟩
       have hδ : stepP2 a b q c = t := by rw [ht]; exact Prod.ext hr3 hr7
       rw [← ht] at hl1
       simp [pV, Aut.c] at hl1
       obtain ⟨m', hm'⟩ : ∃ m', 95 - c = m' + 1 := ⟨94 - c, by omega⟩
       have hm2 : 95 - (c + 1) = m' := by omega
       rw [hm'] at hrow
       simp only [lrow, hδ] at hrow
       have hstep := hI'.one hD hc95 hq' hw'
       rw [hδ] at hstep
       replace hrow := hid hrow
       simp (disch := omega) [lsQ, fiveB, pV, hq', Aut.c]
       refine qH [2, 3] 2 [0, 1] (by simp) (by simp) (by simp) (by simp [Aut.c]) hl1 (by simp) fun _ _ => ?_
       have hek : eqK (V.strct [V.int IntKind.i64 (t.1 : Int), V.int IntKind.i64 (t.2 : Int)]) (V.strct [V.int IntKind.i64 (last.1 : Int), V.int IntKind.i64 (last.2 : Int)]) = decide (t = last) := by simpa [pV] using eqK_pV t last
       have hadd := f_met_add_pair l' t (by omega)
       simp [pV] at hadd
       simp (disch := omega) [Aut.c, zL, aggV, zT, kOf, qT, hek]
       by_cases htl : t = last
       · subst htl
         have hrow := hrow.out
         rw [if_pos hp] at hrow
         rw [if_pos hp, if_pos hp] at hstep
         simp (disch := omega)
         exact hM.out _ <| Nx.mk (c + 1, t, l', fr', by2, ws') (by simp [lsP, lsQ, fiveB, pV, Aut.c]) ⟨by simp only; omega, hstep, hC', hwl', hq', hw', hp, by simpa [hm2] using hrow⟩ (by simp only; omega)
       · simp (disch := omega) [htl]
         refine qH [0] 1 [5, 9, 10] (by simp) (by simp) (by simp) (by simp) hadd (by simp) fun _ _ => ?_
         cases hpt : pos eqB t l' with
         | some j =>
           have hjl := pos_lt hpt
           obtain ⟨e1, e2⟩ := add_some hpt
           have hrow := hrow.out
           have hps : (pos eqB t l').isSome = true := by simp [hpt]
           rw [if_pos hps] at hrow
           rw [if_pos hps, if_pos hps] at hstep
           have hne : ¬j = l'.length := by omega
           simp (disch := omega) [e1, e2, hfrl', hwsl', hne, Aut.c]
           exact hM.out _ <| Nx.mk (c + 1, t, l', fr', by2, ws') (by simp [lsP, lsQ, fiveB, pV, Aut.c]) ⟨by simp only; omega, hstep, hC', hwl', hq', hw', hps, by simpa [hm2] using hrow⟩ (by simp only; omega)
         | none =>
           obtain ⟨e1, e2⟩ := add_none hpt
           have hrow := hrow.out
           have hps : ¬(pos eqB t l').isSome = true := by simp [hpt]
           rw [if_neg hps] at hrow
           rw [if_neg hps, if_neg hps] at hstep
           have hC2 := hC'.add hw' hc95
           have hwl2 : wlen (ws' ++ [w ++ [c]]) := fun k u hu => by
            rcases Nat.lt_or_ge k ws'.length with hk | hk
            · rw [List.getElem?_append_left hk] at hu; exact hwl' k u hu
            · have hkk := (List.getElem?_eq_some_iff.1 hu).1
              simp at hkk
              have : k = ws'.length := by omega
              subst this
              rw [List.getElem?_append_right (Nat.le_refl _), Nat.sub_self] at hu
              simp only [List.getElem?_cons_zero, Option.some.injEq] at hu
              subst hu
              have := hwl' i w hw'
              simp
              omega
           simp (disch := omega) [e1, e2, hfrl', hwsl', hbyl', Aut.c]
           exact hM.out _ <| Nx.mk (c + 1, t, l' ++ [t], fr' ++ [i], by2 ++ [32 + c], ws' ++ [w ++ [c]]) (by simp [lsP, lsQ, fiveB, pV, Aut.c]) ⟨by simp only; omega, hstep, hC2, hwl2, by rw [List.getElem?_append_left hil']; exact hq', by rw [List.getElem?_append_left (by omega)]; exact hw', by simp [pos_snoc hpt], by simpa [hm2] using hrow⟩ (by simp only; omega)
     · have hc0 : c = 95 := by omega
       subst hc0
       simp only [Nat.sub_self, lrow] at hrow
       subst hrow
       have hgo := hgo.out
       simp (disch := omega) [lsP, lsQ, fiveB, pV, Aut.c]
       exact hN.out _ <| Nx.mk (f, i + 1, l', fr', by2, ws') (by simp [lsP, lsQ, fiveB, pV, Aut.c]) ⟨hI'.next hil', by simp only; omega, hC', hwl', hgo⟩ (by simp only; omega)
 · have : i = l.length := by omega
   rw [List.getElem?_eq_none (by omega)] at hgo
   simp only [Option.some.injEq] at hgo
   subst hgo
   simp (disch := omega) [lsP, lsQ, fiveB, pV, Aut.c, hX, resL]
theorem f_dfa_search {a b : Aut} (ha : a.ok) (hb : b.ok) (han : a.n ≤ 500) (hbn : b.n ≤ 500) {g : Nat} {op : Bool → Bool → Bool} (hg : ∀ x y, Fn Tryz.prog g [.bool x, .bool y] (.bool (op x y))) (r : Option (List Nat)) (hr : leastGo (stepP2 a b) (goodP2 a b op) (a.n * b.n + 1) 0 [(0, 0)] [[]] = some r) :
 Fn Tryz.prog n_dfa_search [.strct (Aut.c a), .strct (Aut.c b), .fn (.func g) [] []] (resL r) := by
 refine Fn.of_imageE qF h_dfa_search i_dfa_search rfl fun ho => ?_
 unfold c_dfa_search
 simp only [oks, ok, and_true] at ho
 clear ho
 have hab : a.n * b.n ≤ 250000 := Nat.le_trans (Nat.mul_le_mul han hbn) (by decide)
 have hma := f_dfa_May_ok ha (by omega)
 have hmb := f_dfa_May_ok hb (by omega)
 have hbo := f_dfa_both (a := a) (b := b)
 have hl := f_least_pair ha hb hab hg r hr
 obtain ⟨X, hX⟩ : ∃ X, X = resL r := ⟨_, rfl⟩
 rw [← hX]
 simp [Aut.c] at hma hmb hbo
 simp [Aut.c, fiveB, pV] at hl
 simp (disch := omega) [Aut.c]
 refine qB hma rfl fun _ => ?_
 simp (disch := omega)
 refine qB hmb rfl fun _ => ?_
 simp (disch := omega)
 refine qH [] 0 [] (by simp) (by simp) (by simp) (by simp) hbo (by simp) fun _ _ => ?_
 simp (disch := omega)
 refine qH [1, 2] 5 [3, 4, 2, 0, 1] (by simp) (by simp) (by simp) (by simp) hl (by simp) fun _ _ => ?_
 cases r with
 | none => simp (disch := omega) [resL, hX]
 | some w => simp (disch := omega) [resL, hX]
theorem f_dfa_Within {a b : Aut} (ha : a.ok) (hb : b.ok) (han : a.n ≤ 500) (hbn : b.n ≤ 500) (r : Option (List Nat)) (hr : leastGo (stepP2 a b) (goodP2 a b fun x y => x && !y) (a.n * b.n + 1) 0 [(0, 0)] [[]] = some r) :
 Fn Tryz.prog n_dfa_Within [.strct (Aut.c a), .strct (Aut.c b)] (.bool r.isNone) := by
 refine Fn.of_image qF h_dfa_Within i_dfa_Within rfl fun ho => ?_
 unfold c_dfa_Within
 simp only [oks, ok, and_true] at ho
 clear ho
 have hma := f_dfa_May_ok ha (by omega)
 have hmb := f_dfa_May_ok hb (by omega)
 have hs := f_dfa_search ha hb han hbn f_Within_1 r hr
 simp [Aut.c] at hma hmb hs
 simp (disch := omega) [Aut.c]
 refine qB hma rfl fun _ => ?_
 simp (disch := omega)
 refine qB hmb rfl fun _ => ?_
 simp (disch := omega)
 cases r with
 | none =>
   simp [resL] at hs
   refine qG hs (by simp) fun _ => ?_
   simp (disch := omega)
 | some w =>
   simp [resL] at hs
   refine qG hs (by simp) fun _ => ?_
   simp (disch := omega)
theorem run_pair {a b : Aut} : ∀ (w : List Nat) (p q : Nat), w.foldl (stepP2 a b) (p, q) = (w.foldl a.δ p, w.foldl b.δ q)
 | [], _, _ => rfl
 | c :: w, p, q => run_pair w _ _
theorem none_iff {K : Type} {step : K → Nat → K} {start : K} {good : K → Bool} {r : Option (List Nat)} (h : IsLeast step start good r) : r.isNone = true ↔ ∀ w : List Nat, (∀ c ∈ w, c < 95) → good (w.foldl step start) = false := by
 cases r with
 | none => exact ⟨fun _ => h, fun _ => rfl⟩
 | some w =>
   refine ⟨(fun h => by cases h), fun hh => ?_⟩
   have := hh w h.1
   rw [h.2.1] at this; cases this
theorem f_dfa_Common {a b : Aut} (ha : a.ok) (hb : b.ok) (han : a.n ≤ 500) (hbn : b.n ≤ 500) (r : Option (List Nat)) (hr : leastGo (stepP2 a b) (goodP2 a b fun x y => x && y) (a.n * b.n + 1) 0 [(0, 0)] [[]] = some r) :
 Fn Tryz.prog n_dfa_Common [.strct (Aut.c a), .strct (Aut.c b)] (resL r) := by
 refine Fn.of_image qF h_dfa_Common i_dfa_Common rfl fun ho => ?_
 unfold c_dfa_Common
 simp only [oks, ok, and_true] at ho
 clear ho
 have hs := f_dfa_search ha hb han hbn f_Common_1 r hr
 simp [Aut.c] at hs
 simp (disch := omega) [Aut.c]
 cases r with
 | none =>
   simp [resL] at hs
   refine qG hs (by simp) fun _ => ?_
   simp (disch := omega) [resL]
 | some w =>
   simp [resL] at hs
   refine qG hs (by simp) fun _ => ?_
   simp (disch := omega) [resL]
def c_dfa_Not_r : AC :=
 Q [.reg [bx 1 0, o1 2 (.alc [.nil 1, .nil 1])] [1, 2],
 Q [.reg [la 6 1 2, ca 7 92 [6], bi 8 .neq 7 0] [1, 2, 8],
  C 8 (Q [.reg [o1 9 (.bld [.nil 1, .nil 1] []), st 2 2 9] [2],
    .ret]) (.skip)],
 .reg [o1 3 (.alc [.nil 1, .nil 1])] [1, 2, 3],
 Q [.reg [fa 10 1 0, l1 11 10, lq 12 11, mi 13 0] [1, 2, 3, 11, 12, 13],
  .block 0 (.loop [1, 2, 3, 11, 12, 13] (Q [.reg [bt 14 .lss 13 12] [1, 2, 3, 11, 12, 13, 14],
   C 14 (.skip) (.exit 0),
   .block 1 (Q [.reg [m 15 13, ia 16 11 13 1, l1 17 16, m 4 15, m 5 17] [1, 2, 3, 4, 5, 11, 12, 13],
    .regF (OQ [m 20 5] (.both
     (OQ [fa 18 3 0] (.both
       (OQ [l1 19 18, o1 21 (.app (.v (.nil 1)) (.t 20) 3 1 8), o1 22 (.ltr 74 1 [.t 21]), o1 23 (.app (.t 19) (.t 22) 74 1 24), fa 24 3 0, st 1 24 23] .nil)
       (OQ [o1 21 (.app (.v (.nil 1)) (.t 20) 3 1 8)] (.both
         (OQ [l1 19 18, o1 22 (.ltr 74 1 [.t 21]), o1 23 (.app (.t 19) (.t 22) 74 1 24), fa 24 3 0, st 1 24 23] .nil)
         (OQ [o1 22 (.ltr 74 1 [.t 21]), l1 19 18, o1 23 (.app (.t 19) (.t 22) 74 1 24), fa 24 3 0, st 1 24 23] .nil)))))
     (OQ [o1 21 (.app (.v (.nil 1)) (.t 20) 3 1 8)] (.both
       (OQ [fa 18 3 0] (.both
         (OQ [l1 19 18, o1 22 (.ltr 74 1 [.t 21]), o1 23 (.app (.t 19) (.t 22) 74 1 24), fa 24 3 0, st 1 24 23] .nil)
         (OQ [o1 22 (.ltr 74 1 [.t 21]), l1 19 18, o1 23 (.app (.t 19) (.t 22) 74 1 24), fa 24 3 0, st 1 24 23] .nil)))
       (OQ [o1 22 (.ltr 74 1 [.t 21]), fa 18 3 0, l1 19 18, o1 23 (.app (.t 19) (.t 22) 74 1 24), fa 24 3 0, st 1 24 23] .nil))))) [1, 2, 3, 4, 11, 12, 13],
    .regD [fa 25 3 1, l1 26 25, fa 27 1 1, l1 28 27, m 29 4, ia 30 28 29 1, l1 31 30, nt' 32 31, o1 33 (.lit 4 1 [.t 32]), o1 34 (.app (.t 26) (.t 33) 4 1 1), fa 35 3 1, st 1 35 34] [1, 2, 3, 11, 12, 13]]),
   .reg [bi 36 .add 13 1, m 13 36] [1, 2, 3, 11, 12, 13]]))],
 .reg [la 37 3 2, st 2 2 37] [2],
 .ret]
theorem i_dfa_Not_r : qL Tryz.prog Tryz.f48 [] [2000074] [[1, 2], [1, 2, 8], [2], [1, 2, 3], [1, 2, 3, 11, 12, 13], [1, 2, 3, 11, 12, 13], [1, 2, 3, 11, 12, 13, 14], [1, 2, 3, 4, 5, 11, 12, 13], [1, 0, 1, 0, 4, 12, 31, 63, 127], [1, 2, 3, 4, 11, 12, 13], [0, 0, 1, 0, 4, 0, 28, 60, 124, 252, 511, 1023, 2047], [0, 1, 2, 3, 4, 5, 6, 7, 8, 9, 10, 11], [1, 2, 3, 11, 12, 13], [1, 2, 3, 11, 12, 13], [2]] 1 = some (c_dfa_Not_r, [.c 2 2 true]) := by kernel_rfl
theorem aD_ltr {Φ : Ctr} {d : Option Nat} {K : St → Prop} {σ : St} {e sz : Nat} {xs : List AO} : qD Φ d (.ltr e sz xs) K σ = qC Φ d (.ltr e sz xs) K σ := propext Iff.rfl
attribute [local simp] aD_ltr
def notA (a : Aut) : Aut := ⟨a.next, a.final.map (!·)⟩
theorem f_dfa_Not {a : Aut} (ha : a.ok) (hn : a.n ≤ 500) : Fn Tryz.prog n_dfa_Not [.strct (Aut.c a)] (.strct (Aut.c (notA a))) := by
 refine Fn.of_imageE qF h_dfa_Not i_dfa_Not_r rfl fun ho => ?_
 unfold c_dfa_Not_r
 clear ho
 have hnl : a.next.length = a.n := rfl
 have hfl : a.final.length = a.n := ha.fin
 have hma := f_dfa_May_ok ha hn
 obtain ⟨R, hR⟩ : ∃ R, R = V.strct (Aut.c (notA a)) := ⟨_, rfl⟩
 rw [← hR]
 obtain ⟨fs, hfs⟩ : ∃ fs, fs = a.final.map (!·) := ⟨_, rfl⟩
 have hfsl : fs.length = a.n := by rw [hfs]; simp [hfl]
 simp [Aut.c] at hma
 simp (disch := omega) [Aut.c]
 refine qB hma rfl fun _ => ?_
 simp (disch := omega) [hnl]
 refine qI (fun k : Nat => ⟨[(1, .ptr 0 0), (2, .ptr 1 0), (3, .ptr 2 0), (11, .seq 1 (a.next.map rowN)), (12, .int .i64 a.n), (13, nV k)], [some (.box (Aut.c a)), some (.box [.nil 1, .nil 1]), some (.box [.ref 3 k, .ref 4 k]), some (.arr zX 1 ((a.next.take k).map rowN)), some (.arr qY 1 ((fs.take k).map V.bool))]⟩) (fun k => k ≤ a.n) (fun k => a.n - k) [.b 2 0 zX 1, .b 2 1 qY 1] _ 0 rfl (by simp [Aut.c]) (by simp) ?_
 intro k hk N hN
 rcases Nat.lt_or_ge k a.n with hlt | hge
 · obtain ⟨r, hr⟩ := qP (l := a.next) (k := k) (by omega)
   obtain ⟨f, hf⟩ := qP (l := a.final) (k := k) (by omega)
   have hrl : r.length = 95 := (ha.rows r (List.mem_of_getElem? hr)).1
   have hfg : fs[k]? = some (!f) := by rw [hfs, List.getElem?_map, hf]; rfl
   have hrt := zS hr
   have hft := zS hfg
   have hrtl : (a.next.take k).length = k := by simp; omega
   have hftl : (fs.take k).length = k := by simp; omega
   simp (disch := omega) [Aut.c, hr, hrtl, hftl]
   refine wboth_one ⟨[(1, .ptr 0 0), (2, .ptr 1 0), (3, .ptr 2 0), (4, nV k), (11, .seq 1 (a.next.map rowN)), (12, .int .i64 a.n), (13, nV k)], [some (.box (Aut.c a)), some (.box [.nil 1, .nil 1]), some (.box [.ref 3 (k + 1), .ref 4 k]), some (.arr zX 1 ((a.next.take k ++ [r]).map rowN)), some (.arr qY 1 ((fs.take k).map V.bool))]⟩ (fun F hF => ?_) ?_
   · simp [Aut.c] at hF
     repeat' first | exact hF | refine wbothK.mk ?_ ?_ | simp (disch := omega) [hrtl, hftl, hrl]
   simp (disch := omega) [Aut.c, hf, hrtl, hftl]
   exact hN.out _ <| Nx.mk (k + 1) (by rw [hrt, hft]; simp [Aut.c]) (by omega) (by omega)
 · have : k = a.n := by omega
   subst this
   have h1 : a.next.take a.n = a.next := List.take_of_length_le (by omega)
   have h2 : fs.take a.n = fs := List.take_of_length_le (by omega)
   simp (disch := omega) [Aut.c, h1, h2]
   rw [hR, hfs]
   simp [notA, Aut.c]
end Go.Abs
end
