/-
  The least word by which something good is reached, plainly. No condition.
  The least text that an automaton accepts: what is answered. No condition.
  The least text that an automaton accepts. No condition.
  What Least and Accepts answer; the document's example. No condition.
-/
import Derived.Test.YtkeanhihgfnkoaaGreatDoorXTh1
import Derived.Test.YtkeanhihgfnkoaaGreatDoorXTh4
set_option linter.unusedVariables false
set_option linter.unusedSimpArgs false
set_option linter.unusedSectionVars false
section
namespace Go.Aut
def lexW : List Nat → List Nat → Prop
 | a :: u, b :: v => a < b ∨ (a = b ∧ lexW u v)
 | _, _ => False
def wlt (u v : List Nat) : Prop := u.length < v.length ∨ (u.length = v.length ∧ lexW u v)
theorem lexW_trans : ∀ {u v w : List Nat}, lexW u v → lexW v w → lexW u w
 | a :: u, b :: v, c :: w, h, h' => by
   simp only [lexW] at h h' ⊢
   rcases h with h | ⟨h, h2⟩
   · rcases h' with h' | ⟨h', _⟩
     · left; omega
     · left; omega
   · rcases h' with h' | ⟨h', h3⟩
     · left; omega
     · right; exact ⟨by omega, lexW_trans h2 h3⟩
 | [], _, _, h, _ => by simp [lexW] at h
 | _ :: _, [], _, h, _ => by simp [lexW] at h
 | _ :: _, _ :: _, [], _, h => by simp [lexW] at h
theorem lexW_snoc : ∀ {u v : List Nat} (a b : Nat), u.length = v.length → lexW u v → lexW (u ++ [a]) (v ++ [b])
 | x :: u, y :: v, a, b, hl, h => by
   simp only [List.length_cons, Nat.add_right_cancel_iff] at hl
   simp only [lexW, List.cons_append] at h ⊢
   rcases h with h | ⟨h, h2⟩
   · exact .inl h
   · exact .inr ⟨h, lexW_snoc a b hl h2⟩
 | [], _, _, _, _, h => by simp [lexW] at h
 | _ :: _, [], _, _, hl, _ => by simp at hl
theorem lexW_last : ∀ (u : List Nat) {a b : Nat}, a < b → lexW (u ++ [a]) (u ++ [b])
 | [], _, _, h => .inl h
 | x :: u, _, _, h => .inr ⟨rfl, lexW_last u h⟩
theorem wlt_trans {u v w : List Nat} (h : wlt u v) (h' : wlt v w) : wlt u w := by
 rcases h with h | ⟨h, h2⟩
 · rcases h' with h' | ⟨h', _⟩
   · left; omega
   · left; omega
 · rcases h' with h' | ⟨h', h3⟩
   · left; omega
   · right; exact ⟨by omega, lexW_trans h2 h3⟩
theorem wlt_snoc {u v : List Nat} (a b : Nat) (h : wlt u v) : wlt (u ++ [a]) (v ++ [b]) := by
 rcases h with h | ⟨h, h2⟩
 · left; simp; omega
 · right; exact ⟨by simp [h], lexW_snoc a b h h2⟩
theorem wlt_last (u : List Nat) {a b : Nat} (h : a < b) : wlt (u ++ [a]) (u ++ [b]) := .inr ⟨by simp, lexW_last u h⟩
def wle (u v : List Nat) : Prop := u = v ∨ wlt u v
section
variable {K : Type} [DecidableEq K]
structure LInv (step : K → Nat → K) (start : K) (D : K → Prop) (i c : Nat) (l : List K) (ws : List (List Nat)) : Prop where
 len : ws.length = l.length
 dom : ∀ x ∈ l, D x
 first : l[0]? = some start ∧ ws[0]? = some []
 run : ∀ (k : Nat) (q : K) (w : List Nat), l[k]? = some q → ws[k]? = some w → w.foldl step start = q ∧ ∀ d ∈ w, d < 95
 nodup : l.Nodup
 sorted : ∀ (j k : Nat) (u v : List Nat), j < k → ws[j]? = some u → ws[k]? = some v → wlt u v
 bound : ∀ (k : Nat) (u w : List Nat), ws[k]? = some u → ws[i]? = some w → wlt u (w ++ [c])
 done : ∀ (k d : Nat) (q : K) (w : List Nat), (k < i ∨ (k = i ∧ d < c)) → d < 95 → l[k]? = some q → ws[k]? = some w → ∃ (j : Nat) (u : List Nat), l[j]? = some (step q d) ∧ ws[j]? = some u ∧ wle u (w ++ [d])
variable {step : K → Nat → K} {start : K} {D : K → Prop}
theorem LInv.one {c i : Nat} {l : List K} {ws : List (List Nat)} (h : LInv step start D i c l ws) (hD : ∀ q c, D q → c < 95 → D (step q c)) (hc : c < 95) {q : K} {w : List Nat} (hq : l[i]? = some q) (hw : ws[i]? = some w) :
 LInv step start D i (c + 1) (if (pos eqB (step q c) l).isSome = true then l else l ++ [step q c]) (if (pos eqB (step q c) l).isSome = true then ws else ws ++ [w ++ [c]]) := by
 have hil := (List.getElem?_eq_some_iff.1 hq).1
 cases hp : pos eqB (step q c) l with
 | some j =>
   simp only [Option.isSome_some, if_true]
   obtain ⟨x, hx, hxe⟩ := pos_some hp
   have := eqB_iff.1 hxe
   subst this
   obtain ⟨u, hu⟩ : ∃ u, ws[j]? = some u := ⟨_, List.getElem?_eq_getElem (by rw [h.len]; exact (List.getElem?_eq_some_iff.1 hx).1)⟩
   refine ⟨h.len, h.dom, h.first, h.run, h.nodup, h.sorted, fun k u' w' hk hw' => ?_, fun k d q' w' hkd hd hq' hw' => ?_⟩
   · exact wlt_trans (h.bound k u' w' hk hw') (wlt_last _ (by omega))
   · rcases hkd with hkd | ⟨rfl, hkd⟩
     · exact h.done k d q' w' (.inl hkd) hd hq' hw'
     · rcases Nat.lt_or_ge d c with hdc | hdc
       · exact h.done k d q' w' (.inr ⟨rfl, hdc⟩) hd hq' hw'
       · have : d = c := by omega
         subst this
         rw [hq] at hq'; cases hq'
         rw [hw] at hw'; cases hw'
         exact ⟨j, u, hx, hu, .inr (h.bound j u w hu hw)⟩
 | none =>
   simp only [Option.isSome_none, Bool.false_eq_true, if_false]
   have hnm : step q c ∉ l := fun hm => by have := pos_none hp _ hm; simp [eqB] at this
   have app : ∀ {α : Type} {l : List α} {x y : α} {k : Nat}, (l ++ [x])[k]? = some y → (k < l.length ∧ l[k]? = some y) ∨ (k = l.length ∧ y = x) := fun {α l x y k} h => by
    rcases Nat.lt_or_ge k l.length with hk | hk
    · rw [List.getElem?_append_left hk] at h; exact .inl ⟨hk, h⟩
    · have hkl := (List.getElem?_eq_some_iff.1 h).1
      simp at hkl
      have : k = l.length := by omega
      subst this
      simp at h
      exact .inr ⟨rfl, h.symm⟩
   have ext : ∀ {α : Type} {l : List α} {x y : α} {k : Nat}, l[k]? = some y → (l ++ [x])[k]? = some y := fun {α l x y k} h => by
    rw [List.getElem?_append_left (List.getElem?_eq_some_iff.1 h).1]; exact h
   refine ⟨by simp [h.len], fun x hx => ?_, ⟨ext h.first.1, ext h.first.2⟩, fun k q' w' hq' hw' => ?_, ?_, fun j k u v hjk hu hv => ?_, fun k u' w' hk hw' => ?_, fun k d q' w' hkd hd hq' hw' => ?_⟩
   · rcases List.mem_append.1 hx with hx | hx
     · exact h.dom x hx
     · simp at hx; subst hx; exact hD _ _ (h.dom q (List.mem_of_getElem? hq)) hc
   · rcases app hq' with ⟨h1, h2⟩ | ⟨h1, h2⟩
     · rcases app hw' with ⟨h3, h4⟩ | ⟨h3, h4⟩
       · exact h.run k q' w' h2 h4
       · have := h.len; omega
     · rcases app hw' with ⟨h3, h4⟩ | ⟨h3, h4⟩
       · have := h.len; omega
       · subst h2 h4
         obtain ⟨g1, g2⟩ := h.run i q w hq hw
         refine ⟨by rw [List.foldl_append, g1]; rfl, fun d hd => ?_⟩
         rcases List.mem_append.1 hd with hd | hd
         · exact g2 d hd
         · simp at hd; omega
   · rw [List.nodup_append]
     exact ⟨h.nodup, by simp, fun a ha b hb => by simp at hb; subst hb; exact fun e => hnm (e ▸ ha)⟩
   · rcases app hv with ⟨h3, h4⟩ | ⟨h3, h4⟩
     · rcases app hu with ⟨h1, h2⟩ | ⟨h1, h2⟩
       · exact h.sorted j k u v hjk h2 h4
       · omega
     · rcases app hu with ⟨h1, h2⟩ | ⟨h1, h2⟩
       · subst h4; exact h.bound j u w h2 hw
       · omega
   · rcases app hw' with ⟨h1, h2⟩ | ⟨h1, h2⟩
     · rw [hw] at h2; cases h2
       rcases app hk with ⟨h3, h4⟩ | ⟨h3, h4⟩
       · exact wlt_trans (h.bound k u' w h4 hw) (wlt_last _ (by omega))
       · subst h4; exact wlt_last _ (by omega)
     · have := h.len; omega
   · have hkl : k < l.length := by rcases hkd with hkd | ⟨rfl, _⟩ <;> omega
     rcases app hq' with ⟨_, h2⟩ | ⟨h1, _⟩
     · rcases app hw' with ⟨_, h4⟩ | ⟨h3, _⟩
       · by_cases hnew : k = i ∧ d = c
         · obtain ⟨rfl, rfl⟩ := hnew
           rw [hq] at h2; cases h2
           rw [hw] at h4; cases h4
           exact ⟨l.length, w ++ [d], by simp, by rw [← h.len]; simp, .inl rfl⟩
         · obtain ⟨j, u, g1, g2, g3⟩ := h.done k d q' w' (by omega) hd h2 h4
           exact ⟨j, u, ext g1, ext g2, g3⟩
       · have := h.len; omega
     · omega
theorem LInv.next {i : Nat} {l : List K} {ws : List (List Nat)} (h : LInv step start D i 95 l ws) (hi : i < l.length) : LInv step start D (i + 1) 0 l ws := by
 obtain ⟨w, hw⟩ : ∃ w, ws[i]? = some w := ⟨_, List.getElem?_eq_getElem (by rw [h.len]; exact hi)⟩
 refine ⟨h.len, h.dom, h.first, h.run, h.nodup, h.sorted, fun k u v hk hv => ?_, fun k d q' w' hkd hd hq' hw' => ?_⟩
 · exact wlt_trans (h.bound k u w hk hw) (wlt_snoc _ _ (h.sorted i (i + 1) w v (by omega) hw hv))
 · refine h.done k d q' w' ?_ hd hq' hw'
   rcases hkd with hkd | ⟨rfl, hkd⟩
   · rcases Nat.lt_or_ge k i with h1 | h1
     · exact .inl h1
     · exact .inr ⟨by omega, hd⟩
   · omega
def IsLeast (step : K → Nat → K) (start : K) (good : K → Bool) : Option (List Nat) → Prop
 | none => ∀ v : List Nat, (∀ c ∈ v, c < 95) → good (v.foldl step start) = false
 | some w => (∀ c ∈ w, c < 95) ∧ good (w.foldl step start) = true ∧ ∀ v : List Nat, (∀ c ∈ v, c < 95) → good (v.foldl step start) = true → ¬wlt v w
theorem LInv.begin (h0 : D start) : LInv step start D 0 0 [start] [[]] := by
 have one : ∀ {α : Type} {x y : α} {k : Nat}, [x][k]? = some y → k = 0 ∧ y = x := fun {α x y k} h => by
  cases k with
  | zero => simp at h; exact ⟨rfl, h.symm⟩
  | succ k => simp at h
 refine ⟨rfl, by simpa using h0, ⟨rfl, rfl⟩, fun k q w hq hw => ?_, by simp, fun j k u v hjk hu hv => ?_, fun k u w hu hw => ?_, fun k d q w hkd => by omega⟩
 · obtain ⟨_, rfl⟩ := one hq
   obtain ⟨_, rfl⟩ := one hw
   exact ⟨rfl, by simp⟩
 · have := (one hv).1; omega
 · obtain ⟨_, rfl⟩ := one hu
   obtain ⟨_, rfl⟩ := one hw
   left; simp
end
end Go.Aut
end
section
set_option maxHeartbeats 1000000
set_option maxRecDepth 100000
namespace Go.Abs
open Go.Proofs Go.Aut
attribute [-simp] getElem?_pos Option.not_isSome List.map_map
structure CameBy (fr by' : List Nat) (ws : List (List Nat)) : Prop where
 len1 : fr.length = ws.length
 len2 : by'.length = ws.length
 zero : ∀ w, ws[0]? = some w → w = []
 back : ∀ (i : Nat) (w : List Nat), 0 < i → ws[i]? = some w → ∃ (j c : Nat) (u : List Nat), fr[i]? = some j ∧ by'[i]? = some (32 + c) ∧ j < i ∧ ws[j]? = some u ∧ w = u ++ [c] ∧ c < 95
end Go.Abs
end
section
set_option maxHeartbeats 1000000
set_option maxRecDepth 100000
namespace Go.Abs
open Go.Proofs Go.Aut
attribute [-simp] getElem?_pos Option.not_isSome List.map_map
def ltrKK (e sz : Nat) (d : Option Nat) (K : St → Prop) (σ : St) (vs us : List V) : Prop := sameLen sz us = true ∧ us.length ≤ 16777216 ∧ K (St.put ⟨(σ.kill (vidss vs)).r, (σ.kill (vidss vs)).h ++ [some (Ob.arr e sz us)]⟩ d (.ref (σ.kill (vidss vs)).h.length us.length))
def ltrK (e sz : Nat) (d : Option Nat) (K : St → Prop) (σ : St) (vs : List V) : Prop := oM (purs σ.h vs) (ltrKK e sz d K σ vs)
theorem ltrKK_app {e sz : Nat} {d : Option Nat} {K : St → Prop} {σ : St} {vs us : List V} : ltrKK e sz d K σ vs us = (sameLen sz us = true ∧ us.length ≤ 16777216 ∧ K (St.put ⟨(σ.kill (vidss vs)).r, (σ.kill (vidss vs)).h ++ [some (Ob.arr e sz us)]⟩ d (.ref (σ.kill (vidss vs)).h.length us.length))) := propext Iff.rfl
theorem ltrK_app {e sz : Nat} {d : Option Nat} {K : St → Prop} {σ : St} {vs : List V} : ltrK e sz d K σ vs = oM (purs σ.h vs) (ltrKK e sz d K σ vs) := propext Iff.rfl
theorem a_ltr {Φ : Ctr} {d : Option Nat} {K : St → Prop} {σ : St} {e sz : Nat} {xs : List AO} : wact Φ d (.ltr e sz xs) K σ = oM (σ.evs xs) (ltrK e sz d K σ) := by
 simp only [wact, oM]
 cases σ.evs xs with
 | none => rfl
 | some vs =>
   simp only [ltrK, oM]
   cases purs σ.h vs <;> rfl
attribute [simp] ltrKK_app ltrK_app a_ltr
theorem CameBy.add {fr by' : List Nat} {ws : List (List Nat)} (h : CameBy fr by' ws) {i c : Nat} {w : List Nat} (hw : ws[i]? = some w) (hc : c < 95) : CameBy (fr ++ [i]) (by' ++ [32 + c]) (ws ++ [w ++ [c]]) := by
 have hil := (List.getElem?_eq_some_iff.1 hw).1
 have h1 := h.len1
 have h2 := h.len2
 refine ⟨by simp [h1], by simp [h2], fun u hu => ?_, fun k u hk hu => ?_⟩
 · rw [List.getElem?_append_left (by omega)] at hu
   exact h.zero u hu
 · rcases Nat.lt_or_ge k ws.length with hkl | hkl
   · rw [List.getElem?_append_left hkl] at hu
     obtain ⟨j, d, v, g1, g2, g3, g4, g5, g6⟩ := h.back k u hk hu
     exact ⟨j, d, v, by rw [List.getElem?_append_left (by omega)]; exact g1, by rw [List.getElem?_append_left (by omega)]; exact g2, g3, by rw [List.getElem?_append_left (by omega)]; exact g4, g5, g6⟩
   · have hkk := (List.getElem?_eq_some_iff.1 hu).1
     simp at hkk
     have : k = ws.length := by omega
     subst this
     rw [List.getElem?_append_right (Nat.le_refl _), Nat.sub_self] at hu
     simp only [List.getElem?_cons_zero, Option.some.injEq] at hu
     refine ⟨i, c, w, by rw [← h1, List.getElem?_append_right (Nat.le_refl _), Nat.sub_self]; rfl, by rw [← h2, List.getElem?_append_right (Nat.le_refl _), Nat.sub_self]; rfl, hil, by rw [List.getElem?_append_left hil]; exact hw, hu.symm, hc⟩
end Go.Abs
end
section
set_option maxHeartbeats 1000000
set_option maxRecDepth 100000
namespace Go.Abs
open Go.Proofs Go.Aut
attribute [-simp] getElem?_pos Option.not_isSome List.map_map
def sgn (c : UInt8) : Bool := decide (32 ≤ c.toNat) && decide (c.toNat ≤ 126)
def accS (a : Aut) : Nat → Str → Bool
 | q, [] => a.F q
 | q, b :: s => if sgn b = true then accS a (a.δ q (b.toNat - 32)) s else false
end Go.Abs
end
