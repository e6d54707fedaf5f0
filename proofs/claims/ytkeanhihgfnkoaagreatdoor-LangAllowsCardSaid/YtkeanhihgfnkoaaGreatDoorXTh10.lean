/-
  The automaton of a net whose states are told apart by few classes of words: it is there, and accepts what the net does. No condition.
  What the expressions of constraints match, and how few classes of words tell their nets' states apart. No condition.
  The automata of constraints' expressions: they are there, of no more than 500 states, and accept what the expressions match. No condition.
  The automaton of schemes: it is there, of no more than 500 states. No condition.
  Constraints that may be, and their automata. No condition.
  What lang's Auto answers. No condition.
-/
import Derived.Test.YtkeanhihgfnkoaaGreatDoorXTh4
import Derived.Test.YtkeanhihgfnkoaaGreatDoorXTh8
import Derived.Test.YtkeanhihgfnkoaaGreatDoorXF1
set_option linter.unusedVariables false
set_option linter.unusedSimpArgs false
set_option linter.unusedSectionVars false
section
namespace Go.Abs
open Go.Aut
theorem takesE_tk {e : NEdge} {c : Nat} (hc : c < 95) : takesE e c = tk e c := by
 unfold takesE tk loE hiE
 apply decide_eq_decide.2
 split <;> split <;> omega
theorem Rg.inv {E : List NEdge} {q : Nat} {w : List Nat} (h : Rg E [] q w) : (w = [] ∧ NReach E 0 q) ∨ ∃ u c e, w = u ++ [c] ∧ c < 95 ∧ e ∈ E ∧ tk e c = true ∧ Rg E [] e.fr u ∧ NReach E e.to q := by
 induction h with
 | start => exact .inl ⟨rfl, .refl⟩
 | free _ he hf h2 ih =>
   rcases ih with ⟨h3, h4⟩ | ⟨u, c, e', h3, h4, h5, h6, h7, h8⟩
   · exact .inl ⟨h3, h4.step he hf h2⟩
   · exact .inr ⟨u, c, e', h3, h4, h5, h6, h7, h8.step he hf h2⟩
 | take h1 he ht hc h2 _ => exact .inr ⟨_, _, _, rfl, hc, he, ht, by rw [h2]; exact h1, .refl⟩
 | job _ hj => cases hj
theorem Rg.reach {E : List NEdge} {p q : Nat} {u : List Nat} (h : Rg E [] p u) (hr : NReach E p q) : Rg E [] q u := by
 induction hr with
 | refl => exact h
 | step _ he hf h2 ih => exact .free ih he hf h2
theorem Rg.lt {E : List NEdge} {n : Nat} (h0 : 0 < n) (hE : ∀ e ∈ E, e.to < n) {q : Nat} {u : List Nat} (h : Rg E [] q u) : q < n := by
 cases h with
 | start => exact h0
 | free _ he _ _ => exact hE _ he
 | take _ he _ _ _ => exact hE _ he
 | job _ hj _ _ => cases hj
def setN (N : Net) (u : List Nat) : List Nat := u.foldl (stepS (stepsP N)) (closedS N N.start)
theorem setN_snoc (N : Net) (u : List Nat) (c : Nat) : setN N (u ++ [c]) = stepS (stepsP N) (setN N u) c := by simp [setN]
theorem setN_spec {N : Net} (h : N.ok) (hs : N.start = 0) : ∀ (m : Nat) (u : List Nat), u.length = m → (∀ c ∈ u, c < 95) → wOK (setN N u) ∧ ∀ p < 512, (hasW (setN N u) p = true ↔ Rg N.edges [] p u)
 | 0, u, hm, _ => by
   have : u = [] := List.length_eq_zero_iff.1 hm
   subst this
   refine ⟨closedS_ok h h.start, fun p hp => ?_⟩
   simp only [setN, List.foldl_nil]
   rw [closedS_has h h.start hp, hs]
   constructor
   · intro hr; exact Rg.reach .start hr
   · intro hr
     rcases Rg.inv hr with ⟨_, h2⟩ | ⟨u, c, e, h2, _⟩
     · exact h2
     · simp at h2
 | m + 1, u, hm, hu => by
   obtain ⟨v, c, rfl⟩ : ∃ v c, u = v ++ [c] := by
    rcases List.eq_nil_or_concat u with rfl | ⟨l, x, rfl⟩
    · simp at hm
    · exact ⟨l, x, by simp⟩
   have hc : c < 95 := hu c (by simp)
   obtain ⟨g1, g2⟩ := setN_spec h hs m v (by simpa using hm) (fun d hd => hu d (by simp [hd]))
   obtain ⟨hT1, hT2⟩ := stepsP_spec h
   obtain ⟨k1, k2⟩ := ofW_spec g1 (f := setAt (stepsP N) c) (fun q _ => setAt_ok hT1 hc q)
   rw [setN_snoc]
   refine ⟨k1, fun p hp => ?_⟩
   rw [show stepS (stepsP N) (setN N v) c = ofW (setAt (stepsP N) c) (setN N v) from rfl, k2 p hp]
   constructor
   · rintro ⟨q, hq, h1, h2⟩
     obtain ⟨e, he, h3, h4, h5⟩ := (hT2 c q hc p hp).1 h2
     have h6 := (closedS_has h (h.ends e he).2.1 hp).1 h5
     rw [takesE_tk hc] at h4
     exact Rg.reach (Rg.take ((g2 q hq).1 h1) he h4 hc h3) h6
   · intro hr
     rcases Rg.inv hr with ⟨h2, _⟩ | ⟨v', c', e, h2, h3, h4, h5, h6, h7⟩
     · simp at h2
     · obtain ⟨rfl, h2⟩ := List.append_inj' h2 rfl
       simp at h2
       subst h2
       have hq := Rg.lt (by have := h.pos; exact this) (fun e he => (h.ends e he).2.1) h6
       have hle := h.le
       refine ⟨e.fr, by omega, (g2 _ (by omega)).2 h6, (hT2 c e.fr hc p hp).2 ⟨e, h4, rfl, by rw [takesE_tk hc]; exact h5, (closedS_has h (h.ends e h4).2.1 hp).2 h7⟩⟩
theorem of_spec {N : Net} (h : N.ok) (hs : N.start = 0) {k : List Nat → Nat} {m : Nat} (hm : m ≤ 500) (hk : ∀ u : List Nat, (∀ c ∈ u, c < 95) → k u < m) (hsat : ∀ q < N.n, sat (fun u v => k u = k v) (Rg N.edges [] q)) :
 ∃ b, ofP N = some b ∧ b.ok ∧ b.n ≤ 500 ∧ ∀ w : List Nat, (∀ c ∈ w, c < 95) → (b.L 0 w = true ↔ Rg N.edges [] N.stop w) := by
 have hle := h.le
 have same : ∀ u v : List Nat, (∀ c ∈ u, c < 95) → (∀ c ∈ v, c < 95) → k u = k v → setN N u = setN N v := by
  intro u v hu hv huv
  obtain ⟨g1, g2⟩ := setN_spec h hs _ u rfl hu
  obtain ⟨f1, f2⟩ := setN_spec h hs _ v rfl hv
  refine wOK_ext g1 f1 fun q hq => ?_
  rw [Bool.eq_iff_iff, g2 q hq, f2 q hq]
  have lt : ∀ {w : List Nat}, Rg N.edges [] q w → q < N.n := fun hr => Rg.lt h.pos (fun e he => (h.ends e he).2.1) hr
  exact ⟨fun hr => hsat q (lt hr) u v hu hv huv hr, fun hr => hsat q (lt hr) v u hv hu huv.symm hr⟩
 obtain ⟨D, hDd⟩ : ∃ D : List Nat → Prop, D = fun x => ∃ u : List Nat, (∀ c ∈ u, c < 95) ∧ x = setN N u := ⟨_, rfl⟩
 have hD : ∀ q c, D q → c < 95 → D (stepS (stepsP N) q c) := by
  intro q c hq hc
  rw [hDd] at hq ⊢
  obtain ⟨u, hu, rfl⟩ := hq
  refine ⟨u ++ [c], fun d hd => ?_, (setN_snoc N u c).symm⟩
  rcases List.mem_append.1 hd with hd | hd
  · exact hu d hd
  · simp at hd; subst hd; exact hc
 have hN : ∀ l : List (List Nat), (∀ x ∈ l, D x) → Apart eqB l → l.length ≤ 500 := by
  intro l hl ha
  have hnd := apart_nodup ha
  open Classical in
  obtain ⟨g, hg⟩ : ∃ g : List Nat → List Nat, ∀ x, D x → (∀ c ∈ g x, c < 95) ∧ x = setN N (g x) := by
   refine ⟨fun x => if hx : ∃ u : List Nat, (∀ c ∈ u, c < 95) ∧ x = setN N u then hx.choose else [], fun x hx => ?_⟩
   rw [hDd] at hx
   simp only [dif_pos hx]
   exact hx.choose_spec
  have h1 : (l.map fun x => k (g x)).Nodup := by
   unfold List.Nodup
   rw [List.pairwise_map]
   refine List.Pairwise.imp_of_mem ?_ hnd
   intro a b ha hb hab he
   obtain ⟨a1, a2⟩ := hg a (hl a ha)
   obtain ⟨b1, b2⟩ := hg b (hl b hb)
   exact hab (by rw [a2, b2]; exact same _ _ a1 b1 he)
  have h2 := nodup_le m _ h1 (fun x hx => by
   simp only [List.mem_map] at hx
   obtain ⟨y, hy, rfl⟩ := hx
   exact hk _ (hg y (hl y hy)).1)
  simp at h2
  omega
 have h0 : D (closedS N N.start) := by rw [hDd]; exact ⟨[], by simp, rfl⟩
 obtain ⟨l, rows, hw, hI, hl0⟩ := walkP_ends eqB_refl hD hN h0
 have hpos : 0 < l.length := (List.getElem?_eq_some_iff.1 hl0).1
 obtain ⟨haok, hlang⟩ := walk_aut (good := fun s => hasW s N.stop) hI hpos
 obtain ⟨b, hb1, hb2, hb3⟩ := formP_canon haok
 have hll : l.length ≤ 500 := hN l hI.dom hI.apart
 refine ⟨b, ?_, hb2.ok, ?_, fun w hww => ?_⟩
 · unfold ofP
   rw [hw]
   exact hb1
 · have : (Aut.mk rows (l.map fun s => hasW s N.stop)).n = l.length := hI.len
   omega
 · rw [hb2.lang (signsL_lang _ _ _), hlang w 0 _ hww hl0]
   have hst := h.stop
   exact (setN_spec h hs _ w rfl hww).2 N.stop (by omega)
end Go.Abs
end
section
namespace Go.Abs
open Go.Aut
attribute [-simp] getElem?_pos Option.not_isSome List.map_map cl nt
def sw (s : Str) : List Nat := s.map fun c => c.toNat - 32
def sgnS (s : Str) : Prop := ∀ c ∈ s, 32 ≤ c.toNat ∧ c.toNat ≤ 126
theorem sw_lt {s : Str} (h : sgnS s) : ∀ c ∈ sw s, c < 95 := fun c hc => by
 simp only [sw, List.mem_map] at hc
 obtain ⟨x, hx, rfl⟩ := hc
 have := h x hx
 omega
theorem sw_inj : ∀ {s t : Str}, sgnS s → sgnS t → sw s = sw t → s = t
 | [], [], _, _, _ => rfl
 | [], y :: t, _, _, h => by simp [sw] at h
 | x :: s, [], _, _, h => by simp [sw] at h
 | x :: s, y :: t, hs, ht, h => by
   simp only [sw, List.map_cons, List.cons.injEq] at h
   have h1 := hs x (by simp)
   have h2 := ht y (by simp)
   have : x = y := by rw [← UInt8.toNat_inj]; omega
   rw [this, sw_inj (s := s) (t := t) (fun c hc => hs c (by simp [hc])) (fun c hc => ht c (by simp [hc])) h.2]
theorem sw_append (s t : Str) : sw (s ++ t) = sw s ++ sw t := by simp [sw]
/-! ### What expressions match -/
theorem den_one {c : Nat} (hc : c < 95) {u : List Nat} : den (.set (oneS c)) u ↔ u = [c] := by
 simp only [den, oneS]
 constructor
 · rintro ⟨d, rfl, hd⟩
   rw [List.getElem?_set] at hd
   split at hd
   · rename_i h; rw [h]
   · rw [List.getElem?_replicate] at hd
     split at hd <;> simp at hd
 · rintro rfl
   exact ⟨c, rfl, by rw [List.getElem?_set_self (by rw [List.length_replicate]; exact hc)]⟩
theorem den_row {l : List Rx} {u : List Nat} : den (rowR l) u ↔ denS l u := by
 rcases l with _ | ⟨p, _ | ⟨q, l⟩⟩
 · simp only [rowR, den]
 · simp only [rowR]; exact denS_one.symm
 · simp only [rowR, den]
theorem den_emptyR {u : List Nat} : ¬den emptyR u := by
 simp only [emptyR, den]
 rintro ⟨c, _, hc⟩
 rw [List.getElem?_replicate] at hc
 split at hc <;> simp at hc
theorem den_either {l : List Rx} {u : List Nat} : den (eitherR l) u ↔ ∃ p ∈ l, den p u := by
 rcases l with _ | ⟨p, _ | ⟨q, l⟩⟩
 · simp only [eitherR]; simp [den_emptyR]
 · simp [eitherR]
 · simp only [eitherR, den]; exact mem_denA
theorem denS_word : ∀ {s : Str}, sgnS s → ∀ {u : List Nat}, denS (s.map fun c => .set (oneS (c.toNat - 32))) u ↔ u = sw s
 | [], _, u => by simp [denS, sw]
 | x :: s, hs, u => by
   have hx := hs x (by simp)
   have ih := @denS_word s (fun c hc => hs c (by simp [hc]))
   simp only [List.map_cons, denS, cat, sw]
   constructor
   · rintro ⟨a, b, rfl, h1, h2⟩
     rw [(den_one (by omega)).1 h1, ih.1 h2]
     simp [sw]
   · rintro rfl
     exact ⟨[x.toNat - 32], sw s, by simp [sw], (den_one (by omega)).2 rfl, ih.2 rfl⟩
theorem den_lit {s : Str} (hs : sgnS s) {u : List Nat} : den (litR s) u ↔ u = sw s := by
 rw [litR, den_row]; exact denS_word hs
theorem star_set {bs : List Bool} {u : List Nat} : Star (den (.set bs)) u ↔ ∀ c ∈ u, bs[c]? = some true := by
 constructor
 · intro h
   induction h with
   | nil => simp
   | snoc _ h2 ih =>
     simp only [den] at h2
     obtain ⟨c, rfl, hc⟩ := h2
     intro d hd
     rcases List.mem_append.1 hd with hd | hd
     · exact ih d hd
     · simp at hd; subst hd; exact hc
 · intro h
   have : ∀ (m : Nat) (u : List Nat), u.length = m → (∀ c ∈ u, bs[c]? = some true) → Star (den (.set bs)) u := by
    intro m
    induction m with
    | zero => intro u hu _; rw [List.length_eq_zero_iff.1 hu]; exact .nil
    | succ m ih =>
      intro u hu hc
      obtain ⟨l, x, rfl⟩ : ∃ l x, u = l ++ [x] := by
       rcases List.eq_nil_or_concat u with rfl | ⟨l, x, rfl⟩
       · simp at hu
       · exact ⟨l, x, by simp⟩
      refine .snoc (ih l (by simpa using hu) fun c hcm => hc c (by simp [hcm])) ?_
      simp only [den]
      exact ⟨x, rfl, hc x (by simp)⟩
   exact this _ u rfl h
theorem allS_get {c : Nat} : allS[c]? = some true ↔ c < 95 := by
 rw [allS, List.getElem?_replicate]
 split <;> simp [*]
theorem notS_get {d c : Nat} : (notS d)[c]? = some true ↔ c < 95 ∧ c ≠ d := by
 rw [notS, List.getElem?_set]
 split
 · rename_i h
   subst h
   split <;> simp
 · rename_i h
   rw [allS_get]
   constructor
   · intro h2; exact ⟨h2, fun e => h e.symm⟩
   · intro h2; exact h2.1
theorem den_rep42 {p : Rx} {u : List Nat} : den (.rep p 42) u ↔ Star (den p) u := by simp only [den, if_neg (show ¬(42 : Nat) = 63 by omega), if_true]
theorem den_rx7 {u : List Nat} : den rx7 u ↔ ∀ c ∈ u, c < 95 := by
 rw [rx7, den_rep42, star_set]
 exact forall₂_congr fun c _ => allS_get
theorem den_rx8 {u : List Nat} : den rx8 u ↔ ∀ c ∈ u, c < 95 ∧ c ≠ 26 := by
 rw [rx8, den_rep42, star_set]
 exact forall₂_congr fun c _ => notS_get
theorem den_enum {ws : List Str} (hs : ∀ w ∈ ws, sgnS w) {u : List Nat} : den (eitherR (ws.map (litE []))) u ↔ ∃ w ∈ ws, u = sw w := by
 rw [den_either]
 constructor
 · rintro ⟨p, hp, h⟩
   obtain ⟨w, hw, rfl⟩ := List.mem_map.1 hp
   rw [litE, List.append_nil] at h
   exact ⟨w, hw, (den_lit (hs w hw)).1 h⟩
 · rintro ⟨w, hw, rfl⟩
   refine ⟨_, List.mem_map.2 ⟨w, hw, rfl⟩, ?_⟩
   rw [litE, List.append_nil]
   exact (den_lit (hs w hw)).2 rfl
theorem sgn_colon {w : Str} (h : sgnS w) : sgnS (w ++ [58]) := fun c hc => by
 rcases List.mem_append.1 hc with hc | hc
 · exact h c hc
 · simp at hc; subst hc; decide
theorem sw_colon (w : Str) : sw (w ++ [58]) = sw w ++ [26] := by simp [sw]
theorem den_cols {ws : List Str} (hs : ∀ w ∈ ws, sgnS w) {u : List Nat} : den (eitherR (ws.map (litE [58]))) u ↔ ∃ w ∈ ws, u = sw w ++ [26] := by
 rw [den_either]
 constructor
 · rintro ⟨p, hp, h⟩
   obtain ⟨w, hw, rfl⟩ := List.mem_map.1 hp
   exact ⟨w, hw, by rw [← sw_colon]; exact (den_lit (sgn_colon (hs w hw))).1 h⟩
 · rintro ⟨w, hw, rfl⟩
   refine ⟨_, List.mem_map.2 ⟨w, hw, rfl⟩, ?_⟩
   rw [litE, ← sw_colon]
   exact (den_lit (sgn_colon (hs w hw))).2 rfl
theorem den_sch {ws : List Str} (hs : ∀ w ∈ ws, sgnS w) {u : List Nat} : den (schR ws) u ↔ (∀ c ∈ u, c < 95 ∧ c ≠ 26) ∨ ∃ w ∈ ws, ∃ r : List Nat, u = sw w ++ [26] ++ r ∧ ∀ c ∈ r, c < 95 := by
 rw [schR, den_either]
 simp only [List.mem_cons, List.not_mem_nil, or_false, exists_eq_or_imp, exists_eq_left, den_rx8, den_row, denS, cat, den_cols hs, den_rx7]
 refine or_congr_right ?_
 constructor
 · rintro ⟨a, b, rfl, ⟨w, hw, rfl⟩, c, d, rfl, h1, rfl⟩
   exact ⟨w, hw, c, by simp, h1⟩
 · rintro ⟨w, hw, r, rfl, h⟩
   exact ⟨sw w ++ [26], r, rfl, ⟨w, hw, rfl⟩, r, [], by simp, h, rfl⟩
end Go.Abs
end
section
namespace Go.Abs
open Go.Aut
attribute [-simp] getElem?_pos Option.not_isSome List.map_map cl nt
def AutOf (x : Rx) (b : Aut) : Prop := ∃ N, netOf x = some N ∧ N.ok ∧ N.edges.length ≤ 1000000 ∧ ofP N = some b ∧ b.ok ∧ b.n ≤ 500 ∧ ∀ w : List Nat, (∀ c ∈ w, c < 95) → (b.L 0 w = true ↔ den x w)
theorem net_ok {cls : List Nat → List Nat → Prop} {x : Rx} {N : Net} (h : NetSpec cls x N) (hf : fresh x ≤ 498) : N.ok :=
 ⟨by rw [h.n]; omega, by rw [h.n]; omega, by rw [h.start, h.n]; omega, by rw [h.stop, h.n]; omega, fun e he => by
   have h1 := h.edges e he
   have h2 := h.bytes e he
   exact ⟨h1.1, h1.2, h2.1, h2.2⟩⟩
theorem autOf_of {x : Rx} (hw : wfR x = true) (hf : fresh x ≤ 498) (hz : rsize x ≤ 10000) {k : List Nat → Nat} {m : Nat} (hm : m ≤ 500) (hk : ∀ u : List Nat, (∀ c ∈ u, c < 95) → k u < m)
 (h0 : sat (fun u v => k u = k v) fun u => u = []) (h1 : sat (fun u v => k u = k v) (den x)) (h2 : satR (fun u v => k u = k v) (fun u => u = []) x) : ∃ b, AutOf x b := by
 obtain ⟨N, hN, hs⟩ := netOf_spec hw h0 h1 h2
 have hok := net_ok hs hf
 obtain ⟨b, g1, g2, g3, g4⟩ := of_spec hok hs.start hm hk hs.sat
 refine ⟨b, N, hN, hok, by have := hs.len; omega, g1, g2, g3, fun w hww => ?_⟩
 rw [g4 w hww, hs.stop, hs.lang w]
/-! ### Nets of few states -/
theorem sat_eq (P : Lg) : sat (fun u v => u = v) P := fun u v _ _ h hp => h ▸ hp
mutual
theorem satR_eq : ∀ (x : Rx) (X : Lg), satR (fun u v => u = v) X x
 | .set _, _ => by simp only [satR]
 | .seq l, X => by simp only [satR]; exact satS_eq l X
 | .alt l, X => by simp only [satR]; exact satA_eq l X
 | .rep p op, X => by
   simp only [satR]
   split
   · exact satR_eq p X
   · split
     · exact ⟨sat_eq _, satR_eq p _⟩
     · exact ⟨sat_eq _, sat_eq _, satR_eq p _⟩
theorem satS_eq : ∀ (l : List Rx) (X : Lg), satS (fun u v => u = v) X l
 | [], _ => by simp only [satS]
 | p :: l, X => by simp only [satS]; exact ⟨satR_eq p X, .inr ⟨sat_eq _, satS_eq l _⟩⟩
theorem satA_eq : ∀ (l : List Rx) (X : Lg), satA (fun u v => u = v) X l
 | [], _ => by simp only [satA]
 | p :: l, X => by simp only [satA]; exact ⟨satR_eq p X, satA_eq l X⟩
end
def encB (f : Nat → Bool) : Nat → Nat
 | 0 => 0
 | n + 1 => 2 * encB f n + (if f n = true then 1 else 0)
theorem encB_lt (f : Nat → Bool) : ∀ n, encB f n < 2 ^ n
 | 0 => by simp [encB]
 | n + 1 => by have := encB_lt f n; simp only [encB, Nat.pow_succ]; split <;> omega
theorem encB_inj {f g : Nat → Bool} : ∀ {n : Nat}, encB f n = encB g n → ∀ q < n, f q = g q
 | 0, _, q, hq => by omega
 | n + 1, h, q, hq => by
   simp only [encB] at h
   have h1 : encB f n = encB g n ∧ f n = g n := by
    cases hf : f n <;> cases hg : g n <;> simp [hf, hg] at h ⊢ <;> omega
   rcases Nat.lt_or_ge q n with hq2 | hq2
   · exact encB_inj h1.1 q hq2
   · rw [show q = n by omega]; exact h1.2
open Classical in
theorem autOf_small {x : Rx} (hw : wfR x = true) (hf : fresh x ≤ 6) (hz : rsize x ≤ 10000) : ∃ b, AutOf x b := by
 obtain ⟨N, hN, hs⟩ := netOf_spec hw (sat_eq _) (sat_eq _) (satR_eq x _)
 have hok := net_ok hs (by omega)
 obtain ⟨b, g1, g2, g3, g4⟩ := of_spec hok hs.start (k := fun u => encB (fun q => decide (Rg N.edges [] q u)) N.n) (m := 256) (by omega) (fun u _ => by
  have h1 := encB_lt (fun q => decide (Rg N.edges [] q u)) N.n
  have h2 : 2 ^ N.n ≤ 2 ^ 8 := Nat.pow_le_pow_right (by omega) (by have := hs.n; omega)
  omega) (fun q hq u v _ _ he hr => by
  have := encB_inj he q hq
  exact of_decide_eq_true (this ▸ decide_eq_true hr))
 refine ⟨b, N, hN, hok, by have := hs.len; omega, g1, g2, g3, fun w hww => ?_⟩
 rw [g4 w hww, hs.stop, hs.lang w]
theorem autOf_pool {s : Str} {x : Rx} (h : (s, x) ∈ poolX) : ∃ b, AutOf x b := by
 simp only [poolX, List.mem_cons, Prod.mk.injEq, List.not_mem_nil, or_false] at h
 rcases h with ⟨_, rfl⟩ | ⟨_, rfl⟩ | ⟨_, rfl⟩ | ⟨_, rfl⟩ | ⟨_, rfl⟩ | ⟨_, rfl⟩ | ⟨_, rfl⟩ | ⟨_, rfl⟩ | ⟨_, rfl⟩
 all_goals exact autOf_small (by decide) (by decide) (by decide)
/-! ### Words and what begins them -/
def pres (l : List (List Nat)) : List (List Nat) := l.flatMap fun w => (List.range (w.length + 1)).map fun j => w.take j
theorem mem_pres {l : List (List Nat)} {u : List Nat} : u ∈ pres l ↔ ∃ w ∈ l, ∃ j, j ≤ w.length ∧ u = w.take j := by
 simp only [pres, List.mem_flatMap, List.mem_map, List.mem_range]
 constructor
 · rintro ⟨w, hw, j, hj, rfl⟩; exact ⟨w, hw, j, by omega, rfl⟩
 · rintro ⟨w, hw, j, hj, rfl⟩; exact ⟨w, hw, j, by omega, rfl⟩
theorem pres_len {n : Nat} : ∀ {l : List (List Nat)}, (∀ w ∈ l, w.length ≤ n) → (pres l).length ≤ (n + 1) * l.length
 | [], _ => by simp [pres]
 | w :: l, h => by
   have ih := pres_len (l := l) fun w hw => h w (by simp [hw])
   have h1 := h w (by simp)
   simp only [pres, List.flatMap_cons, List.length_append, List.length_map, List.length_range, List.length_cons, Nat.mul_succ] at ih ⊢
   omega
def clsOf (L : List (List Nat)) (g : List Nat → Nat) (u : List Nat) : Nat := if u ∈ L then L.idxOf u else L.length + g u
theorem clsOf_lt {L : List (List Nat)} {g : List Nat → Nat} {u : List Nat} {n : Nat} (hg : g u < n) : clsOf L g u < L.length + n := by
 unfold clsOf
 split
 · have := List.idxOf_lt_length_of_mem ‹u ∈ L›; omega
 · omega
theorem clsOf_eq {L : List (List Nat)} {g : List Nat → Nat} {u v : List Nat} (h : clsOf L g u = clsOf L g v) : u = v ∨ (u ∉ L ∧ v ∉ L ∧ g u = g v) := by
 unfold clsOf at h
 split at h <;> split at h
 · rename_i h1 h2
   left
   have e1 := List.getElem_idxOf (List.idxOf_lt_length_of_mem h1)
   have e2 := List.getElem_idxOf (List.idxOf_lt_length_of_mem h2)
   rw [← e1, ← e2]
   simp only [h]
 · rename_i h1 h2
   have := List.idxOf_lt_length_of_mem h1
   omega
 · rename_i h1 h2
   have := List.idxOf_lt_length_of_mem h2
   omega
 · rename_i h1 h2
   exact .inr ⟨h1, h2, by omega⟩
theorem sat_in {L : List (List Nat)} {g : List Nat → Nat} {P : Lg} (h : ∀ u, P u → u ∈ L) : sat (fun u v => clsOf L g u = clsOf L g v) P := fun u v _ _ he hp => by
 rcases clsOf_eq he with rfl | ⟨h1, _⟩
 · exact hp
 · exact absurd (h u hp) h1
theorem sat_cls {L : List (List Nat)} {g : List Nat → Nat} {P : Lg} (h : ∀ u v : List Nat, (∀ c ∈ u, c < 95) → (∀ c ∈ v, c < 95) → u ∉ L → v ∉ L → g u = g v → P u → P v) : sat (fun u v => clsOf L g u = clsOf L g v) P := fun u v hu hv he hp => by
 rcases clsOf_eq he with rfl | ⟨h1, h2, h3⟩
 · exact hp
 · exact h u v hu hv h1 h2 h3 hp
variable {L : List (List Nat)} {g : List Nat → Nat}
theorem satS_word : ∀ (s : Str) (pre : List Nat) (Y : Lg), sgnS s → (∀ u, Y u → u = pre) → (∀ j, 1 ≤ j → j ≤ s.length → pre ++ sw (s.take j) ∈ L) → satS (fun u v => clsOf L g u = clsOf L g v) Y (s.map fun c => .set (oneS (c.toNat - 32)))
 | [], _, _, _, _, _ => by simp only [List.map_nil, satS]
 | x :: s, pre, Y, hs, hY, hL => by
   have hx := hs x (by simp)
   have hc : ∀ u, cat Y (den (.set (oneS (x.toNat - 32)))) u → u = pre ++ [x.toNat - 32] := by
    rintro u ⟨a, b, rfl, h1, h2⟩
    rw [hY a h1, (den_one (by omega)).1 h2]
   simp only [List.map_cons, satS, satR, true_and]
   refine .inr ⟨sat_in fun u hu => ?_, satS_word s (pre ++ [x.toNat - 32]) _ (fun c hc => hs c (by simp [hc])) hc fun j h1 h2 => ?_⟩
   · rw [hc u hu]
     have := hL 1 (by omega) (by simp)
     simpa [sw] using this
   · have := hL (j + 1) (by omega) (by simp; omega)
     simpa [sw] using this
theorem satR_lit {s : Str} {X : Lg} {pre : List Nat} (hs : sgnS s) (hX : ∀ u, X u → u = pre) (hL : ∀ j, 1 ≤ j → j ≤ s.length → pre ++ sw (s.take j) ∈ L) : satR (fun u v => clsOf L g u = clsOf L g v) X (litR s) := by
 have h := satS_word (g := g) s pre X hs hX hL
 unfold litR
 generalize (s.map fun c => Rx.set (oneS (c.toNat - 32))) = l at h
 rcases l with _ | ⟨p, _ | ⟨q, l⟩⟩
 · simp only [rowR, satR]; exact h
 · simp only [rowR]; simp only [satS] at h; exact h.1
 · simp only [rowR, satR]; exact h
theorem satR_either {X : Lg} {l : List Rx} (h : ∀ p ∈ l, satR (fun u v => clsOf L g u = clsOf L g v) X p) : satR (fun u v => clsOf L g u = clsOf L g v) X (eitherR l) := by
 rcases l with _ | ⟨p, _ | ⟨q, l⟩⟩
 · simp only [eitherR, emptyR, satR]
 · exact h p (by simp)
 · simp only [eitherR, satR]; exact satA_iff.2 h
/-! ### How large those expressions are -/
theorem oneS_len (c : Nat) : (oneS c).length = 95 := by rw [oneS, List.length_set, List.length_replicate]
theorem word_sizes : ∀ s : Str, (wfRs (s.map fun c => .set (oneS (c.toNat - 32))) = true) ∧ rsizes (s.map fun c => .set (oneS (c.toNat - 32))) = s.length ∧ freshs (s.map fun c => .set (oneS (c.toNat - 32))) = 0
 | [] => by simp [wfRs, rsizes, freshs]
 | x :: s => by
   obtain ⟨h1, h2, h3⟩ := word_sizes s
   simp only [List.map_cons, wfRs, rsizes, freshs, wfR, rsize, fresh, h1, h2, h3, List.length_cons, oneS_len]
   exact ⟨rfl, by omega, trivial⟩
theorem row_sizes {l : List Rx} (h : wfRs l = true) : wfR (rowR l) = true ∧ rsize (rowR l) ≤ 1 + rsizes l ∧ fresh (rowR l) ≤ l.length + freshs l := by
 rcases l with _ | ⟨p, _ | ⟨q, l⟩⟩
 · simp [rowR, wfR, wfRs, rsize, fresh]
 · simp only [wfRs, Bool.and_true] at h
   simp only [rowR, rsizes, freshs, List.length_cons]
   exact ⟨h, by omega, by omega⟩
 · simp only [rowR, wfR, rsize, fresh]
   exact ⟨h, by omega, by omega⟩
theorem lit_sizes (s : Str) : wfR (litR s) = true ∧ rsize (litR s) ≤ 1 + s.length ∧ fresh (litR s) ≤ s.length := by
 obtain ⟨h1, h2, h3⟩ := word_sizes s
 obtain ⟨g1, g2, g3⟩ := row_sizes h1
 unfold litR
 rw [h2] at g2
 rw [h3, List.length_map] at g3
 exact ⟨g1, g2, by omega⟩
theorem either_sizes {l : List Rx} (h : wfRs l = true) : wfR (eitherR l) = true ∧ rsize (eitherR l) ≤ 1 + rsizes l ∧ fresh (eitherR l) ≤ freshs l := by
 rcases l with _ | ⟨p, _ | ⟨q, l⟩⟩
 · simp only [eitherR, emptyR, wfR, rsize, fresh, List.length_replicate, freshs]; exact ⟨by decide, by omega, by omega⟩
 · simp only [wfRs, Bool.and_true] at h
   simp only [eitherR, rsizes, freshs]
   exact ⟨h, by omega, by omega⟩
 · simp only [eitherR, wfR, rsize, fresh]
   exact ⟨h, by omega, by omega⟩
theorem lits_sizes (e : Str) (n : Nat) : ∀ ws : List Str, (∀ w ∈ ws, w.length ≤ n) → wfRs (ws.map (litE e)) = true ∧ rsizes (ws.map (litE e)) ≤ (n + e.length + 1) * ws.length ∧ freshs (ws.map (litE e)) ≤ (n + e.length) * ws.length
 | [], _ => by simp [wfRs, rsizes, freshs]
 | w :: ws, h => by
   obtain ⟨h1, h2, h3⟩ := lits_sizes e n ws fun w hw => h w (by simp [hw])
   obtain ⟨g1, g2, g3⟩ := lit_sizes (w ++ e)
   have hw := h w (by simp)
   simp only [List.length_append] at g2 g3
   simp only [List.map_cons, wfRs, rsizes, freshs, litE, g1, h1, List.length_cons, Nat.mul_succ, Bool.true_and]
   exact ⟨trivial, by omega, by omega⟩
/-! ### Words, and schemes -/
theorem autOf_enum {ws : List Str} (hne : ws ≠ []) (hl : ws.length ≤ 8) (hs : ∀ w ∈ ws, sgnS w ∧ w.length ≤ 40) : ∃ b, AutOf (eitherR (ws.map (litE []))) b := by
 obtain ⟨h1, h2, h3⟩ := lits_sizes [] 40 ws fun w hw => (hs w hw).2
 obtain ⟨g1, g2, g3⟩ := either_sizes h1
 have m1 : (40 + ([] : Str).length + 1) * ws.length ≤ 41 * 8 := Nat.mul_le_mul (by simp) hl
 have m2 : (40 + ([] : Str).length) * ws.length ≤ 40 * 8 := Nat.mul_le_mul (by simp) hl
 obtain ⟨K, hK⟩ : ∃ K, K = pres (ws.map sw) := ⟨_, rfl⟩
 have hKl : K.length ≤ 41 * 8 := by
  rw [hK]
  have := pres_len (n := 40) (l := ws.map sw) (fun w hw => by
   obtain ⟨v, hv, rfl⟩ := List.mem_map.1 hw
   simpa [sw] using (hs v hv).2)
  rw [List.length_map] at this
  have m3 : (40 + 1) * ws.length ≤ 41 * 8 := Nat.mul_le_mul (by omega) hl
  omega
 have hin : ∀ w ∈ ws, ∀ j, j ≤ w.length → sw (w.take j) ∈ K := fun w hw j hj => by
  rw [hK, mem_pres]
  exact ⟨sw w, List.mem_map.2 ⟨w, hw, rfl⟩, j, by simpa [sw] using hj, by simp [sw, List.map_take]⟩
 refine autOf_of g1 (by omega) (by omega) (k := clsOf K fun _ => 0) (m := K.length + 1) (by omega) (fun u _ => clsOf_lt (by omega)) ?_ ?_ ?_
 · refine sat_in fun u hu => ?_
   subst hu
   obtain ⟨w, hw⟩ := List.exists_mem_of_ne_nil _ hne
   have := hin w hw 0 (by omega)
   simpa [sw] using this
 · refine sat_in fun u hu => ?_
   obtain ⟨w, hw, rfl⟩ := (den_enum fun w hw => (hs w hw).1).1 hu
   have := hin w hw w.length (Nat.le_refl _)
   rwa [List.take_length] at this
 · refine satR_either fun p hp => ?_
   obtain ⟨w, hw, rfl⟩ := List.mem_map.1 hp
   rw [litE, List.append_nil]
   exact satR_lit (pre := []) (hs w hw).1 (fun u hu => hu) fun j _ hj => by simpa using hin w hw j hj
end Go.Abs
end
section
namespace Go.Abs
open Go.Aut
attribute [-simp] getElem?_pos Option.not_isSome List.map_map cl nt
open Classical in
theorem autOf_sch {ws : List Str} (hl : ws.length ≤ 8) (hs : ∀ w ∈ ws, sgnS w ∧ w.length ≤ 16) : ∃ b, AutOf (schR ws) b := by
 have hsg := fun w hw => (hs w hw).1
 obtain ⟨h1, h2, h3⟩ := lits_sizes [58] 16 ws fun w hw => (hs w hw).2
 obtain ⟨g1, g2, g3⟩ := either_sizes h1
 have m1 : (16 + ([58] : Str).length + 1) * ws.length ≤ 18 * 8 := Nat.mul_le_mul (by simp) hl
 have m2 : (16 + ([58] : Str).length) * ws.length ≤ 17 * 8 := Nat.mul_le_mul (by simp) hl
 obtain ⟨K, hK⟩ : ∃ K, K = [] :: pres ((ws.map (· ++ [58])).map sw) := ⟨_, rfl⟩
 have hKl : K.length ≤ 1 + 18 * 8 := by
  rw [hK]
  have := pres_len (n := 17) (l := (ws.map (· ++ [58])).map sw) (fun w hw => by
   obtain ⟨v, hv, rfl⟩ := List.mem_map.1 hw
   obtain ⟨v', hv', rfl⟩ := List.mem_map.1 hv
   have := (hs v' hv').2
   simp [sw]; omega)
  rw [List.length_map, List.length_map] at this
  have m3 : (17 + 1) * ws.length ≤ 18 * 8 := Nat.mul_le_mul (by omega) hl
  rw [List.length_cons]
  omega
 have hin : ∀ w ∈ ws, ∀ j, j ≤ (w ++ [58]).length → sw ((w ++ [58]).take j) ∈ K := fun w hw j hj => by
  rw [hK]
  refine List.mem_cons_of_mem _ (mem_pres.2 ⟨sw (w ++ [58]), List.mem_map.2 ⟨w ++ [58], List.mem_map.2 ⟨w, hw, rfl⟩, rfl⟩, j, by simpa [sw] using hj, by simp [sw, List.map_take]⟩)
 have hfull : ∀ w ∈ ws, sw w ++ [26] ∈ K := fun w hw => by
  have := hin w hw _ (Nat.le_refl _)
  rwa [List.take_length, sw_colon] at this
 have hnil : ([] : List Nat) ∈ K := by rw [hK]; exact List.mem_cons_self
 obtain ⟨B, hB⟩ : ∃ B : Lg, B = fun u => ∃ w ∈ ws, ∃ r : List Nat, u = sw w ++ [26] ++ r := ⟨_, rfl⟩
 obtain ⟨g, hg⟩ : ∃ g : List Nat → Nat, g = fun u => if 26 ∈ u then (if B u then 1 else 2) else 0 := ⟨_, rfl⟩
 have hg3 : ∀ u, g u < 3 := fun u => by rw [hg]; simp only; split <;> (try split) <;> omega
 have gA : ∀ u v : List Nat, g u = g v → 26 ∉ u → 26 ∉ v := fun u v h hu hv => by
  rw [hg] at h
  simp only [if_neg hu, if_pos hv] at h
  split at h <;> omega
 have B26 : ∀ u, B u → 26 ∈ u := fun u hu => by
  rw [hB] at hu
  obtain ⟨w, _, r, rfl⟩ := hu
  simp
 have gB : ∀ u v : List Nat, g u = g v → B u → B v := fun u v h hu => by
  rw [hg] at h
  simp only [if_pos (B26 u hu), if_pos hu] at h
  split at h
  · split at h
    · assumption
    · omega
  · omega
 have noc : ∀ {u : List Nat}, (∀ c ∈ u, c < 95 ∧ c ≠ 26) ↔ (∀ c ∈ u, c < 95) ∧ 26 ∉ u := by
  intro u
  exact ⟨fun h => ⟨fun c hc => (h c hc).1, fun hc => (h 26 hc).2 rfl⟩, fun h c hc => ⟨h.1 c hc, fun e => h.2 (e ▸ hc)⟩⟩
 obtain ⟨S, hS⟩ : ∃ S, S = eitherR (ws.map (litE [58])) := ⟨_, rfl⟩
 have hSd : ∀ u, den S u ↔ ∃ w ∈ ws, u = sw w ++ [26] := fun u => by rw [hS]; exact den_cols hsg
 have hx : schR ws = .alt [rx8, .seq [S, rx7]] := by rw [schR, hS]; rfl
 have hw8 : wfR rx8 = true := by decide
 have hw7 : wfR rx7 = true := by decide
 have n63 : ¬(42 : Nat) = 63 := by omega
 refine autOf_of (by rw [hx]; simp only [wfR, wfRs, hw8, hw7, hS, g1, Bool.and_true]) (by rw [hx, rx8, rx7]; simp only [fresh, freshs, List.length_cons, List.length_nil, n63, if_false, if_true, hS]; omega) (by rw [hx, rx8, rx7]; simp only [rsize, rsizes, hS]; omega)
  (k := clsOf K g) (m := K.length + 3) (by omega) (fun u _ => clsOf_lt (hg3 u)) ?_ ?_ ?_
 · exact sat_in fun u hu => by subst hu; exact hnil
 · refine sat_cls fun u v hu hv _ _ he hd => ?_
   rw [den_sch hsg] at hd ⊢
   rcases hd with hd | ⟨w, hw, r, rfl, hr⟩
   · exact .inl (noc.2 ⟨hv, gA u v he (noc.1 hd).2⟩)
   · have : B v := gB _ v he (by rw [hB]; exact ⟨w, hw, r, rfl⟩)
     rw [hB] at this
     obtain ⟨w', hw', r', rfl⟩ := this
     exact .inr ⟨w', hw', r', rfl, fun c hc => hv c (by simp [hc])⟩
 · rw [hx]
   simp only [satR, satA, and_true]
   refine ⟨?_, ?_⟩
   · rw [rx8]
     simp only [satR, n63, if_false, if_true, and_true]
     refine sat_cls fun u v hu hv _ _ he hd => ?_
     obtain ⟨a, b, rfl, rfl, hb⟩ := hd
     rw [List.nil_append] at he
     refine ⟨[], v, rfl, rfl, ?_⟩
     rw [star_set] at hb ⊢
     have h26 : 26 ∉ b := fun hc => (notS_get.1 (hb 26 hc)).2 rfl
     have := gA b v he h26
     exact fun c hc => notS_get.2 ⟨hv c hc, fun e => this (e ▸ hc)⟩
   · simp only [satS, List.cons_ne_nil, reduceCtorEq, false_or, true_or, and_true]
     refine ⟨?_, ?_, ?_⟩
     · rw [hS]
       refine satR_either fun p hp => ?_
       obtain ⟨w, hw, rfl⟩ := List.mem_map.1 hp
       exact satR_lit (pre := []) (sgn_colon (hsg w hw)) (fun u hu => hu) fun j _ hj => by simpa using hin w hw j hj
     · refine sat_in fun u hu => ?_
       obtain ⟨a, b, rfl, rfl, hb⟩ := hu
       obtain ⟨w, hw, rfl⟩ := (hSd b).1 hb
       exact hfull w hw
     · rw [rx7]
       simp only [satR, n63, if_false, if_true, and_true]
       refine sat_cls fun u v hu hv _ _ he hd => ?_
       have hBd : ∀ {u : List Nat}, (∀ c ∈ u, c < 95) → (cat (cat (fun u => u = []) (den S)) (Star (den (.set allS))) u ↔ B u) := by
        intro u hu
        rw [hB]
        constructor
        · rintro ⟨a, b, rfl, ⟨a', c, rfl, rfl, hc⟩, hb⟩
          obtain ⟨w, hw, rfl⟩ := (hSd c).1 hc
          exact ⟨w, hw, b, by simp⟩
        · rintro ⟨w, hw, r, rfl⟩
          exact ⟨sw w ++ [26], r, rfl, ⟨[], _, rfl, rfl, (hSd _).2 ⟨w, hw, rfl⟩⟩, star_set.2 fun c hc => allS_get.2 (hu c (by simp [hc]))⟩
       exact (hBd hv).2 (gB u v he ((hBd hu).1 hd))
end Go.Abs
end
section
set_option maxHeartbeats 2000000
set_option maxRecDepth 100000
namespace Go.Abs
open Go.Proofs Go.Aut
attribute [-simp] getElem?_pos Option.not_isSome List.map_map cl nt
inductive GoodC : F.Constraint → Rx → Prop
 | any : GoodC ⟨1, [], []⟩ rx7
 | enum {ws : List Str} : ws ≠ [] → F.words ws false = true → ws.length ≤ 4 → GoodC ⟨2, ws, []⟩ (eitherR (ws.map (litE [])))
 | scheme {ws : List Str} : F.words ws true = true → ws.length ≤ 4 → GoodC ⟨3, ws, []⟩ (schR ws)
 | mat {s : Str} {x : Rx} : (s, x) ∈ poolX → s ∈ F.pool12 → GoodC ⟨4, [], s⟩ x
theorem pickW_words (sch : Bool) : ∀ (l out : List Str), (out = [] ∨ F.words out sch = true) → F.pickW sch out l = [] ∨ F.words (F.pickW sch out l) sch = true
 | [], out, h => by simpa only [F.pickW] using h
 | w :: l, out, h => by
   simp only [F.pickW]
   refine pickW_words sch l _ ?_
   split
   · exact .inr ‹_›
   · exact h
theorem words_nil (sch : Bool) : F.words [] sch = true := by simp [F.words, F.wordsGo]
theorem good12_good (c : F.Constraint) : ∃ x, GoodC (F.good12 c) x := by
 unfold F.good12
 obtain ⟨h1, h2⟩ := F.kind12_range c.kind
 generalize F.kind12 c.kind = k at *
 simp only
 split
 · have hlt : F.sumB c.regex % 7 < 7 := Nat.mod_lt _ (by omega)
   generalize F.sumB c.regex % 7 = i at *
   have : i = 0 ∨ i = 1 ∨ i = 2 ∨ i = 3 ∨ i = 4 ∨ i = 5 ∨ i = 6 := by omega
   rcases this with rfl | rfl | rfl | rfl | rfl | rfl | rfl
   · exact ⟨rx0, .mat (by simp [F.pool12, poolX]) (by simp [F.pool12])⟩
   · exact ⟨rx1, .mat (by simp [F.pool12, poolX]) (by simp [F.pool12])⟩
   · exact ⟨rx2, .mat (by simp [F.pool12, poolX]) (by simp [F.pool12])⟩
   · exact ⟨rx3, .mat (by simp [F.pool12, poolX]) (by simp [F.pool12])⟩
   · exact ⟨rx4, .mat (by simp [F.pool12, poolX]) (by simp [F.pool12])⟩
   · exact ⟨rx5, .mat (by simp [F.pool12, poolX]) (by simp [F.pool12])⟩
   · exact ⟨rx6, .mat (by simp [F.pool12, poolX]) (by simp [F.pool12])⟩
 · have hl := F.pickW_len (decide (k = 3)) (c.words.take 4) []
   have hw := pickW_words (decide (k = 3)) (c.words.take 4) [] (.inl rfl)
   simp at hl
   have : k = 1 ∨ k = 2 ∨ k = 3 := by omega
   rcases this with rfl | rfl | rfl
   · exact ⟨rx7, by simpa using GoodC.any⟩
   · simp only [show (decide ((2 : Int) = 3)) = false by decide] at hl hw
     simp only [show ¬((2 : Int) = 1) by omega, if_false, true_and, show (decide ((2 : Int) = 3)) = false by decide]
     generalize F.pickW false [] (c.words.take 4) = ws at *
     split
     · exact ⟨_, .enum (by simp) (by decide) (by simp)⟩
     · rename_i hne
       rcases hw with hw | hw
       · exact absurd hw hne
       · exact ⟨_, .enum hne hw (by omega)⟩
   · simp only [show (decide ((3 : Int) = 3)) = true by decide] at hl hw
     simp only [show ¬((3 : Int) = 1) by omega, show ¬((3 : Int) = 2) by omega, if_false, false_and, show (decide ((3 : Int) = 3)) = true by decide]
     simp only [decide_true] at hl hw ⊢
     rcases hw with hw | hw
     · rw [hw]; exact ⟨_, .scheme (words_nil true) (by simp)⟩
     · exact ⟨_, .scheme hw (by omega)⟩
theorem wordsGo_mem {sch : Bool} : ∀ {l pre : List Str}, F.wordsGo sch pre l = true → ∀ w ∈ l, F.wordOK sch w = true
 | [], _, _, w, hw => by cases hw
 | x :: l, pre, h, w, hw => by
   simp only [F.wordsGo, Bool.and_eq_true] at h
   rcases List.mem_cons.1 hw with rfl | hw
   · exact h.1
   · exact wordsGo_mem h.2.2 w hw
theorem words_enum {ws : List Str} (h : F.words ws false = true) : ∀ w ∈ ws, sgnS w ∧ w.length ≤ 40 := fun w hw => by
 simp only [F.words, Bool.and_eq_true] at h
 have := wordsGo_mem h.1 w hw
 simp only [F.wordOK, Bool.false_eq_true, if_false, Bool.and_eq_true, decide_eq_true_eq, List.all_eq_true] at this
 refine ⟨fun c hc => ?_, this.2⟩
 have := this.1 c hc
 simpa [F.sign] using this
theorem words_scheme {ws : List Str} (h : F.words ws true = true) : ∀ w ∈ ws, sgnS w ∧ w.length ≤ 16 ∧ ∀ c ∈ w, 97 ≤ c.toNat ∧ c.toNat ≤ 122 := fun w hw => by
 simp only [F.words, Bool.and_eq_true] at h
 have := wordsGo_mem h.1 w hw
 simp only [F.wordOK, if_true, F.scheme, Bool.and_eq_true, decide_eq_true_eq, List.all_eq_true] at this
 have hc : ∀ c ∈ w, 97 ≤ c.toNat ∧ c.toNat ≤ 122 := fun c hc => by
  have := this.1 c hc
  simpa [F.small] using this
 exact ⟨fun c h => by have := hc c h; omega, this.2.2, hc⟩
theorem GoodC.aut {c : F.Constraint} {x : Rx} (h : GoodC c x) : ∃ b, AutOf x b := by
 cases h with
 | any => exact autOf_pool (s := [46, 42]) (by simp [poolX])
 | enum h1 h2 h3 => exact autOf_enum h1 (by omega) (words_enum h2)
 | scheme h2 h3 => exact autOf_sch (by omega) fun w hw => ⟨(words_scheme h2 w hw).1, (words_scheme h2 w hw).2.1⟩
 | mat h1 h2 => exact autOf_pool h1
theorem GoodC.sizes {c : F.Constraint} {x : Rx} (h : GoodC c x) : wfR x = true ∧ rsize x ≤ 2000 ∧ fresh x ≤ 2000 := by
 have pool : ∀ {s : Str} {x : Rx}, (s, x) ∈ poolX → wfR x = true ∧ rsize x ≤ 2000 ∧ fresh x ≤ 2000 := by
  intro s x h
  simp only [poolX, List.mem_cons, Prod.mk.injEq, List.not_mem_nil, or_false] at h
  rcases h with ⟨_, rfl⟩ | ⟨_, rfl⟩ | ⟨_, rfl⟩ | ⟨_, rfl⟩ | ⟨_, rfl⟩ | ⟨_, rfl⟩ | ⟨_, rfl⟩ | ⟨_, rfl⟩ | ⟨_, rfl⟩
  all_goals decide
 cases h with
 | any => exact pool (s := [46, 42]) (by simp [poolX])
 | @enum ws h1 h2 h3 =>
   obtain ⟨h1, h2, h3⟩ := lits_sizes [] 40 ws fun w hw => (words_enum h2 w hw).2
   obtain ⟨g1, g2, g3⟩ := either_sizes h1
   have m1 : (40 + ([] : Str).length + 1) * ws.length ≤ 41 * 4 := Nat.mul_le_mul (by simp) ‹_›
   have m2 : (40 + ([] : Str).length) * ws.length ≤ 40 * 4 := Nat.mul_le_mul (by simp) ‹_›
   exact ⟨g1, by omega, by omega⟩
 | @scheme ws h2 h3 =>
   obtain ⟨h1, h2, h3⟩ := lits_sizes [58] 16 ws fun w hw => (words_scheme h2 w hw).2.1
   obtain ⟨g1, g2, g3⟩ := either_sizes h1
   have m1 : (16 + ([58] : Str).length + 1) * ws.length ≤ 18 * 4 := Nat.mul_le_mul (by simp) ‹_›
   have m2 : (16 + ([58] : Str).length) * ws.length ≤ 17 * 4 := Nat.mul_le_mul (by simp) ‹_›
   have hx : schR ws = .alt [rx8, .seq [eitherR (ws.map (litE [58])), rx7]] := rfl
   have hw8 : wfR rx8 = true := by decide
   have hw7 : wfR rx7 = true := by decide
   have n63 : ¬(42 : Nat) = 63 := by omega
   rw [hx]
   refine ⟨by simp only [wfR, wfRs, hw8, hw7, g1, Bool.and_true], by rw [rx8, rx7]; simp only [rsize, rsizes]; omega, by rw [rx8, rx7]; simp only [fresh, freshs, List.length_cons, List.length_nil, n63, if_false, if_true]; omega⟩
 | mat h1 h2 => exact pool h1
theorem f_of_net {x : Rx} {b : Aut} (hb : AutOf x b) (hw : wfR x = true) (hz : rsize x ≤ 2000) (hf : fresh x ≤ 2000) :
 ∃ N, Fn Tryz.prog n_pregex_Regex_Net [rxP x] (.strct (Net.c N)) ∧ Fn Tryz.prog n_dfa_Of [.strct (Net.c N)] (.tup [.strct (Aut.c b), .int .i64 0]) := by
 obtain ⟨N, h1, h2, h3, h4, _⟩ := hb
 exact ⟨N, f_Net x N hw h1 hz hf, f_dfa_Of h2 h3 h4⟩
theorem f_lang_matches {s : Str} {x : Rx} (h : (s, x) ∈ poolX) (hs : s ∈ F.pool12) : Fn Tryz.prog n_lang_matches [.str s] (.bool true) := by
 obtain ⟨g1, g2, g3⟩ := (GoodC.mat h hs).sizes
 obtain ⟨b, hb⟩ := autOf_pool h
 obtain ⟨N, k1, k2⟩ := f_of_net hb g1 g2 g3
 refine Fn.of_image mixed h_lang_matches i_lang_matches rfl fun ho => ?_
 unfold c_lang_matches
 simp only [oks, ok, and_true] at ho
 clear ho
 obtain ⟨C, hC⟩ : ∃ C, C = Net.c N := ⟨_, rfl⟩
 obtain ⟨A, hA⟩ : ∃ A, A = Aut.c b := ⟨_, rfl⟩
 have hCp : purs [] C = some C := by rw [hC]; simp [purs, pur, nV]
 have hAp : purs [] A = some A := by rw [hA]; simp [purs, pur, Aut.c]
 have hCv : vidss C = [] := by rw [hC]; simp [vids, vidss, nV]
 rw [← hC] at k1 k2
 rw [← hA] at k2
 simp (disch := omega) [-List.reduceReplicate]
 refine wcall_pure (f_parse h) (by simp) fun _ => ?_
 simp (disch := omega) [-List.reduceReplicate]
 refine wcall_pure k1 (by simp) fun _ => ?_
 simp (disch := omega) [-List.reduceReplicate, hCp]
 refine wcall_pure k2 (by simp [hCv]) fun _ => ?_
 simp (disch := omega) [-List.reduceReplicate]
theorem f_lang_May {c : F.Constraint} {x : Rx} (h : GoodC c x) : Fn Tryz.prog n_lang_May [c.v] (.int .i64 0) := by
 refine Fn.of_image mixed h_lang_May i_lang_May rfl fun ho => ?_
 unfold c_lang_May
 simp only [oks, ok, and_true] at ho
 clear ho
 cases h with
 | any => simp (disch := omega) [-List.reduceReplicate]
 | @enum ws h1 h2 h3 =>
   have hp : 0 < ws.length := List.length_pos_iff.2 h1
   simp (disch := omega) [-List.reduceReplicate]
   refine wcall_flat (f_lang_words false n_lang_isWord (fun s => by have := f_lang_isWord s; simpa [F.wordOK] using this) ws h2) rfl fun _ => ?_
   simp (disch := omega) [-List.reduceReplicate]
 | @scheme ws h2 h3 =>
   simp (disch := omega) [-List.reduceReplicate]
   refine wcall_flat (f_lang_words true n_lang_isScheme (fun s => by have := f_lang_isScheme s; simpa [F.wordOK] using this) ws h2) rfl fun _ => ?_
   simp (disch := omega) [-List.reduceReplicate]
 | mat h1 h2 =>
   simp (disch := omega) [-List.reduceReplicate]
   refine wcall_flat (f_lang_matches h1 h2) rfl fun _ => ?_
   simp (disch := omega) [-List.reduceReplicate]
end Go.Abs
end
section
set_option maxHeartbeats 4000000
set_option maxRecDepth 100000
namespace Go.Abs
open Go.Proofs Go.Aut
attribute [-simp] getElem?_pos Option.not_isSome List.map_map cl nt
theorem GoodC.maker {c : F.Constraint} {x : Rx} (h : GoodC c x) : ∃ fk, mget (.int .i64 c.kind) makersM = some (.fn (.func fk) [] []) ∧ Fn Tryz.prog fk [c.v] (rxP x) := by
 cases h with
 | any => exact ⟨n_lang_kind_any, by simp [makersM, mget, eqK, eqCs, eqC], f_lang_any _ (by simp) (by simp [vids, vidss]) rfl⟩
 | @enum ws h1 h2 h3 => exact ⟨n_lang_kind_enum, by simp [makersM, mget, eqK, eqCs, eqC], f_lang_enum 2 ws [] (by omega) fun w hw => by have := words_enum h2 w hw; exact ⟨this.1, by omega⟩⟩
 | @scheme ws h2 h3 => exact ⟨n_lang_kind_scheme, by simp [makersM, mget, eqK, eqCs, eqC], f_lang_scheme 3 ws [] (by omega) fun w hw => by have := words_scheme h2 w hw; exact ⟨this.1, by omega⟩⟩
 | mat h1 h2 => exact ⟨n_lang_kind_match, by simp [makersM, mget, eqK, eqCs, eqC], f_lang_match 4 [] _ h1⟩
theorem f_lang_Auto {c : F.Constraint} {x : Rx} (h : GoodC c x) {b : Aut} (hb : AutOf x b) : Fn Tryz.prog n_lang_Auto [c.v] (.strct (Aut.c b)) := by
 obtain ⟨fk, hm, hf⟩ := h.maker
 obtain ⟨g1, g2, g3⟩ := h.sizes
 obtain ⟨N, k1, k2⟩ := f_of_net hb g1 g2 g3
 have hmay := f_lang_May h
 refine Fn.of_imageE mixed h_lang_Auto i_lang_Auto rfl fun ho => ?_
 unfold c_lang_Auto
 simp only [oks, ok, and_true] at ho
 clear ho h hb g1 g2 g3
 obtain ⟨C, hC⟩ : ∃ C, C = Net.c N := ⟨_, rfl⟩
 obtain ⟨A, hA⟩ : ∃ A, A = Aut.c b := ⟨_, rfl⟩
 have hCp : ∀ h, purs h C = some C := fun h => by rw [hC]; simp [purs, pur, nV]
 have hAp : ∀ h, purs h A = some A := fun h => by rw [hA]; simp [purs, pur, Aut.c]
 have hCv : vidss C = [] := by rw [hC]; simp [vids, vidss, nV]
 have hAv : vidss A = [] := by rw [hA]; simp [vids, vidss, Aut.c]
 have hAr : ∀ m, rens m A = A := fun m => by rw [hA]; simp [ren, rens, Aut.c]
 have hAl : A.length = 2 := by rw [hA]; rfl
 have hCl : C.length = 4 := by rw [hC]; rfl
 rw [← hC] at k1 k2
 rw [← hA] at k2 ⊢
 have e2 : List.take 2 A = A := List.take_of_length_le (by omega)
 have e3 : List.drop 2 A = [] := List.drop_of_length_le (by omega)
 clear hC hA
 obtain ⟨kd, ws, rx⟩ := c
 simp only at hm
 simp at hf hmay
 simp (disch := omega) [-List.reduceReplicate]
 refine wcall_flat hmay rfl fun _ => ?_
 simp (disch := omega) [-List.reduceReplicate]
 refine wboth_one ⟨[(2, .ptr 0 0), (3, .ptr 1 0)], [some (.box [.nil 1, .nil 1]), some (.box A)]⟩ (fun F hF => ?_) ?_
 · have hF' := hF
   try simp at hF
   have hM := h_makers
   repeat' (first
    | exact hF
    | refine wbothK.mk ?_ ?_
    | refine wcallHD_mk [] 0 [] (by simp) (by simp) (by simp) (by simp) hM (by simp) ?_
    | refine wcallD_pure hf (by simp) ?_
    | refine wcallD_pure k1 (by simp [hCp]) ?_
    | refine wcallD_pure k2 (by simp [hCv]) ?_
    | (simp (disch := omega) [-List.reduceReplicate, hm, hCp, hAp, hCv, hAv, hAr, hAl, hCl, e2, e3]))
 · simp (disch := omega) [-List.reduceReplicate, hAl, e2, hAp]
end Go.Abs
end
