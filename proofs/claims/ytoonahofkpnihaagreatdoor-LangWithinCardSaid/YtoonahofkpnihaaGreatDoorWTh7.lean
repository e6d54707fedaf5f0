/-
  The states that words of one length reach; the shortest word that is taken. No condition.
  Values that a constraint allows, and its automaton's words; LangExamples' function answers true. No condition.
  Within of package lang; LangKinds' function answers true. No condition.
  Cells of package lang. No condition.
  LangWithin's function answers true. No condition.
-/
import Derived.Test.YtoonahofkpnihaaGreatDoorWTh6
import Derived.Test.YtoonahofkpnihaaGreatDoorWF17
set_option linter.unusedVariables false
set_option linter.unusedSimpArgs false
set_option linter.unusedSectionVars false
set_option maxHeartbeats 4000000
set_option maxRecDepth 100000
section
namespace Go.Aut
def Rch (a : Aut) (p k t : Nat) : Prop := ∃ w : List Nat, w.length = k ∧ (∀ c ∈ w, c < 95) ∧ w.foldl a.δ p = t
theorem walk_lt {a : Aut} (ha : a.ok) : ∀ (w : List Nat) {p : Nat}, p < a.n → (∀ c ∈ w, c < 95) → w.foldl a.δ p < a.n
 | [], _, hp, _ => hp
 | c :: w, _, hp, h => walk_lt ha w (ha.lt hp (h c (by simp))) fun c hc => h c (by simp [hc])
theorem Rch.lt {a : Aut} (ha : a.ok) {p k t : Nat} (hp : p < a.n) (h : Rch a p k t) : t < a.n := by
 obtain ⟨w, _, h2, rfl⟩ := h
 exact walk_lt ha w hp h2
theorem Rch.zero {a : Aut} {p t : Nat} : Rch a p 0 t ↔ t = p := by
 constructor
 · rintro ⟨w, h1, _, rfl⟩
   have := List.eq_nil_of_length_eq_zero h1
   subst this; rfl
 · rintro rfl; exact ⟨[], rfl, by simp, rfl⟩
theorem Rch.succ {a : Aut} {p k t : Nat} : Rch a p (k + 1) t ↔ ∃ q c, Rch a p k q ∧ c < 95 ∧ a.δ q c = t := by
 constructor
 · rintro ⟨w, h1, h2, rfl⟩
   obtain ⟨u, d, rfl⟩ : ∃ u d, w = u ++ [d] := ⟨w.dropLast, w.getLast (by intro e; rw [e] at h1; simp at h1), (List.dropLast_concat_getLast _).symm⟩
   exact ⟨_, d, ⟨u, by simpa using h1, fun c hc => h2 c (by simp [hc]), rfl⟩, h2 d (by simp), by simp [List.foldl_append]⟩
 · rintro ⟨q, c, ⟨w, h1, h2, rfl⟩, hc, rfl⟩
   exact ⟨w ++ [c], by simp [h1], fun d hd => by
    simp only [List.mem_append, List.mem_singleton] at hd
    rcases hd with hd | rfl
    · exact h2 d hd
    · exact hc, by simp [List.foldl_append]⟩
def Lev (a : Aut) (p k : Nat) (S : List Bool) : Prop := S.length = a.n ∧ ∀ t, S[t]? = some true ↔ Rch a p k t
def LevP (a : Aut) (p k q c : Nat) (T : List Bool) : Prop := T.length = a.n ∧ ∀ t, T[t]? = some true ↔ ∃ q' c', (q' < q ∨ (q' = q ∧ c' < c)) ∧ c' < 95 ∧ Rch a p k q' ∧ a.δ q' c' = t
theorem rep_true {n t : Nat} : (List.replicate n false)[t]? = some true ↔ False := by
 rw [List.getElem?_replicate]; split <;> simp
theorem Lev.begin {a : Aut} {p : Nat} (hp : p < a.n) : Lev a p 0 ((List.replicate a.n false).set p true) := by
 refine ⟨by simp, fun t => ?_⟩
 rw [List.getElem?_set, Rch.zero]
 simp only [List.length_replicate]
 by_cases h : p = t
 · simp [h ▸ hp, h]
 · rw [if_neg h, rep_true]; simp only [false_iff]; omega
theorem LevP.begin {a : Aut} {p k : Nat} : LevP a p k 0 0 (List.replicate a.n false) := by
 refine ⟨by simp, fun t => ?_⟩
 rw [rep_true]
 simp only [false_iff]
 rintro ⟨q', c', h, _⟩
 omega
theorem LevP.put {a : Aut} (ha : a.ok) {p k q c : Nat} {T : List Bool} (h : LevP a p k q c T) (hq : Rch a p k q) (hqn : q < a.n) (hc : c < 95) : LevP a p k q (c + 1) (T.set (a.δ q c) true) := by
 have hlt := ha.lt hqn hc
 refine ⟨by simp [h.1], fun t => ?_⟩
 rw [List.getElem?_set, h.1]
 by_cases e : a.δ q c = t
 · simp only [e, if_true, e ▸ hlt, true_iff]
   exact ⟨q, c, .inr ⟨rfl, by omega⟩, hc, hq, e⟩
 · rw [if_neg e, h.2]
   constructor
   · rintro ⟨q', c', h1, h2⟩
     exact ⟨q', c', by omega, h2⟩
   · rintro ⟨q', c', h1, h2, h3, h4⟩
     refine ⟨q', c', ?_, h2, h3, h4⟩
     rcases h1 with h1 | ⟨rfl, h1⟩
     · exact .inl h1
     · refine .inr ⟨rfl, ?_⟩
       rcases Nat.lt_or_ge c' c with g | g
       · exact g
       · have : c' = c := by omega
         subst this
         exact absurd h4 e
theorem LevP.next {a : Aut} {p k q : Nat} {T : List Bool} (h : LevP a p k q 95 T) : LevP a p k (q + 1) 0 T := by
 refine ⟨h.1, fun t => ?_⟩
 rw [h.2]
 constructor
 · rintro ⟨q', c', h1, h2⟩
   exact ⟨q', c', by omega, h2⟩
 · rintro ⟨q', c', h1, h2, h3⟩
   exact ⟨q', c', by omega, h2, h3⟩
theorem LevP.skip {a : Aut} {p k q c : Nat} {T : List Bool} (h : LevP a p k q c T) (hq : ¬Rch a p k q) : LevP a p k (q + 1) 0 T := by
 refine ⟨h.1, fun t => ?_⟩
 rw [h.2]
 constructor
 · rintro ⟨q', c', h1, h2, h3, h4⟩
   refine ⟨q', c', .inl ?_, h2, h3, h4⟩
   rcases h1 with h1 | ⟨rfl, _⟩
   · omega
   · exact absurd h3 hq
 · rintro ⟨q', c', h1, h2, h3, h4⟩
   refine ⟨q', c', ?_, h2, h3, h4⟩
   rcases Nat.lt_or_ge q' q with g | g
   · exact .inl g
   · have : q' = q := by omega
     subst this
     exact absurd h3 hq
theorem LevP.full {a : Aut} (ha : a.ok) {p k : Nat} (hp : p < a.n) {T : List Bool} (h : LevP a p k a.n 0 T) : Lev a p (k + 1) T := by
 refine ⟨h.1, fun t => ?_⟩
 rw [h.2, Rch.succ]
 constructor
 · rintro ⟨q', c', _, h2, h3, h4⟩
   exact ⟨q', c', h3, h2, h4⟩
 · rintro ⟨q, c, h1, h2, h3⟩
   exact ⟨q, c, .inl (h1.lt ha hp), h2, h1, h3⟩
theorem short {a : Aut} (ha : a.ok) {p : Nat} (hp : p < a.n) : ∀ (m : Nat) (w : List Nat), w.length ≤ m → (∀ c ∈ w, c < 95) → ∃ v : List Nat, v.length < a.n ∧ v.length ≤ w.length ∧ (∀ c ∈ v, c < 95) ∧ v.foldl a.δ p = w.foldl a.δ p
 | m, w, hm, hw => by
   rcases Nat.lt_or_ge w.length a.n with h | h
   · exact ⟨w, h, Nat.le_refl _, hw, rfl⟩
   · obtain ⟨P, hP⟩ : ∃ P, P = (List.range (w.length + 1)).map fun k => (w.take k).foldl a.δ p := ⟨_, rfl⟩
     have hPl : P.length = w.length + 1 := by simp [hP]
     have hPg : ∀ k, k < w.length + 1 → P[k]? = some ((w.take k).foldl a.δ p) := fun k hk => by rw [hP, List.getElem?_map, List.getElem?_range hk]; rfl
     have hnd : ¬P.Nodup := fun hnd => by
      have := nodup_le a.n P hnd fun x hx => by
       rw [hP, List.mem_map] at hx
       obtain ⟨k, _, rfl⟩ := hx
       exact walk_lt ha _ hp fun c hc => hw c (List.mem_of_mem_take hc)
      omega
     have hex : ∃ i j, i < j ∧ j < w.length + 1 ∧ (w.take i).foldl a.δ p = (w.take j).foldl a.δ p := by
      apply Classical.byContradiction
      intro hno
      apply hnd
      rw [List.nodup_iff_pairwise_ne, List.pairwise_iff_getElem]
      intro i j hi hj hij e
      refine hno ⟨i, j, hij, by omega, ?_⟩
      have h1 := hPg i (by omega)
      have h2 := hPg j (by omega)
      rw [List.getElem?_eq_getElem hi] at h1
      rw [List.getElem?_eq_getElem hj] at h2
      simp only [Option.some.injEq] at h1 h2
      rw [← h1, ← h2, e]
     obtain ⟨i, j, hij, hj, e⟩ := hex
     have hlen : (w.take i ++ w.drop j).length < w.length := by simp; omega
     cases m with
     | zero => omega
     | succ m =>
       obtain ⟨v, h1, h2, h3, h4⟩ := short ha hp m (w.take i ++ w.drop j) (by omega) fun c hc => by
        rcases List.mem_append.1 hc with hc | hc
        · exact hw c (List.mem_of_mem_take hc)
        · exact hw c (List.mem_of_mem_drop hc)
       refine ⟨v, h1, by omega, h3, ?_⟩
       rw [h4, List.foldl_append, e, ← List.foldl_append, List.take_append_drop]
theorem IsLeast.short {a : Aut} (ha : a.ok) {w : List Nat} (h : IsLeast a.δ 0 a.F (some w)) : w.length < a.n := by
 obtain ⟨v, h1, _, h3, h4⟩ := Go.Aut.short ha ha.pos _ w (Nat.le_refl _) h.1
 have := h.2.2 v h3 (by rw [h4]; exact h.2.1)
 apply Classical.byContradiction
 intro hc
 exact this (.inl (by omega))
theorem lexW_at : ∀ (w : List Nat) (i j c : Nat) (u : List Nat), w[i]? = some c → j < c → u.length + i + 1 = w.length → lexW (w.take i ++ j :: u) w
 | [], i, j, c, u, h, _, _ => by simp at h
 | b :: w, 0, j, c, u, h, hj, hl => by
   simp at h
   subst h
   exact .inl hj
 | b :: w, i + 1, j, c, u, h, hj, hl => by
   simp only [List.length_cons] at hl
   exact .inr ⟨rfl, lexW_at w i j c u (by simpa using h) hj (by omega)⟩
theorem IsLeast.first {a : Aut} {w : List Nat} (h : IsLeast a.δ 0 a.F (some w)) {i j c t : Nat} (hi : w[i]? = some c) (hj : j < c) (ht : Rch a (a.δ ((w.take i).foldl a.δ 0) j) (w.length - i - 1) t) : a.F t = false := by
 have hil := (List.getElem?_eq_some_iff.1 hi).1
 obtain ⟨u, h1, h2, rfl⟩ := ht
 cases hF : a.F (u.foldl a.δ (a.δ ((w.take i).foldl a.δ 0) j)) with
 | false => rfl
 | true =>
   have hc := h.1 c (List.mem_of_getElem? hi)
   have h95 : ∀ d ∈ w.take i ++ j :: u, d < 95 := fun d hd => by
    simp only [List.mem_append, List.mem_cons] at hd
    rcases hd with hd | rfl | hd
    · exact h.1 d (List.mem_of_mem_take hd)
    · omega
    · exact h2 d hd
   exact absurd (.inr ⟨by simp; omega, lexW_at w i j c u hi hj (by omega)⟩) (h.2.2 (w.take i ++ j :: u) h95 (by rw [List.foldl_append]; exact hF))
end Go.Aut
end
section
namespace Go.Abs
open Go.Proofs Go.Aut
attribute [-simp] getElem?_pos Option.not_isSome List.map_map
theorem wordS_len (w : List Nat) : (wordS w).length = w.length := by simp [wordS]
theorem sgn_of {c : Nat} (h : c < 95) : sgn (UInt8.ofNat (32 + c)) = true ∧ (UInt8.ofNat (32 + c)).toNat = 32 + c := by
 have : (UInt8.ofNat (32 + c)).toNat = 32 + c := by rw [UInt8.toNat_ofNat']; omega
 refine ⟨?_, this⟩
 simp only [sgn, this, Bool.and_eq_true, decide_eq_true_eq]
 omega
theorem acc_wordS {a : Aut} : ∀ (w : List Nat) (q : Nat), (∀ c ∈ w, c < 95) → accS a q (wordS w) = a.F (w.foldl a.δ q)
 | [], q, _ => rfl
 | c :: w, q, h => by
   obtain ⟨h1, h2⟩ := sgn_of (h c (by simp))
   have e : 32 + c - 32 = c := by omega
   simp only [wordS, List.map_cons, accS, h1, if_true, h2, e, List.foldl_cons]
   exact acc_wordS w _ fun c hc => h c (by simp [hc])
theorem acc_word {a : Aut} : ∀ (s : Str) (q : Nat), accS a q s = true → ∃ v : List Nat, (∀ c ∈ v, c < 95) ∧ s = wordS v ∧ a.F (v.foldl a.δ q) = true
 | [], q, h => ⟨[], by simp, rfl, h⟩
 | b :: s, q, h => by
   simp only [accS] at h
   split at h
   · rename_i hs
     simp only [sgn, Bool.and_eq_true, decide_eq_true_eq] at hs
     obtain ⟨v, h1, h2, h3⟩ := acc_word s _ h
     refine ⟨(b.toNat - 32) :: v, fun c hc => ?_, ?_, by simpa using h3⟩
     · rcases List.mem_cons.1 hc with rfl | hc
       · omega
       · exact h1 c hc
     · have : 32 + (b.toNat - 32) = b.toNat := by omega
       simp only [wordS, List.map_cons, this, UInt8.ofNat_toNat]
       rw [h2]; rfl
   · cases h
theorem wordS_less : ∀ (u v : List Nat), (∀ c ∈ u, c < 95) → (∀ c ∈ v, c < 95) → u.length = v.length → Op.bytesLess (wordS u) (wordS v) = true → lexW u v
 | [], [], _, _, _, h => by simp [wordS, Op.bytesLess] at h
 | [], _ :: _, _, _, hl, _ => by simp at hl
 | _ :: _, [], _, _, hl, _ => by simp at hl
 | a :: u, b :: v, hu, hv, hl, h => by
   have ha := hu a (by simp)
   have hb := hv b (by simp)
   have h1 := (sgn_of ha).2
   have h2 := (sgn_of hb).2
   simp only [wordS, List.map_cons, Op.bytesLess, Bool.or_eq_true, Bool.and_eq_true, decide_eq_true_eq, beq_iff_eq, UInt8.lt_iff_toNat_lt, h1, h2] at h
   rcases h with h | ⟨h, h3⟩
   · exact .inl (by omega)
   · have : a = b := by
      have := congrArg UInt8.toNat h
      rw [h1, h2] at this; omega
     exact .inr ⟨this, wordS_less u v (fun c hc => hu c (by simp [hc])) (fun c hc => hv c (by simp [hc])) (by simpa using hl) h3⟩
theorem sgnS_wordS {w : List Nat} (h : ∀ c ∈ w, c < 95) : sgnS (wordS w) := fun b hb => by
 simp only [wordS, List.mem_map] at hb
 obtain ⟨c, hc, rfl⟩ := hb
 rw [(sgn_of (h c hc)).2]
 have := h c hc
 omega
theorem sw_wordS : ∀ {w : List Nat}, (∀ c ∈ w, c < 95) → sw (wordS w) = w
 | [], _ => rfl
 | c :: w, h => by
   have h1 := (sgn_of (h c (by simp))).2
   have ih := sw_wordS (w := w) fun c hc => h c (by simp [hc])
   simp only [sw, wordS, List.map_cons, List.cons.injEq] at ih ⊢
   exact ⟨by rw [h1]; omega, by simpa [List.map_map] using ih⟩
theorem wordS_sw : ∀ {s : Str}, sgnS s → wordS (sw s) = s
 | [], _ => rfl
 | b :: s, h => by
   have hb := h b (by simp)
   have ih := wordS_sw (s := s) fun c hc => h c (by simp [hc])
   have e : UInt8.ofNat (32 + (b.toNat - 32)) = b := by rw [show 32 + (b.toNat - 32) = b.toNat by omega, UInt8.ofNat_toNat]
   simp only [sw, wordS, List.map_cons, List.cons.injEq] at ih ⊢
   exact ⟨e, by simpa [List.map_map] using ih⟩
theorem L_fold {a : Aut} : ∀ (w : List Nat) (q : Nat), (∀ c ∈ w, c < 95) → a.L q w = a.F (w.foldl a.δ q)
 | [], q, _ => rfl
 | c :: w, q, h => by
   have ih := L_fold (a := a) w (a.δ q c) fun c hc => h c (by simp [hc])
   simp only [Aut.L, langL, lang, if_pos (h c (by simp)), List.foldl_cons] at ih ⊢
   exact ih
def aheadS (s t : Str) : Prop := s.length < t.length ∨ (s.length = t.length ∧ Op.bytesLess s t = true)
theorem ahead_wlt {s : Str} {w : List Nat} (hs : sgnS s) (hw : ∀ c ∈ w, c < 95) (h : aheadS s (wordS w)) : wlt (sw s) w := by
 have e := wordS_sw hs
 have hl : (sw s).length = s.length := by simp [sw]
 rcases h with h | ⟨h, h2⟩
 · exact .inl (by rw [wordS_len] at h; omega)
 · rw [wordS_len] at h
   refine .inr ⟨by omega, wordS_less (sw s) w (sw_lt hs) hw (by omega) (by rw [e]; exact h2)⟩
theorem GoodC.kind {c : F.Constraint} {x : Rx} (h : GoodC c x) : (1 ≤ c.kind ∧ c.kind ≤ 4) ∧ (c.kind = 4 → F.rxB c.regex = true) := by
 cases h with
 | any => exact ⟨by simp, by simp⟩
 | enum _ _ _ => exact ⟨by simp, by simp⟩
 | scheme _ _ => exact ⟨by simp, by simp⟩
 | mat h1 h2 => exact ⟨by simp, fun _ => List.all_eq_true.1 F.pool_ok _ h2⟩
theorem f_allows {c : F.Constraint} {x : Rx} (h : GoodC c x) (v : Str) (hv : v.length ≤ 999999) : Fn Tryz.prog n_ref12_Allows [c.v, .str v] (.bool (F.allows12 c v)) := F.f_ref12_Allows c v h.kind.1 h.kind.2 hv
theorem AutOf.acc {c : F.Constraint} {x : Rx} {b : Aut} (h : GoodC c x) (hb : AutOf x b) (s : Str) : F.allows12 c s = true ↔ sgnS s ∧ b.F ((sw s).foldl b.δ 0) = true := by
 rw [allows12_iff h]
 refine and_congr_right fun hs => ?_
 obtain ⟨_, _, _, _, _, _, _, hL⟩ := hb
 rw [← hL _ (sw_lt hs), L_fold _ _ (sw_lt hs)]
theorem AutOf.ok {x : Rx} {b : Aut} (hb : AutOf x b) : b.ok ∧ b.n ≤ 500 := by
 obtain ⟨_, _, _, _, _, hok, hn, _⟩ := hb
 exact ⟨hok, hn⟩
theorem few_len (s : Str) : (s.take 20).length ≤ 20 := by simp; omega
theorem cut12_regex (c : F.Constraint) : (cut12 c).regex.length ≤ 1125899906842624 := by simp [cut12]; omega
theorem bool_iff {x y : Bool} (h : x = true ↔ y = true) : x = y := by
 cases x <;> cases y <;> simp_all
def WithinC (c d : F.Constraint) : Prop := ∀ s : Str, F.allows12 c s = true → F.allows12 d s = true
theorem pair_of {a b : Aut} (ha : a.ok) (hb : b.ok) (op : Bool → Bool → Bool) : ∃ r, leastGo (stepP2 a b) (goodP2 a b op) (a.n * b.n + 1) 0 [(0, 0)] [[]] = some r ∧ IsLeast (stepP2 a b) (0, 0) (goodP2 a b op) r := by
 have hD : ∀ (q : Nat × Nat) (c : Nat), (q.1 < a.n ∧ q.2 < b.n) → c < 95 → ((stepP2 a b q c).1 < a.n ∧ (stepP2 a b q c).2 < b.n) := fun q c hq hc => ⟨ha.lt hq.1 hc, hb.lt hq.2 hc⟩
 have h0 : LInv (stepP2 a b) (0, 0) (fun q => q.1 < a.n ∧ q.2 < b.n) 0 0 [(0, 0)] [[]] := LInv.begin ⟨ha.pos, hb.pos⟩
 obtain ⟨r, hr⟩ := leastGo_ends hD (fun l h1 h2 => nodup_pairs h2 h1) (good := goodP2 a b op) (a.n * b.n + 1) 0 [(0, 0)] [[]] h0 (by simp) (by omega)
 exact ⟨r, hr, leastGo_spec hD _ _ _ _ r h0 (by simp) (fun k hk => by omega) hr⟩
theorem f_lang_Within {c d : F.Constraint} {x y : Rx} (hc : GoodC c x) (hd : GoodC d y) (R : Bool) (hR : R = true ↔ WithinC c d) : Fn Tryz.prog n_lang_Within [c.v, d.v] (.bool R) := by
 obtain ⟨a, ha⟩ := hc.aut
 obtain ⟨b, hb⟩ := hd.aut
 obtain ⟨r, hr, hI⟩ := pair_of ha.ok.1 hb.ok.1 fun x y => x && !y
 have e : r.isNone = R := bool_iff (by
  rw [hR, none_iff hI]
  constructor
  · intro h s hs
    obtain ⟨h1, h2⟩ := (AutOf.acc hc ha s).1 hs
    refine (AutOf.acc hd hb s).2 ⟨h1, ?_⟩
    have := h (sw s) (sw_lt h1)
    rw [run_pair, goodP2, h2] at this
    simpa using this
  · intro h w hw
    rw [run_pair, goodP2]
    cases hA : a.F (w.foldl a.δ 0) with
    | false => rfl
    | true =>
      have := (AutOf.acc hd hb _).1 (h (wordS w) ((AutOf.acc hc ha _).2 ⟨sgnS_wordS hw, by rw [sw_wordS hw]; exact hA⟩))
      rw [sw_wordS hw] at this
      simp [this.2])
 have k1 := f_lang_Auto hc ha
 have k2 := f_lang_Auto hd hb
 have k3 := f_dfa_Within ha.ok.1 hb.ok.1 ha.ok.2 hb.ok.2 r hr
 rw [e] at k3
 obtain ⟨A, hA⟩ : ∃ A, A = Aut.c a := ⟨_, rfl⟩
 obtain ⟨B, hB⟩ : ∃ B, B = Aut.c b := ⟨_, rfl⟩
 have hAp : ∀ h, purs h A = some A := fun h => by rw [hA]; simp [purs, pur, Aut.c]
 have hAl : A.length = 2 := by rw [hA]; rfl
 have hBp : ∀ h, purs h B = some B := fun h => by rw [hB]; simp [purs, pur, Aut.c]
 have hBl : B.length = 2 := by rw [hB]; rfl
 rw [← hA] at k1 k3
 rw [← hB] at k2 k3
 clear hA hB hr hI e hR ha hb hc hd
 refine Fn.of_image qF h_lang_Within i_lang_Within rfl fun ho => ?_
 unfold c_lang_Within
 simp only [oks, ok, and_true] at ho
 obtain ⟨kd, ws, rx⟩ := c
 obtain ⟨kd2, ws2, rx2⟩ := d
 clear ho
 simp at k1 k2
 simp (disch := omega)
 refine zG k1 (by simp [hAp]) ?_
 simp (disch := omega) [hAp, hAl]
 refine zG k2 (by simp [hBp]) ?_
 simp (disch := omega) [hAp, hAl, hBp, hBl]
 refine wcallD_flat k3 rfl ?_
 simp (disch := omega)
theorem GoodC.two {c : F.Constraint} {x : Rx} (h : GoodC c x) (hk : c.kind = 2) : ∃ ws, c = ⟨2, ws, []⟩ ∧ (∀ w ∈ ws, w.length ≤ 40) ∧ ws.length ≤ 4 := by
 cases h with
 | any => simp at hk
 | enum h1 h2 h3 => exact ⟨_, rfl, fun w hw => (words_enum h2 w hw).2, h3⟩
 | scheme _ _ => simp at hk
 | mat _ _ => simp at hk
theorem notA_ok {a : Aut} (ha : a.ok) : (notA a).ok := ⟨ha.pos, by simp [notA, Aut.n]; exact ha.fin, ha.rows⟩
theorem notA_n {a : Aut} : (notA a).n = a.n := rfl
theorem notA_F {a : Aut} {q : Nat} (ha : a.ok) (hq : q < a.n) : (notA a).F q = !a.F q := by
 obtain ⟨f, hf⟩ := qP (l := a.final) (k := q) (by rw [ha.fin]; exact hq)
 have h1 : a.F q = f := by show fin a.final q = f; simp only [fin, hf, Option.getD_some]
 have h2 : (notA a).F q = !f := by show fin (a.final.map (!·)) q = !f; simp only [fin, List.getElem?_map, hf, Option.map_some, Option.getD_some]
 rw [h1, h2]
def flip (f : Bool) (a : Aut) : Aut := if f then a else notA a
theorem flip_ok {f : Bool} {a : Aut} (ha : a.ok) : (flip f a).ok := by cases f <;> simp [flip, ha, notA_ok]
theorem flip_n {f : Bool} {a : Aut} : (flip f a).n = a.n := by cases f <;> simp [flip, notA_n]
theorem flip_δ {f : Bool} {a : Aut} : (flip f a).δ = a.δ := by cases f <;> rfl
theorem flip_F {f : Bool} {a : Aut} {q : Nat} (ha : a.ok) (hq : q < a.n) : (flip f a).F q = true ↔ a.F q = f := by
 cases f
 · simp [flip, notA_F ha hq]
 · simp [flip]
def CellOf (c d : F.Constraint) (f1 f2 : Bool) : Option (List Nat) → Prop
 | none => ∀ s : Str, sgnS s → F.allows12 c s = f1 → F.allows12 d s = f2 → False
 | some w => (∀ u ∈ w, u < 95) ∧ F.allows12 c (wordS w) = f1 ∧ F.allows12 d (wordS w) = f2 ∧ ∀ s : Str, sgnS s → F.allows12 c s = f1 → F.allows12 d s = f2 → ¬aheadS s (wordS w)
theorem acc_eq {c : F.Constraint} {x : Rx} {a : Aut} (hc : GoodC c x) (ha : AutOf x a) {w : List Nat} (hw : ∀ u ∈ w, u < 95) (f : Bool) : (flip f a).F (w.foldl a.δ 0) = true ↔ F.allows12 c (wordS w) = f := by
 rw [flip_F ha.ok.1 (walk_lt ha.ok.1 w ha.ok.1.pos hw)]
 have h := AutOf.acc hc ha (wordS w)
 rw [sw_wordS hw] at h
 have h2 := sgnS_wordS hw
 have : F.allows12 c (wordS w) = a.F (w.foldl a.δ 0) := bool_iff (by rw [h]; exact ⟨fun h => h.2, fun h => ⟨h2, h⟩⟩)
 rw [this]
theorem walk_dom {K : Type} {step : K → Nat → K} {D : K → Prop} (hD : ∀ q c, D q → c < 95 → D (step q c)) : ∀ (w : List Nat) {p : K}, D p → (∀ c ∈ w, c < 95) → D (w.foldl step p)
 | [], p, hp, _ => hp
 | c :: w, p, hp, h => walk_dom hD w (hD p c hp (h c (by simp))) fun x hx => h x (by simp [hx])
theorem shortK {K : Type} {step : K → Nat → K} {D : K → Prop} (hD : ∀ q c, D q → c < 95 → D (step q c)) {N : Nat} (hN : ∀ l : List K, (∀ x ∈ l, D x) → l.Nodup → l.length ≤ N) {p : K} (hp : D p) : ∀ (m : Nat) (w : List Nat), w.length ≤ m → (∀ c ∈ w, c < 95) → ∃ v : List Nat, v.length < N + 1 ∧ v.length ≤ w.length ∧ (∀ c ∈ v, c < 95) ∧ v.foldl step p = w.foldl step p
 | m, w, hm, hw => by
   rcases Nat.lt_or_ge w.length (N + 1) with h | h
   · exact ⟨w, h, Nat.le_refl _, hw, rfl⟩
   · obtain ⟨P, hP⟩ : ∃ P, P = (List.range (w.length + 1)).map fun k => (w.take k).foldl step p := ⟨_, rfl⟩
     have hPl : P.length = w.length + 1 := by simp [hP]
     have hPg : ∀ k, k < w.length + 1 → P[k]? = some ((w.take k).foldl step p) := fun k hk => by rw [hP, List.getElem?_map, List.getElem?_range hk]; rfl
     have hnd : ¬P.Nodup := fun hnd => by
      have := hN P (fun x hx => by
       rw [hP, List.mem_map] at hx
       obtain ⟨k, _, rfl⟩ := hx
       exact walk_dom hD _ hp fun c hc => hw c (List.mem_of_mem_take hc)) hnd
      omega
     have hex : ∃ i j, i < j ∧ j < w.length + 1 ∧ (w.take i).foldl step p = (w.take j).foldl step p := by
      apply Classical.byContradiction
      intro hno
      apply hnd
      rw [List.nodup_iff_pairwise_ne, List.pairwise_iff_getElem]
      intro i j hi hj hij e
      refine hno ⟨i, j, hij, by omega, ?_⟩
      have h1 := hPg i (by omega)
      have h2 := hPg j (by omega)
      rw [List.getElem?_eq_getElem hi] at h1
      rw [List.getElem?_eq_getElem hj] at h2
      simp only [Option.some.injEq] at h1 h2
      rw [← h1, ← h2, e]
     obtain ⟨i, j, hij, hj, e⟩ := hex
     have hlen : (w.take i ++ w.drop j).length < w.length := by simp; omega
     cases m with
     | zero => omega
     | succ m =>
       obtain ⟨v, h1, h2, h3, h4⟩ := shortK hD hN hp m (w.take i ++ w.drop j) (by omega) fun c hc => by
        rcases List.mem_append.1 hc with hc | hc
        · exact hw c (List.mem_of_mem_take hc)
        · exact hw c (List.mem_of_mem_drop hc)
       refine ⟨v, h1, by omega, h3, ?_⟩
       rw [h4, List.foldl_append, e, ← List.foldl_append, List.take_append_drop]
theorem cell_of {c d : F.Constraint} {x y : Rx} {a b : Aut} (hc : GoodC c x) (hd : GoodC d y) (ha : AutOf x a) (hb : AutOf y b) (f1 f2 : Bool) :
 ∃ r, Fn Tryz.prog n_dfa_Common [.strct (Aut.c (flip f1 a)), .strct (Aut.c (flip f2 b))] (resL r) ∧ CellOf c d f1 f2 r ∧ ∀ w, r = some w → w.length < 250001 := by
 have h1 := ha.ok
 have h2 := hb.ok
 obtain ⟨r, hr, hI⟩ := pair_of (flip_ok (f := f1) h1.1) (flip_ok (f := f2) h2.1) fun x y => x && y
 have hfn := f_dfa_Common (flip_ok (f := f1) h1.1) (flip_ok (f := f2) h2.1) (by rw [flip_n]; exact h1.2) (by rw [flip_n]; exact h2.2) r hr
 have key : ∀ w : List Nat, (∀ u ∈ w, u < 95) → (goodP2 (flip f1 a) (flip f2 b) (fun x y => x && y) (w.foldl (stepP2 (flip f1 a) (flip f2 b)) (0, 0)) = true ↔ (F.allows12 c (wordS w) = f1 ∧ F.allows12 d (wordS w) = f2)) := fun w hw => by
  rw [run_pair, goodP2, flip_δ, flip_δ, Bool.and_eq_true, acc_eq hc ha hw, acc_eq hd hb hw]
 refine ⟨r, hfn, ?_, fun w hw => ?_⟩
 · cases r with
   | none =>
     intro s hs k1 k2
     have h3 := hI (sw s) (sw_lt hs)
     have h4 := (key (sw s) (sw_lt hs)).2 (by rw [wordS_sw hs]; exact ⟨k1, k2⟩)
     rw [h4] at h3; cases h3
   | some w =>
     obtain ⟨k1, k2⟩ := (key w hI.1).1 hI.2.1
     refine ⟨hI.1, k1, k2, fun s hs g1 g2 hah => ?_⟩
     exact hI.2.2 (sw s) (sw_lt hs) ((key (sw s) (sw_lt hs)).2 (by rw [wordS_sw hs]; exact ⟨g1, g2⟩)) (ahead_wlt hs hI.1 hah)
 · subst hw
   have hab : a.n * b.n ≤ 250000 := Nat.le_trans (Nat.mul_le_mul h1.2 h2.2) (by decide)
   have e1 := flip_ok (f := f1) h1.1
   have e2 := flip_ok (f := f2) h2.1
   have hn1 : (flip f1 a).n = a.n := flip_n
   have hn2 : (flip f2 b).n = b.n := flip_n
   obtain ⟨v, g1, g2, g3, g4⟩ := shortK (step := stepP2 (flip f1 a) (flip f2 b)) (D := fun q => q.1 < (flip f1 a).n ∧ q.2 < (flip f2 b).n) (fun q c hq hc => ⟨e1.lt hq.1 hc, e2.lt hq.2 hc⟩) (N := (flip f1 a).n * (flip f2 b).n) (fun l k1 k2 => nodup_pairs k2 k1) (p := (0, 0)) ⟨e1.pos, e2.pos⟩ w.length w (Nat.le_refl _) hI.1
   have h5 := hI.2.2 v g3 (by rw [g4]; exact hI.2.1)
   have h6 : ¬v.length < w.length := fun h => h5 (.inl h)
   rw [hn1, hn2] at g1
   omega
def cellS : Option (List Nat) → Str
 | none => []
 | some w => 43 :: wordS w
theorem res_cell (r : Option (List Nat)) (h : ∀ w, r = some w → w.length < 250001) : ∃ (w : Str) (o : Bool), resL r = .tup [.str w, .bool o] ∧ cellS r = (if o then 43 :: w else []) ∧ w.length < 250001 := by
 cases r with
 | none => exact ⟨[], false, rfl, rfl, by simp⟩
 | some w => exact ⟨wordS w, true, rfl, rfl, by rw [wordS_len]; exact h w rfl⟩
def upS (k i : Nat) (s : Str) : V := .str (if i < k then s else [])
theorem f_lang_Cells {c d : F.Constraint} {x y : Rx} (hc : GoodC c x) (hd : GoodC d y) : ∃ r0 r1 r2 r3, CellOf c d true true r0 ∧ CellOf c d true false r1 ∧ CellOf c d false true r2 ∧ CellOf c d false false r3 ∧ (∀ r ∈ [r0, r1, r2, r3], ∀ w, r = some w → w.length < 250001) ∧
 Fn Tryz.prog n_lang_Cells [c.v, d.v] (.strct [.str (cellS r0), .str (cellS r1), .str (cellS r2), .str (cellS r3)]) := by
 obtain ⟨a, ha⟩ := hc.aut
 obtain ⟨b, hb⟩ := hd.aut
 obtain ⟨r0, k0, c0, l0⟩ := cell_of hc hd ha hb true true
 obtain ⟨r1, k1, c1, l1⟩ := cell_of hc hd ha hb true false
 obtain ⟨r2, k2, c2, l2⟩ := cell_of hc hd ha hb false true
 obtain ⟨r3, k3, c3, l3⟩ := cell_of hc hd ha hb false false
 refine ⟨r0, r1, r2, r3, c0, c1, c2, c3, fun r hr => ?_, ?_⟩
 · simp only [List.mem_cons, List.not_mem_nil, or_false] at hr
   rcases hr with rfl | rfl | rfl | rfl
   · exact l0
   · exact l1
   · exact l2
   · exact l3
 have h1 := f_lang_Auto hc ha
 have h2 := f_lang_Auto hd hb
 have n1 := f_dfa_Not ha.ok.1 ha.ok.2
 have n2 := f_dfa_Not hb.ok.1 hb.ok.2
 simp only [flip, if_true, Bool.false_eq_true, if_false] at k0 k1 k2 k3
 clear c0 c1 c2 c3 ha hb hc hd
 have e1 : (notA a).next = a.next := rfl
 have e2 : (notA b).next = b.next := rfl
 simp only [Aut.c, nextN, finN, e1, e2] at h1 h2 n1 n2 k0 k1 k2 k3
 obtain ⟨A, hA⟩ : ∃ A, A = a.next.map rowN := ⟨_, rfl⟩
 obtain ⟨A', hA'⟩ : ∃ A, A = a.final.map V.bool := ⟨_, rfl⟩
 obtain ⟨A2, hA2⟩ : ∃ A, A = (notA a).final.map V.bool := ⟨_, rfl⟩
 obtain ⟨B, hB⟩ : ∃ A, A = b.next.map rowN := ⟨_, rfl⟩
 obtain ⟨B', hB'⟩ : ∃ A, A = b.final.map V.bool := ⟨_, rfl⟩
 obtain ⟨B2, hB2⟩ : ∃ A, A = (notA b).final.map V.bool := ⟨_, rfl⟩
 rw [← hA, ← hA'] at h1 n1
 rw [← hB, ← hB'] at h2 n2
 rw [← hA2] at n1
 rw [← hB2] at n2
 rw [← hA, ← hA', ← hB, ← hB'] at k0
 rw [← hA, ← hA', ← hB, ← hB2] at k1
 rw [← hA, ← hA2, ← hB, ← hB'] at k2
 rw [← hA, ← hA2, ← hB, ← hB2] at k3
 clear e1 e2 hA hA' hA2 hB hB' hB2
 obtain ⟨w0, o0, p0, q0, m0⟩ := res_cell r0 l0
 obtain ⟨w1, o1, p1, q1, m1⟩ := res_cell r1 l1
 obtain ⟨w2, o2, p2, q2, m2⟩ := res_cell r2 l2
 obtain ⟨w3, o3, p3, q3, m3⟩ := res_cell r3 l3
 rw [p0] at k0
 rw [p1] at k1
 rw [p2] at k2
 rw [p3] at k3
 obtain ⟨s0, hs0⟩ : ∃ s, s = cellS r0 := ⟨_, rfl⟩
 obtain ⟨s1, hs1⟩ : ∃ s, s = cellS r1 := ⟨_, rfl⟩
 obtain ⟨s2, hs2⟩ : ∃ s, s = cellS r2 := ⟨_, rfl⟩
 obtain ⟨s3, hs3⟩ : ∃ s, s = cellS r3 := ⟨_, rfl⟩
 rw [← hs0, ← hs1, ← hs2, ← hs3]
 rw [q0] at hs0
 rw [q1] at hs1
 rw [q2] at hs2
 rw [q3] at hs3
 clear p0 p1 p2 p3 q0 q1 q2 q3 l0 l1 l2 l3
 refine Fn.of_image qF h_lang_Cells i_lang_Cells rfl fun ho => ?_
 unfold c_lang_Cells
 simp only [oks, ok, and_true] at ho
 clear ho
 obtain ⟨kc, wc, rc⟩ := c
 obtain ⟨kd, wd, rd⟩ := d
 simp at h1 h2
 simp (disch := omega)
 refine zG h1 (by simp) ?_
 simp (disch := omega)
 refine zG h2 (by simp) ?_
 simp (disch := omega)
 refine wboth_one ⟨[(4, .ptr 0 0), (5, .ptr 1 0), (6, .ptr 2 0)], [some (.box [.str [], .str [], .str [], .str []]), some (.box [.seq 1 A, .seq 1 A']), some (.box [.seq 1 B, .seq 1 B'])]⟩ (fun F hF => ?_) ?_
 · try simp at hF
   repeat' (first
    | exact hF
    | refine wbothK.mk ?_ ?_
    | (simp (disch := omega)))
 simp (disch := omega)
 refine zG n1 (by simp) ?_
 simp (disch := omega)
 refine zG n2 (by simp) ?_
 simp (disch := omega)
 refine wboth_one ⟨[(4, .ptr 0 0), (5, .ptr 1 0), (6, .ptr 2 0), (7, .ptr 3 0), (8, .ptr 4 0)], [some (.box [.str [], .str [], .str [], .str []]), some (.box [.seq 1 A, .seq 1 A']), some (.box [.seq 1 B, .seq 1 B']), some (.box [.seq 1 A, .seq 1 A2]), some (.box [.seq 1 B, .seq 1 B2])]⟩ (fun F hF => ?_) ?_
 · try simp at hF
   repeat' (first
    | exact hF
    | refine wbothK.mk ?_ ?_
    | (simp (disch := omega)))
 simp (disch := omega)
 clear h1 h2 n1 n2
 refine qI (fun k : Nat => ⟨[(4, .ptr 0 0), (10, .ptr 1 0), (36, .strct [.seq 1 A, .seq 1 A', .seq 1 B, .seq 1 B', .seq 1 A, .seq 1 A', .seq 1 B, .seq 1 B2, .seq 1 A, .seq 1 A2, .seq 1 B, .seq 1 B', .seq 1 A, .seq 1 A2, .seq 1 B, .seq 1 B2]), (37, nV k)],
  [some (.box [.str [], .str [], .str [], .str []]), some (.box [upS k 0 s0, upS k 1 s1, upS k 2 s2, upS k 3 s3])]⟩) (fun k => k ≤ 4) (fun k => 4 - k) [] _ 0 rfl (by simp [upS]) (by simp) ?_
 intro k hk N hN
 have hkk : k = 0 ∨ k = 1 ∨ k = 2 ∨ k = 3 ∨ k = 4 := by omega
 rcases hkk with rfl | rfl | rfl | rfl | rfl
 · simp (disch := omega) [upS]
   refine qB k0 rfl fun _ => ?_
   cases o0 with
   | true =>
     simp (disch := omega)
     exact hN.out _ <| Nx.mk 1 (by simp [upS, hs0]) (by simp) (by simp)
   | false =>
     simp (disch := omega)
     exact hN.out _ <| Nx.mk 1 (by simp [upS, hs0]) (by simp) (by simp)
 · simp (disch := omega) [upS]
   refine qB k1 rfl fun _ => ?_
   cases o1 with
   | true =>
     simp (disch := omega)
     exact hN.out _ <| Nx.mk 2 (by simp [upS, hs1]) (by simp) (by simp)
   | false =>
     simp (disch := omega)
     exact hN.out _ <| Nx.mk 2 (by simp [upS, hs1]) (by simp) (by simp)
 · simp (disch := omega) [upS]
   refine qB k2 rfl fun _ => ?_
   cases o2 with
   | true =>
     simp (disch := omega)
     exact hN.out _ <| Nx.mk 3 (by simp [upS, hs2]) (by simp) (by simp)
   | false =>
     simp (disch := omega)
     exact hN.out _ <| Nx.mk 3 (by simp [upS, hs2]) (by simp) (by simp)
 · simp (disch := omega) [upS]
   refine qB k3 rfl fun _ => ?_
   cases o3 with
   | true =>
     simp (disch := omega)
     exact hN.out _ <| Nx.mk 4 (by simp [upS, hs3]) (by simp) (by simp)
   | false =>
     simp (disch := omega)
     exact hN.out _ <| Nx.mk 4 (by simp [upS, hs3]) (by simp) (by simp)
 · simp (disch := omega) [upS]
theorem f_law12_signs (s : Str) : Fn Tryz.prog n_law12_signs [.str s] (.bool (s.all F.sign)) := by
 refine Fn.of_image qF h_law12_signs i_law12_signs rfl fun ho => ?_
 unfold c_law12_signs
 simp only [oks, ok, and_true] at ho
 obtain ⟨r, hr⟩ : ∃ r, r = s.all F.sign := ⟨_, rfl⟩
 rw [← hr]
 simp (disch := omega)
 refine qI (fun k : Nat => ⟨[(0, .str s), (3, .int .i64 k)], []⟩) (fun k => k ≤ s.length ∧ (s.drop k).all F.sign = r) (fun k => s.length - k) [] _ 0 rfl (by simp) (by simp [hr]) ?_
 rintro k ⟨hk, hi⟩ N hN
 rcases place s k hk with ⟨he, hd⟩ | ⟨hlt, x, hx, hd⟩ <;> rw [hd] at hi
 · simp only [List.all_nil] at hi
   subst hi
   clear hr
   simp (disch := omega) [he]
 · replace hi := hid hi
   simp (disch := omega) [hx]
   by_cases h1 : x.toNat < 32
   · have h2 : F.sign x = false := by simp [F.sign]; omega
     have hi := hi.out
     simp only [List.all_cons, h2, Bool.false_and] at hi
     subst hi
     have h3 : (x.toNat : Int) < 32 := by omega
     clear hr
     simp (disch := omega) [h1, h3]
   · have h3 : ¬(x.toNat : Int) < 32 := by omega
     by_cases h4 : x.toNat > 126
     · have h2 : F.sign x = false := by simp [F.sign]; omega
       have hi := hi.out
       simp only [List.all_cons, h2, Bool.false_and] at hi
       subst hi
       have h5 : (x.toNat : Int) > 126 := by omega
       have h6 : ¬x.toNat ≤ 126 := by omega
       clear hr
       simp (disch := omega) [h1, h3, h4, h5, hx, h6]
     · have h2 : F.sign x = true := by simp [F.sign]; omega
       have hi := hi.out
       simp only [List.all_cons, h2, Bool.true_and] at hi
       have h5 : ¬(x.toNat : Int) > 126 := by omega
       have h6 : x.toNat ≤ 126 := by omega
       replace hi := hid hi
       simp (disch := omega) [h1, h3, h4, h5, hx, h6]
       exact hN.out _ <| Nx.mk (k + 1) (by simp) ⟨by omega, hi.out⟩ (by omega)
def Told (g g2 : F.Constraint) (s : Str) (f1 f2 : Bool) (cs : Str) : Prop :=
 (cs = [] ∧ (s.all F.sign = true → F.allows12 g s = f1 → F.allows12 g2 s = f2 → False)) ∨ ∃ w : Str, cs = 43 :: w ∧ F.allows12 g w = f1 ∧ F.allows12 g2 w = f2 ∧ w.length < 250001 ∧ (s.all F.sign = true → F.allows12 g s = f1 → F.allows12 g2 s = f2 → ¬aheadS s w)
theorem told {g g2 : F.Constraint} {f1 f2 : Bool} {r : Option (List Nat)} (h : CellOf g g2 f1 f2 r) (hl : ∀ w, r = some w → w.length < 250001) (s : Str) : Told g g2 s f1 f2 (cellS r) := by
 cases r with
 | none => exact .inl ⟨rfl, fun h1 => h s (all_sign.1 h1)⟩
 | some w => exact .inr ⟨wordS w, rfl, h.2.1, h.2.2.1, by rw [wordS_len]; exact hl w rfl, fun h1 => h.2.2.2 s (all_sign.1 h1)⟩
theorem within_cell {g g2 : F.Constraint} {x : Rx} (hg : GoodC g x) {r : Option (List Nat)} (h : CellOf g g2 true false r) : decide (cellS r = []) = true ↔ WithinC g g2 := by
 cases r with
 | none =>
   simp only [cellS, decide_true, true_iff]
   intro s hs
   cases hB : F.allows12 g2 s with
   | true => rfl
   | false => exact (h s ((allows12_iff hg s).1 hs).1 hs hB).elim
 | some w =>
   simp only [cellS, reduceCtorEq, decide_false, Bool.false_eq_true, false_iff]
   intro hw
   have := hw _ h.2.1
   rw [h.2.2.1] at this
   cases this
def cel (c0 c1 c2 c3 : Str) (k : Nat) : Str := if k = 0 then c0 else if k = 1 then c1 else if k = 2 then c2 else c3
theorem f_law12_LangWithin (c d : F.Constraint) (s : Str) : FnE Tryz.prog n_law12_LangWithin [c.v, d.v, .str s] (.bool true) := by
 refine FnE.of_image qF h_law12_LangWithin i_law12_LangWithin rfl fun ho => ?_
 unfold c_law12_LangWithin
 clear ho
 have hcut := f_law12_cut c
 have hgood := F.f_ref12_Good (cut12 c) (cut12_regex c)
 have hcut2 := f_law12_cut d
 have hgood2 := F.f_ref12_Good (cut12 d) (cut12_regex d)
 obtain ⟨x, hx⟩ := good12_good (cut12 c)
 obtain ⟨y, hy⟩ := good12_good (cut12 d)
 obtain ⟨k, hk⟩ : ∃ k, k = cut12 c := ⟨_, rfl⟩
 obtain ⟨k2, hk2⟩ : ∃ k, k = cut12 d := ⟨_, rfl⟩
 rw [← hk] at hgood hcut hx
 rw [← hk2] at hgood2 hcut2 hy
 obtain ⟨g, hg⟩ : ∃ g, g = F.good12 k := ⟨_, rfl⟩
 obtain ⟨g2, hg2⟩ : ∃ g, g = F.good12 k2 := ⟨_, rfl⟩
 rw [← hg] at hgood hx
 rw [← hg2] at hgood2 hy
 clear hg hg2 hk hk2
 have hlives := f_law12_lives
 have hfew := f_law12_few s
 have hsl := few_len s
 obtain ⟨s', hs'⟩ : ∃ s', s' = s.take 20 := ⟨_, rfl⟩
 rw [← hs'] at hfew hsl
 obtain ⟨r0, r1, r2, r3, d0, d1, d2, d3, hl, hcells⟩ := f_lang_Cells hx hy
 have w1 := f_lang_Within hx hy (decide (cellS r1 = [])) (within_cell hx d1)
 have w2 := f_lang_Within hx hx true ⟨fun _ s h => h, fun _ => rfl⟩
 have hwi : decide (cellS r1 = []) = true → F.allows12 g s' = true → F.allows12 g2 s' = true := fun h => (within_cell hx d1).1 h s'
 have t0 := told d0 (hl r0 (by simp)) s'
 have t1 := told d1 (hl r1 (by simp)) s'
 have t2 := told d2 (hl r2 (by simp)) s'
 have t3 := told d3 (hl r3 (by simp)) s'
 obtain ⟨c0, hc0⟩ : ∃ c0, c0 = cellS r0 := ⟨_, rfl⟩
 obtain ⟨c1, hc1⟩ : ∃ c0, c0 = cellS r1 := ⟨_, rfl⟩
 obtain ⟨c2, hc2⟩ : ∃ c0, c0 = cellS r2 := ⟨_, rfl⟩
 obtain ⟨c3, hc3⟩ : ∃ c0, c0 = cellS r3 := ⟨_, rfl⟩
 rw [← hc0] at t0
 rw [← hc1] at t1 w1 hwi
 rw [← hc2] at t2
 rw [← hc3] at t3
 rw [← hc0, ← hc1, ← hc2, ← hc3] at hcells
 have hal := fun (v : Str) (hv : v.length ≤ 999999) => f_allows hx v hv
 have hal2 := fun (v : Str) (hv : v.length ≤ 999999) => f_allows hy v hv
 have u0 : ∀ {f1 f2 : Bool} {cs : Str}, Told g g2 s' f1 f2 cs → (cs = [] ∧ (s'.all F.sign = true → F.allows12 g s' = f1 → F.allows12 g2 s' = f2 → False)) ∨ ∃ w : Str, cs = 43 :: w ∧ Fn Tryz.prog n_ref12_Allows [g.v, .str w] (.bool f1) ∧ Fn Tryz.prog n_ref12_Allows [g2.v, .str w] (.bool f2) ∧ w.length < 250001 ∧ (s'.all F.sign = true → F.allows12 g s' = f1 → F.allows12 g2 s' = f2 → ¬aheadS s' w) := by
  rintro f1 f2 cs (h | ⟨w, h1, h2, h3, h4, h5⟩)
  · exact .inl h
  · exact .inr ⟨w, h1, h2 ▸ hal w (by omega), h3 ▸ hal2 w (by omega), h4, h5⟩
 have v : ∀ k, k < 4 → _ := fun k hk => u0 (f1 := decide (k < 2)) (f2 := decide (k % 2 = 0)) (cs := cel c0 c1 c2 c3 k) (by
  rcases (show k = 0 ∨ k = 1 ∨ k = 2 ∨ k = 3 by omega) with rfl | rfl | rfl | rfl
  · exact t0
  · exact t1
  · exact t2
  · exact t3)
 have ha1 := hal s' (by omega)
 have ha2 := hal2 s' (by omega)
 have hsg := f_law12_signs s'
 clear u0 t0 t1 t2 t3 d0 d1 d2 d3 hl hal hal2 hx hy hc0 hc1 hc2 hc3 hs'
 obtain ⟨one, hone⟩ : ∃ b, b = F.allows12 g s' := ⟨_, rfl⟩
 obtain ⟨two, htwo⟩ : ∃ b, b = F.allows12 g2 s' := ⟨_, rfl⟩
 obtain ⟨sg, hsgd⟩ : ∃ b, b = s'.all F.sign := ⟨_, rfl⟩
 rw [← hone] at ha1 hwi v
 rw [← htwo] at ha2 hwi v
 rw [← hsgd] at hsg v
 clear hone htwo hsgd
 obtain ⟨kc, wc, rc⟩ := c
 obtain ⟨kd, wd, rd⟩ := d
 obtain ⟨k1, wk1, rk1⟩ := k
 obtain ⟨k2, wk2, rk2⟩ := k2
 obtain ⟨k3, wk3, rk3⟩ := g
 obtain ⟨k4, wk4, rk4⟩ := g2
 simp at hcut hgood hcut2 hgood2 w1 w2 hcells ha1 ha2
 simp (disch := omega)
 refine qG hcut (by simp) fun _ => ?_
 simp (disch := omega)
 refine qG hgood (by simp) fun _ => ?_
 simp (disch := omega)
 refine qG hcut2 (by simp) fun _ => ?_
 simp (disch := omega)
 refine qG hgood2 (by simp) fun _ => ?_
 simp (disch := omega)
 refine qB hfew rfl fun _ => ?_
 simp (disch := omega)
 refine qB w1 rfl fun _ => ?_
 simp (disch := omega)
 refine qG hcells (by simp) fun _ => ?_
 simp (disch := omega)
 refine qB ha1 rfl fun _ => ?_
 simp (disch := omega)
 refine qB ha2 rfl fun _ => ?_
 simp (disch := omega)
 refine qI (fun k : Nat => ⟨[(2, .str s'), (7, .ptr 0 0), (8, .ptr 1 0), (9, .bool (decide (c1 = []))), (10, .ptr 2 0), (11, .bool one), (12, .bool two), (13, nV k)], [some (.box [.int .i64 k3, .seq 1 (wk3.map .str), .str rk3]), some (.box [.int .i64 k4, .seq 1 (wk4.map .str), .str rk4]), some (.box [.str c0, .str c1, .str c2, .str c3])]⟩)
  (fun k => k ≤ 4) (fun k => 4 - k) [] _ 0 rfl (by simp) (by simp) ?_
 intro k hk N hN
 rcases Nat.lt_or_ge k 4 with hlt | hge
 · rcases v k hlt with ⟨hc, hno⟩ | ⟨w, hc, hf1, hf2, hwl, hah⟩
   · have hn : sg = true → ¬(one = decide (k < 2) ∧ two = decide (k % 2 = 0)) := fun h h2 => hno h h2.1 h2.2
     clear hno
     rcases (show k = 0 ∨ k = 1 ∨ k = 2 ∨ k = 3 by omega) with rfl | rfl | rfl | rfl
     all_goals
      simp [cel] at hc hn
      simp (disch := omega) [hc]
      refine qB hsg rfl fun _ => ?_
      cases sg with
      | false =>
        simp (disch := omega)
        (first | (refine hN.out _ <| Nx.mk 1 ?_ ?_ ?_ <;> (simp [hc]; done)) | (refine hN.out _ <| Nx.mk 2 ?_ ?_ ?_ <;> (simp [hc]; done)) | (refine hN.out _ <| Nx.mk 3 ?_ ?_ ?_ <;> (simp [hc]; done)) | (refine hN.out _ <| Nx.mk 4 ?_ ?_ ?_ <;> (simp [hc]; done)))
      | true =>
        clear hsg
        cases one <;> cases two <;> first | (exfalso; simp at hn; done) | (simp (disch := omega); (first | (refine hN.out _ <| Nx.mk 1 ?_ ?_ ?_ <;> (simp [hc]; done)) | (refine hN.out _ <| Nx.mk 2 ?_ ?_ ?_ <;> (simp [hc]; done)) | (refine hN.out _ <| Nx.mk 3 ?_ ?_ ?_ <;> (simp [hc]; done)) | (refine hN.out _ <| Nx.mk 4 ?_ ?_ ?_ <;> (simp [hc]; done))))
   · rcases (show k = 0 ∨ k = 1 ∨ k = 2 ∨ k = 3 by omega) with rfl | rfl | rfl | rfl
     all_goals
      simp [cel] at hc hf1 hf2 hah
      simp (disch := omega) [hc]
      refine qB hf1 rfl fun _ => ?_
      simp (disch := omega) [hc]
      refine qB hf2 rfl fun _ => ?_
      by_cases h1 : aheadS s' w
      · have hn := hah
        clear hah
        have h1' := h1
        rcases h1' with h2 | ⟨h2, h3⟩
        all_goals
         first
          | (have h4 : ¬s'.length < w.length := by omega
             have h5 : (s'.length : Int) = (w.length : Int) := by omega
             simp (disch := omega) [hc, h4, h5, h3])
          | simp (disch := omega) [hc, h2]
         refine qB hsg rfl fun _ => ?_
         cases sg with
         | false =>
           simp (disch := omega) [hc]
           (first | (refine hN.out _ <| Nx.mk 1 ?_ ?_ ?_ <;> (simp [hc]; done)) | (refine hN.out _ <| Nx.mk 2 ?_ ?_ ?_ <;> (simp [hc]; done)) | (refine hN.out _ <| Nx.mk 3 ?_ ?_ ?_ <;> (simp [hc]; done)) | (refine hN.out _ <| Nx.mk 4 ?_ ?_ ?_ <;> (simp [hc]; done)))
         | true =>
           cases one <;> cases two <;> first | (exfalso; simp [h1] at hn; done) | (simp (disch := omega) [hc]; (first | (refine hN.out _ <| Nx.mk 1 ?_ ?_ ?_ <;> (simp [hc]; done)) | (refine hN.out _ <| Nx.mk 2 ?_ ?_ ?_ <;> (simp [hc]; done)) | (refine hN.out _ <| Nx.mk 3 ?_ ?_ ?_ <;> (simp [hc]; done)) | (refine hN.out _ <| Nx.mk 4 ?_ ?_ ?_ <;> (simp [hc]; done))))
      · have h2 : ¬s'.length < w.length := fun h => h1 (.inl h)
        by_cases h3 : s'.length = w.length
        · have h4 : (s'.length : Int) = (w.length : Int) := by omega
          have h5 : Op.bytesLess s' w = false := by
           cases h : Op.bytesLess s' w with
           | false => rfl
           | true => exact absurd (.inr ⟨h3, h⟩) h1
          simp (disch := omega) [hc, h2, h4, h5]
          (first | (refine hN.out _ <| Nx.mk 1 ?_ ?_ ?_ <;> (simp [hc]; done)) | (refine hN.out _ <| Nx.mk 2 ?_ ?_ ?_ <;> (simp [hc]; done)) | (refine hN.out _ <| Nx.mk 3 ?_ ?_ ?_ <;> (simp [hc]; done)) | (refine hN.out _ <| Nx.mk 4 ?_ ?_ ?_ <;> (simp [hc]; done)))
        · have h4 : ¬(s'.length : Int) = (w.length : Int) := by omega
          simp (disch := omega) [hc, h2, h4]
          (first | (refine hN.out _ <| Nx.mk 1 ?_ ?_ ?_ <;> (simp [hc]; done)) | (refine hN.out _ <| Nx.mk 2 ?_ ?_ ?_ <;> (simp [hc]; done)) | (refine hN.out _ <| Nx.mk 3 ?_ ?_ ?_ <;> (simp [hc]; done)) | (refine hN.out _ <| Nx.mk 4 ?_ ?_ ?_ <;> (simp [hc]; done)))
 have : k = 4 := by omega
 subst this
 · cases hR : decide (c1 = []) with
   | true =>
     rw [hR] at hwi
     cases one with
     | true =>
       have : two = true := hwi rfl rfl
       subst this
       simp (disch := omega) [hR]
       refine qB w2 rfl fun _ => ?_
       simp (disch := omega)
       refine qB hlives rfl fun _ => ?_
       simp (disch := omega)
     | false =>
       simp (disch := omega) [hR]
       refine qB w2 rfl fun _ => ?_
       simp (disch := omega)
       refine qB hlives rfl fun _ => ?_
       simp (disch := omega)
   | false =>
     simp (disch := omega) [hR]
     refine qB w2 rfl fun _ => ?_
     simp (disch := omega)
     refine qB hlives rfl fun _ => ?_
     simp (disch := omega)
end Go.Abs
end
