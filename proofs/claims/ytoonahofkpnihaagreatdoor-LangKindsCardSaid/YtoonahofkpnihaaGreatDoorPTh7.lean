/-
  The states that words of one length reach; the shortest word that is taken. No condition.
  Values that a constraint allows, and its automaton's words; LangExamples' function answers true. No condition.
  Within of package lang; LangKinds' function answers true. No condition.
-/
import Derived.Test.YtoonahofkpnihaaGreatDoorPTh6
import Derived.Test.YtoonahofkpnihaaGreatDoorPF17
set_option linter.unusedVariables false
set_option linter.unusedSimpArgs false
set_option linter.unusedSectionVars false
section
namespace Go.Aut
def Rch (a : Aut) (p k t : Nat) : Prop := ∃ w : List Nat, w.length = k ∧ (∀ c ∈ w, c < 95) ∧ w.foldl a.δ p = t
theorem walk_lt {a : Aut} (ha : a.ok) : ∀ (w : List Nat) {p : Nat}, p < a.n → (∀ c ∈ w, c < 95) → w.foldl a.δ p < a.n
 | [], _, hp, _ => hp
 | c :: w, _, hp, h => walk_lt ha w (ha.lt hp (h c (by simp))) fun c hc => h c (by simp [hc])
theorem Rch.lt {a : Aut} (ha : a.ok) {p k t : Nat} (hp : p < a.n) (h : Rch a p k t) : t < a.n := by
 obtain ⟨w, _, h2, rfl⟩ := h
 exact walk_lt ha w hp h2
theorem Rch.zero {a : Aut} {p t : Nat} : Rch a p 0 t ↔ t = p := by
 constructor
 · rintro ⟨w, h1, _, rfl⟩
   have := List.eq_nil_of_length_eq_zero h1
   subst this; rfl
 · rintro rfl; exact ⟨[], rfl, by simp, rfl⟩
theorem Rch.succ {a : Aut} {p k t : Nat} : Rch a p (k + 1) t ↔ ∃ q c, Rch a p k q ∧ c < 95 ∧ a.δ q c = t := by
 constructor
 · rintro ⟨w, h1, h2, rfl⟩
   obtain ⟨u, d, rfl⟩ : ∃ u d, w = u ++ [d] := ⟨w.dropLast, w.getLast (by intro e; rw [e] at h1; simp at h1), (List.dropLast_concat_getLast _).symm⟩
   exact ⟨_, d, ⟨u, by simpa using h1, fun c hc => h2 c (by simp [hc]), rfl⟩, h2 d (by simp), by simp [List.foldl_append]⟩
 · rintro ⟨q, c, ⟨w, h1, h2, rfl⟩, hc, rfl⟩
   exact ⟨w ++ [c], by simp [h1], fun d hd => by
    simp only [List.mem_append, List.mem_singleton] at hd
    rcases hd with hd | rfl
    · exact h2 d hd
    · exact hc, by simp [List.foldl_append]⟩
def Lev (a : Aut) (p k : Nat) (S : List Bool) : Prop := S.length = a.n ∧ ∀ t, S[t]? = some true ↔ Rch a p k t
def LevP (a : Aut) (p k q c : Nat) (T : List Bool) : Prop := T.length = a.n ∧ ∀ t, T[t]? = some true ↔ ∃ q' c', (q' < q ∨ (q' = q ∧ c' < c)) ∧ c' < 95 ∧ Rch a p k q' ∧ a.δ q' c' = t
theorem rep_true {n t : Nat} : (List.replicate n false)[t]? = some true ↔ False := by
 rw [List.getElem?_replicate]; split <;> simp
theorem Lev.begin {a : Aut} {p : Nat} (hp : p < a.n) : Lev a p 0 ((List.replicate a.n false).set p true) := by
 refine ⟨by simp, fun t => ?_⟩
 rw [List.getElem?_set, Rch.zero]
 simp only [List.length_replicate]
 by_cases h : p = t
 · simp [h ▸ hp, h]
 · rw [if_neg h, rep_true]; simp only [false_iff]; omega
theorem LevP.begin {a : Aut} {p k : Nat} : LevP a p k 0 0 (List.replicate a.n false) := by
 refine ⟨by simp, fun t => ?_⟩
 rw [rep_true]
 simp only [false_iff]
 rintro ⟨q', c', h, _⟩
 omega
theorem LevP.put {a : Aut} (ha : a.ok) {p k q c : Nat} {T : List Bool} (h : LevP a p k q c T) (hq : Rch a p k q) (hqn : q < a.n) (hc : c < 95) : LevP a p k q (c + 1) (T.set (a.δ q c) true) := by
 have hlt := ha.lt hqn hc
 refine ⟨by simp [h.1], fun t => ?_⟩
 rw [List.getElem?_set, h.1]
 by_cases e : a.δ q c = t
 · simp only [e, if_true, e ▸ hlt, true_iff]
   exact ⟨q, c, .inr ⟨rfl, by omega⟩, hc, hq, e⟩
 · rw [if_neg e, h.2]
   constructor
   · rintro ⟨q', c', h1, h2⟩
     exact ⟨q', c', by omega, h2⟩
   · rintro ⟨q', c', h1, h2, h3, h4⟩
     refine ⟨q', c', ?_, h2, h3, h4⟩
     rcases h1 with h1 | ⟨rfl, h1⟩
     · exact .inl h1
     · refine .inr ⟨rfl, ?_⟩
       rcases Nat.lt_or_ge c' c with g | g
       · exact g
       · have : c' = c := by omega
         subst this
         exact absurd h4 e
theorem LevP.next {a : Aut} {p k q : Nat} {T : List Bool} (h : LevP a p k q 95 T) : LevP a p k (q + 1) 0 T := by
 refine ⟨h.1, fun t => ?_⟩
 rw [h.2]
 constructor
 · rintro ⟨q', c', h1, h2⟩
   exact ⟨q', c', by omega, h2⟩
 · rintro ⟨q', c', h1, h2, h3⟩
   exact ⟨q', c', by omega, h2, h3⟩
theorem LevP.skip {a : Aut} {p k q c : Nat} {T : List Bool} (h : LevP a p k q c T) (hq : ¬Rch a p k q) : LevP a p k (q + 1) 0 T := by
 refine ⟨h.1, fun t => ?_⟩
 rw [h.2]
 constructor
 · rintro ⟨q', c', h1, h2, h3, h4⟩
   refine ⟨q', c', .inl ?_, h2, h3, h4⟩
   rcases h1 with h1 | ⟨rfl, _⟩
   · omega
   · exact absurd h3 hq
 · rintro ⟨q', c', h1, h2, h3, h4⟩
   refine ⟨q', c', ?_, h2, h3, h4⟩
   rcases Nat.lt_or_ge q' q with g | g
   · exact .inl g
   · have : q' = q := by omega
     subst this
     exact absurd h3 hq
theorem LevP.full {a : Aut} (ha : a.ok) {p k : Nat} (hp : p < a.n) {T : List Bool} (h : LevP a p k a.n 0 T) : Lev a p (k + 1) T := by
 refine ⟨h.1, fun t => ?_⟩
 rw [h.2, Rch.succ]
 constructor
 · rintro ⟨q', c', _, h2, h3, h4⟩
   exact ⟨q', c', h3, h2, h4⟩
 · rintro ⟨q, c, h1, h2, h3⟩
   exact ⟨q, c, .inl (h1.lt ha hp), h2, h1, h3⟩
theorem short {a : Aut} (ha : a.ok) {p : Nat} (hp : p < a.n) : ∀ (m : Nat) (w : List Nat), w.length ≤ m → (∀ c ∈ w, c < 95) → ∃ v : List Nat, v.length < a.n ∧ v.length ≤ w.length ∧ (∀ c ∈ v, c < 95) ∧ v.foldl a.δ p = w.foldl a.δ p
 | m, w, hm, hw => by
   rcases Nat.lt_or_ge w.length a.n with h | h
   · exact ⟨w, h, Nat.le_refl _, hw, rfl⟩
   · obtain ⟨P, hP⟩ : ∃ P, P = (List.range (w.length + 1)).map fun k => (w.take k).foldl a.δ p := ⟨_, rfl⟩
     have hPl : P.length = w.length + 1 := by simp [hP]
     have hPg : ∀ k, k < w.length + 1 → P[k]? = some ((w.take k).foldl a.δ p) := fun k hk => by rw [hP, List.getElem?_map, List.getElem?_range hk]; rfl
     have hnd : ¬P.Nodup := fun hnd => by
      have := nodup_le a.n P hnd fun x hx => by
       rw [hP, List.mem_map] at hx
       obtain ⟨k, _, rfl⟩ := hx
       exact walk_lt ha _ hp fun c hc => hw c (List.mem_of_mem_take hc)
      omega
     have hex : ∃ i j, i < j ∧ j < w.length + 1 ∧ (w.take i).foldl a.δ p = (w.take j).foldl a.δ p := by
      apply Classical.byContradiction
      intro hno
      apply hnd
      rw [List.nodup_iff_pairwise_ne, List.pairwise_iff_getElem]
      intro i j hi hj hij e
      refine hno ⟨i, j, hij, by omega, ?_⟩
      have h1 := hPg i (by omega)
      have h2 := hPg j (by omega)
      rw [List.getElem?_eq_getElem hi] at h1
      rw [List.getElem?_eq_getElem hj] at h2
      simp only [Option.some.injEq] at h1 h2
      rw [← h1, ← h2, e]
     obtain ⟨i, j, hij, hj, e⟩ := hex
     have hlen : (w.take i ++ w.drop j).length < w.length := by simp; omega
     cases m with
     | zero => omega
     | succ m =>
       obtain ⟨v, h1, h2, h3, h4⟩ := short ha hp m (w.take i ++ w.drop j) (by omega) fun c hc => by
        rcases List.mem_append.1 hc with hc | hc
        · exact hw c (List.mem_of_mem_take hc)
        · exact hw c (List.mem_of_mem_drop hc)
       refine ⟨v, h1, by omega, h3, ?_⟩
       rw [h4, List.foldl_append, e, ← List.foldl_append, List.take_append_drop]
theorem IsLeast.short {a : Aut} (ha : a.ok) {w : List Nat} (h : IsLeast a.δ 0 a.F (some w)) : w.length < a.n := by
 obtain ⟨v, h1, _, h3, h4⟩ := Go.Aut.short ha ha.pos _ w (Nat.le_refl _) h.1
 have := h.2.2 v h3 (by rw [h4]; exact h.2.1)
 apply Classical.byContradiction
 intro hc
 exact this (.inl (by omega))
theorem lexW_at : ∀ (w : List Nat) (i j c : Nat) (u : List Nat), w[i]? = some c → j < c → u.length + i + 1 = w.length → lexW (w.take i ++ j :: u) w
 | [], i, j, c, u, h, _, _ => by simp at h
 | b :: w, 0, j, c, u, h, hj, hl => by
   simp at h
   subst h
   exact .inl hj
 | b :: w, i + 1, j, c, u, h, hj, hl => by
   simp only [List.length_cons] at hl
   exact .inr ⟨rfl, lexW_at w i j c u (by simpa using h) hj (by omega)⟩
theorem IsLeast.first {a : Aut} {w : List Nat} (h : IsLeast a.δ 0 a.F (some w)) {i j c t : Nat} (hi : w[i]? = some c) (hj : j < c) (ht : Rch a (a.δ ((w.take i).foldl a.δ 0) j) (w.length - i - 1) t) : a.F t = false := by
 have hil := (List.getElem?_eq_some_iff.1 hi).1
 obtain ⟨u, h1, h2, rfl⟩ := ht
 cases hF : a.F (u.foldl a.δ (a.δ ((w.take i).foldl a.δ 0) j)) with
 | false => rfl
 | true =>
   have hc := h.1 c (List.mem_of_getElem? hi)
   have h95 : ∀ d ∈ w.take i ++ j :: u, d < 95 := fun d hd => by
    simp only [List.mem_append, List.mem_cons] at hd
    rcases hd with hd | rfl | hd
    · exact h.1 d (List.mem_of_mem_take hd)
    · omega
    · exact h2 d hd
   exact absurd (.inr ⟨by simp; omega, lexW_at w i j c u hi hj (by omega)⟩) (h.2.2 (w.take i ++ j :: u) h95 (by rw [List.foldl_append]; exact hF))
end Go.Aut
end
section
set_option maxHeartbeats 1000000
set_option maxRecDepth 100000
namespace Go.Abs
open Go.Proofs Go.Aut
attribute [-simp] getElem?_pos Option.not_isSome List.map_map
theorem sgn_of {c : Nat} (h : c < 95) : sgn (UInt8.ofNat (32 + c)) = true ∧ (UInt8.ofNat (32 + c)).toNat = 32 + c := by
 have : (UInt8.ofNat (32 + c)).toNat = 32 + c := by rw [UInt8.toNat_ofNat']; omega
 refine ⟨?_, this⟩
 simp only [sgn, this, Bool.and_eq_true, decide_eq_true_eq]
 omega
theorem acc_wordS {a : Aut} : ∀ (w : List Nat) (q : Nat), (∀ c ∈ w, c < 95) → accS a q (wordS w) = a.F (w.foldl a.δ q)
 | [], q, _ => rfl
 | c :: w, q, h => by
   obtain ⟨h1, h2⟩ := sgn_of (h c (by simp))
   have e : 32 + c - 32 = c := by omega
   simp only [wordS, List.map_cons, accS, h1, if_true, h2, e, List.foldl_cons]
   exact acc_wordS w _ fun c hc => h c (by simp [hc])
theorem acc_word {a : Aut} : ∀ (s : Str) (q : Nat), accS a q s = true → ∃ v : List Nat, (∀ c ∈ v, c < 95) ∧ s = wordS v ∧ a.F (v.foldl a.δ q) = true
 | [], q, h => ⟨[], by simp, rfl, h⟩
 | b :: s, q, h => by
   simp only [accS] at h
   split at h
   · rename_i hs
     simp only [sgn, Bool.and_eq_true, decide_eq_true_eq] at hs
     obtain ⟨v, h1, h2, h3⟩ := acc_word s _ h
     refine ⟨(b.toNat - 32) :: v, fun c hc => ?_, ?_, by simpa using h3⟩
     · rcases List.mem_cons.1 hc with rfl | hc
       · omega
       · exact h1 c hc
     · have : 32 + (b.toNat - 32) = b.toNat := by omega
       simp only [wordS, List.map_cons, this, UInt8.ofNat_toNat]
       rw [h2]; rfl
   · cases h
theorem wordS_less : ∀ (u v : List Nat), (∀ c ∈ u, c < 95) → (∀ c ∈ v, c < 95) → u.length = v.length → Op.bytesLess (wordS u) (wordS v) = true → lexW u v
 | [], [], _, _, _, h => by simp [wordS, Op.bytesLess] at h
 | [], _ :: _, _, _, hl, _ => by simp at hl
 | _ :: _, [], _, _, hl, _ => by simp at hl
 | a :: u, b :: v, hu, hv, hl, h => by
   have ha := hu a (by simp)
   have hb := hv b (by simp)
   have h1 := (sgn_of ha).2
   have h2 := (sgn_of hb).2
   simp only [wordS, List.map_cons, Op.bytesLess, Bool.or_eq_true, Bool.and_eq_true, decide_eq_true_eq, beq_iff_eq, UInt8.lt_iff_toNat_lt, h1, h2] at h
   rcases h with h | ⟨h, h3⟩
   · exact .inl (by omega)
   · have : a = b := by
      have := congrArg UInt8.toNat h
      rw [h1, h2] at this; omega
     exact .inr ⟨this, wordS_less u v (fun c hc => hu c (by simp [hc])) (fun c hc => hv c (by simp [hc])) (by simpa using hl) h3⟩
/-! ### Words and texts -/
theorem sgnS_wordS {w : List Nat} (h : ∀ c ∈ w, c < 95) : sgnS (wordS w) := fun b hb => by
 simp only [wordS, List.mem_map] at hb
 obtain ⟨c, hc, rfl⟩ := hb
 rw [(sgn_of (h c hc)).2]
 have := h c hc
 omega
theorem sw_wordS : ∀ {w : List Nat}, (∀ c ∈ w, c < 95) → sw (wordS w) = w
 | [], _ => rfl
 | c :: w, h => by
   have h1 := (sgn_of (h c (by simp))).2
   have ih := sw_wordS (w := w) fun c hc => h c (by simp [hc])
   simp only [sw, wordS, List.map_cons, List.cons.injEq] at ih ⊢
   exact ⟨by rw [h1]; omega, by simpa [List.map_map] using ih⟩
theorem wordS_sw : ∀ {s : Str}, sgnS s → wordS (sw s) = s
 | [], _ => rfl
 | b :: s, h => by
   have hb := h b (by simp)
   have ih := wordS_sw (s := s) fun c hc => h c (by simp [hc])
   have e : UInt8.ofNat (32 + (b.toNat - 32)) = b := by rw [show 32 + (b.toNat - 32) = b.toNat by omega, UInt8.ofNat_toNat]
   simp only [sw, wordS, List.map_cons, List.cons.injEq] at ih ⊢
   exact ⟨e, by simpa [List.map_map] using ih⟩
theorem L_fold {a : Aut} : ∀ (w : List Nat) (q : Nat), (∀ c ∈ w, c < 95) → a.L q w = a.F (w.foldl a.δ q)
 | [], q, _ => rfl
 | c :: w, q, h => by
   have ih := L_fold (a := a) w (a.δ q c) fun c hc => h c (by simp [hc])
   simp only [Aut.L, langL, lang, if_pos (h c (by simp)), List.foldl_cons] at ih ⊢
   exact ih
theorem GoodC.kind {c : F.Constraint} {x : Rx} (h : GoodC c x) : (1 ≤ c.kind ∧ c.kind ≤ 4) ∧ (c.kind = 4 → F.rxB c.regex = true) := by
 cases h with
 | any => exact ⟨by simp, by simp⟩
 | enum _ _ _ => exact ⟨by simp, by simp⟩
 | scheme _ _ => exact ⟨by simp, by simp⟩
 | mat h1 h2 => exact ⟨by simp, fun _ => List.all_eq_true.1 F.pool_ok _ h2⟩
theorem f_allows {c : F.Constraint} {x : Rx} (h : GoodC c x) (v : Str) (hv : v.length ≤ 999999) : Fn Tryz.prog n_ref12_Allows [c.v, .str v] (.bool (F.allows12 c v)) := F.f_ref12_Allows c v h.kind.1 h.kind.2 hv
theorem AutOf.acc {c : F.Constraint} {x : Rx} {b : Aut} (h : GoodC c x) (hb : AutOf x b) (s : Str) : F.allows12 c s = true ↔ sgnS s ∧ b.F ((sw s).foldl b.δ 0) = true := by
 rw [allows12_iff h]
 refine and_congr_right fun hs => ?_
 obtain ⟨_, _, _, _, _, _, _, hL⟩ := hb
 rw [← hL _ (sw_lt hs), L_fold _ _ (sw_lt hs)]
theorem AutOf.ok {x : Rx} {b : Aut} (hb : AutOf x b) : b.ok ∧ b.n ≤ 500 := by
 obtain ⟨_, _, _, _, _, hok, hn, _⟩ := hb
 exact ⟨hok, hn⟩
theorem cut12_regex (c : F.Constraint) : (cut12 c).regex.length ≤ 1125899906842624 := by simp [cut12]; omega
/-! ### LangExamples -/
end Go.Abs
end
section
set_option maxHeartbeats 1000000
set_option maxRecDepth 100000
namespace Go.Abs
open Go.Proofs Go.Aut
attribute [-simp] getElem?_pos Option.not_isSome List.map_map
theorem bool_iff {x y : Bool} (h : x = true ↔ y = true) : x = y := by
 cases x <;> cases y <;> simp_all
def WithinC (c d : F.Constraint) : Prop := ∀ s : Str, F.allows12 c s = true → F.allows12 d s = true
theorem pair_of {a b : Aut} (ha : a.ok) (hb : b.ok) (op : Bool → Bool → Bool) : ∃ r, leastGo (stepP2 a b) (goodP2 a b op) (a.n * b.n + 1) 0 [(0, 0)] [[]] = some r ∧ IsLeast (stepP2 a b) (0, 0) (goodP2 a b op) r := by
 have hD : ∀ (q : Nat × Nat) (c : Nat), (q.1 < a.n ∧ q.2 < b.n) → c < 95 → ((stepP2 a b q c).1 < a.n ∧ (stepP2 a b q c).2 < b.n) := fun q c hq hc => ⟨ha.lt hq.1 hc, hb.lt hq.2 hc⟩
 have h0 : LInv (stepP2 a b) (0, 0) (fun q => q.1 < a.n ∧ q.2 < b.n) 0 0 [(0, 0)] [[]] := LInv.begin ⟨ha.pos, hb.pos⟩
 obtain ⟨r, hr⟩ := leastGo_ends hD (fun l h1 h2 => nodup_pairs h2 h1) (good := goodP2 a b op) (a.n * b.n + 1) 0 [(0, 0)] [[]] h0 (by simp) (by omega)
 exact ⟨r, hr, leastGo_spec hD _ _ _ _ r h0 (by simp) (fun k hk => by omega) hr⟩
theorem f_lang_Within {c d : F.Constraint} {x y : Rx} (hc : GoodC c x) (hd : GoodC d y) (R : Bool) (hR : R = true ↔ WithinC c d) : Fn Tryz.prog n_lang_Within [c.v, d.v] (.bool R) := by
 obtain ⟨a, ha⟩ := hc.aut
 obtain ⟨b, hb⟩ := hd.aut
 obtain ⟨r, hr, hI⟩ := pair_of ha.ok.1 hb.ok.1 fun x y => x && !y
 have e : r.isNone = R := bool_iff (by
  rw [hR, none_iff hI]
  constructor
  · intro h s hs
    obtain ⟨h1, h2⟩ := (AutOf.acc hc ha s).1 hs
    refine (AutOf.acc hd hb s).2 ⟨h1, ?_⟩
    have := h (sw s) (sw_lt h1)
    rw [run_pair, goodP2, h2] at this
    simpa using this
  · intro h w hw
    rw [run_pair, goodP2]
    cases hA : a.F (w.foldl a.δ 0) with
    | false => rfl
    | true =>
      have := (AutOf.acc hd hb _).1 (h (wordS w) ((AutOf.acc hc ha _).2 ⟨sgnS_wordS hw, by rw [sw_wordS hw]; exact hA⟩))
      rw [sw_wordS hw] at this
      simp [this.2])
 have k1 := f_lang_Auto hc ha
 have k2 := f_lang_Auto hd hb
 have k3 := f_dfa_Within ha.ok.1 hb.ok.1 ha.ok.2 hb.ok.2 r hr
 rw [e] at k3
 obtain ⟨A, hA⟩ : ∃ A, A = Aut.c a := ⟨_, rfl⟩
 obtain ⟨B, hB⟩ : ∃ B, B = Aut.c b := ⟨_, rfl⟩
 have hAp : ∀ h, purs h A = some A := fun h => by rw [hA]; simp [purs, pur, Aut.c]
 have hAl : A.length = 2 := by rw [hA]; rfl
 have hBp : ∀ h, purs h B = some B := fun h => by rw [hB]; simp [purs, pur, Aut.c]
 have hBl : B.length = 2 := by rw [hB]; rfl
 rw [← hA] at k1 k3
 rw [← hB] at k2 k3
 clear hA hB hr hI e hR ha hb hc hd
 refine Fn.of_image mixed h_lang_Within i_lang_Within rfl fun ho => ?_
 unfold c_lang_Within
 simp only [oks, ok, and_true] at ho
 obtain ⟨kd, ws, rx⟩ := c
 obtain ⟨kd2, ws2, rx2⟩ := d
 clear ho
 simp at k1 k2
 simp (disch := omega) [-List.reduceReplicate]
 refine wcallD_pure k1 (by simp [hAp]) ?_
 simp (disch := omega) [-List.reduceReplicate, hAp, hAl]
 refine wcallD_pure k2 (by simp [hBp]) ?_
 simp (disch := omega) [-List.reduceReplicate, hAp, hAl, hBp, hBl]
 refine wcallD_flat k3 rfl ?_
 simp (disch := omega) [-List.reduceReplicate]
abbrev wholeC : F.Constraint := ⟨1, [], []⟩
theorem allows_whole {s : Str} : F.allows12 wholeC s = true ↔ sgnS s := by
 have h := allows12_iff GoodC.any s
 rw [den_rx7] at h
 rw [h]
 exact ⟨fun h => h.1, fun h => ⟨h, sw_lt h⟩⟩
theorem within_whole {c : F.Constraint} {x : Rx} (h : GoodC c x) : WithinC c wholeC := fun s hs => allows_whole.2 ((allows12_iff h s).1 hs).1
theorem allows_enum {ws : List Str} {x : Rx} (h : GoodC ⟨2, ws, []⟩ x) (s : Str) : F.allows12 ⟨2, ws, []⟩ s = true ↔ s ∈ ws := by
 cases h with
 | enum h1 h2 h3 =>
   simp only [F.allows12, show ¬((2 : Int) = 1) by omega, show ¬((2 : Int) = 3) by omega, show ¬((2 : Int) = 4) by omega, decide_false, decide_true, Bool.false_or, Bool.true_and, Bool.false_and, Bool.or_false, Bool.and_eq_true, hasS_iff, all_sign]
   exact ⟨fun h => h.2, fun h => ⟨(words_enum h2 s h).1, h⟩⟩
theorem whole_not {ws : List Str} {x : Rx} (h : GoodC ⟨2, ws, []⟩ x) : ¬WithinC wholeC ⟨2, ws, []⟩ := fun hw => by
 have h1 := (allows_enum h _).1 (hw (List.replicate 41 97) (allows_whole.2 fun c hc => by rw [(List.mem_replicate.1 hc).2]; decide))
 cases h with
 | enum _ h2 h3 =>
   have := (words_enum h2 _ h1).2
   simp at this
theorem GoodC.two {c : F.Constraint} {x : Rx} (h : GoodC c x) (hk : c.kind = 2) : ∃ ws, c = ⟨2, ws, []⟩ ∧ (∀ w ∈ ws, w.length ≤ 40) ∧ ws.length ≤ 4 := by
 cases h with
 | any => simp at hk
 | enum h1 h2 h3 => exact ⟨_, rfl, fun w hw => (words_enum h2 w hw).2, h3⟩
 | scheme _ _ => simp at hk
 | mat _ _ => simp at hk
theorem f_law12_LangKinds (c d : F.Constraint) : FnE Tryz.prog n_law12_LangKinds [c.v, d.v] (.bool true) := by
 refine FnE.of_image mixed h_law12_LangKinds i_law12_LangKinds rfl fun ho => ?_
 unfold c_law12_LangKinds
 clear ho
 have hcut := f_law12_cut c
 have hgood := F.f_ref12_Good (cut12 c) (cut12_regex c)
 have hcut2 := f_law12_cut d
 have hgood2 := F.f_ref12_Good (cut12 d) (cut12_regex d)
 obtain ⟨x, hx⟩ := good12_good (cut12 c)
 obtain ⟨y, hy⟩ := good12_good (cut12 d)
 obtain ⟨k, hk⟩ : ∃ k, k = cut12 c := ⟨_, rfl⟩
 obtain ⟨k2, hk2⟩ : ∃ k, k = cut12 d := ⟨_, rfl⟩
 rw [← hk] at hgood hcut hx
 rw [← hk2] at hgood2 hcut2 hy
 obtain ⟨g, hg⟩ : ∃ g, g = F.good12 k := ⟨_, rfl⟩
 obtain ⟨g2, hg2⟩ : ∃ g, g = F.good12 k2 := ⟨_, rfl⟩
 rw [← hg] at hgood hx
 rw [← hg2] at hgood2 hy
 clear hg hg2 hk hk2
 have hlives := f_law12_lives
 have w1 := f_lang_Within hx (.any) true (by simpa using within_whole hx)
 obtain ⟨kc, wc, rc⟩ := c
 obtain ⟨kd, wd, rd⟩ := d
 obtain ⟨k1, wk1, rk1⟩ := k
 obtain ⟨k2, wk2, rk2⟩ := k2
 simp at hcut hgood hcut2 hgood2
 simp (disch := omega) [-List.reduceReplicate]
 refine wcall_pure hcut (by simp) fun _ => ?_
 simp (disch := omega) [-List.reduceReplicate]
 refine wcall_pure hgood (by simp) fun _ => ?_
 by_cases hkd : g.kind = 2
 · obtain ⟨ws, rfl, hwl, hwn⟩ := hx.two hkd
   obtain ⟨R, hR⟩ : ∃ R, R = ws.all fun w => F.allows12 g2 w := ⟨_, rfl⟩
   have w2 := f_lang_Within hx hy R (by
    rw [hR, List.all_eq_true]
    exact ⟨fun h s hs => h s ((allows_enum hx s).1 hs), fun h w hw => h w ((allows_enum hx w).2 hw)⟩)
   have w3 := f_lang_Within (.any) hx false (by simpa using fun h => whole_not hx h)
   have hal := fun (v : Str) (hv : v.length ≤ 999999) => f_allows hy v hv
   clear hx hy
   obtain ⟨k3, wk3, rk3⟩ := g2
   simp at w1 w2 w3 hal
   simp (disch := omega) [-List.reduceReplicate]
   refine wcall_pure hcut2 (by simp) fun _ => ?_
   simp (disch := omega) [-List.reduceReplicate]
   refine wcall_pure hgood2 (by simp) fun _ => ?_
   simp (disch := omega) [-List.reduceReplicate]
   refine wcall_flat w1 rfl fun _ => ?_
   simp (disch := omega) [-List.reduceReplicate]
   refine W_loop (fun (p : Nat × Bool) => ⟨[(5, .ptr 0 0), (6, .ptr 1 0), (7, .ptr 2 0), (8, .bool p.2), (9, nV p.1)], [some (.box [.int .i64 2, .seq 1 (ws.map .str), .str []]), some (.box [.int .i64 k3, .seq 1 (wk3.map .str), .str rk3]), some (.box [.int .i64 1, .nil 1, .str []])]⟩)
    (fun p => p.1 ≤ ws.length ∧ (p.2 && (ws.drop p.1).all fun w => F.allows12 ⟨k3, wk3, rk3⟩ w) = R) (fun p => ws.length - p.1) [] _ (0, true) rfl (by simp) (by simp [hR]) ?_
   rintro ⟨i, al⟩ ⟨hi, hR2⟩ N hN
   simp only at hi hR2
   rcases place ws i hi with ⟨he, hd⟩ | ⟨hlt, w, hw, hd⟩ <;> rw [hd] at hR2
   · simp only [List.all_nil, Bool.and_true] at hR2
     subst hR2
     clear hN hR
     cases al with
     | true =>
       simp (disch := omega) [-List.reduceReplicate, he]
       refine wcall_flat w2 rfl fun _ => ?_
       simp (disch := omega) [-List.reduceReplicate]
       refine wcall_flat w3 rfl fun _ => ?_
       simp (disch := omega) [-List.reduceReplicate]
       refine wcall_flat hlives rfl fun _ => ?_
       simp (disch := omega) [-List.reduceReplicate]
     | false =>
       simp (disch := omega) [-List.reduceReplicate, he]
       refine wcall_flat w2 rfl fun _ => ?_
       simp (disch := omega) [-List.reduceReplicate]
       refine wcall_flat w3 rfl fun _ => ?_
       simp (disch := omega) [-List.reduceReplicate]
       refine wcall_flat hlives rfl fun _ => ?_
       simp (disch := omega) [-List.reduceReplicate]
   · have hwl2 := hwl w (List.mem_of_getElem? hw)
     have ha := hal w (by omega)
     replace hR2 := hid hR2
     simp (disch := omega) [-List.reduceReplicate, hw]
     refine wcallD_flat ha rfl ?_
     cases al with
     | true =>
       simp (disch := omega) [-List.reduceReplicate]
       exact hN.out _ <| Nx.mk (i + 1, F.allows12 ⟨k3, wk3, rk3⟩ w) (by simp) ⟨by simp only; omega, by simpa using hR2.out⟩ (by simp only; omega)
     | false =>
       simp (disch := omega) [-List.reduceReplicate]
       exact hN.out _ <| Nx.mk (i + 1, false) (by simp) ⟨by simp only; omega, by simpa using hR2.out⟩ (by simp only; omega)
 · clear hx hy
   obtain ⟨g1, gw, gr⟩ := g
   simp only at hkd
   simp at w1
   simp (disch := omega) [-List.reduceReplicate]
   refine wcall_pure hcut2 (by simp) fun _ => ?_
   simp (disch := omega) [-List.reduceReplicate]
   refine wcall_pure hgood2 (by simp) fun _ => ?_
   simp (disch := omega) [-List.reduceReplicate]
   refine wcall_flat w1 rfl fun _ => ?_
   simp (disch := omega) [-List.reduceReplicate, hkd]
   refine wcall_flat hlives rfl fun _ => ?_
   simp (disch := omega) [-List.reduceReplicate]
end Go.Abs
end
