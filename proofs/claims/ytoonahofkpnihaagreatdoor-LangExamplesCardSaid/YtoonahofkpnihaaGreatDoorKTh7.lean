/-
  The states that words of one length reach; the shortest word that is taken. No condition.
  Values that a constraint allows, and its automaton's words; LangExamples' function answers true. No condition.
-/
import Derived.Test.YtoonahofkpnihaaGreatDoorKTh6
import Derived.Test.YtoonahofkpnihaaGreatDoorKF17
set_option linter.unusedVariables false
set_option linter.unusedSimpArgs false
set_option linter.unusedSectionVars false
section
namespace Go.Aut
def Rch (a : Aut) (p k t : Nat) : Prop := ∃ w : List Nat, w.length = k ∧ (∀ c ∈ w, c < 95) ∧ w.foldl a.δ p = t
theorem walk_lt {a : Aut} (ha : a.ok) : ∀ (w : List Nat) {p : Nat}, p < a.n → (∀ c ∈ w, c < 95) → w.foldl a.δ p < a.n
 | [], _, hp, _ => hp
 | c :: w, _, hp, h => walk_lt ha w (ha.lt hp (h c (by simp))) fun c hc => h c (by simp [hc])
theorem Rch.lt {a : Aut} (ha : a.ok) {p k t : Nat} (hp : p < a.n) (h : Rch a p k t) : t < a.n := by
 obtain ⟨w, _, h2, rfl⟩ := h
 exact walk_lt ha w hp h2
theorem Rch.zero {a : Aut} {p t : Nat} : Rch a p 0 t ↔ t = p := by
 constructor
 · rintro ⟨w, h1, _, rfl⟩
   have := List.eq_nil_of_length_eq_zero h1
   subst this; rfl
 · rintro rfl; exact ⟨[], rfl, by simp, rfl⟩
theorem Rch.succ {a : Aut} {p k t : Nat} : Rch a p (k + 1) t ↔ ∃ q c, Rch a p k q ∧ c < 95 ∧ a.δ q c = t := by
 constructor
 · rintro ⟨w, h1, h2, rfl⟩
   obtain ⟨u, d, rfl⟩ : ∃ u d, w = u ++ [d] := ⟨w.dropLast, w.getLast (by intro e; rw [e] at h1; simp at h1), (List.dropLast_concat_getLast _).symm⟩
   exact ⟨_, d, ⟨u, by simpa using h1, fun c hc => h2 c (by simp [hc]), rfl⟩, h2 d (by simp), by simp [List.foldl_append]⟩
 · rintro ⟨q, c, ⟨w, h1, h2, rfl⟩, hc, rfl⟩
   exact ⟨w ++ [c], by simp [h1], fun d hd => by
    simp only [List.mem_append, List.mem_singleton] at hd
    rcases hd with hd | rfl
    · exact h2 d hd
    · exact hc, by simp [List.foldl_append]⟩
def Lev (a : Aut) (p k : Nat) (S : List Bool) : Prop := S.length = a.n ∧ ∀ t, S[t]? = some true ↔ Rch a p k t
def LevP (a : Aut) (p k q c : Nat) (T : List Bool) : Prop := T.length = a.n ∧ ∀ t, T[t]? = some true ↔ ∃ q' c', (q' < q ∨ (q' = q ∧ c' < c)) ∧ c' < 95 ∧ Rch a p k q' ∧ a.δ q' c' = t
theorem rep_true {n t : Nat} : (List.replicate n false)[t]? = some true ↔ False := by
 rw [List.getElem?_replicate]; split <;> simp
theorem Lev.begin {a : Aut} {p : Nat} (hp : p < a.n) : Lev a p 0 ((List.replicate a.n false).set p true) := by
 refine ⟨by simp, fun t => ?_⟩
 rw [List.getElem?_set, Rch.zero]
 simp only [List.length_replicate]
 by_cases h : p = t
 · simp [h ▸ hp, h]
 · rw [if_neg h, rep_true]; simp only [false_iff]; omega
theorem LevP.begin {a : Aut} {p k : Nat} : LevP a p k 0 0 (List.replicate a.n false) := by
 refine ⟨by simp, fun t => ?_⟩
 rw [rep_true]
 simp only [false_iff]
 rintro ⟨q', c', h, _⟩
 omega
theorem LevP.put {a : Aut} (ha : a.ok) {p k q c : Nat} {T : List Bool} (h : LevP a p k q c T) (hq : Rch a p k q) (hqn : q < a.n) (hc : c < 95) : LevP a p k q (c + 1) (T.set (a.δ q c) true) := by
 have hlt := ha.lt hqn hc
 refine ⟨by simp [h.1], fun t => ?_⟩
 rw [List.getElem?_set, h.1]
 by_cases e : a.δ q c = t
 · simp only [e, if_true, e ▸ hlt, true_iff]
   exact ⟨q, c, .inr ⟨rfl, by omega⟩, hc, hq, e⟩
 · rw [if_neg e, h.2]
   constructor
   · rintro ⟨q', c', h1, h2⟩
     exact ⟨q', c', by omega, h2⟩
   · rintro ⟨q', c', h1, h2, h3, h4⟩
     refine ⟨q', c', ?_, h2, h3, h4⟩
     rcases h1 with h1 | ⟨rfl, h1⟩
     · exact .inl h1
     · refine .inr ⟨rfl, ?_⟩
       rcases Nat.lt_or_ge c' c with g | g
       · exact g
       · have : c' = c := by omega
         subst this
         exact absurd h4 e
theorem LevP.next {a : Aut} {p k q : Nat} {T : List Bool} (h : LevP a p k q 95 T) : LevP a p k (q + 1) 0 T := by
 refine ⟨h.1, fun t => ?_⟩
 rw [h.2]
 constructor
 · rintro ⟨q', c', h1, h2⟩
   exact ⟨q', c', by omega, h2⟩
 · rintro ⟨q', c', h1, h2, h3⟩
   exact ⟨q', c', by omega, h2, h3⟩
theorem LevP.skip {a : Aut} {p k q c : Nat} {T : List Bool} (h : LevP a p k q c T) (hq : ¬Rch a p k q) : LevP a p k (q + 1) 0 T := by
 refine ⟨h.1, fun t => ?_⟩
 rw [h.2]
 constructor
 · rintro ⟨q', c', h1, h2, h3, h4⟩
   refine ⟨q', c', .inl ?_, h2, h3, h4⟩
   rcases h1 with h1 | ⟨rfl, _⟩
   · omega
   · exact absurd h3 hq
 · rintro ⟨q', c', h1, h2, h3, h4⟩
   refine ⟨q', c', ?_, h2, h3, h4⟩
   rcases Nat.lt_or_ge q' q with g | g
   · exact .inl g
   · have : q' = q := by omega
     subst this
     exact absurd h3 hq
theorem LevP.full {a : Aut} (ha : a.ok) {p k : Nat} (hp : p < a.n) {T : List Bool} (h : LevP a p k a.n 0 T) : Lev a p (k + 1) T := by
 refine ⟨h.1, fun t => ?_⟩
 rw [h.2, Rch.succ]
 constructor
 · rintro ⟨q', c', _, h2, h3, h4⟩
   exact ⟨q', c', h3, h2, h4⟩
 · rintro ⟨q, c, h1, h2, h3⟩
   exact ⟨q, c, .inl (h1.lt ha hp), h2, h1, h3⟩
theorem short {a : Aut} (ha : a.ok) {p : Nat} (hp : p < a.n) : ∀ (m : Nat) (w : List Nat), w.length ≤ m → (∀ c ∈ w, c < 95) → ∃ v : List Nat, v.length < a.n ∧ v.length ≤ w.length ∧ (∀ c ∈ v, c < 95) ∧ v.foldl a.δ p = w.foldl a.δ p
 | m, w, hm, hw => by
   rcases Nat.lt_or_ge w.length a.n with h | h
   · exact ⟨w, h, Nat.le_refl _, hw, rfl⟩
   · obtain ⟨P, hP⟩ : ∃ P, P = (List.range (w.length + 1)).map fun k => (w.take k).foldl a.δ p := ⟨_, rfl⟩
     have hPl : P.length = w.length + 1 := by simp [hP]
     have hPg : ∀ k, k < w.length + 1 → P[k]? = some ((w.take k).foldl a.δ p) := fun k hk => by rw [hP, List.getElem?_map, List.getElem?_range hk]; rfl
     have hnd : ¬P.Nodup := fun hnd => by
      have := nodup_le a.n P hnd fun x hx => by
       rw [hP, List.mem_map] at hx
       obtain ⟨k, _, rfl⟩ := hx
       exact walk_lt ha _ hp fun c hc => hw c (List.mem_of_mem_take hc)
      omega
     have hex : ∃ i j, i < j ∧ j < w.length + 1 ∧ (w.take i).foldl a.δ p = (w.take j).foldl a.δ p := by
      apply Classical.byContradiction
      intro hno
      apply hnd
      rw [List.nodup_iff_pairwise_ne, List.pairwise_iff_getElem]
      intro i j hi hj hij e
      refine hno ⟨i, j, hij, by omega, ?_⟩
      have h1 := hPg i (by omega)
      have h2 := hPg j (by omega)
      rw [List.getElem?_eq_getElem hi] at h1
      rw [List.getElem?_eq_getElem hj] at h2
      simp only [Option.some.injEq] at h1 h2
      rw [← h1, ← h2, e]
     obtain ⟨i, j, hij, hj, e⟩ := hex
     have hlen : (w.take i ++ w.drop j).length < w.length := by simp; omega
     cases m with
     | zero => omega
     | succ m =>
       obtain ⟨v, h1, h2, h3, h4⟩ := short ha hp m (w.take i ++ w.drop j) (by omega) fun c hc => by
        rcases List.mem_append.1 hc with hc | hc
        · exact hw c (List.mem_of_mem_take hc)
        · exact hw c (List.mem_of_mem_drop hc)
       refine ⟨v, h1, by omega, h3, ?_⟩
       rw [h4, List.foldl_append, e, ← List.foldl_append, List.take_append_drop]
theorem IsLeast.short {a : Aut} (ha : a.ok) {w : List Nat} (h : IsLeast a.δ 0 a.F (some w)) : w.length < a.n := by
 obtain ⟨v, h1, _, h3, h4⟩ := Go.Aut.short ha ha.pos _ w (Nat.le_refl _) h.1
 have := h.2.2 v h3 (by rw [h4]; exact h.2.1)
 apply Classical.byContradiction
 intro hc
 exact this (.inl (by omega))
def lenZ : Option (List Nat) → Int
 | none => -1
 | some w => w.length
theorem lexW_at : ∀ (w : List Nat) (i j c : Nat) (u : List Nat), w[i]? = some c → j < c → u.length + i + 1 = w.length → lexW (w.take i ++ j :: u) w
 | [], i, j, c, u, h, _, _ => by simp at h
 | b :: w, 0, j, c, u, h, hj, hl => by
   simp at h
   subst h
   exact .inl hj
 | b :: w, i + 1, j, c, u, h, hj, hl => by
   simp only [List.length_cons] at hl
   exact .inr ⟨rfl, lexW_at w i j c u (by simpa using h) hj (by omega)⟩
theorem IsLeast.first {a : Aut} {w : List Nat} (h : IsLeast a.δ 0 a.F (some w)) {i j c t : Nat} (hi : w[i]? = some c) (hj : j < c) (ht : Rch a (a.δ ((w.take i).foldl a.δ 0) j) (w.length - i - 1) t) : a.F t = false := by
 have hil := (List.getElem?_eq_some_iff.1 hi).1
 obtain ⟨u, h1, h2, rfl⟩ := ht
 cases hF : a.F (u.foldl a.δ (a.δ ((w.take i).foldl a.δ 0) j)) with
 | false => rfl
 | true =>
   have hc := h.1 c (List.mem_of_getElem? hi)
   have h95 : ∀ d ∈ w.take i ++ j :: u, d < 95 := fun d hd => by
    simp only [List.mem_append, List.mem_cons] at hd
    rcases hd with hd | rfl | hd
    · exact h.1 d (List.mem_of_mem_take hd)
    · omega
    · exact h2 d hd
   exact absurd (.inr ⟨by simp; omega, lexW_at w i j c u hi hj (by omega)⟩) (h.2.2 (w.take i ++ j :: u) h95 (by rw [List.foldl_append]; exact hF))
end Go.Aut
end
section
set_option maxHeartbeats 1000000
set_option maxRecDepth 100000
namespace Go.Abs
open Go.Proofs Go.Aut
attribute [-simp] getElem?_pos Option.not_isSome List.map_map
theorem wordS_len (w : List Nat) : (wordS w).length = w.length := by simp [wordS]
theorem sgn_of {c : Nat} (h : c < 95) : sgn (UInt8.ofNat (32 + c)) = true ∧ (UInt8.ofNat (32 + c)).toNat = 32 + c := by
 have : (UInt8.ofNat (32 + c)).toNat = 32 + c := by rw [UInt8.toNat_ofNat']; omega
 refine ⟨?_, this⟩
 simp only [sgn, this, Bool.and_eq_true, decide_eq_true_eq]
 omega
theorem acc_wordS {a : Aut} : ∀ (w : List Nat) (q : Nat), (∀ c ∈ w, c < 95) → accS a q (wordS w) = a.F (w.foldl a.δ q)
 | [], q, _ => rfl
 | c :: w, q, h => by
   obtain ⟨h1, h2⟩ := sgn_of (h c (by simp))
   have e : 32 + c - 32 = c := by omega
   simp only [wordS, List.map_cons, accS, h1, if_true, h2, e, List.foldl_cons]
   exact acc_wordS w _ fun c hc => h c (by simp [hc])
theorem acc_word {a : Aut} : ∀ (s : Str) (q : Nat), accS a q s = true → ∃ v : List Nat, (∀ c ∈ v, c < 95) ∧ s = wordS v ∧ a.F (v.foldl a.δ q) = true
 | [], q, h => ⟨[], by simp, rfl, h⟩
 | b :: s, q, h => by
   simp only [accS] at h
   split at h
   · rename_i hs
     simp only [sgn, Bool.and_eq_true, decide_eq_true_eq] at hs
     obtain ⟨v, h1, h2, h3⟩ := acc_word s _ h
     refine ⟨(b.toNat - 32) :: v, fun c hc => ?_, ?_, by simpa using h3⟩
     · rcases List.mem_cons.1 hc with rfl | hc
       · omega
       · exact h1 c hc
     · have : 32 + (b.toNat - 32) = b.toNat := by omega
       simp only [wordS, List.map_cons, this, UInt8.ofNat_toNat]
       rw [h2]; rfl
   · cases h
theorem wordS_less : ∀ (u v : List Nat), (∀ c ∈ u, c < 95) → (∀ c ∈ v, c < 95) → u.length = v.length → Op.bytesLess (wordS u) (wordS v) = true → lexW u v
 | [], [], _, _, _, h => by simp [wordS, Op.bytesLess] at h
 | [], _ :: _, _, _, hl, _ => by simp at hl
 | _ :: _, [], _, _, hl, _ => by simp at hl
 | a :: u, b :: v, hu, hv, hl, h => by
   have ha := hu a (by simp)
   have hb := hv b (by simp)
   have h1 := (sgn_of ha).2
   have h2 := (sgn_of hb).2
   simp only [wordS, List.map_cons, Op.bytesLess, Bool.or_eq_true, Bool.and_eq_true, decide_eq_true_eq, beq_iff_eq, UInt8.lt_iff_toNat_lt, h1, h2] at h
   rcases h with h | ⟨h, h3⟩
   · exact .inl (by omega)
   · have : a = b := by
      have := congrArg UInt8.toNat h
      rw [h1, h2] at this; omega
     exact .inr ⟨this, wordS_less u v (fun c hc => hu c (by simp [hc])) (fun c hc => hv c (by simp [hc])) (by simpa using hl) h3⟩
/-! ### Words and texts -/
theorem sgnS_wordS {w : List Nat} (h : ∀ c ∈ w, c < 95) : sgnS (wordS w) := fun b hb => by
 simp only [wordS, List.mem_map] at hb
 obtain ⟨c, hc, rfl⟩ := hb
 rw [(sgn_of (h c hc)).2]
 have := h c hc
 omega
theorem sw_wordS : ∀ {w : List Nat}, (∀ c ∈ w, c < 95) → sw (wordS w) = w
 | [], _ => rfl
 | c :: w, h => by
   have h1 := (sgn_of (h c (by simp))).2
   have ih := sw_wordS (w := w) fun c hc => h c (by simp [hc])
   simp only [sw, wordS, List.map_cons, List.cons.injEq] at ih ⊢
   exact ⟨by rw [h1]; omega, by simpa [List.map_map] using ih⟩
theorem wordS_sw : ∀ {s : Str}, sgnS s → wordS (sw s) = s
 | [], _ => rfl
 | b :: s, h => by
   have hb := h b (by simp)
   have ih := wordS_sw (s := s) fun c hc => h c (by simp [hc])
   have e : UInt8.ofNat (32 + (b.toNat - 32)) = b := by rw [show 32 + (b.toNat - 32) = b.toNat by omega, UInt8.ofNat_toNat]
   simp only [sw, wordS, List.map_cons, List.cons.injEq] at ih ⊢
   exact ⟨e, by simpa [List.map_map] using ih⟩
theorem L_fold {a : Aut} : ∀ (w : List Nat) (q : Nat), (∀ c ∈ w, c < 95) → a.L q w = a.F (w.foldl a.δ q)
 | [], q, _ => rfl
 | c :: w, q, h => by
   have ih := L_fold (a := a) w (a.δ q c) fun c hc => h c (by simp [hc])
   simp only [Aut.L, langL, lang, if_pos (h c (by simp)), List.foldl_cons] at ih ⊢
   exact ih
def aheadS (s t : Str) : Prop := s.length < t.length ∨ (s.length = t.length ∧ Op.bytesLess s t = true)
theorem ahead_wlt {s : Str} {w : List Nat} (hs : sgnS s) (hw : ∀ c ∈ w, c < 95) (h : aheadS s (wordS w)) : wlt (sw s) w := by
 have e := wordS_sw hs
 have hl : (sw s).length = s.length := by simp [sw]
 rcases h with h | ⟨h, h2⟩
 · exact .inl (by rw [wordS_len] at h; omega)
 · rw [wordS_len] at h
   refine .inr ⟨by omega, wordS_less (sw s) w (sw_lt hs) hw (by omega) (by rw [e]; exact h2)⟩
theorem GoodC.kind {c : F.Constraint} {x : Rx} (h : GoodC c x) : (1 ≤ c.kind ∧ c.kind ≤ 4) ∧ (c.kind = 4 → F.rxB c.regex = true) := by
 cases h with
 | any => exact ⟨by simp, by simp⟩
 | enum _ _ _ => exact ⟨by simp, by simp⟩
 | scheme _ _ => exact ⟨by simp, by simp⟩
 | mat h1 h2 => exact ⟨by simp, fun _ => List.all_eq_true.1 F.pool_ok _ h2⟩
theorem f_allows {c : F.Constraint} {x : Rx} (h : GoodC c x) (v : Str) (hv : v.length ≤ 1000) : Fn Tryz.prog n_ref12_Allows [c.v, .str v] (.bool (F.allows12 c v)) := F.f_ref12_Allows c v h.kind.1 h.kind.2 hv
theorem AutOf.acc {c : F.Constraint} {x : Rx} {b : Aut} (h : GoodC c x) (hb : AutOf x b) (s : Str) : F.allows12 c s = true ↔ sgnS s ∧ b.F ((sw s).foldl b.δ 0) = true := by
 rw [allows12_iff h]
 refine and_congr_right fun hs => ?_
 obtain ⟨_, _, _, _, _, _, _, hL⟩ := hb
 rw [← hL _ (sw_lt hs), L_fold _ _ (sw_lt hs)]
theorem AutOf.ok {x : Rx} {b : Aut} (hb : AutOf x b) : b.ok ∧ b.n ≤ 500 := by
 obtain ⟨_, _, _, _, _, hok, hn, _⟩ := hb
 exact ⟨hok, hn⟩
theorem leastR_of {b : Aut} (hg : b.ok) : ∃ r, leastGo b.δ b.F (b.n + 1) 0 [0] [[]] = some r ∧ IsLeast b.δ 0 b.F r := by
 have hD : ∀ q c, q < b.n → c < 95 → b.δ q c < b.n := fun q c hq hc => hg.lt hq hc
 obtain ⟨r, hr⟩ := leastGo_ends hD (fun l h1 h2 => nodup_le _ l h2 h1) (good := b.F) (b.n + 1) 0 [0] [[]] (LInv.begin hg.pos) (by simp) (by omega)
 exact ⟨r, hr, leastGo_spec hD _ _ _ _ r (LInv.begin hg.pos) (by simp) (fun k hk => by omega) hr⟩
theorem few_len (s : Str) : (s.take 20).length ≤ 20 := by simp; omega
theorem cut12_regex (c : F.Constraint) : (cut12 c).regex.length ≤ 1125899906842624 := by simp [cut12]; omega
/-! ### LangExamples -/
theorem f_law12_LangExamples (c : F.Constraint) (s : Str) : FnE Tryz.prog n_law12_LangExamples [c.v, .str s] (.bool true) := by
 refine FnE.of_image mixed h_law12_LangExamples i_law12_LangExamples rfl fun ho => ?_
 unfold c_law12_LangExamples
 clear ho
 have hcut := f_law12_cut c
 have hgood := F.f_ref12_Good (cut12 c) (cut12_regex c)
 obtain ⟨x, hx⟩ := good12_good (cut12 c)
 obtain ⟨b, hb⟩ := hx.aut
 obtain ⟨r, hr, hI⟩ := leastR_of hb.ok.1
 have hex := f_lang_Example hx hb r hr
 have hfew := f_law12_few s
 have hsl := few_len s
 have hal := fun (v : Str) (hv : v.length ≤ 1000) => f_allows hx v hv
 have hacc := fun (v : Str) => AutOf.acc hx hb v
 have hws : ∀ w, r = some w → w.length < b.n := fun w hw => by subst hw; exact IsLeast.short hb.ok.1 hI
 have hbn := hb.ok.2
 have hlives := f_law12_lives
 obtain ⟨s', hs'⟩ : ∃ s', s' = s.take 20 := ⟨_, rfl⟩
 obtain ⟨g, hg⟩ : ∃ g, g = F.good12 (cut12 c) := ⟨_, rfl⟩
 obtain ⟨k, hk⟩ : ∃ k, k = cut12 c := ⟨_, rfl⟩
 rw [← hs'] at hfew hsl
 rw [← hg] at hgood hex hal hacc
 rw [← hk] at hgood hcut
 clear hx hg hk hs' hr
 have hals := hal s' (by omega)
 obtain ⟨kd, ws, rx⟩ := c
 obtain ⟨kd2, ws2, rx2⟩ := k
 simp at hcut hgood
 simp (disch := omega) [-List.reduceReplicate]
 refine wcall_pure hcut (by simp) fun _ => ?_
 simp (disch := omega) [-List.reduceReplicate]
 refine wcall_pure hgood (by simp) fun _ => ?_
 obtain ⟨kd3, ws3, rx3⟩ := g
 simp at hex hals hal
 cases r with
 | none =>
   have hno : F.allows12 ⟨kd3, ws3, rx3⟩ s' = false := by
    cases hA : F.allows12 ⟨kd3, ws3, rx3⟩ s' with
    | false => rfl
    | true =>
      obtain ⟨h1, h2⟩ := (hacc s').1 hA
      rw [hI _ (sw_lt h1)] at h2
      cases h2
   rw [hno] at hals
   simp only [resL] at hex
   simp (disch := omega) [-List.reduceReplicate]
   refine wcall_flat hex rfl fun _ => ?_
   simp (disch := omega) [-List.reduceReplicate]
   refine wcall_flat hfew rfl fun _ => ?_
   simp (disch := omega) [-List.reduceReplicate]
   refine wcall_flat hals rfl fun _ => ?_
   simp (disch := omega) [-List.reduceReplicate]
   refine wcall_flat hlives rfl fun _ => ?_
   simp (disch := omega) [-List.reduceReplicate]
 | some w =>
   have hwl := wordS_len w
   have hwn := hws w rfl
   have hyes : F.allows12 ⟨kd3, ws3, rx3⟩ (wordS w) = true := (hacc _).2 ⟨sgnS_wordS hI.1, by rw [sw_wordS hI.1]; exact hI.2.1⟩
   have halw := hal (wordS w) (by omega)
   rw [hyes] at halw
   have hless : aheadS s' (wordS w) → F.allows12 ⟨kd3, ws3, rx3⟩ s' = false := fun h => by
    cases hA : F.allows12 ⟨kd3, ws3, rx3⟩ s' with
    | false => rfl
    | true =>
      obtain ⟨h1, h2⟩ := (hacc s').1 hA
      exact absurd (ahead_wlt h1 hI.1 h) (hI.2.2 _ (sw_lt h1) h2)
   simp only [resL] at hex
   obtain ⟨W', hW⟩ : ∃ W', W' = wordS w := ⟨_, rfl⟩
   rw [← hW] at hwl hex halw hless
   obtain ⟨m, hm⟩ : ∃ m : Nat, m = w.length := ⟨_, rfl⟩
   rw [← hm] at hwl hwn
   clear hI hW hm hyes hws hacc hal
   obtain ⟨A, hA⟩ : ∃ A, A = F.allows12 ⟨kd3, ws3, rx3⟩ s' := ⟨_, rfl⟩
   rw [← hA] at hals hless
   clear hA
   simp (disch := omega) [-List.reduceReplicate]
   refine wcall_flat hex rfl fun _ => ?_
   simp (disch := omega) [-List.reduceReplicate]
   refine wcall_flat hfew rfl fun _ => ?_
   simp (disch := omega) [-List.reduceReplicate]
   refine wcall_flat hals rfl fun _ => ?_
   by_cases h1 : s'.length < m
   · have hAf := hless (.inl (by omega))
     subst hAf
     simp (disch := omega) [-List.reduceReplicate, hwl, h1]
     refine wcall_flat halw rfl fun _ => ?_
     simp (disch := omega) [-List.reduceReplicate]
     refine wcall_flat hlives rfl fun _ => ?_
     simp (disch := omega) [-List.reduceReplicate]
   · by_cases h2 : s'.length = m
     · have h2' : (s'.length : Int) = (m : Int) := by omega
       cases hB : Op.bytesLess s' W' with
       | true =>
         have hAf := hless (.inr ⟨by omega, hB⟩)
         subst hAf
         simp (disch := omega) [-List.reduceReplicate, hwl, h1, h2', hB]
         refine wcall_flat halw rfl fun _ => ?_
         simp (disch := omega) [-List.reduceReplicate]
         refine wcall_flat hlives rfl fun _ => ?_
         simp (disch := omega) [-List.reduceReplicate]
       | false =>
         simp (disch := omega) [-List.reduceReplicate, hwl, h1, h2', hB]
         refine wcall_flat halw rfl fun _ => ?_
         simp (disch := omega) [-List.reduceReplicate]
         refine wcall_flat hlives rfl fun _ => ?_
         simp (disch := omega) [-List.reduceReplicate]
     · have h2' : ¬(s'.length : Int) = (m : Int) := by omega
       simp (disch := omega) [-List.reduceReplicate, hwl, h1, h2']
       refine wcall_flat halw rfl fun _ => ?_
       simp (disch := omega) [-List.reduceReplicate]
       refine wcall_flat hlives rfl fun _ => ?_
       simp (disch := omega) [-List.reduceReplicate]
end Go.Abs
end
