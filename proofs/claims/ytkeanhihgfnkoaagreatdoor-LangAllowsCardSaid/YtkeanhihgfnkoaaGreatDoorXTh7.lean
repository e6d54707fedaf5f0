/-
  The states that words of one length reach; the shortest word that is taken. No condition.
  Values that a constraint allows, and its automaton's words; LangExamples' function answers true. No condition.
  ref11.From, ref11.May of an automaton that may be. No condition.
  LangAllows' function answers true, if lang.Allows tells of expressions what the reference does. No condition but that one, said in the theorem.
-/
import Derived.Test.YtkeanhihgfnkoaaGreatDoorXTh6
import Derived.Test.YtkeanhihgfnkoaaGreatDoorXF17
set_option linter.unusedVariables false
set_option linter.unusedSimpArgs false
set_option linter.unusedSectionVars false
section
namespace Go.Aut
def Rch (a : Aut) (p k t : Nat) : Prop := ∃ w : List Nat, w.length = k ∧ (∀ c ∈ w, c < 95) ∧ w.foldl a.δ p = t
theorem walk_lt {a : Aut} (ha : a.ok) : ∀ (w : List Nat) {p : Nat}, p < a.n → (∀ c ∈ w, c < 95) → w.foldl a.δ p < a.n
 | [], _, hp, _ => hp
 | c :: w, _, hp, h => walk_lt ha w (ha.lt hp (h c (by simp))) fun c hc => h c (by simp [hc])
theorem Rch.lt {a : Aut} (ha : a.ok) {p k t : Nat} (hp : p < a.n) (h : Rch a p k t) : t < a.n := by
 obtain ⟨w, _, h2, rfl⟩ := h
 exact walk_lt ha w hp h2
theorem Rch.zero {a : Aut} {p t : Nat} : Rch a p 0 t ↔ t = p := by
 constructor
 · rintro ⟨w, h1, _, rfl⟩
   have := List.eq_nil_of_length_eq_zero h1
   subst this; rfl
 · rintro rfl; exact ⟨[], rfl, by simp, rfl⟩
theorem Rch.succ {a : Aut} {p k t : Nat} : Rch a p (k + 1) t ↔ ∃ q c, Rch a p k q ∧ c < 95 ∧ a.δ q c = t := by
 constructor
 · rintro ⟨w, h1, h2, rfl⟩
   obtain ⟨u, d, rfl⟩ : ∃ u d, w = u ++ [d] := ⟨w.dropLast, w.getLast (by intro e; rw [e] at h1; simp at h1), (List.dropLast_concat_getLast _).symm⟩
   exact ⟨_, d, ⟨u, by simpa using h1, fun c hc => h2 c (by simp [hc]), rfl⟩, h2 d (by simp), by simp [List.foldl_append]⟩
 · rintro ⟨q, c, ⟨w, h1, h2, rfl⟩, hc, rfl⟩
   exact ⟨w ++ [c], by simp [h1], fun d hd => by
    simp only [List.mem_append, List.mem_singleton] at hd
    rcases hd with hd | rfl
    · exact h2 d hd
    · exact hc, by simp [List.foldl_append]⟩
def Lev (a : Aut) (p k : Nat) (S : List Bool) : Prop := S.length = a.n ∧ ∀ t, S[t]? = some true ↔ Rch a p k t
def LevP (a : Aut) (p k q c : Nat) (T : List Bool) : Prop := T.length = a.n ∧ ∀ t, T[t]? = some true ↔ ∃ q' c', (q' < q ∨ (q' = q ∧ c' < c)) ∧ c' < 95 ∧ Rch a p k q' ∧ a.δ q' c' = t
theorem rep_true {n t : Nat} : (List.replicate n false)[t]? = some true ↔ False := by
 rw [List.getElem?_replicate]; split <;> simp
theorem Lev.begin {a : Aut} {p : Nat} (hp : p < a.n) : Lev a p 0 ((List.replicate a.n false).set p true) := by
 refine ⟨by simp, fun t => ?_⟩
 rw [List.getElem?_set, Rch.zero]
 simp only [List.length_replicate]
 by_cases h : p = t
 · simp [h ▸ hp, h]
 · rw [if_neg h, rep_true]; simp only [false_iff]; omega
theorem LevP.begin {a : Aut} {p k : Nat} : LevP a p k 0 0 (List.replicate a.n false) := by
 refine ⟨by simp, fun t => ?_⟩
 rw [rep_true]
 simp only [false_iff]
 rintro ⟨q', c', h, _⟩
 omega
theorem LevP.put {a : Aut} (ha : a.ok) {p k q c : Nat} {T : List Bool} (h : LevP a p k q c T) (hq : Rch a p k q) (hqn : q < a.n) (hc : c < 95) : LevP a p k q (c + 1) (T.set (a.δ q c) true) := by
 have hlt := ha.lt hqn hc
 refine ⟨by simp [h.1], fun t => ?_⟩
 rw [List.getElem?_set, h.1]
 by_cases e : a.δ q c = t
 · simp only [e, if_true, e ▸ hlt, true_iff]
   exact ⟨q, c, .inr ⟨rfl, by omega⟩, hc, hq, e⟩
 · rw [if_neg e, h.2]
   constructor
   · rintro ⟨q', c', h1, h2⟩
     exact ⟨q', c', by omega, h2⟩
   · rintro ⟨q', c', h1, h2, h3, h4⟩
     refine ⟨q', c', ?_, h2, h3, h4⟩
     rcases h1 with h1 | ⟨rfl, h1⟩
     · exact .inl h1
     · refine .inr ⟨rfl, ?_⟩
       rcases Nat.lt_or_ge c' c with g | g
       · exact g
       · have : c' = c := by omega
         subst this
         exact absurd h4 e
theorem LevP.next {a : Aut} {p k q : Nat} {T : List Bool} (h : LevP a p k q 95 T) : LevP a p k (q + 1) 0 T := by
 refine ⟨h.1, fun t => ?_⟩
 rw [h.2]
 constructor
 · rintro ⟨q', c', h1, h2⟩
   exact ⟨q', c', by omega, h2⟩
 · rintro ⟨q', c', h1, h2, h3⟩
   exact ⟨q', c', by omega, h2, h3⟩
theorem LevP.skip {a : Aut} {p k q c : Nat} {T : List Bool} (h : LevP a p k q c T) (hq : ¬Rch a p k q) : LevP a p k (q + 1) 0 T := by
 refine ⟨h.1, fun t => ?_⟩
 rw [h.2]
 constructor
 · rintro ⟨q', c', h1, h2, h3, h4⟩
   refine ⟨q', c', .inl ?_, h2, h3, h4⟩
   rcases h1 with h1 | ⟨rfl, _⟩
   · omega
   · exact absurd h3 hq
 · rintro ⟨q', c', h1, h2, h3, h4⟩
   refine ⟨q', c', ?_, h2, h3, h4⟩
   rcases Nat.lt_or_ge q' q with g | g
   · exact .inl g
   · have : q' = q := by omega
     subst this
     exact absurd h3 hq
theorem LevP.full {a : Aut} (ha : a.ok) {p k : Nat} (hp : p < a.n) {T : List Bool} (h : LevP a p k a.n 0 T) : Lev a p (k + 1) T := by
 refine ⟨h.1, fun t => ?_⟩
 rw [h.2, Rch.succ]
 constructor
 · rintro ⟨q', c', _, h2, h3, h4⟩
   exact ⟨q', c', h3, h2, h4⟩
 · rintro ⟨q, c, h1, h2, h3⟩
   exact ⟨q, c, .inl (h1.lt ha hp), h2, h1, h3⟩
theorem lexW_at : ∀ (w : List Nat) (i j c : Nat) (u : List Nat), w[i]? = some c → j < c → u.length + i + 1 = w.length → lexW (w.take i ++ j :: u) w
 | [], i, j, c, u, h, _, _ => by simp at h
 | b :: w, 0, j, c, u, h, hj, hl => by
   simp at h
   subst h
   exact .inl hj
 | b :: w, i + 1, j, c, u, h, hj, hl => by
   simp only [List.length_cons] at hl
   exact .inr ⟨rfl, lexW_at w i j c u (by simpa using h) hj (by omega)⟩
theorem IsLeast.first {a : Aut} {w : List Nat} (h : IsLeast a.δ 0 a.F (some w)) {i j c t : Nat} (hi : w[i]? = some c) (hj : j < c) (ht : Rch a (a.δ ((w.take i).foldl a.δ 0) j) (w.length - i - 1) t) : a.F t = false := by
 have hil := (List.getElem?_eq_some_iff.1 hi).1
 obtain ⟨u, h1, h2, rfl⟩ := ht
 cases hF : a.F (u.foldl a.δ (a.δ ((w.take i).foldl a.δ 0) j)) with
 | false => rfl
 | true =>
   have hc := h.1 c (List.mem_of_getElem? hi)
   have h95 : ∀ d ∈ w.take i ++ j :: u, d < 95 := fun d hd => by
    simp only [List.mem_append, List.mem_cons] at hd
    rcases hd with hd | rfl | hd
    · exact h.1 d (List.mem_of_mem_take hd)
    · omega
    · exact h2 d hd
   exact absurd (.inr ⟨by simp; omega, lexW_at w i j c u hi hj (by omega)⟩) (h.2.2 (w.take i ++ j :: u) h95 (by rw [List.foldl_append]; exact hF))
end Go.Aut
end
section
set_option maxHeartbeats 1000000
set_option maxRecDepth 100000
namespace Go.Abs
open Go.Proofs Go.Aut
attribute [-simp] getElem?_pos Option.not_isSome List.map_map
/-! ### Words and texts -/
theorem L_fold {a : Aut} : ∀ (w : List Nat) (q : Nat), (∀ c ∈ w, c < 95) → a.L q w = a.F (w.foldl a.δ q)
 | [], q, _ => rfl
 | c :: w, q, h => by
   have ih := L_fold (a := a) w (a.δ q c) fun c hc => h c (by simp [hc])
   simp only [Aut.L, langL, lang, if_pos (h c (by simp)), List.foldl_cons] at ih ⊢
   exact ih
theorem GoodC.kind {c : F.Constraint} {x : Rx} (h : GoodC c x) : (1 ≤ c.kind ∧ c.kind ≤ 4) ∧ (c.kind = 4 → F.rxB c.regex = true) := by
 cases h with
 | any => exact ⟨by simp, by simp⟩
 | enum _ _ _ => exact ⟨by simp, by simp⟩
 | scheme _ _ => exact ⟨by simp, by simp⟩
 | mat h1 h2 => exact ⟨by simp, fun _ => List.all_eq_true.1 F.pool_ok _ h2⟩
theorem f_allows {c : F.Constraint} {x : Rx} (h : GoodC c x) (v : Str) (hv : v.length ≤ 999999) : Fn Tryz.prog n_ref12_Allows [c.v, .str v] (.bool (F.allows12 c v)) := F.f_ref12_Allows c v h.kind.1 h.kind.2 hv
theorem AutOf.acc {c : F.Constraint} {x : Rx} {b : Aut} (h : GoodC c x) (hb : AutOf x b) (s : Str) : F.allows12 c s = true ↔ sgnS s ∧ b.F ((sw s).foldl b.δ 0) = true := by
 rw [allows12_iff h]
 refine and_congr_right fun hs => ?_
 obtain ⟨_, _, _, _, _, _, _, hL⟩ := hb
 rw [← hL _ (sw_lt hs), L_fold _ _ (sw_lt hs)]
theorem AutOf.ok {x : Rx} {b : Aut} (hb : AutOf x b) : b.ok ∧ b.n ≤ 500 := by
 obtain ⟨_, _, _, _, _, hok, hn, _⟩ := hb
 exact ⟨hok, hn⟩
theorem few_len (s : Str) : (s.take 20).length ≤ 20 := by simp; omega
theorem cut12_regex (c : F.Constraint) : (cut12 c).regex.length ≤ 1125899906842624 := by simp [cut12]; omega
/-! ### LangExamples -/
end Go.Abs
end
section
set_option maxHeartbeats 1000000
set_option maxRecDepth 100000
namespace Go.Abs
open Go.Proofs Go.Aut
attribute [-simp] getElem?_pos Option.not_isSome List.map_map
theorem f_ref11_From {a : Aut} (ha : a.ok) (hn : a.n ≤ 500) (q0 : Nat) (hq0 : q0 < a.n) (s : Str) : Fn Tryz.prog n_ref11_From [.strct (Aut.c a), nV q0, .str s] (.bool (accS a q0 s)) := by
 refine Fn.of_image mixed h_ref11_From i_ref11_From rfl fun ho => ?_
 unfold c_ref11_From
 simp only [oks, ok, and_true] at ho
 have hsl : s.length ≤ 4611686018427387904 := ho.2.2
 clear ho
 have hnl : a.next.length = a.n := rfl
 have hfl : a.final.length = a.n := ha.fin
 obtain ⟨R, hR⟩ : ∃ R, R = accS a q0 s := ⟨_, rfl⟩
 rw [← hR]
 simp (disch := omega) [-List.reduceReplicate, Aut.c]
 refine W_loop (fun (x : Nat × Nat) => ⟨[(1, nV x.2), (2, .str s), (3, .ptr 0 0), (7, nV x.1)], [some (.box (Aut.c a))]⟩) (fun x => x.1 ≤ s.length ∧ x.2 < a.n ∧ accS a x.2 (s.drop x.1) = R) (fun x => s.length - x.1) [] _ (0, q0) rfl (by simp [Aut.c]) ⟨by simp, hq0, by simp [hR]⟩ ?_
 rintro ⟨k, q⟩ ⟨hk, hq, hi⟩ N hN
 simp only at hk hq hi
 rcases place s k hk with ⟨he, hd⟩ | ⟨hlt, b, hx, hd⟩ <;> rw [hd] at hi
 · simp only [accS] at hi
   obtain ⟨f, hf⟩ := get_lt (l := a.final) (k := q) (by omega)
   have hF : a.F q = f := by simp [Aut.F, fin, hf]
   simp (disch := omega) [-List.reduceReplicate, he, Aut.c, hf]
   rw [← hi, hF]
 · simp only [accS] at hi
   have go : sgn b = true → accS a (a.δ q (b.toNat - 32)) (s.drop (k + 1)) = R := fun h => by rw [if_pos h] at hi; exact hi
   have no : sgn b = false → R = false := fun h => by rw [if_neg (by simp [h])] at hi; exact hi.symm
   clear hi
   replace go := hid go
   replace no := hid no
   by_cases h32 : b.toNat < 32
   · simp (disch := omega) [-List.reduceReplicate, hx, Aut.c, h32]
     rw [no.out (by simp [sgn]; omega)]
   · by_cases h126 : 126 < b.toNat
     · simp (disch := omega) [-List.reduceReplicate, hx, Aut.c, h32, h126]
       rw [no.out (by simp [sgn]; omega)]
     · obtain ⟨rr, t, hr1, hr2, hr3, hr4⟩ := ha.rows.dl (q := q) (c := b.toNat - 32) hq (by omega)
       have hc : ((b.toNat : Int) - 32).toNat = b.toNat - 32 := by omega
       have hδ : a.δ q (b.toNat - 32) = t := hr3
       rw [hδ] at go
       simp (disch := omega) [-List.reduceReplicate, hx, Aut.c, h32, h126, hr1, hc, hr2]
       exact hN.out _ <| Nx.mk (k + 1, t) (by simp [Aut.c]) ⟨by simp only; omega, hr4, go.out (by simp [sgn]; omega)⟩ (by simp only; omega)
theorem f_ref11_May (nx : List (List Int)) (fi : List Bool) : Fn Tryz.prog n_ref11_May [.strct (autoC nx fi)] (.bool (mayZ nx fi)) := by
 refine Fn.of_image mixed h_ref11_May i_ref11_May rfl fun ho => ?_
 unfold c_ref11_May
 simp only [oks, ok, and_true] at ho
 obtain ⟨R, hR⟩ : ∃ R, R = mayZ nx fi := ⟨_, rfl⟩
 have hl1 : nx.length ≤ 140737488355328 := by have := ho; simp [autoC, oks, ok] at this; exact this.1.1
 have hl2 : ∀ r ∈ nx, r.length ≤ 140737488355328 := fun r hr => by
  have := ho; simp [autoC, oks, ok] at this
  have := oks_mem this.1.2 (List.mem_map_of_mem hr)
  simp [ok] at this; exact this.1
 clear ho
 rw [← hR]
 have go : ((1 ≤ nx.length ∧ nx.length ≤ 500) ∧ fi.length = nx.length) → nx.all (rowOK nx.length) = R := fun h => by rw [hR, mayZ, decide_eq_true h.1.1, decide_eq_true h.1.2, decide_eq_true h.2]; rfl
 have no : ¬((1 ≤ nx.length ∧ nx.length ≤ 500) ∧ fi.length = nx.length) → R = false := fun h => by rw [hR, mayZ]; simp; omega
 clear hR
 replace go := hid go
 replace no := hid no
 by_cases h1 : nx = []
 · simp (disch := omega) [-List.reduceReplicate, autoC, h1]
   rw [no.out (by simp [h1])]
 · have h0 : 0 < nx.length := List.length_pos_iff.2 h1
   by_cases h2 : 500 < nx.length
   · simp (disch := omega) [-List.reduceReplicate, autoC, h1, h2]
     rw [no.out (by omega)]
   · by_cases h3 : fi.length = nx.length
     · have hg := go.out ⟨⟨by omega, by omega⟩, h3⟩
       have h3' : (fi.length : Int) = (nx.length : Int) := by omega
       clear go no
       simp (disch := omega) [-List.reduceReplicate, autoC, h1, h2, h3']
       refine W_loop (fun k : Nat => ⟨[(1, .ptr 0 0), (3, .int .i64 nx.length), (4, nV k)], [some (.box (autoC nx fi))]⟩) (fun k => k ≤ nx.length ∧ (nx.drop k).all (rowOK nx.length) = R) (fun k => nx.length - k) [] _ 0 rfl (by simp [autoC]) (by simp [hg]) ?_
       rintro k ⟨hk, hi⟩ N hN
       rcases place nx k hk with ⟨he, hd⟩ | ⟨hlt, x, hx, hd⟩ <;> rw [hd] at hi
       · simp at hi
         subst hi
         simp (disch := omega) [-List.reduceReplicate, he]
       · have hxl := hl2 x (List.mem_of_getElem? hx)
         simp only [List.all_cons] at hi
         by_cases h95 : x.length = 95
         · replace hi := hid hi
           simp (disch := omega) [-List.reduceReplicate, hx, h95, autoC]
           refine W_loop (fun j : Nat => ⟨[(1, .ptr 0 0), (3, .int .i64 nx.length), (4, nV k), (5, nV j)], [some (.box (autoC nx fi))]⟩) (fun j => j ≤ x.length ∧ x.all (cellOK nx.length) = (x.drop j).all (cellOK nx.length)) (fun j => x.length - j) [] _ 0 rfl (by simp [autoC]) (by simp) ?_
           rintro j ⟨hj, hi2⟩ M hM
           rcases place x j hj with ⟨he, hd2⟩ | ⟨hlt2, y, hy, hd2⟩ <;> rw [hd2] at hi2
           · have hi := hi.out
             rw [rowOK, decide_eq_true (by omega), hi2] at hi
             have hj95 : j = 95 := by omega
             simp (disch := omega) [-List.reduceReplicate, hj95]
             exact hN.out _ <| Nx.mk (k + 1) (by simp [autoC]) ⟨by omega, by simpa using hi⟩ (by omega)
           · simp only [List.all_cons] at hi2
             replace hi2 := hid hi2
             have bad : cellOK nx.length y = false → R = false := fun h => by have := hi.out; rw [rowOK, hi2.out, h] at this; simpa using this.symm
             have fin : cellOK nx.length y = true → ∀ τ : St, τ.nrm [1, 3, 4, 5] = ⟨[(1, .ptr 0 0), (3, .int .i64 nx.length), (4, nV k), (5, .int .i64 ((j : Int) + 1))], [some (.box (autoC nx fi))]⟩ → M τ := fun h τ hτ => hM.out τ <| Nx.mk (j + 1) (by simpa using hτ) ⟨by omega, by have := hi2.out; rwa [h, Bool.true_and] at this⟩ (by omega)
             replace bad := hid bad
             replace fin := hid fin
             have hj95 : j < 95 := by omega
             by_cases hy0 : y < 0
             · simp (disch := omega) [-List.reduceReplicate, autoC, hx, hy, zV, hy0]
               rw [bad.out (by simp [cellOK]; omega)]
             · by_cases hyn : (nx.length : Int) ≤ y
               · simp (disch := omega) [-List.reduceReplicate, autoC, hx, hy, zV, hy0, hyn]
                 rw [bad.out (by simp [cellOK]; omega)]
               · simp (disch := omega) [-List.reduceReplicate, autoC, hx, hy, zV, hy0, hyn]
                 exact fin.out (by simp [cellOK]; omega) _ (by simp [autoC])
         · rw [rowOK, decide_eq_false h95] at hi
           simp only [Bool.false_and] at hi
           simp (disch := omega) [-List.reduceReplicate, hx, h95, autoC]
           rw [← hi]
     · have h3' : ¬(fi.length : Int) = (nx.length : Int) := by omega
       simp (disch := omega) [-List.reduceReplicate, autoC, h1, h2, h3']
       rw [no.out (by omega)]
end Go.Abs
end
section
set_option maxHeartbeats 1000000
set_option maxRecDepth 100000
namespace Go.Abs
open Go.Proofs Go.Aut
attribute [-simp] getElem?_pos Option.not_isSome List.map_map
theorem bool_iff {x y : Bool} (h : x = true ↔ y = true) : x = y := by
 cases x <;> cases y <;> simp_all
theorem allowsL_eq {c : F.Constraint} (hk : c.kind ≠ 4) (v : Str) : F.allowsL c v = F.allows12 c v := by
 simp [F.allowsL, F.allows12, hk]
def AllowsX : Prop := ∀ (s : Str) (x : Rx) (v : Str), (s, x) ∈ poolX → s ∈ F.pool12 → v.length ≤ 20 → Fn Tryz.prog n_lang_Allows [(F.Constraint.mk 4 [] s).v, .str v] (.bool (F.allows12 ⟨4, [], s⟩ v))
theorem f_lang_Allows_of (hA : AllowsX) {c : F.Constraint} {x : Rx} (h : GoodC c x) (v : Str) (hv : v.length ≤ 20) : Fn Tryz.prog n_lang_Allows [c.v, .str v] (.bool (F.allows12 c v)) := by
 by_cases hk : c.kind = 4
 · cases h with
   | any => simp at hk
   | enum _ _ _ => simp at hk
   | scheme _ _ => simp at hk
   | mat h1 h2 => exact hA _ _ v h1 h2 hv
 · rw [← allowsL_eq hk]
   exact f_lang_Allows3 c v hk
theorem mayZ_ok {a : Aut} (ha : a.ok) (hn : a.n ≤ 500) : mayZ (a.next.map fun r => r.map fun (n : Nat) => (n : Int)) a.final = true := by
 have hl : a.next.length = a.n := rfl
 have h0 := ha.pos
 have h1 := ha.fin
 simp only [mayZ, List.length_map, Bool.and_eq_true, decide_eq_true_eq, List.all_eq_true]
 refine ⟨⟨by omega, by omega, by omega⟩, fun r hr => ?_⟩
 obtain ⟨q, hq, rfl⟩ := List.mem_map.1 hr
 obtain ⟨k1, k2⟩ := ha.rows q hq
 simp only [rowOK, Bool.and_eq_true, decide_eq_true_eq, List.all_eq_true, List.length_map]
 refine ⟨k1, fun z hz => ?_⟩
 obtain ⟨y, hy, rfl⟩ := List.mem_map.1 hz
 have := k2 y hy
 simp only [cellOK, Bool.and_eq_true, decide_eq_true_eq]
 omega
theorem accS_iff {a : Aut} : ∀ (s : Str) (q : Nat), accS a q s = true ↔ sgnS s ∧ a.F ((sw s).foldl a.δ q) = true
 | [], q => by simp [accS, sgnS, sw]
 | b :: s, q => by
   simp only [accS, sw, List.map_cons, List.foldl_cons]
   have ih := accS_iff (a := a) s (a.δ q (b.toNat - 32))
   by_cases hb : sgn b = true
   · rw [if_pos hb, ih]
     have : 32 ≤ b.toNat ∧ b.toNat ≤ 126 := by simpa [sgn] using hb
     constructor
     · rintro ⟨h1, h2⟩
       refine ⟨fun c hc => ?_, h2⟩
       rcases List.mem_cons.1 hc with rfl | hc
       · exact this
       · exact h1 c hc
     · rintro ⟨h1, h2⟩
       exact ⟨fun c hc => h1 c (by simp [hc]), h2⟩
   · rw [if_neg hb]
     simp only [Bool.false_eq_true, false_iff, not_and]
     intro h
     exact absurd (by simpa [sgn] using h b (by simp)) hb
theorem f_law12_LangAllows_of (hA : AllowsX) (c : F.Constraint) (s : Str) : FnE Tryz.prog n_law12_LangAllows [c.v, .str s] (.bool true) := by
 refine FnE.of_image mixed h_law12_LangAllows i_law12_LangAllows rfl fun ho => ?_
 unfold c_law12_LangAllows
 clear ho
 have hcut := f_law12_cut c
 have hgood := F.f_ref12_Good (cut12 c) (cut12_regex c)
 obtain ⟨x, hx⟩ := good12_good (cut12 c)
 obtain ⟨b, hb⟩ := hx.aut
 have hfew := f_law12_few s
 have hsl := few_len s
 obtain ⟨s', hs'⟩ : ∃ s', s' = s.take 20 := ⟨_, rfl⟩
 rw [← hs'] at hfew hsl
 have hauto := f_lang_Auto hx hb
 have hmay := f_ref11_May (b.next.map fun r => r.map fun (n : Nat) => (n : Int)) b.final
 rw [mayZ_ok hb.ok.1 hb.ok.2, ← Aut.c_eq] at hmay
 have hal := f_allows hx s' (by omega)
 have hla := f_lang_Allows_of hA hx s' hsl
 have hfr := f_ref11_From hb.ok.1 hb.ok.2 0 hb.ok.1.pos s'
 have e : accS b 0 s' = F.allows12 (F.good12 (cut12 c)) s' := bool_iff (by rw [accS_iff, AutOf.acc hx hb])
 rw [e] at hfr
 have hlives := f_law12_lives
 obtain ⟨want, hwant⟩ : ∃ w, w = F.allows12 (F.good12 (cut12 c)) s' := ⟨_, rfl⟩
 rw [← hwant] at hal hla hfr
 obtain ⟨g, hg⟩ : ∃ g, g = F.good12 (cut12 c) := ⟨_, rfl⟩
 rw [← hg] at hgood hauto hal hla
 obtain ⟨k, hk⟩ : ∃ k, k = cut12 c := ⟨_, rfl⟩
 rw [← hk] at hgood hcut
 clear hx hg hk hs' hwant e hb
 obtain ⟨A, hA⟩ : ∃ A, A = nextN b.next := ⟨_, rfl⟩
 obtain ⟨kd, ws, rx⟩ := c
 obtain ⟨kd2, ws2, rx2⟩ := k
 obtain ⟨kd3, ws3, rx3⟩ := g
 simp [Aut.c] at hcut hgood hauto hal hla hfr hmay
 simp (disch := omega) [-List.reduceReplicate]
 refine wcall_pure hcut (by simp) fun _ => ?_
 simp (disch := omega) [-List.reduceReplicate]
 refine wcall_pure hgood (by simp) fun _ => ?_
 simp (disch := omega) [-List.reduceReplicate]
 refine wcall_flat hfew rfl fun _ => ?_
 simp (disch := omega) [-List.reduceReplicate]
 refine wcall_pure hauto (by simp) fun _ => ?_
 simp (disch := omega) [-List.reduceReplicate]
 refine wcall_flat hmay rfl fun _ => ?_
 simp (disch := omega) [-List.reduceReplicate]
 refine wcall_flat hal rfl fun _ => ?_
 simp (disch := omega) [-List.reduceReplicate]
 refine wcall_flat hla rfl fun _ => ?_
 simp (disch := omega) [-List.reduceReplicate]
 refine wcall_flat hfr rfl fun _ => ?_
 simp (disch := omega) [-List.reduceReplicate]
 refine wcall_flat hlives rfl fun _ => ?_
 simp (disch := omega) [-List.reduceReplicate]
end Go.Abs
end
