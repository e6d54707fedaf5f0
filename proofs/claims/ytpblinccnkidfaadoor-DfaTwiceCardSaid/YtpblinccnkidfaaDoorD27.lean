/-
  long and first of the law of least words: what n signs reach from a state. No condition.
  The least length, by levels; that nothing ahead of a word is taken. No condition.
  DfaLeast's function answers true. No condition.
-/
import Derived.Test.YtpblinccnkidfaaDoorD24
import Derived.Test.YtpblinccnkidfaaDoorTh7
set_option linter.unusedVariables false
set_option linter.unusedSimpArgs false
set_option maxHeartbeats 1000000
set_option maxRecDepth 100000
namespace Go.Abs
open Go.Proofs Go.Aut
attribute [-simp] getElem?_pos Option.not_isSome List.map_map
theorem f_law11_long {a : Aut} (ha : a.ok) (hn : a.n ≤ 500) (p n : Nat) (hp : p < a.n) (hnn : n ≤ 1000) (R : Bool) (hR : R = true ↔ ∃ t, Rch a p n t ∧ a.F t = true) : Fn Tryd.prog n_law11_long [.strct (Aut.c a), nV p, nV n] (.bool R) := by
  refine Fn.of_image mixed h_law11_long i_law11_long rfl fun ho => ?_
  unfold c_law11_long
  simp only [oks, ok, and_true] at ho
  clear ho
  have hnl : a.next.length = a.n := rfl
  have hfl : a.final.length = a.n := ha.fin
  have yes : ∀ t, Rch a p n t → a.F t = true → R = true := fun t h1 h2 => hR.2 ⟨t, h1, h2⟩
  have no : (∀ t, Rch a p n t → a.F t = false) → R = false := fun h => by
    cases R with
    | false => rfl
    | true =>
      obtain ⟨t, h1, h2⟩ := hR.1 rfl
      rw [h t h1] at h2; cases h2
  clear hR
  replace yes := hid yes
  replace no := hid no
  simp (disch := omega) [-List.reduceReplicate, Aut.c, hnl]
  refine W_loop (fun (x : Nat × List Bool) => ⟨[(2, nV n), (3, .ptr 0 0), (7, .ref 1 a.n), (8, nV x.1)], [some (.box (Aut.c a)), some (.arr ty_bool 1 (x.2.map V.bool))]⟩) (fun x => x.1 ≤ n ∧ Lev a p x.1 x.2) (fun x => n - x.1) [] _ (0, (List.replicate a.n false).set p true) rfl (by simp [Aut.c, List.map_set, -List.reduceReplicate]) ⟨by simp, Lev.begin hp⟩ ?_
  rintro ⟨k, S⟩ ⟨hk, hS⟩ N hN
  simp only at hk hS
  have hSl := hS.1
  rcases Nat.lt_or_ge k n with hlt | hge
  · simp (disch := omega) [-List.reduceReplicate, Aut.c, hnl]
    refine W_loop (fun (x : Nat × List Bool) => ⟨[(2, nV n), (3, .ptr 0 0), (7, .ref 1 a.n), (8, nV k), (9, .ref 2 a.n), (10, nV x.1)], [some (.box (Aut.c a)), some (.arr ty_bool 1 (S.map V.bool)), some (.arr ty_bool 1 (x.2.map V.bool))]⟩) (fun x => x.1 ≤ a.n ∧ LevP a p k x.1 0 x.2) (fun x => a.n - x.1) [] _ (0, List.replicate a.n false) rfl (by simp [Aut.c, -List.reduceReplicate]) ⟨by simp, LevP.begin⟩ ?_
    rintro ⟨q, T⟩ ⟨hq, hT⟩ M hM
    simp only at hq hT
    have hTl := hT.1
    rcases Nat.lt_or_ge q a.n with hqlt | hqge
    · obtain ⟨b, hb⟩ := get_lt (l := S) (k := q) (by omega)
      simp (disch := omega) [-List.reduceReplicate, Aut.c]
      refine W_loop (fun (x : Nat × List Bool) => ⟨[(2, nV n), (3, .ptr 0 0), (7, .ref 1 a.n), (8, nV k), (9, .ref 2 a.n), (10, nV q), (11, nV x.1)], [some (.box (Aut.c a)), some (.arr ty_bool 1 (S.map V.bool)), some (.arr ty_bool 1 (x.2.map V.bool))]⟩) (fun x => x.1 ≤ 95 ∧ LevP a p k q x.1 x.2) (fun x => 95 - x.1) [] _ (0, T) rfl (by simp [Aut.c]) ⟨by simp, hT⟩ ?_
      rintro ⟨c, T'⟩ ⟨hc, hT'⟩ Q hQ
      simp only at hc hT'
      have hTl' := hT'.1
      rcases Nat.lt_or_ge c 95 with hc95 | hc95
      · cases b with
        | false =>
          have hno : ¬Rch a p k q := fun h => by
            have := (hS.2 q).2 h
            rw [hb] at this; cases this
          simp (disch := omega) [-List.reduceReplicate, Aut.c, hb]
          exact hM.out _ <| Nx.mk (q + 1, T') (by simp [Aut.c]) ⟨by simp only; omega, hT'.skip hno⟩ (by simp only; omega)
        | true =>
          have hyes : Rch a p k q := (hS.2 q).1 hb
          obtain ⟨rr, t, hr1, hr2, hr3, hr4⟩ := ha.rows.dl (q := q) (c := c) (by omega) hc95
          have hδ : a.δ q c = t := hr3
          have ht4 : t < a.n := hr4
          have hput := hT'.put ha hyes hqlt hc95
          rw [hδ] at hput
          obtain ⟨b', hb'⟩ := get_lt (l := T') (k := t) (by omega)
          simp (disch := omega) [-List.reduceReplicate, Aut.c, hb, hr1, hr2, hb']
          exact hQ.out _ <| Nx.mk (c + 1, T'.set t true) (by simp [Aut.c, List.map_set]) ⟨by simp only; omega, hput⟩ (by simp only; omega)
      · have : c = 95 := by omega
        subst this
        simp (disch := omega) [-List.reduceReplicate, Aut.c]
        exact hM.out _ <| Nx.mk (q + 1, T') (by simp [Aut.c]) ⟨by simp only; omega, hT'.next⟩ (by simp only; omega)
    · have : q = a.n := by omega
      subst this
      simp (disch := omega) [-List.reduceReplicate, Aut.c]
      exact hN.out _ <| Nx.mk (k + 1, T) (by simp [Aut.c]) ⟨by simp only; omega, hT.full ha hp⟩ (by simp only; omega)
  · have : k = n := by omega
    subst this
    simp (disch := omega) [-List.reduceReplicate, Aut.c]
    refine W_loop (fun q : Nat => ⟨[(3, .ptr 0 0), (7, .ref 1 a.n), (13, nV q)], [some (.box (Aut.c a)), some (.arr ty_bool 1 (S.map V.bool))]⟩) (fun q => q ≤ a.n ∧ ∀ t < q, Rch a p k t → a.F t = false) (fun q => a.n - q) [] _ 0 rfl (by simp [Aut.c]) ⟨by simp, fun t ht => by omega⟩ ?_
    rintro q ⟨hq, hi⟩ M hM
    rcases Nat.lt_or_ge q a.n with hqlt | hqge
    · obtain ⟨b, hb⟩ := get_lt (l := S) (k := q) (by omega)
      obtain ⟨f, hf⟩ := get_lt (l := a.final) (k := q) (by omega)
      have hF : a.F q = f := by simp [Aut.F, fin, hf]
      have more : (b = true → f = false) → ∀ t < q + 1, Rch a p k t → a.F t = false := fun h t ht hr => by
        rcases Nat.lt_or_ge t q with g | g
        · exact hi t g hr
        · have : t = q := by omega
          subst this
          have := (hS.2 t).2 hr
          rw [hb] at this
          rw [hF]; exact h (by simpa using this)
      cases b with
      | false =>
        simp (disch := omega) [-List.reduceReplicate, Aut.c, hb]
        exact hM.out _ <| Nx.mk (q + 1) (by simp [Aut.c]) ⟨by omega, more (by simp)⟩ (by omega)
      | true =>
        cases f with
        | false =>
          simp (disch := omega) [-List.reduceReplicate, Aut.c, hb, hf]
          exact hM.out _ <| Nx.mk (q + 1) (by simp [Aut.c]) ⟨by omega, more (by simp)⟩ (by omega)
        | true =>
          simp (disch := omega) [-List.reduceReplicate, Aut.c, hb, hf]
          rw [yes.out q ((hS.2 q).1 hb) hF]
    · simp (disch := omega) [-List.reduceReplicate, Aut.c]
      rw [no.out fun t ht => hi t (by have := ht.lt ha hp; omega) ht]
end Go.Abs
set_option linter.unusedVariables false
set_option linter.unusedSimpArgs false
set_option maxHeartbeats 1000000
set_option maxRecDepth 100000
namespace Go.Abs
open Go.Proofs Go.Aut
attribute [-simp] getElem?_pos Option.not_isSome List.map_map
theorem f_ref11_Least {a : Aut} (ha : a.ok) (hn : a.n ≤ 500) (r : Option (List Nat)) (hr : IsLeast a.δ 0 a.F r) : Fn Tryd.prog n_ref11_Least [.strct (Aut.c a)] (.int .i64 (lenZ r)) := by
  refine Fn.of_image mixed h_ref11_Least i_ref11_Least rfl fun ho => ?_
  unfold c_ref11_Least
  simp only [oks, ok, and_true] at ho
  clear ho
  obtain ⟨R, hR⟩ : ∃ R, R = lenZ r := ⟨_, rfl⟩
  rw [← hR]
  have hnl : a.next.length = a.n := rfl
  have hfl : a.final.length = a.n := ha.fin
  have hpos := ha.pos
  have yes : ∀ k t, Rch a 0 k t → a.F t = true → (∀ j < k, ∀ t, Rch a 0 j t → a.F t = false) → R = k := fun k t h1 h2 h3 => by
    obtain ⟨w, rfl, hw⟩ := hr.lev h1 h2
    rcases Nat.lt_or_ge w.length k with g | g
    · have := h3 _ g _ ⟨w, rfl, hr.1, rfl⟩
      rw [hr.2.1] at this; cases this
    · rw [hR, lenZ]; omega
  have no : (∀ k ≤ a.n, ∀ t, Rch a 0 k t → a.F t = false) → R = -1 := fun h => by
    cases r with
    | none => exact hR
    | some w =>
      have := hr.short ha
      have := h w.length (by omega) _ ⟨w, rfl, hr.1, rfl⟩
      rw [hr.2.1] at this; cases this
  clear hR hr
  replace yes := hid yes
  replace no := hid no
  simp (disch := omega) [-List.reduceReplicate, Aut.c, hnl]
  refine W_loop (fun (x : Nat × List Bool) => ⟨[(1, .ptr 0 0), (3, nV a.n), (4, .ref 1 a.n), (5, nV x.1)], [some (.box (Aut.c a)), some (.arr ty_bool 1 (x.2.map V.bool))]⟩) (fun x => x.1 ≤ a.n + 1 ∧ Lev a 0 x.1 x.2 ∧ ∀ j < x.1, ∀ t, Rch a 0 j t → a.F t = false) (fun x => a.n + 1 - x.1) [] _ (0, (List.replicate a.n false).set 0 true) rfl (by simp [Aut.c, List.map_set, -List.reduceReplicate]) ⟨by simp, Lev.begin hpos, fun j hj => by simp at hj⟩ ?_
  rintro ⟨k, S⟩ ⟨hk, hS, hprev⟩ N hN
  simp only at hk hS hprev
  have hSl := hS.1
  rcases Nat.lt_or_ge a.n k with hge | hlt
  · simp (disch := omega) [-List.reduceReplicate, Aut.c, hnl]
    rw [no.out fun j hj => hprev j (by omega)]
  · simp (disch := omega) [-List.reduceReplicate, Aut.c, hnl]
    refine W_loop (fun (x : Nat × List Bool) => ⟨[(1, .ptr 0 0), (3, nV a.n), (4, .ref 1 a.n), (5, nV k), (6, .ref 2 a.n), (7, nV x.1)], [some (.box (Aut.c a)), some (.arr ty_bool 1 (S.map V.bool)), some (.arr ty_bool 1 (x.2.map V.bool))]⟩) (fun x => x.1 ≤ a.n ∧ LevP a 0 k x.1 0 x.2 ∧ ∀ t < x.1, Rch a 0 k t → a.F t = false) (fun x => a.n - x.1) [] _ (0, List.replicate a.n false) rfl (by simp [Aut.c, -List.reduceReplicate]) ⟨by simp, LevP.begin, fun t ht => by simp at ht⟩ ?_
    rintro ⟨q, T⟩ ⟨hq, hT, hnof⟩ M hM
    simp only at hq hT hnof
    have hTl := hT.1
    rcases Nat.lt_or_ge q a.n with hqlt | hqge
    · obtain ⟨b, hb⟩ := get_lt (l := S) (k := q) (by omega)
      obtain ⟨f, hf⟩ := get_lt (l := a.final) (k := q) (by omega)
      have hF : a.F q = f := by simp [Aut.F, fin, hf]
      have more : (b = true → f = false) → ∀ t < q + 1, Rch a 0 k t → a.F t = false := fun h t ht hr => by
        rcases Nat.lt_or_ge t q with g | g
        · exact hnof t g hr
        · have : t = q := by omega
          subst this
          have := (hS.2 t).2 hr
          rw [hb] at this
          rw [hF]; exact h (by simpa using this)
      cases b with
      | false =>
        have hno : ¬Rch a 0 k q := fun h => by
          have := (hS.2 q).2 h
          rw [hb] at this; cases this
        simp (disch := omega) [-List.reduceReplicate, Aut.c, hb]
        refine W_loop (fun x : Nat => ⟨[(1, .ptr 0 0), (3, nV a.n), (4, .ref 1 a.n), (5, nV k), (6, .ref 2 a.n), (7, nV q), (8, nV x)], [some (.box (Aut.c a)), some (.arr ty_bool 1 (S.map V.bool)), some (.arr ty_bool 1 (T.map V.bool))]⟩) (fun x => x = 0) (fun x => 95 - x) [] _ 0 rfl (by simp [Aut.c]) (by simp) ?_
        rintro c hc Q hQ
        subst hc
        simp (disch := omega) [-List.reduceReplicate, Aut.c, hb]
        exact hM.out _ <| Nx.mk (q + 1, T) (by simp [Aut.c]) ⟨by simp only; omega, hT.skip hno, more (by simp)⟩ (by simp only; omega)
      | true =>
        have hyes : Rch a 0 k q := (hS.2 q).1 hb
        cases f with
        | true =>
          simp (disch := omega) [-List.reduceReplicate, Aut.c, hb, hf]
          rw [yes.out k q hyes hF hprev]
        | false =>
          simp (disch := omega) [-List.reduceReplicate, Aut.c, hb, hf]
          refine W_loop (fun (x : Nat × List Bool) => ⟨[(1, .ptr 0 0), (3, nV a.n), (4, .ref 1 a.n), (5, nV k), (6, .ref 2 a.n), (7, nV q), (8, nV x.1)], [some (.box (Aut.c a)), some (.arr ty_bool 1 (S.map V.bool)), some (.arr ty_bool 1 (x.2.map V.bool))]⟩) (fun x => x.1 ≤ 95 ∧ LevP a 0 k q x.1 x.2) (fun x => 95 - x.1) [] _ (0, T) rfl (by simp [Aut.c]) ⟨by simp, hT⟩ ?_
          rintro ⟨c, T'⟩ ⟨hc, hT'⟩ Q hQ
          simp only at hc hT'
          have hTl' := hT'.1
          rcases Nat.lt_or_ge c 95 with hc95 | hc95
          · obtain ⟨rr, t, hr1, hr2, hr3, hr4⟩ := ha.rows.dl (q := q) (c := c) (by omega) hc95
            have hδ : a.δ q c = t := hr3
            have ht4 : t < a.n := hr4
            have hput := hT'.put ha hyes hqlt hc95
            rw [hδ] at hput
            obtain ⟨b', hb'⟩ := get_lt (l := T') (k := t) (by omega)
            simp (disch := omega) [-List.reduceReplicate, Aut.c, hb, hr1, hr2, hb']
            exact hQ.out _ <| Nx.mk (c + 1, T'.set t true) (by simp [Aut.c, List.map_set]) ⟨by simp only; omega, hput⟩ (by simp only; omega)
          · have : c = 95 := by omega
            subst this
            simp (disch := omega) [-List.reduceReplicate, Aut.c]
            exact hM.out _ <| Nx.mk (q + 1, T') (by simp [Aut.c]) ⟨by simp only; omega, hT'.next, more (by simp)⟩ (by simp only; omega)
    · have : q = a.n := by omega
      subst this
      simp (disch := omega) [-List.reduceReplicate, Aut.c]
      refine hN.out _ <| Nx.mk (k + 1, T) (by simp [Aut.c]) ⟨by simp only; omega, hT.full ha hpos, fun j hj t ht => ?_⟩ (by simp only; omega)
      rcases Nat.lt_or_ge j k with g | g
      · exact hprev j g t ht
      · have : j = k := by simp only at hj; omega
        subst this
        exact hnof t (ht.lt ha hpos) ht
theorem wordS_len (w : List Nat) : (wordS w).length = w.length := by simp [wordS]
theorem wordS_at {w : List Nat} (hw : ∀ c ∈ w, c < 95) {i c : Nat} (h : w[i]? = some c) : ∃ b, (wordS w)[i]? = some b ∧ b.toNat = 32 + c := by
  have := hw c (List.mem_of_getElem? h)
  refine ⟨UInt8.ofNat (32 + c), by simp [wordS, h], ?_⟩
  rw [UInt8.toNat_ofNat']
  omega
theorem f_law11_first {a : Aut} (ha : a.ok) (hn : a.n ≤ 500) (w : List Nat) (hr : IsLeast a.δ 0 a.F (some w)) : Fn Tryd.prog n_law11_first [.strct (Aut.c a), .str (wordS w)] (.bool true) := by
  refine Fn.of_image mixed h_law11_first i_law11_first rfl fun ho => ?_
  unfold c_law11_first
  simp only [oks, ok, and_true] at ho
  clear ho
  have hnl : a.next.length = a.n := rfl
  have hpos := ha.pos
  have hwl := hr.short ha
  have hw95 := hr.1
  have hlen := wordS_len w
  have hat : ∀ {i c : Nat}, w[i]? = some c → ∃ b, (wordS w)[i]? = some b ∧ b.toNat = 32 + c := fun h => wordS_at hw95 h
  obtain ⟨W, hW⟩ : ∃ W, W = wordS w := ⟨_, rfl⟩
  rw [← hW] at hlen ⊢
  simp only [← hW] at hat
  clear hW
  simp (disch := omega) [-List.reduceReplicate, Aut.c, hnl]
  refine W_loop (fun (x : Nat × Nat) => ⟨[(1, .str W), (2, .ptr 0 0), (5, nV x.2), (6, nV x.1)], [some (.box (Aut.c a))]⟩) (fun x => x.1 ≤ w.length ∧ x.2 < a.n ∧ x.2 = (w.take x.1).foldl a.δ 0) (fun x => w.length - x.1) [] _ (0, 0) rfl (by simp [Aut.c]) ⟨by simp, hpos, by simp⟩ ?_
  rintro ⟨i, q⟩ ⟨hi, hq, hqe⟩ N hN
  simp only at hi hq hqe
  rcases Nat.lt_or_ge i w.length with hlt | hge
  · obtain ⟨c, hc⟩ := get_lt (l := w) (k := i) hlt
    have hc95 := hw95 c (List.mem_of_getElem? hc)
    obtain ⟨b, hb1, hb2⟩ := hat hc
    have hcv : (b.toNat : Int) - 32 = (c : Int) := by omega
    simp (disch := omega) [-List.reduceReplicate, Aut.c, hb1, hcv]
    refine W_loop (fun x : Nat => ⟨[(1, .str W), (2, .ptr 0 0), (5, nV q), (6, nV i), (7, nV c), (8, nV x)], [some (.box (Aut.c a))]⟩) (fun x => x ≤ c) (fun x => c - x) [] _ 0 rfl (by simp [Aut.c]) (by simp) ?_
    rintro j hj M hM
    rcases Nat.lt_or_ge j c with hjc | hjc
    · obtain ⟨rr, t, hr1, hr2, hr3, hr4⟩ := ha.rows.dl (q := q) (c := j) (by omega) (by omega)
      have hδ : a.δ q j = t := hr3
      have ht4 : t < a.n := hr4
      obtain ⟨m, hm⟩ : ∃ m, m = w.length - i - 1 := ⟨_, rfl⟩
      have hmv : (w.length : Int) - (i : Int) - 1 = (m : Int) := by omega
      have hlong := f_law11_long ha hn t m ht4 (by omega) false ⟨(fun h => by cases h), fun ⟨u, h1, h2⟩ => by
        rw [hm, ← hδ, hqe] at h1
        rw [hr.first hc hjc h1] at h2; exact h2⟩
      simp [Aut.c] at hlong
      simp (disch := omega) [-List.reduceReplicate, Aut.c, hr1, hr2, hlen, hmv]
      refine wcall_flat hlong rfl fun _ => ?_
      simp (disch := omega) [-List.reduceReplicate]
      exact hM.out _ <| Nx.mk (j + 1) (by simp [Aut.c]) (by omega) (by omega)
    · have : j = c := by omega
      subst this
      obtain ⟨rr, t, hr1, hr2, hr3, hr4⟩ := ha.rows.dl (q := q) (c := j) (by omega) (by omega)
      have hδ : a.δ q j = t := hr3
      have ht4 : t < a.n := hr4
      simp (disch := omega) [-List.reduceReplicate, Aut.c, hr1, hr2]
      exact hN.out _ <| Nx.mk (i + 1, t) (by simp [Aut.c]) ⟨by simp only; omega, ht4, by simp only; rw [take_snoc hc, List.foldl_append, ← hqe]; exact hδ.symm⟩ (by simp only; omega)
  · simp (disch := omega) [-List.reduceReplicate, Aut.c]
end Go.Abs
set_option linter.unusedVariables false
set_option linter.unusedSimpArgs false
set_option maxHeartbeats 1000000
set_option maxRecDepth 100000
namespace Go.Abs
open Go.Proofs Go.Aut
attribute [-simp] getElem?_pos Option.not_isSome List.map_map
theorem sgn_of {c : Nat} (h : c < 95) : sgn (UInt8.ofNat (32 + c)) = true ∧ (UInt8.ofNat (32 + c)).toNat = 32 + c := by
  have : (UInt8.ofNat (32 + c)).toNat = 32 + c := by rw [UInt8.toNat_ofNat']; omega
  refine ⟨?_, this⟩
  simp only [sgn, this, Bool.and_eq_true, decide_eq_true_eq]
  omega
theorem acc_wordS {a : Aut} : ∀ (w : List Nat) (q : Nat), (∀ c ∈ w, c < 95) → accS a q (wordS w) = a.F (w.foldl a.δ q)
  | [], q, _ => rfl
  | c :: w, q, h => by
    obtain ⟨h1, h2⟩ := sgn_of (h c (by simp))
    have e : 32 + c - 32 = c := by omega
    simp only [wordS, List.map_cons, accS, h1, if_true, h2, e, List.foldl_cons]
    exact acc_wordS w _ fun c hc => h c (by simp [hc])
theorem acc_word {a : Aut} : ∀ (s : Str) (q : Nat), accS a q s = true → ∃ v : List Nat, (∀ c ∈ v, c < 95) ∧ s = wordS v ∧ a.F (v.foldl a.δ q) = true
  | [], q, h => ⟨[], by simp, rfl, h⟩
  | b :: s, q, h => by
    simp only [accS] at h
    split at h
    · rename_i hs
      simp only [sgn, Bool.and_eq_true, decide_eq_true_eq] at hs
      obtain ⟨v, h1, h2, h3⟩ := acc_word s _ h
      refine ⟨(b.toNat - 32) :: v, fun c hc => ?_, ?_, by simpa using h3⟩
      · rcases List.mem_cons.1 hc with rfl | hc
        · omega
        · exact h1 c hc
      · have : 32 + (b.toNat - 32) = b.toNat := by omega
        simp only [wordS, List.map_cons, this, UInt8.ofNat_toNat]
        rw [h2]; rfl
    · cases h
theorem wordS_less : ∀ (u v : List Nat), (∀ c ∈ u, c < 95) → (∀ c ∈ v, c < 95) → u.length = v.length → Op.bytesLess (wordS u) (wordS v) = true → lexW u v
  | [], [], _, _, _, h => by simp [wordS, Op.bytesLess] at h
  | [], _ :: _, _, _, hl, _ => by simp at hl
  | _ :: _, [], _, _, hl, _ => by simp at hl
  | a :: u, b :: v, hu, hv, hl, h => by
    have ha := hu a (by simp)
    have hb := hv b (by simp)
    have h1 := (sgn_of ha).2
    have h2 := (sgn_of hb).2
    simp only [wordS, List.map_cons, Op.bytesLess, Bool.or_eq_true, Bool.and_eq_true, decide_eq_true_eq, beq_iff_eq, UInt8.lt_iff_toNat_lt, h1, h2] at h
    rcases h with h | ⟨h, h3⟩
    · exact .inl (by omega)
    · have : a = b := by
        have := congrArg UInt8.toNat h
        rw [h1, h2] at this; omega
      exact .inr ⟨this, wordS_less u v (fun c hc => hu c (by simp [hc])) (fun c hc => hv c (by simp [hc])) (by simpa using hl) h3⟩
theorem f_law11_DfaLeast (l : List (List Int)) (ff : List Bool) (s : Str) : FnE Tryd.prog n_law11_DfaLeast [.seq 1 (l.map rowZ), finN ff, .str s] (.bool true) := by
  refine FnE.of_image mixed h_law11_DfaLeast i_law11_DfaLeast rfl fun ho => ?_
  unfold c_law11_DfaLeast
  clear ho
  obtain ⟨hg, hg5, _⟩ := goodA_ok l ff
  have hgood := f_ref11_Good l ff
  obtain ⟨g, hgd⟩ : ∃ g, g = goodA l ff := ⟨_, rfl⟩
  rw [← hgd] at hg hg5 hgood
  clear hgd
  have hfew := f_law11_few s
  have hsl : (s.take 10).length ≤ 10 := by simp; omega
  obtain ⟨s', hs'⟩ : ∃ s', s' = s.take 10 := ⟨_, rfl⟩
  rw [← hs'] at hfew hsl
  have hD : ∀ q c, q < g.n → c < 95 → g.δ q c < g.n := fun q c hq hc => hg.lt hq hc
  obtain ⟨r, hr⟩ := leastGo_ends hD (fun l h1 h2 => nodup_le _ l h2 h1) (good := g.F) (g.n + 1) 0 [0] [[]] (LInv.begin hg.pos) (by simp) (by omega)
  have hI : IsLeast g.δ 0 g.F r := leastGo_spec hD _ _ _ _ r (LInv.begin hg.pos) (by simp) (fun k hk => by omega) hr
  have hle := f_dfa_Least hg (by omega) r hr
  have hrl := f_ref11_Least hg (by omega) r hI
  have hfg := f_ref11_From hg (by omega) 0 hg.pos s'
  have hlives := f_law11_lives
  cases r with
  | none =>
    simp only [lenZ] at hrl
    simp [Aut.c, resL] at hgood hle hrl
    simp (disch := omega) [-List.reduceReplicate]
    refine wcall_pure hgood (by simp) fun _ => ?_
    simp (disch := omega) [-List.reduceReplicate, Aut.c]
    refine wcall_flat hle rfl fun _ => ?_
    simp (disch := omega) [-List.reduceReplicate]
    refine wcall_flat hrl rfl fun _ => ?_
    simp (disch := omega) [-List.reduceReplicate]
    refine wcall_flat hlives rfl fun _ => ?_
    simp (disch := omega) [-List.reduceReplicate]
  | some w =>
    have hfw := f_ref11_From hg (by omega) 0 hg.pos (wordS w)
    rw [acc_wordS w 0 hI.1, hI.2.1] at hfw
    have hfi := f_law11_first hg (by omega) w hI
    have hwl := wordS_len w
    have hws := hI.short hg
    have hless : (s'.length < (wordS w).length ∨ (s'.length = (wordS w).length ∧ Op.bytesLess s' (wordS w) = true)) → accS g 0 s' = false := fun h => by
      cases hA : accS g 0 s' with
      | false => rfl
      | true =>
        obtain ⟨v, h1, h2, h3⟩ := acc_word s' 0 hA
        refine absurd ?_ (hI.2.2 v h1 h3)
        rw [h2, wordS_len, wordS_len] at h
        rcases h with h | ⟨h, h4⟩
        · exact .inl h
        · exact .inr ⟨h, wordS_less v w h1 hI.1 h h4⟩
    obtain ⟨W', hW⟩ : ∃ W', W' = wordS w := ⟨_, rfl⟩
    rw [← hW] at hfw hfi hwl
    rw [resL, ← hW] at hle
    simp only [← hW] at hless
    obtain ⟨m, hm⟩ : ∃ m : Nat, m = w.length := ⟨_, rfl⟩
    rw [lenZ, ← hm] at hrl
    rw [← hm] at hwl hws
    clear hI hr hW hm
    simp [Aut.c] at hgood hle hrl hfg hfw hfi
    simp (disch := omega) [-List.reduceReplicate]
    refine wcall_pure hgood (by simp) fun _ => ?_
    simp (disch := omega) [-List.reduceReplicate, Aut.c]
    refine wcall_flat hle rfl fun _ => ?_
    simp (disch := omega) [-List.reduceReplicate]
    refine wcall_flat hrl rfl fun _ => ?_
    simp (disch := omega) [-List.reduceReplicate, hwl]
    refine wcall_flat hfw rfl fun _ => ?_
    simp (disch := omega) [-List.reduceReplicate]
    refine wcall_flat hfew rfl fun _ => ?_
    rw [hwl] at hless
    by_cases h1 : s'.length < m
    · rw [hless (.inl h1)] at hfg
      simp (disch := omega) [-List.reduceReplicate, hwl, h1]
      refine wcall_flat hfg rfl fun _ => ?_
      simp (disch := omega) [-List.reduceReplicate]
      refine wcall_flat hfi rfl fun _ => ?_
      simp (disch := omega) [-List.reduceReplicate]
      refine wcall_flat hlives rfl fun _ => ?_
      simp (disch := omega) [-List.reduceReplicate]
    · by_cases h2 : s'.length = m
      · have h2' : (s'.length : Int) = (m : Int) := by omega
        cases hB : Op.bytesLess s' W' with
        | true =>
          rw [hless (.inr ⟨h2, hB⟩)] at hfg
          simp (disch := omega) [-List.reduceReplicate, hwl, h1, h2', hB]
          refine wcall_flat hfg rfl fun _ => ?_
          simp (disch := omega) [-List.reduceReplicate]
          refine wcall_flat hfi rfl fun _ => ?_
          simp (disch := omega) [-List.reduceReplicate]
          refine wcall_flat hlives rfl fun _ => ?_
          simp (disch := omega) [-List.reduceReplicate]
        | false =>
          simp (disch := omega) [-List.reduceReplicate, hwl, h1, h2', hB]
          refine wcall_flat hfi rfl fun _ => ?_
          simp (disch := omega) [-List.reduceReplicate]
          refine wcall_flat hlives rfl fun _ => ?_
          simp (disch := omega) [-List.reduceReplicate]
      · have h2' : ¬(s'.length : Int) = (m : Int) := by omega
        simp (disch := omega) [-List.reduceReplicate, hwl, h1, h2']
        refine wcall_flat hfi rfl fun _ => ?_
        simp (disch := omega) [-List.reduceReplicate]
        refine wcall_flat hlives rfl fun _ => ?_
        simp (disch := omega) [-List.reduceReplicate]
end Go.Abs
