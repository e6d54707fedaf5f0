/-
  What strainerref09's class makes: a set of signs. No condition.
-/
import Derived.Test.YtjhcljlogdcbbaaGreatF20
set_option linter.unusedVariables false
set_option linter.unusedSimpArgs false
set_option maxHeartbeats 4000000
set_option maxRecDepth 100000
namespace Go.Abs
open Go.Proofs
attribute [-simp] getElem?_pos Option.not_isSome
def stepP (p : PS) : PS := { p with at' := p.at' + 1 }
def badP (p : PS) : PS := { p with bad := true }
def odd4 : Str := [92, 93, 45, 94]
def clsLow (p : PS) : PS × Nat := plainP p odd4
def clsHigh (p : PS) : PS × Nat := if isP (clsLow p).1 45 then plainP (stepP (clsLow p).1) odd4 else clsLow p
def clsP (p : PS) : PS := if (clsHigh p).2 < (clsLow p).2 then badP (clsHigh p).1 else (clsHigh p).1
def clsSet (p : PS) (set : List Bool) : List Bool := if (clsP p).bad then set else tab 95 (signF set (clsLow p).2 (clsHigh p).2)
/-- Small enough. -/
def lim (p : PS) : Bool := decide (p.at' ≤ 1000) && (decide (p.n.length ≤ 900) && decide (p.s.length ≤ 1000))
def clsGo : Nat → PS → List Bool → Nat → Option (PS × List Bool)
  | 0, _, _, _ => none
  | fuel + 1, p, set, n => if lim p then (if !p.bad && (decide (n = 0) || !isP p 93) then clsGo fuel (clsP p) (clsSet p set) (n + 1) else some (p, set)) else none
def classF (fuel : Nat) (p : PS) : Option (PS × Nat) :=
  match clsGo fuel (if isP p 94 then stepP p else p) [] 0 with
  | some (q, set) => some (addP (stepP (if isP q 93 then q else badP q)) ⟨115, tab 95 (fun i => (((set[i]?).getD false) != isP p 94)), []⟩, q.n.length)
  | none => none
theorem plainP_n (p : PS) (o : Str) : (plainP p o).1.n = p.n ∧ (plainP p o).1.s = p.s ∧ (plainP p o).1.at' ≤ p.at' + 2 := by
  unfold plainP
  cases isP p 92 <;> simp <;> (split <;> (try split)) <;> simp
theorem clsGo_lim : ∀ {fuel : Nat} {p : PS} {set : List Bool} {n : Nat} {r : PS × List Bool}, clsGo fuel p set n = some r → lim p = true ∧ lim r.1 = true
  | 0, _, _, _, _, h => by simp [clsGo] at h
  | fuel + 1, p, set, n, r, h => by
    simp only [clsGo] at h
    split at h
    · rename_i hl
      split at h
      · exact ⟨hl, (clsGo_lim h).2⟩
      · cases h; exact ⟨hl, hl⟩
    · cases h
theorem lim_spec {p : PS} (h : lim p = true) : p.at' ≤ 1000 ∧ p.n.length ≤ 900 ∧ p.s.length ≤ 1000 := by
  simpa [lim] using h
/-- What a register holds of a set. -/
def setS (set : List Bool) (v : V) : Prop := (v = .nil 1 ∧ set = []) ∨ v = .seq 1 (set.map .bool)
theorem f_ref09_class (fuel : Nat) (p : PS) (q : PS) (k : Nat) (hr : classF fuel p = some (q, k)) (hl : lim p = true) (hfu : fuel ≤ 1000000) : Fn Tryz.prog n_ref09_class [p.v] (.tup [q.v, .int .i64 k]) := by
  refine Fn.of_image mixed h_ref09_class i_ref09_class rfl fun ho => ?_
  unfold c_ref09_class
  simp only [oks, ok, and_true] at ho
  clear ho
  have hl0 := lim_spec hl
  unfold classF at hr
  obtain ⟨R, hR⟩ : ∃ R, R = (V.tup [q.v, .int .i64 k]) := ⟨_, rfl⟩
  rw [← hR]
  simp (disch := omega) [PS.v]
  refine wcall_flat (by simpa [PS.v] using f_ref09_is p 94) rfl fun _ => ?_
  generalize hp1 : (if isP p 94 = true then stepP p else p) = p1 at hr
  split at hr
  · rename_i q0 set0 hgo
    simp only [Option.some.injEq, Prod.mk.injEq] at hr
    obtain ⟨hq, hk⟩ := hr
    generalize hb : isP p 94 = neg at hp1 hq
    have hl1 := (clsGo_lim hgo).2
    cases neg
    all_goals
      simp only [Bool.false_eq_true, if_false, if_true] at hp1
      simp (disch := omega) []
      refine W_loop (fun (x : Nat × PS × List Bool × V × Nat) => ⟨[(1, .ptr 0 0), (2, .ptr 1 0), (4, .bool (isP p 94)), (5, x.2.2.2.1), (6, .int .i64 x.2.2.2.2)],
          [some (.box [.seq 3 (x.2.1.n.map Part.v), .str x.2.1.s, .int .i64 x.2.1.at', .bool x.2.1.bad]), some (.box [.nil 3, .str [], .int .i64 0, .bool false])]⟩)
        (fun x => clsGo x.1 x.2.1 x.2.2.1 x.2.2.2.2 = some (q0, set0) ∧ setS x.2.2.1 x.2.2.2.1 ∧ x.1 + x.2.2.2.2 = fuel) (fun x => x.1) [] _ (fuel, p1, [], .nil 1, 0) rfl (by simp [← hp1, hb, stepP]) ⟨hgo, .inl ⟨rfl, rfl⟩, rfl⟩ ?_
      rintro ⟨f, r, set, sv, n⟩ ⟨hi, hsv, hfn⟩ N hN
      simp only at hi hsv hfn
      cases f with
      | zero => simp [clsGo] at hi
      | succ f =>
      have hl2 := lim_spec (clsGo_lim hi).1
      have hl3 := (clsGo_lim hi).1
      simp only [clsGo, hl3, if_true] at hi
      have hex : (r.bad = true ∨ (r.bad = false ∧ n ≠ 0 ∧ isP r 93 = true)) ∨ ((r.bad = false ∧ n = 0) ∨ (r.bad = false ∧ n ≠ 0 ∧ isP r 93 = false)) := by
        cases r.bad <;> cases isP r 93 <;> simp
        all_goals omega
      rcases hex with hex | hex
      · have hc : (!r.bad && (decide (n = 0) || !isP r 93)) = false := by
          rcases hex with h | ⟨h, h', h''⟩ <;> simp [h]
          simp [h', h'']
        simp only [hc, Bool.false_eq_true, if_false, Option.some.injEq, Prod.mk.injEq] at hi
        obtain ⟨rfl, rfl⟩ := hi
        clear hN hc
        have hn0 : r.bad = true ∨ (n ≠ 0 ∧ isP r 93 = true) := by
          rcases hex with h | ⟨_, h, h'⟩
          · exact .inl h
          · exact .inr ⟨h, h'⟩
        clear hex
        generalize hbd : r.bad = bd at hn0
        obtain ⟨X, hX⟩ : ∃ X, X = (if isP r 93 = true then r else badP r) := ⟨_, rfl⟩
        rw [← hX] at hq
        have hXn : X.n = r.n ∧ X.s = r.s ∧ X.at' = r.at' := by rw [hX]; split <;> simp [badP]
        have hXb : X.bad = (bd || !isP r 93) := by rw [hX, ← hbd]; cases isP r 93 <;> simp [badP]
        have h3 : (bd = true ∧ isP r 93 = false) ∨ (bd = true ∧ isP r 93 = true) ∨ (bd = false ∧ n ≠ 0 ∧ isP r 93 = true) := by
          rcases hn0 with h | ⟨h, h'⟩
          · cases hh : isP r 93
            · exact .inl ⟨h, rfl⟩
            · exact .inr (.inl ⟨h, rfl⟩)
          · cases bd
            · exact .inr (.inr ⟨rfl, h, h'⟩)
            · exact .inr (.inl ⟨rfl, h'⟩)
        clear hn0
        have hmid : ∀ Y : V, True := fun _ => trivial
        clear hmid
        obtain ⟨st0, hst0⟩ : ∃ s0, s0 = set := ⟨_, rfl⟩
        obtain ⟨sv0, hsv0⟩ : ∃ v, v = sv := ⟨_, rfl⟩
        rw [← hst0] at hq
        rcases hsv with ⟨rfl, rfl⟩ | rfl <;> rcases h3 with ⟨rfl, h93⟩ | ⟨rfl, h93⟩ | ⟨rfl, hn0, h93⟩
        all_goals
          simp (disch := omega) [*, hbd]
          refine wcall_flat (by simpa [PS.v, hbd] using f_ref09_is r 93) rfl fun _ => ?_
          simp (disch := omega) [hbd, h93]
          try (refine wcall_flat (by simpa [PS.v, hbd] using f_ref09_is r 93) rfl fun _ => ?_; simp (disch := omega) [hbd, h93])
          rw [upto_none (F := fun i => (((st0[i]?).getD false) != isP p 94))]
          refine W_loop (fun k : Nat => ⟨[(1, .ptr 0 0), (2, .ptr 1 0), (4, .bool (isP p 94)), (5, sv0), (11, .ref 2 95), (12, .int .i64 k)],
              [some (.box [.seq 3 (X.n.map Part.v), .str X.s, .int .i64 ((X.at' + 1 : Nat) : Int), .bool X.bad]), some (.box [.nil 3, .str [], .int .i64 0, .bool false]), some (.arr ty_bool 1 (rowV 95 (upto k fun i => (((st0[i]?).getD false) != isP p 94))))]⟩)
            (fun k => k ≤ 95) (fun k => 95 - k) [] _ 0 rfl (by simp [hXn, hXb, h93, hsv0, hb, ← hp1]) (by simp) ?_
          rintro k1 hk1 M hM
          try rw [← hst0] at hsv0
          rcases Nat.lt_or_ge k1 95 with hlt | hge
          · have fin : ∀ b : Bool, b = (((st0[k1]?).getD false) != isP p 94) → ∀ τ : St, τ.nrm [1, 2, 4, 5, 11, 12] = ⟨[(1, .ptr 0 0), (2, .ptr 1 0), (4, .bool (isP p 94)), (5, sv0), (11, .ref 2 95), (12, .int .i64 ((k1 + 1 : Nat) : Int))],
                [some (.box [.seq 3 (X.n.map Part.v), .str X.s, .int .i64 ((X.at' + 1 : Nat) : Int), .bool X.bad]), some (.box [.nil 3, .str [], .int .i64 0, .bool false]), some (.arr ty_bool 1 (rowV 95 (sub k1 b (upto k1 fun i => (((st0[i]?).getD false) != isP p 94)))))]⟩ → M τ := fun b hb τ hτ => by
              rw [upto_step hb] at hτ
              exact hM.out _ <| Nx.mk (k1 + 1) hτ (by omega) (by omega)
            replace fin := hid fin
            cases hg : st0[k1]? with
            | none =>
              have hlen : st0.length ≤ k1 := by rw [List.getElem?_eq_none_iff] at hg; exact hg
              simp (disch := omega) [hsv0, hg]
              exact fin.out (isP p 94) (by simp [hg]) _ (by simp [hsv0])
            | some b =>
              have hlen := (List.getElem?_eq_some_iff.1 hg).1
              first
                | (exfalso; rw [hst0] at hg; simp at hg; done)
                | (simp (disch := omega) [hsv0, hg]
                   have e : (!b == isP p 94) = (b != isP p 94) := by cases b <;> cases isP p 94 <;> rfl
                   exact fin.out (b != isP p 94) (by simp [hg]) _ (by simp [hsv0, e]))
          · have : k1 = 95 := by omega
            subst this
            simp (disch := omega) [hsv0, upto_all]
            refine wcall_kill (r := .tup [(addP (stepP X) ⟨115, tab 95 (fun i => (((st0[i]?).getD false) != isP p 94)), []⟩).v, .int .i64 (stepP X).n.length]) ?_ fun _ => ?_
            · have := f_ref09_add (stepP X) ⟨115, tab 95 (fun i => (((st0[i]?).getD false) != isP p 94)), []⟩ (by simp [stepP, hXn]; omega)
              simpa [PS.v, stepP, Part.v, rowV] using this
            · simp (disch := omega) [PS.v, hR]
              simp [PS.v, ← hq, ← hk, stepP, hXn, hb, hst0]
      · have hc : (!r.bad && (decide (n = 0) || !isP r 93)) = true := by
          rcases hex with ⟨h, h'⟩ | ⟨h, h', h''⟩ <;> simp [h, h']
          simp [h'']
        have hbd : r.bad = false := by rcases hex with h | h <;> exact h.1
        simp only [hc, if_true] at hi
        clear hc
        obtain ⟨Y, hY⟩ : ∃ Y, Y = clsP r := ⟨_, rfl⟩
        obtain ⟨st1, hst1⟩ : ∃ s, s = clsSet r set := ⟨_, rfl⟩
        rw [← hY, ← hst1] at hi
        replace hi := hid hi
        have fin : ∀ (v : V), setS st1 v → ∀ τ : St, τ.nrm [1, 2, 4, 5, 6] = ⟨[(1, .ptr 0 0), (2, .ptr 1 0), (4, .bool (isP p 94)), (5, v), (6, .int .i64 ((n + 1 : Nat) : Int))],
          [some (.box [.seq 3 (Y.n.map Part.v), .str Y.s, .int .i64 Y.at', .bool Y.bad]), some (.box [.nil 3, .str [], .int .i64 0, .bool false])]⟩ → N τ := fun v hv τ hτ =>
            hN.out _ <| Nx.mk (f, Y, st1, v, n + 1) hτ ⟨hi.out, hv, by simp only; omega⟩ (by simp only; omega)
        replace fin := hid fin
        obtain ⟨⟨q1, lo⟩, hql⟩ : ∃ x, plainP r odd4 = x := ⟨_, rfl⟩
        have hq1 := plainP_n r odd4
        rw [hql] at hq1
        simp only at hq1
        have hlo : (clsLow r) = (q1, lo) := hql
        obtain ⟨st0, hst0⟩ : ∃ s0, s0 = set := ⟨_, rfl⟩
        obtain ⟨sv0, hsv0⟩ : ∃ v, v = sv := ⟨_, rfl⟩
        have hss : setS st0 sv0 := by rw [hst0, hsv0]; exact hsv
        rcases hex with ⟨_, rfl⟩ | ⟨_, hn0, h93⟩ <;> rcases hsv with ⟨rfl, rfl⟩ | rfl
        all_goals
          simp (disch := omega) [hbd]
          try (refine wcall_flat (r := .bool (isP r 93)) (by simpa [PS.v, hbd] using f_ref09_is r 93) rfl fun _ => ?_; simp (disch := omega) [hbd, h93, hn0])
          refine wcall_pure (r := .tup [q1.v, .int .u8 lo]) (by have := f_ref09_plain r odd4; rw [hql] at this; simpa [PS.v, hbd, odd4] using this) rfl fun _ => ?_
          simp (disch := omega) [PS.v]
          refine wcall_flat (r := .bool (isP q1 45)) (by simpa [PS.v] using f_ref09_is q1 45) rfl fun _ => ?_
          cases h45 : isP q1 45
          · have hhi : clsHigh r = (q1, lo) := by simp [clsHigh, hlo, h45]
            have hYq : Y = q1 := by simp [hY, clsP, hhi, hlo]
            subst hYq
            cases hb1 : Y.bad
            · simp (disch := omega) [hb1]
              refine wcall_new (r := .seq 1 (rowV 95 (signF st0 lo lo))) (by simpa [hst0] using f_ref09_signs st0 lo lo) fun _ => ?_
              simp (disch := omega) []
              exact fin.out (.seq 1 (rowV 95 (signF st0 lo lo))) (.inr (by simp [hst1, clsSet, ← hY, hb1, hst0, hhi, hlo, rowV])) _ (by simp [hb1])
            · simp (disch := omega) [hb1]
              have e : st1 = st0 := by simp [hst1, clsSet, ← hY, hb1, hst0]
              exact fin.out sv0 (by rw [e]; exact hss) _ (by simp [hb1, hsv0])
          · simp (disch := omega) []
            obtain ⟨⟨q2, hi2⟩, hqh⟩ : ∃ x, plainP (stepP q1) odd4 = x := ⟨_, rfl⟩
            have hq2 := plainP_n (stepP q1) odd4
            rw [hqh] at hq2
            simp only [stepP] at hq2
            have hhi : clsHigh r = (q2, hi2) := by simp [clsHigh, hlo, h45, hqh]
            refine wcall_pure (r := .tup [q2.v, .int .u8 hi2]) (by have := f_ref09_plain (stepP q1) odd4; rw [hqh] at this; simpa [PS.v, stepP, odd4] using this) rfl fun _ => ?_
            simp (disch := omega) [PS.v]
            refine BrKd.mk (fun h => ?_) (fun h => ?_)
            · have hYq : Y = badP q2 := by simp [hY, clsP, hhi, hlo]; omega
              simp (disch := omega) [h]
              have e : st1 = st0 := by simp [hst1, clsSet, ← hY, hYq, badP, hst0]
              exact fin.out sv0 (by rw [e]; exact hss) _ (by simp [hYq, badP, hsv0])
            · have hYq : Y = q2 := by simp [hY, clsP, hhi, hlo]; omega
              subst hYq
              cases hb1 : Y.bad
              · simp (disch := omega) [h, hb1]
                refine wcall_new (r := .seq 1 (rowV 95 (signF st0 lo hi2))) (by simpa [hst0] using f_ref09_signs st0 lo hi2) fun _ => ?_
                simp (disch := omega) []
                exact fin.out (.seq 1 (rowV 95 (signF st0 lo hi2))) (.inr (by simp [hst1, clsSet, ← hY, hb1, hst0, hhi, hlo, rowV])) _ (by simp [hb1])
              · simp (disch := omega) [h, hb1]
                have e : st1 = st0 := by simp [hst1, clsSet, ← hY, hb1, hst0]
                exact fin.out sv0 (by rw [e]; exact hss) _ (by simp [hb1, hsv0])
  · cases hr
end Go.Abs
