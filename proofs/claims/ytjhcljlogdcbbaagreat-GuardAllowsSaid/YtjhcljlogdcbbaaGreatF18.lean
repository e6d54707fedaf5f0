/-
  What strainerref09's step and Match tell: which places a part leads to. No condition.
-/
import Derived.Test.YtjhcljlogdcbbaaGreatF17
set_option linter.unusedVariables false
set_option linter.unusedSimpArgs false
set_option maxHeartbeats 4000000
set_option maxRecDepth 100000
namespace Go.Abs
open Go.Proofs
attribute [-simp] getElem?_pos Option.not_isSome
/-- A part of an expression. -/
structure Part where
  op : Nat
  set : List Bool
  l : List Nat
def Part.v (p : Part) : V := .strct [.int .u8 p.op, .seq 1 (p.set.map .bool), .seq 1 (p.l.map fun (j : Nat) => V.int .i64 (j : Int))]
def sgn (c : UInt8) : Bool := decide (32 ≤ c.toNat) && decide (c.toNat ≤ 126)
theorem f_ref09_sign (c : UInt8) : Fn Tryz.prog n_ref09_sign [.int .u8 c.toNat] (.bool (sgn c)) := by
  refine Fn.of_image mixed h_ref09_sign i_ref09_sign rfl fun ho => ?_
  unfold c_ref09_sign
  simp only [oks, ok, and_true] at ho
  simp (disch := omega) []
  refine BrKd.mk (fun h => ?_) (fun h => ?_)
  all_goals
    simp [sgn, h]
/-- The part's own way: from a place. -/
def base (p : Part) (s : Str) (i : Nat) : Nat → Bool :=
  match s[i]? with
  | some c => if p.op = 115 ∧ sgn c = true then sub (i + 1) ((p.set[c.toNat - 32]?).getD false) (sub i (decide (p.op = 116) || decide (p.op = 109)) fun _ => false) else sub i (decide (p.op = 116) || decide (p.op = 109)) fun _ => false
  | none => sub i (decide (p.op = 116) || decide (p.op = 109)) fun _ => false
abbrev Tab := Nat → Nat → Bool
def both1 (f g : Tab) : Tab := fun i k => f i k || g i k
def jon (n : Nat) (f g : Tab) : Tab := fun i k => jo f g i n k
def star (n : Nat) (g : Tab) : Nat → Tab → Tab
  | 0, f => f
  | t + 1, f => star n g t (both1 f (jon n f g))
def kid (n op : Nat) (f g : Tab) : Tab := if op = 111 then both1 f g else if op = 116 then jon n f g else if op = 109 then star n g n f else f
def kidT (n op : Nat) (tabs : List Tab) : Tab → List Nat → Tab
  | f, [] => f
  | f, x :: l => kidT n op tabs (kid n op f ((tabs[x]?).getD fun _ _ => false)) l
def stepT (p : Part) (s : Str) (tabs : List Tab) : Tab   := kidT (s.length + 1) p.op tabs (base p s) p.l
@[simp high] theorem cl_matV {n : Nat} {f : Tab} : cl (matV n f) = [matV n f] := rfl
/-- What 'out' is, and what lies there. -/
def outS (n : Nat) (f : Tab) (o : V) (h : List (Option Ob)) : Prop := (o = .ref 0 n ∧ h = [some (.mat ty_Ibool ty_bool 1 (sm (tab n fun i => rowV n (f i))))]) ∨ (o = .fseq 1 (tab n fun i => .seq 1 (rowV n (f i))) ∧ h = [])
theorem f_ref09_step (parts : List Part) (k : Nat) (p : Part) (s : Str) (tabs : List Tab) (hp : parts[k]? = some p) (hs : s.length ≤ 99999) (hl : ∀ x ∈ p.l, x < tabs.length) (hset : p.op = 115 → p.set.length = 95) (hll : p.l.length ≤ 1000) :
    FnN Tryz.prog n_ref09_step [.seq 3 (parts.map Part.v), .int .i64 k, .str s, .seq 1 (tabs.map (matV (s.length + 1)))] (matV (s.length + 1) (stepT p s tabs)) := by
  refine FnN.of_image mixed h_ref09_step i_ref09_step rfl fun ho => ?_
  unfold c_ref09_step
  clear ho
  obtain ⟨n, hn⟩ : ∃ n, n = s.length + 1 := ⟨_, rfl⟩
  simp only [← hn]
  simp (disch := omega) []
  rw [half_rep (R := fun i => rowV n (base p s i))]
  have hpv : (parts.map Part.v)[k]? = some p.v := by rw [List.getElem?_map, hp]; rfl
  have hn' : (s.length : Int) + 1 = (n : Int) := by omega
  simp only [hn', Int.toNat_natCast]
  refine W_loop (fun i : Nat => ⟨[(0, .seq 3 (parts.map Part.v)), (1, .int .i64 k), (2, .str s), (3, .seq 1 (tabs.map (matV n))), (9, .int .i64 n), (10, .ref 0 n), (11, .int .i64 i)],
    [some (.mat ty_Ibool ty_bool 1 (sm (half n i fun i => rowV n (base p s i))))]⟩) (fun i => i ≤ n) (fun i => n - i) [] _ 0 rfl (by simp [← hn]) (by simp) ?_
  rintro i hi N hN
  rcases Nat.lt_or_ge i n with hlt | hge
  · replace hN := fun (r : List V) (hr : r = rowV n (base p s i)) τ (hτ : τ.nrm [0, 1, 2, 3, 9, 10, 11] = ⟨[(0, .seq 3 (parts.map Part.v)), (1, .int .i64 k), (2, .str s), (3, .seq 1 (tabs.map (matV n))), (9, .int .i64 n), (10, .ref 0 n), (11, .int .i64 ((i + 1 : Nat) : Int))],
        [some (.mat ty_Ibool ty_bool 1 (sm (step1 n i (fun i => rowV n (base p s i)) r)))]⟩) => hN.out τ <| Nx.mk (i + 1) (by rw [hτ, hr, step1_half]) (by omega) (by omega)
    replace hN := hid hN
    by_cases h115 : p.op = 115
    · have h116 : ¬ p.op = 116 := by omega
      have h109 : ¬ p.op = 109 := by omega
      rcases Nat.lt_or_ge i s.length with hil | hil
      · obtain ⟨c, hc⟩ := get_lt hil
        simp (disch := omega) [hpv, Part.v, h115, h116, h109, hc]
        refine wcall_flat (f_ref09_sign c) rfl fun _ => ?_
        cases hg : sgn c with
        | true =>
          have hg2 : 32 ≤ c.toNat ∧ c.toNat ≤ 126 := by simpa [sgn] using hg
          obtain ⟨b, hb⟩ := get_lt (l := p.set) (k := c.toNat - 32) (by rw [hset h115]; omega)
          have e2 : ((c.toNat : Int) - 32).toNat = c.toNat - 32 := by omega
          simp (disch := omega) [hpv, Part.v, h115, h116, h109, hc, hb, e2]
          exact hN.out (rowV n (sub (i + 1) b (sub i false fun _ => false))) (by simp [base, hc, hg, h115, hb]) _ (by simp)
        | false =>
          simp (disch := omega) [hpv, Part.v, h115, h116, h109, hc]
          exact hN.out (rowV n (sub i false fun _ => false)) (by simp [base, hc, hg, h115]) _ (by simp)
      · have hc : s[i]? = none := List.getElem?_eq_none (by omega)
        simp (disch := omega) [hpv, Part.v, h115, h116, h109, hc]
        exact hN.out (rowV n (sub i false fun _ => false)) (by simp [base, hc, h115]) _ (by simp)
    · have hb : base p s i = sub i (decide (p.op = 116) || decide (p.op = 109)) fun _ => false := by
        unfold base
        split
        · rw [if_neg (by simp [h115])]
        · rfl
      by_cases h116 : p.op = 116
      · simp (disch := omega) [hpv, Part.v, h115, h116]
        exact hN.out (rowV n (sub i true fun _ => false)) (by simp [hb, h116]) _ (by simp)
      · by_cases h109 : p.op = 109
        · simp (disch := omega) [hpv, Part.v, h115, h116, h109]
          exact hN.out (rowV n (sub i true fun _ => false)) (by simp [hb, h109]) _ (by simp)
        · simp (disch := omega) [hpv, Part.v, h115, h116, h109]
          exact hN.out (rowV n (sub i false fun _ => false)) (by simp [hb, h116, h109]) _ (by simp)
  · have hin : i = n := by omega
    rw [hin, half_all]
    clear hN hin hi hge
    simp (disch := omega) []
    obtain ⟨T, hT⟩ : ∃ T, T = stepT p s tabs := ⟨_, rfl⟩
    rw [← hT]
    simp only [stepT, ← hn] at hT
    refine W_loop (fun (q : Nat × Tab × V × List (Option Ob)) => ⟨[(0, .seq 3 (parts.map Part.v)), (1, .int .i64 k), (3, .seq 1 (tabs.map (matV n))), (9, .int .i64 n), (10, q.2.2.1), (12, .int .i64 q.1)], q.2.2.2⟩)
      (fun q => q.1 ≤ p.l.length ∧ outS n q.2.1 q.2.2.1 q.2.2.2 ∧ kidT n p.op tabs q.2.1 (p.l.drop q.1) = T) (fun q => p.l.length - q.1) [] _ (0, base p s, .ref 0 n, [some (.mat ty_Ibool ty_bool 1 (sm (tab n fun i => rowV n (base p s i))))]) rfl (by simp) ⟨by simp, .inl ⟨rfl, rfl⟩, by simp [hT]⟩ ?_
    rintro ⟨j, f, o, h⟩ ⟨hj, ho, hk⟩ N hN
    simp only at hj ho hk
    rcases place p.l j hj with ⟨he, hd⟩ | ⟨hlt, x, hx, hd⟩ <;> rw [hd, kidT] at hk
    · subst hk
      clear hN
      have hfl : ∀ x ∈ tab n (fun i => rowV n (f i)), flats x = true := by
        intro x hx
        simp only [tab, List.mem_map] at hx
        obtain ⟨j, _, rfl⟩ := hx
        exact rowV_flat
      rcases ho with ⟨rfl, rfl⟩ | ⟨rfl, rfl⟩
      all_goals
        simp (disch := omega) [hpv, Part.v, he]
      · exact ⟨hfl, by simp [matV]⟩
      · simp [matV]
    · have hxt := hl x (List.mem_of_getElem? hx)
      obtain ⟨g, hg⟩ := get_lt hxt
      have hlx : (p.l.map fun (j : Nat) => V.int .i64 (j : Int))[j]? = some (.int .i64 (x : Int)) := by rw [List.getElem?_map, hx]; rfl
      rw [hg] at hk
      simp only [Option.getD_some] at hk
      replace hk := hid hk
      replace hN := fun (f' : Tab) (hf : kid n p.op f g = f') τ (o' : V) (h' : List (Option Ob)) (hτ : τ.nrm [0, 1, 3, 9, 10, 12] = ⟨[(0, .seq 3 (parts.map Part.v)), (1, .int .i64 k), (3, .seq 1 (tabs.map (matV n))), (9, .int .i64 n), (10, o'), (12, .int .i64 ((j + 1 : Nat) : Int))], h'⟩) (ho : outS n f' o' h') =>
        hN.out τ <| Nx.mk (j + 1, f', o', h') hτ ⟨by simp only; omega, ho, by simp only; rw [← hf]; exact hk.out⟩ (by simp only; omega)
      replace hN := hid hN
      by_cases h111 : p.op = 111
      · rcases ho with ⟨rfl, rfl⟩ | ⟨rfl, rfl⟩
        all_goals
          simp (disch := omega) [hpv, Part.v, hlx, hg, h111, matV]
          refine wcall_fresh (f_ref09_both n f g (by omega)) fun _ => ?_
          simp (disch := omega) [matV]
          exact hN.out (both1 f g) (by simp [kid, h111]) _ (.fseq 1 (tab n fun i => .seq 1 (rowV n (both1 f g i)))) [] (by simp; rfl) (.inr ⟨rfl, rfl⟩)
      · by_cases h116 : p.op = 116
        · rcases ho with ⟨rfl, rfl⟩ | ⟨rfl, rfl⟩
          all_goals
            simp (disch := omega) [hpv, Part.v, hlx, hg, h111, h116, matV]
            refine wcall_fresh (f_ref09_joined n f g (by omega)) fun _ => ?_
            simp (disch := omega) [matV]
            exact hN.out (jon n f g) (by simp [kid, h116]) _ (.fseq 1 (tab n fun i => .seq 1 (rowV n (jon n f g i)))) [] (by simp; rfl) (.inr ⟨rfl, rfl⟩)
        · by_cases h109 : p.op = 109
          · rcases ho with ⟨rfl, rfl⟩ | ⟨rfl, rfl⟩
            · simp (disch := omega) [hpv, Part.v, hlx, hg, h111, h116, h109, matV]
              refine W_loop (fun (q : Nat × Tab × V × List (Option Ob)) => ⟨[(0, .seq 3 (parts.map Part.v)), (1, .int .i64 k), (3, .seq 1 (tabs.map (matV n))), (9, .int .i64 n), (10, q.2.2.1), (12, .int .i64 j), (13, .seq 1 (tab n fun i => .seq 1 (rowV n (g i)))), (14, .int .i64 q.1)], q.2.2.2⟩)
                (fun q => q.1 ≤ n ∧ outS n q.2.1 q.2.2.1 q.2.2.2 ∧ star n g (n - q.1) q.2.1 = kid n p.op f g) (fun q => n - q.1) [] _ (0, f, .ref 0 n, [some (.mat ty_Ibool ty_bool 1 (sm (tab n fun i => rowV n (f i))))]) rfl (by simp [matV]) ⟨by simp, .inl ⟨rfl, rfl⟩, by simp [kid, h109]⟩ ?_
              rintro ⟨t, f2, o2, h2⟩ ⟨ht, ho2, hk2⟩ L hL
              simp only at ht ho2 hk2
              rcases Nat.lt_or_ge t n with htn | htn
              · have e : n - t = (n - (t + 1)) + 1 := by omega
                rw [e, star] at hk2
                replace hk2 := hid hk2
                have nx : ∀ τ : St, τ.nrm [0, 1, 3, 9, 10, 12, 13, 14] = ⟨[(0, .seq 3 (parts.map Part.v)), (1, .int .i64 k), (3, .seq 1 (tabs.map (matV n))), (9, .int .i64 n), (10, .fseq 1 (tab n fun i => .seq 1 (rowV n (both1 f2 (jon n f2 g) i)))), (12, .int .i64 j), (13, .seq 1 (tab n fun i => .seq 1 (rowV n (g i)))), (14, .int .i64 ((t + 1 : Nat) : Int))], []⟩ → L τ := fun τ hτ =>
                  hL.out τ <| Nx.mk (t + 1, both1 f2 (jon n f2 g), _, []) hτ ⟨by simp only; omega, .inr ⟨rfl, rfl⟩, hk2.out⟩ (by simp only; omega)
                replace nx := hid nx
                rcases ho2 with ⟨rfl, rfl⟩ | ⟨rfl, rfl⟩
                all_goals
                  simp (disch := omega) []
                  refine wcall_fresh (f_ref09_joined n f2 g (by omega)) fun _ => ?_
                  simp (disch := omega) [matV]
                  refine wcall_fresh (f_ref09_both n f2 (jon n f2 g) (by omega)) fun _ => ?_
                  simp (disch := omega) [matV]
                  exact nx.out _ (by simp; rfl)
              · have e : n - t = 0 := by omega
                rw [e, star] at hk2
                replace hN := hN.out f2 hk2.symm
                clear hL
                rcases ho2 with ⟨rfl, rfl⟩ | ⟨rfl, rfl⟩
                · simp (disch := omega) [htn]
                  exact hN _ _ _ (by simp) (.inl ⟨rfl, rfl⟩)
                · simp (disch := omega) [htn]
                  exact hN _ _ _ (by simp) (.inr ⟨rfl, rfl⟩)
            · simp (disch := omega) [hpv, Part.v, hlx, hg, h111, h116, h109, matV]
              refine W_loop (fun (q : Nat × Tab × V × List (Option Ob)) => ⟨[(0, .seq 3 (parts.map Part.v)), (1, .int .i64 k), (3, .seq 1 (tabs.map (matV n))), (9, .int .i64 n), (10, q.2.2.1), (12, .int .i64 j), (13, .seq 1 (tab n fun i => .seq 1 (rowV n (g i)))), (14, .int .i64 q.1)], q.2.2.2⟩)
                (fun q => q.1 ≤ n ∧ outS n q.2.1 q.2.2.1 q.2.2.2 ∧ star n g (n - q.1) q.2.1 = kid n p.op f g) (fun q => n - q.1) [] _ (0, f, .fseq 1 (tab n fun i => .seq 1 (rowV n (f i))), []) rfl (by simp [matV]) ⟨by simp, .inr ⟨rfl, rfl⟩, by simp [kid, h109]⟩ ?_
              rintro ⟨t, f2, o2, h2⟩ ⟨ht, ho2, hk2⟩ L hL
              simp only at ht ho2 hk2
              rcases Nat.lt_or_ge t n with htn | htn
              · have e : n - t = (n - (t + 1)) + 1 := by omega
                rw [e, star] at hk2
                replace hk2 := hid hk2
                have nx : ∀ τ : St, τ.nrm [0, 1, 3, 9, 10, 12, 13, 14] = ⟨[(0, .seq 3 (parts.map Part.v)), (1, .int .i64 k), (3, .seq 1 (tabs.map (matV n))), (9, .int .i64 n), (10, .fseq 1 (tab n fun i => .seq 1 (rowV n (both1 f2 (jon n f2 g) i)))), (12, .int .i64 j), (13, .seq 1 (tab n fun i => .seq 1 (rowV n (g i)))), (14, .int .i64 ((t + 1 : Nat) : Int))], []⟩ → L τ := fun τ hτ =>
                  hL.out τ <| Nx.mk (t + 1, both1 f2 (jon n f2 g), _, []) hτ ⟨by simp only; omega, .inr ⟨rfl, rfl⟩, hk2.out⟩ (by simp only; omega)
                replace nx := hid nx
                rcases ho2 with ⟨rfl, rfl⟩ | ⟨rfl, rfl⟩
                all_goals
                  simp (disch := omega) []
                  refine wcall_fresh (f_ref09_joined n f2 g (by omega)) fun _ => ?_
                  simp (disch := omega) [matV]
                  refine wcall_fresh (f_ref09_both n f2 (jon n f2 g) (by omega)) fun _ => ?_
                  simp (disch := omega) [matV]
                  exact nx.out _ (by simp; rfl)
              · have e : n - t = 0 := by omega
                rw [e, star] at hk2
                replace hN := hN.out f2 hk2.symm
                clear hL
                rcases ho2 with ⟨rfl, rfl⟩ | ⟨rfl, rfl⟩
                · simp (disch := omega) [htn]
                  exact hN _ _ _ (by simp) (.inl ⟨rfl, rfl⟩)
                · simp (disch := omega) [htn]
                  exact hN _ _ _ (by simp) (.inr ⟨rfl, rfl⟩)
          · rcases ho with ⟨rfl, rfl⟩ | ⟨rfl, rfl⟩
            all_goals
              simp (disch := omega) [hpv, Part.v, hlx, hg, h111, h116, h109, matV]
              refine hN.out f (by simp [kid, h111, h116, h109]) _ _ _ (by simp; exact ⟨rfl, rfl⟩) ?_
              first | exact .inl ⟨rfl, rfl⟩ | exact .inr ⟨rfl, rfl⟩
end Go.Abs
