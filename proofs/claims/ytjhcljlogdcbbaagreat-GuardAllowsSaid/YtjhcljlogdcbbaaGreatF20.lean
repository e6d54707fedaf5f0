/-
  What strainerref09's parser makes: its small functions. No condition.
-/
import Derived.Test.YtjhcljlogdcbbaaGreatF19
set_option linter.unusedVariables false
set_option linter.unusedSimpArgs false
set_option maxHeartbeats 4000000
set_option maxRecDepth 100000
namespace Go.Abs
open Go.Proofs
attribute [-simp] getElem?_pos Option.not_isSome
/-- What was parsed so far. -/
structure PS where
  n : List Part
  s : Str
  at' : Nat
  bad : Bool
def PS.v (p : PS) : V := .strct [.seq 3 (p.n.map Part.v), .str p.s, .int .i64 p.at', .bool p.bad]
def isP (p : PS) (c : Nat) : Bool := match p.s[p.at']? with
  | some b => decide (b.toNat = c)
  | none => false
theorem f_ref09_is (p : PS) (c : Nat) : Fn Tryz.prog n_ref09_is [p.v, .int .u8 c] (.bool (isP p c)) := by
  refine Fn.of_image mixed h_ref09_is i_ref09_is rfl fun ho => ?_
  unfold c_ref09_is
  simp only [oks, ok, and_true] at ho
  simp (disch := omega) [PS.v]
  rcases Nat.lt_or_ge p.at' p.s.length with h | h
  · obtain ⟨b, hb⟩ := get_lt h
    simp (disch := omega) [isP, hb, Int.ofNat_inj]
  · have hb : p.s[p.at']? = none := List.getElem?_eq_none (by omega)
    simp (disch := omega) [isP, hb]
def amongS (c : Nat) (l : Str) : Bool := l.any fun b => decide (b.toNat = c)
theorem f_ref09_among (c : Nat) (l : Str) : Fn Tryz.prog n_ref09_among [.int .u8 c, .str l] (.bool (amongS c l)) := by
  refine Fn.of_image mixed h_ref09_among i_ref09_among rfl fun ho => ?_
  unfold c_ref09_among
  simp only [oks, ok, and_true] at ho
  simp (disch := omega) []
  obtain ⟨r, hr⟩ : ∃ r, amongS c l = r := ⟨_, rfl⟩
  rw [hr]
  refine W_loop (fun k : Nat => ⟨[(0, .int .u8 c), (1, .str l), (5, .int .i64 k)], []⟩) (fun k => k ≤ l.length ∧ amongS c (l.drop k) = r) (fun k => l.length - k) [] _ 0 rfl (by simp) (by simp [hr]) ?_
  rintro k ⟨hk, hi⟩ N hN
  rcases place l k hk with ⟨he, hd⟩ | ⟨hlt, x, hx, hd⟩ <;> rw [hd] at hi
  · subst hi
    simp (disch := omega) [he, amongS]
  · replace hi := hid hi
    simp (disch := omega) [hx]
    refine BrKd.mk (fun h => ?_) (fun h => ?_)
    · have := hi.out
      simp (disch := omega) [h]
      rw [← this]
      have h' : x.toNat = c := by omega
      simp [amongS, h']
    · simp (disch := omega) [h]
      refine hN.out _ <| Nx.mk (k + 1) (by simp) ⟨by omega, ?_⟩ (by omega)
      have := hi.out
      have h' : ¬ x.toNat = c := by omega
      simpa [amongS, h'] using this
def addP (p : PS) (x : Part) : PS := { p with n := p.n ++ [x] }
theorem f_ref09_add (p : PS) (x : Part) (hn : p.n.length ≤ 1000) : Fn Tryz.prog n_ref09_add [p.v, x.v] (.tup [(addP p x).v, .int .i64 p.n.length]) := by
  refine Fn.of_image mixed h_ref09_add i_ref09_add rfl fun ho => ?_
  unfold c_ref09_add
  simp only [oks, ok, and_true] at ho
  clear ho
  simp (disch := omega) [PS.v, Part.v]
  repeat' (first | refine wallK.mk ?_ ?_ | (simp (disch := omega) [addP, Part.v]; done) | rw [wall_cons])
def plainP (p : PS) (odd : Str) : PS × Nat :=
  let q : PS := if isP p 92 then { p with at' := p.at' + 1 } else p
  match q.s[q.at']? with
  | some c => if sgn c && (isP p 92 || !amongS c.toNat odd) then ({ q with at' := q.at' + 1 }, c.toNat) else ({ q with bad := true }, 32)
  | none => ({ q with bad := true }, 32)
theorem f_ref09_plain (p : PS) (odd : Str) : Fn Tryz.prog n_ref09_plain [p.v, .str odd] (.tup [(plainP p odd).1.v, .int .u8 (plainP p odd).2]) := by
  refine Fn.of_image mixed h_ref09_plain i_ref09_plain rfl fun ho => ?_
  unfold c_ref09_plain
  simp only [oks, ok, and_true] at ho
  have hs : p.s.length ≤ 4611686018427387904 := by have := ho.1; simp [PS.v] at this; exact this.2.1
  clear ho
  simp (disch := omega) [PS.v]
  refine wcall_flat (by simpa [PS.v] using f_ref09_is p 92) rfl fun _ => ?_
  have isat : isP p 92 = true → p.at' < p.s.length := by
    intro h
    unfold isP at h
    split at h
    · rename_i b hb; exact (List.getElem?_eq_some_iff.1 hb).1
    · cases h
  cases hb : isP p 92
  · rcases Nat.lt_or_ge p.at' p.s.length with h | h
    · obtain ⟨c, hc⟩ := get_lt h
      simp (disch := omega) [hc]
      refine wcall_flat (f_ref09_sign c) rfl fun _ => ?_
      cases hg : sgn c
      · simp (disch := omega) [hc]
        simp [plainP, hb, hc, hg]
      · simp (disch := omega) [hc]
        refine wcall_flat (f_ref09_among c.toNat odd) rfl fun _ => ?_
        cases ha : amongS c.toNat odd
        all_goals
          simp (disch := omega) [hc]
          simp [plainP, hb, hc, hg, ha]
    · have hc : p.s[p.at']? = none := List.getElem?_eq_none (by omega)
      simp (disch := omega) [hc]
      simp [plainP, hb, hc]
  · have hat := isat hb
    rcases Nat.lt_or_ge (p.at' + 1) p.s.length with h | h
    · obtain ⟨c, hc⟩ := get_lt h
      simp (disch := omega) [hc]
      refine wcall_flat (f_ref09_sign c) rfl fun _ => ?_
      cases hg : sgn c
      · simp (disch := omega) [hc]
        simp [plainP, hb, hc, hg]
      · simp (disch := omega) [hc]
        simp [plainP, hb, hc, hg]
    · have hc : p.s[p.at' + 1]? = none := List.getElem?_eq_none (by omega)
      simp (disch := omega) [hc]
      simp [plainP, hb, hc]
def signF (set : List Bool) (low high : Nat) : Nat → Bool := fun i => ((set[i]?).getD false) || (decide (low ≤ i + 32) && decide (i + 32 ≤ high))
theorem f_ref09_signs (set : List Bool) (low high : Nat) : FnN Tryz.prog n_ref09_signs [.seq 1 (set.map .bool), .int .u8 low, .int .u8 high] (.seq 1 (rowV 95 (signF set low high))) := by
  refine FnN.of_image mixed h_ref09_signs i_ref09_signs rfl fun ho => ?_
  unfold c_ref09_signs
  have hlo : low ≤ 255 ∧ high ≤ 255 := by have := ho.2; simp at this; omega
  clear ho
  simp (disch := omega) []
  rw [upto_none (F := signF set low high)]
  refine W_loop (fun k : Nat => ⟨[(0, .seq 1 (set.map .bool)), (1, .int .u8 low), (2, .int .u8 high), (7, .ref 0 95), (8, .int .i64 k)], [some (.arr ty_bool 1 (rowV 95 (upto k (signF set low high))))]⟩) (fun k => k ≤ 95) (fun k => 95 - k) [] _ 0 rfl (by simp) (by simp) ?_
  rintro k hk N hN
  rcases Nat.lt_or_ge k 95 with hlt | hge
  · have fin : ∀ b : Bool, b = signF set low high k → ∀ τ : St, τ.nrm [0, 1, 2, 7, 8] = ⟨[(0, .seq 1 (set.map .bool)), (1, .int .u8 low), (2, .int .u8 high), (7, .ref 0 95), (8, .int .i64 ((k + 1 : Nat) : Int))], [some (.arr ty_bool 1 (rowV 95 (sub k b (upto k (signF set low high)))))]⟩ → N τ := fun b hb τ hτ => by
      rw [upto_step hb] at hτ
      exact hN.out _ <| Nx.mk (k + 1) hτ (by omega) (by omega)
    replace fin := hid fin
    have low1 : ((set[k]?).getD false) = false → low ≤ k + 32 → decide ((k : Int) + 32 ≤ high) = signF set low high k := fun h h1 => by
      simp only [signF, h, Bool.false_or, h1, decide_true, Bool.true_and]
      exact decide_eq_decide.2 (by omega)
    have low0 : ((set[k]?).getD false) = false → ¬ low ≤ k + 32 → false = signF set low high k := fun h h1 => by
      simp [signF, h, h1]
    rcases Nat.lt_or_ge k set.length with hks | hks
    · obtain ⟨b, hb⟩ := get_lt hks
      cases b
      · by_cases h1 : low ≤ k + 32
        · simp (disch := omega) [hb]
          exact fin.out _ (low1 (by rw [hb]; rfl) h1) _ (by simp)
        · simp (disch := omega) [hb]
          exact fin.out _ (low0 (by rw [hb]; rfl) h1) _ (by simp)
      · simp (disch := omega) [hb]
        exact fin.out true (by simp [signF, hb]) _ (by simp)
    · have hb : set[k]? = none := List.getElem?_eq_none hks
      by_cases h1 : low ≤ k + 32
      · simp (disch := omega) [hb]
        exact fin.out _ (low1 (by rw [hb]; rfl) h1) _ (by simp)
      · simp (disch := omega) [hb]
        exact fin.out _ (low0 (by rw [hb]; rfl) h1) _ (by simp)
  · have : k = 95 := by omega
    subst this
    simp (disch := omega) [upto_all]
end Go.Abs
