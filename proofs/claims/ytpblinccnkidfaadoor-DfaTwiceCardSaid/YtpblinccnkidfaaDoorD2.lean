/-
  What meets states answers: their numbers, as they were first met. No condition.
-/
import Derived.Test.YtpblinccnkidfaaDoorD1
set_option linter.unusedVariables false
set_option linter.unusedSimpArgs false
set_option maxHeartbeats 4000000
set_option maxRecDepth 100000
namespace Go.Abs
open Go.Proofs Go.Aut
attribute [-simp] getElem?_pos Option.not_isSome List.map_map
theorem range2 (n : Nat) : List.range' n 2 = [n, n + 1] := rfl
theorem range3 (n : Nat) : List.range' n 3 = [n, n + 1, n + 2] := rfl
theorem range4 (n : Nat) : List.range' n 4 = [n, n + 1, n + 2, n + 3] := rfl
theorem range5 (n : Nat) : List.range' n 5 = [n, n + 1, n + 2, n + 3, n + 4] := rfl
attribute [simp] range2 range3 range4 range5 nV
section
variable {K : Type} [DecidableEq K] (kv : K → V)
/-- The numbers of what has been met, as a map's entries. -/
def ents : Nat → List K → List (V × V)
  | _, [] => []
  | i, k :: l => (kv k, nV i) :: ents (i + 1) l
variable {kv}
theorem mget_ents (he : ∀ a b, eqK (kv a) (kv b) = decide (a = b)) (k : K) : ∀ (l : List K) (i : Nat), mget (kv k) (ents kv i l) = (pos eqB k l).map fun j => nV (i + j)
  | [], i => rfl
  | x :: l, i => by
    have ih := mget_ents he k l (i + 1)
    have hx : (eqB x k = true) = (x = k) := by simp [eqB]
    simp only [ents, mget, pos, he, ih, hx, decide_eq_true_eq]
    by_cases h : x = k
    · simp [h]
    · rw [if_neg (fun e => h e.symm), if_neg h]
      cases pos eqB k l <;> simp [Nat.add_assoc, Nat.add_comm 1]
theorem mput_ents (he : ∀ a b, eqK (kv a) (kv b) = decide (a = b)) (k : K) : ∀ (l : List K) (i : Nat), pos eqB k l = none → mput (kv k) (nV (i + l.length)) (ents kv i l) = ents kv i (l ++ [k])
  | [], i, _ => rfl
  | x :: l, i, h => by
    simp only [pos] at h
    split at h
    · cases h
    · rename_i hx
      have h' : pos eqB k l = none := by simpa using h
      have ih := mput_ents he k l (i + 1) h'
      simp only [List.cons_append, ents, mput, he]
      rw [if_neg (by simp only [eqB] at hx; simpa using fun e => hx (by simp [e])), ← ih]
      congr 3
      simp; omega
end
/-- What has been met, as it lies in memory. -/
@[simp] def metH (kt : KT) (e sz : Nat) {K : Type} (kv : K → V) (l : List K) : List (Option Ob) := [some (.box [.ref 1 0, .ref 2 l.length]), some (.mp kt (ents kv 0 l)), some (.arr e sz (l.map kv))]
@[simp] def metE (kt : KT) (sz : Nat) : List (Option Ob) := [some (.box [.ref 1 0, .nil sz]), some (.mp kt [])]
theorem eqK_nV (a b : Nat) : eqK (nV a) (nV b) = decide (a = b) := by
  have : ((a : Int) = b) ↔ a = b := by omega
  simp [eqK, eqCs, nV, cl, eqC, this]
def ktI : KT := ⟨false, [.i .i64]⟩
theorem f_met_add_int_nil (q : Nat) : FnH Tryd.prog n_pdfa_metIint_add [0] [.ptr 0 0, nV q] (metE ktI 1) (nV 0) (metH ktI ty_int 1 nV [q]) := by
  refine FnH.of_image mixed h_pdfa_metIint_add i_pdfa_metIint_add rfl fun ho hh => ?_
  unfold c_pdfa_metIint_add
  clear ho hh
  simp (disch := omega) [-List.reduceReplicate, metE, metH, ktI, nV, mget, mput, ents, kOfs, kOf, somes, fitsK, aggV]
theorem add_some {K : Type} [DecidableEq K] {l : List K} {q : K} {i : Nat} (hp : pos eqB q l = some i) : addN eqB l q = i ∧ addL eqB l q = l := by simp [addN, addL, hp]
theorem add_none {K : Type} [DecidableEq K] {l : List K} {q : K} (hp : pos eqB q l = none) : addN eqB l q = l.length ∧ addL eqB l q = l ++ [q] := by simp [addN, addL, hp]
theorem f_met_add_int (l : List Nat) (q : Nat) (hl : l.length ≤ 1000000) : FnH Tryd.prog n_pdfa_metIint_add [0] [.ptr 0 0, nV q] (metH ktI ty_int 1 nV l) (nV (addN eqB l q)) (metH ktI ty_int 1 nV (addL eqB l q)) := by
  refine FnH.of_image mixed h_pdfa_metIint_add i_pdfa_metIint_add rfl fun ho hh => ?_
  unfold c_pdfa_metIint_add
  clear ho hh
  have hm := mget_ents eqK_nV q l 0
  cases hp : pos eqB q l with
  | some i =>
    rw [hp] at hm
    replace hm : mget (.int .i64 (q : Int)) (ents nV 0 l) = some (.int .i64 (i : Int)) := by simpa [nV] using hm
    obtain ⟨h1, h2⟩ := add_some hp
    rw [h1, h2]
    simp (disch := omega) [-List.reduceReplicate, metH, ktI, nV, kOfs, kOf, somes, fitsK, aggV, hm]
  | none =>
    rw [hp] at hm
    replace hm : mget (.int .i64 (q : Int)) (ents nV 0 l) = none := by simpa [nV] using hm
    have hpt := mput_ents eqK_nV q l 0 hp
    replace hpt : mput (.int .i64 (q : Int)) (.int .i64 (l.length : Int)) (ents nV 0 l) = ents nV 0 (l ++ [q]) := by simpa [nV] using hpt
    obtain ⟨h1, h2⟩ := add_none hp
    rw [h1, h2]
    simp (disch := omega) [-List.reduceReplicate, metH, ktI, nV, kOfs, kOf, somes, fitsK, aggV, hm, hpt]
theorem f_meet_int (q : Nat) : FnH Tryd.prog n_dfa_meetIint [] [.seq 1 [nV q]] [] (.ptr 0 0) (metH ktI ty_int 1 nV [q]) := by
  refine FnH.of_image mixed h_dfa_meetIint i_dfa_meetIint rfl fun ho hh => ?_
  unfold c_dfa_meetIint
  clear ho hh
  simp (disch := omega) [-List.reduceReplicate]
  refine W_loop (fun k : Nat => if k = 0 then ⟨[(3, .ptr 0 0), (9, .seq 1 [nV q]), (10, .int .i64 1), (11, .int .i64 0)], metE ktI 1⟩ else ⟨[(3, .ptr 0 0), (9, .seq 1 [nV q]), (10, .int .i64 1), (11, .int .i64 1)], metH ktI ty_int 1 nV [q]⟩) (fun k => k ≤ 1) (fun k => 1 - k) [] _ 0 rfl (by simp [metE, ktI]) (by simp) ?_
  intro k hk N hN
  rcases (show k = 0 ∨ k = 1 by omega) with rfl | rfl
  · simp (disch := omega) [-List.reduceReplicate, metE, nV]
    refine wcallH_mk [0] 1 [0, 1] (by simp) (by simp) (by simp) (by simp) (f_met_add_int_nil q) (by simp [metH]) fun _ _ => ?_
    simp (disch := omega) [-List.reduceReplicate, metH, metE]
    exact hN.out _ <| Nx.mk 1 (by simp [metH, nV]) (by simp) (by simp)
  · simp (disch := omega) [-List.reduceReplicate, metH]
end Go.Abs
