/-
  A walk through sets of states. No condition.
-/
import Derived.Test.YtpblinccnkidfaaDoorD13
set_option linter.unusedVariables false
set_option linter.unusedSimpArgs false
set_option maxHeartbeats 1000000
set_option maxRecDepth 100000
namespace Go.Abs
open Go.Proofs Go.Aut
attribute [-simp] getElem?_pos Option.not_isSome List.map_map
def ktS : KT := ⟨true, kz 8 (.i .u64)⟩
theorem eqK_rowW (a b : List Nat) : eqK (rowW a) (rowW b) = decide (a = b) := by simp [eqK, rowW, cl, eqCs_u64]
theorem fits_rowW {k : List Nat} (h : k.length = 8) : fitsK ktS (rowW k) = true := by
  simp only [fitsK, rowW, aggV, cl, ktS, kOfs_u64, h]
  simp
theorem f_met_add_set_nil (q : List Nat) (hq : q.length = 8) : FnH Tryd.prog n_pdfa_metIdfa_set_add [0] [.ptr 0 0, rowW q] (metE ktS 8) (nV 0) (metH ktS ty_dfa_set 8 rowW [q]) := by
  refine FnH.of_image mixed h_pdfa_metIdfa_set_add i_pdfa_metIdfa_set_add rfl fun ho hh => ?_
  unfold c_pdfa_metIdfa_set_add
  clear ho hh
  have hf := fits_rowW hq
  have ht : List.take 8 (q.map u64V) = q.map u64V := List.take_of_length_le (by simp; omega)
  simp only [rowW, ktS] at hf
  simp (disch := omega) [-List.reduceReplicate, metE, metH, ktS, rowW, mget, mput, ents, hf, hq, ht]
theorem f_met_add_set (l : List (List Nat)) (q : List Nat) (hl : l.length ≤ 1000000) (hq : q.length = 8) : FnH Tryd.prog n_pdfa_metIdfa_set_add [0] [.ptr 0 0, rowW q] (metH ktS ty_dfa_set 8 rowW l) (nV (addN eqB l q)) (metH ktS ty_dfa_set 8 rowW (addL eqB l q)) := by
  refine FnH.of_image mixed h_pdfa_metIdfa_set_add i_pdfa_metIdfa_set_add rfl fun ho hh => ?_
  unfold c_pdfa_metIdfa_set_add
  clear ho hh
  have hf := fits_rowW hq
  have ht : List.take 8 (q.map u64V) = q.map u64V := List.take_of_length_le (by simp; omega)
  simp only [rowW, ktS] at hf
  have hm := mget_ents eqK_rowW q l 0
  cases hp : pos eqB q l with
  | some i =>
    rw [hp] at hm
    replace hm : mget (.strct (q.map u64V)) (ents rowW 0 l) = some (.int .i64 (i : Int)) := by simpa [nV, rowW] using hm
    obtain ⟨h1, h2⟩ := add_some hp
    rw [h1, h2]
    simp (disch := omega) [-List.reduceReplicate, metH, ktS, rowW, hm, hf, hq, ht]
  | none =>
    rw [hp] at hm
    replace hm : mget (.strct (q.map u64V)) (ents rowW 0 l) = none := by simpa [nV, rowW] using hm
    have hpt := mput_ents eqK_rowW q l 0 hp
    replace hpt : mput (.strct (q.map u64V)) (.int .i64 (l.length : Int)) (ents rowW 0 l) = ents rowW 0 (l ++ [q]) := by simpa [nV, rowW] using hpt
    obtain ⟨h1, h2⟩ := add_none hp
    rw [h1, h2]
    simp (disch := omega) [-List.reduceReplicate, metH, ktS, rowW, hm, hpt, hf, hq, ht]
theorem f_meet_set (q : List Nat) (hq : q.length = 8) : FnH Tryd.prog n_dfa_meetIdfa_set [] [.seq 8 [rowW q]] [] (.ptr 0 0) (metH ktS ty_dfa_set 8 rowW [q]) := by
  refine FnH.of_image mixed h_dfa_meetIdfa_set i_dfa_meetIdfa_set rfl fun ho hh => ?_
  unfold c_dfa_meetIdfa_set
  clear ho hh
  have ht : List.take 8 (q.map u64V) = q.map u64V := List.take_of_length_le (by simp; omega)
  have hd : List.drop 8 (q.map u64V) = [] := List.drop_of_length_le (by simp; omega)
  simp (disch := omega) [-List.reduceReplicate]
  refine W_loop (fun k : Nat => if k = 0 then ⟨[(3, .ptr 0 0), (9, .seq 8 [rowW q]), (10, .int .i64 1), (11, .int .i64 0)], metE ktS 8⟩ else ⟨[(3, .ptr 0 0), (9, .seq 8 [rowW q]), (10, .int .i64 1), (11, .int .i64 1)], metH ktS ty_dfa_set 8 rowW [q]⟩) (fun k => k ≤ 1) (fun k => 1 - k) [] _ 0 rfl (by simp [metE, ktS]) (by simp) ?_
  intro k hk N hN
  rcases (show k = 0 ∨ k = 1 by omega) with rfl | rfl
  · simp (disch := omega) [-List.reduceReplicate, metE, rowW, hq, ht, zero8, hd, zeroW]
    refine wcallH_mk [0] 1 [0, 1] (by simp) (by simp) (by simp [rowW]) (by simp) (f_met_add_set_nil q hq) (by simp [metH]) fun _ _ => ?_
    simp (disch := omega) [-List.reduceReplicate, metH, metE]
    exact hN.out _ <| Nx.mk 1 (by simp [metH, rowW]) (by simp) (by simp)
  · simp (disch := omega) [-List.reduceReplicate, metH, rowW]
def stepS (t : List (List Nat)) (s : List Nat) (c : Nat) : List Nat := ofW (setAt t c) s
/-- Sets of states that are there. -/
structure dSet (n : Nat) (s : List Nat) : Prop where
  ok : wOK s
  lt : ∀ p < 512, hasW s p = true → p < n
def of1H (bd : List Bool) (t : List (List Nat)) (L : List Nat) : List (Option Ob) := [some (.box (bd.map V.bool)), some (.box [stepsV t]), some (.box (L.map u64V))]
attribute [simp] of1H
theorem f_dfa_Of_1 (bd : List Bool) (hbd : bd.length = 95) (t : List (List Nat)) (ht : stepsOK t) (L s : List Nat) (hL : L.length = 8) (hs : dSet t.length s) (c : Nat) (hc : c < 95) (b : Bool) (hb : bd[c]? = some b) :
    FnH Tryd.prog n_dfa_Of_1 [2, 3, 4] [rowW s, nV c, .ptr 0 0, .ptr 1 0, .ptr 2 0] (of1H bd t L) (rowW (if b = true then stepS t s c else L)) (of1H bd t (if b = true then stepS t s c else L)) := by
  refine FnH.of_image mixed h_dfa_Of_1 i_dfa_Of_1 rfl fun ho hh => ?_
  unfold c_dfa_Of_1
  clear ho hh
  have hsl := hs.ok.len
  have h8 : ∀ x : List Nat, x.length = 8 → List.take 8 (x.map u64V) = x.map u64V := fun x hx => List.take_of_length_le (by simp; omega)
  have hd8 : ∀ x : List Nat, x.length = 8 → List.drop 8 (x.map u64V) = [] := fun x hx => List.drop_of_length_le (by simp; omega)
  have h8s := h8 s hsl
  have h8L := h8 L hL
  have hd8L := hd8 L hL
  have hc1 := take_one_drop (l := bd.map V.bool) (j := c) (v := .bool b) (by rw [List.getElem?_map, hb]; rfl)
  have hst : (stepS t s c).length = 8 := (ofW_spec hs.ok fun q _ => ht.set hc q).1.len
  have h8t := h8 _ hst
  have hof := f_steps_of t ht s hs.ok c hc hs.lt
  rw [show ofW (setAt t c) s = stepS t s c from rfl] at hof
  cases b
  · simp (disch := omega) [-List.reduceReplicate, stepsV, rowW, hc1, hbd, h8L, hL, zeroW]
  · simp only [stepsV] at hof
    simp (disch := omega) [-List.reduceReplicate, stepsV, rowW, hc1, hbd, h8s, hsl]
    refine wcall_flat hof (by simp [flat]) fun _ => ?_
    simp (disch := omega) [-List.reduceReplicate, stepsV, h8t, hst, hL, hd8L, zeroW]
end Go.Abs
