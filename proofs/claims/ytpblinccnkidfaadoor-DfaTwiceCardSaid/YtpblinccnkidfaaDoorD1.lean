/-
  What the first functions of layer 11 answer. No condition.
-/
import Derived.Test.YtpblinccnkidfaaDoorCodeD
import Derived.Test.YtpblinccnkidfaaDoorTh2
set_option linter.unusedVariables false
set_option linter.unusedSimpArgs false
set_option maxHeartbeats 4000000
set_option maxRecDepth 100000
namespace Go.Abs
open Go.Proofs
attribute [-simp] getElem?_pos Option.not_isSome List.map_map
theorem mixed : Tryd.prog.follows .mixedOrders = true := by kernel_rfl
abbrev Str := List UInt8
theorem take_snoc {α : Type} {l : List α} {k : Nat} {x : α} (h : l[k]? = some x) : l.take (k + 1) = l.take k ++ [x] := by rw [List.take_add_one, h]; rfl
theorem oks_mem : ∀ {l : List V} {v : V}, oks l → v ∈ l → ok v
  | [], _, _, h => by cases h
  | u :: l, v, h, hv => by
    simp only [oks] at h
    rcases List.mem_cons.1 hv with rfl | hv
    · exact h.1
    · exact oks_mem h.2 hv
def zV (n : Int) : V := .int .i64 n
@[simp] def rowZ (r : List Int) : V := .seq 1 (r.map zV)
def autoC (nx : List (List Int)) (fi : List Bool) : List V := [.seq 1 (nx.map rowZ), .seq 1 (fi.map .bool)]
def cellOK (n : Nat) (q : Int) : Bool := decide (0 ≤ q) && decide (q < n)
def rowOK (n : Nat) (r : List Int) : Bool := decide (r.length = 95) && r.all (cellOK n)
def mayZ (nx : List (List Int)) (fi : List Bool) : Bool := (decide (1 ≤ nx.length) && (decide (nx.length ≤ 500) && decide (fi.length = nx.length))) && nx.all (rowOK nx.length)
def err01 (b : Bool) : Int := if b = true then 0 else 1
theorem f_dfa_May (nx : List (List Int)) (fi : List Bool) : Fn Tryd.prog n_dfa_May [.strct (autoC nx fi)] (.int .i64 (err01 (mayZ nx fi))) := by
  refine Fn.of_image mixed h_dfa_May i_dfa_May rfl fun ho => ?_
  unfold c_dfa_May
  simp only [oks, ok, and_true] at ho
  obtain ⟨R, hR⟩ : ∃ R, R = mayZ nx fi := ⟨_, rfl⟩
  have hl1 : nx.length ≤ 140737488355328 := by have := ho; simp [autoC, oks, ok] at this; exact this.1.1
  have hl2 : ∀ r ∈ nx, r.length ≤ 140737488355328 := fun r hr => by
    have := ho; simp [autoC, oks, ok] at this
    have := oks_mem this.1.2 (List.mem_map_of_mem hr)
    simp [ok] at this; exact this.1
  clear ho
  rw [← hR]
  have go : ((1 ≤ nx.length ∧ nx.length ≤ 500) ∧ fi.length = nx.length) → nx.all (rowOK nx.length) = R := fun h => by rw [hR, mayZ, decide_eq_true h.1.1, decide_eq_true h.1.2, decide_eq_true h.2]; rfl
  have no : ¬((1 ≤ nx.length ∧ nx.length ≤ 500) ∧ fi.length = nx.length) → R = false := fun h => by rw [hR, mayZ]; simp; omega
  clear hR
  replace go := hid go
  replace no := hid no
  simp (disch := omega) [-List.reduceReplicate, autoC]
  repeat' (first | (refine BrKd.mk (fun h => ?_) (fun h => ?_) <;> simp (disch := omega) [*]) | (refine BrK.mk (fun h => ?_) (fun h => ?_) <;> simp (disch := omega) [*]))
  · rw [no.out (by simp [*])]; rfl
  · rw [no.out (by omega)]; rfl
  · have h0 : 0 < nx.length := List.length_pos_iff.2 ‹_›
    have hg := go.out ⟨⟨by omega, by omega⟩, by omega⟩
    clear go no
    refine W_loop (fun k : Nat => ⟨[(3, .int .i64 nx.length), (25, .seq 1 (nx.map rowZ)), (26, .int .i64 nx.length), (27, .int .i64 k)], []⟩) (fun k => k ≤ nx.length ∧ (nx.drop k).all (rowOK nx.length) = R) (fun k => nx.length - k) [] _ 0 rfl (by simp) (by simp [hg]) ?_
    rintro k ⟨hk, hi⟩ N hN
    rcases place nx k hk with ⟨he, hd⟩ | ⟨hlt, x, hx, hd⟩ <;> rw [hd] at hi
    · simp at hi
      subst hi
      simp (disch := omega) [-List.reduceReplicate, he]
      rfl
    · have hxl := hl2 x (List.mem_of_getElem? hx)
      simp only [List.all_cons] at hi
      replace hi := hid hi
      simp (disch := omega) [-List.reduceReplicate, hx]
      refine BrKd.mk (fun h95 => ?_) (fun h95 => ?_)
      · simp (disch := omega) [-List.reduceReplicate, h95]
        refine W_loop (fun j : Nat => ⟨[(3, .int .i64 nx.length), (25, .seq 1 (nx.map rowZ)), (26, .int .i64 nx.length), (27, .int .i64 k), (34, .seq 1 (x.map zV)), (35, .int .i64 x.length), (36, .int .i64 j)], []⟩) (fun j => j ≤ x.length ∧ x.all (cellOK nx.length) = (x.drop j).all (cellOK nx.length)) (fun j => x.length - j) [] _ 0 rfl (by simp [h95]) (by simp) ?_
        rintro j ⟨hj, hi2⟩ M hM
        rcases place x j hj with ⟨he, hd2⟩ | ⟨hlt2, y, hy, hd2⟩ <;> rw [hd2] at hi2
        · simp (disch := omega) [-List.reduceReplicate, he]
          have hi := hi.out
          rw [rowOK, decide_eq_true (by omega), hi2] at hi
          exact hN.out _ <| Nx.mk (k + 1) (by simp) ⟨by omega, by simpa using hi⟩ (by omega)
        · simp only [List.all_cons] at hi2
          replace hi2 := hid hi2
          have bad : cellOK nx.length y = false → R = false := fun h => by have := hi.out; rw [rowOK, hi2.out, h] at this; simpa using this.symm
          replace bad := hid bad
          simp (disch := omega) [-List.reduceReplicate, hy, zV]
          repeat' (first | (refine BrKd.mk (fun h => ?_) (fun h => ?_) <;> simp (disch := omega) [*]) | (refine BrK.mk (fun h => ?_) (fun h => ?_) <;> simp (disch := omega) [*]))
          all_goals first
            | (rw [bad.out (by simp [cellOK]; omega)]; rfl)
            | (refine hM.out _ <| Nx.mk (j + 1) (by simp [h95]) ⟨by omega, ?_⟩ (by omega)
               have := hi2.out
               rwa [show cellOK nx.length y = true by simp [cellOK]; omega, Bool.true_and] at this)
      · simp (disch := omega) [-List.reduceReplicate, h95]
        have hi := hi.out
        rw [rowOK, decide_eq_false (by omega)] at hi
        simp at hi
        rw [hi]; rfl
  · rw [no.out (by omega)]; rfl
theorem f_dfa_single (b : Bool) : Fn Tryd.prog n_dfa_single [.bool b] (.strct (autoC [List.replicate 95 0] [b])) := by
  refine Fn.of_image mixed h_dfa_single i_dfa_single rfl fun ho => ?_
  unfold c_dfa_single
  simp only [oks, ok, and_true] at ho
  clear ho
  simp (disch := omega) [-List.reduceReplicate, autoC]
  simp [zV]
theorem f_dfa_Empty : Fn Tryd.prog n_dfa_Empty [] (.strct (autoC [List.replicate 95 0] [false])) := by
  refine Fn.of_image mixed h_dfa_Empty i_dfa_Empty rfl fun ho => ?_
  unfold c_dfa_Empty
  simp only [oks, ok, and_true] at ho
  clear ho
  simp (disch := omega) [-List.reduceReplicate]
  refine wcall_pure (f_dfa_single false) (by simp) fun _ => ?_
  simp (disch := omega) [-List.reduceReplicate, autoC]
theorem f_dfa_Full : Fn Tryd.prog n_dfa_Full [] (.strct (autoC [List.replicate 95 0] [true])) := by
  refine Fn.of_image mixed h_dfa_Full i_dfa_Full rfl fun ho => ?_
  unfold c_dfa_Full
  simp only [oks, ok, and_true] at ho
  clear ho
  simp (disch := omega) [-List.reduceReplicate]
  refine wcall_pure (f_dfa_single true) (by simp) fun _ => ?_
  simp (disch := omega) [-List.reduceReplicate, autoC]
/-! ### Automata of plain numbers -/
open Go.Aut
def nV (n : Nat) : V := .int .i64 n
def rowN (r : List Nat) : V := .seq 1 (r.map nV)
def nextN (nx : List (List Nat)) : V := .seq 1 (nx.map rowN)
def finN (fi : List Bool) : V := .seq 1 (fi.map .bool)
def Aut.c (a : Aut) : List V := [nextN a.next, finN a.final]
theorem rowN_eq (r : List Nat) : rowN r = rowZ (r.map fun (n : Nat) => (n : Int)) := by simp only [rowN, rowZ, List.map_map]; rfl
theorem Aut.c_eq (a : Aut) : Aut.c a = autoC (a.next.map fun r => r.map fun (n : Nat) => (n : Int)) a.final := by
  simp only [Aut.c, autoC, nextN, finN, List.map_map]
  congr 2
  refine List.map_congr_left fun r _ => ?_
  simp only [Function.comp]
  exact rowN_eq r
theorem mayZ_of {a : Aut} (h : a.ok) (hn : a.n ≤ 500) : mayZ (a.next.map fun r => r.map fun (n : Nat) => (n : Int)) a.final = true := by
  have h1 := h.pos
  have h2 := h.fin
  simp only [Aut.n] at h1 hn h2
  simp only [mayZ, List.length_map, Bool.and_eq_true, decide_eq_true_eq, List.all_map, List.all_eq_true]
  refine ⟨⟨by omega, by omega, by omega⟩, fun r hr => ?_⟩
  obtain ⟨h3, h4⟩ := h.rows r hr
  simp only [Function.comp, rowOK, Bool.and_eq_true, decide_eq_true_eq, List.length_map, List.all_map, List.all_eq_true]
  refine ⟨h3, fun x hx => ?_⟩
  have := h4 x hx
  simp only [Aut.n] at this
  simp [cellOK]; omega
theorem f_dfa_May_ok {a : Aut} (h : a.ok) (hn : a.n ≤ 500) : Fn Tryd.prog n_dfa_May [.strct (Aut.c a)] (.int .i64 0) := by
  have := f_dfa_May (a.next.map fun r => r.map fun (n : Nat) => (n : Int)) a.final
  rw [← Aut.c_eq, mayZ_of h hn] at this
  exact this
end Go.Abs
