/-
  What meets keys answers: their numbers, as they were first met. No condition.
-/
import Derived.Test.YtpblinccnkidfaaDoorD4
set_option linter.unusedVariables false
set_option linter.unusedSimpArgs false
set_option maxHeartbeats 4000000
set_option maxRecDepth 100000
namespace Go.Abs
open Go.Proofs Go.Aut
attribute [-simp] getElem?_pos Option.not_isSome List.map_map
section
variable {α : Type} {f : α → V}
theorem vidss_map (h : ∀ a, vids (f a) = []) : ∀ l : List α, vidss (l.map f) = []
  | [] => rfl
  | a :: l => by simp [vidss, h a, vidss_map h l]
theorem purs_map {hp : List (Option Ob)} (h : ∀ a, pur hp (f a) = some (f a)) : ∀ l : List α, purs hp (l.map f) = some (l.map f)
  | [] => rfl
  | a :: l => by simp [purs, h a, purs_map h l]
theorem rens_map {m : List Nat} (h : ∀ a, ren m (f a) = f a) : ∀ l : List α, rens m (l.map f) = l.map f
  | [] => rfl
  | a :: l => by simp [rens, h a, rens_map h l]
theorem bcks_map {m : List Nat} (h : ∀ a, bck m (f a) = f a) : ∀ l : List α, bcks m (l.map f) = l.map f
  | [] => rfl
  | a :: l => by simp [bcks, h a, bcks_map h l]
theorem flats_map (h : ∀ a, flat (f a) = true) : ∀ l : List α, flats (l.map f) = true
  | [] => rfl
  | a :: l => by simp [flats, h a, flats_map h l]
theorem curA_map {σ : St} (h : ∀ a, σ.cur (f a) = true) : ∀ l : List α, σ.curA (l.map f) = true
  | [] => rfl
  | a :: l => by simp [St.curA, h a, curA_map h l]
end
theorem rep1 : List.replicate 1 (none : Option Ob) = [none] := rfl
theorem rep2 : List.replicate 2 (none : Option Ob) = [none, none] := rfl
theorem rep3 : List.replicate 3 (none : Option Ob) = [none, none, none] := rfl
theorem rep4 : List.replicate 4 (none : Option Ob) = [none, none, none, none] := rfl
theorem rep5 : List.replicate 5 (none : Option Ob) = [none, none, none, none, none] := rfl
theorem rep6 : List.replicate 6 (none : Option Ob) = [none, none, none, none, none, none] := rfl
attribute [simp] rep1 rep2 rep3 rep4 rep5 rep6
theorem wrapU16 (n : Int) (h1 : 0 ≤ n) (h2 : n ≤ 65535) : IntKind.u16.wrap n = n := by
  rw [Go.IntKind.wrap_u16]; omega
theorem vcii16 {n : Int} (h1 : 0 ≤ n) (h2 : n ≤ 65535) : vcii .u16 n = some (.int .u16 n) := by simp only [vcii, wrapU16 _ h1 h2]
attribute [simp high] vcii16
def u16V (n : Nat) : V := .int .u16 n
def u64V (n : Nat) : V := .int .u64 n
section
variable (l : List Nat) (hp : List (Option Ob)) (m : List Nat) (σ : St)
@[simp] theorem vidss_u16 : vidss (l.map u16V) = [] := vidss_map (fun _ => rfl) l
@[simp] theorem purs_u16 : purs hp (l.map u16V) = some (l.map u16V) := purs_map (fun _ => rfl) l
@[simp] theorem rens_u16 : rens m (l.map u16V) = l.map u16V := rens_map (fun _ => rfl) l
@[simp] theorem bcks_u16 : bcks m (l.map u16V) = l.map u16V := bcks_map (fun _ => rfl) l
@[simp] theorem flats_u16 : flats (l.map u16V) = true := flats_map (fun _ => rfl) l
@[simp] theorem curA_u16 : σ.curA (l.map u16V) = true := curA_map (fun _ => by simp [St.cur, St.cur0, u16V, vids]) l
@[simp] theorem vidss_u64 : vidss (l.map u64V) = [] := vidss_map (fun _ => rfl) l
@[simp] theorem purs_u64 : purs hp (l.map u64V) = some (l.map u64V) := purs_map (fun _ => rfl) l
@[simp] theorem rens_u64 : rens m (l.map u64V) = l.map u64V := rens_map (fun _ => rfl) l
@[simp] theorem bcks_u64 : bcks m (l.map u64V) = l.map u64V := bcks_map (fun _ => rfl) l
@[simp] theorem flats_u64 : flats (l.map u64V) = true := flats_map (fun _ => rfl) l
@[simp] theorem curA_u64 : σ.curA (l.map u64V) = true := curA_map (fun _ => by simp [St.cur, St.cur0, u64V, vids]) l
end
theorem eqCs_u16 : ∀ (a b : List Nat), eqCs (a.map u16V) (b.map u16V) = decide (a = b)
  | [], [] => rfl
  | [], _ :: _ => rfl
  | _ :: _, [] => rfl
  | x :: a, y :: b => by
    have : ((x : Int) = y) ↔ x = y := by omega
    simp [eqCs, u16V, eqC, this]
    rw [eqCs_u16 a b]
theorem eqCs_u64 : ∀ (a b : List Nat), eqCs (a.map u64V) (b.map u64V) = decide (a = b)
  | [], [] => rfl
  | [], _ :: _ => rfl
  | _ :: _, [] => rfl
  | x :: a, y :: b => by
    have : ((x : Int) = y) ↔ x = y := by omega
    simp [eqCs, u64V, eqC, this]
    rw [eqCs_u64 a b]
theorem kOfs_u16 : ∀ l : List Nat, kOfs (l.map u16V) = somes (List.replicate l.length (.i .u16))
  | [] => rfl
  | x :: l => by simp [kOfs, kOfs_u16 l, List.replicate_succ, somes, u16V, kOf]
theorem kOfs_u64 : ∀ l : List Nat, kOfs (l.map u64V) = somes (List.replicate l.length (.i .u64))
  | [] => rfl
  | x :: l => by simp [kOfs, kOfs_u64 l, List.replicate_succ, somes, u64V, kOf]
def ktK : KT := ⟨true, kz 96 (.i .u16)⟩
def kcV (k : List Nat) : V := .strct (k.map u16V)
theorem eqK_kcV (a b : List Nat) : eqK (kcV a) (kcV b) = decide (a = b) := by simp [eqK, kcV, cl, eqCs_u16]
theorem fits_kcV {k : List Nat} (h : k.length = 96) : fitsK ktK (kcV k) = true := by
  simp only [fitsK, kcV, aggV, cl, ktK, kOfs_u16, h]
  simp
theorem f_met_add_key_nil (q : List Nat) (hq : q.length = 96) : FnH Tryd.prog n_pdfa_metIdfa_key_add [0] [.ptr 0 0, kcV q] (metE ktK 96) (nV 0) (metH ktK ty_dfa_key 96 kcV [q]) := by
  refine FnH.of_image mixed h_pdfa_metIdfa_key_add i_pdfa_metIdfa_key_add rfl fun ho hh => ?_
  unfold c_pdfa_metIdfa_key_add
  clear ho hh
  have hf := fits_kcV hq
  have ht : List.take 96 (q.map u16V) = q.map u16V := List.take_of_length_le (by simp; omega)
  simp only [kcV, ktK] at hf
  simp (disch := omega) [-List.reduceReplicate, metE, metH, ktK, kcV, mget, mput, ents, hf, hq, ht]
theorem f_met_add_key (l : List (List Nat)) (q : List Nat) (hl : l.length ≤ 1000000) (hq : q.length = 96) : FnH Tryd.prog n_pdfa_metIdfa_key_add [0] [.ptr 0 0, kcV q] (metH ktK ty_dfa_key 96 kcV l) (nV (addN eqB l q)) (metH ktK ty_dfa_key 96 kcV (addL eqB l q)) := by
  refine FnH.of_image mixed h_pdfa_metIdfa_key_add i_pdfa_metIdfa_key_add rfl fun ho hh => ?_
  unfold c_pdfa_metIdfa_key_add
  clear ho hh
  have hf := fits_kcV hq
  have ht : List.take 96 (q.map u16V) = q.map u16V := List.take_of_length_le (by simp; omega)
  simp only [kcV, ktK] at hf
  have hm := mget_ents eqK_kcV q l 0
  cases hp : pos eqB q l with
  | some i =>
    rw [hp] at hm
    replace hm : mget (.strct (q.map u16V)) (ents kcV 0 l) = some (.int .i64 (i : Int)) := by simpa [nV, kcV] using hm
    obtain ⟨h1, h2⟩ := add_some hp
    rw [h1, h2]
    simp (disch := omega) [-List.reduceReplicate, metH, ktK, kcV, hm, hf, hq, ht]
  | none =>
    rw [hp] at hm
    replace hm : mget (.strct (q.map u16V)) (ents kcV 0 l) = none := by simpa [nV, kcV] using hm
    have hpt := mput_ents eqK_kcV q l 0 hp
    replace hpt : mput (.strct (q.map u16V)) (.int .i64 (l.length : Int)) (ents kcV 0 l) = ents kcV 0 (l ++ [q]) := by simpa [nV, kcV] using hpt
    obtain ⟨h1, h2⟩ := add_none hp
    rw [h1, h2]
    simp (disch := omega) [-List.reduceReplicate, metH, ktK, kcV, hm, hpt, hf, hq, ht]
theorem f_meet_key : FnH Tryd.prog n_dfa_meetIdfa_key [] [.nil 96] [] (.ptr 0 0) (metE ktK 96) := by
  refine FnH.of_image mixed h_dfa_meetIdfa_key i_dfa_meetIdfa_key rfl fun ho hh => ?_
  unfold c_dfa_meetIdfa_key
  clear ho hh
  simp (disch := omega) [-List.reduceReplicate]
  refine W_loop (fun k : Nat => ⟨[(3, .ptr 0 0), (9, .nil 96), (10, .int .i64 0), (11, .int .i64 0)], metE ktK 96⟩) (fun k => True) (fun k => 0) [] _ 0 rfl (by simp [metE, ktK]) (by simp) ?_
  intro k hk N hN
  simp (disch := omega) [-List.reduceReplicate]
end Go.Abs
