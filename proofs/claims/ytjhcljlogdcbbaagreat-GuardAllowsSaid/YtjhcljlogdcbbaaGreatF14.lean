/-
  What strainerref06's functions answer that make stable nodes. No condition.
-/
import Derived.Test.YtjhcljlogdcbbaaGreatF13
set_option linter.unusedVariables false
set_option linter.unusedSimpArgs false
set_option maxHeartbeats 4000000
set_option maxRecDepth 100000
namespace Go.Abs
open Go.Proofs
attribute [-simp] getElem?_pos Option.not_isSome List.map_map
def hasW (w : Str) : Str → Bool
  | [] => begins [] w
  | b :: t => begins (b :: t) w || hasW w t
theorem hasW_short (w : Str) : ∀ s : Str, s.length < w.length → hasW w s = false
  | [], h => by simp [hasW, begins]; intro h'; subst h'; simp at h
  | b :: t, h => by
    have := hasW_short w t (by simp at h; omega)
    simp only [hasW, this, Bool.or_false, begins, Bool.and_eq_false_iff, decide_eq_false_iff_not]
    left; omega
theorem hasW_step (w : Str) (s : Str) (h : w.length ≤ s.length) : hasW w s = (decide (s.take w.length = w) || (if s = [] then false else hasW w s.tail)) := by
  cases s with
  | nil => have : w = [] := List.eq_nil_of_length_eq_zero (by simpa using h); subst this; simp [hasW, begins]
  | cons b t =>
    simp only [List.length_cons] at h
    simp [hasW, begins, decide_eq_true h]
theorem f_ref06_has (s w : Str) (hw0 : 0 < w.length) (hs : s.length ≤ 1000000000) (hwl : w.length ≤ 1000000000) : Fn Tryz.prog n_ref06_has [.str s, .str w] (.bool (hasW w s)) := by
  refine Fn.of_image mixed h_ref06_has i_ref06_has rfl fun ho => ?_
  unfold c_ref06_has
  simp only [oks, ok, and_true] at ho
  clear ho
  simp (disch := omega) []
  generalize hr : hasW w s = r
  refine W_loop (fun k : Nat => ⟨[(0, .str s), (1, .str w), (5, .int .i64 k)], []⟩) (fun k => k ≤ s.length ∧ hasW w (s.drop k) = r) (fun k => s.length - k) [] _ 0 rfl (by simp) (by simp [hr]) ?_
  rintro k ⟨hk, hi⟩ N hN
  by_cases hlt : k + w.length ≤ s.length
  · rw [hasW_step w _ (by simp; omega), if_neg (by simp; omega), List.tail_drop] at hi
    replace hi := hid hi
    have e : ((k : Int) + (w.length : Int)).toNat - k = w.length := by omega
    simp (disch := omega) [e]
    refine BrKd.mk (fun h => ?_) (fun h => ?_)
    · simp (disch := omega) []
      have hi := hi.out
      simpa [h] using hi
    · simp (disch := omega) []
      have hi := hi.out
      refine hN.out _ <| Nx.mk (k + 1) (by simp) ⟨by omega, by simpa [h] using hi⟩ (by omega)
  · rw [hasW_short w _ (by simp; omega)] at hi
    subst hi
    simp (disch := omega) []
def foldB (b : UInt8) : UInt8 := if 65 ≤ b.toNat ∧ b.toNat ≤ 90 then b8 (b.toNat + 32) else b
theorem f_ref01_Fold (s : Str) (hs : s.length ≤ 1000000000) : Fn Tryz.prog n_ref01_Fold [.str s] (.str (s.map foldB)) := by
  refine Fn.of_image mixed h_ref01_Fold i_ref01_Fold rfl fun ho => ?_
  unfold c_ref01_Fold
  simp only [oks, ok, and_true] at ho
  clear ho
  simp (disch := omega) []
  refine W_loop (fun (k : Nat) => ⟨[(0, .str s), (3, .ref 0 k), (4, .int .i64 k)], [some (.arr ty_uint8 1 (((s.take k).map foldB).map bV))]⟩)
    (fun k => k ≤ s.length) (fun k => s.length - k) [.r 3 ty_uint8 1] _ 0 rfl (by simp) (by simp) ?_
  rintro k hk N hN
  have hkl : (s.take k).length = k := by rw [List.length_take]; omega
  rcases place s k hk with ⟨he, hd⟩ | ⟨hlt, x, hx, hd⟩
  · have htk : s.take k = s := List.take_of_length_le (by omega)
    rw [htk]
    simp (disch := omega) [he, -bV_eq]
  · simp (disch := omega) [hx]
    have fin : ∀ τ : St, τ.nrm [0, 3, 4] = ⟨[(0, .str s), (3, .ref 0 (k + 1)), (4, .int .i64 ((k + 1 : Nat) : Int))], [some (.arr ty_uint8 1 (((s.take k).map foldB).map bV ++ [bV (foldB x)]))]⟩ → N τ := by
      intro τ h
      refine hN.out _ <| Nx.mk (k + 1) ?_ (by omega) (by omega)
      rw [h, take_snoc hx]
      simp
    repeat' (first
      | (refine BrKd.mk (fun h => ?_) (fun h => ?_) <;> simp (disch := omega) [hkl, *])
      | (refine BrK.mk (fun h => ?_) (fun h => ?_) <;> simp (disch := omega) [hkl, *]))
    all_goals
      first
      | (have hf : foldB x = b8 (x.toNat + 32) := by rw [foldB, if_pos (by omega)])
      | (have hf : foldB x = x := by rw [foldB, if_neg (by omega)])
      refine fin _ ?_
      rw [hf]
      simp (disch := omega) [b8_toNat]
def blank (b : UInt8) : Bool := decide (b.toNat = 9) || (decide (b.toNat = 10) || (decide (b.toNat = 12) || decide (b.toNat = 32)))
theorem f_ref05_blank (b : UInt8) : Fn Tryz.prog n_ref05_blank [.int .u8 b.toNat] (.bool (blank b)) := by
  refine Fn.of_image mixed h_ref05_blank i_ref05_blank rfl fun ho => ?_
  unfold c_ref05_blank
  simp only [oks, ok, and_true] at ho
  clear ho
  simp (disch := omega) [blank]
  repeat' (first | (refine BrKd.mk (fun h => ?_) (fun h => ?_) <;> simp (disch := omega) [*]) | (refine BrK.mk (fun h => ?_) (fun h => ?_) <;> simp (disch := omega) [*]))
def endC (b : UInt8) : Bool := blank b || (decide (b.toNat = 47) || decide (b.toNat = 62))
/-- Does an end of an element of that name stand there? -/
def endAt (nm : Str) (s : Str) : Bool := decide ((s.take (2 + nm.length)).map foldB = [60, 47] ++ nm) && (match s[2 + nm.length]? with
  | some c => endC c
  | none => false)
def endsGo (nm : Str) : Nat → Str → Int
  | _, [] => -1
  | i, b :: t => if endAt nm (b :: t) then i else endsGo nm (i + 1) t
def ends (s nm : Str) : Int := endsGo nm 0 s
theorem endsGo_short (nm : Str) : ∀ (s : Str) (i : Nat), s.length ≤ 2 + nm.length → endsGo nm i s = -1
  | [], i, h => rfl
  | b :: t, i, h => by
    have := endsGo_short nm t (i + 1) (by simp at h; omega)
    simp only [endsGo, this]
    rw [if_neg]
    simp only [endAt, Bool.and_eq_true, not_and, Bool.not_eq_true]
    intro _
    rw [List.getElem?_eq_none (by omega)]
theorem f_ref05_Ends (s nm : Str) (hs : s.length ≤ 1000000000) (hn : nm.length ≤ 1000000) : Fn Tryz.prog n_ref05_Ends [.str s, .str nm] (.int .i64 (ends s nm)) := by
  refine Fn.of_image mixed h_ref05_Ends i_ref05_Ends rfl fun ho => ?_
  unfold c_ref05_Ends
  simp only [oks, ok, and_true] at ho
  clear ho
  simp (disch := omega) []
  generalize hr : ends s nm = r
  refine W_loop (fun k : Nat => ⟨[(0, .str s), (1, .str nm), (5, .int .i64 (2 + nm.length)), (6, .int .i64 k)], []⟩) (fun k => k ≤ s.length ∧ endsGo nm k (s.drop k) = r) (fun k => s.length - k) [] _ 0 rfl (by simp) (by simp [← hr, ends]) ?_
  rintro k ⟨hk, hi⟩ N hN
  by_cases hlt : k + (2 + nm.length) < s.length
  · obtain ⟨x, hx⟩ := get_lt (l := s) (k := k) (by omega)
    obtain ⟨c, hc⟩ := get_lt (l := s) (k := k + (2 + nm.length)) hlt
    have hd := drop_cons hx
    have hat : endAt nm (s.drop k) = (decide (((s.drop k).take (2 + nm.length)).map foldB = [60, 47] ++ nm) && endC c) := by
      simp only [endAt, List.getElem?_drop, hc]
    rw [hd] at hi
    simp only [endsGo] at hi
    rw [← hd, hat] at hi
    replace hi := hid hi
    have hkt : ((k : Int) + (2 + (nm.length : Int))).toNat = k + (2 + nm.length) := by omega
    simp (disch := omega) [hkt, hc]
    have hlb : ((s.drop k).take (2 + nm.length)).length ≤ 1000000000 := by simp; omega
    refine wcall_flat (f_ref01_Fold _ hlb) rfl fun _ => ?_
    generalize hT : ((s.drop k).take (2 + nm.length)).map foldB = T at hi
    have no : (decide (T = [60, 47] ++ nm) && endC c) = false → endsGo nm (k + 1) (s.drop (k + 1)) = r := fun h => by have hi := hi.out; rw [if_neg (by rw [h]; exact Bool.false_ne_true)] at hi; exact hi
    have yes : (decide (T = [60, 47] ++ nm) && endC c) = true → r = k := fun h => by have hi := hi.out; rw [if_pos h] at hi; exact hi.symm
    replace no := hid no
    replace yes := hid yes
    simp (disch := omega) []
    repeat' (first
      | (refine BrKd.mk (fun h => ?_) (fun h => ?_) <;> simp (disch := omega) [*])
      | (refine BrK.mk (fun h => ?_) (fun h => ?_) <;> simp (disch := omega) [*])
      | (refine wcall_flat (f_ref05_blank _) rfl (fun _ => ?_) <;> simp (disch := omega) [*]))
    all_goals first
      | (refine hN.out _ <| Nx.mk (k + 1) (by simp) ⟨by omega, no.out ?_⟩ (by omega); simp_all [endC]; done)
      | (rw [yes.out ?_]; simp_all [endC]; done)
      | (refine (yes.out ?_).symm; simp_all [endC]; done)
  · rw [endsGo_short nm _ _ (by simp; omega)] at hi
    subst hi
    simp (disch := omega) []
end Go.Abs
