/-
  The least text that an automaton accepts: what is answered. No condition.
-/
import Derived.Test.YtpblinccnkidfaaDoorD18
import Derived.Test.YtpblinccnkidfaaDoorTh6
set_option linter.unusedVariables false
set_option linter.unusedSimpArgs false
set_option maxHeartbeats 1000000
set_option maxRecDepth 100000
namespace Go.Abs
open Go.Proofs Go.Aut
attribute [-simp] getElem?_pos Option.not_isSome List.map_map
/-- The i-th of a row read from behind, up to the middle. -/
def revGo (l : List V) (i : Nat) : List V := (l.reverse.take i) ++ ((l.drop i).take (l.length - 2 * i)) ++ l.reverse.drop (l.length - i)
theorem revGo_len {l : List V} {i : Nat} (h : 2 * i ≤ l.length) : (revGo l i).length = l.length := by simp [revGo]; omega
theorem revGo_zero (l : List V) : revGo l 0 = l := by simp [revGo]
theorem revGo_at {l : List V} {i : Nat} (h : 2 * i ≤ l.length) (k : Nat) : (revGo l i)[k]? = if k < i ∨ l.length - i ≤ k then l.reverse[k]? else l[k]? := by
  unfold revGo
  rcases Nat.lt_or_ge k i with h1 | h1
  · rw [List.append_assoc, List.getElem?_append_left (by simp; omega), if_pos (.inl h1), List.getElem?_take, if_pos h1]
  · rcases Nat.lt_or_ge k (l.length - i) with h2 | h2
    · rw [List.getElem?_append_left (by simp; omega), List.getElem?_append_right (by simp; omega), if_neg (by omega), List.getElem?_take, List.getElem?_drop]
      have e : k - (l.reverse.take i).length = k - i := by simp; omega
      rw [e, if_pos (by omega)]
      congr 1
      omega
    · rw [List.getElem?_append_right (by simp; omega), if_pos (.inr h2), List.getElem?_drop]
      congr 1
      simp
      omega
theorem revGo_step {l : List V} {i : Nat} (h : 2 * i + 1 < l.length) {a b : V} (ha : l[i]? = some a) (hb : l[l.length - 1 - i]? = some b) : ((revGo l i).set i b).set (l.length - 1 - i) a = revGo l (i + 1) := by
  refine List.ext_getElem? fun k => ?_
  have hl := revGo_len (l := l) (i := i) (by omega)
  rw [revGo_at (by omega)]
  by_cases h1 : l.length - 1 - i = k
  · subst h1
    rw [List.getElem?_set_self (by simp [hl]; omega), if_pos (.inr (by omega)), List.getElem?_reverse (by omega)]
    rw [show l.length - 1 - (l.length - 1 - i) = i by omega, ha]
  · rw [List.getElem?_set_ne h1]
    by_cases h2 : i = k
    · subst h2
      rw [List.getElem?_set_self (by rw [hl]; omega), if_pos (.inl (by omega)), List.getElem?_reverse (by omega), hb]
    · rw [List.getElem?_set_ne h2, revGo_at (by omega)]
      by_cases h3 : k < i ∨ l.length - i ≤ k
      · rw [if_pos h3, if_pos (by omega)]
      · rw [if_neg h3, if_neg (by omega)]
theorem revGo_full {l : List V} {i : Nat} (h : 2 * i ≤ l.length) (h2 : l.length ≤ 2 * i + 1) : revGo l i = l.reverse := by
  refine List.ext_getElem? fun k => ?_
  rw [revGo_at h]
  split
  · rfl
  · rename_i hk
    rw [List.getElem?_reverse (by omega)]
    congr 1
    omega
theorem f_slices_Reverse (bs : List Nat) (hl : bs.length ≤ 1000000) : FnH Tryd.prog n_slices_ReverseIIbyte_byte [0] [.ref 0 bs.length] [some (.arr ty_uint8 1 (bs.map u8V))] (.tup []) [some (.arr ty_uint8 1 (bs.reverse.map u8V))] := by
  refine FnH.of_image mixed h_slices_ReverseIIbyte_byte i_slices_ReverseIIbyte_byte rfl fun ho hh => ?_
  unfold c_slices_ReverseIIbyte_byte
  clear ho hh
  obtain ⟨l, hld⟩ : ∃ l, l = bs.map u8V := ⟨_, rfl⟩
  have hll : l.length = bs.length := by simp [hld]
  have hrev : bs.reverse.map u8V = l.reverse := by rw [hld, List.map_reverse]
  have hget : ∀ k, k < l.length → ∃ x : Nat, l[k]? = some (.int .u8 (x : Int)) := fun k hk => by
    obtain ⟨x, hx⟩ := get_lt (l := bs) (k := k) (by omega)
    exact ⟨x, by rw [hld, List.getElem?_map, hx]; rfl⟩
  rw [hrev, ← hld, ← hll]
  rw [← hll] at hl
  clear hrev hld hll
  simp (disch := omega) [-List.reduceReplicate]
  refine W_loop (fun i : Nat => ⟨[(0, .ref 0 l.length), (2, nV i), (3, .int .i64 ((l.length : Int) - 1 - i))], [some (.arr ty_uint8 1 (revGo l i))]⟩) (fun i => 2 * i ≤ l.length) (fun i => l.length - i) [] _ 0 rfl (by simp [revGo_zero]) (by simp) ?_
  intro i hi N hN
  have hlen := revGo_len hi
  rcases Nat.lt_or_ge (2 * i + 1) l.length with hlt | hge
  · obtain ⟨a, ha⟩ := hget i (by omega)
    obtain ⟨b, hb⟩ := hget (l.length - 1 - i) (by omega)
    have h1 := revGo_at hi i
    have h2 := revGo_at hi (l.length - 1 - i)
    rw [if_neg (by omega), ha] at h1
    rw [if_neg (by omega), hb] at h2
    have hst := revGo_step hlt ha hb
    have hj : ((l.length : Int) - 1 - i).toNat = l.length - 1 - i := by omega
    have h3 : ((revGo l i).set i (.int .u8 (b : Int)))[l.length - 1 - i]? = some (.int .u8 (b : Int)) := by rw [List.getElem?_set_ne (by omega)]; exact h2
    simp (disch := omega) [-List.reduceReplicate, hlen, hj, h1, h2, h3, hst]
    exact hN.out _ <| Nx.mk (i + 1) (by simp; omega) (by omega) (by omega)
  · have := revGo_full hi (by omega)
    simp (disch := omega) [-List.reduceReplicate, this]
def pathN (fr by' : List Nat) : Nat → Nat → List Nat
  | 0, _ => []
  | f + 1, i => if i = 0 then [] else getN by' i :: pathN fr by' f (getN fr i)
/-- Where what has been met came from, and by which words. -/
structure CameBy (fr by' : List Nat) (ws : List (List Nat)) : Prop where
  len1 : fr.length = ws.length
  len2 : by'.length = ws.length
  zero : ∀ w, ws[0]? = some w → w = []
  back : ∀ (i : Nat) (w : List Nat), 0 < i → ws[i]? = some w → ∃ (j c : Nat) (u : List Nat), fr[i]? = some j ∧ by'[i]? = some (32 + c) ∧ j < i ∧ ws[j]? = some u ∧ w = u ++ [c] ∧ c < 95
theorem pathN_eq {fr by' : List Nat} {ws : List (List Nat)} (h : CameBy fr by' ws) : ∀ (f i : Nat) (w : List Nat), i < f → ws[i]? = some w → pathN fr by' f i = w.reverse.map (32 + ·)
  | 0, _, _, hf, _ => by omega
  | f + 1, i, w, hf, hw => by
    simp only [pathN]
    by_cases hi : i = 0
    · subst hi
      rw [if_pos rfl, h.zero w hw]; rfl
    · rw [if_neg hi]
      obtain ⟨j, c, u, h1, h2, h3, h4, rfl, _⟩ := h.back i w (by omega) hw
      rw [show getN by' i = 32 + c by simp [getN, h2], show getN fr i = j by simp [getN, h1], pathN_eq h f j u (by omega) h4]
      simp
def wordS (w : List Nat) : List UInt8 := w.map fun c => UInt8.ofNat (32 + c)
theorem ofBytes_word : ∀ (w : List Nat), (∀ c ∈ w, c < 95) → ofBytesV ((w.map (32 + ·)).map u8V) = some (wordS w)
  | [], _ => rfl
  | c :: w, h => by
    have ih := ofBytes_word w fun c hc => h c (by simp [hc])
    have hc := h c (by simp)
    simp only [List.map_cons, ofBytesV, ih, u8V, Option.map_some, Int.toNat_natCast]
    rfl
theorem f_dfa_path (fr by' : List Nat) (ws : List (List Nat)) (h : CameBy fr by' ws) (hl : ws.length ≤ 100000) (i : Nat) (w : List Nat) (hw : ws[i]? = some w) (hw95 : ∀ c ∈ w, c < 95) (hwl : w.length ≤ i) : Fn Tryd.prog n_dfa_path [rowN fr, .seq 1 (by'.map u8V), nV i] (.str (wordS w)) := by
  refine Fn.of_imageE mixed h_dfa_path i_dfa_path rfl fun ho => ?_
  unfold c_dfa_path
  simp only [oks, ok, and_true] at ho
  clear ho
  have hil := (List.getElem?_eq_some_iff.1 hw).1
  have h1 := h.len1
  have h2 := h.len2
  obtain ⟨R, hR⟩ : ∃ R, R = w.reverse.map (32 + ·) := ⟨_, rfl⟩
  have hRl : R.length = w.length := by simp [hR]
  have hpn : pathN fr by' (i + 1) i = R := by rw [hR]; exact pathN_eq h (i + 1) i w (by omega) hw
  simp (disch := omega) [-List.reduceReplicate]
  refine W_loop (fun (x : Nat × Nat × List Nat) => ⟨[(0, rowN fr), (1, .seq 1 (by'.map u8V)), (2, nV x.2.1), (7, .ref 0 x.2.2.length)], [some (.arr ty_uint8 1 (x.2.2.map u8V))]⟩)
    (fun x => x.2.1 < x.1 ∧ x.2.1 ≤ i ∧ x.2.2.length + x.2.1 ≤ i ∧ x.2.2 ++ pathN fr by' x.1 x.2.1 = R) (fun x => x.1) [.r 7 ty_uint8 1] _ (i + 1, i, []) rfl (by simp) ⟨by simp, by simp, by simp, by simpa using hpn⟩ ?_
  rintro ⟨f, k, out⟩ ⟨hf, hk, hol, hi⟩ N hN
  simp only at hf hk hol hi
  cases f with
  | zero => omega
  | succ f =>
  simp only [pathN] at hi
  obtain ⟨u, hu⟩ := get_lt (l := ws) (k := k) (by omega)
  by_cases hk0 : k = 0
  · subst hk0
    rw [if_pos rfl, List.append_nil] at hi
    subst hi
    have hrv := f_slices_Reverse out (by omega)
    have hob : ofBytesV ((out.map u8V).reverse) = some (wordS w) := by
      rw [hR, List.map_reverse, List.map_reverse, List.reverse_reverse]
      exact ofBytes_word w hw95
    simp (disch := omega) [-List.reduceReplicate]
    refine wcallH_mk [0] 1 [0] (by simp) (by simp) (by simp) (by simp) hrv (by simp) fun _ _ => ?_
    simp (disch := omega) [-List.reduceReplicate, hob]
  · rw [if_neg hk0] at hi
    obtain ⟨j, c, u', g1, g2, g3, g4, g5, g6⟩ := h.back k u (by omega) hu
    rw [show getN by' k = 32 + c by simp [getN, g2], show getN fr k = j by simp [getN, g1]] at hi
    replace hi := hid hi
    simp (disch := omega) [-List.reduceReplicate, g1, g2]
    exact hN.out _ <| Nx.mk (f, j, out ++ [32 + c]) (by simp) ⟨by simp only; omega, by simp only; omega, by simp; omega, by simpa using hi.out⟩ (by simp only; omega)
end Go.Abs
