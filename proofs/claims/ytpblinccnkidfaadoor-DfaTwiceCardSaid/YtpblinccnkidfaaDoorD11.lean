/-
  What sets of states answer. No condition.
-/
import Derived.Test.YtpblinccnkidfaaDoorD10
import Derived.Test.YtpblinccnkidfaaDoorTh4
import Derived.Laws.Bits64b
set_option linter.unusedVariables false
set_option linter.unusedSimpArgs false
set_option linter.unusedSectionVars false
set_option maxHeartbeats 1000000
set_option maxRecDepth 100000
namespace Go.Abs
open Go.Proofs Go.Aut
attribute [-simp] getElem?_pos Option.not_isSome List.map_map
theorem wrapU64 {n : Int} (h1 : 0 ≤ n) (h2 : n ≤ 18446744073709551615) : IntKind.u64.wrap n = n := by
  rw [Go.IntKind.wrap_u64]; omega
theorem vand64 {a b : Nat} (ha : a < 18446744073709551616) (hb : b < 18446744073709551616) : vbits .and .u64 (a : Int) (b : Int) = some (.int .u64 ((a &&& b : Nat) : Int)) := by
  have h1 : (BitVec.ofInt 64 (a : Int)).toNat = a := by rw [BitVec.ofInt_natCast, BitVec.toNat_ofNat]; exact Nat.mod_eq_of_lt (by omega)
  have h2 : (BitVec.ofInt 64 (b : Int)).toNat = b := by rw [BitVec.ofInt_natCast, BitVec.toNat_ofNat]; exact Nat.mod_eq_of_lt (by omega)
  have h3 : a &&& b ≤ a := Nat.and_le_left
  simp only [vbits]
  rw [show IntKind.u64.bits = 64 from rfl, BitVec.toNat_and, h1, h2, wrapU64 (by omega) (by omega)]
theorem vor64 {a b : Nat} (ha : a < 18446744073709551616) (hb : b < 18446744073709551616) : vbits .or .u64 (a : Int) (b : Int) = some (.int .u64 ((a ||| b : Nat) : Int)) := by
  have h1 : (BitVec.ofInt 64 (a : Int)).toNat = a := by rw [BitVec.ofInt_natCast, BitVec.toNat_ofNat]; exact Nat.mod_eq_of_lt (by omega)
  have h2 : (BitVec.ofInt 64 (b : Int)).toNat = b := by rw [BitVec.ofInt_natCast, BitVec.toNat_ofNat]; exact Nat.mod_eq_of_lt (by omega)
  have h3 := or_lt ha hb
  simp only [vbits]
  rw [show IntKind.u64.bits = 64 from rfl, BitVec.toNat_or, h1, h2, wrapU64 (by omega) (by omega)]
theorem vshl64 {j : Nat} (hj : j < 64) : vshift .shl .u64 1 (j : Int) = some (.int .u64 ((2 ^ j : Nat) : Int)) := by
  have h := two_pow_lt hj
  have hp : (2 : Int) ^ j = ((2 ^ j : Nat) : Int) := by simp
  simp only [vshift]
  rw [if_neg (by omega), show IntKind.u64.bits = 64 from rfl, show min (j : Int).toNat 64 = j by omega, hp, Int.one_mul]
  obtain ⟨P, hP⟩ : ∃ P, P = 2 ^ j := ⟨_, rfl⟩
  rw [← hP] at h ⊢
  rw [wrapU64 (by omega) (by omega)]
theorem zero8 : List.replicate 8 (V.int .u64 0) = zeroW.map u64V := rfl
theorem f_bits_TrailingZeros64 {w : Nat} (h0 : w ≠ 0) (h : w < 18446744073709551616) : Fn Tryd.prog n_math_bits_TrailingZeros64 [u64V w] (nV (tz w)) := by
  refine Fn.of_image mixed h_math_bits_TrailingZeros64 i_math_bits_TrailingZeros64 rfl fun ho => ?_
  unfold c_math_bits_TrailingZeros64
  simp only [oks, ok, and_true] at ho
  clear ho
  obtain ⟨hlow, hk⟩ := Go.Lib.lowest_bit 64 w h0 (by simpa using h)
  obtain ⟨hi, htab⟩ := Go.Lib.deBruijn64_at _ hk
  have hpl := two_pow_lt hk
  obtain ⟨k, hkk⟩ : ∃ k, k = Go.Lib.ctz 64 w := ⟨_, rfl⟩
  have htz : tz w = k := by rw [hkk]; rfl
  rw [← hkk] at hlow hk hi htab hpl
  obtain ⟨P, hP⟩ : ∃ P, P = 2 ^ k := ⟨_, rfl⟩
  rw [← hP] at hlow hi htab hpl
  obtain ⟨X, hX⟩ : ∃ X, X = P * 285870213051353865 % 18446744073709551616 := ⟨_, rfl⟩
  rw [← hX] at hi htab
  obtain ⟨idx, hidx⟩ : ∃ idx, idx = X / 288230376151711744 := ⟨_, rfl⟩
  rw [← hidx] at hi htab
  have e1 : vun .neg (.int .u64 (w : Int)) = some (.int .u64 ((18446744073709551616 - w : Nat) : Int)) := by
    simp only [vun]
    rw [Go.IntKind.wrap_u64]
    congr 2
    omega
  have e2 : vbits .and .u64 (w : Int) ((18446744073709551616 - w : Nat) : Int) = some (.int .u64 (P : Int)) := by
    rw [vand64 h (by omega)]
    rw [show (18446744073709551616 : Nat) = 2 ^ 64 from rfl, hlow]
  have e3 : vint .mul .u64 (P : Int) 285870213051353865 = some (.int .u64 (X : Int)) := by
    simp only [vint]
    rw [Go.IntKind.wrap_u64, hX]
    congr 2
  have e4 : vshift .shr .u64 (X : Int) 58 = some (.int .u64 (idx : Int)) := by
    rw [hidx]
    simp only [vshift]
    rw [if_neg (by omega), show min (Int.toNat 58) IntKind.u64.bits = 58 from rfl, Int.fdiv_eq_ediv_of_nonneg _ (by decide)]
    congr 2
  have hw : ¬w = 0 := h0
  have hcut : List.take 1 (List.drop idx (Go.Lib.deBruijn64tab.map u8V)) = [u8V k] := by
    have hl : idx < Go.Lib.deBruijn64tab.length := by simpa [Go.Lib.deBruijn64tab] using hi
    have hg : Go.Lib.deBruijn64tab[idx]? = some k := by
      rw [List.getD_eq_getElem?_getD, List.getElem?_eq_getElem hl] at htab
      rw [List.getElem?_eq_getElem hl]
      simpa using htab
    have hg2 : (Go.Lib.deBruijn64tab.map u8V)[idx]? = some (u8V k) := by rw [List.getElem?_map, hg]; rfl
    rw [List.drop_eq_getElem_cons (by simpa using hl)]
    rw [List.getElem?_eq_getElem (by simpa using hl)] at hg2
    simp only [Option.some.injEq] at hg2
    simp [hg2]
  simp [Go.Lib.deBruijn64tab] at hcut
  unfold u64V
  simp (disch := omega) [-List.reduceReplicate, hw, e1, e2, e3, e4, hcut, htz]
theorem take_one_drop {l : List V} {j : Nat} {v : V} (h : l[j]? = some v) : List.take 1 (List.drop j l) = [v] := by
  obtain ⟨hl, he⟩ := List.getElem?_eq_some_iff.1 h
  rw [List.drop_eq_getElem_cons hl, he]
  rfl
theorem splice_set {l : List V} {j : Nat} {v : V} (h : j < l.length) : List.take j l ++ v :: List.drop (j + 1) l = l.set j v := by
  rw [List.set_eq_take_append_cons_drop, if_pos h]
theorem f_dfa_setOf (l : List Nat) (hl : ∀ q ∈ l, q < 512) (hll : l.length ≤ 1000000) : Fn Tryd.prog n_dfa_setOf [rowN l] (.strct ((setW l).map u64V)) := by
  refine Fn.of_image mixed h_dfa_setOf i_dfa_setOf rfl fun ho => ?_
  unfold c_dfa_setOf
  simp only [oks, ok, and_true] at ho
  clear ho
  obtain ⟨R, hR⟩ : ∃ R, R = setW l := ⟨_, rfl⟩
  rw [← hR]
  have hRl : R.length = 8 := by rw [hR]; exact (wOK_set hl).len
  simp (disch := omega) [-List.reduceReplicate]
  refine W_loop (fun (x : Nat × List Nat) => ⟨[(2, .ptr 0 0), (3, .ptr 1 0), (6, rowN l), (7, .int .i64 l.length), (8, nV x.1)], [some (.box (zeroW.map u64V)), some (.box (x.2.map u64V))]⟩)
    (fun x => x.1 ≤ l.length ∧ wOK x.2 ∧ (l.drop x.1).foldl addW x.2 = R) (fun x => l.length - x.1) [] _ (0, zeroW) rfl (by simp [-List.reduceReplicate, zero8]) ⟨by simp, wOK_zero, by simp [hR, setW]⟩ ?_
  rintro ⟨k, s⟩ ⟨hk, hs, hi⟩ N hN
  simp only at hk hs hi
  have hsl := hs.len
  rcases place l k hk with ⟨he, hd⟩ | ⟨hlt, q, hx, hd⟩ <;> rw [hd] at hi
  · simp only [List.foldl_nil] at hi
    subst hi
    have h8 : List.take 8 (s.map u64V) = s.map u64V := List.take_of_length_le (by simp; omega)
    simp (disch := omega) [-List.reduceReplicate, he, hsl, h8, zeroW]
  · have hq := hl q (List.mem_of_getElem? hx)
    have e1 : ((q : Int) / 64).toNat = q / 64 := by omega
    have hj := vshl64 (j := q % 64) (by omega)
    rw [show ((q % 64 : Nat) : Int) = (q : Int) % 64 by omega] at hj
    have hw := getN_lt hs (i := q / 64) (by omega)
    have hor := vor64 hw.2 (two_pow_lt (j := q % 64) (by omega))
    have ha : addW s q = s.set (q / 64) (getN s (q / 64) ||| 2 ^ (q % 64)) := rfl
    have haok := hs.add hq
    obtain ⟨i, hii⟩ : ∃ i, i = q / 64 := ⟨_, rfl⟩
    obtain ⟨P, hP⟩ : ∃ P, P = 2 ^ (q % 64) := ⟨_, rfl⟩
    obtain ⟨w, hww⟩ : ∃ w, w = getN s (q / 64) := ⟨_, rfl⟩
    have hi8 : i < 8 := by omega
    rw [← hP] at hj hor ha
    rw [← hww, ← hii] at hw
    rw [← hww] at hor ha
    rw [← hii] at e1 ha
    obtain ⟨v, hv⟩ : ∃ v, v = w ||| P := ⟨_, rfl⟩
    rw [← hv] at hor ha
    have hc := take_one_drop (l := s.map u64V) (j := i) (v := .int .u64 w) (by rw [List.getElem?_map, hw.1]; rfl)
    have hsp := splice_set (l := s.map u64V) (j := i) (v := .int .u64 v) (by simp; omega)
    have hset : (s.map u64V).set i (.int .u64 v) = (addW s q).map u64V := by rw [ha, List.map_set]; rfl
    rw [hset] at hsp
    rw [List.foldl_cons] at hi
    replace hi := hid hi
    simp (disch := omega) [-List.reduceReplicate, hx, e1, hj, hor, hc, hsp, hsl]
    exact hN.out _ <| Nx.mk (k + 1, addW s q) (by simp) ⟨by simp only; omega, haok, hi.out⟩ (by simp only; omega)
theorem f_dfa_has (s : List Nat) (hs : wOK s) (q : Nat) (hq : q < 512) : Fn Tryd.prog n_dfa_set_has [.strct (s.map u64V), nV q] (.bool (hasW s q)) := by
  refine Fn.of_image mixed h_dfa_set_has i_dfa_set_has rfl fun ho => ?_
  unfold c_dfa_set_has
  simp only [oks, ok, and_true] at ho
  clear ho
  have hsl := hs.len
  have e1 : ((q : Int) / 64).toNat = q / 64 := by omega
  have hj := vshl64 (j := q % 64) (by omega)
  rw [show ((q % 64 : Nat) : Int) = (q : Int) % 64 by omega] at hj
  have hw := getN_lt hs (i := q / 64) (by omega)
  have hand := vand64 hw.2 (two_pow_lt (j := q % 64) (by omega))
  have hres : (getN s (q / 64) &&& 2 ^ (q % 64) = 0) = (hasW s q = false) := by
    rw [hasW, eq_iff_iff]
    constructor
    · intro h
      have := congrArg (fun x => x.testBit (q % 64)) h
      simpa [Nat.testBit_and, Nat.testBit_two_pow] using this
    · intro h
      refine Nat.eq_of_testBit_eq fun k => ?_
      rw [Nat.testBit_and, Nat.testBit_two_pow, Nat.zero_testBit]
      by_cases hk : q % 64 = k
      · rw [← hk, h]; rfl
      · simp [hk]
  obtain ⟨i, hii⟩ : ∃ i, i = q / 64 := ⟨_, rfl⟩
  obtain ⟨P, hP⟩ : ∃ P, P = 2 ^ (q % 64) := ⟨_, rfl⟩
  obtain ⟨w, hww⟩ : ∃ w, w = getN s (q / 64) := ⟨_, rfl⟩
  have hi8 : i < 8 := by omega
  rw [← hP] at hj hand hres
  rw [← hww, ← hii] at hw
  rw [← hww] at hand hres
  rw [← hii] at e1
  obtain ⟨v, hv⟩ : ∃ v, v = w &&& P := ⟨_, rfl⟩
  rw [← hv] at hand hres
  have hc := take_one_drop (l := s.map u64V) (j := i) (v := .int .u64 w) (by rw [List.getElem?_map, hw.1]; rfl)
  simp (disch := omega) [-List.reduceReplicate, e1, hj, hand, hc, hsl]
  cases hh : hasW s q <;> rw [hh] at hres <;> simp [hres]
/-- A row of words, of which some have been joined. -/
def mixW (k off : Nat) (r t : List Nat) : List Nat := r.take off ++ ((orW ((r.drop off).take 8) t).take k ++ r.drop (off + k))
section
variable {k off : Nat} {r t : List Nat} (hr : off + 8 ≤ r.length) (ht : t.length = 8)
include hr ht
theorem or8_len : (orW ((r.drop off).take 8) t).length = 8 := by simp [orW, ht]; omega
theorem mixW_len (hk : k ≤ 8) : (mixW k off r t).length = r.length := by
  have := or8_len hr ht
  simp [mixW, this]; omega
theorem mixW_zero : mixW 0 off r t = r := by simp [mixW]
theorem mixW_get (hk : k < 8) : (mixW k off r t)[off + k]? = r[off + k]? := by
  have := or8_len hr ht
  rw [mixW, List.getElem?_append_right (by simp; omega), List.getElem?_append_right (by simp [this]; omega), List.getElem?_drop]
  congr 1
  simp [this]; omega
theorem mixW_step (hk : k < 8) {a b : Nat} (ha : r[off + k]? = some a) (hb : t[k]? = some b) : (mixW k off r t).set (off + k) (a ||| b) = mixW (k + 1) off r t := by
  have h8 := or8_len hr ht
  have hd : r.drop (off + k) = a :: r.drop (off + (k + 1)) := by rw [drop_cons ha]; rfl
  have ho : (orW ((r.drop off).take 8) t)[k]? = some (a ||| b) := by
    simp only [orW, List.getElem?_zipWith, List.getElem?_take, List.getElem?_drop, ha, hb, if_pos hk]
  rw [mixW, mixW, hd, take_snoc ho, List.set_append_right _ _ (by simp; omega), List.set_append_right _ _ (by simp [h8]; omega)]
  simp only [List.append_assoc, List.cons_append, List.nil_append]
  congr 2
  have : off + k - (r.take off).length - ((orW ((r.drop off).take 8) t).take k).length = 0 := by simp [h8]; omega
  rw [this]
  rfl
end
theorem mixW_full {s t : List Nat} (hs : s.length = 8) (ht : t.length = 8) : mixW 8 0 s t = orW s t := by
  have h1 : s.take 8 = s := List.take_of_length_le (by omega)
  have h2 : s.drop 8 = [] := List.drop_of_length_le (by omega)
  have h3 : (orW s t).take 8 = orW s t := List.take_of_length_le (by simp [orW]; omega)
  simp [mixW, h1, h2, h3]
theorem f_set_join_1 (s t row : List Nat) (off : Nat) (hs : wOK s) (ht : wOK t) (hrow : (row.drop off).take 8 = t) : FnH Tryd.prog n_pdfa_set_join [0, 1] [.ptr 0 0, .sptr (.strct (row.map u64V)) off] [some (.box (s.map u64V))] (.tup []) [some (.box ((orW s t).map u64V))] := by
  refine FnH.of_image mixed h_pdfa_set_join i_pdfa_set_join rfl fun ho hh => ?_
  unfold c_pdfa_set_join
  clear ho hh
  have hsl := hs.len
  have htl := ht.len
  have hrl : off + 8 ≤ row.length := by have := congrArg List.length hrow; simp at this; omega
  simp (disch := omega) [-List.reduceReplicate]
  refine W_loop (fun k : Nat => ⟨[(0, .ptr 0 0), (1, .sptr (.strct (row.map u64V)) off), (6, .sptr (.strct (row.map u64V)) off), (7, nV k)], [some (.box ((mixW k 0 s t).map u64V))]⟩) (fun k => k ≤ 8) (fun k => 8 - k) [] _ 0 rfl (by simp [mixW_zero (r := s) (t := t) (off := 0) (by omega) htl]) (by simp) ?_
  intro k hk N hN
  rcases Nat.lt_or_ge k 8 with hk8 | hk8
  · obtain ⟨a, ha⟩ := get_lt (l := s) (k := k) (by omega)
    obtain ⟨b, hb⟩ := get_lt (l := t) (k := k) (by omega)
    have hal := hs.lt a (List.mem_of_getElem? ha)
    have hbl := ht.lt b (List.mem_of_getElem? hb)
    have hrb : row[off + k]? = some b := by
      rw [← hrow, List.getElem?_take, if_pos hk8, List.getElem?_drop] at hb; exact hb
    have hml := mixW_len (k := k) (r := s) (t := t) (off := 0) (by omega) htl (by omega)
    have hmg := mixW_get (k := k) (r := s) (t := t) (off := 0) (by omega) htl hk8
    rw [Nat.zero_add, ha] at hmg
    have hst := mixW_step (k := k) (r := s) (t := t) (off := 0) (by omega) htl hk8 (a := a) (b := b) (by rw [Nat.zero_add]; exact ha) hb
    rw [Nat.zero_add] at hst
    have hor := vor64 hal hbl
    obtain ⟨v, hv⟩ : ∃ v, v = a ||| b := ⟨_, rfl⟩
    rw [← hv] at hst hor
    have hc1 := take_one_drop (l := row.map u64V) (j := off + k) (v := .int .u64 b) (by rw [List.getElem?_map, hrb]; rfl)
    have hc2 := take_one_drop (l := (mixW k 0 s t).map u64V) (j := k) (v := .int .u64 a) (by rw [List.getElem?_map, hmg]; rfl)
    have hsp := splice_set (l := (mixW k 0 s t).map u64V) (j := k) (v := .int .u64 v) (by simp; omega)
    rw [show ((mixW k 0 s t).map u64V).set k (.int .u64 v) = (mixW (k + 1) 0 s t).map u64V by rw [← hst, List.map_set]; rfl] at hsp
    have hlt2 : off + k < row.length := by omega
    simp (disch := omega) [-List.reduceReplicate, hc1, hc2, hsp, hor, hml, hsl]
    exact hN.out _ <| Nx.mk (k + 1) (by simp) (by omega) (by omega)
  · have : k = 8 := by omega
    subst this
    have hf := mixW_full hsl htl
    simp (disch := omega) [-List.reduceReplicate, hf]
theorem f_set_join_2 (e1 e2 : Nat) (rows : List (List Nat)) (sets : List (List Nat)) (i j off : Nat) (r t : List Nat) (hri : rows[i]? = some r) (hsj : sets[j]? = some t) (hrw : ∀ w ∈ r, w < 18446744073709551616) (hrl : r.length = 760) (hoff : off + 8 ≤ 760) (ht : wOK t) :
    FnH Tryd.prog n_pdfa_set_join [0, 1] [.eptr 0 rows.length i off, .eptr 1 sets.length j 0] [some (.arr e1 760 (rows.map fun r => .strct (r.map u64V))), some (.arr e2 8 (sets.map fun r => .strct (r.map u64V)))] (.tup []) [some (.arr e1 760 ((rows.set i (mixW 8 off r t)).map fun r => .strct (r.map u64V))), some (.arr e2 8 (sets.map fun r => .strct (r.map u64V)))] := by
  refine FnH.of_image mixed h_pdfa_set_join i_pdfa_set_join rfl fun ho hh => ?_
  unfold c_pdfa_set_join
  clear ho hh
  have htl := ht.len
  have hil := (List.getElem?_eq_some_iff.1 hri).1
  have hjl := (List.getElem?_eq_some_iff.1 hsj).1
  obtain ⟨n, hn⟩ : ∃ n, n = rows.length := ⟨_, rfl⟩
  have hset0 : rows.set i r = rows := by
    refine List.ext_getElem? fun k => ?_
    by_cases hk : i = k
    · subst hk; rw [List.getElem?_set_self hil, hri]
    · rw [List.getElem?_set_ne hk]
  obtain ⟨sv, hsv⟩ : ∃ sv : List V, sv = sets.map fun r => V.strct (r.map u64V) := ⟨_, rfl⟩
  have hsvl : sv.length = sets.length := by simp [hsv]
  have hsvj : sv[j]? = some (.strct (t.map u64V)) := by simp [hsv, hsj]
  rw [← hsv]
  clear hsv hsj
  simp (disch := omega) [-List.reduceReplicate]
  refine W_loop (fun k : Nat => ⟨[(0, .eptr 0 rows.length i off), (1, .eptr 1 sets.length j 0), (6, .eptr 1 sets.length j 0), (7, nV k)], [some (.arr e1 760 ((rows.set i (mixW k off r t)).map fun r => .strct (r.map u64V))), some (.arr e2 8 sv)]⟩) (fun k => k ≤ 8) (fun k => 8 - k) [] _ 0 rfl (by rw [mixW_zero (by omega) htl, hset0]; simp) (by simp) ?_
  intro k hk N hN
  rcases Nat.lt_or_ge k 8 with hk8 | hk8
  · obtain ⟨a, ha⟩ := get_lt (l := r) (k := off + k) (by omega)
    obtain ⟨b, hb⟩ := get_lt (l := t) (k := k) (by omega)
    have hal := hrw a (List.mem_of_getElem? ha)
    have hbl := ht.lt b (List.mem_of_getElem? hb)
    have hml := mixW_len (k := k) (r := r) (t := t) (off := off) (by omega) htl (by omega)
    have hmg := mixW_get (k := k) (r := r) (t := t) (off := off) (by omega) htl hk8
    rw [ha] at hmg
    have hst := mixW_step (k := k) (r := r) (t := t) (off := off) (by omega) htl hk8 (a := a) (b := b) ha hb
    have hor := vor64 hal hbl
    obtain ⟨v, hv⟩ : ∃ v, v = a ||| b := ⟨_, rfl⟩
    rw [← hv] at hst hor
    have hc1 := take_one_drop (l := t.map u64V) (j := k) (v := .int .u64 b) (by rw [List.getElem?_map, hb]; rfl)
    have hc2 := take_one_drop (l := (mixW k off r t).map u64V) (j := off + k) (v := .int .u64 a) (by rw [List.getElem?_map, hmg]; rfl)
    have hsp := splice_set (l := (mixW k off r t).map u64V) (j := off + k) (v := .int .u64 v) (by simp; omega)
    rw [show ((mixW k off r t).map u64V).set (off + k) (.int .u64 v) = (mixW (k + 1) off r t).map u64V by rw [← hst, List.map_set]; rfl] at hsp
    obtain ⟨rv, hrv⟩ : ∃ rv : List V, rv = (rows.set i (mixW k off r t)).map fun r => V.strct (r.map u64V) := ⟨_, rfl⟩
    have hrvl : rv.length = rows.length := by simp [hrv]
    have hrvi : rv[i]? = some (.strct ((mixW k off r t).map u64V)) := by simp [hrv, hil]
    have hrs : rv.set i (.strct ((mixW (k + 1) off r t).map u64V)) = (rows.set i (mixW (k + 1) off r t)).map fun r => V.strct (r.map u64V) := by
      rw [hrv, show V.strct ((mixW (k + 1) off r t).map u64V) = (fun r : List Nat => V.strct (r.map u64V)) (mixW (k + 1) off r t) from rfl, ← List.map_set, List.set_set]
    rw [← hrv]
    have hol : off + k < 760 := by omega
    simp (disch := omega) [-List.reduceReplicate, hc1, hc2, hsp, hor, hml, htl, hrvi, hrvl, hsvj, hsvl, hrl]
    exact hN.out _ <| Nx.mk (k + 1) (by rw [hrs]; simp) (by omega) (by omega)
  · have : k = 8 := by omega
    subst this
    simp (disch := omega) [-List.reduceReplicate]
end Go.Abs
