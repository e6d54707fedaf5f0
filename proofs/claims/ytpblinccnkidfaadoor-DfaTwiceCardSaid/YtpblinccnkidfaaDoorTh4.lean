/-
  Sets of states, plainly: as eight words of 64 bits. No condition.
-/
import Derived.Test.YtpblinccnkidfaaDoorTh3
import Derived.Lib.TrailingZeros
set_option linter.unusedVariables false
set_option linter.unusedSimpArgs false
set_option linter.unusedSectionVars false
namespace Go.Aut
/-- A set, as it lies. -/
structure wOK (s : List Nat) : Prop where
  len : s.length = 8
  lt : ∀ w ∈ s, w < 18446744073709551616
def zeroW : List Nat := [0, 0, 0, 0, 0, 0, 0, 0]
def hasW (s : List Nat) (q : Nat) : Bool := (getN s (q / 64)).testBit (q % 64)
def orW (s t : List Nat) : List Nat := List.zipWith (fun a b => a ||| b) s t
def addW (s : List Nat) (q : Nat) : List Nat := s.set (q / 64) (getN s (q / 64) ||| 2 ^ (q % 64))
def setW (l : List Nat) : List Nat := l.foldl addW zeroW
theorem wOK_zero : wOK zeroW := ⟨rfl, fun w hw => by simp [zeroW] at hw; omega⟩
theorem hasW_zero (q : Nat) : hasW zeroW q = false := by
  have h0 : ∀ i, getN zeroW i = 0 := fun i => by
    unfold getN zeroW
    match i with
    | 0 => rfl
    | 1 => rfl
    | 2 => rfl
    | 3 => rfl
    | 4 => rfl
    | 5 => rfl
    | 6 => rfl
    | 7 => rfl
    | _ + 8 => rfl
  rw [hasW, h0, Nat.zero_testBit]
theorem getN_lt {s : List Nat} (h : wOK s) {i : Nat} (hi : i < 8) : s[i]? = some (getN s i) ∧ getN s i < 18446744073709551616 := by
  obtain ⟨x, hx⟩ : ∃ x, s[i]? = some x := ⟨_, List.getElem?_eq_getElem (by rw [h.len]; exact hi)⟩
  have : getN s i = x := by simp [getN, hx]
  rw [this]
  exact ⟨hx, h.lt x (List.mem_of_getElem? hx)⟩
theorem two_pow_lt {j : Nat} (h : j < 64) : 2 ^ j < 18446744073709551616 := by
  have : 2 ^ j < 2 ^ 64 := Nat.pow_lt_pow_right (by decide) h
  simpa using this
theorem or_lt {a b : Nat} (ha : a < 18446744073709551616) (hb : b < 18446744073709551616) : a ||| b < 18446744073709551616 := by
  have : a ||| b < 2 ^ 64 := Nat.or_lt_two_pow (by simpa using ha) (by simpa using hb)
  simpa using this
theorem wOK.or {s t : List Nat} (hs : wOK s) (ht : wOK t) : wOK (orW s t) := by
  refine ⟨by simp [orW, hs.len, ht.len], fun w hw => ?_⟩
  obtain ⟨i, hi⟩ := List.mem_iff_getElem?.1 hw
  simp only [orW, List.getElem?_zipWith] at hi
  cases h1 : s[i]? with
  | none => simp [h1] at hi
  | some a => cases h2 : t[i]? with
    | none => simp [h1, h2] at hi
    | some b =>
      simp [h1, h2] at hi
      rw [← hi]
      exact or_lt (hs.lt a (List.mem_of_getElem? h1)) (ht.lt b (List.mem_of_getElem? h2))
theorem getN_or {s t : List Nat} (hs : wOK s) (ht : wOK t) {i : Nat} (hi : i < 8) : getN (orW s t) i = getN s i ||| getN t i := by
  obtain ⟨x, hx⟩ : ∃ x, s[i]? = some x := ⟨_, (getN_lt hs hi).1⟩
  obtain ⟨y, hy⟩ : ∃ y, t[i]? = some y := ⟨_, (getN_lt ht hi).1⟩
  simp [getN, orW, List.getElem?_zipWith, hx, hy]
theorem hasW_or {s t : List Nat} (hs : wOK s) (ht : wOK t) {q : Nat} (hq : q < 512) : hasW (orW s t) q = (hasW s q || hasW t q) := by
  simp only [hasW, getN_or hs ht (show q / 64 < 8 by omega), Nat.testBit_or]
theorem wOK.add {s : List Nat} (hs : wOK s) {q : Nat} (hq : q < 512) : wOK (addW s q) := by
  refine ⟨by simp [addW, hs.len], fun w hw => ?_⟩
  rcases List.mem_or_eq_of_mem_set hw with h | rfl
  · exact hs.lt w h
  · exact or_lt (getN_lt hs (by omega)).2 (two_pow_lt (by omega))
theorem hasW_add {s : List Nat} (hs : wOK s) {q p : Nat} (hq : q < 512) (hp : p < 512) : hasW (addW s q) p = (hasW s p || decide (p = q)) := by
  simp only [hasW, addW]
  by_cases h : p / 64 = q / 64
  · rw [h]
    have : getN (s.set (q / 64) (getN s (q / 64) ||| 2 ^ (q % 64))) (q / 64) = getN s (q / 64) ||| 2 ^ (q % 64) := by
      unfold getN
      rw [List.getElem?_set_self (by rw [hs.len]; omega)]
      rfl
    rw [this, Nat.testBit_or, Nat.testBit_two_pow]
    congr 1
    by_cases hpq : p = q
    · rw [decide_eq_true hpq, decide_eq_true (by rw [hpq])]
    · rw [decide_eq_false hpq, decide_eq_false (by omega)]
  · have : getN (s.set (q / 64) (getN s (q / 64) ||| 2 ^ (q % 64))) (p / 64) = getN s (p / 64) := by
      unfold getN
      rw [List.getElem?_set_ne (fun e => h e.symm)]
    rw [this]
    have : ¬p = q := fun e => h (by rw [e])
    rw [decide_eq_false this, Bool.or_false]
theorem setW_fold : ∀ (l : List Nat) (s : List Nat), wOK s → (∀ q ∈ l, q < 512) → wOK (l.foldl addW s) ∧ ∀ p < 512, hasW (l.foldl addW s) p = (hasW s p || decide (p ∈ l))
  | [], s, hs, _ => ⟨hs, by simp⟩
  | q :: l, s, hs, hl => by
    have hq := hl q (by simp)
    obtain ⟨h1, h2⟩ := setW_fold l (addW s q) (hs.add hq) fun q hq => hl q (by simp [hq])
    refine ⟨h1, fun p hp => ?_⟩
    rw [List.foldl_cons, h2 p hp, hasW_add hs hq hp]
    simp [Bool.or_assoc]
theorem wOK_set {l : List Nat} (hl : ∀ q ∈ l, q < 512) : wOK (setW l) := (setW_fold l zeroW wOK_zero hl).1
theorem hasW_set {l : List Nat} (hl : ∀ q ∈ l, q < 512) {p : Nat} (hp : p < 512) : hasW (setW l) p = decide (p ∈ l) := by
  rw [setW, (setW_fold l zeroW wOK_zero hl).2 p hp, hasW_zero, Bool.false_or]
theorem wOK_ext {s t : List Nat} (hs : wOK s) (ht : wOK t) (h : ∀ q < 512, hasW s q = hasW t q) : s = t := by
  refine List.ext_getElem? fun i => ?_
  rcases Nat.lt_or_ge i 8 with hi | hi
  · obtain ⟨h1, h1l⟩ := getN_lt hs hi
    obtain ⟨h2, h2l⟩ := getN_lt ht hi
    rw [h1, h2]
    congr 1
    refine Nat.eq_of_testBit_eq fun j => ?_
    rcases Nat.lt_or_ge j 64 with hj | hj
    · have := h (64 * i + j) (by omega)
      simp only [hasW] at this
      rwa [show (64 * i + j) / 64 = i by omega, show (64 * i + j) % 64 = j by omega] at this
    · have e : ∀ x, x < 18446744073709551616 → x.testBit j = false := fun x hx => by
        refine Nat.testBit_lt_two_pow ?_
        have : 2 ^ 64 ≤ 2 ^ j := Nat.pow_le_pow_right (by decide) hj
        have h64 : (2 : Nat) ^ 64 = 18446744073709551616 := by decide
        omega
      rw [e _ h1l, e _ h2l]
  · rw [List.getElem?_eq_none (by rw [hs.len]; exact hi), List.getElem?_eq_none (by rw [ht.len]; exact hi)]
/-! ### Through the bits of a word -/
def tz (w : Nat) : Nat := Go.Lib.ctz 64 w
theorem tz_spec {w : Nat} (h0 : w ≠ 0) (h : w < 18446744073709551616) : tz w < 64 ∧ w.testBit (tz w) = true ∧ ∀ j, (w &&& (w - 1)).testBit j = (w.testBit j && decide (j ≠ tz w)) := by
  obtain ⟨m, hm, hk⟩ := Go.Lib.ctzFrom_spec 64 w (by omega) (by simpa using h)
  have e : tz w = Go.Lib.ctzFrom 64 w := by simp [tz, Go.Lib.ctz, h0]
  rw [← e] at hm hk
  obtain ⟨k, hkk⟩ : ∃ k, k = tz w := ⟨_, rfl⟩
  rw [← hkk] at hm hk ⊢
  have hpos : 0 < 2 ^ k := Nat.two_pow_pos k
  have e1 : w = 2 ^ (k + 1) * m + 2 ^ k := by rw [hm, Nat.pow_succ, Nat.mul_add, Nat.mul_assoc]; simp
  have e2 : w - 1 = 2 ^ (k + 1) * m + (2 ^ k - 1) := by omega
  have hlt : 2 ^ k < 2 ^ (k + 1) := Nat.pow_lt_pow_right (by decide) (by omega)
  have t1 : ∀ j, w.testBit j = if j < k + 1 then (2 ^ k).testBit j else m.testBit (j - (k + 1)) := fun j => by rw [e1, Nat.testBit_two_pow_mul_add _ hlt]
  have t2 : ∀ j, (w - 1).testBit j = if j < k + 1 then (2 ^ k - 1).testBit j else m.testBit (j - (k + 1)) := fun j => by rw [e2, Nat.testBit_two_pow_mul_add _ (by omega)]
  refine ⟨hk, ?_, fun j => ?_⟩
  · rw [t1, if_pos (by omega), Nat.testBit_two_pow]; simp
  · rw [Nat.testBit_and, t1, t2]
    by_cases hj : j < k + 1
    · rw [if_pos hj, if_pos hj, Nat.testBit_two_pow, Nat.testBit_two_pow_sub_one]
      by_cases hjk : k = j
      · simp [hjk]
      · simp [hjk]
    · rw [if_neg hj, if_neg hj]
      have : j ≠ k := by omega
      simp [this]
theorem and_pred_lt {w : Nat} (h0 : w ≠ 0) : w &&& (w - 1) < w := by
  have : w &&& (w - 1) ≤ w - 1 := Nat.and_le_right
  omega
/-- All that f tells of a word's bits. -/
def bitsGo (f : Nat → List Nat) : Nat → Nat → List Nat → List Nat
  | 0, _, out => out
  | fu + 1, w, out => if w = 0 then out else bitsGo f fu (w &&& (w - 1)) (orW out (f (tz w)))
theorem bitsGo_spec {f : Nat → List Nat} (hf : ∀ j < 64, wOK (f j)) : ∀ (fu w : Nat) (out : List Nat), wOK out → w < 18446744073709551616 → w ≤ fu →
    wOK (bitsGo f fu w out) ∧ ∀ q < 512, hasW (bitsGo f fu w out) q = true ↔ (hasW out q = true ∨ ∃ j < 64, w.testBit j = true ∧ hasW (f j) q = true)
  | 0, w, out, ho, _, hw => by
    have : w = 0 := by omega
    subst this
    exact ⟨ho, fun q hq => by simp [bitsGo]⟩
  | fu + 1, w, out, ho, hlt, hw => by
    simp only [bitsGo]
    by_cases h0 : w = 0
    · subst h0
      simp only [if_pos]
      exact ⟨ho, fun q hq => by simp⟩
    · rw [if_neg h0]
      obtain ⟨h1, h2, h3⟩ := tz_spec h0 hlt
      have hl := and_pred_lt h0
      obtain ⟨g1, g2⟩ := bitsGo_spec hf fu (w &&& (w - 1)) (orW out (f (tz w))) (ho.or (hf _ h1)) (by omega) (by omega)
      refine ⟨g1, fun q hq => ?_⟩
      rw [g2 q hq, hasW_or ho (hf _ h1) hq, Bool.or_eq_true, or_assoc]
      refine or_congr_right ?_
      constructor
      · rintro (h | ⟨j, hj, hb, hh⟩)
        · exact ⟨tz w, h1, h2, h⟩
        · rw [h3] at hb
          simp only [Bool.and_eq_true] at hb
          exact ⟨j, hj, hb.1, hh⟩
      · rintro ⟨j, hj, hb, hh⟩
        by_cases hjt : j = tz w
        · subst hjt; exact .inl hh
        · exact .inr ⟨j, hj, by rw [h3, hb]; simp [hjt], hh⟩
/-- All that f tells of a set's numbers: word by word. -/
def ofGo8 (f : Nat → List Nat) : Nat → List Nat → List Nat → List Nat
  | _, [], out => out
  | i, w :: s, out => ofGo8 f (i + 1) s (bitsGo (fun j => f (64 * i + j)) (w + 1) w out)
def ofW (f : Nat → List Nat) (s : List Nat) : List Nat := ofGo8 f 0 s zeroW
theorem ofGo8_spec {f : Nat → List Nat} {full : List Nat} (hfull : wOK full) (hf : ∀ q < 512, wOK (f q)) : ∀ (s : List Nat) (i : Nat) (out : List Nat), full.drop i = s → wOK out →
    wOK (ofGo8 f i s out) ∧ ∀ q < 512, hasW (ofGo8 f i s out) q = true ↔ (hasW out q = true ∨ ∃ p < 512, 64 * i ≤ p ∧ hasW full p = true ∧ hasW (f p) q = true)
  | [], i, out, hd, ho => by
    have hi : 8 ≤ i := by have := congrArg List.length hd; simp [hfull.len] at this; omega
    refine ⟨ho, fun q hq => ?_⟩
    simp only [ofGo8]
    constructor
    · exact .inl
    · rintro (h | ⟨p, hp, hpi, _⟩)
      · exact h
      · omega
  | w :: s, i, out, hd, ho => by
    have hi : i < 8 := by
      rcases Nat.lt_or_ge i 8 with h | h
      · exact h
      · rw [List.drop_of_length_le (by rw [hfull.len]; exact h)] at hd; cases hd
    have hil : i < full.length := by rw [hfull.len]; exact hi
    have hw : full[i]? = some w := by
      rw [List.drop_eq_getElem_cons hil] at hd
      injection hd with e1 e2
      rw [List.getElem?_eq_getElem hil, e1]
    have hd' : full.drop (i + 1) = s := by
      rw [List.drop_eq_getElem_cons hil] at hd
      injection hd
    have hwl := hfull.lt w (List.mem_of_getElem? hw)
    have hgw : getN full i = w := by simp [getN, hw]
    obtain ⟨g1, g2⟩ := bitsGo_spec (f := fun j => f (64 * i + j)) (fun j hj => hf _ (by omega)) (w + 1) w out ho hwl (by omega)
    obtain ⟨h1, h2⟩ := ofGo8_spec hfull hf s (i + 1) _ hd' g1
    refine ⟨h1, fun q hq => ?_⟩
    simp only [ofGo8]
    rw [h2 q hq, g2 q hq, or_assoc]
    refine or_congr_right ?_
    constructor
    · rintro (⟨j, hj, hb, hh⟩ | ⟨p, hp, hpi, hh⟩)
      · exact ⟨64 * i + j, by omega, by omega, by rw [hasW, show (64 * i + j) / 64 = i by omega, show (64 * i + j) % 64 = j by omega, hgw]; exact hb, hh⟩
      · exact ⟨p, hp, by omega, hh⟩
    · rintro ⟨p, hp, hpi, hb, hh⟩
      rcases Nat.lt_or_ge p (64 * (i + 1)) with hlt | hge
      · refine .inl ⟨p % 64, by omega, ?_, ?_⟩
        · rw [hasW, show p / 64 = i by omega, hgw] at hb; exact hb
        · rw [show 64 * i + p % 64 = p by omega]; exact hh
      · exact .inr ⟨p, hp, hge, hb, hh⟩
theorem ofW_spec {f : Nat → List Nat} {s : List Nat} (hs : wOK s) (hf : ∀ q < 512, wOK (f q)) : wOK (ofW f s) ∧ ∀ q < 512, hasW (ofW f s) q = true ↔ ∃ p < 512, hasW s p = true ∧ hasW (f p) q = true := by
  obtain ⟨h1, h2⟩ := ofGo8_spec hs hf s 0 zeroW rfl wOK_zero
  refine ⟨h1, fun q hq => ?_⟩
  rw [ofW, h2 q hq, hasW_zero]
  simp
end Go.Aut
