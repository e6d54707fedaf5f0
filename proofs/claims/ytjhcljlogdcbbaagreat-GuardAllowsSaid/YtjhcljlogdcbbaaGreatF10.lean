/-
  What strainerref01's functions answer: characters. No condition.
-/
import Derived.Test.YtjhcljlogdcbbaaGreatF9
set_option linter.unusedVariables false
set_option linter.unusedSimpArgs false
set_option maxHeartbeats 4000000
set_option maxRecDepth 100000
namespace Go.Abs
open Go.Proofs
attribute [-simp] getElem?_pos Option.not_isSome
def bV (b : UInt8) : V := .int .u8 b.toNat
theorem bytesV_map (s : Str) : bytesV s = s.map bV := bytesV_eq s
theorem bV_eq (b : UInt8) : bV b = .int .u8 b.toNat := rfl
attribute [simp] bytesV_map bV_eq
def follows (b : UInt8) : Bool := decide (128 ≤ b.toNat) && decide (b.toNat < 192)
theorem f_ref01_follows (b : UInt8) : Fn Tryz.prog n_ref01_follows [.int .u8 b.toNat] (.bool (follows b)) := by
  refine Fn.of_image mixed h_ref01_follows i_ref01_follows rfl fun ho => ?_
  unfold c_ref01_follows
  simp only [oks, ok, and_true] at ho
  simp (disch := omega) [follows]
  repeat' (first | (refine BrKd.mk (fun h => ?_) (fun h => ?_) <;> simp (disch := omega) [*]) | (refine BrK.mk (fun h => ?_) (fun h => ?_) <;> simp (disch := omega) [*]))
/-- How many bytes, what the first one bears, the least character. -/
def hdr (c : Nat) : Nat × Nat × Nat :=
  if 192 ≤ c ∧ c < 224 then (2, c - 192, 128) else if 224 ≤ c ∧ c < 240 then (3, c - 224, 2048) else if 240 ≤ c ∧ c < 248 then (4, c - 240, 65536) else (0, 0, 0)
def goV : Str → Nat → Option Nat
  | [], v => some v
  | b :: l, v => if follows b then goV l (64 * v + b.toNat - 128) else none
def oneT (n least : Nat) : Option Nat → Nat × Nat
  | none => (65533, 1)
  | some v => if v < least ∨ 1114111 < v ∨ (55296 ≤ v ∧ v ≤ 57343) then (65533, 1) else (v, n)
def one : Str → Nat × Nat
  | [] => (65533, 1)
  | b :: t => if b.toNat < 128 then (b.toNat, 1)
    else if (hdr b.toNat).1 = 0 ∨ t.length + 1 < (hdr b.toNat).1 then (65533, 1)
    else oneT (hdr b.toNat).1 (hdr b.toNat).2.2 (goV (t.take ((hdr b.toNat).1 - 1)) (hdr b.toNat).2.1)
theorem hdr_range (c : Nat) : (hdr c).1 = 0 ∨ (2 ≤ (hdr c).1 ∧ (hdr c).1 ≤ 4 ∧ (hdr c).2.1 < 64 ∧ (hdr c).2.2 ≤ 65536) := by
  unfold hdr
  split
  · simp; omega
  · split
    · simp; omega
    · split
      · simp; omega
      · simp
theorem one_range (s : Str) : 1 ≤ (one s).2 ∧ (one s).2 ≤ 4 ∧ (s ≠ [] → (one s).2 ≤ s.length) ∧ (one s).1 ≤ 1114111 ∧ ¬(55296 ≤ (one s).1 ∧ (one s).1 ≤ 57343) := by
  cases s with
  | nil => simp [one]
  | cons b t =>
    have hb := b.toNat_lt
    have hr := hdr_range b.toNat
    simp only [one]
    split
    · simp; omega
    · split
      · simp
      · rename_i h
        unfold oneT
        split
        · simp
        · split
          · simp
          · rename_i h2
            simp only [List.length_cons]
            omega
theorem follows_ge {b : UInt8} (h : follows b = true) : 128 ≤ b.toNat ∧ b.toNat < 192 := by simpa [follows] using h
theorem f_ref01_One (b : UInt8) (t : Str) : Fn Tryz.prog n_ref01_One [.seq 1 ((b :: t).map bV)] (.tup [.int .i32 (one (b :: t)).1, .int .i64 (one (b :: t)).2]) := by
  refine Fn.of_image mixed h_ref01_One i_ref01_One rfl fun ho => ?_
  unfold c_ref01_One
  simp only [oks, ok, and_true] at ho
  have hlen : t.length < 140737488355328 := by have := ho.1; simp at this; omega
  clear ho
  have hb := b.toNat_lt
  generalize hR : one (b :: t) = R
  have hR2 := hR
  simp only [one] at hR2
  simp (disch := omega) []
  have hr := hdr_range b.toNat
  refine BrKd.mk (fun h => ?_) (fun h => ?_)
  · rw [if_pos h] at hR2
    simp (disch := omega) [← hR2]
  · rw [if_neg h] at hR2
    have hz : (hdr b.toNat).1 = 0 → R = (65533, 1) := fun h => by rw [if_pos (.inl h)] at hR2; exact hR2.symm
    have hs : t.length + 1 < (hdr b.toNat).1 → R = (65533, 1) := fun h => by rw [if_pos (.inr h)] at hR2; exact hR2.symm
    have hok : ¬ (hdr b.toNat).1 = 0 → ¬ t.length + 1 < (hdr b.toNat).1 → oneT (hdr b.toNat).1 (hdr b.toNat).2.2 (goV (t.take ((hdr b.toNat).1 - 1)) (hdr b.toNat).2.1) = R := fun h h' => by rw [if_neg (by simp [h, h'])] at hR2; exact hR2
    clear hR2
    replace hz := hid hz
    replace hs := hid hs
    replace hok := hid hok
    simp (disch := omega) []
    repeat' (first
      | (refine BrKd.mk (fun h => ?_) (fun h => ?_) <;> simp (disch := omega) [*])
      | (refine BrK.mk (fun h => ?_) (fun h => ?_) <;> simp (disch := omega) [*]))
    all_goals
      first
      | (have hq : hdr b.toNat = (2, b.toNat - 192, 128) := by unfold hdr; rw [if_pos (by omega)])
      | (have hq : hdr b.toNat = (3, b.toNat - 224, 2048) := by unfold hdr; rw [if_neg (by omega), if_pos (by omega)])
      | (have hq : hdr b.toNat = (4, b.toNat - 240, 65536) := by unfold hdr; rw [if_neg (by omega), if_neg (by omega), if_pos (by omega)])
      | (have hq : hdr b.toNat = (0, 0, 0) := by unfold hdr; rw [if_neg (by omega), if_neg (by omega), if_neg (by omega)])
      by_cases h0 : (hdr b.toNat).1 = 0
      · first
        | (have h0 := hz.out h0; simp [h0]; done)
        | (exfalso; rw [hq] at h0; simp at h0; done)
      by_cases h1 : t.length + 1 < (hdr b.toNat).1
      · first
        | (have h0 := hs.out h1; simp [h0]; done)
        | (exfalso; rw [hq] at h1; simp at h1; omega)
      first
      | (exfalso; rw [hq] at h0; exact h0 rfl)
      | (exfalso; rw [hq] at h1; simp only at h1; omega)
      | skip
    all_goals
      obtain ⟨n, hn⟩ : ∃ n : Nat, n = (hdr b.toNat).1 := ⟨_, rfl⟩
      obtain ⟨v0, hv⟩ : ∃ n : Nat, n = (hdr b.toNat).2.1 := ⟨_, rfl⟩
      obtain ⟨le, hl⟩ : ∃ n : Nat, n = (hdr b.toNat).2.2 := ⟨_, rfl⟩
      rw [← hn, ← hv, ← hl] at hok hr
      rw [hq] at hn hv hl
      simp only at hn hv hl
      have hok := hok.out (by omega) (by omega)
      have htl : (t.take (n - 1)).length = n - 1 := by rw [List.length_take]; omega
      refine W_loop (fun (q : Nat × Nat) => ⟨[(0, .seq 1 ((b :: t).map bV)), (5, .int .i64 n), (6, .int .i64 q.2), (7, .int .i64 le), (8, .int .i64 ((q.1 : Int) + 1))], []⟩)
        (fun q => q.1 ≤ (t.take (n - 1)).length ∧ oneT n le (goV ((t.take (n - 1)).drop q.1) q.2) = R ∧ ((q.1 = 0 ∧ q.2 < 64) ∨ (q.1 = 1 ∧ q.2 < 4096) ∨ (q.1 = 2 ∧ q.2 < 262144) ∨ (q.1 = 3 ∧ q.2 < 16777216))) (fun q => (t.take (n - 1)).length - q.1) [] _ (0, v0) rfl (by simp [hn, hv, hl]; omega) (by simp [hok]; omega) ?_
      have hn24 : 2 ≤ n ∧ n ≤ 4 ∧ le ≤ 65536 := by omega
      clear hq hn hv hl
      rintro ⟨j, v⟩ ⟨hj, hi, hvb⟩ N hN
      simp only at hj hi hvb
      rcases place (t.take (n - 1)) j hj with ⟨he, hd⟩ | ⟨hlt, x, hx, hd⟩ <;> rw [hd, goV] at hi
      · simp only [oneT] at hi
        have bad : (v < le ∨ 1114111 < v ∨ (55296 ≤ v ∧ v ≤ 57343)) → R = (65533, 1) := fun h => by rw [if_pos h] at hi; exact hi.symm
        have good : ¬(v < le ∨ 1114111 < v ∨ (55296 ≤ v ∧ v ≤ 57343)) → R = (v, n) := fun h => by rw [if_neg h] at hi; exact hi.symm
        clear hi
        replace bad := hid bad
        replace good := hid good
        have hjn : j + 1 = n := by omega
        have hjn2 : ¬ ((j : Int) + 1 < n) := by omega
        simp (disch := omega) [hjn2]
        repeat' (first
          | (refine BrKd.mk (fun h => ?_) (fun h => ?_) <;> simp (disch := omega) [*])
          | (refine BrK.mk (fun h => ?_) (fun h => ?_) <;> simp (disch := omega) [*]))
        all_goals first
          | (rw [bad.out (by omega)]; simp; done)
          | (rw [good.out (by omega)]; simp; done)
      · have hx2 : t[j]? = some x := by rw [List.getElem?_take] at hx; simpa [show j < n - 1 by omega] using hx
        have hxb := x.toNat_lt
        have hjn2 : (j : Int) + 1 < n := by omega
        replace hi := hid hi
        simp (disch := omega) [hx2, hjn2]
        refine wcall_flat (f_ref01_follows x) rfl fun _ => ?_
        simp (disch := omega) []
        refine BrK.mk (fun h => ?_) (fun h => ?_)
        · have hf := follows_ge h
          simp (disch := omega) [hx2]
          have hi := hi.out
          rw [if_pos h] at hi
          refine hN.out _ <| Nx.mk (j + 1, 64 * v + x.toNat - 128) (by simp; omega) ⟨by simp only; omega, hi, by simp only; omega⟩ (by simp only; omega)
        · simp (disch := omega) []
          have hi := hi.out
          rw [if_neg (by simp [h])] at hi
          simp [← hi, oneT]
def runesF : Nat → Str → List Nat
  | 0, _ => []
  | _, [] => []
  | f + 1, b :: t => (one (b :: t)).1 :: runesF f ((b :: t).drop (one (b :: t)).2)
def runes (s : Str) : List Nat := runesF s.length s
theorem runesF_any : ∀ (f : Nat) (s : Str), s.length ≤ f → runesF f s = runes s := by
  have key : ∀ (n f g : Nat) (s : Str), s.length ≤ n → s.length ≤ f → s.length ≤ g → runesF f s = runesF g s := by
    intro n
    induction n with
    | zero => intro f g s h1 _ _; have : s = [] := List.eq_nil_of_length_eq_zero (by omega); subst this; cases f <;> cases g <;> rfl
    | succ n ih =>
      intro f g s h1 h2 h3
      cases s with
      | nil => cases f <;> cases g <;> rfl
      | cons b t =>
        cases f with
        | zero => simp at h2
        | succ f => cases g with
          | zero => simp at h3
          | succ g =>
            simp only [runesF]
            have := one_range (b :: t)
            simp only [List.length_cons] at h1 h2 h3
            rw [ih f g _ (by simp; omega) (by simp; omega) (by simp; omega)]
  intro f s h
  exact key s.length f s.length s (Nat.le_refl _) h (Nat.le_refl _)
theorem runes_cons (b : UInt8) (t : Str) : runes (b :: t) = (one (b :: t)).1 :: runes ((b :: t).drop (one (b :: t)).2) := by
  have := one_range (b :: t)
  rw [← runesF_any t.length ((b :: t).drop (one (b :: t)).2) (by simp; omega)]
  rfl
theorem runes_len : ∀ (n : Nat) (s : Str), s.length ≤ n → (runes s).length ≤ s.length := by
  intro n
  induction n with
  | zero => intro s h; have : s = [] := List.eq_nil_of_length_eq_zero (by omega); subst this; simp [runes, runesF]
  | succ n ih =>
    intro s h
    cases s with
    | nil => simp [runes, runesF]
    | cons b t =>
      have h1 := one_range (b :: t)
      rw [runes_cons]
      simp only [List.length_cons] at h ⊢
      have := ih ((b :: t).drop (one (b :: t)).2) (by simp; omega)
      simp at this; omega
theorem runes_mem : ∀ (n : Nat) (s : Str), s.length ≤ n → ∀ r ∈ runes s, r ≤ 1114111 ∧ ¬(55296 ≤ r ∧ r ≤ 57343) := by
  intro n
  induction n with
  | zero => intro s h r hr; have : s = [] := List.eq_nil_of_length_eq_zero (by omega); subst this; simp [runes, runesF] at hr
  | succ n ih =>
    intro s h r hr
    cases s with
    | nil => simp [runes, runesF] at hr
    | cons b t =>
      have h1 := one_range (b :: t)
      rw [runes_cons] at hr
      simp only [List.length_cons] at h
      rcases List.mem_cons.1 hr with rfl | hr
      · exact h1.2.2.2
      · exact ih _ (by simp; omega) r hr
def rV (r : Nat) : V := .int .i32 r
theorem rV_eq (r : Nat) : rV r = .int .i32 r := rfl
attribute [simp] rV_eq
theorem f_ref01_Runes (s : Str) (hs : s.length ≤ 1000000) : FnN Tryz.prog n_ref01_Runes [.seq 1 (s.map bV)] (.seq 1 ((runes s).map rV)) := by
  refine FnN.of_image mixed h_ref01_Runes i_ref01_Runes rfl fun ho => ?_
  unfold c_ref01_Runes
  clear ho
  simp (disch := omega) []
  generalize hw : runes s = w
  refine W_loop (fun (q : Nat × List Nat) => ⟨[(0, .seq 1 (s.map bV)), (3, .ref 0 q.2.length), (4, .int .i64 q.1)], [some (.arr ty_int32 1 (q.2.map rV))]⟩)
    (fun q => q.1 ≤ s.length ∧ q.2.length ≤ q.1 ∧ q.2 ++ runes (s.drop q.1) = w) (fun q => s.length - q.1) [.r 3 ty_int32 1] _ (0, []) rfl (by simp) (by simp [← hw]) ?_
  rintro ⟨k, out⟩ ⟨hk, hol, hi⟩ N hN
  simp only at hk hol hi
  have hfl : ∀ l : List Nat, flats (l.map rV) = true := fun l => by induction l <;> simp [flats, flat, *]
  rcases place s k hk with ⟨he, hd⟩ | ⟨hlt, x, hx, hd⟩ <;> rw [hd] at hi
  · simp [runes, runesF] at hi
    subst hi
    simp (disch := omega) [he, hfl]
  · have h1 := one_range (x :: s.drop (k + 1))
    rw [runes_cons] at hi
    have hd2 : (x :: s.drop (k + 1)).drop (one (x :: s.drop (k + 1))).2 = s.drop (k + (one (x :: s.drop (k + 1))).2) := by rw [← hd, List.drop_drop]
    rw [hd2] at hi
    have hle := h1.2.2.1 (by simp)
    simp only [List.length_cons, List.length_drop] at hle
    replace hi := hid hi
    have hsl : sliceV (s.map bV) k s.length = some ((x :: s.drop (k + 1)).map bV) := by
      simp only [sliceV]
      rw [if_pos (by simp; omega), ← hd]
      simp
      rw [List.take_of_length_le (by simp)]
    simp (disch := omega) [hsl, -List.map_cons, -sliceV]
    refine wcall_flat (f_ref01_One x (s.drop (k + 1))) rfl fun _ => ?_
    generalize one (x :: s.drop (k + 1)) = o at *
    simp (disch := omega) []
    refine hN.out _ <| Nx.mk (k + o.2, out ++ [o.1]) (by simp) ⟨by simp only; omega, by simp; omega, by simpa using hi.out⟩ (by simp only; omega)
def b8 (n : Nat) : UInt8 := UInt8.ofNat n
theorem b8_toNat {n : Nat} (h : n < 256) : (b8 n).toNat = n := by simp [b8, UInt8.toNat_ofNat, Nat.mod_eq_of_lt h]
/-- The bytes of a character. -/
def bytesR (r : Nat) : Str :=
  let v := if 1114111 < r ∨ (55296 ≤ r ∧ r ≤ 57343) then 65533 else r
  if v < 128 then [b8 v]
  else if v < 2048 then [b8 (192 + v / 64), b8 (128 + v % 64)]
  else if v < 65536 then [b8 (224 + v / 4096), b8 (128 + v / 64 % 64), b8 (128 + v % 64)]
  else [b8 (240 + v / 262144), b8 (128 + v / 4096 % 64), b8 (128 + v / 64 % 64), b8 (128 + v % 64)]
theorem bytesR_len (r : Nat) : (bytesR r).length ≤ 4 := by
  unfold bytesR
  simp only
  repeat' split
  all_goals simp
theorem f_ref01_bytes (r : Nat) (h : r ≤ 1114111) : Fn Tryz.prog n_ref01_bytes [.int .i32 r] (.seq 1 ((bytesR r).map bV)) := by
  refine Fn.of_image mixed h_ref01_bytes i_ref01_bytes rfl fun ho => ?_
  unfold c_ref01_bytes
  simp only [oks, ok, and_true] at ho
  clear ho
  generalize hR : bytesR r = R
  unfold bytesR at hR
  simp only at hR
  by_cases hb : 1114111 < r ∨ (55296 ≤ r ∧ r ≤ 57343)
  · rw [if_pos hb] at hR
    simp (disch := omega) []
    repeat' (first
      | (refine BrKd.mk (fun h => ?_) (fun h => ?_) <;> simp (disch := omega) [*])
      | (refine BrK.mk (fun h => ?_) (fun h => ?_) <;> simp (disch := omega) [*]))
    all_goals first | omega | (subst hR; rfl)
  · rw [if_neg hb] at hR
    simp (disch := omega) []
    repeat' (first
      | (refine BrKd.mk (fun h => ?_) (fun h => ?_) <;> simp (disch := omega) [*])
      | (refine BrK.mk (fun h => ?_) (fun h => ?_) <;> simp (disch := omega) [*]))
    all_goals (subst hR; simp (disch := omega) [b8_toNat])
def textR (l : List Nat) : Str := (l.map bytesR).flatten
theorem textR_len : ∀ l : List Nat, (textR l).length ≤ 4 * l.length
  | [] => by simp [textR]
  | r :: l => by
    have h1 := bytesR_len r
    have h2 := textR_len l
    simp only [textR, List.map_cons, List.flatten_cons, List.length_append, List.length_cons] at *
    omega
theorem ofBytesV_map : ∀ s : Str, ofBytesV (s.map bV) = some s
  | [] => rfl
  | b :: s => by
    have := ofBytesV_map s
    simp only [List.map_cons, bV_eq, ofBytesV, this, Option.map_some, Option.some.injEq, List.cons.injEq, and_true]
    simp
attribute [simp] ofBytesV_map
theorem f_ref01_Text (l : List Nat) (hl : l.length ≤ 1000000) (hr : ∀ r ∈ l, r ≤ 1114111) : Fn Tryz.prog n_ref01_Text [.seq 1 (l.map rV)] (.str (textR l)) := by
  refine Fn.of_image mixed h_ref01_Text i_ref01_Text rfl fun ho => ?_
  unfold c_ref01_Text
  simp only [oks, ok, and_true] at ho
  clear ho
  simp (disch := omega) []
  generalize hw : textR l = w
  refine W_loop (fun (q : Nat × Str) => ⟨[(0, .seq 1 (l.map rV)), (3, .ref 0 q.2.length), (4, .int .i64 q.1)], [some (.arr ty_uint8 1 (q.2.map bV))]⟩)
    (fun q => q.1 ≤ l.length ∧ q.2.length ≤ 4 * q.1 ∧ q.2 ++ textR (l.drop q.1) = w) (fun q => l.length - q.1) [.r 3 ty_uint8 1] _ (0, []) rfl (by simp) (by simp [← hw]) ?_
  rintro ⟨k, out⟩ ⟨hk, hol, hi⟩ N hN
  simp only at hk hol hi
  rcases place l k hk with ⟨he, hd⟩ | ⟨hlt, x, hx, hd⟩ <;> rw [hd] at hi
  · simp [textR] at hi
    subst hi
    simp (disch := omega) [he, -bV_eq]
  · simp only [textR, List.map_cons, List.flatten_cons] at hi
    have hxl := bytesR_len x
    replace hi := hid hi
    simp (disch := omega) [hx]
    refine wcall_pure (f_ref01_bytes x (hr x (List.mem_of_getElem? hx))) (by simp) fun _ => ?_
    simp (disch := omega) []
    refine hN.out _ <| Nx.mk (k + 1, out ++ bytesR x) (by simp) ⟨by simp only; omega, by simp; omega, by simpa [textR] using hi.out⟩ (by simp only; omega)
/-- Ends of lines, and what is no character, made right. -/
def fixR : Option Nat → List Nat → List Nat
  | _, [] => []
  | p, r :: l => (if r = 10 ∧ p = some 13 then [] else [if r = 13 then 10 else if r = 0 then 65533 else r]) ++ fixR (some r) l
theorem fixR_len : ∀ (l : List Nat) (p : Option Nat), (fixR p l).length ≤ l.length
  | [], p => by simp [fixR]
  | r :: l, p => by
    have := fixR_len l (some r)
    simp only [fixR, List.length_append, List.length_cons]
    split <;> simp <;> omega
theorem fixR_mem : ∀ (l : List Nat) (p : Option Nat), (∀ r ∈ l, r ≤ 1114111) → ∀ r ∈ fixR p l, r ≤ 1114111
  | [], p, _, r, hr => by simp [fixR] at hr
  | x :: l, p, h, r, hr => by
    simp only [fixR, List.mem_append] at hr
    rcases hr with hr | hr
    · have := h x (by simp)
      split at hr
      · cases hr
      · simp at hr; subst hr; split <;> (try split) <;> omega
    · exact fixR_mem l _ (fun y hy => h y (by simp [hy])) r hr
def rightS (s : Str) : Str := textR (fixR none (runes s))
def prevR (l : List Nat) (k : Nat) : Option Nat := if k = 0 then none else l[k - 1]?
theorem f_ref01_Right (s : Str) (hs : s.length ≤ 1000000) : Fn Tryz.prog n_ref01_Right [.seq 1 (s.map bV)] (.str (rightS s)) := by
  refine Fn.of_image mixed h_ref01_Right i_ref01_Right rfl fun ho => ?_
  unfold c_ref01_Right
  simp only [oks, ok, and_true] at ho
  clear ho
  have hrl := runes_len s.length s (Nat.le_refl _)
  have hrm := runes_mem s.length s (Nat.le_refl _)
  simp (disch := omega) []
  refine wcall_new (f_ref01_Runes s hs) fun _ => ?_
  unfold rightS
  generalize runes s = l at *
  simp (disch := omega) []
  generalize hw : fixR none l = w
  have hwm := fixR_mem l none (fun r hr => (hrm r hr).1)
  rw [hw] at hwm
  refine W_loop (fun (q : Nat × List Nat) => ⟨[(3, .seq 1 (l.map rV)), (4, .ref 0 q.2.length), (5, .int .i64 q.1)], [some (.arr ty_int32 1 (q.2.map rV))]⟩)
    (fun q => q.1 ≤ l.length ∧ q.2.length ≤ q.1 ∧ q.2 ++ fixR (prevR l q.1) (l.drop q.1) = w) (fun q => l.length - q.1) [.r 4 ty_int32 1] _ (0, []) rfl (by simp) (by simp [← hw, prevR]) ?_
  rintro ⟨k, out⟩ ⟨hk, hol, hi⟩ N hN
  simp only at hk hol hi
  rcases place l k hk with ⟨he, hd⟩ | ⟨hlt, x, hx, hd⟩ <;> rw [hd] at hi
  · simp [fixR] at hi
    subst hi
    simp (disch := omega) [he]
    refine wcall_flat (f_ref01_Text out (by omega) hwm) rfl fun _ => ?_
    simp (disch := omega) []
  · have hp1 : prevR l (k + 1) = some x := by simp [prevR, hx]
    simp only [fixR, ← hp1] at hi
    have skip : (x = 10 ∧ prevR l k = some 13) → out ++ fixR (prevR l (k + 1)) (l.drop (k + 1)) = w := fun h => by rw [if_pos h] at hi; simpa using hi
    have put : ¬(x = 10 ∧ prevR l k = some 13) → (out ++ [if x = 13 then 10 else if x = 0 then 65533 else x]) ++ fixR (prevR l (k + 1)) (l.drop (k + 1)) = w := fun h => by rw [if_neg h] at hi; simpa using hi
    clear hi
    replace skip := hid skip
    replace put := hid put
    have hxr := (hrm x (List.mem_of_getElem? hx)).1
    have fin : ∀ τ : St, ∀ o2 : List Nat, τ.nrm [3, 4, 5] = ⟨[(3, .seq 1 (l.map rV)), (4, .ref 0 o2.length), (5, .int .i64 ((k + 1 : Nat) : Int))], [some (.arr ty_int32 1 (o2.map rV))]⟩ → o2.length ≤ k + 1 → o2 ++ fixR (prevR l (k + 1)) (l.drop (k + 1)) = w → N τ := by
      intro τ o2 h1 h2 h3
      exact hN.out _ <| Nx.mk (k + 1, o2) h1 ⟨by simp only; omega, h2, h3⟩ (by simp only; omega)
    by_cases h10 : x = 10
    · subst h10
      rcases Nat.eq_zero_or_pos k with hk0 | hk0
      · subst hk0
        simp (disch := omega) [hx]
        exact fin _ (out ++ [10]) (by simp) (by simp only [List.length_append, List.length_cons, List.length_nil]; omega) (by simpa using put.out (by simp [prevR]))
      · obtain ⟨y, hy⟩ := get_lt (l := l) (k := k - 1) (by omega)
        have hkt : ((k : Int) - 1).toNat = k - 1 := by omega
        simp (disch := omega) [hx, hy, hkt]
        refine BrKd.mk (fun h => ?_) (fun h => ?_)
        · simp (disch := omega) [hx]
          exact fin _ out (by simp) (by omega) (skip.out ⟨rfl, by simp [prevR, hy]; omega⟩)
        · simp (disch := omega) [hx]
          exact fin _ (out ++ [10]) (by simp) (by simp; omega) (by simpa using put.out (by simp [prevR, hy]; omega))
    · by_cases h13 : x = 13
      · subst h13
        simp (disch := omega) [hx]
        exact fin _ (out ++ [10]) (by simp) (by simp; omega) (by simpa using put.out (by simp))
      · by_cases h0 : x = 0
        · subst h0
          simp (disch := omega) [hx]
          exact fin _ (out ++ [65533]) (by simp) (by simp; omega) (by simpa using put.out (by simp))
        · simp (disch := omega) [hx, h10, h13, h0]
          exact fin _ (out ++ [x]) (by simp) (by simp; omega) (by simpa [h13, h0] using put.out (by simp [h10]))
theorem f_ref01_Is (s : Str) (hs : s.length ≤ 1000000) : Fn Tryz.prog n_ref01_Is [.str s] (.bool (decide (rightS s = s))) := by
  refine Fn.of_image mixed h_ref01_Is i_ref01_Is rfl fun ho => ?_
  unfold c_ref01_Is
  simp only [oks, ok, and_true] at ho
  simp (disch := omega) []
  refine wcall_flat (by simpa using f_ref01_Right s hs) rfl fun _ => ?_
  simp (disch := omega) []
end Go.Abs
