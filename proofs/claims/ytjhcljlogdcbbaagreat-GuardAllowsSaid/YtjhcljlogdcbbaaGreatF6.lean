/-
  What the library's functions that guard calls answer: indexes, prefixes, cuts. No condition.
-/
import Derived.Test.YtjhcljlogdcbbaaGreatF5
import Derived.Lib.Bytealg
set_option linter.unusedVariables false
set_option linter.unusedSimpArgs false
set_option maxHeartbeats 4000000
set_option maxRecDepth 100000
namespace Go.Abs
open Go.Proofs
attribute [-simp] getElem?_pos Option.not_isSome
/-- The first place of which f holds, counted from k on. -/
def fdx {α : Type} (f : α → Bool) : Nat → List α → Int
  | _, [] => -1
  | k, x :: l => if f x then k else fdx f (k + 1) l
theorem fdx_any {α : Type} (f : α → Bool) : ∀ (l : List α) (k : Nat), decide (0 ≤ fdx f k l) = l.any f
  | [], k => by simp [fdx]
  | x :: l, k => by
    simp only [fdx, List.any_cons]
    split
    · rename_i h; simp [h]
    · rename_i h; simp only [Bool.not_eq_true] at h; rw [fdx_any f l (k + 1), h]; rfl
theorem any_hasS (s : Str) : ∀ l : List Str, l.any (fun x => decide (s = x)) = hasS l s
  | [] => rfl
  | x :: l => by
    simp only [List.any_cons, hasS, any_hasS s l]
    by_cases h : x = s
    · simp [h]
    · have : ¬ s = x := fun e => h e.symm
      simp [h, this]
theorem f_slices_Index_string (l : List Str) (s : Str) : Fn Tryz.prog n_slices_IndexIIstring_string [.seq 1 (l.map .str), .str s] (.int .i64 (fdx (fun x => decide (s = x)) 0 l)) := by
  refine Fn.of_image mixed h_slices_IndexIIstring_string i_slices_IndexIIstring_string rfl fun ho => ?_
  unfold c_slices_IndexIIstring_string
  simp only [oks, ok, and_true] at ho
  have hlen : l.length ≤ 140737488355328 := by have := ho.1.1; simpa using this
  clear ho
  simp (disch := omega) []
  generalize hr : fdx (fun x => decide (s = x)) 0 l = r
  refine W_loop (fun k : Nat => ⟨[(0, .seq 1 (l.map .str)), (1, .str s), (7, .int .i64 l.length), (8, .int .i64 k)], []⟩) (fun k => k ≤ l.length ∧ fdx (fun x => decide (s = x)) k (l.drop k) = r) (fun k => l.length - k) [] _ 0 rfl (by simp [*]) (by simp [*]) ?_
  rintro k ⟨hk, hi⟩ N hN
  rcases place l k hk with ⟨he, hd⟩ | ⟨hlt, x, hx, hd⟩ <;> rw [hd] at hi <;> replace hi := hid hi
  · simp (disch := omega) [he]
    simpa [fdx] using hi.out
  · simp (disch := omega) [hx]
    refine BrKd.mk (fun h => ?_) (fun h => ?_)
    · simp (disch := omega) []
      have hi := hi.out
      simpa [fdx, h] using hi
    · simp (disch := omega) []
      refine hN.out _ <| Nx.mk (k + 1) (by simp [*]) ⟨by omega, ?_⟩ (by omega)
      have hi := hi.out
      simpa [fdx, h] using hi
theorem f_slices_Contains_string (l : List Str) (s : Str) : Fn Tryz.prog n_slices_ContainsIIstring_string [.seq 1 (l.map .str), .str s] (.bool (hasS l s)) := by
  refine Fn.of_image mixed h_slices_ContainsIIstring_string i_slices_ContainsIIstring_string rfl fun ho => ?_
  unfold c_slices_ContainsIIstring_string
  simp only [oks, ok, and_true] at ho
  simp (disch := omega) []
  refine wcall_flat (f_slices_Index_string _ _) rfl fun _ => ?_
  simp (disch := omega) []
  rw [fdx_any, any_hasS]
def namesD : List Str := [[101, 109, 98, 101, 100], [105, 102, 114, 97, 109, 101], [109, 97, 116, 104], [111, 98, 106, 101, 99, 116], [115, 99, 114, 105, 112, 116], [115, 116, 121, 108, 101], [115, 118, 103], [116, 101, 109, 112, 108, 97, 116, 101]]
theorem f_guard_Names : Fn Tryz.prog n_guard_Names [] (.seq 1 (namesD.map .str)) := by
  refine Fn.of_image mixed h_guard_Names i_guard_Names rfl fun ho => ?_
  unfold c_guard_Names
  simp only [oks, ok, and_true] at ho
  simp (disch := omega) [namesD]
def namedD (s : Str) : Bool := hasS namesD s
theorem f_guard_named (s : Str) : Fn Tryz.prog n_guard_named [.str s] (.bool (namedD s)) := by
  refine Fn.of_image mixed h_guard_named i_guard_named rfl fun ho => ?_
  unfold c_guard_named
  simp only [oks, ok, and_true] at ho
  simp (disch := omega) []
  refine wcall_pure f_guard_Names (by simp) fun _ => ?_
  simp (disch := omega) []
  refine wcall_flat (f_slices_Contains_string namesD s) rfl fun _ => ?_
  simp (disch := omega) [namedD]
theorem f_ref21_Named (s : Str) : Fn Tryz.prog n_ref21_Named [.str s] (.bool (namedD s)) := by
  refine Fn.of_image mixed h_ref21_Named i_ref21_Named rfl fun ho => ?_
  unfold c_ref21_Named
  simp only [oks, ok, and_true] at ho
  simp (disch := omega) []
  refine wcall_flat (f_ref13_Has namesD s) rfl fun _ => ?_
  simp (disch := omega) [namedD]
/-- Does a text begin with another one? -/
def begins (s p : Str) : Bool := decide (p.length ≤ s.length) && decide (s.take p.length = p)
theorem f_stringslite_HasPrefix (s p : Str) : Fn Tryz.prog n_internal_stringslite_HasPrefix [.str s, .str p] (.bool (begins s p)) := by
  refine Fn.of_image mixed h_internal_stringslite_HasPrefix i_internal_stringslite_HasPrefix rfl fun ho => ?_
  unfold c_internal_stringslite_HasPrefix
  simp only [oks, ok, and_true] at ho
  simp (disch := omega) [begins]
  repeat' (first | (refine BrKd.mk (fun h => ?_) (fun h => ?_) <;> simp (disch := omega) [*]) | (refine BrK.mk (fun h => ?_) (fun h => ?_) <;> simp (disch := omega) [*]))
theorem f_strings_HasPrefix (s p : Str) : Fn Tryz.prog n_strings_HasPrefix [.str s, .str p] (.bool (begins s p)) := by
  refine Fn.of_image mixed h_strings_HasPrefix i_strings_HasPrefix rfl fun ho => ?_
  unfold c_strings_HasPrefix
  simp only [oks, ok, and_true] at ho
  simp (disch := omega) []
  repeat' (first | (refine BrKd.mk (fun h => ?_) (fun h => ?_) <;> simp (disch := omega) [*]) | (refine BrK.mk (fun h => ?_) (fun h => ?_) <;> simp (disch := omega) [*]) | (refine wcall_flat (f_stringslite_HasPrefix _ _) rfl (fun _ => ?_) <;> simp (disch := omega) [*]) | (refine wcallD_flat (f_stringslite_HasPrefix _ _) rfl ?_ <;> simp (disch := omega) [*]))
def safeC : Constraint := ⟨3, [[104, 116, 116, 112], [104, 116, 116, 112, 115], [109, 97, 105, 108, 116, 111]], []⟩
theorem f_guard_safe : Fn Tryz.prog n_guard_safe [] safeC.v := by
  refine Fn.of_image mixed h_guard_safe i_guard_safe rfl fun ho => ?_
  unfold c_guard_safe
  simp only [oks, ok, and_true] at ho
  simp (disch := omega) [safeC]
theorem f_lang_isValue (s : Str) : Fn Tryz.prog n_lang_isValue [.str s] (.bool (s.all sign)) := by
  refine Fn.of_image mixed h_lang_isValue i_lang_isValue rfl fun ho => ?_
  unfold c_lang_isValue
  simp only [oks, ok, and_true] at ho
  simp (disch := omega) []
  generalize hr : s.all sign = r
  refine W_loop (fun k : Nat => ⟨[(0, .str s), (3, .int .i64 k)], []⟩) (fun k => k ≤ s.length ∧ (s.drop k).all sign = r) (fun k => s.length - k) [] _ 0 rfl (by simp [*]) (by simp [*]) ?_
  rintro k ⟨hk, hi⟩ N hN
  rcases place s k hk with ⟨he, hd⟩ | ⟨hlt, x, hx, hd⟩ <;> rw [hd] at hi <;> replace hi := hid hi
  · simp (disch := omega) [he]
    simpa using hi.out
  · simp (disch := omega) [hx]
    repeat' (first | (refine BrKd.mk (fun h => ?_) (fun h => ?_) <;> simp (disch := omega) [*]) | (refine BrK.mk (fun h => ?_) (fun h => ?_) <;> simp (disch := omega) [*]))
    all_goals first
      | (refine hN.out _ <| Nx.mk (k + 1) (by simp [*]) ⟨by omega, ?_⟩ (by omega); simpa (disch := omega) [*, decide_eq_true, decide_eq_false, sign] using hi.out)
      | (first | simpa (disch := omega) [*, decide_eq_true, decide_eq_false, sign] using hi.out.symm | simpa (disch := omega) [*, decide_eq_true, decide_eq_false, sign] using hi.out)
theorem indexByte_lt (c : UInt8) : ∀ s : Str, Lib.indexByte s c < (s.length : Int) + 1 ∧ (0 ≤ Lib.indexByte s c → Lib.indexByte s c < s.length)
  | [] => by simp [Lib.indexByte]
  | b :: l => by
    have := indexByte_lt c l
    unfold Lib.indexByte
    simp only [List.length_cons]
    split
    · omega
    · split
      · omega
      · omega
theorem f_bytealg_IndexByteString (s : Str) (c : UInt8) : Fn Tryz.prog n_internal_bytealg_IndexByteString [.str s, .int .u8 c.toNat] (.int .i64 (Lib.indexByte s c)) := by
  refine Fn.ext h_internal_bytealg_IndexByteString (by kernel_rfl) (by kernel_rfl) (by kernel_rfl) (e := Extern.BytealgIndexByte.indexByte) (by kernel_rfl) ?_
  intro M w cs hM hus
  obtain ⟨cl⟩ := cs
  simp only [repAll] at hus
  obtain ⟨_, _, rfl, ⟨bs, rfl, rfl, _⟩, _, _, rfl, ⟨rfl, _⟩, rfl⟩ := hus
  refine ⟨_, Lib.run_indexByteString bs (c.toNat : Int) w, ?_⟩
  have hc : ((c.toNat : Int)).toNat.toUInt8 = c := by simp
  rw [hc]
  simp only [rep]
  have h1 := Lib.indexByte_ge bs.data.toList c
  have h2 := indexByte_lt c bs.data.toList
  refine ⟨trivial, ?_, ?_⟩
  · simp; omega
  · simp; omega
theorem f_stringslite_IndexByte (s : Str) (c : UInt8) : Fn Tryz.prog n_internal_stringslite_IndexByte [.str s, .int .u8 c.toNat] (.int .i64 (Lib.indexByte s c)) := by
  refine Fn.of_image mixed h_internal_stringslite_IndexByte i_internal_stringslite_IndexByte rfl fun ho => ?_
  unfold c_internal_stringslite_IndexByte
  simp only [oks, ok, and_true] at ho
  simp (disch := omega) []
  repeat' (first | (refine BrKd.mk (fun h => ?_) (fun h => ?_) <;> simp (disch := omega) [*]) | (refine BrK.mk (fun h => ?_) (fun h => ?_) <;> simp (disch := omega) [*]) | (refine wcall_flat (f_bytealg_IndexByteString _ _) rfl (fun _ => ?_) <;> simp (disch := omega) [*]) | (refine wcallD_flat (f_bytealg_IndexByteString _ _) rfl ?_ <;> simp (disch := omega) [*]))
theorem f_stringslite_Index1 (s : Str) (c : UInt8) : Fn Tryz.prog n_internal_stringslite_Index [.str s, .str [c]] (.int .i64 (Lib.indexByte s c)) := by
  refine Fn.of_image mixed h_internal_stringslite_Index i_internal_stringslite_Index rfl fun ho => ?_
  unfold c_internal_stringslite_Index
  simp only [oks, ok, and_true] at ho
  simp (disch := omega) []
  repeat' (first | (refine BrKd.mk (fun h => ?_) (fun h => ?_) <;> simp (disch := omega) [*]) | (refine BrK.mk (fun h => ?_) (fun h => ?_) <;> simp (disch := omega) [*]) | (refine wcall_flat (f_stringslite_IndexByte _ _) rfl (fun _ => ?_) <;> simp (disch := omega) [*]) | (refine wcallD_flat (f_stringslite_IndexByte _ _) rfl ?_ <;> simp (disch := omega) [*]))
  all_goals (try (subst h; simp [Lib.indexByte]))
/-- A text, cut at a byte. -/
def cutB (s : Str) (c : UInt8) : Str × Str × Bool := if 0 ≤ Lib.indexByte s c then (s.take (Lib.indexByte s c).toNat, s.drop ((Lib.indexByte s c).toNat + 1), true) else (s, [], false)
theorem f_stringslite_Cut1 (s : Str) (c : UInt8) : Fn Tryz.prog n_internal_stringslite_Cut [.str s, .str [c]] (.tup [.str (cutB s c).1, .str (cutB s c).2.1, .bool (cutB s c).2.2]) := by
  refine Fn.of_image mixed h_internal_stringslite_Cut i_internal_stringslite_Cut rfl fun ho => ?_
  unfold c_internal_stringslite_Cut
  simp only [oks, ok, and_true] at ho
  have hb := indexByte_lt c s
  have hg := Lib.indexByte_ge s c
  simp (disch := omega) []
  refine wcall_flat (f_stringslite_Index1 _ _) rfl fun _ => ?_
  unfold cutB
  generalize Lib.indexByte s c = n at *
  simp (disch := omega) []
  refine BrKd.mk (fun h => ?_) (fun h => ?_)
  · obtain ⟨m, rfl⟩ := Int.eq_ofNat_of_zero_le h
    have hm := hb.2 h
    simp (disch := omega) []
    rw [List.take_of_length_le (by simp)]
  · simp (disch := omega) [h]
theorem f_strings_Cut1 (s : Str) (c : UInt8) : Fn Tryz.prog n_strings_Cut [.str s, .str [c]] (.tup [.str (cutB s c).1, .str (cutB s c).2.1, .bool (cutB s c).2.2]) := by
  refine Fn.of_image mixed h_strings_Cut i_strings_Cut rfl fun ho => ?_
  unfold c_strings_Cut
  simp only [oks, ok, and_true] at ho
  simp (disch := omega) []
  repeat' (first | (refine BrKd.mk (fun h => ?_) (fun h => ?_) <;> simp (disch := omega) [*]) | (refine BrK.mk (fun h => ?_) (fun h => ?_) <;> simp (disch := omega) [*]) | (refine wcall_flat (f_stringslite_Cut1 _ _) rfl (fun _ => ?_) <;> simp (disch := omega) [*]) | (refine wcallD_flat (f_stringslite_Cut1 _ _) rfl ?_ <;> simp (disch := omega) [*]))
/-- What lang.Allows tells of a constraint of the first three kinds. -/
def allowsL (c : Constraint) (v : Str) : Bool :=
  v.all sign && (decide (c.kind = 1) || ((decide (c.kind = 2) && hasS c.words v) || (decide (c.kind = 3) && (!(cutB v 58).2.2 || hasS c.words (cutB v 58).1))))
theorem f_lang_Allows3 (c : Constraint) (v : Str) (hk : c.kind ≠ 4) : Fn Tryz.prog n_lang_Allows [c.v, .str v] (.bool (allowsL c v)) := by
  refine Fn.of_image mixed h_lang_Allows i_lang_Allows rfl fun ho => ?_
  unfold c_lang_Allows
  simp only [oks, ok, and_true] at ho
  obtain ⟨kd, ws, rx⟩ := c
  simp only at hk
  simp (disch := omega) []
  refine wcall_flat (f_lang_isValue _) rfl fun _ => ?_
  simp (disch := omega) [allowsL]
  repeat' (first
    | (refine BrKd.mk (fun h => ?_) (fun h => ?_) <;> simp (disch := omega) [*])
    | (refine BrK.mk (fun h => ?_) (fun h => ?_) <;> simp (disch := omega) [*])
    | (refine wcall_flat (f_slices_Contains_string ws _) rfl (fun _ => ?_) <;> simp (disch := omega) [*])
    | (refine wcall_flat (by simpa using f_strings_Cut1 v 58) rfl (fun _ => ?_) <;> simp (disch := omega) [*]))
def placeN (s : Str) : Bool := decide (s = [97, 99, 116, 105, 111, 110]) || (decide (s = [104, 114, 101, 102]) || decide (s = [115, 114, 99]))
theorem f_ref21_place (s : Str) : Fn Tryz.prog n_ref21_place [.str s] (.bool (placeN s)) := by
  refine Fn.of_image mixed h_ref21_place i_ref21_place rfl fun ho => ?_
  unfold c_ref21_place
  simp only [oks, ok, and_true] at ho
  simp (disch := omega) [placeN]
  repeat' (first | (refine BrKd.mk (fun h => ?_) (fun h => ?_) <;> simp (disch := omega) [*]) | (refine BrK.mk (fun h => ?_) (fun h => ?_) <;> simp (disch := omega) [*]))
def harmful (a : Attr) : Bool := begins a.name [111, 110] || (placeN a.name && !allowsL safeC a.value)
theorem f_guard_harmful (a : Attr) : Fn Tryz.prog n_guard_harmful [a.v] (.bool (harmful a)) := by
  refine Fn.of_image mixed h_guard_harmful i_guard_harmful rfl fun ho => ?_
  unfold c_guard_harmful
  simp only [oks, ok, and_true] at ho
  obtain ⟨n, v⟩ := a
  simp (disch := omega) []
  refine wcall_flat (f_strings_HasPrefix _ _) rfl fun _ => ?_
  simp (disch := omega) [harmful]
  repeat' (first
    | (refine BrKd.mk (fun h => ?_) (fun h => ?_) <;> simp (disch := omega) [placeN, *])
    | (refine BrK.mk (fun h => ?_) (fun h => ?_) <;> simp (disch := omega) [placeN, *])
    | (refine wcallD_pure f_guard_safe (by simp) ?_ <;> simp (disch := omega) [*])
    | (refine wcallD_flat (by simpa using f_lang_Allows3 safeC v (by simp [safeC])) rfl ?_ <;> simp (disch := omega) [*]))
end Go.Abs
