/-
  The table of the functions that a closed run goes through, and that it is so. Made by program. No condition.
-/
import Derived.Test.YtpblinccnkidfaaDoorD16
import Derived.Lib.Bytealg
set_option maxRecDepth 100000
set_option linter.unusedVariables false
set_option linter.unusedSimpArgs false
namespace Go.Abs
open Go.Proofs
def lkD : List (Nat × FD) → Nat → Option FD
  | [], _ => none
  | (k, D) :: l, f => if k = f then some D else lkD l f
theorem lkD_mem {f : Nat} {D : FD} : ∀ {l : List (Nat × FD)}, lkD l f = some D → (f, D) ∈ l
  | [], h => by simp [lkD] at h
  | (k, E) :: l, h => by
    simp only [lkD] at h
    split at h
    · rename_i he; subst he; cases h; simp
    · exact List.mem_cons_of_mem _ (lkD_mem h)
theorem indexByte_lt (c : UInt8) : ∀ s : Str, Lib.indexByte s c < (s.length : Int) + 1 ∧ (0 ≤ Lib.indexByte s c → Lib.indexByte s c < s.length)
  | [] => by simp [Lib.indexByte]
  | b :: l => by
    have := indexByte_lt c l
    unfold Lib.indexByte
    simp only [List.length_cons]
    split
    · omega
    · split
      · omega
      · omega
theorem f_bytealg_IndexByteString (s : Str) (c : UInt8) : Fn Tryd.prog n_internal_bytealg_IndexByteString [.str s, .int .u8 c.toNat] (.int .i64 (Lib.indexByte s c)) := by
  refine Fn.ext h_internal_bytealg_IndexByteString (by kernel_rfl) (by kernel_rfl) (by kernel_rfl) (e := Extern.BytealgIndexByte.indexByte) (by kernel_rfl) ?_
  intro M w cs hM hus
  obtain ⟨cl⟩ := cs
  simp only [repAll] at hus
  obtain ⟨_, _, rfl, ⟨bs, rfl, rfl, _⟩, _, _, rfl, ⟨rfl, _⟩, rfl⟩ := hus
  refine ⟨_, Lib.run_indexByteString bs (c.toNat : Int) w, ?_⟩
  have hc : ((c.toNat : Int)).toNat.toUInt8 = c := by simp
  rw [hc]
  simp only [rep]
  have h1 := Lib.indexByte_ge bs.data.toList c
  have h2 := indexByte_lt c bs.data.toList
  refine ⟨trivial, ?_, ?_⟩
  · simp; omega
  · simp; omega
def tabRP : List (Nat × FD) := [
  (n_regex_either, ⟨c_regex_either, [.t 2], 1, []⟩),
  (n_regex_row, ⟨c_regex_row, [.t 2], 1, []⟩),
  (n_regex_every, ⟨c_regex_every, [.c 0 95 true], 0, []⟩),
  (n_regex_single, ⟨c_regex_single, [.c 2 95 true], 1, []⟩),
  (n_regex_set_other, ⟨c_regex_set_other, [.c 2 95 true], 1, []⟩),
  (n_regex_isSign, ⟨c_regex_isSign, [.t 2], 1, []⟩),
  (n_strings_IndexByte, ⟨c_strings_IndexByte, [.t 4], 2, []⟩),
  (n_internal_stringslite_IndexByte, ⟨c_internal_stringslite_IndexByte, [.t 4], 2, []⟩)]
def tabRH : List (Nat × FD) := [
  (n_regex_Parse, ⟨c_regex_Parse, [.t 2, .t 3], 1, []⟩),
  (n_pregex_Regex_Net, ⟨c_pregex_Regex_Net, [.c 2 4 true], 1, []⟩),
  (n_regex_inner, ⟨c_regex_inner, [.t 2], 1, []⟩),
  (n_pregex_reader_expression, ⟨c_pregex_reader_expression, [.t 2, .t 3], 1, [0]⟩),
  (n_pregex_reader_branch, ⟨c_pregex_reader_branch, [.t 2, .t 3], 1, [0]⟩),
  (n_pregex_reader_at, ⟨c_pregex_reader_at, [.t 4], 2, [0]⟩),
  (n_pregex_reader_atom, ⟨c_pregex_reader_atom, [.t 2, .t 3], 1, [0]⟩),
  (n_pregex_reader_sign, ⟨c_pregex_reader_sign, [.t 4, .t 5], 2, [0]⟩),
  (n_pregex_reader_class, ⟨c_pregex_reader_class, [.t 2, .t 3], 1, [0]⟩),
  (n_pregex_maker_part, ⟨c_pregex_maker_part, [], 4, [0]⟩),
  (n_pregex_maker_state, ⟨c_pregex_maker_state, [.t 2], 1, [0]⟩),
  (n_pregex_maker_none, ⟨c_pregex_maker_none, [], 3, [0]⟩),
  (n_regex_set_net, ⟨c_regex_set_net, [], 4, [1]⟩),
  (n_regex_rep_net, ⟨c_regex_rep_net, [], 4, [1]⟩),
  (n_regex_alt_net, ⟨c_regex_alt_net, [], 4, [1]⟩),
  (n_regex_seq_net, ⟨c_regex_seq_net, [], 4, [1]⟩),
  (n_pregex_set_run, ⟨c_pregex_set_run, [.t 4], 2, [0]⟩)]
def tabRG (f : FuncId) (us : List V) : Option V := if f = n_internal_bytealg_IndexByteString then (match us with
  | [.str s, .int .u8 n] => if (UInt8.ofNat n.toNat).toNat = n then some (.int .i64 (Lib.indexByte s (UInt8.ofNat n.toNat))) else none
  | _ => none) else none
def tabR : FTab := ⟨lkD tabRP, lkD tabRH, tabRG⟩
theorem tabRP_ok : ∀ x ∈ tabRP, Img Tryd.prog x.1 x.2 ∧ x.2.ps = [] := by
  intro x hx
  simp only [tabRP, List.mem_cons, List.not_mem_nil, or_false] at hx
  rcases hx with rfl | rfl | rfl | rfl | rfl | rfl | rfl | rfl
  · exact ⟨Img.of_image h_regex_either i_regex_either, rfl⟩
  · exact ⟨Img.of_image h_regex_row i_regex_row, rfl⟩
  · exact ⟨Img.of_image h_regex_every i_regex_every, rfl⟩
  · exact ⟨Img.of_image h_regex_single i_regex_single, rfl⟩
  · exact ⟨Img.of_image h_regex_set_other i_regex_set_other, rfl⟩
  · exact ⟨Img.of_image h_regex_isSign i_regex_isSign, rfl⟩
  · exact ⟨Img.of_image h_strings_IndexByte i_strings_IndexByte, rfl⟩
  · exact ⟨Img.of_image h_internal_stringslite_IndexByte i_internal_stringslite_IndexByte, rfl⟩
theorem tabRH_ok : ∀ x ∈ tabRH, Img Tryd.prog x.1 x.2 := by
  intro x hx
  simp only [tabRH, List.mem_cons, List.not_mem_nil, or_false] at hx
  rcases hx with rfl | rfl | rfl | rfl | rfl | rfl | rfl | rfl | rfl | rfl | rfl | rfl | rfl | rfl | rfl | rfl | rfl
  · exact Img.of_imageE h_regex_Parse i_regex_Parse
  · exact Img.of_imageE h_pregex_Regex_Net i_pregex_Regex_Net
  · exact Img.of_image h_regex_inner i_regex_inner
  · exact Img.of_imageE h_pregex_reader_expression i_pregex_reader_expression
  · exact Img.of_imageE h_pregex_reader_branch i_pregex_reader_branch
  · exact Img.of_imageE h_pregex_reader_at i_pregex_reader_at
  · exact Img.of_imageE h_pregex_reader_atom i_pregex_reader_atom
  · exact Img.of_imageE h_pregex_reader_sign i_pregex_reader_sign
  · exact Img.of_imageE h_pregex_reader_class i_pregex_reader_class
  · exact Img.of_imageE h_pregex_maker_part i_pregex_maker_part
  · exact Img.of_imageE h_pregex_maker_state i_pregex_maker_state
  · exact Img.of_imageE h_pregex_maker_none i_pregex_maker_none
  · exact Img.of_imageE h_regex_set_net i_regex_set_net
  · exact Img.of_imageE h_regex_rep_net i_regex_rep_net
  · exact Img.of_imageE h_regex_alt_net i_regex_alt_net
  · exact Img.of_imageE h_regex_seq_net i_regex_seq_net
  · exact Img.of_imageE h_pregex_set_run i_pregex_set_run
theorem tabR_ok : TabOK Tryd.prog tabR := by
  refine ⟨fun f D h => tabRP_ok _ (lkD_mem h), fun f D h => tabRH_ok _ (lkD_mem h), fun f us r h => ?_⟩
  simp only [tabR, tabRG] at h
  split at h
  · rename_i hf
    subst hf
    split at h
    · split at h
      · rename_i s n hn
        cases h
        have := f_bytealg_IndexByteString s (UInt8.ofNat n.toNat)
        rwa [hn] at this
      · cases h
    · cases h
  · cases h
end Go.Abs
