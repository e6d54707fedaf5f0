/-
  An abstract machine of pure values beside the model's machine: values, what they stand for in memory, states. No condition.
-/
import Derived.WalkKit
import Derived.Laws.AppendOwn
import Derived.Laws.MakeOwn
import Derived.Laws.BytesArg
import Derived.Laws.Tables
import Derived.Laws.Strings2
import Derived.RegionTactic
import Derived.Still
set_option linter.unusedVariables false
set_option linter.unusedSimpArgs false
set_option linter.unusedSectionVars false
namespace Go.Abs
open Go.RowKit

abbrev Mem := Addr → Option Value
/-- The table that the statement's rows list as laid: its number, its numbers (none: there is no table). -/
def GLb : Nat := 0
def GLt : List Nat := [0, 1, 56, 2, 57, 49, 28, 3, 61, 58, 42, 50, 38, 29, 17, 4, 62, 47, 59, 36, 45, 43, 51, 22, 53, 39, 33, 30, 24, 18, 12, 5, 63, 55, 48, 27, 60, 41, 37, 16, 46, 35, 44, 21, 52, 32, 23, 11, 54, 26, 40, 15, 34, 20, 31, 10, 25, 14, 19, 9, 13, 8, 7, 6]
def GLv (n : Nat) : Value := .int .u8 (n % 256 : Nat)
/-- The memory of that table. -/
def GL : Mem := fun p => if p = ⟨GLb, p.off, none⟩ then (GLt[p.off]?).map GLv else none

/-- The abstract values. 'seq': a slice that nobody writes; 'ref': a whole slice of the call's own; 'ptr', 'eptr': addresses in what is the call's own; 'mref': a row of rows of the call's own; 'mptr': an address in it; 'fseq': a slice that nobody writes, in memory that was made since the call began; 'sptr': an address of what nobody writes. -/
inductive V where
  | int (k : IntKind) (n : Int)
  | bool (b : Bool)
  | str (s : List UInt8)
  | nil (sz : Nat)
  | seq (sz : Nat) (l : List V)
  | ref (id n : Nat)
  | strct (cs : List V)
  | ptr (id off : Nat)
  | eptr (id n i off : Nat)
  | mref (id i n : Nat)
  | fseq (sz : Nat) (l : List V)
  | mptr (id i n k off : Nat)
  | sptr (x : V) (off : Nat)
  | nilptr
  | fn (f : Fn) (first cap : List V)
  | nilfn
  | iface (t : TypeId) (x : V)
  | niliface
  | tup (vs : List V)
  | junk
  deriving Inhabited

abbrev NX : V → Value → Prop := fun _ _ => False

def isCell (c : Value) : Prop := c.oneCell' = true

mutual
/-- What an abstract value stands for: memory M, which nobody writes; X tells the addresses of what is the call's own. -/
def rep (M : Mem) : (V → Value → Prop) → V → Value → Prop
  | _, .int k n, c => c = .int k n ∧ k.min ≤ n ∧ n ≤ k.max
  | _, .bool b, c => c = .bool b
  | _, .str s, c => ∃ bs : ByteArray, c = .string bs ∧ bs.data.toList = s ∧ s.length ≤ 4611686018427387904
  | _, .nil sz, c => c = .slice none 0 0 ∧ 0 < sz
  | _, .seq sz l, c => ∃ a cap, c = .slice a l.length cap ∧ l.length ≤ cap ∧ l.length ≤ 140737488355328 ∧ 0 < sz ∧ (l = [] ∨ ∃ b off, a = some ⟨b, off, none⟩ ∧ repMem M sz l b off)
  | X, .strct cs, c => ∃ arr : Array Value, c = .agg arr ∧ repAll M X cs arr.toList ∧ ∀ u ∈ arr.toList, isCell u
  | _, .sptr x off, c => ∃ b o y, c = .pointer (some ⟨b, o + off, none⟩) ∧ rep M NX x y ∧ (∀ u ∈ y.cells.toList, isCell u) ∧ ∀ j, j < y.cells.size → M ⟨b, o + j, none⟩ = y.cells[j]?
  | _, .nilptr, c => c = .pointer none
  | X, .fn f fs cs, c => ∃ a1 a2 : Array Value, c = .func f a1 a2 ∧ repAll M X fs a1.toList ∧ repAll M X cs a2.toList
  | _, .nilfn, c => c = .nilFunc
  | X, .iface t x, c => ∃ y, c = .iface t y ∧ rep M X x y
  | _, .niliface, c => c = .nilIface
  | X, .tup vs, c => ∃ arr : Array Value, c = .tuple arr ∧ repAll M X vs arr.toList
  | _, .junk, c => isCell c
  | X, .ref id n, c => X (.ref id n) c
  | X, .ptr id n, c => X (.ptr id n) c
  | X, .eptr id n i off, c => X (.eptr id n i off) c
  | X, .mref id i n, c => X (.mref id i n) c
  | X, .fseq sz l, c => X (.fseq sz l) c
  | X, .mptr id i n k off, c => X (.mptr id i n k off) c
def repAll (M : Mem) : (V → Value → Prop) → List V → List Value → Prop
  | _, [], cs => cs = []
  | X, v :: vs, cs => ∃ c cs', cs = c :: cs' ∧ rep M X v c ∧ repAll M X vs cs'
def repMem (M : Mem) : Nat → List V → Nat → Nat → Prop
  | _, [], _, _ => True
  | sz, v :: vs, b, off => (∃ y, rep M NX v y ∧ y.cells.size = sz ∧ (∀ u ∈ y.cells.toList, isCell u) ∧ ∀ j, j < sz → M ⟨b, off + j, none⟩ = y.cells[j]?) ∧ repMem M sz vs b (off + sz)
end

section
variable {M M' : Mem} (hM : ∀ p u, M p = some u → M' p = some u)
include hM
mutual
theorem rep_mono : ∀ {X X' : V → Value → Prop} (hX : ∀ v c, X v c → X' v c) (v : V) (c : Value), rep M X v c → rep M' X' v c
  | _, _, _, .int _ _, _, h => h
  | _, _, _, .bool _, _, h => h
  | _, _, _, .str _, _, h => h
  | _, _, _, .nil _, _, h => h
  | _, _, _, .seq sz l, c, h => by
    simp only [rep] at h ⊢
    obtain ⟨a, cap, h1, h1', h2, h2', h3⟩ := h
    refine ⟨a, cap, h1, h1', h2, h2', ?_⟩
    rcases h3 with h3 | ⟨b, off, h4, h5⟩
    · exact .inl h3
    · exact .inr ⟨b, off, h4, repMem_mono sz l b off h5⟩
  | _, _, hX, .strct cs, c, h => by
    simp only [rep] at h ⊢
    obtain ⟨arr, h1, h2, h3⟩ := h
    exact ⟨arr, h1, repAll_mono hX cs _ h2, h3⟩
  | _, _, _, .sptr x off, c, h => by
    simp only [rep] at h ⊢
    obtain ⟨b, o, y, h1, h2, h2', h3⟩ := h
    refine ⟨b, o, y, h1, rep_mono (fun _ _ h => h) x y h2, h2', fun j hj => ?_⟩
    have h4 := h3 j hj
    rw [Array.getElem?_eq_getElem hj] at h4 ⊢
    exact hM _ _ h4
  | _, _, _, .nilptr, _, h => h
  | _, _, hX, .fn f fs cs, c, h => by
    simp only [rep] at h ⊢
    obtain ⟨a1, a2, h1, h2, h3⟩ := h
    exact ⟨a1, a2, h1, repAll_mono hX fs _ h2, repAll_mono hX cs _ h3⟩
  | _, _, _, .nilfn, _, h => h
  | _, _, hX, .iface t x, c, h => by
    simp only [rep] at h ⊢
    obtain ⟨y, h1, h2⟩ := h
    exact ⟨y, h1, rep_mono hX x y h2⟩
  | _, _, _, .niliface, _, h => h
  | _, _, hX, .tup vs, c, h => by
    simp only [rep] at h ⊢
    obtain ⟨arr, h1, h2⟩ := h
    exact ⟨arr, h1, repAll_mono hX vs _ h2⟩
  | _, _, _, .junk, _, h => h
  | _, _, hX, .ref _ _, _, h => hX _ _ h
  | _, _, hX, .ptr _ _, _, h => hX _ _ h
  | _, _, hX, .eptr _ _ _ _, _, h => hX _ _ h
  | _, _, hX, .mref _ _ _, _, h => hX _ _ h
  | _, _, hX, .fseq _ _, _, h => hX _ _ h
  | _, _, hX, .mptr _ _ _ _ _, _, h => hX _ _ h
theorem repAll_mono : ∀ {X X' : V → Value → Prop} (hX : ∀ v c, X v c → X' v c) (vs : List V) (cs : List Value), repAll M X vs cs → repAll M' X' vs cs
  | _, _, _, [], _, h => h
  | _, _, hX, v :: vs, cs, h => by
    simp only [repAll] at h ⊢
    obtain ⟨c, cs', h1, h2, h3⟩ := h
    exact ⟨c, cs', h1, rep_mono hX v c h2, repAll_mono hX vs cs' h3⟩
theorem repMem_mono : ∀ (sz : Nat) (l : List V) (b off : Nat), repMem M sz l b off → repMem M' sz l b off
  | _, [], _, _, _ => trivial
  | sz, v :: vs, b, off, h => by
    simp only [repMem] at h ⊢
    obtain ⟨⟨y, h1, h2, h2', h3⟩, h4⟩ := h
    refine ⟨⟨y, rep_mono (fun _ _ h => h) v y h1, h2, h2', fun j hj => ?_⟩, repMem_mono sz vs b _ h4⟩
    have h5 := h3 j hj
    rw [Array.getElem?_eq_getElem (by omega)] at h5 ⊢
    exact hM _ _ h5
end
end

theorem rep_X {M : Mem} {X X' : V → Value → Prop} (hX : ∀ v c, X v c → X' v c) {v : V} {c : Value} (h : rep M X v c) : rep M X' v c := rep_mono (fun _ _ h => h) hX v c h
theorem rep_of_pure {M : Mem} {X : V → Value → Prop} {v : V} {c : Value} (h : rep M NX v c) : rep M X v c := rep_X (fun _ _ h => h.elim) h

theorem repAll_length {M : Mem} {X : V → Value → Prop} : ∀ {vs : List V} {cs : List Value}, repAll M X vs cs → cs.length = vs.length
  | [], _, h => by simp only [repAll] at h; simp [h]
  | v :: vs, _, h => by
    simp only [repAll] at h
    obtain ⟨c, cs', rfl, _, h3⟩ := h
    simp [repAll_length h3]

theorem repAll_get {M : Mem} {X : V → Value → Prop} : ∀ {vs : List V} {cs : List Value}, repAll M X vs cs → ∀ {i : Nat} {v : V}, vs[i]? = some v → ∃ c, cs[i]? = some c ∧ rep M X v c
  | [], _, h, i, v, hi => by simp at hi
  | v :: vs, _, h, i, u, hi => by
    simp only [repAll] at h
    obtain ⟨c, cs', rfl, h2, h3⟩ := h
    cases i with
    | zero => simp at hi; subst hi; exact ⟨c, by simp, h2⟩
    | succ i => simp at hi; simpa using repAll_get h3 hi

theorem repAll_append {M : Mem} {X : V → Value → Prop} : ∀ {vs us : List V} {cs ds : List Value}, repAll M X vs cs → repAll M X us ds → repAll M X (vs ++ us) (cs ++ ds)
  | [], us, cs, ds, h, h' => by simp only [repAll] at h; simpa [h] using h'
  | v :: vs, us, cs, ds, h, h' => by
    simp only [repAll] at h
    obtain ⟨c, cs', rfl, h2, h3⟩ := h
    simp only [List.cons_append, repAll]
    exact ⟨c, cs' ++ ds, rfl, h2, repAll_append h3 h'⟩

theorem repAll_take {M : Mem} {X : V → Value → Prop} : ∀ (n : Nat) {vs : List V} {cs : List Value}, repAll M X vs cs → repAll M X (vs.take n) (cs.take n)
  | 0, _, _, _ => by simp [repAll]
  | n + 1, [], _, h => by simp only [repAll] at h; simp [h, repAll]
  | n + 1, v :: vs, _, h => by
    simp only [repAll] at h
    obtain ⟨c, cs', rfl, h2, h3⟩ := h
    simp only [List.take_succ_cons, repAll]
    exact ⟨c, cs'.take n, rfl, h2, repAll_take n h3⟩

theorem repAll_drop {M : Mem} {X : V → Value → Prop} : ∀ (n : Nat) {vs : List V} {cs : List Value}, repAll M X vs cs → repAll M X (vs.drop n) (cs.drop n)
  | 0, _, _, h => h
  | n + 1, [], _, h => by simp only [repAll] at h; simp [h, repAll]
  | n + 1, v :: vs, _, h => by
    simp only [repAll] at h
    obtain ⟨c, cs', rfl, h2, h3⟩ := h
    simpa using repAll_drop n h3

theorem repAll_set {M : Mem} {X : V → Value → Prop} : ∀ (n : Nat) {vs : List V} {cs : List Value} {v : V} {c : Value}, repAll M X vs cs → rep M X v c → repAll M X (vs.set n v) (cs.set n c)
  | _, [], _, _, _, h, _ => by simp only [repAll] at h; simp [h, repAll]
  | 0, v :: vs, _, _, _, h, h' => by
    simp only [repAll] at h
    obtain ⟨c, cs', rfl, h2, h3⟩ := h
    simp only [List.set_cons_zero, repAll]
    exact ⟨_, _, rfl, h', h3⟩
  | n + 1, v :: vs, _, _, _, h, h' => by
    simp only [repAll] at h
    obtain ⟨c, cs', rfl, h2, h3⟩ := h
    simp only [List.set_cons_succ, repAll]
    exact ⟨_, _, rfl, h2, repAll_set n h3 h'⟩

/-- The cells of a value: of a struct its cells, else itself. -/
def cl : V → List V
  | .strct cs => cs
  | v => [v]
/-- A value of cells. -/
def mkc : Bool → List V → Option V
  | true, cs => some (.strct cs)
  | false, [v] => some v
  | false, _ => none

/-- Is a value one of one cell, as far as its form tells? -/
def scalar : V → Bool
  | .strct _ | .tup _ => false
  | _ => true

theorem rep_cells {M : Mem} {X : V → Value → Prop} {v : V} {c : Value} (h : rep M X v c) (hc : c.cells = #[c] ∨ ∃ cs, v = .strct cs) : repAll M X (cl v) c.cells.toList := by
  cases v with
  | strct cs =>
    simp only [rep] at h
    obtain ⟨arr, rfl, h2, _⟩ := h
    simpa [cl, Value.cells] using h2
  | _ =>
    rcases hc with hc | ⟨_, hc⟩
    · rw [hc]; simp only [cl, repAll]; exact ⟨c, [], by simp, h, rfl⟩
    · cases hc

theorem cells_of_isCell {c : Value} (h : isCell c) : c.cells = #[c] := by cases c <;> simp_all [isCell, Value.oneCell', Value.cells]

end Go.Abs
