/-
  Arguments that are read as data: what stands for them. No condition.
-/
import Derived.Test.YtpblinccnkidfaaDoorAbs12
import Derived.ProofKit
import Derived.SizedLaws
set_option linter.unusedVariables false
set_option linter.unusedSimpArgs false
namespace Go.Abs
open Go.RowKit

/-- A value of a type. -/
inductive HasTy (P : Program) : TypeId → V → Prop
  | bool {t b} : P.underlying t = some .bool → HasTy P t (.bool b)
  | int {t k n} : P.underlying t = some (.int k) → k.min ≤ n → n ≤ k.max → HasTy P t (.int k n)
  | str {t s} : P.underlying t = some .string → s.length ≤ reachBytes → HasTy P t (.str s)
  | seq {t e l} : P.underlying t = some (.slice e) → (∀ u, u ∈ l → HasTy P e u) → l.length ≤ reachBytes → HasTy P t (.seq (P.cellsOf e) l)
  | strct {t : TypeId} {fs : Array Field} {us : List V} : P.underlying t = some (.struct fs) → us.length = fs.size → (∀ (i : Nat) (f : Field) (u : V), fs[i]? = some f → us[i]? = some u → HasTy P f.type u) → HasTy P t (.strct (us.flatMap cl))

/-- Fields that lie one behind the other. -/
def contig (P : Program) : Nat → List Field → Nat → Bool
  | o, [], n => decide (o = n)
  | o, f :: fs, n => decide (f.offset = o) && contig P (o + P.cellsOf f.type) fs n
/-- Is a type plain, with its parts' in a list? -/
def plainTy (P : Program) (S : List TypeId) (t : TypeId) : Bool :=
  match P.underlying t with
  | some .bool | some (.int _) | some .string => true
  | some (.slice e) => S.contains e && (decide (0 < P.cellsOf e) && decide (0 < P.bytesOf e))
  | some (.struct fs) => contig P 0 fs.toList (P.cellsOf t) && fs.toList.all (fun f => S.contains f.type)
  | _ => false

variable {H : Type} {enc : TypeId × Value → H} {P : Program} {w : World} {base : Nat} {spare : Nat → Bool} {held : Bool} {S : List TypeId}

/-- What cells stand for. -/
def repC (M : Mem) (u : V) (cs : List Value) : Prop := ∃ y : Value, rep M NX u y ∧ y.cells.toList = cs ∧ ∀ c ∈ cs, isCell c

theorem pieces (M : Mem) : ∀ (fs : List Field) (xs : List (List Value)) (us : List V) (o : Nat) (cs : List Value), contig P o fs (o + cs.length) = true →
    xs.length = fs.length → us.length = fs.length → (∀ (i : Nat) (f : Field), fs[i]? = some f → xs[i]? = some ((cs.drop (f.offset - o)).take (P.cellsOf f.type))) →
    (∀ (i : Nat) (x : List Value) (u : V), xs[i]? = some x → us[i]? = some u → repC M u x) → repAll M NX (us.flatMap cl) cs ∧ ∀ c ∈ cs, isCell c
  | [], xs, us, o, cs, hc, hx, hu, _, _ => by
    simp only [contig, decide_eq_true_eq] at hc
    have : cs = [] := List.eq_nil_of_length_eq_zero (by omega)
    subst this
    have : us = [] := List.eq_nil_of_length_eq_zero (by simpa using hu)
    subst this
    simp [repAll]
  | f :: fs, [], us, o, cs, _, hx, _, _, _ => by simp at hx
  | f :: fs, x :: xs, [], o, cs, _, _, hu, _, _ => by simp at hu
  | f :: fs, x :: xs, u :: us, o, cs, hc, hx, hu, hf, hr => by
    simp only [contig, Bool.and_eq_true, decide_eq_true_eq] at hc
    obtain ⟨hfo, hc⟩ := hc
    have h0 := hf 0 f rfl
    simp only [List.getElem?_cons_zero, Option.some.injEq, hfo, Nat.sub_self, List.drop_zero] at h0
    have hr0 := hr 0 x u rfl rfl
    have mono : ∀ (fs : List Field) (a b : Nat), contig P a fs b = true → a ≤ b ∧ ∀ (i : Nat) (f : Field), fs[i]? = some f → a ≤ f.offset := by
      intro fs
      induction fs with
      | nil => intro a b h; simp [contig] at h; subst h; simp
      | cons g gs ih =>
        intro a b h
        simp only [contig, Bool.and_eq_true, decide_eq_true_eq] at h
        have := ih _ _ h.2
        refine ⟨by omega, fun i f hf => ?_⟩
        cases i with
        | zero => simp at hf; subst hf; omega
        | succ i => have := this.2 i f (by simpa using hf); omega
    have hm := mono _ _ _ hc
    have hlen : P.cellsOf f.type ≤ cs.length := by omega
    have key := pieces M fs xs us (o + P.cellsOf f.type) (cs.drop (P.cellsOf f.type))
      (by rw [List.length_drop, show o + P.cellsOf f.type + (cs.length - P.cellsOf f.type) = o + cs.length by omega]; exact hc)
      (by simpa using hx) (by simpa using hu)
      (fun i g hg => by
        have h1 := hf (i + 1) g (by simpa using hg)
        have h2 := hm.2 i g hg
        rw [List.drop_drop, show P.cellsOf f.type + (g.offset - (o + P.cellsOf f.type)) = g.offset - o by omega]
        simpa using h1)
      (fun i y v hy hv => hr (i + 1) y v (by simpa using hy) (by simpa using hv))
    obtain ⟨y, hy1, hy2, hy3⟩ := hr0
    have hcat : cs = x ++ cs.drop (P.cellsOf f.type) := by rw [h0, List.take_append_drop]
    have hrx : repAll M NX (cl u) x := by
      have := rep_cells hy1 (by
        by_cases hs : ∃ cs, u = .strct cs
        · exact .inr hs
        · refine .inl ?_
          cases u <;> simp only [rep] at hy1 <;> first
            | (exfalso; exact hs ⟨_, rfl⟩)
            | (obtain ⟨rfl, _⟩ := hy1; rfl)
            | (subst hy1; rfl)
            | (obtain ⟨_, rfl, _⟩ := hy1; rfl)
            | (obtain ⟨_, _, rfl, _⟩ := hy1; rfl)
            | (obtain ⟨_, _, _, rfl, _⟩ := hy1; rfl)
            | exact cells_of_isCell hy1
            | (exact hy1.elim))
      rwa [hy2] at this
    rw [hcat, List.flatMap_cons]
    have app : ∀ (a : List V) (x : List Value) (b : List V) (z : List Value), repAll M NX a x → repAll M NX b z → repAll M NX (a ++ b) (x ++ z) := by
      intro a
      induction a with
      | nil => intro x b z h1 h2; simp only [repAll] at h1; subst h1; simpa using h2
      | cons v a ih =>
        intro x b z h1 h2
        simp only [repAll] at h1
        obtain ⟨c, cs', rfl, h3, h4⟩ := h1
        simp only [List.cons_append, repAll]
        exact ⟨c, _, rfl, h3, ih _ _ _ h4 h2⟩
    refine ⟨app _ _ _ _ hrx key.1, fun c hc => ?_⟩
    rcases List.mem_append.1 hc with h | h
    · exact hy3 c h
    · exact key.2 c h
theorem pick {α β : Type} {R : Nat → α → β → Prop} : ∀ (l : List α), (∀ (i : Nat) (a : α), l[i]? = some a → ∃ b, R i a b) → ∃ bs : List β, bs.length = l.length ∧ ∀ (i : Nat) (a : α) (b : β), l[i]? = some a → bs[i]? = some b → R i a b := by
  intro l h
  induction l generalizing R with
  | nil => exact ⟨[], rfl, by simp⟩
  | cons x l ih =>
    obtain ⟨b, hb⟩ := h 0 x rfl
    obtain ⟨bs, h1, h2⟩ := ih (R := fun i => R (i + 1)) (fun i a ha => h (i + 1) a (by simpa using ha))
    refine ⟨b :: bs, by simp [h1], fun i a c ha hc => ?_⟩
    cases i with
    | zero => simp at ha hc; subst ha; subst hc; exact hb
    | succ i => exact h2 i a c (by simpa using ha) (by simpa using hc)
theorem repMem_mk (M : Mem) (sz : Nat) : ∀ (l : List V) (b off : Nat), (∀ (i : Nat) (u : V), l[i]? = some u → ∃ y : Value, rep M NX u y ∧ y.cells.size = sz ∧ (∀ c ∈ y.cells.toList, isCell c) ∧ ∀ j, j < sz → M ⟨b, off + i * sz + j, none⟩ = y.cells[j]?) → repMem M sz l b off
  | [], _, _, _ => trivial
  | v :: l, b, off, h => by
    simp only [repMem]
    obtain ⟨y, h1, h2, h3, h4⟩ := h 0 v rfl
    refine ⟨⟨y, h1, h2, h3, fun j hj => by have := h4 j hj; simpa using this⟩, repMem_mk M sz l b (off + sz) fun i u hu => ?_⟩
    obtain ⟨y, h1, h2, h3, h4⟩ := h (i + 1) u (by simpa using hu)
    refine ⟨y, h1, h2, h3, fun j hj => ?_⟩
    rw [show off + sz + i * sz = off + (i + 1) * sz by rw [Nat.succ_mul]; omega]
    exact h4 j hj
theorem weightsAll_mem {e : TypeId} : ∀ {ds : List (DataW H)} {d : DataW H}, d ∈ ds → ∀ n ∈ d.weights P e, n ∈ DataW.weightsAll P e ds
  | [], d, h, _, _ => by cases h
  | x :: ds, d, h, n, hn => by
    simp only [DataW.weightsAll, List.mem_append]
    rcases List.mem_cons.1 h with rfl | h
    · exact .inl hn
    · exact .inr (weightsAll_mem h n hn)
theorem reach_ok : reachBytes ≤ 140737488355328 := by decide
theorem open_ty (hS : S.all (plainTy P S) = true) : ∀ (fuel : Nat) (t : TypeId) (cs : List Value) (x : DataW H × List MemPlace), DataW.trod enc P w 0 spare held fuel t cs = some x → t ∈ S →
    (∀ n ∈ x.1.weights P t, n ≤ reachBytes) → ∃ u, HasTy P t u ∧ repC (fun p => w.cell? p) u cs := by
  intro fuel
  induction fuel with
  | zero => intro t cs x h; simp [DataW.trod] at h
  | succ m ih =>
    intro t cs x h ht hw
    have hp := List.all_eq_true.1 hS t ht
    unfold plainTy at hp
    split at hp
    · rename_i hu
      obtain ⟨b, rfl, rfl⟩ := DataW.trod_bool hu h
      exact ⟨.bool b, .bool hu, .bool b, rfl, rfl, by simp [isCell, Value.oneCell']⟩
    · rename_i k hu
      obtain ⟨n, rfl, rfl, hn⟩ := DataW.trod_int hu h
      simp only [Lit.wf, Bool.and_eq_true, decide_eq_true_eq] at hn
      exact ⟨.int k n, .int hu hn.1 hn.2, .int k n, ⟨rfl, hn⟩, rfl, by simp [isCell, Value.oneCell']⟩
    · rename_i hu
      obtain ⟨s, rfl, rfl, hs⟩ := DataW.trod_string hu h
      have hl : s.data.toList.length ≤ reachBytes := hw _ (by simp [DataW.weights])
      exact ⟨.str s.data.toList, .str hu hl, .string s, ⟨s, rfl, rfl, Nat.le_trans hl (by decide)⟩, rfl, by simp [isCell, Value.oneCell']⟩
    · rename_i e hu
      simp only [Bool.and_eq_true, decide_eq_true_eq, List.contains_iff_mem] at hp
      obtain ⟨he, hc, hb⟩ := hp
      rcases DataW.trod_slice hu h with ⟨rfl, rfl⟩ | ⟨a, len, cap, elems, rest, n, hfu, rfl, rfl, hba, hlc, hcm, hel, hall, _, _⟩
      · refine ⟨.seq (P.cellsOf e) [], .seq hu (by simp) (by simp), .slice none 0 0, ?_, rfl, by simp [isCell, Value.oneCell']⟩
        simp only [rep]
        exact ⟨none, 0, rfl, by simp, by simp, hc, .inl trivial⟩
      · have hn : n = m := by omega
        subst hn
        have hwl : (elems.length + rest.length) * P.bytesOf e ≤ reachBytes := by
          have := hw ((elems.length + rest.length) * P.bytesOf e) (by simp [DataW.weights, hu])
          exact this
        have hlen : elems.length ≤ reachBytes := by
          have h1 : (elems.length + rest.length) * 1 ≤ (elems.length + rest.length) * P.bytesOf e := Nat.mul_le_mul_left _ hb
          omega
        have key : ∀ (i : Nat) (y : DataW H × List MemPlace), elems[i]? = some y → ∃ u : V, HasTy P e u ∧ ∃ z : Value, rep (fun p => w.cell? p) NX u z ∧ z.cells.size = P.cellsOf e ∧ (∀ c ∈ z.cells.toList, isCell c) ∧ ∀ j, j < P.cellsOf e → w.cell? (((a.add (i * P.cellsOf e))).add j) = z.cells[j]? := by
          intro i y hy
          have hi := (List.getElem?_eq_some_iff.1 hy).1
          have h1 := hall i (by omega)
          rw [hy, Option.bind_eq_some_iff] at h1
          obtain ⟨cs', h2, h3⟩ := h1
          have hm : y.1 ∈ elems.map (·.1) := List.mem_map_of_mem (List.mem_of_getElem? hy)
          obtain ⟨u, hu1, z, hz1, hz2, hz3⟩ := ih e cs' y h3 he (fun k hk => hw k (by
            simp only [DataW.weights, hu, List.mem_cons, List.mem_append]
            exact .inr (.inl (weightsAll_mem hm k hk))))
          obtain ⟨_, hl, hg⟩ := World.cells?_some h2
          refine ⟨u, hu1, z, hz1, ?_, ?_, fun j hj => ?_⟩
          · rw [← hl, ← hz2]; simp
          · rw [hz2]; exact hz3
          · rw [hg j hj, ← hz2]; simp
        obtain ⟨us, hul, hus⟩ := pick elems key
        refine ⟨.seq (P.cellsOf e) us, .seq hu (fun u hu' => ?_) (by omega), .slice (some a) len cap, ?_, rfl, by simp [isCell, Value.oneCell']⟩
        · obtain ⟨i, hi⟩ := List.mem_iff_getElem?.1 hu'
          have hil := (List.getElem?_eq_some_iff.1 hi).1
          obtain ⟨y, hy⟩ : ∃ y, elems[i]? = some y := ⟨_, List.getElem?_eq_getElem (by omega)⟩
          exact (hus i y u hy hi).1
        · simp only [rep]
          refine ⟨some a, cap, by rw [hul, hel], by omega, by have := reach_ok; omega, hc, ?_⟩
          cases us with
          | nil => exact .inl rfl
          | cons u0 us' =>
            refine .inr ⟨a.block, a.off, ?_, repMem_mk _ _ _ _ _ fun i u hi => ?_⟩
            · obtain ⟨y, hy⟩ : ∃ y, elems[0]? = some y := ⟨_, List.getElem?_eq_getElem (by rw [← hul]; simp)⟩
              obtain ⟨_, z, _, hz2, _, hz4⟩ := hus 0 y u0 hy rfl
              have h0 := hz4 0 hc
              rw [Array.getElem?_eq_getElem (by omega)] at h0
              simp only [Nat.zero_mul, Addr.add, if_true] at h0
              have hsp : a.spot = none := by
                unfold World.cell? at h0
                split at h0
                · split at h0
                  · cases h0
                  · rename_i hns; simpa using hns
                · cases h0
              cases a; simp_all
            · have hil := (List.getElem?_eq_some_iff.1 hi).1
              obtain ⟨y, hy⟩ : ∃ y, elems[i]? = some y := ⟨_, List.getElem?_eq_getElem (by omega)⟩
              obtain ⟨_, z, hz1, hz2, hz3, hz4⟩ := hus i y u hy hi
              obtain ⟨y0, hy0⟩ : ∃ y, elems[0]? = some y := ⟨_, List.getElem?_eq_getElem (by rw [← hul]; simp)⟩
              obtain ⟨_, z0, _, hz20, _, hz40⟩ := hus 0 y0 u0 hy0 rfl
              have h0 := hz40 0 hc
              rw [Array.getElem?_eq_getElem (by omega)] at h0
              simp only [Nat.zero_mul, Addr.add, if_true] at h0
              have hsp : a.spot = none := by
                unfold World.cell? at h0
                split at h0
                · split at h0
                  · cases h0
                  · rename_i hns; simpa using hns
                · cases h0
              refine ⟨z, hz1, hz2, hz3, fun j hj => ?_⟩
              have := hz4 j hj
              rw [← this]
              show w.cell? _ = _
              congr 1
              unfold Addr.add
              obtain ⟨ab, ao, asp⟩ := a
              simp only at hsp
              subst hsp
              split <;> split <;> simp <;> omega
    · rename_i fs hu
      simp only [Bool.and_eq_true] at hp
      obtain ⟨hct, hfs⟩ := hp
      obtain ⟨xs, n, hfu, rfl, hcl, hxl, hx⟩ := DataW.trod_struct hu h
      have hn : n = m := by omega
      subst hn
      have key : ∀ (i : Nat) (f : Field), fs.toList[i]? = some f → ∃ u : V, HasTy P f.type u ∧ repC (fun p => w.cell? p) u ((cs.drop f.offset).take (P.cellsOf f.type)) := by
        intro i f hf
        have hf' : fs[i]? = some f := by simpa using hf
        have h1 := hx i f hf'
        have hi : i < xs.length := by rw [hxl]; exact (Array.getElem?_eq_some_iff.1 hf').1
        rw [List.getElem?_eq_getElem hi] at h1
        have hfS : f.type ∈ S := by
          have := List.all_eq_true.1 hfs f (List.mem_of_getElem? hf)
          simpa using this
        refine ih f.type _ _ h1 hfS (fun k hk => hw k ?_)
        simp only [DataW.weights, hu]
        exact DataW.weights_mem_each (j := i) (t := f.type) (d := xs[i].1) (by simp [hf']) (by simp [hi]) k hk
      obtain ⟨us, hul, hus⟩ := pick fs.toList key
      have hpc := pieces (P := P) (fun p => w.cell? p) fs.toList (fs.toList.map fun f => (cs.drop f.offset).take (P.cellsOf f.type)) us 0 cs (by rw [Nat.zero_add, hcl]; exact hct) (by simp) hul
        (fun i f hf => by rw [List.getElem?_map, hf]; rfl)
        (fun i x u hx' hu' => by
          rw [List.getElem?_map] at hx'
          cases hf : fs.toList[i]? with
          | none => rw [hf] at hx'; cases hx'
          | some f =>
            rw [hf] at hx'
            simp only [Option.map_some, Option.some.injEq] at hx'
            subst hx'
            exact (hus i f u hf hu').2)
      refine ⟨.strct (us.flatMap cl), .strct hu (by simpa using hul) (fun i f u hf hu' => (hus i f u (by simpa using hf) hu').1), .agg cs.toArray, ?_, by simp [Value.cells], hpc.2⟩
      simp only [rep]
      exact ⟨cs.toArray, rfl, by simpa using hpc.1, by simpa using hpc.2⟩
    · cases hp
end Go.Abs
