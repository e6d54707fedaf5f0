/-
  How a state of the abstract machine stands to a frame and a world of the model's. No condition.
-/
import Derived.Test.YtpblinccnkidfaaDoorAbs2
set_option linter.unusedVariables false
set_option linter.unusedSimpArgs false
namespace Go.Abs
open Go.RowKit

/-- What the call's own stands for: its value, the rows' values of a row of rows; the blocks that it lies in. -/
structure Kap where
  v : Nat → Value
  row : Nat → Nat → Value
  bl : Nat → Nat → Prop
  fm : Mem
instance : CoeFun Kap fun _ => Nat → Value := ⟨Kap.v⟩
def blk : Value → Option Nat
  | .pointer (some a) => some a.block
  | .slice (some a) _ _ => some a.block
  | _ => none

/-- What an address of the call's own stands for. -/
def XX (κ : Kap) (h : List (Option Ob)) : V → Value → Prop
  | .ref id n, c => isCell c ∧ id < h.length ∧ (∀ e sz l, h[id]? = some (some (.arr e sz l)) → n ≤ l.length ∧ (n = l.length → c = κ id)) ∧ (∀ e e2 sz rows, h[id]? = some (some (.mat e e2 sz rows)) → n ≤ rows.length ∧ (n = rows.length → c = κ id)) ∧ (∀ kt l, h[id]? = some (some (.mp kt l)) → c = κ id)
  | .ptr id off, c => isCell c ∧ id < h.length ∧ ∀ cs, h[id]? = some (some (.box cs)) → ∃ b, κ id = .pointer (some ⟨b, 0, none⟩) ∧ c = .pointer (some ⟨b, off, none⟩)
  | .eptr id n i off, c => isCell c ∧ id < h.length ∧ (∀ e sz l, h[id]? = some (some (.arr e sz l)) → n ≤ l.length ∧ (n = l.length → i < n → ∃ b cap, κ id = .slice (some ⟨b, 0, none⟩) n cap ∧ c = .pointer (some ⟨b, i * sz + off, none⟩))) ∧ (∀ e e2 sz rows, h[id]? = some (some (.mat e e2 sz rows)) → n ≤ rows.length ∧ (n = rows.length → i < n → ∃ b cap, κ id = .slice (some ⟨b, 0, none⟩) n cap ∧ c = .pointer (some ⟨b, i + off, none⟩)))
  | .fseq sz l, c => isCell c ∧ rep κ.fm NX (.seq sz l) c
  | .mref id i n, c => isCell c ∧ id < h.length ∧ ∀ e e2 sz rows, h[id]? = some (some (.mat e e2 sz rows)) → ∀ r, rowAt rows i = some r → n ≤ r.length ∧ (n = r.length → c = κ.row id i)
  | .mptr id i n k off, c => isCell c ∧ id < h.length ∧ ∀ e e2 sz rows, h[id]? = some (some (.mat e e2 sz rows)) → ∀ r, rowAt rows i = some r → n ≤ r.length ∧ (n = r.length → k < n → ∃ b cap, κ.row id i = .slice (some ⟨b, 0, none⟩) n cap ∧ c = .pointer (some ⟨b, k * sz + off, none⟩))
  | _, _ => False

def repRow (M : Mem) (sz : Nat) : List V → List Value → Prop
  | [], xs => xs = []
  | v :: vs, xs => ∃ (y : Value) (rest : List Value), xs = y.cells.toList ++ rest ∧ rep M NX v y ∧ y.cells.size = sz ∧ (∀ u ∈ y.cells.toList, isCell u) ∧ repRow M sz vs rest

/-- What a call may write: blocks from a number on, and some that were lent to it. -/
structure Bas where
  n : Nat
  S : Nat → Prop
  ps : List Nat
  cs : Array Value
  fb : Nat
def Bas.own (B : Bas) (g : Nat) : Prop := B.n ≤ g ∨ B.S g
/-- Blocks keep their sizes. -/
def Siz (w w' : World) : Prop := ∀ (k : Nat) (cur : Array Value) (T : TypeId) (z : Nat × Nat), w.heap[k]? = some (Obj.cells cur T z) → ∃ (cur' : Array Value) (T' : TypeId) (z' : Nat × Nat), w'.heap[k]? = some (Obj.cells cur' T' z') ∧ cur'.size = cur.size
/-- Of what there was only what may be written has turned. -/
structure Und (B : Bas) (w w' : World) : Prop where
  os : w'.os = w.os
  tape : w'.tape = w.tape
  output : w'.output = w.output
  size : w.heap.size ≤ w'.heap.size
  block : ∀ k, k < B.n → ¬ B.S k → w'.heap[k]? = w.heap[k]?
  siz : ∀ (k : Nat) (cur : Array Value) (T : TypeId) (z : Nat × Nat), w.heap[k]? = some (Obj.cells cur T z) → ∃ (cur' : Array Value) (T' : TypeId) (z' : Nat × Nat), w'.heap[k]? = some (Obj.cells cur' T' z') ∧ cur'.size = cur.size
theorem Und.refl (B : Bas) (w : World) : Und B w w := ⟨rfl, rfl, rfl, Nat.le_refl _, fun _ _ _ => rfl, fun _ cur T z h => ⟨cur, T, z, h, rfl⟩⟩
theorem Und.trans {B : Bas} {a b c : World} (h : Und B a b) (k : Und B b c) : Und B a c :=
  ⟨k.os.trans h.os, k.tape.trans h.tape, k.output.trans h.output, Nat.le_trans h.size k.size, fun i hi hs => (k.block i hi hs).trans (h.block i hi hs), fun i cur T z hc => by
    obtain ⟨c1, T1, z1, h1, e1⟩ := h.siz i cur T z hc
    obtain ⟨c2, T2, z2, h2, e2⟩ := k.siz i c1 T1 z1 h1
    exact ⟨c2, T2, z2, h2, e2.trans e1⟩⟩
theorem Und.of_below {B : Bas} {w w' : World} (h : Below w.heap.size w w') (hB : B.n ≤ w.heap.size) : Und B w w' := ⟨h.os, h.tape, h.output, h.size, fun k hk _ => h.block k (by omega), fun k cur T z hc => ⟨cur, T, z, by rw [h.block k (Array.getElem?_eq_some_iff.1 hc).1]; exact hc, rfl⟩⟩

/-- A map's entries. -/
def mpAt (M : Mem) (kt : KT) : List (V × V) → List MapEntry → Prop
  | [], es => es = []
  | (k, v) :: l, es => ∃ (e : MapEntry) (rest : List MapEntry), es = e :: rest ∧ fitsK kt k = true ∧ rep M NX k e.key ∧ rep M NX v e.val ∧ mpAt M kt l rest
def obAt (κ : Kap) (M : Mem) (X : V → Value → Prop) (B : Bas) (w : World) (id : Nat) : Ob → Prop
  | .box cs => ∃ (b : Nat) (arr : Array Value) (T : TypeId), κ id = .pointer (some ⟨b, 0, none⟩) ∧ B.own b ∧ w.heap[b]? = some (.cells arr T (0, 0)) ∧ repAll M X cs arr.toList ∧ (∀ u ∈ arr.toList, isCell u) ∧ ∀ g, κ.bl id g ↔ g = b
  | .arr e sz l => 0 < sz ∧ l.length ≤ 140737488355328 ∧ ∃ xs, w.ownsRow 0 e sz (κ id) l.length xs ∧ repRow M sz l xs ∧ (∀ g, κ.bl id g → B.own g) ∧ ∀ g, κ.bl id g ↔ blk (κ id) = some g
  | .mat e e2 sz rows => 0 < sz ∧ rows.length ≤ 140737488355328 ∧ (∃ xs, w.ownsRow 0 e 1 (κ id) rows.length xs ∧ (∀ u ∈ xs, isCell u) ∧ ∀ i r, rowAt rows i = some r → xs[i]? = some (κ.row id i)) ∧
    (∀ i r, rowAt rows i = some r → r.length ≤ 140737488355328 ∧ ∃ ys, w.ownsRow 0 e2 sz (κ.row id i) r.length ys ∧ repRow M sz r ys) ∧
    (∀ i j r s g, rowAt rows i = some r → rowAt rows j = some s → blk (κ.row id i) = some g → blk (κ.row id j) = some g → i = j) ∧ (∀ i r g, rowAt rows i = some r → blk (κ.row id i) = some g → blk (κ id) ≠ some g) ∧
    (∀ g, κ.bl id g → B.own g) ∧ ∀ g, κ.bl id g ↔ (blk (κ id) = some g ∨ ∃ i r, rowAt rows i = some r ∧ blk (κ.row id i) = some g)
  | .mp kt l => ∃ (b : Nat) (es : Array MapEntry) (clock : Nat), κ id = .map (some b) ∧ B.own b ∧ w.heap[b]? = some (.map es clock) ∧ mpAt M kt l es.toList ∧ ∀ g, κ.bl id g ↔ g = b

structure Sub (M0 : Mem) (B : Bas) (fm M : Mem) : Prop where
  sub : ∀ p v, M0 p = some v → M p = some v
  fmS : ∀ p v, fm p = some v → M p = some v
  fmN : ∀ p v, fm p = some v → B.fb ≤ p.block
  fbn : B.fb ≤ B.n
  gl : ∀ p v, GL p = some v → M0 p = some v
structure Rel (N : Nat) (M0 : Mem) (B : Bas) (w0 : World) (κ : Kap) (M : Mem) (σ : St) (a : Act) (w : World) : Prop where
  dfr : a.defers = []
  pin : ∀ i, i ∈ B.ps → a.tmps[i]? = B.cs[i]?
  size : a.tmps.size = N
  regs : ∀ t v, lk σ.r t = some v → t < N ∧ ∃ c, a.tmps[t]? = some c ∧ rep M (XX κ σ.h) v c
  heap : ∀ id ob, σ.h[id]? = some (some ob) → obAt κ M (XX κ σ.h) B w id ob
  inj : ∀ i j oi oj g, σ.h[i]? = some (some oi) → σ.h[j]? = some (some oj) → κ.bl i g → κ.bl j g → i = j
  snd : ∀ p v, M p = some v → w.cell? p = some v
  sep : ∀ p v, M p = some v → ∀ id ob, σ.h[id]? = some (some ob) → ¬ κ.bl id p.block
  sub : Sub M0 B κ.fm M
  new : ∀ p v, M p = some v → M0 p = some v ∨ B.own p.block
  base : B.n = w0.heap.size
  blw : Und B w0 w

/-! ### Cells of values -/
theorem cell_int {M X k n c} (h : rep M X (.int k n) c) : isCell c := by simp only [rep] at h; rw [h.1]; rfl
theorem rep_cellsC {M : Mem} {X : V → Value → Prop} {v : V} {c : Value} (h : rep M X v c) (hX : ∀ v c, X v c → isCell c) (hv : ∀ vs, v ≠ .tup vs) :
    repAll M X (cl v) c.cells.toList ∧ ∀ u ∈ c.cells.toList, isCell u := by
  have one : isCell c → cl v = [v] → repAll M X (cl v) c.cells.toList ∧ ∀ u ∈ c.cells.toList, isCell u := by
    intro hc hcl
    rw [cells_of_isCell hc, hcl]
    simp only [repAll]
    exact ⟨⟨c, [], by simp, h, rfl⟩, by simpa using hc⟩
  cases v with
  | strct cs =>
    simp only [rep] at h
    obtain ⟨arr, rfl, h2, h3⟩ := h
    exact ⟨by simpa [cl, Value.cells] using h2, by simpa [Value.cells] using h3⟩
  | tup vs => exact (hv vs rfl).elim
  | int k n => exact one (cell_int h) rfl
  | bool b => simp only [rep] at h; exact one (by rw [h]; rfl) rfl
  | str s => simp only [rep] at h; obtain ⟨bs, rfl, _⟩ := h; exact one rfl rfl
  | nil sz => simp only [rep] at h; exact one (by rw [h.1]; rfl) rfl
  | seq sz l => simp only [rep] at h; obtain ⟨a, cap, rfl, _⟩ := h; exact one rfl rfl
  | ref id n => exact one (hX _ _ h) rfl
  | ptr id n => exact one (hX _ _ h) rfl
  | eptr id n i off => exact one (hX _ _ h) rfl
  | mref id i n => exact one (hX _ _ h) rfl
  | fseq sz l => exact one (hX _ _ h) rfl
  | mptr id i n k off => exact one (hX _ _ h) rfl
  | sptr x off => simp only [rep] at h; obtain ⟨b, o, y, rfl, _⟩ := h; exact one rfl rfl
  | nilptr => simp only [rep] at h; exact one (by rw [h]; rfl) rfl
  | fn f a b => simp only [rep] at h; obtain ⟨a1, a2, rfl, _⟩ := h; exact one rfl rfl
  | nilfn => simp only [rep] at h; exact one (by rw [h]; rfl) rfl
  | iface t x => simp only [rep] at h; obtain ⟨y, rfl, _⟩ := h; exact one rfl rfl
  | niliface => simp only [rep] at h; exact one (by rw [h]; rfl) rfl
  | junk => exact one h rfl

theorem XX_cell {κ h} : ∀ v c, XX κ h v c → isCell c := by
  intro v c hx
  cases v <;> simp only [XX] at hx <;> first | exact hx.1 | exact hx.elim

theorem NX_cell : ∀ v c, NX v c → isCell c := fun _ _ h => h.elim

theorem mkc_rep {M : Mem} {X : V → Value → Prop} {agg : Bool} {us : List V} {v : V} (h : mkc agg us = some v) {cs : List Value} (hr : repAll M X us cs) (hc : ∀ u ∈ cs, isCell u) :
    (agg = true ∧ rep M X v (.agg cs.toArray)) ∨ (agg = false ∧ ∃ c, cs = [c] ∧ rep M X v c) := by
  cases agg with
  | true =>
    simp only [mkc, Option.some.injEq] at h
    subst h
    exact .inl ⟨rfl, by simp only [rep]; exact ⟨cs.toArray, rfl, hr, hc⟩⟩
  | false =>
    match us, h with
    | [u], h =>
      simp only [mkc, Option.some.injEq] at h
      subst h
      simp only [repAll] at hr
      obtain ⟨c, cs', rfl, h1, h2⟩ := hr
      exact .inr ⟨rfl, c, by rw [h2], h1⟩

theorem cut_rep {M : Mem} {X : V → Value → Prop} {cs us : List V} {off n : Nat} (h : cut cs off n = some us) {ds : List Value} (hr : repAll M X cs ds) (hc : ∀ u ∈ ds, isCell u) :
    off + n ≤ ds.length ∧ repAll M X us ((ds.drop off).take n) ∧ (∀ u ∈ (ds.drop off).take n, isCell u) ∧ ((ds.drop off).take n).length = n := by
  unfold cut at h
  split at h
  · rename_i hle
    cases h
    have hl := repAll_length hr
    refine ⟨by omega, repAll_take n (repAll_drop off hr), fun u hu => hc u (List.mem_of_mem_drop (List.mem_of_mem_take hu)), by simp; omega⟩
  · cases h

theorem splice_rep {M : Mem} {X : V → Value → Prop} {cs us cs' : List V} {off : Nat} (h : splice cs off us = some cs') {ds es : List Value} (hr : repAll M X cs ds) (hu : repAll M X us es) :
    off + es.length ≤ ds.length ∧ repAll M X cs' (ds.take off ++ es ++ ds.drop (off + es.length)) := by
  unfold splice at h
  split at h
  · rename_i hle
    cases h
    have hl := repAll_length hr
    have hl' := repAll_length hu
    refine ⟨by omega, ?_⟩
    rw [hl']
    exact repAll_append (repAll_append (repAll_take off hr) hu) (repAll_drop _ hr)
  · cases h

section
variable {N : Nat} {M0 : Mem} {B : Bas} {w0 : World} {κ : Kap} {M : Mem} {σ : St} {a : Act} {w : World}

/-- A value of the abstract machine goes into a register. -/
theorem Rel.put (H : Rel N M0 B w0 κ M σ a w) {d : Nat} (hd : d < N ∧ d ∉ B.ps) {v : V} {c : Value} (hv : rep M (XX κ σ.h) v c) : Rel N M0 B w0 κ M (σ.put (some d) v) (a.put (some d) c) w := by
  refine { dfr := H.dfr, pin := fun i hi => by rw [← H.pin i hi]; simp only [Act.put]; rw [Array.getElem?_setIfInBounds_ne (fun e => hd.2 (by rw [e]; exact hi))], size := by simpa [Act.put] using H.size, regs := ?_, heap := H.heap, inj := H.inj, snd := H.snd, sep := H.sep, sub := H.sub, new := H.new, base := H.base, blw := H.blw }
  intro t u ht
  simp only [St.put, lk] at ht
  split at ht
  · rename_i he
    subst he
    cases ht
    exact ⟨hd.1, c, by simp [Act.put, H.size, hd.1], hv⟩
  · rename_i he
    obtain ⟨h1, c', h2, h3⟩ := H.regs t u ht
    exact ⟨h1, c', by simp [Act.put, Array.getElem?_setIfInBounds, he, h2], h3⟩

theorem Rel.put' (H : Rel N M0 B w0 κ M σ a w) {d : Option Nat} (hd : ∀ t, d = some t → t < N ∧ t ∉ B.ps) {v : V} {c : Value} (hv : rep M (XX κ σ.h) v c) : Rel N M0 B w0 κ M (σ.put d v) (a.put d c) w := by
  cases d with
  | none => exact H
  | some t => exact H.put (hd t rfl) hv

theorem Rel.undef (H : Rel N M0 B w0 κ M σ a w) {d : Option Nat} (hd : ∀ t, d = some t → t < N ∧ t ∉ B.ps) : Rel N M0 B w0 κ M (σ.put d (.tup [])) (a.put d undef) w :=
  H.put' hd (by simp only [rep]; exact ⟨#[], rfl, by simp [repAll]⟩)

/-- Registers are forgotten. -/
theorem Rel.forget (H : Rel N M0 B w0 κ M σ a w) (r : List (Nat × V)) (hr : ∀ t v, lk r t = some v → lk σ.r t = some v) : Rel N M0 B w0 κ M { σ with r := r } a w :=
  { dfr := H.dfr, pin := H.pin, size := H.size, regs := fun t v ht => H.regs t v (hr t v ht), heap := H.heap, inj := H.inj, snd := H.snd, sep := H.sep, sub := H.sub, new := H.new, base := H.base, blw := H.blw }

theorem lk_pk {r : List (Nat × V)} : ∀ {ks : List Nat} {t : Nat} {v : V}, lk (pk r ks) t = some v → lk r t = some v
  | [], _, _, h => by simp [pk, lk] at h
  | k :: ks, t, v, h => by
    simp only [pk] at h
    split at h
    · rename_i u hu
      simp only [lk] at h
      split at h
      · rename_i he; subst he; rw [hu]; exact h
      · exact lk_pk h
    · exact lk_pk h

theorem lk_append {r s : List (Nat × V)} {t : Nat} : lk (r ++ s) t = match lk r t with | some v => some v | none => lk s t := by
  induction r with
  | nil => simp [lk]
  | cons p r ih =>
    obtain ⟨k, v⟩ := p
    simp only [List.cons_append, lk]
    split
    · simp
    · exact ih

theorem lk_drp {r : List (Nat × V)} {ks : List Nat} {t : Nat} : lk (drp r ks) t = if memb t ks = true then none else lk r t := by
  induction r with
  | nil => simp [drp, lk]
  | cons p r ih =>
    obtain ⟨k, v⟩ := p
    simp only [drp]
    by_cases hk : memb k ks = true
    · simp only [hk, if_true, ih, lk]
      by_cases ht : k = t
      · subst ht; simp [hk]
      · simp [ht]
    · rw [if_neg hk]
      simp only [lk, ih]
      by_cases ht : k = t
      · subst ht; simp [hk]
      · simp [ht]
theorem memb_iff {n : Nat} : ∀ {ks : List Nat}, memb n ks = true ↔ n ∈ ks
  | [] => by simp [memb]
  | k :: ks => by
    simp only [memb]
    split
    · rename_i h; simp [h]
    · rename_i h; rw [memb_iff]; simp [h]

theorem Rel.ev (H : Rel N M0 B w0 κ M σ a w) {t : Nat} {v : V} (h : lk σ.r t = some v) : rep M (XX κ σ.h) v (a.eval (.tmp t)) := by
  obtain ⟨_, c, h1, h2⟩ := H.regs t v h
  simpa [Act.eval, h1] using h2

theorem Rel.box (H : Rel N M0 B w0 κ M σ a w) {id : Nat} {cs : List V} (h : σ.box? id = some cs) : σ.h[id]? = some (some (.box cs)) := by
  unfold St.box? at h
  split at h <;> simp_all
theorem box?_eq {σ : St} {id : Nat} {cs : List V} (h : σ.box? id = some cs) : σ.h[id]? = some (some (.box cs)) := by
  unfold St.box? at h
  split at h <;> simp_all
theorem arr?_eq {σ : St} {id : Nat} {x : Nat × Nat × List V} (h : σ.arr? id = some x) : σ.h[id]? = some (some (.arr x.1 x.2.1 x.2.2)) := by
  unfold St.arr? at h
  split at h
  · cases h; assumption
  · cases h

theorem repRow_length {sz : Nat} : ∀ {l : List V} {xs : List Value}, repRow M sz l xs → xs.length = l.length * sz
  | [], _, h => by simp only [repRow] at h; simp [h]
  | v :: vs, xs, h => by
    simp only [repRow] at h
    obtain ⟨y, rest, rfl, _, h2, _, h3⟩ := h
    have := repRow_length h3
    simp only [List.length_append, Array.length_toList, h2, this, List.length_cons, Nat.add_mul, Nat.one_mul]
    omega

theorem repRow_get {sz : Nat} : ∀ {l : List V} {xs : List Value}, repRow M sz l xs → ∀ {i : Nat} {v : V}, l[i]? = some v →
    ∃ y, rep M NX v y ∧ y.cells.size = sz ∧ (∀ u ∈ y.cells.toList, isCell u) ∧ ∀ j, j < sz → xs[i * sz + j]? = y.cells[j]?
  | [], _, h, i, v, hi => by simp at hi
  | v :: vs, xs, h, i, u, hi => by
    simp only [repRow] at h
    obtain ⟨y, rest, rfl, h1, h2, h2', h3⟩ := h
    cases i with
    | zero =>
      simp at hi
      subst hi
      refine ⟨y, h1, h2, h2', fun j hj => ?_⟩
      rw [List.getElem?_append_left (by simp; omega)]
      simp
    | succ i =>
      simp at hi
      obtain ⟨y', g1, g2, g2', g3⟩ := repRow_get h3 hi
      refine ⟨y', g1, g2, g2', fun j hj => ?_⟩
      rw [List.getElem?_append_right (by simp [Nat.add_mul, h2]; omega), ← g3 j hj]
      congr 1
      simp [Nat.add_mul, h2]
      omega

theorem repMem_get {sz : Nat} : ∀ {l : List V} {b off : Nat}, repMem M sz l b off → ∀ {i : Nat} {v : V}, l[i]? = some v →
    ∃ y, rep M NX v y ∧ y.cells.size = sz ∧ (∀ u ∈ y.cells.toList, isCell u) ∧ ∀ j, j < sz → M ⟨b, off + i * sz + j, none⟩ = y.cells[j]?
  | [], _, _, _, i, v, hi => by simp at hi
  | v :: vs, b, off, h, i, u, hi => by
    simp only [repMem] at h
    obtain ⟨⟨y, h1, h2, h2', h3⟩, h4⟩ := h
    cases i with
    | zero =>
      simp at hi
      subst hi
      exact ⟨y, h1, h2, h2', fun j hj => by simpa using h3 j hj⟩
    | succ i =>
      simp at hi
      obtain ⟨y', g1, g2, g2', g3⟩ := repMem_get h4 hi
      refine ⟨y', g1, g2, g2', fun j hj => ?_⟩
      rw [← g3 j hj]
      congr 2
      simp only [Nat.add_mul]; omega

theorem rep_cells_size {X : V → Value → Prop} {v : V} {c : Value} (h : rep M X v c) (hX : ∀ v c, X v c → isCell c) (hv : ∀ vs, v ≠ .tup vs) : c.cells.size = (cl v).length := by
  have := repAll_length (rep_cellsC h hX hv).1
  simpa using this

theorem mp?_eq {σ : St} {id : Nat} {x : KT × List (V × V)} (h : σ.mp? id = some x) : σ.h[id]? = some (some (.mp x.1 x.2)) := by
  unfold St.mp? at h
  split at h
  · cases h; assumption
  · cases h
theorem rws?_eq {σ : St} {id : Nat} {x : Nat × Nat × Nat × List (Option (List V))} (h : σ.rws? id = some x) : σ.h[id]? = some (some (.mat x.1 x.2.1 x.2.2.1 x.2.2.2)) := by
  unfold St.rws? at h
  split at h
  · cases h; assumption
  · cases h
theorem rowAt_lt {rows : List (Option (List V))} {i : Nat} {r : List V} (h : rowAt rows i = some r) : rows[i]? = some (some r) ∧ i < rows.length := by
  unfold rowAt at h
  split at h
  · rename_i r' hr
    cases h
    exact ⟨hr, (List.getElem?_eq_some_iff.1 hr).1⟩
  · cases h
/-- A place in a row. -/
theorem row_fetch {e sz : Nat} {val : Value} {l : List V} {xs : List Value} (ho : w.ownsRow 0 e sz val l.length xs) (hrow : repRow M sz l xs) {b cap m : Nat} (g1 : val = .slice (some ⟨b, 0, none⟩) m cap) {i : Nat} {v : V} (hv : l[i]? = some v)
    {off n : Nat} {us : List V} (h : cut (cl v) off n = some us) {X : V → Value → Prop} :
    ∃ cs : List Value, repAll M X us cs ∧ (∀ u ∈ cs, isCell u) ∧ cs.length = n ∧ ∀ j u, cs[j]? = some u → w.cell? ((⟨b, i * sz + off, none⟩ : Addr).add j) = some u := by
  have hi : i < l.length := (List.getElem?_eq_some_iff.1 hv).1
  obtain ⟨y, k1, k2, k2', k3⟩ := repRow_get hrow hv
  have hnt : ∀ vs, v ≠ .tup vs := by
    rintro vs rfl
    simp only [rep] at k1
    obtain ⟨arr, rfl, _⟩ := k1
    have := k2' (.tuple arr) (by simp [Value.cells])
    simp [isCell, Value.oneCell'] at this
  have kc := rep_cellsC k1 NX_cell hnt
  obtain ⟨c1, c2, c3, c4⟩ := cut_rep h kc.1 kc.2
  refine ⟨_, repAll_mono (fun _ _ h => h) (fun _ _ h => h.elim) _ _ c2, c3, c4, fun j u hj => ?_⟩
  have hjn : j < n := by
    have := (List.getElem?_eq_some_iff.1 hj).1
    rw [c4] at this; exact this
  rw [List.getElem?_take, if_pos hjn, List.getElem?_drop] at hj
  have hj' : y.cells[off + j]? = some u := by simpa using hj
  have hlt : off + j < sz := by rw [← k2]; exact (Array.getElem?_eq_some_iff.1 hj').1
  have hx := k3 (off + j) hlt
  rw [hj'] at hx
  have := ho.cells (g := b) (by rw [g1]; rfl) (i * sz + (off + j)) u hx
  rw [Addr.add_lit] at this ⊢
  rw [← this]; congr 2; omega
/-- What an address leads to. -/
theorem fetch_sound (H : Rel N M0 B w0 κ M σ a w) {p : V} {c : Value} (hp : rep M (XX κ σ.h) p c) {n : Nat} {us : List V} (h : σ.fetch p n = some us) :
    ∃ (b o : Nat) (cs : List Value), c = .pointer (some ⟨b, o, none⟩) ∧ repAll M (XX κ σ.h) us cs ∧ (∀ u ∈ cs, isCell u) ∧ cs.length = n ∧ ∀ j v, cs[j]? = some v → w.cell? ((⟨b, o, none⟩ : Addr).add j) = some v := by
  cases p <;> simp only [St.fetch] at h <;> try (cases h; done)
  case ptr id off =>
    split at h
    · rename_i cs hcs
      have hb := box?_eq hcs
      obtain ⟨b, arr, T, h1, h2, h3, h4, h5, _⟩ := H.heap id _ hb
      simp only [rep, XX] at hp
      obtain ⟨b', g1, g2⟩ := hp.2.2 cs hb
      rw [h1] at g1
      cases g1
      obtain ⟨k1, k2, k3, k4⟩ := cut_rep h h4 h5
      refine ⟨b, off, _, g2, k2, k3, k4, fun j v hj => ?_⟩
      rw [Addr.add_lit, cell_of_row w b _ arr T (0, 0) h3]
      rw [List.getElem?_take] at hj
      split at hj
      · rw [List.getElem?_drop] at hj; simpa using hj
      · cases hj
    · cases h
  case eptr id m i off =>
    split at h
    · rename_i e sz l hl
      have ha := arr?_eq hl
      simp only at ha
      obtain ⟨hsz, hlen, xs, ho, hrow, _⟩ := H.heap id _ ha
      split at h
      · rename_i hm
        split at h
        · rename_i v hv
          have hi : i < l.length := (List.getElem?_eq_some_iff.1 hv).1
          simp only [rep, XX] at hp
          obtain ⟨b, cap, g1, g2⟩ := (hp.2.2.1 e sz l ha).2 hm (by omega)
          obtain ⟨cs, k1, k2, k3, k4⟩ := row_fetch ho hrow g1 hv h (X := XX κ σ.h)
          exact ⟨b, i * sz + off, cs, g2, k1, k2, k3, k4⟩
        · cases h
      · cases h
    · split at h
      · rename_i e e2 sz rows hr
        have hr' := rws?_eq hr
        simp only at hr'
        split at h
        · rename_i hc
          obtain ⟨hm, rfl, rfl⟩ := hc
          split at h
          · rename_i r hrow
            cases h
            obtain ⟨h1, h2, ⟨xs, ho, hcx, hxs⟩, _⟩ := H.heap id _ hr'
            have hlt := rowAt_lt hrow
            simp only [rep, XX] at hp
            obtain ⟨b, cap, g1, g2⟩ := (hp.2.2.2 e e2 sz rows hr').2 hm (by omega)
            refine ⟨b, i + 0, [κ.row id i], g2, ?_, ?_, rfl, fun j v hj => ?_⟩
            · simp only [repAll, rep, XX]
              refine ⟨_, [], rfl, ⟨hcx _ (List.mem_of_getElem? (hxs i r hrow)), (List.getElem?_eq_some_iff.1 hr').1, fun e' e2' sz' rows' h' r' hr2 => ?_⟩, rfl⟩
              rw [hr'] at h'
              cases h'
              rw [hrow] at hr2
              cases hr2
              exact ⟨Nat.le_refl _, fun _ => rfl⟩
            · intro u hu
              simp only [List.mem_singleton] at hu
              subst hu
              exact hcx _ (List.mem_of_getElem? (hxs i r hrow))
            · have hj0 : j = 0 := by
                have := (List.getElem?_eq_some_iff.1 hj).1
                simpa using this
              subst hj0
              simp at hj
              subst hj
              have := ho.cells (g := b) (by rw [g1]; rfl) i _ (hxs i r hrow)
              rw [Addr.add_lit] at this ⊢
              rw [← this]; congr 2; omega
          · cases h
        · cases h
      · cases h
  case mptr id i m k off =>
    split at h
    · rename_i e e2 sz rows hr
      have hr' := rws?_eq hr
      simp only at hr'
      split at h
      · rename_i r hrow
        split at h
        · rename_i hm
          split at h
          · rename_i v hv
            have hk : k < r.length := (List.getElem?_eq_some_iff.1 hv).1
            obtain ⟨h1, h2, _, h3, _⟩ := H.heap id _ hr'
            obtain ⟨hrl, ys, ho, hys⟩ := h3 i r hrow
            simp only [rep, XX] at hp
            obtain ⟨b, cap, g1, g2⟩ := (hp.2.2 e e2 sz rows hr' r hrow).2 hm (by omega)
            obtain ⟨cs, k1, k2, k3, k4⟩ := row_fetch ho hys g1 hv h (X := XX κ σ.h)
            exact ⟨b, k * sz + off, cs, g2, k1, k2, k3, k4⟩
          · cases h
        · cases h
      · cases h
    · cases h
  case sptr x off =>
    simp only [rep] at hp
    obtain ⟨b, o, y, rfl, h2, h2', h3⟩ := hp
    have hnt : ∀ vs, x = .tup vs → False := by
      rintro vs rfl
      simp only [rep] at h2
      obtain ⟨arr, rfl, _⟩ := h2
      have := h2' (.tuple arr) (by simp [Value.cells])
      simp [isCell, Value.oneCell'] at this
    have kc := rep_cellsC h2 NX_cell (fun vs h => hnt vs h)
    obtain ⟨c1, c2, c3, c4⟩ := cut_rep h kc.1 kc.2
    refine ⟨b, o + off, _, rfl, repAll_mono (fun _ _ h => h) (fun _ _ h => h.elim) _ _ c2, c3, c4, fun j u hj => ?_⟩
    have hjn : j < n := by
      have := (List.getElem?_eq_some_iff.1 hj).1
      rw [c4] at this; exact this
    rw [List.getElem?_take, if_pos hjn, List.getElem?_drop] at hj
    have hj' : y.cells[off + j]? = some u := by simpa using hj
    have hlt : off + j < y.cells.size := (Array.getElem?_eq_some_iff.1 hj').1
    have hx := h3 (off + j) hlt
    rw [hj'] at hx
    have := H.snd _ _ hx
    rw [Addr.add_lit, ← this]; congr 2; omega
end
end Go.Abs
