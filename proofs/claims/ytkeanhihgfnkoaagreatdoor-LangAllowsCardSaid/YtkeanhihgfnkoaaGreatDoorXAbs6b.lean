/-
  The abstract machine's numbers for what is the call's own, numbered anew; contracts of calls that turn what is lent to them. No condition.
  From the model's operations to those of the abstract machine: each operation, whatever it turns. No condition.
  From the model's operations to those of the abstract machine: what holds behind an operation's image holds behind the operation. No condition.
  What is handed over to others: the operation, its image; operations in a frame of a round. No condition.
  From the model's code to that of the abstract machine: what 'W' says of the image holds of the code. No condition.
-/
import Derived.Test.YtkeanhihgfnkoaaGreatDoorXAbs1
import Derived.Laws.IdiomStrings
import Derived.OrdersIn
import Derived.TacticsIn
set_option linter.unusedVariables false
set_option linter.unusedSimpArgs false
set_option linter.unusedSectionVars false
section
namespace Go.Abs
open Go.RowKit
section
variable {P : Program} {N : Nat} {M0 : Mem} {B : Bas} {w0 : World} {κ : Kap} {M : Mem} {σ : St} {a : Act} {w w' : World}
theorem uniq_nodup : ∀ (l acc : List Nat), acc.Nodup → (uniq acc l).Nodup
 | [], acc, h => h
 | k :: ks, acc, h => by
   simp only [uniq]
   split
   · exact uniq_nodup ks acc h
   · rename_i hk
     refine uniq_nodup ks _ ?_
     rw [List.nodup_append]
     exact ⟨h, by simp, fun x hx y hy => by simp at hy; subst hy; rintro rfl; exact hk (memb_iff.2 hx)⟩

theorem idx_some {id : Nat} : ∀ {m : List Nat} {j : Nat}, idx id m = some j → m[j]? = some id
 | [], j, h => by simp [idx] at h
 | k :: ks, j, h => by
   simp only [idx] at h
   split at h
   · rename_i he; cases h; simp [he]
   · obtain ⟨j', h1, rfl⟩ := Option.map_eq_some_iff.1 h
     simpa using idx_some h1

theorem lk_renR {m : List Nat} : ∀ {r : List (Nat × V)} {t : Nat} {v : V}, lk (renR m r) t = some v → ∃ u, lk r t = some u ∧ v = ren m u
 | [], t, v, h => by simp [renR, lk] at h
 | (k, u) :: r, t, v, h => by
   simp only [renR, lk] at h ⊢
   split at h
   · rename_i he; rw [if_pos he]; cases h; exact ⟨u, rfl, rfl⟩
   · rename_i he; rw [if_neg he]; exact lk_renR h

theorem renH_get {h : List (Option Ob)} {m : List Nat} : ∀ {ids : List Nat} {j : Nat} {ob : Ob}, (renH h m ids)[j]? = some (some ob) → ∃ id ob', ids[j]? = some id ∧ h[id]? = some (some ob') ∧ renO m (some ob') = some ob
 | [], j, ob, hj => by simp [renH] at hj
 | id :: ids, 0, ob, hj => by
   simp only [renH, List.getElem?_cons_zero, Option.some.injEq] at hj
   cases hg : h[id]? with
   | none => simp [List.getD, hg, renO] at hj
   | some o =>
     cases o with
     | none => simp [List.getD, hg, renO] at hj
     | some ob' => exact ⟨id, ob', by simp, hg, by simpa [List.getD, hg] using hj⟩
 | id :: ids, j + 1, ob, hj => by
   simp only [renH, List.getElem?_cons_succ] at hj ⊢
   exact renH_get hj
theorem renH_length {h : List (Option Ob)} {m : List Nat} : ∀ {ids : List Nat}, (renH h m ids).length = ids.length
 | [] => rfl
 | id :: ids => by simp [renH, renH_length]

mutual
theorem ren_rep {m : List Nat} {X X' : V → Value → Prop} (hX : ∀ v c, X v c → rep M X' (ren m v) c) : ∀ {v : V} {c : Value}, rep M X v c → rep M X' (ren m v) c
 | .int _ _, _, h => h
 | .bool _, _, h => h
 | .str _, _, h => h
 | .nil _, _, h => h
 | .seq _ _, _, h => h
 | .sptr _ _, _, h => h
 | .nilptr, _, h => h
 | .nilfn, _, h => h
 | .niliface, _, h => h
 | .junk, _, h => h
 | .ref _ _, _, h => hX _ _ h
 | .ptr _ _, _, h => hX _ _ h
 | .eptr _ _ _ _, _, h => hX _ _ h
 | .mref _ _ _, _, h => hX _ _ h
 | .fseq _ _, _, h => hX _ _ h
 | .mptr _ _ _ _ _, _, h => hX _ _ h
 | .strct cs, c, h => by
   simp only [rep, ren] at h ⊢
   obtain ⟨arr, h1, h2, h3⟩ := h
   exact ⟨arr, h1, rens_rep hX h2, h3⟩
 | .tup cs, c, h => by
   simp only [rep, ren] at h ⊢
   obtain ⟨arr, h1, h2⟩ := h
   exact ⟨arr, h1, rens_rep hX h2⟩
 | .fn f x y, c, h => by
   simp only [rep, ren] at h ⊢
   obtain ⟨a1, a2, h1, h2, h3⟩ := h
   exact ⟨a1, a2, h1, rens_rep hX h2, rens_rep hX h3⟩
 | .iface t x, c, h => by
   simp only [rep, ren] at h ⊢
   obtain ⟨y, h1, h2⟩ := h
   exact ⟨y, h1, ren_rep hX h2⟩
theorem rens_rep {m : List Nat} {X X' : V → Value → Prop} (hX : ∀ v c, X v c → rep M X' (ren m v) c) : ∀ {vs : List V} {cs : List Value}, repAll M X vs cs → repAll M X' (rens m vs) cs
 | [], _, h => h
 | v :: vs, cs, h => by
   simp only [repAll, rens] at h ⊢
   obtain ⟨c, cs', h1, h2, h3⟩ := h
   exact ⟨c, cs', h1, ren_rep hX h2, rens_rep hX h3⟩
end

def Kap.ren (κ : Kap) (m : List Nat) : Kap := ⟨fun j => κ (m.getD j 0), fun j => κ.row (m.getD j 0), fun j => κ.bl (m.getD j 0), κ.fm⟩
theorem renO_arr {m : List Nat} {o : Ob} {e sz : Nat} {l : List V} (h : renO m (some o) = some (.arr e sz l)) : o = .arr e sz l := by
 cases o <;> simp only [renO, Option.some.injEq] at h <;> first | exact h | cases h
theorem renO_mat {m : List Nat} {o : Ob} {e e2 sz : Nat} {l : List Rw} (h : renO m (some o) = some (.mat e e2 sz l)) : o = .mat e e2 sz l := by
 cases o <;> simp only [renO, Option.some.injEq] at h <;> first | exact h | cases h
theorem renO_box {m : List Nat} {o : Ob} {l : List V} (h : renO m (some o) = some (.box l)) : ∃ l', o = .box l' ∧ l = rens m l' := by
 cases o <;> simp only [renO, Option.some.injEq] at h
 · cases h; exact ⟨_, rfl, rfl⟩
 · cases h
 · cases h
 · cases h
 · cases h
theorem renO_nam {m : List Nat} {o o' : Ob} (h : renO m (some o) = some o') (hn : o'.nam = true) : o = o' := by
 cases o <;> simp only [renO, Option.some.injEq] at h <;> first | exact h | (subst h; cases hn)
theorem XX_ren {h : List (Option Ob)} {m : List Nat} (hm : m.Nodup) : ∀ v c, XX κ h v c → rep M (XX (κ.ren m) (renH h m m)) (ren m v) c := by
 intro v c hx
 have key : ∀ {id j : Nat}, m[j]? = some id → (κ.ren m) j = κ id ∧ (κ.ren m).row j = κ.row id := fun {id j} h => by simp [Kap.ren, List.getD, h]
 have back : ∀ {id j : Nat} {ob : Ob}, m[j]? = some id → (renH h m m)[j]? = some (some ob) → ∃ ob', h[id]? = some (some ob') ∧ renO m (some ob') = some ob := by
  intro id j ob hj hl
  obtain ⟨id', ob', h1, h2, h3⟩ := renH_get hl
  rw [hj] at h1
  cases h1
  exact ⟨ob', h2, h3⟩
 cases v <;> simp only [XX] at hx
 case ref id n =>
  simp only [ren]
  split
  · rename_i j hj
    have hmj := idx_some hj
    simp only [rep, XX]
    rw [(key hmj).1]
    refine ⟨hx.1, by rw [renH_length]; exact (List.getElem?_eq_some_iff.1 hmj).1, fun e sz l hl => ?_, fun e e2 sz l hl => ?_, fun o hl hn => ?_⟩
    · obtain ⟨ob', h2, h3⟩ := back hmj hl
      rw [renO_arr h3] at h2
      exact hx.2.2.1 e sz l h2
    · obtain ⟨ob', h2, h3⟩ := back hmj hl
      rw [renO_mat h3] at h2
      exact hx.2.2.2.1 e e2 sz l h2
    · obtain ⟨ob', h2, h3⟩ := back hmj hl
      rw [renO_nam h3 hn] at h2
      exact hx.2.2.2.2 o h2 hn
  · exact hx.1
 case ptr id off =>
  simp only [ren]
  split
  · rename_i j hj
    have hmj := idx_some hj
    simp only [rep, XX]
    rw [(key hmj).1]
    refine ⟨hx.1, by rw [renH_length]; exact (List.getElem?_eq_some_iff.1 hmj).1, fun cs hl => ?_⟩
    obtain ⟨ob', h2, h3⟩ := back hmj hl
    obtain ⟨l', rfl, rfl⟩ := renO_box h3
    exact hx.2.2 _ h2
  · exact hx.1
 case eptr id n i off =>
  simp only [ren]
  split
  · rename_i j hj
    have hmj := idx_some hj
    simp only [rep, XX]
    rw [(key hmj).1]
    refine ⟨hx.1, by rw [renH_length]; exact (List.getElem?_eq_some_iff.1 hmj).1, fun e sz l hl => ?_, fun e e2 sz l hl => ?_⟩
    · obtain ⟨ob', h2, h3⟩ := back hmj hl
      rw [renO_arr h3] at h2
      exact hx.2.2.1 e sz l h2
    · obtain ⟨ob', h2, h3⟩ := back hmj hl
      rw [renO_mat h3] at h2
      exact hx.2.2.2 e e2 sz l h2
  · exact hx.1
 case fseq sz l =>
  simp only [ren, rep, XX]; exact hx
 case mref id i n =>
  simp only [ren]
  split
  · rename_i j hj
    have hmj := idx_some hj
    simp only [rep, XX]
    rw [(key hmj).2]
    refine ⟨hx.1, by rw [renH_length]; exact (List.getElem?_eq_some_iff.1 hmj).1, fun e e2 sz l hl => ?_⟩
    obtain ⟨ob', h2, h3⟩ := back hmj hl
    rw [renO_mat h3] at h2
    exact hx.2.2 e e2 sz l h2
  · exact hx.1
 case mptr id i n k off =>
  simp only [ren]
  split
  · rename_i j hj
    have hmj := idx_some hj
    simp only [rep, XX]
    rw [(key hmj).2]
    refine ⟨hx.1, by rw [renH_length]; exact (List.getElem?_eq_some_iff.1 hmj).1, fun e e2 sz l hl => ?_⟩
    obtain ⟨ob', h2, h3⟩ := back hmj hl
    rw [renO_mat h3] at h2
    exact hx.2.2 e e2 sz l h2
  · exact hx.1

theorem Rel.ren (H : Rel N M0 B w0 κ M σ a w) {m : List Nat} (hm : m.Nodup) (r : List (Nat × V)) (hr : ∀ t v, lk r t = some v → lk σ.r t = some v) :
 Rel N M0 B w0 (κ.ren m) M { r := renR m r, h := renH σ.h m m } a w where
 dfr := H.dfr
 jst := H.jst
 pin := H.pin
 size := H.size
 regs := fun t v ht => by
  obtain ⟨u, h1, rfl⟩ := lk_renR ht
  obtain ⟨g1, c, g2, g3⟩ := H.regs t u (hr t u h1)
  exact ⟨g1, c, g2, ren_rep (XX_ren hm) g3⟩
 heap := fun j ob hj => by
  obtain ⟨id, ob', h1, h2, h3⟩ := renH_get hj
  have ho := H.heap id ob' h2
  have hk : (κ.ren m) j = κ id ∧ (κ.ren m).row j = κ.row id ∧ (κ.ren m).bl j = κ.bl id := by simp [Kap.ren, List.getD, h1]
  cases ob' with
  | box cs =>
    simp only [renO, Option.some.injEq] at h3
    subst h3
    simp only [obAt] at ho ⊢
    rw [hk.1, hk.2.2]
    obtain ⟨b, arr, T, g1, g2, g3, g4, g5⟩ := ho
    exact ⟨b, arr, T, g1, g2, g3, rens_rep (XX_ren hm) g4, g5⟩
  | arr e sz l =>
    simp only [renO, Option.some.injEq] at h3
    subst h3
    simp only [obAt] at ho ⊢
    rw [hk.1, hk.2.2]
    exact ho
  | mat e e2 sz l =>
    simp only [renO, Option.some.injEq] at h3
    subst h3
    simp only [obAt] at ho ⊢
    rw [hk.1, hk.2.1, hk.2.2]
    exact ho
  | mp kt l =>
    simp only [renO, Option.some.injEq] at h3
    subst h3
    simp only [obAt] at ho ⊢
    rw [hk.1, hk.2.2]
    exact ho
  | gh l =>
    simp only [renO, Option.some.injEq] at h3
    subst h3
    simp only [obAt] at ho ⊢
    rw [hk.1, hk.2.2]
    exact ho
 inj := fun i j oi oj g hi hj gi gj => by
  obtain ⟨i', oi', h1, h2, _⟩ := renH_get hi
  obtain ⟨j', oj', h3, h4, _⟩ := renH_get hj
  have e1 : (κ.ren m).bl i = κ.bl i' := by simp [Kap.ren, List.getD, h1]
  have e2 : (κ.ren m).bl j = κ.bl j' := by simp [Kap.ren, List.getD, h3]
  rw [e1] at gi
  rw [e2] at gj
  have := H.inj i' j' oi' oj' g h2 h4 gi gj
  subst this
  exact (List.getElem?_inj (List.getElem?_eq_some_iff.1 h1).1 hm).1 (h1.trans h3.symm)
 snd := H.snd
 sep := fun p v hp j ob hj => by
  obtain ⟨id, ob', h1, h2, _⟩ := renH_get hj
  have e1 : (κ.ren m).bl j = κ.bl id := by simp [Kap.ren, List.getD, h1]
  rw [e1]
  exact H.sep p v hp id ob' h2
 sub := H.sub
 new := H.new
 base := H.base
 blw := H.blw

end
end Go.Abs
end
section
namespace Go.Abs
open Go.RowKit

structure Snd (M : Mem) (w : World) : Prop where
 snd : ∀ p v, M p = some v → w.cell? p = some v
 gl : GLok M
structure FnE (P : Program) (f : FuncId) (us : List V) (r : V) : Prop where
 call : ∀ args w, (callFunc f args).run P w = .ok (.enter f args) w
 does : ∀ (M : Mem) (w : World) (cs : Array Value), Snd M w → repAll M NX us cs.toList →
  Calls P f cs w fun e w' => ∃ (c : Value) (M' : Mem), e = .returned c ∧ rep M' NX r c ∧ Below w.heap.size w w' ∧ (∀ p v, M' p = some v → w'.cell? p = some v) ∧
   (∀ p v, M p = some v → M' p = some v) ∧ ∀ p v, M' p = some v → M p = some v ∨ w.heap.size ≤ p.block

def Fn (P : Program) (f : FuncId) (us : List V) (r : V) : Prop :=
 ∀ (M : Mem) (w : World) (cs : Array Value), Snd M w → repAll M NX us cs.toList →
   ∀ (o : Oper) (a : Act) (Nx : Act → World → Prop) (Q : Exit → Act → World → Prop), (∀ (c : Value) (M' : Mem) (w' : World), rep M' NX r c → Below w.heap.size w w' → (∀ p v, M' p = some v → w'.cell? p = some v) →
     (∀ p v, M p = some v → M' p = some v) → (∀ p v, M' p = some v → M p = some v ∨ w.heap.size ≤ p.block) → Nx (a.put o.dst c) w') → o.upon P a Nx Q ((callFunc f cs).run P w)

theorem FnE.fn {P : Program} {f : FuncId} {us : List V} {r : V} (h : FnE P f us r) : Fn P f us r := by
 intro M w cs hM hus o a Nx Q hN
 rw [h.call, Oper.upon_enter]
 refine (h.does M w cs hM hus).mono ?_
 rintro e w' ⟨c, M', rfl, h1, h2, h3, h4, h5⟩
 exact hN c M' w' h1 h2 h3 h4 h5

/-! ### Calls that turn what is lent to them -/
structure Heap (κ : Kap) (M : Mem) (B : Bas) (w : World) (H : List (Option Ob)) : Prop where
 heap : ∀ id ob, H[id]? = some (some ob) → obAt κ M (XX κ H) B w id ob
 inj : ∀ i j oi oj g, H[i]? = some (some oi) → H[j]? = some (some oj) → κ.bl i g → κ.bl j g → i = j
 snd : ∀ p v, M p = some v → w.cell? p = some v
 sep : ∀ p v, M p = some v → ∀ id ob, H[id]? = some (some ob) → ¬ κ.bl id p.block
 fmS : ∀ p v, κ.fm p = some v → M p = some v
 gl : GLok M
 jst : JStab B
def Blks (κ : Kap) (H : List (Option Ob)) (g : Nat) : Prop := ∃ id ob, H[id]? = some (some ob) ∧ κ.bl id g
def lentB (κ : Kap) (H : List (Option Ob)) (w : World) (ps : List Nat) (cs : Array Value) (J : Nat → List (V × Bool) → (Nat → Prop) → Mem → World → Prop) : Bas := ⟨w.heap.size, Blks κ H, ps, cs, 0, J, []⟩
def FR (ρ : Option Nat) : Fence := { Fence.wide with round := ρ }
def noJ : Nat → List (V × Bool) → (Nat → Prop) → Mem → World → Prop := fun _ _ _ _ _ => False
structure EnvStep (S : Nat → Prop) (w : World) (S' : Nat → Prop) (M M' : Mem) (w' : World) : Prop where
 os : w'.os = w.os
 tape : w'.tape = w.tape
 output : w'.output = w.output
 size : w.heap.size ≤ w'.heap.size
 block : ∀ g, g < w.heap.size → ¬ S g → w'.heap[g]? = w.heap[g]?
 siz : ∀ (k : Nat) (cur : Array Value) (T : TypeId) (z : Nat × Nat), w.heap[k]? = some (Obj.cells cur T z) → ∃ (cur' : Array Value) (T' : TypeId) (z' : Nat × Nat), w'.heap[k]? = some (Obj.cells cur' T' z') ∧ cur'.size = cur.size
 mem : ∀ p v, M p = some v → M' p = some v
 snd : ∀ p v, M' p = some v → w'.cell? p = some v
 new : ∀ p v, M' p = some v → M p = some v ∨ w.heap.size ≤ p.block ∨ S p.block
 sep : ∀ p v, M' p = some v → ¬ S' p.block
 sub : ∀ g, S' g → S g ∨ w.heap.size ≤ g
 lt : ∀ g, S' g → g < w'.heap.size
def JCall (P : Program) (M0 : Mem) (B : Bas) : Prop :=
 ∀ (k : Nat) (us : List V) (b : Bool) (l : List (V × Bool)) (S : Nat → Prop) (M : Mem) (w : World) (cs : Array Value), B.J k ((.tup us, b) :: l) S M w → Snd M w → (∀ p v, M p = some v → ¬ S p.block) → (∀ p v, M p = some v → M0 p = some v ∨ B.own p.block) → repAll M NX us cs.toList →
   ∀ (o : Oper) (a : Act) (Nx : Act → World → Prop) (Q : Exit → Act → World → Prop) (ρ : Option Nat), (∀ (M' : Mem) (S' : Nat → Prop) (w' : World), B.J k l S' M' w' → EnvStep S w S' M M' w' → Nx (a.put o.dst (.bool b)) w') → o.uponIn (FR ρ) 0 P a Nx Q ((Instr.yield k cs).run P w)
def FnH (P : Program) (f : FuncId) (ps : List Nat) (us : List V) (H : List (Option Ob)) (r : V) (H' : List (Option Ob)) : Prop :=
 ∀ (M : Mem) (w : World) (κ : Kap) (cs : Array Value) (J : Nat → List (V × Bool) → (Nat → Prop) → Mem → World → Prop), JCall P M (lentB κ H w ps cs J) → Heap κ M (lentB κ H w ps cs J) w H → repAll M (XX κ H) us cs.toList →
   ∀ (o : Oper) (a : Act) (Nx : Act → World → Prop) (Q : Exit → Act → World → Prop), (∀ (c : Value) (M' : Mem) (w' : World) (κ' : Kap), rep M' (XX κ' H') r c → Und (lentB κ H w ps cs J) w w' → Heap κ' M' (lentB κ H w ps cs J) w' H' →
     (∀ p v, M p = some v → M' p = some v) → (∀ p v, M' p = some v → M p = some v ∨ (lentB κ H w ps cs J).own p.block) →
     (∀ i, i ∈ ps → ∀ u d, us[i]? = some u → cs[i]? = some d → rep M' (XX κ' H') u d) → Nx (a.put o.dst c) w') → o.upon P a Nx Q ((callFunc f cs).run P w)
def newM (w : World) (M : Mem) : Mem := fun p => if w.heap.size ≤ p.block then M p else none
def FnN (P : Program) (f : FuncId) (us : List V) (r : V) : Prop :=
 ∀ (M : Mem) (w : World) (cs : Array Value), Snd M w → repAll M NX us cs.toList →
   ∀ (o : Oper) (a : Act) (Nx : Act → World → Prop) (Q : Exit → Act → World → Prop), (∀ (c : Value) (M' : Mem) (w' : World), rep (newM w M') NX r c → Below w.heap.size w w' → (∀ p v, M' p = some v → w'.cell? p = some v) → Nx (a.put o.dst c) w') → o.upon P a Nx Q ((callFunc f cs).run P w)
theorem newM_sub {w : World} {M : Mem} {p : Addr} {v : Value} (h : newM w M p = some v) : w.heap.size ≤ p.block ∧ M p = some v := by
 unfold newM at h
 split at h
 · exact ⟨by assumption, h⟩
 · cases h
theorem FnN.fn {P : Program} {f : FuncId} {us : List V} {r : V} (h : FnN P f us r) : Fn P f us r := by
 intro M w cs hM hus o a Nx Q hN
 refine h M w cs hM hus o a Nx Q fun c M' w' h1 h2 h3 => ?_
 refine hN c (fun p => (M p).or (newM w M' p)) w' (rep_mono (fun p v hp => ?_) (fun _ _ h => h) _ _ h1) h2 (fun p v hp => ?_) (fun p v hp => ?_) (fun p v hp => ?_)
 · have := (newM_sub hp).1
   cases hm : M p with
   | none => simp [hp]
   | some u =>
     have := World.block_lt_of_cell? w p (hM.snd p u hm)
     omega
 · cases hm : M p with
   | none => simp [hm] at hp; exact h3 p v (newM_sub hp).2
   | some u =>
     simp [hm] at hp
     subst hp
     rw [h2.cell (World.block_lt_of_cell? w p (hM.snd p u hm))]
     exact hM.snd p u hm
 · simp [hp]
 · cases hm : M p with
   | none => simp [hm] at hp; exact .inr (newM_sub hp).1
   | some u => simp [hm] at hp; subst hp; exact .inl rfl
def Cn (P : Program) : Ctr := ⟨Fn P, FnN P, FnH P⟩

theorem noJ_call {P : Program} {M0 : Mem} {B : Bas} (h : B.J = noJ) : JCall P M0 B := fun _ _ _ _ _ _ _ _ hj => by rw [h] at hj; exact hj.elim
theorem noJ_stab {B : Bas} (h : B.J = noJ) : JStab B := fun k l S M M' w w' hj => by rw [h] at hj; exact hj.elim

theorem Fn.ext {P : Program} {f : FuncId} {us : List V} {r : V} {fn : Func} {e : Array Value → Sem Value} (hf : P.funcs[f]? = some fn) (hname : (fn.name == "runtime.NumGoroutine") = false) (hb : fn.body.isNone = true)
 (hn : Extern.findNext fn = none) (he : Extern.find fn = some e) (hr : ∀ (M : Mem) (w : World) (cs : Array Value), Snd M w → repAll M NX us cs.toList → ∃ c, (e cs).run P w = .ok c w ∧ rep M NX r c) : Fn P f us r := by
 intro M w cs hM hus o a Nx Q hN
 obtain ⟨c, h1, h2⟩ := hr M w cs hM hus
 rw [run_callFunc_extern hf hname hb hn he, h1]
 exact hN c M w h2 (Below.refl _ _) hM.snd (fun _ _ h => h) (fun _ _ h => .inl h)

def invF (P : Program) (name : String) (t : TypeId) : Option (Nat × FuncId) :=
 match P.info? t with
 | some i => match i.methods.find? (·.name == name) with
   | some m => match m.path.toList, m.func, P.underlying t with
     | [], some (f, false), some (.pointer _) => none
     | [], some (f, true), some (.pointer _) => some (t, f)
     | [], some (f, false), some _ => some (t, f)
     | _, _, _ => none
   | none => none
 | none => none
def invT (P : Program) (name : String) : List (Nat × FuncId) := (List.range P.types.size).filterMap (invF P name)
inductive LE (P : Program) : TypeId → Op → Act' → Prop
 | alloc {ty e i z v} : P.info? e = some i → i.zero = some z → cV P e z = some v → nt v = true → LE P ty (.alloc e) (.alc (cl v))
 | box {ty e x y} : cO P e x = some y → LE P ty (.box e x) (.box y)
 | store {ty t p x p' x' n} : cO P 0 p = some p' → cO P t x = some x' → szOf P t = some n → LE P ty (.store t p x) (.st n p' x')
 | s2b {ty s d x y e} : cO P s x = some y → P.underlying s = some .string → P.underlying d = some (.slice e) → P.underlying e = some (.int .u8) → LE P ty (.convert s d x) (.s2b y)
 | lit {ty t len parts xs e n i z} : P.underlying t = some (.slice e) → P.info? e = some i → i.size = n → 0 < n → i.zero = some z → z.cells.size = n → len * n ≤ 16777216 → parts.toList.map (·.1) = List.range len →
    cOs P (List.replicate len e) (parts.toList.map (·.2)) = some xs → LE P ty (.buildSlice t len parts) (.lit e n xs)
 | ltr {ty t len parts xs e n i z} : P.underlying t = some (.slice e) → P.info? e = some i → i.size = n → 0 < n → i.zero = some z → z.cells.size = n → len * n ≤ 16777216 → parts.toList.map (·.1) = List.range len →
    cOs P (List.replicate len e) (parts.toList.map (·.2)) = some xs → LE P ty (.buildSlice t len parts) (.ltr e n xs)
 | app {ty t x y x' y' e i z n by'} : P.underlying t = some (.slice e) → P.info? e = some i → i.zero = some z → i.size = n → i.bytes = by' → 0 < by' → z.cells.size = n → 0 < n → cO P t x = some x' → cO P t y = some y' →
    LE P ty (.call { callee := .builtin .append, args := #[x, y], argTypes := #[t, t] }) (.app x' y' e n by')
 | mk0 {ty t k l l' e i z n by'} : P.underlying t = some (.slice e) → P.info? e = some i → i.zero = some z → i.size = n → i.bytes = by' → 0 < by' → 0 < n → cO P 0 l = some l' →
    LE P ty (.makeSlice t (.const (.int k 0)) l) (.mk0 e n by' l')
 | mkm {ty t l l' e i n by' e2 i2} : P.underlying t = some (.slice e) → P.info? e = some i → i.zero = some (.slice none 0 0) → i.size = 1 → i.bytes = by' → 0 < by' → P.underlying e = some (.slice e2) → P.info? e2 = some i2 → i2.size = n → 0 < n → cO P 0 l = some l' →
    LE P ty (.makeSlice t l l) (.mkm e by' e2 n l')
 | mks {ty t l l' e i z v v' n by'} : P.underlying t = some (.slice e) → P.info? e = some i → i.zero = some z → cV P e z = some v → nt v = true → pur [] v = some v' → i.size = n → i.bytes = by' → 0 < by' → 0 < n → cO P 0 l = some l' →
    z.cells.size = n → LE P ty (.makeSlice t l l) (.mks e n by' v' l')
 | call {ty f args ts xs} : cOs P ts.toList args.toList = some xs → LE P ty (.call { callee := .value (.func f), args := args, argTypes := ts }) (.call f xs)
 | callH {ty f args ts xs} : cOs P ts.toList args.toList = some xs → LE P ty (.call { callee := .value (.func f), args := args, argTypes := ts }) (.callH f xs)
 | b2s {ty s d x u e} : cO P s x = some u → P.underlying s = some (.slice e) → P.underlying e = some (.int .u8) → P.underlying d = some .string → LE P ty (.convert s d x) (.b2s u)
 | mkp {ty t K E kt} : P.underlying t = some (.map K E) → ktT P K = some kt → LE P ty (.makeMap t none) (.mkp kt)
 | mup {ty t K E x k v u b c kt} : P.underlying t = some (.map K E) → ktT P K = some kt → cO P t x = some u → cO P K k = some b → cO P E v = some c → LE P ty (.mapUpdate t x k v) (.mup kt u b c)
 | mui {ty t K E x k v u b c kt} : P.underlying t = some (.map K E) → ktT P K = some kt → cO P t x = some u → cO P K k = some b → cO P E v = some c → LE P ty (.insert t x k v) (.mup kt u b c)
 | inv {ty r x name args ts xs tbl} : cO P 0 r = some x → invT P name = tbl → cOs P ts.toList args.toList = some xs → LE P ty (.call { callee := .invoke r name, args := args, argTypes := ts }) (.inv tbl x xs)
 | trc {ty t x hi u hi' e n} : cO P t x = some u → cO P 0 hi = some hi' → P.underlying t = some (.slice e) → szOf P e = some n → LE P ty (.slice t x none (some hi) none) (.trc u hi' n)
 | yld {ty g args ts xs} : cOs P ts.toList args.toList = some xs → LE P ty (.call { callee := .value (.tmp g), args := args, argTypes := ts }) (.yld (.t g) xs)
 | callv {ty g args ts xs} : cOs P ts.toList args.toList = some xs → LE P ty (.call { callee := .value (.tmp g), args := args, argTypes := ts }) (.callv (.t g) xs)

section
variable {P : Program} {N : Nat} {M0 : Mem} {B : Bas} {w0 : World} {κ : Kap} {M : Mem} {σ : St} {a : Act} {w w' : World}

theorem below_alloc (w : World) (o : Obj) : Below w.heap.size w (w.alloc o) := (Below.refl _ _).alloc (Nat.le_refl _) _

theorem lk_kill (ids : List Nat) (σ : St) : (σ.kill ids).r = σ.r := (kill_h ids σ).1

theorem call_sound (H : Rel N M0 B w0 κ M σ a w) {d : Option Nat} (hd : ∀ t, d = some t → t < N ∧ t ∉ B.ps) {f : FuncId} {vs us : List V} {K : St → Prop} (hW : wcall (Cn P) d f vs us K σ) (hp : purs σ.h vs = some us)
 {cs : Array Value} (hcs : repAll M (XX κ σ.h) vs cs.toList) {Nx : Act → World → Prop} (hK : ∀ κ' M' σ' a' w', K σ' → Rel N M0 B w0 κ' M' σ' a' w' → Nx a' w') {Q : Exit → Act → World → Prop} (o : Oper) (ho : o.dst = d) :
 o.upon P a Nx Q ((callFunc f cs).run P w) := by
 subst ho
 obtain ⟨r, ⟨(⟨hr, hf | hf⟩ | hr), hk⟩ | ⟨hr, hk⟩ | ⟨hr, hk⟩⟩ := hW
 · refine hr w.cell? w cs ⟨fun _ _ h => h, (H.sub.gl.mono H.sub.sub).mono H.snd⟩ (purs_rep H H.snd (fun _ _ _ _ _ _ => rfl) hcs hp) o a Nx Q ?_
   intro c M' w' h1 h2 h3 h4 h5
   have H' := H.grow0 h2
   exact hK _ _ _ _ _ (hk (rep_ok h1)) (H'.put' hd (rep_flat hf h1))
 · refine hr M w cs ⟨H.snd, H.sub.gl.mono H.sub.sub⟩ ?_ o a Nx Q ?_
   · refine purs_rep H (fun _ _ h => h) (fun id hid => ?_) hcs hp
     rw [hf] at hid
     cases hid
   · intro c M' w' h1 h2 h3 h4 h5
     have H' := H.grow h2 h4 h3 h5
     exact hK _ _ _ _ _ (hk (rep_ok h1)) (H'.put' hd (rep_of_pure h1))
 · refine hr w.cell? w cs ⟨fun _ _ h => h, (H.sub.gl.mono H.sub.sub).mono H.snd⟩ (purs_rep H H.snd (fun _ _ _ _ _ _ => rfl) hcs hp) o a Nx Q ?_
   intro c M' w' h1 h2 h3
   have hsub : ∀ p v, newM w M' p = some v → w.heap.size ≤ p.block ∧ M' p = some v := fun p v h => newM_sub h
   have H' : Rel N M0 B w0 κ (fun p => (M p).or (newM w M' p)) σ a w' := by
    refine H.grow h2 (fun p v hp => by simp [hp]) (fun p v hp => ?_) (fun p v hp => ?_)
    · cases hm : M p with
      | none => simp [hm] at hp; exact h3 p v (hsub p v hp).2
      | some u =>
        simp [hm] at hp
        subst hp
        rw [h2.cell (H.mem_lt hm)]
        exact H.snd p u hm
    · cases hm : M p with
      | none => simp [hm] at hp; exact .inr (hsub p v hp).1
      | some u => simp [hm] at hp; subst hp; exact .inl rfl
   refine hK _ _ _ _ _ (hk (rep_ok h1)) (H'.put' hd (rep_of_pure (rep_mono (fun p v hp => ?_) (fun _ _ h => h) _ _ h1)))
   have := (hsub p v hp).1
   cases hm : M p with
   | none => simp [hp]
   | some u => have := H.mem_lt hm; omega
 · obtain ⟨H1, hM1⟩ := H.kill (vidss vs) (purs_in hp)
   refine hr (ext M w (blks κ (vidss vs))) w cs ⟨H1.snd, H1.sub.gl.mono H1.sub.sub⟩ ?_ o a Nx Q ?_
   · refine purs_rep H hM1 (fun id hid g hg p hpb => ?_) hcs hp
     unfold ext
     rw [if_pos (mem_blks.2 ⟨id, hid, by rw [hpb]; exact hg⟩)]
   · intro c M' w' h1 h2 h3 h4 h5
     have H' := H1.grow h2 h4 h3 h5
     exact hK _ _ _ _ _ (hk (rep_ok h1)) (H'.put' hd (rep_of_pure h1))
 · refine hr w.cell? w cs ⟨fun _ _ h => h, (H.sub.gl.mono H.sub.sub).mono H.snd⟩ (purs_rep H H.snd (fun _ _ _ _ _ _ => rfl) hcs hp) o a Nx Q ?_
   intro c M' w' h1 h2 h3
   have hsub : ∀ p v, newM w M' p = some v → w.heap.size ≤ p.block ∧ M' p = some v := fun p v h => newM_sub h
   have hMn : ∀ p v, newM w M' p = some v → (fun p => (M p).or (newM w M' p)) p = some v := fun p v hp => by
    have := (hsub p v hp).1
    cases hm : M p with
    | none => simp [hm, hp]
    | some u => have := H.mem_lt hm; omega
   have H' : Rel N M0 B w0 κ (fun p => (M p).or (newM w M' p)) σ a w' := by
    refine H.grow h2 (fun p v hp => by simp [hp]) (fun p v hp => ?_) (fun p v hp => ?_)
    · cases hm : M p with
      | none => simp [hm] at hp; exact h3 p v (hsub p v hp).2
      | some u =>
        simp [hm] at hp
        subst hp
        rw [h2.cell (H.mem_lt hm)]
        exact H.snd p u hm
    · cases hm : M p with
      | none => simp [hm] at hp; exact .inr (hsub p v hp).1
      | some u => simp [hm] at hp; subst hp; exact .inl rfl
   have H'' := H'.addF (F := newM w M') (fun p v hp => ⟨hMn p v hp, by have := (hsub p v hp).1; have := H.sub.fbn; have := H.blw.size; have := H.base; omega⟩)
   refine hK _ _ _ _ _ (hk (rep_ok h1)) (H''.put' hd (fz_rep hMn (fun sz l c hc hr => ?_) h1))
   simp only [XX]
   refine ⟨hc, rep_mono (fun p v hp => ?_) (X := NX) (fun _ _ h => h) _ _ hr⟩
   simp only [Kap.add, Option.or_eq_some_iff]
   cases hf : κ.fm p with
   | none => exact .inr ⟨rfl, hp⟩
   | some u => have := H.mem_lt (H.sub.fmS p u hf); have := (hsub p v hp).1; omega

theorem getElem?_range' {n k j : Nat} {x : Nat} (h : (List.range' n k)[j]? = some x) : x = n + j ∧ j < k := by
 obtain ⟨h1, h2⟩ := List.getElem?_eq_some_iff.1 h
 simp at h1 h2
 omega
theorem wr_length : ∀ (ids : List Nat) (obs h : List (Option Ob)), (wr h ids obs).length = h.length
 | [], obs, h => by simp [wr]
 | _ :: _, [], h => by simp [wr]
 | id :: ids, ob :: obs, h => by simp [wr, wr_length ids obs]
theorem wr_get : ∀ (ids : List Nat) (obs h : List (Option Ob)), ids.Nodup → ids.length = obs.length → ∀ {i : Nat} {ob : Ob}, (wr h ids obs)[i]? = some (some ob) →
 (∃ j : Nat, ids[j]? = some i ∧ obs[j]? = some (some ob)) ∨ (i ∉ ids ∧ h[i]? = some (some ob))
 | [], obs, h, _, _, i, ob, hi => by simp only [wr] at hi; exact .inr ⟨by simp, hi⟩
 | id :: ids, [], h, _, hl, i, ob, hi => by simp at hl
 | id :: ids, o :: obs, h, hn, hl, i, ob, hi => by
   simp only [wr] at hi
   simp only [List.nodup_cons] at hn
   rcases wr_get ids obs _ hn.2 (by simpa using hl) hi with ⟨j, h1, h2⟩ | ⟨h1, h2⟩
   · exact .inl ⟨j + 1, by simpa using h1, by simpa using h2⟩
   · rw [List.getElem?_set] at h2
     split at h2
     · rename_i he
       subst he
       split at h2
       · exact .inl ⟨0, by simp, by simpa using h2⟩
       · cases h2
     · rename_i he
       exact .inr ⟨by simp; exact ⟨fun e => he e.symm, h1⟩, h2⟩
theorem bckH_length {m : List Nat} : ∀ {H : List (Option Ob)}, (bckH m H).length = H.length
 | [] => rfl
 | _ :: H => by simp [bckH, bckH_length (H := H)]
theorem bckH_get {m : List Nat} : ∀ {H : List (Option Ob)} {j : Nat} {ob : Ob}, (bckH m H)[j]? = some (some ob) → ∃ ob', H[j]? = some (some ob') ∧ bckO m (some ob') = some ob
 | [], j, ob, h => by simp [bckH] at h
 | o :: H, 0, ob, h => by
   simp only [bckH, List.getElem?_cons_zero, Option.some.injEq] at h
   cases o with
   | none => simp [bckO] at h
   | some ob' => exact ⟨ob', by simp, h⟩
 | o :: H, j + 1, ob, h => by
   simp only [bckH, List.getElem?_cons_succ] at h ⊢
   exact bckH_get h
mutual
theorem bck_rep {m : List Nat} {X X' : V → Value → Prop} (hX : ∀ v c, X v c → rep M X' (bck m v) c) : ∀ {v : V} {c : Value}, rep M X v c → rep M X' (bck m v) c
 | .int _ _, _, h => h
 | .bool _, _, h => h
 | .str _, _, h => h
 | .nil _, _, h => h
 | .seq _ _, _, h => h
 | .sptr _ _, _, h => h
 | .nilptr, _, h => h
 | .nilfn, _, h => h
 | .niliface, _, h => h
 | .junk, _, h => h
 | .ref _ _, _, h => hX _ _ h
 | .ptr _ _, _, h => hX _ _ h
 | .eptr _ _ _ _, _, h => hX _ _ h
 | .mref _ _ _, _, h => hX _ _ h
 | .fseq _ _, _, h => hX _ _ h
 | .mptr _ _ _ _ _, _, h => hX _ _ h
 | .strct cs, c, h => by
   simp only [rep, bck] at h ⊢
   obtain ⟨arr, h1, h2, h3⟩ := h
   exact ⟨arr, h1, bcks_rep hX h2, h3⟩
 | .tup cs, c, h => by
   simp only [rep, bck] at h ⊢
   obtain ⟨arr, h1, h2⟩ := h
   exact ⟨arr, h1, bcks_rep hX h2⟩
 | .fn f x y, c, h => by
   simp only [rep, bck] at h ⊢
   obtain ⟨a1, a2, h1, h2, h3⟩ := h
   exact ⟨a1, a2, h1, bcks_rep hX h2, bcks_rep hX h3⟩
 | .iface t x, c, h => by
   simp only [rep, bck] at h ⊢
   obtain ⟨y, h1, h2⟩ := h
   exact ⟨y, h1, bck_rep hX h2⟩
theorem bcks_rep {m : List Nat} {X X' : V → Value → Prop} (hX : ∀ v c, X v c → rep M X' (bck m v) c) : ∀ {vs : List V} {cs : List Value}, repAll M X vs cs → repAll M X' (bcks m vs) cs
 | [], _, h => h
 | v :: vs, cs, h => by
   simp only [repAll, bcks] at h ⊢
   obtain ⟨c, cs', h1, h2, h3⟩ := h
   exact ⟨c, cs', h1, bck_rep hX h2, bcks_rep hX h3⟩
end
theorem uniq_pre : ∀ (l acc : List Nat), ∃ t, uniq acc l = acc ++ t
 | [], acc => ⟨[], by simp [uniq]⟩
 | k :: ks, acc => by
   simp only [uniq]
   split
   · exact uniq_pre ks acc
   · obtain ⟨t, ht⟩ := uniq_pre ks (acc ++ [k])
     exact ⟨[k] ++ t, by rw [ht]; simp⟩
theorem uniq_mem : ∀ (l acc : List Nat) {x : Nat}, x ∈ uniq acc l → x ∈ acc ∨ x ∈ l
 | [], acc, x, h => .inl h
 | k :: ks, acc, x, h => by
   simp only [uniq] at h
   split at h
   · rcases uniq_mem ks acc h with h | h
     · exact .inl h
     · exact .inr (by simp [h])
   · rcases uniq_mem ks _ h with h | h
     · simp at h
       rcases h with h | h
       · exact .inl h
       · exact .inr (by simp [h])
     · exact .inr (by simp [h])
theorem lent_spec {h : List (Option Ob)} {pvs vs : List V} : (lent h pvs vs).2.Nodup ∧ (lent h pvs vs).2.take (lent h pvs vs).1 = uniq [] (vidss pvs) ∧ (lent h pvs vs).1 = (uniq [] (vidss pvs)).length := by
 unfold lent
 simp only
 refine ⟨uniq_nodup _ _ (uniq_nodup _ _ (uniq_nodup _ _ (uniq_nodup _ _ List.nodup_nil))), ?_, trivial⟩
 obtain ⟨t1, h1⟩ := uniq_pre (vidss vs) (uniq [] (vidss pvs))
 obtain ⟨t2, h2⟩ := uniq_pre (hids h (uniq (uniq [] (vidss pvs)) (vidss vs))) (uniq (uniq [] (vidss pvs)) (vidss vs))
 generalize hb : uniq (uniq (uniq [] (vidss pvs)) (vidss vs)) (hids h (uniq (uniq [] (vidss pvs)) (vidss vs))) = b at *
 obtain ⟨t3, h3⟩ := uniq_pre (hids h b) b
 rw [h3, h2, h1]
 simp
theorem pickV_mem {vs : List V} : ∀ {ps : List Nat} {v : V}, v ∈ pickV vs ps → ∃ i, i ∈ ps ∧ vs[i]? = some v
 | [], v, h => by simp [pickV] at h
 | i :: is, v, h => by
   simp only [pickV] at h
   split at h
   · rename_i u hu
     rcases List.mem_cons.1 h with rfl | h
     · exact ⟨i, by simp, hu⟩
     · obtain ⟨j, h1, h2⟩ := pickV_mem h; exact ⟨j, by simp [h1], h2⟩
   · obtain ⟨j, h1, h2⟩ := pickV_mem h; exact ⟨j, by simp [h1], h2⟩
theorem curs_mem : ∀ {vs : List V} {v : V}, σ.curs vs = true → v ∈ vs → σ.cur v = true
 | [], v, _, h => by cases h
 | u :: us, v, hc, h => by
   simp only [St.curs, Bool.and_eq_true] at hc
   rcases List.mem_cons.1 h with rfl | h
   · exact hc.1
   · exact curs_mem hc.2 h
mutual
theorem cur_leaf {σ : St} {id : Nat} : ∀ {u : V}, σ.cur u = true → id ∈ vids u → ∃ v, σ.cur0 v = true ∧ vids v = [id]
 | .fn _ a b, h, hi => by
   simp only [St.cur, Bool.and_eq_true] at h
   simp only [vids, List.mem_append] at hi
   rcases hi with hi | hi
   · exact curA_leaf h.1 hi
   · exact curA_leaf h.2 hi
 | .strct cs, h, hi => by simp only [St.cur] at h; simp only [vids] at hi; exact curA_leaf h hi
 | .tup cs, h, hi => by simp only [St.cur] at h; simp only [vids] at hi; exact curA_leaf h hi
 | .iface _ x, h, hi => by simp only [St.cur] at h; simp only [vids] at hi; exact cur_leaf h hi
 | .int _ _, h, hi => by simp [vids] at hi
 | .bool _, h, hi => by simp [vids] at hi
 | .str _, h, hi => by simp [vids] at hi
 | .nil _, h, hi => by simp [vids] at hi
 | .seq _ _, h, hi => by simp [vids] at hi
 | .fseq _ _, h, hi => by simp [vids] at hi
 | .sptr _ _, h, hi => by simp [vids] at hi
 | .nilptr, h, hi => by simp [vids] at hi
 | .nilfn, h, hi => by simp [vids] at hi
 | .niliface, h, hi => by simp [vids] at hi
 | .junk, h, hi => by simp [vids] at hi
 | .mref _ _ _, h, hi => by simp [St.cur, St.cur0, vids] at h
 | .mptr _ _ _ _ _, h, hi => by simp [St.cur, St.cur0, vids] at h
 | .ref a n, h, hi => by
   simp only [vids, List.mem_singleton] at hi; subst hi
   simp only [St.cur, vids, List.isEmpty_cons, Bool.or_false] at h
   exact ⟨_, h, rfl⟩
 | .ptr a n, h, hi => by
   simp only [vids, List.mem_singleton] at hi; subst hi
   simp only [St.cur, vids, List.isEmpty_cons, Bool.or_false] at h
   exact ⟨_, h, rfl⟩
 | .eptr a n i o, h, hi => by
   simp only [vids, List.mem_singleton] at hi; subst hi
   simp only [St.cur, vids, List.isEmpty_cons, Bool.or_false] at h
   exact ⟨_, h, rfl⟩
theorem curA_leaf {σ : St} {id : Nat} : ∀ {u : List V}, σ.curA u = true → id ∈ vidss u → ∃ v, σ.cur0 v = true ∧ vids v = [id]
 | [], _, hi => by simp [vidss] at hi
 | v :: vs, h, hi => by
   simp only [St.curA, Bool.and_eq_true] at h
   simp only [vidss, List.mem_append] at hi
   rcases hi with hi | hi
   · exact cur_leaf h.1 hi
   · exact curA_leaf h.2 hi
end
mutual
theorem cur_leaf2 {σ : St} {id : Nat} {m : List Nat} {M M' : Mem} {X X' : V → Value → Prop} : ∀ {u : V} {d : Value}, σ.cur u = true → rep M X u d → rep M' X' (ren m u) d → id ∈ vids u → ∃ v c, σ.cur0 v = true ∧ vids v = [id] ∧ rep M X v c ∧ rep M' X' (ren m v) c
 | .fn _ a b, d, h, h1, h2, hi => by
   simp only [St.cur, Bool.and_eq_true] at h
   simp only [vids, List.mem_append] at hi
   simp only [ren, rep] at h1 h2
   obtain ⟨a1, a2, rfl, g1, g2⟩ := h1
   obtain ⟨b1, b2, e, g3, g4⟩ := h2
   cases e
   rcases hi with hi | hi
   · exact curA_leaf2 h.1 g1 g3 hi
   · exact curA_leaf2 h.2 g2 g4 hi
 | .strct cs, d, h, h1, h2, hi => by
   simp only [St.cur] at h
   simp only [vids] at hi
   simp only [ren, rep] at h1 h2
   obtain ⟨a1, rfl, g1, _⟩ := h1
   obtain ⟨b1, e, g3, _⟩ := h2
   cases e
   exact curA_leaf2 h g1 g3 hi
 | .tup cs, d, h, h1, h2, hi => by
   simp only [St.cur] at h
   simp only [vids] at hi
   simp only [ren, rep] at h1 h2
   obtain ⟨a1, rfl, g1⟩ := h1
   obtain ⟨b1, e, g3⟩ := h2
   cases e
   exact curA_leaf2 h g1 g3 hi
 | .iface _ x, d, h, h1, h2, hi => by
   simp only [St.cur] at h
   simp only [vids] at hi
   simp only [ren, rep] at h1 h2
   obtain ⟨y, rfl, g1⟩ := h1
   obtain ⟨z, e, g3⟩ := h2
   cases e
   exact cur_leaf2 h g1 g3 hi
 | .int _ _, _, h, _, _, hi => by simp [vids] at hi
 | .bool _, _, h, _, _, hi => by simp [vids] at hi
 | .str _, _, h, _, _, hi => by simp [vids] at hi
 | .nil _, _, h, _, _, hi => by simp [vids] at hi
 | .seq _ _, _, h, _, _, hi => by simp [vids] at hi
 | .fseq _ _, _, h, _, _, hi => by simp [vids] at hi
 | .sptr _ _, _, h, _, _, hi => by simp [vids] at hi
 | .nilptr, _, h, _, _, hi => by simp [vids] at hi
 | .nilfn, _, h, _, _, hi => by simp [vids] at hi
 | .niliface, _, h, _, _, hi => by simp [vids] at hi
 | .junk, _, h, _, _, hi => by simp [vids] at hi
 | .mref _ _ _, _, h, _, _, hi => by simp [St.cur, St.cur0, vids] at h
 | .mptr _ _ _ _ _, _, h, _, _, hi => by simp [St.cur, St.cur0, vids] at h
 | .ref a n, _, h, h1, h2, hi => by
   simp only [vids, List.mem_singleton] at hi; subst hi
   simp only [St.cur, vids, List.isEmpty_cons, Bool.or_false] at h
   exact ⟨_, _, h, rfl, h1, h2⟩
 | .ptr a n, _, h, h1, h2, hi => by
   simp only [vids, List.mem_singleton] at hi; subst hi
   simp only [St.cur, vids, List.isEmpty_cons, Bool.or_false] at h
   exact ⟨_, _, h, rfl, h1, h2⟩
 | .eptr a n i o, _, h, h1, h2, hi => by
   simp only [vids, List.mem_singleton] at hi; subst hi
   simp only [St.cur, vids, List.isEmpty_cons, Bool.or_false] at h
   exact ⟨_, _, h, rfl, h1, h2⟩
theorem curA_leaf2 {σ : St} {id : Nat} {m : List Nat} {M M' : Mem} {X X' : V → Value → Prop} : ∀ {u : List V} {d : List Value}, σ.curA u = true → repAll M X u d → repAll M' X' (rens m u) d → id ∈ vidss u → ∃ v c, σ.cur0 v = true ∧ vids v = [id] ∧ rep M X v c ∧ rep M' X' (ren m v) c
 | [], _, _, _, _, hi => by simp [vidss] at hi
 | v :: vs, d, h, h1, h2, hi => by
   simp only [St.curA, Bool.and_eq_true] at h
   simp only [vidss, List.mem_append] at hi
   simp only [rens, repAll] at h1 h2
   obtain ⟨c, cs, rfl, g1, g2⟩ := h1
   obtain ⟨c', cs', e, g3, g4⟩ := h2
   cases e
   rcases hi with hi | hi
   · exact cur_leaf2 h.1 g1 g3 hi
   · exact curA_leaf2 h.2 g2 g4 hi
end
theorem vidss_mem : ∀ {vs : List V} {id : Nat}, id ∈ vidss vs → ∃ v ∈ vs, id ∈ vids v
 | [], id, h => by simp [vidss] at h
 | v :: vs, id, h => by
   simp only [vidss, List.mem_append] at h
   rcases h with h | h
   · exact ⟨v, by simp, h⟩
   · obtain ⟨u, h1, h2⟩ := vidss_mem h; exact ⟨u, by simp [h1], h2⟩
theorem kin_get : ∀ {q : Nat} {H H' : List (Option Ob)}, kin q H H' = true → ∀ {j : Nat}, j < q →
 (∃ cs cs', H[j]? = some (some (.box cs)) ∧ H'[j]? = some (some (.box cs'))) ∨ (∃ e sz l l', H[j]? = some (some (.arr e sz l)) ∧ H'[j]? = some (some (.arr e sz l'))) ∨ ∃ l l', H[j]? = some (some (.gh l)) ∧ H'[j]? = some (some (.gh l'))
 | 0, _, _, _, j, hj => by omega
 | q + 1, [], _, hk, j, hj => by simp [kin] at hk
 | q + 1, none :: _, _, hk, j, hj => by simp [kin] at hk
 | q + 1, some (.box _) :: _, [], hk, j, hj => by simp [kin] at hk
 | q + 1, some (.arr _ _ _) :: _, [], hk, j, hj => by simp [kin] at hk
 | q + 1, some (.mat _ _ _ _) :: _, _, hk, j, hj => by simp [kin] at hk
 | q + 1, some (.mp _ _) :: _, _, hk, j, hj => by simp [kin] at hk
 | q + 1, some (.box _) :: _, some (.mp _ _) :: _, hk, j, hj => by simp [kin] at hk
 | q + 1, some (.arr _ _ _) :: _, some (.mp _ _) :: _, hk, j, hj => by simp [kin] at hk
 | q + 1, some (.box _) :: _, some (.mat _ _ _ _) :: _, hk, j, hj => by simp [kin] at hk
 | q + 1, some (.arr _ _ _) :: _, some (.mat _ _ _ _) :: _, hk, j, hj => by simp [kin] at hk
 | q + 1, some (.gh _) :: _, [], hk, j, hj => by simp [kin] at hk
 | q + 1, some (.gh _) :: _, none :: _, hk, j, hj => by simp [kin] at hk
 | q + 1, some (.gh _) :: _, some (.box _) :: _, hk, j, hj => by simp [kin] at hk
 | q + 1, some (.gh _) :: _, some (.arr _ _ _) :: _, hk, j, hj => by simp [kin] at hk
 | q + 1, some (.gh _) :: _, some (.mat _ _ _ _) :: _, hk, j, hj => by simp [kin] at hk
 | q + 1, some (.gh _) :: _, some (.mp _ _) :: _, hk, j, hj => by simp [kin] at hk
 | q + 1, some (.box _) :: _, some (.gh _) :: _, hk, j, hj => by simp [kin] at hk
 | q + 1, some (.arr _ _ _) :: _, some (.gh _) :: _, hk, j, hj => by simp [kin] at hk
 | q + 1, some (.gh _) :: H, some (.gh _) :: H', hk, 0, hj => .inr (.inr ⟨_, _, rfl, rfl⟩)
 | q + 1, some (.gh _) :: H, some (.gh _) :: H', hk, j + 1, hj => by
   simp only [kin] at hk
   simpa using kin_get hk (j := j) (by omega)
 | q + 1, some (.box _) :: _, none :: _, hk, j, hj => by simp [kin] at hk
 | q + 1, some (.arr _ _ _) :: _, none :: _, hk, j, hj => by simp [kin] at hk
 | q + 1, some (.box _) :: _, some (.arr _ _ _) :: _, hk, j, hj => by simp [kin] at hk
 | q + 1, some (.arr _ _ _) :: _, some (.box _) :: _, hk, j, hj => by simp [kin] at hk
 | q + 1, some (.box _) :: H, some (.box _) :: H', hk, 0, hj => .inl ⟨_, _, rfl, rfl⟩
 | q + 1, some (.box _) :: H, some (.box _) :: H', hk, j + 1, hj => by
   simp only [kin] at hk
   simpa using kin_get hk (j := j) (by omega)
 | q + 1, some (.arr e sz l) :: H, some (.arr e' sz' l') :: H', hk, 0, hj => by
   simp only [kin, Bool.and_eq_true, decide_eq_true_eq] at hk
   obtain ⟨⟨rfl, rfl⟩, hk⟩ := hk
   exact .inr (.inl ⟨_, _, _, _, rfl, rfl⟩)
 | q + 1, some (.arr e sz l) :: H, some (.arr e' sz' l') :: H', hk, j + 1, hj => by
   simp only [kin, Bool.and_eq_true, decide_eq_true_eq] at hk
   simpa using kin_get hk.2 (j := j) (by omega)
theorem kin_len : ∀ {q : Nat} {H H' : List (Option Ob)}, kin q H H' = true → q ≤ H'.length := by
 intro q H H' hk
 rcases Nat.eq_zero_or_pos q with h | h
 · omega
 · have hg : ∀ j, j < q → j < H'.length := fun j hj => by
    rcases kin_get hk hj with ⟨_, _, _, h⟩ | ⟨_, _, _, _, _, h⟩ | ⟨_, _, _, h⟩ <;> exact (List.getElem?_eq_some_iff.1 h).1
   have := hg (q - 1) (by omega)
   omega
theorem idx_get {id : Nat} : ∀ {m : List Nat} {j : Nat}, m.Nodup → m[j]? = some id → idx id m = some j
 | [], j, _, h => by simp at h
 | k :: ks, 0, _, h => by simp at h; simp [idx, h]
 | k :: ks, j + 1, hn, h => by
   simp only [List.nodup_cons] at hn
   simp only [List.getElem?_cons_succ] at h
   have : id ≠ k := fun e => hn.1 (e ▸ List.mem_of_getElem? h)
   simp only [idx, if_neg this, idx_get hn.2 h, Option.map_some]
theorem obAt_base {B B' : Bas} {X : V → Value → Prop} {id : Nat} (hB : ∀ g, κ.bl id g → B'.own g) (hJ : B'.J = B.J) : ∀ {ob : Ob}, obAt κ M X B w id ob → obAt κ M X B' w id ob
 | .gh l, h => by
   simp only [obAt] at h ⊢
   obtain ⟨k, h1, h2, h3⟩ := h
   exact ⟨k, h1, by rw [hJ]; exact h2, fun g hg => ⟨hB g hg, (h3 g hg).2⟩⟩
 | .box cs, h => by
   simp only [obAt] at h ⊢
   obtain ⟨b, arr, T, h1, h2, h3, h4, h5, h6⟩ := h
   exact ⟨b, arr, T, h1, hB b ((h6 b).2 rfl), h3, h4, h5, h6⟩
 | .arr e sz l, h => by
   simp only [obAt] at h ⊢
   obtain ⟨h1, h2, xs, h3, h4, _, h5⟩ := h
   exact ⟨h1, h2, xs, h3, h4, hB, h5⟩
 | .mat e e2 sz l, h => by
   simp only [obAt] at h ⊢
   obtain ⟨h1, h2, h3, h4, h5, h6, _, h7⟩ := h
   exact ⟨h1, h2, h3, h4, h5, h6, hB, h7⟩
 | .mp kt l, h => by
   simp only [obAt] at h ⊢
   obtain ⟨b, es, clock, h1, h2, h3, h4, h5⟩ := h
   exact ⟨b, es, clock, h1, hB b ((h5 b).2 rfl), h3, h4, h5⟩
theorem renH_get' {h : List (Option Ob)} {m : List Nat} : ∀ {ids : List Nat} {j id : Nat} {ob : Ob}, ids[j]? = some id → h[id]? = some (some ob) → (renH h m ids)[j]? = some (renO m (some ob))
 | [], j, id, ob, h1, _ => by simp at h1
 | i :: ids, 0, id, ob, h1, h2 => by simp at h1; subst h1; simp [renH, List.getD, h2]
 | i :: ids, j + 1, id, ob, h1, h2 => by simp only [List.getElem?_cons_succ] at h1; simp only [renH, List.getElem?_cons_succ]; exact renH_get' h1 h2
theorem rens_get {m : List Nat} : ∀ {vs : List V} {i : Nat} {v : V}, vs[i]? = some v → (rens m vs)[i]? = some (ren m v)
 | [], i, v, h => by simp at h
 | u :: us, 0, v, h => by simp at h; simp [rens, h]
 | u :: us, i + 1, v, h => by simp only [List.getElem?_cons_succ] at h; simp only [rens, List.getElem?_cons_succ]; exact rens_get h

theorem repRow_ok {M : Mem} {sz : Nat} : ∀ {l : List V} {xs : List Value}, repRow M sz l xs → oks l
 | [], _, _ => by simp [oks]
 | v :: vs, xs, h => by
   simp only [repRow] at h
   obtain ⟨y, rest, _, h1, _, _, h2⟩ := h
   exact ⟨rep_ok h1, repRow_ok h2⟩
theorem okH_of : ∀ {h : List (Option Ob)}, (∀ (id : Nat) (ob : Ob), h[id]? = some (some ob) → match ob with
 | .box cs => oks cs
 | .arr _ _ l => l.length ≤ 140737488355328 ∧ oks l
 | .mat _ _ _ rows => rows.length ≤ 140737488355328
 | .mp _ _ => True
 | .gh _ => True) → okH h
 | [], _ => trivial
 | none :: h, H => by simp only [okH]; exact okH_of fun id ob hi => H (id + 1) ob (by simpa using hi)
 | some (.box cs) :: h, H => by simp only [okH]; exact ⟨H 0 (.box cs) rfl, okH_of fun id ob hi => H (id + 1) ob (by simpa using hi)⟩
 | some (.mat e e2 sz l) :: h, H => by simp only [okH]; exact ⟨H 0 (.mat e e2 sz l) rfl, okH_of fun id ob hi => H (id + 1) ob (by simpa using hi)⟩
 | some (.mp kt l) :: h, H => by simp only [okH]; exact okH_of fun id ob hi => H (id + 1) ob (by simpa using hi)
 | some (.gh l) :: h, H => by simp only [okH]; exact okH_of fun id ob hi => H (id + 1) ob (by simpa using hi)
 | some (.arr e sz l) :: h, H => by simp only [okH]; exact ⟨H 0 (.arr e sz l) rfl, okH_of fun id ob hi => H (id + 1) ob (by simpa using hi)⟩
theorem heap_ok {H : List (Option Ob)} (hh : ∀ id ob, H[id]? = some (some ob) → obAt κ M (XX κ H) B w id ob) : okH H := by
 refine okH_of fun id ob hi => ?_
 have h := hh id ob hi
 cases ob with
 | box cs => simp only [obAt] at h; obtain ⟨b, arr, T, _, _, _, h4, _⟩ := h; exact repAll_ok h4
 | arr e sz l => simp only [obAt] at h; obtain ⟨_, h1, xs, _, h3, _⟩ := h; exact ⟨h1, repRow_ok h3⟩
 | mat e e2 sz l => simp only [obAt] at h; exact h.2.1
 | mp kt l => trivial
 | gh l => trivial

theorem gh?_eq {σ : St} {id : Nat} {x : List (V × Bool)} (h : σ.gh? id = some x) : σ.h[id]? = some (some (.gh x)) := by
 unfold St.gh? at h
 split at h
 · cases h; assumption
 · cases h
theorem callH_sound (H : Rel N M0 B w0 κ M σ a w) (hJC : JCall P M0 B) {d : Option Nat} (hd : ∀ t, d = some t → t < N ∧ t ∉ B.ps) {f : FuncId} {vs : List V} {K : St → Prop} (hW : wcallH (Cn P) d f vs K σ)
 {cs : Array Value} (hcs : repAll M (XX κ σ.h) vs cs.toList) {Nx : Act → World → Prop} (hK : ∀ κ' M' σ' a' w', K σ' → Rel N M0 B w0 κ' M' σ' a' w' → Nx a' w') {Q : Exit → Act → World → Prop} (o : Oper) (ho : o.dst = d) :
 o.upon P a Nx Q ((callFunc f cs).run P w) := by
 subst ho
 obtain ⟨ps, hcur, r, H', hkin, hΦ, hk⟩ := hW
 obtain ⟨hm, hA, hq⟩ := lent_spec (h := σ.h) (pvs := pickV vs ps) (vs := vs)
 generalize hqq : (lent σ.h (pickV vs ps) vs).1 = q at *
 generalize hmm : (lent σ.h (pickV vs ps) vs).2 = m at *
 clear hqq hmm
 have hqk := kin_len hkin
 have hAn : (uniq [] (vidss (pickV vs ps))).Nodup := uniq_nodup _ _ List.nodup_nil
 have hAlt : ∀ id ∈ m.take q, ∃ i u, i ∈ ps ∧ vs[i]? = some u ∧ σ.cur u = true ∧ id ∈ vids u := by
  intro id hid
  rw [hA] at hid
  rcases uniq_mem _ _ hid with h | h
  · cases h
  · obtain ⟨u, h1, h2⟩ := vidss_mem h
    obtain ⟨i, h3, h4⟩ := pickV_mem h1
    exact ⟨i, u, h3, h4, curs_mem hcur h1, h2⟩
 have hAin : ∀ id ∈ m.take q, ∃ ob, σ.h[id]? = some (some ob) := by
  intro id hid
  obtain ⟨i, u0, _, _, hc0, hv0⟩ := hAlt id hid
  obtain ⟨u, hc, hv⟩ := cur_leaf hc0 hv0
  cases u <;> simp [St.cur0] at hc <;> simp only [vids, List.cons.injEq, and_true] at hv <;> subst hv
  · split at hc
    · rename_i h; exact ⟨_, arr?_eq h⟩
    · obtain ⟨x, hx⟩ := Option.isSome_iff_exists.1 hc; exact ⟨_, gh?_eq hx⟩
  · obtain ⟨x, hx⟩ := Option.isSome_iff_exists.1 hc.1; exact ⟨_, box?_eq hx⟩
  · split at hc
    · rename_i h; exact ⟨_, arr?_eq h⟩
    · cases hc
 have hn : σ.h.length = σ.h.length := rfl
 generalize hD : dest q m σ.h.length H'.length = D at *
 have hDl : D.length = H'.length := by
  rw [← hD]; unfold dest; rw [List.length_append, hA, ← hq]; simp; omega
 have hDget : ∀ {j id : Nat}, D[j]? = some id → (j < q ∧ m[j]? = some id ∧ id ∈ m.take q) ∨ (q ≤ j ∧ σ.h.length ≤ id ∧ id < σ.h.length + (H'.length - q)) := by
  intro j id h
  rw [← hD] at h
  unfold dest at h
  have hl : (m.take q).length = q := by rw [hA, ← hq]
  by_cases hj : j < q
  · rw [List.getElem?_append_left (by omega)] at h
    refine .inl ⟨hj, ?_, List.mem_of_getElem? h⟩
    rwa [List.getElem?_take, if_pos hj] at h
  · rw [List.getElem?_append_right (by omega)] at h
    have := getElem?_range' h
    exact .inr ⟨by omega, by omega, by omega⟩
 have hDlt : ∀ {j id : Nat}, D[j]? = some id → id < σ.h.length + (H'.length - q) := by
  intro j id h
  rcases hDget h with ⟨_, _, h1⟩ | ⟨_, _, h1⟩
  · obtain ⟨ob, h2⟩ := hAin id h1; have := (List.getElem?_eq_some_iff.1 h2).1; omega
  · exact h1
 have hDn : D.Nodup := by
  rw [← hD]
  unfold dest
  rw [List.nodup_append]
  refine ⟨by rw [hA]; exact hAn, List.nodup_range', fun x hx y hy => ?_⟩
  obtain ⟨ob, h2⟩ := hAin x hx
  have := (List.getElem?_eq_some_iff.1 h2).1
  simp [List.mem_range'] at hy
  omega
 obtain ⟨k1, k2, k3⟩ := kill_h m σ
 have H1 := H.ren hm [] (fun t v h => by simp [lk] at h)
 simp only [renR] at H1
 -- what is lent
 generalize hκc : κ.ren m = κc at *
 generalize hHc : renH σ.h m m = Hc at *
 have hlb : ∀ g, Blks κc Hc g → ∃ id ob, id ∈ m ∧ σ.h[id]? = some (some ob) ∧ κ.bl id g := by
  rintro g ⟨j, ob, h1, h2⟩
  rw [← hHc] at h1
  obtain ⟨id, ob', g1, g2, _⟩ := renH_get h1
  refine ⟨id, ob', List.mem_of_getElem? g1, g2, ?_⟩
  rw [← hκc] at h2
  simpa [Kap.ren, List.getD, g1] using h2
 have hown : ∀ g, (lentB κc Hc w ps cs B.J).own g → B.own g := by
  rintro g (h | h)
  · have h : w.heap.size ≤ g := h
    exact .inl (by rw [H.base]; have := H.blw.size; omega)
  · obtain ⟨id, ob, _, h2, h3⟩ := hlb g h
    exact (H.blk_lt h2 h3).1
 have hjs : JStab (lentB κc Hc w ps cs B.J) := fun k l S M M' w1 w2 h1 h2 h3 h4 h5 => H.jst k l S M M' w1 w2 h1 ⟨h2.os, h2.tape, h2.output, h2.size, fun g hg hgs => h2.block g (by rw [H.base] at hg; have := H.blw.size; show g < w.heap.size; omega) (fun hs => (hown g (.inr hs)).elim (fun h => by omega) hgs), h2.siz⟩ h3 h4 h5
 have hpre : Heap κc M (lentB κc Hc w ps cs B.J) w Hc :=
  { heap := fun id ob h => obAt_base (B := B) (B' := lentB κc Hc w ps cs B.J) (fun g hg => Or.inr (show Blks κc Hc g from ⟨id, ob, h, hg⟩)) rfl (H1.heap id ob h), jst := hjs, inj := H1.inj, gl := H1.sub.gl.mono H1.sub.sub, snd := H1.snd, sep := H1.sep, fmS := H1.sub.fmS }
 have hus : repAll M (XX κc Hc) (rens m vs) cs.toList := by
  have := rens_rep (XX_ren (M := M) (κ := κ) (h := σ.h) hm) hcs
  rwa [hκc, hHc] at this
 refine hΦ M w κc cs B.J (fun k us b l S M1 w1 cs1 h1 h2 h3 h4 => hJC k us b l S M1 w1 cs1 h1 h2 h3 fun p v hp => (h4 p v hp).elim (H.new p v) fun h => .inr (hown _ h)) hpre hus o a Nx Q ?_
 intro c M' w' κ' hr hu hp' hM hnew hpin
 have hback : ∀ {id : Nat} {ob : Ob}, (σ.back q m H')[id]? = some (some ob) → (∃ (j : Nat) (ob' : Ob), D[j]? = some id ∧ H'[j]? = some (some ob') ∧ bckO D (some ob') = some ob) ∨ (id ∉ D ∧ id ∉ m ∧ σ.h[id]? = some (some ob)) := by
  intro id ob h
  unfold St.back at h
  rw [hD] at h
  rcases wr_get _ _ _ hDn (by rw [bckH_length, hDl]) h with ⟨j, h1, h2⟩ | ⟨h1, h2⟩
  · obtain ⟨ob', h3, h4⟩ := bckH_get h2
    exact .inl ⟨j, ob', h1, h3, h4⟩
  · by_cases hlt : id < (σ.kill m).h.length
    · rw [List.getElem?_append_left hlt] at h2
      obtain ⟨h3, h4⟩ := k3 id ob h2
      exact .inr ⟨h1, h4, h3⟩
    · rw [List.getElem?_append_right (by omega)] at h2
      obtain ⟨_, h3⟩ := List.getElem?_eq_some_iff.1 h2
      simp at h3
 have hblen : (σ.back q m H').length = σ.h.length + (H'.length - q) := by
  unfold St.back; rw [wr_length]; simp [k2]
 generalize hB2 : σ.back q m H' = h2 at *
 -- what the numbers stand for
 let κ2 : Kap := ⟨fun id => match idx id D with
  | some j => κ' j
  | none => κ id, fun id => match idx id D with
  | some j => κ'.row j
  | none => κ.row id, fun id => match idx id D with
  | some j => κ'.bl j
  | none => κ.bl id, κ.fm⟩
 have κD3 : ∀ {j id : Nat}, D[j]? = some id → κ2 id = κ' j ∧ κ2.row id = κ'.row j ∧ κ2.bl id = κ'.bl j := by
  intro j id h
  simp only [κ2, idx_get hDn h, and_self]
 have κO3 : ∀ {id : Nat}, id ∉ D → κ2 id = κ id ∧ κ2.row id = κ.row id ∧ κ2.bl id = κ.bl id := by
  intro id h
  simp only [κ2]
  split
  · rename_i j hj; exact (h (List.mem_of_getElem? (idx_some hj))).elim
  · exact ⟨rfl, rfl, rfl⟩
 have κD : ∀ {j id : Nat}, D[j]? = some id → κ2 id = κ' j := fun h => (κD3 h).1
 have κO : ∀ {id : Nat}, id ∉ D → κ2 id = κ id := fun h => (κO3 h).1
 have hturn : ∀ {j id : Nat}, D[j]? = some id → id < σ.h.length → (∀ cs', H'[j]? = some (some (Ob.box cs')) → (∃ cs0, σ.h[id]? = some (some (Ob.box cs0))) ∧ κ' j = κ id) ∧
  (∀ e sz l, H'[j]? = some (some (Ob.arr e sz l)) → ∃ l0, σ.h[id]? = some (some (Ob.arr e sz l0)) ∧ l0.length ≤ l.length ∧ (l0.length = l.length → κ' j = κ id)) ∧ ((∀ e e2 sz l, H'[j]? ≠ some (some (Ob.mat e e2 sz l))) ∧ (∀ o, H'[j]? = some (some o) → o.nam = true → (∃ o', σ.h[id]? = some (some o') ∧ o'.nam = true) ∧ κ' j = κ id)) := by
  intro j id hj hlt
  refine and_assoc.1 ⟨?_, fun e e2 sz l hl => by
   rcases hDget hj with ⟨h1, _, _⟩ | ⟨_, h1, _⟩
   · rcases kin_get hkin h1 with ⟨_, _, _, g2⟩ | ⟨_, _, _, _, _, g2⟩ | ⟨_, _, _, g2⟩ <;> rw [hl] at g2 <;> cases g2
   · omega, fun o hl hn => by
   rcases hDget hj with ⟨h1, h2, h3⟩ | ⟨_, h1, _⟩
   · rcases kin_get hkin h1 with ⟨_, _, _, g2⟩ | ⟨_, _, _, _, _, g2⟩ | ⟨l1, l2, g1, g2⟩
     · rw [hl] at g2; cases g2; cases hn
     · rw [hl] at g2; cases g2; cases hn
     · obtain ⟨i, u0, hi, hvi, hcu0, hvu0⟩ := hAlt id h3
       obtain ⟨d0, hd1, hd02⟩ := repAll_get hcs hvi
       have hd03 := hpin i hi _ d0 (rens_get hvi) (by simpa using hd1)
       obtain ⟨u, d, hcu, hvu, hd2, hd3⟩ := cur_leaf2 hcu0 hd02 hd03 hvu0
       have hx := idx_get hm h2
       rw [← hHc] at g1
       obtain ⟨ob0, q1⟩ := hAin id h3
       have q2 := renH_get' (m := m) h2 q1
       rw [g1] at q2
       have q3 : ob0 = .gh l1 := renO_nam (by simpa using q2.symm) rfl
       subst q3
       cases u <;> simp [St.cur0] at hcu <;> simp only [vids, List.cons.injEq, and_true] at hvu <;> subst hvu
       · simp only [ren, hx, rep, XX] at hd2 hd3
         refine ⟨⟨_, q1, rfl⟩, ?_⟩
         rw [← hd3.2.2.2.2 o hl hn, ← hd2.2.2.2.2 _ q1 rfl]
       · simp [St.box?, q1] at hcu
       · simp [St.arr?, q1] at hcu
   · omega⟩
  rcases hDget hj with ⟨h1, h2, h3⟩ | ⟨_, h1, _⟩
  · obtain ⟨i, u0, hi, hvi, hcu0, hvu0⟩ := hAlt id h3
    obtain ⟨d0, hd1, hd02⟩ := repAll_get hcs hvi
    have hd03 := hpin i hi _ d0 (rens_get hvi) (by simpa using hd1)
    obtain ⟨u, d, hcu, hvu, hd2, hd3⟩ := cur_leaf2 hcu0 hd02 hd03 hvu0
    have hx := idx_get hm h2
    have hkg := kin_get hkin h1
    rw [← hHc] at hkg
    cases u <;> simp [St.cur0] at hcu <;> simp only [vids, List.cons.injEq, and_true] at hvu <;> subst hvu
    · rename_i id n
      split at hcu
      · rename_i e0 sz0 l0 har
        have ha := arr?_eq har
        simp only at ha
        simp at hcu
        simp only [ren, hx, rep, XX] at hd2 hd3
        have hg := renH_get' (m := m) h2 ha
        refine ⟨fun cs' hc => ?_, fun e sz l hl => ?_⟩
        · rcases hkg with ⟨_, _, g1, g2⟩ | ⟨_, _, _, _, g1, g2⟩ | ⟨_, _, g1, g2⟩
          · rw [hg] at g1; simp [renO] at g1
          · rw [hc] at g2; cases g2
          · rw [hg] at g1; simp [renO] at g1
        · rcases hkg with ⟨_, _, g1, g2⟩ | ⟨_, _, _, _, g1, g2⟩ | ⟨_, _, g1, g2⟩
          · rw [hl] at g2; cases g2
          · rw [hg] at g1
            simp [renO] at g1
            rw [hl] at g2
            cases g2
            obtain ⟨rfl, rfl, rfl⟩ := g1
            refine ⟨l0, ha, ?_, fun heq => ?_⟩
            · have := (hd3.2.2.1 _ _ _ hl).1; omega
            · have h5 := (hd3.2.2.1 _ _ _ hl).2 (by omega)
              have h6 := (hd2.2.2.1 _ _ _ ha).2 hcu
              rw [← h5, ← h6]
          · rw [hg] at g1; simp [renO] at g1
      · obtain ⟨x, hx0⟩ := Option.isSome_iff_exists.1 hcu
        have ha := gh?_eq hx0
        have hg := renH_get' (m := m) h2 ha
        refine ⟨fun cs' hc => ?_, fun e sz l hl => ?_⟩
        · rcases hkg with ⟨_, _, g1, g2⟩ | ⟨_, _, _, _, g1, g2⟩ | ⟨_, _, g1, g2⟩
          · rw [hg] at g1; simp [renO] at g1
          · rw [hc] at g2; cases g2
          · rw [hc] at g2; cases g2
        · rcases hkg with ⟨_, _, g1, g2⟩ | ⟨_, _, _, _, g1, g2⟩ | ⟨_, _, g1, g2⟩
          · rw [hl] at g2; cases g2
          · rw [hg] at g1; simp [renO] at g1
          · rw [hl] at g2; cases g2
    · rename_i id off
      obtain ⟨x, hx0⟩ := Option.isSome_iff_exists.1 hcu.1
      have hb := box?_eq hx0
      have hoff : off = 0 := hcu.2
      subst hoff
      simp only [ren, hx, rep, XX] at hd2 hd3
      have hg := renH_get' (m := m) h2 hb
      refine ⟨fun cs' hc => ⟨⟨_, hb⟩, ?_⟩, fun e sz l hl => ?_⟩
      · obtain ⟨b1, e1, e2⟩ := hd2.2.2 _ hb
        obtain ⟨b2, e3, e4⟩ := hd3.2.2 _ hc
        rw [e2] at e4
        cases e4
        rw [e1, e3]
      · rcases hkg with ⟨_, _, g1, g2⟩ | ⟨_, _, _, _, g1, g2⟩ | ⟨_, _, g1, g2⟩
        · rw [hl] at g2; cases g2
        · rw [hg] at g1; simp [renO] at g1
        · rw [hg] at g1; simp [renO] at g1
    · rename_i id n i0 off
      split at hcu
      · rename_i e0 sz0 l0 har
        have ha := arr?_eq har
        simp only at ha
        simp at hcu
        simp only [ren, hx, rep, XX] at hd2 hd3
        have hg := renH_get' (m := m) h2 ha
        refine ⟨fun cs' hc => ?_, fun e sz l hl => ?_⟩
        · rcases hkg with ⟨_, _, g1, g2⟩ | ⟨_, _, _, _, g1, g2⟩ | ⟨_, _, g1, g2⟩
          · rw [hg] at g1; simp [renO] at g1
          · rw [hc] at g2; cases g2
          · rw [hg] at g1; simp [renO] at g1
        · rcases hkg with ⟨_, _, g1, g2⟩ | ⟨_, _, _, _, g1, g2⟩ | ⟨_, _, g1, g2⟩
          · rw [hl] at g2; cases g2
          · rw [hg] at g1
            simp [renO] at g1
            rw [hl] at g2
            cases g2
            obtain ⟨rfl, rfl, rfl⟩ := g1
            refine ⟨l0, ha, ?_, fun heq => ?_⟩
            · have := (hd3.2.2.1 _ _ _ hl).1; omega
            · clear hg
              obtain ⟨b1, cap1, q1, q2⟩ := (hd3.2.2.1 _ _ _ hl).2 (by omega) hcu.2
              obtain ⟨b2, cap2, q3, q4⟩ := (hd2.2.2.1 _ _ _ ha).2 hcu.1 hcu.2
              rw [q2] at q4
              simp only [Value.pointer.injEq, Option.some.injEq, Addr.mk.injEq, and_true] at q4
              obtain ⟨rfl, _⟩ := q4
              have o1 := hp'.heap j _ hl
              have o2 := H.heap id _ ha
              simp only [obAt] at o1 o2
              obtain ⟨hsz0, _, _, o1, _⟩ := o1
              obtain ⟨_, _, _, o2, _⟩ := o2
              rcases o1.2 with ⟨o3, _⟩ | ⟨g1', cap1', cur1, o3, _, o4, _, _, o5, _⟩
              · rw [q1] at o3; cases o3
              · rcases o2.2 with ⟨o6, _⟩ | ⟨g2', cap2', cur2, o6, _, o7, _, _, o8, _⟩
                · rw [q3] at o6; cases o6
                · rw [q1] at o3
                  rw [q3] at o6
                  simp only [Value.slice.injEq, Option.some.injEq, Addr.mk.injEq, and_true] at o3 o6
                  obtain ⟨rfl, _, rfl⟩ := o3
                  obtain ⟨rfl, _, rfl⟩ := o6
                  obtain ⟨cur', T', z', s1, s2⟩ := hu.siz _ _ _ _ o7
                  rw [o4] at s1
                  simp only [Option.some.injEq, Obj.cells.injEq] at s1
                  obtain ⟨rfl, _, _⟩ := s1
                  have : cap1 = cap2 := Nat.eq_of_mul_eq_mul_right hsz0 (by rw [← o5, ← o8, s2])
                  rw [q1, q3, this]
          · rw [hg] at g1; simp [renO] at g1
      · cases hcu
  · omega
 have V1 : ∀ v c, XX κ σ.h v c → XX κ2 h2 v c := by
  intro v c hx
  have km : ∀ {id : Nat} {e e2 sz : Nat} {l : List Rw}, id < σ.h.length → h2[id]? = some (some (.mat e e2 sz l)) → κ2 id = κ id ∧ κ2.row id = κ.row id ∧ σ.h[id]? = some (some (.mat e e2 sz l)) := by
   intro id e e2 sz l hlt hl
   rcases hback hl with ⟨j, ob', h1, h3, h4⟩ | ⟨h1, _, h3⟩
   · have := (hturn h1 hlt).2.2.1 e e2 sz l
     cases ob' <;> simp [bckO] at h4
     obtain ⟨rfl, rfl, rfl, rfl⟩ := h4
     exact (this h3).elim
   · exact ⟨κO h1, (κO3 h1).2.1, h3⟩
  have kp : ∀ {id : Nat} {o : Ob}, id < σ.h.length → h2[id]? = some (some o) → o.nam = true → κ2 id = κ id ∧ ∃ o', σ.h[id]? = some (some o') ∧ o'.nam = true := by
   intro id o hlt hl hn
   rcases hback hl with ⟨j, ob', h1, h3, h4⟩ | ⟨h1, _, h3⟩
   · have h5 : ob' = o := by cases ob' <;> simp [bckO] at h4 <;> first | exact h4 | (subst h4; cases hn)
     subst h5
     obtain ⟨g1, g2⟩ := (hturn h1 hlt).2.2.2 _ h3 hn
     exact ⟨by rw [κD h1, g2], g1⟩
   · exact ⟨κO h1, _, h3, hn⟩
  cases v <;> simp only [XX] at hx ⊢
  case ref id n =>
   refine ⟨hx.1, by omega, fun e sz l hl => ?_, fun e e2 sz l hl => ?_, fun o hl hn => by obtain ⟨g1, o', g2, g3⟩ := kp hx.2.1 hl hn; rw [g1]; exact hx.2.2.2.2 _ g2 g3⟩
   · rcases hback hl with ⟨j, ob', h1, h3, h4⟩ | ⟨h1, _, h3⟩
     · cases ob' <;> simp [bckO] at h4
       obtain ⟨rfl, rfl, rfl⟩ := h4
       obtain ⟨l0, h5, h6, h7⟩ := (hturn h1 hx.2.1).2.1 _ _ _ h3
       obtain ⟨g1, g2⟩ := hx.2.2.1 _ _ _ h5
       exact ⟨by omega, fun he => by rw [κD h1, h7 (by omega)]; exact g2 (by omega)⟩
     · rw [κO h1]; exact hx.2.2.1 _ _ _ h3
   · obtain ⟨g1, _, g2⟩ := km hx.2.1 hl
     rw [g1]; exact hx.2.2.2.1 _ _ _ _ g2
  case ptr id off =>
   refine ⟨hx.1, by omega, fun cs' hl => ?_⟩
   rcases hback hl with ⟨j, ob', h1, h3, h4⟩ | ⟨h1, _, h3⟩
   · cases ob' <;> simp [bckO] at h4
     obtain ⟨⟨cs0, h5⟩, h6⟩ := (hturn h1 hx.2.1).1 _ h3
     rw [κD h1, h6]; exact hx.2.2 _ h5
   · rw [κO h1]; exact hx.2.2 _ h3
  case eptr id n i off =>
   refine ⟨hx.1, by omega, fun e sz l hl => ?_, fun e e2 sz l hl => ?_⟩
   · rcases hback hl with ⟨j, ob', h1, h3, h4⟩ | ⟨h1, _, h3⟩
     · cases ob' <;> simp [bckO] at h4
       obtain ⟨rfl, rfl, rfl⟩ := h4
       obtain ⟨l0, h5, h6, h7⟩ := (hturn h1 hx.2.1).2.1 _ _ _ h3
       obtain ⟨g1, g2⟩ := hx.2.2.1 _ _ _ h5
       exact ⟨by omega, fun he hi => by rw [κD h1, h7 (by omega)]; exact g2 (by omega) hi⟩
     · rw [κO h1]; exact hx.2.2.1 _ _ _ h3
   · obtain ⟨g1, _, g2⟩ := km hx.2.1 hl
     rw [g1]; exact hx.2.2.2 _ _ _ _ g2
  case fseq sz l => exact hx
  case mref id i n =>
   refine ⟨hx.1, by omega, fun e e2 sz l hl => ?_⟩
   obtain ⟨_, g1, g2⟩ := km hx.2.1 hl
   rw [g1]; exact hx.2.2 _ _ _ _ g2
  case mptr id i n k off =>
   refine ⟨hx.1, by omega, fun e e2 sz l hl => ?_⟩
   obtain ⟨_, g1, g2⟩ := km hx.2.1 hl
   rw [g1]; exact hx.2.2 _ _ _ _ g2
 have V2 : ∀ v c, XX κ' H' v c → rep M' (XX κ2 h2) (bck D v) c := by
  intro v c hx
  have key : ∀ {j id : Nat} {ob : Ob}, D[j]? = some id → h2[id]? = some (some ob) → ∃ ob', H'[j]? = some (some ob') ∧ bckO D (some ob') = some ob := by
   intro j id ob hj hl
   rcases hback hl with ⟨j', ob', h1, h3, h4⟩ | ⟨h1, _, _⟩
   · have : j = j' := (List.getElem?_inj (List.getElem?_eq_some_iff.1 hj).1 hDn).1 (hj.trans h1.symm)
     subst this
     exact ⟨ob', h3, h4⟩
   · exact (h1 (List.mem_of_getElem? hj)).elim
  have ka : ∀ {j id : Nat} {e sz : Nat} {l : List V}, D[j]? = some id → h2[id]? = some (some (.arr e sz l)) → H'[j]? = some (some (.arr e sz l)) := by
   intro j id e sz l hj hl
   obtain ⟨ob', h3, h4⟩ := key hj hl
   cases ob' <;> simp [bckO] at h4
   obtain ⟨rfl, rfl, rfl⟩ := h4
   exact h3
  have km : ∀ {j id : Nat} {e e2 sz : Nat} {l : List Rw}, D[j]? = some id → h2[id]? = some (some (.mat e e2 sz l)) → H'[j]? = some (some (.mat e e2 sz l)) := by
   intro j id e e2 sz l hj hl
   obtain ⟨ob', h3, h4⟩ := key hj hl
   cases ob' <;> simp [bckO] at h4
   obtain ⟨rfl, rfl, rfl, rfl⟩ := h4
   exact h3
  have kp : ∀ {j id : Nat} {o : Ob}, D[j]? = some id → h2[id]? = some (some o) → o.nam = true → H'[j]? = some (some o) := by
   intro j id o hj hl hn
   obtain ⟨ob', h3, h4⟩ := key hj hl
   have h5 : ob' = o := by cases ob' <;> simp [bckO] at h4 <;> first | exact h4 | (subst h4; cases hn)
   rw [← h5]; exact h3
  cases v <;> simp only [XX] at hx
  case ref j n =>
   simp only [bck]
   split
   · rename_i id hj
     simp only [rep, XX]
     rw [κD hj]
     exact ⟨hx.1, by rw [hblen]; exact hDlt hj, fun e sz l hl => hx.2.2.1 _ _ _ (ka hj hl), fun e e2 sz l hl => hx.2.2.2.1 _ _ _ _ (km hj hl), fun o hl hn => hx.2.2.2.2 _ (kp hj hl hn) hn⟩
   · exact hx.1
  case ptr j off =>
   simp only [bck]
   split
   · rename_i id hj
     simp only [rep, XX]
     refine ⟨hx.1, by rw [hblen]; exact hDlt hj, fun cs' hl => ?_⟩
     obtain ⟨ob', h3, h4⟩ := key hj hl
     cases ob' <;> simp [bckO] at h4
     rw [κD hj]; exact hx.2.2 _ h3
   · exact hx.1
  case eptr j n i off =>
   simp only [bck]
   split
   · rename_i id hj
     simp only [rep, XX]
     rw [κD hj]
     exact ⟨hx.1, by rw [hblen]; exact hDlt hj, fun e sz l hl => hx.2.2.1 _ _ _ (ka hj hl), fun e e2 sz l hl => hx.2.2.2 _ _ _ _ (km hj hl)⟩
   · exact hx.1
  case fseq sz l =>
   simp only [bck]
   exact rep_of_pure (rep_mono hp'.fmS (X := NX) (fun _ _ h => h) (.seq sz l) c hx.2)
  case mref j i n =>
   simp only [bck]
   split
   · rename_i id hj
     simp only [rep, XX]
     rw [(κD3 hj).2.1]
     exact ⟨hx.1, by rw [hblen]; exact hDlt hj, fun e e2 sz l hl => hx.2.2 _ _ _ _ (km hj hl)⟩
   · exact hx.1
  case mptr j i n k off =>
   simp only [bck]
   split
   · rename_i id hj
     simp only [rep, XX]
     rw [(κD3 hj).2.1]
     exact ⟨hx.1, by rw [hblen]; exact hDlt hj, fun e e2 sz l hl => hx.2.2 _ _ _ _ (km hj hl)⟩
   · exact hx.1
 have hold : ∀ {id : Nat} {ob : Ob} {g : Nat}, id ∉ m → σ.h[id]? = some (some ob) → κ.bl id g → ¬ (lentB κc Hc w ps cs B.J).own g := by
  rintro id ob g h1 h3 h4 (h5 | h5)
  · have h5 : w.heap.size ≤ g := h5
    have := (H.blk_lt h3 h4).2
    omega
  · obtain ⟨id', ob', g1, g2, g3⟩ := hlb g h5
    have := H.inj id id' ob ob' g h3 g2 h4 g3
    subst this
    exact h1 g1
 have hnewblk : ∀ {j : Nat} {ob : Ob} {g : Nat}, H'[j]? = some (some ob) → κ'.bl j g → (lentB κc Hc w ps cs B.J).own g := fun {j ob g} h1 h3 => (obAt_blk (hp'.heap j ob h1) g h3).1
 have hfin : Rel N M0 B w0 κ2 M' ⟨σ.r, h2⟩ a w' :=
  { dfr := H.dfr, jst := H.jst, pin := H.pin, size := H.size
    regs := fun t v ht => by
     obtain ⟨g1, c, g2, g3⟩ := H.regs t v ht
     exact ⟨g1, c, g2, rep_mono hM V1 _ _ g3⟩
    heap := fun id ob hl => by
     rcases hback hl with ⟨j, ob', h1, h3, h4⟩ | ⟨h1, h3, h4⟩
     · have hob := hp'.heap j ob' h3
       cases ob' with
       | box cs' =>
         simp only [bckO, Option.some.injEq] at h4
         subst h4
         simp only [obAt] at hob ⊢
         obtain ⟨b, arr, T, e1, e2, e3, e4, e5⟩ := hob
         rw [κD h1, (κD3 h1).2.2]
         exact ⟨b, arr, T, e1, hown b e2, e3, bcks_rep V2 e4, e5⟩
       | arr e sz l =>
         simp only [bckO, Option.some.injEq] at h4
         subst h4
         simp only [obAt] at hob ⊢
         rw [κD h1, (κD3 h1).2.2]
         obtain ⟨e1, e2, xs, e3, e4, e5, e6⟩ := hob
         exact ⟨e1, e2, xs, e3, e4, fun g hg => hown g (e5 g hg), e6⟩
       | mat e e2 sz l =>
         simp only [bckO, Option.some.injEq] at h4
         subst h4
         simp only [obAt] at hob ⊢
         rw [κD h1, (κD3 h1).2.1, (κD3 h1).2.2]
         obtain ⟨e1, e2, e3, e4, e5, e6, e7, e8⟩ := hob
         exact ⟨e1, e2, e3, e4, e5, e6, fun g hg => hown g (e7 g hg), e8⟩
       | mp kt l =>
         simp only [bckO, Option.some.injEq] at h4
         subst h4
         simp only [obAt] at hob ⊢
         rw [κD h1, (κD3 h1).2.2]
         obtain ⟨b, es, clock, e1, e2, e3⟩ := hob
         exact ⟨b, es, clock, e1, hown b e2, e3⟩
       | gh l =>
         simp only [bckO, Option.some.injEq] at h4
         subst h4
         simp only [obAt] at hob ⊢
         rw [κD h1, (κD3 h1).2.2]
         obtain ⟨k, e1, e2, e3⟩ := hob
         exact ⟨k, e1, e2, fun g hg => ⟨hown g (e3 g hg).1, (e3 g hg).2⟩⟩
     · refine obAt_mono hM V1 (κO3 h1) (fun g hg => ?_) H.jst ⟨hu.os, hu.tape, hu.output, hu.size, fun g hg hgs => hu.block g (by rw [H.base] at hg; have := H.blw.size; show g < w.heap.size; omega) (fun hs => (hown g (.inr hs)).elim (fun h => by omega) hgs), hu.siz⟩ hp'.snd (H.heap id ob h4)
       refine hu.block g ?_ (fun hs => hold h3 h4 hg (.inr hs))
       exact (H.blk_lt h4 hg).2
    inj := fun i j oi oj g hi hj gi gj => by
     rcases hback hi with ⟨i', oi', h1, h3, _⟩ | ⟨h1, h3, h4⟩ <;> rcases hback hj with ⟨j', oj', g1, g3, _⟩ | ⟨g1, g3, g4⟩
     · rw [(κD3 h1).2.2] at gi; rw [(κD3 g1).2.2] at gj
       have := hp'.inj i' j' oi' oj' g h3 g3 gi gj
       subst this
       rw [h1] at g1; cases g1; rfl
     · rw [(κD3 h1).2.2] at gi; rw [(κO3 g1).2.2] at gj
       exact (hold g3 g4 gj (hnewblk h3 gi)).elim
     · rw [(κO3 h1).2.2] at gi; rw [(κD3 g1).2.2] at gj
       exact (hold h3 h4 gi (hnewblk g3 gj)).elim
     · rw [(κO3 h1).2.2] at gi; rw [(κO3 g1).2.2] at gj
       exact H.inj i j oi oj g h4 g4 gi gj
    snd := hp'.snd
    sep := fun p v hp id ob hl => by
     rcases hback hl with ⟨j, ob', h1, h3, _⟩ | ⟨h1, h3, h4⟩
     · rw [(κD3 h1).2.2]; exact hp'.sep p v hp j ob' h3
     · rw [(κO3 h1).2.2]
       intro hg
       rcases hnew p v hp with h | h
       · exact H.sep p v h id ob h4 hg
       · exact hold h3 h4 hg h
    sub := ⟨fun p v h => hM p v (H.sub.sub p v h), fun p v h => hM p v (H.sub.fmS p v h), H.sub.fmN, H.sub.fbn, H.sub.gl⟩
    new := fun p v h => by
     rcases hnew p v h with h | h
     · exact H.new p v h
     · exact .inr (hown _ h)
    base := H.base
    blw := H.blw.trans ⟨hu.os, hu.tape, hu.output, hu.size, fun k hk hs => by
     have hkw : k < w.heap.size := by have := H.blw.size; rw [← H.base] at this; omega
     refine hu.block k hkw (fun hb => ?_)
     rcases hown k (.inr hb) with h | h
     · omega
     · exact hs h, hu.siz⟩ }
 have := hk (rep_ok hr) (heap_ok hp'.heap)
 exact hK _ _ _ _ _ this (hfin.put' hd (bck_rep V2 hr))

theorem sameLen_rep {M : Mem} {sz : Nat} : ∀ {us : List V} {cs : List Value}, sameLen sz us = true → repAll M NX us cs →
 ∀ (i : Nat) (c : Value), cs[i]? = some c → c.cells.size = sz ∧ (∀ u ∈ c.cells.toList, isCell u)
 | [], cs, _, h, i, c, hi => by simp only [repAll] at h; subst h; simp at hi
 | v :: vs, cs, hs, h, i, c, hi => by
   simp only [repAll] at h
   obtain ⟨c0, cs', rfl, h2, h3⟩ := h
   simp only [sameLen, Bool.and_eq_true, decide_eq_true_eq] at hs
   cases i with
   | zero =>
     simp at hi
     subst hi
     have := rep_cellsC h2 NX_cell (nt_spec hs.1.2)
     refine ⟨?_, this.2⟩
     have h4 := repAll_length this.1
     simp at h4; omega
   | succ i => simp at hi; exact sameLen_rep hs.2 h3 i c hi

def rowOf (cs : List Value) : List Value := (cs.map fun c => c.cells.toList).flatten
theorem rowOf_rep {M : Mem} {sz : Nat} : ∀ {us : List V} {cs : List Value}, sameLen sz us = true → repAll M NX us cs → repRow M sz us (rowOf cs)
 | [], cs, _, h => by simp only [repAll] at h; subst h; simp [repRow, rowOf]
 | v :: vs, cs, hs, h => by
   simp only [repAll] at h
   obtain ⟨c0, cs', rfl, h2, h3⟩ := h
   simp only [sameLen, Bool.and_eq_true, decide_eq_true_eq] at hs
   have hk := rep_cellsC h2 NX_cell (nt_spec hs.1.2)
   have h4 := repAll_length hk.1
   simp only [repRow]
   exact ⟨c0, rowOf cs', by simp [rowOf], h2, by simp at h4; omega, hk.2, rowOf_rep hs.2 h3⟩

theorem run_storeVar {t : TypeId} {n : Nat} (hs : szOf P t = some n) {b off : Nat} {T : TypeId} {cur : Array Value} (hg : w.heap[b]? = some (.cells cur T (0, 0))) {c : Value} (hc : c.cells.size = n) (h1 : ∀ u ∈ c.cells.toList, isCell u) (hle : off + n ≤ cur.size) :
 (Instr.storeAt t (.pointer (some ⟨b, off, none⟩)) c).run P w = .ok () (w.setRow b (cur.toList.take off ++ c.cells.toList ++ cur.toList.drop (off + c.cells.toList.length)).toArray) := by
 have h := run_storeCells_at P b off T c.cells.toList 0 cur w hg (by simp; omega) h1
 simp only [Nat.add_zero] at h
 simp [Instr.storeAt, Instr.sureAddr, storeVar, run_sizeOf hs, hc, h]

theorem repRow_set {M : Mem} {sz : Nat} : ∀ {l : List V} {xs : List Value} {i : Nat} {v' : V} {y' : Value}, repRow M sz l xs → i < l.length → rep M NX v' y' → y'.cells.size = sz → (∀ u ∈ y'.cells.toList, isCell u) →
 repRow M sz (l.set i v') (xs.take (i * sz) ++ y'.cells.toList ++ xs.drop (i * sz + sz))
 | [], xs, i, v', y', h, hi, _, _, _ => by simp at hi
 | v :: vs, xs, 0, v', y', h, hi, h1, h2, h3 => by
   simp only [repRow] at h
   obtain ⟨y, rest, rfl, g1, g2, g3, g4⟩ := h
   simp only [List.set_cons_zero, repRow]
   refine ⟨y', rest, ?_, h1, h2, h3, g4⟩
   simp [g2, List.drop_append]
 | v :: vs, xs, i + 1, v', y', h, hi, h1, h2, h3 => by
   simp only [repRow] at h
   obtain ⟨y, rest, rfl, g1, g2, g3, g4⟩ := h
   simp only [List.set_cons_succ, repRow]
   refine ⟨y, _, ?_, g1, g2, g3, repRow_set g4 (by simpa using hi) h1 h2 h3⟩
   have e1 : (i + 1) * sz = sz + i * sz := by rw [Nat.add_mul]; omega
   have hy : y.cells.toList.length = sz := by simpa using g2
   rw [e1, List.take_append, List.drop_append, hy]
   rw [List.take_of_length_le (by omega), List.drop_eq_nil_of_le (by omega)]
   have e2 : sz + i * sz - sz = i * sz := by omega
   have e3 : sz + i * sz + sz - sz = i * sz + sz := by omega
   rw [e2, e3]
   simp

theorem repRow_append {M : Mem} {sz : Nat} : ∀ {l m : List V} {xs ys : List Value}, repRow M sz l xs → repRow M sz m ys → repRow M sz (l ++ m) (xs ++ ys)
 | [], m, xs, ys, h, h' => by simp only [repRow] at h; subst h; simpa using h'
 | v :: vs, m, xs, ys, h, h' => by
   simp only [repRow] at h
   obtain ⟨y, rest, rfl, g1, g2, g3, g4⟩ := h
   simp only [List.cons_append, repRow]
   exact ⟨y, rest ++ ys, by simp, g1, g2, g3, repRow_append g4 h'⟩

theorem repMem_row {M : Mem} {sz : Nat} : ∀ {l : List V} {b off : Nat}, repMem M sz l b off → ∃ xs, repRow M sz l xs ∧ ∀ j u, xs[j]? = some u → M ⟨b, off + j, none⟩ = some u
 | [], b, off, _ => ⟨[], rfl, by simp⟩
 | v :: vs, b, off, h => by
   simp only [repMem] at h
   obtain ⟨⟨y, h1, h2, h3, h4⟩, h5⟩ := h
   obtain ⟨xs, g1, g2⟩ := repMem_row h5
   refine ⟨y.cells.toList ++ xs, by simp only [repRow]; exact ⟨y, xs, rfl, h1, h2, h3, g1⟩, fun j u hj => ?_⟩
   by_cases hlt : j < sz
   · rw [List.getElem?_append_left (by simp; omega)] at hj
     rw [h4 j hlt]; simpa using hj
   · rw [List.getElem?_append_right (by simp; omega)] at hj
     have := g2 _ u hj
     rw [← this]
     congr 2
     simp [h2]; omega

theorem repRow_cells {M : Mem} {sz : Nat} : ∀ {l : List V} {xs : List Value}, repRow M sz l xs → ∀ u ∈ xs, isCell u
 | [], xs, h, u, hu => by simp only [repRow] at h; subst h; cases hu
 | v :: vs, xs, h, u, hu => by
   simp only [repRow] at h
   obtain ⟨y, rest, rfl, g1, g2, g3, g4⟩ := h
   rcases List.mem_append.1 hu with hu | hu
   · exact g3 u hu
   · exact repRow_cells g4 u hu

theorem run_append_zero {t ty e : TypeId} {i : TypeInfo} (ht : P.underlying t = some (.slice e)) (hi : P.info? e = some i) (base ad : Option Addr) (n cap c : Nat) (hn : n ≤ cap) (w : World) :
 (Builtin.append_ #[t, t] ty #[.slice base n cap, .slice ad 0 c]).run P w = .ok (.slice base n cap) w := by
 cases base <;> cases ad <;> simp [Builtin.append_, run_underlying ht, sizeOf, typeInfo, hi, Builtin.lenOf, hn, Builtin.firstCells, loadCells, loadCellsFrom, storeCells]

theorem run_append_own' {t ty e : TypeId} {i : TypeInfo} {z : Value} {size bytes base : Nat} (ht : P.underlying t = some (.slice e)) (hi : P.info? e = some i) (hz : i.zero = some z)
 (hsize : i.size = size) (hby : i.bytes = bytes) (hzs : z.cells.size = size) (hsz : 0 < size)
 {v : Value} {n : Nat} {xs : List Value} (hown : w.ownsRow base e size v n xs)
 (ad : Addr) (m c : Nat) (news : List Value) (hl : news.length = m * size) (hnews : ∀ j u, news[j]? = some u → w.cell? (ad.add j) = some u) (h1 : ∀ u ∈ news, u.oneCell' = true)
 (hm : 0 < m) (hbytes : (n + m) * bytes ≤ 140737488355328) (h63 : n + m ≤ maxLen) (hbase : base ≤ w.heap.size) :
 ∃ v' w', (Builtin.append_ #[t, t] ty #[v, .slice (some ad) m c]).run P w = .ok v' w' ∧ w'.ownsRow base e size v' (n + m) (xs ++ news) ∧ w.grownBy w' v.ownBlock ∧ (∀ g, blk v' = some g → blk v = some g ∨ w.heap.size ≤ g) ∧ Siz w w' := by
 rcases hown.2 with ⟨rfl, rfl⟩ | ⟨g, cap, cur, rfl, hbg, hg, hnc, hcm, hcs, htake⟩
 · obtain ⟨v', w', hr, h2, h3, h4⟩ := run_append_own (P := P) w w.heap.size t ty e i z size bytes ht hi hz hsize hby hzs hsz (.slice none 0 0) 0 [] (World.ownsRow_nil w _ e size) ad m c news hl hnews h1 h63 hbytes (Nat.le_refl _)
   have hx : xs = [] := List.eq_nil_of_length_eq_zero (by simpa using hown.1)
   subst hx
   refine ⟨v', w', hr, ⟨h2.1, ?_⟩, h3, fun g hg => ?_, fun k cur T z hc => ⟨cur, T, z, by rw [h3.block k (Array.getElem?_eq_some_iff.1 hc).1 (by simp [Value.ownBlock])]; exact hc, rfl⟩⟩
   · rcases h2.2 with h5 | ⟨g, cap, cur, h5, h6, h7⟩
     · exact .inl h5
     · exact .inr ⟨g, cap, cur, h5, by omega, h7⟩
   · rcases h2.2 with h5 | ⟨g', cap, cur, h5, h6, h7⟩
     · rw [h5.1] at hg; cases hg
     · rw [h5] at hg; cases hg; exact .inr h6
 · by_cases hroom : n + m ≤ cap
   · subst hsize
     have hfit : n * i.size + news.length ≤ cur.size := by rw [hl, hcs, ← Nat.add_mul]; exact Nat.mul_le_mul_right _ hroom
     have hr := run_append_room (P := P) w t ty e i ht hi g n cap cur hg ad m c news hl hnews h1 hroom hfit
     obtain ⟨v', w', hr', h2, h3, h4⟩ := run_append_own (P := P) w base t ty e i z i.size bytes ht hi hz rfl hby hzs hsz _ n xs hown ad m c news hl hnews h1 h63 hbytes hbase
     rw [hr] at hr'
     injection hr' with e1 e2
     subst e1 e2
     refine ⟨_, _, hr, h2, h3, fun g' hg' => .inl hg', fun k cur1 T z hc => ?_⟩
     by_cases hk : k = g
     · subst hk
       refine ⟨_, T, z, setRow_heap w k cur1 _ T z hc, ?_⟩
       rw [hg] at hc
       cases hc
       simp only [List.size_toArray, List.length_append, List.length_take, List.length_drop, Array.length_toList]
       omega
     · exact ⟨cur1, T, z, by rw [setRow_other w g k _ hk]; exact hc, rfl⟩
   · obtain ⟨v', w', hr', h2, h3, h4⟩ := run_append_own (P := P) w base t ty e i z size bytes ht hi hz hsize hby hzs hsz _ n xs hown ad m c news hl hnews h1 h63 hbytes hbase
     subst hsize
     have holds : ∀ j u, xs[j]? = some u → w.cell? ((⟨g, 0, none⟩ : Addr).add j) = some u := hown.cells (g := g) rfl
     have hr := run_append_grow (P := P) w t ty e i z ht hi hz ⟨g, 0, none⟩ n cap xs hown.1 holds ad m c news hl hnews (by omega) (by simp only [maxLen] at h63; omega) (growslice_fits (by omega) (by rw [hby]; exact hbytes))
     rw [hr] at hr'
     injection hr' with e1 e2
     subst e1 e2
     exact ⟨_, _, hr, h2, h3, fun g' hg' => by cases hg'; exact .inr (Nat.le_refl _), fun k cur1 T z hc => ⟨cur1, T, z, by rw [Below.heap_alloc w.drew _ k (Array.getElem?_eq_some_iff.1 hc).1]; exact hc, rfl⟩⟩

theorem fill_row (size : Nat) : ∀ (cs : List Value) (k : Nat) (ds : Array Value), (∀ c ∈ cs, c.cells.size = size) → (k + cs.length) * size ≤ ds.size →
 Instr.fill (fun i => some (i * size, size)) ds ((List.range' k cs.length).zip cs) = some (ds.toList.take (k * size) ++ rowOf cs ++ ds.toList.drop ((k + cs.length) * size)).toArray
 | [], k, ds, _, _ => by simp [Instr.fill, rowOf]
 | c :: cs, k, ds, hc, hle => by
   have h0 := hc c (by simp)
   simp only [List.length_cons] at hle ⊢
   have e1 : (k + (cs.length + 1)) * size = k * size + size + cs.length * size := by simp only [Nat.add_mul, Nat.one_mul]; omega
   rw [List.range'_succ, List.zip_cons_cons]
   simp only [Instr.fill]
   have hno : ¬ (c.cells.size ≠ size || k * size + c.cells.size > ds.size) = true := by simp; omega
   rw [if_neg hno]
   have hf := foldl_splice' (k * size) c.cells ds (by omega)
   rw [hf]
   have hsz : c.cells.toList.length = size := by simpa using h0
   rw [fill_row size cs (k + 1) _ (fun c hc' => hc c (by simp [hc'])) (by simp only [List.size_toArray, List.length_append, List.length_take, List.length_drop, Array.length_toList]; rw [show (k + 1 + cs.length) * size = k * size + size + cs.length * size by simp only [Nat.add_mul, Nat.one_mul]]; omega)]
   congr 2
   have e2 : (k + 1) * size = k * size + size := by simp [Nat.add_mul]
   have e3 : (k + 1 + cs.length) * size = k * size + size + cs.length * size := by simp only [Nat.add_mul, Nat.one_mul]
   rw [e1, e2, e3]
   simp only [rowOf, List.map_cons, List.flatten_cons]
   have l1 : (ds.toList.take (k * size)).length = k * size := by simp; omega
   have t1 : List.take (k * size + size) (ds.toList.take (k * size) ++ c.cells.toList ++ ds.toList.drop (k * size + c.cells.toList.length)) = ds.toList.take (k * size) ++ c.cells.toList := by
    rw [List.take_append_of_le_length (by simp only [List.length_append, l1, hsz]; omega)]
    exact List.take_of_length_le (by simp only [List.length_append, l1, hsz]; omega)
   have t2 : List.drop (k * size + size + cs.length * size) (ds.toList.take (k * size) ++ c.cells.toList ++ ds.toList.drop (k * size + c.cells.toList.length)) = ds.toList.drop (k * size + size + cs.length * size) := by
    rw [List.drop_append, List.drop_eq_nil_of_le (by simp only [List.length_append, l1, hsz]; omega), List.nil_append, List.drop_drop]
    congr 1
    simp only [List.length_append, l1, hsz]; omega
   rw [t1, t2]
   simp

theorem madeCells_flat (z : Array Value) (m : Nat) (hz : 0 < z.size) : (madeCells z (m * z.size)).toList = (List.replicate m z.toList).flatten := by
 unfold madeCells
 rw [Array.toList_map, Array.toList_range]
 induction m with
 | zero => simp
 | succ m ih =>
   rw [Nat.add_mul, Nat.one_mul, List.range_add, List.map_append, ih, List.replicate_succ', List.flatten_append]
   congr 1
   simp only [List.flatten_cons, List.flatten_nil, List.append_nil, List.map_map]
   apply List.ext_getElem?
   intro j
   by_cases hj : j < z.size
   · simp [List.getElem?_range hj, hj, Nat.mul_add_mod', Nat.mod_eq_of_lt hj]
   · rw [List.getElem?_eq_none (by simp; omega), List.getElem?_eq_none (by simp; omega)]
theorem repRow_replicate {M : Mem} {sz : Nat} {v : V} {y : Value} (h : rep M NX v y) (hs : y.cells.size = sz) (hc : ∀ u ∈ y.cells.toList, isCell u) : ∀ m, repRow M sz (List.replicate m v) (List.replicate m y.cells.toList).flatten
 | 0 => by simp [repRow]
 | m + 1 => by
   simp only [List.replicate_succ, repRow, List.flatten_cons]
   exact ⟨y, _, rfl, h, hs, hc, repRow_replicate h hs hc m⟩

end
end Go.Abs
end
section
namespace Go.Abs
open Go.RowKit

section
variable {P : Program} {N : Nat} {M0 : Mem} {B : Bas} {w0 : World} {κ : Kap} {M : Mem} {σ : St} {a : Act} {w w' : World}

theorem XX_set {id : Nat} {old ob : Ob} {h : List (Option Ob)} (hid : h[id]? = some (some old)) {kv : Value} {kr : Nat → Value} {kb : Nat → Prop} {v : V} {c : Value} (hx : XX κ h v c)
 (hbox : ∀ cs, ob = .box cs → (∃ cs', old = .box cs') ∧ kv = κ id)
 (harr : ∀ e sz l, ob = .arr e sz l → ∃ e' l', old = .arr e' sz l' ∧ l'.length ≤ l.length ∧ (l'.length = l.length → kv = κ id))
 (hmat : ∀ e e2 sz rows, ob = .mat e e2 sz rows → ∃ e' e2' rows', old = .mat e' e2' sz rows' ∧ rows'.length = rows.length ∧ kv = κ id ∧ (∀ j r, rowAt rows j = some r → (∃ r', rowAt rows' j = some r' ∧ r'.length ≤ r.length ∧ (r'.length = r.length → kr j = κ.row id j)) ∨ ∃ k, rows'[j]? = some (.g k) ∧ k < r.length) ∧
   ∀ j k, rows[j]? = some (.g k) → (∃ r', rowAt rows' j = some r' ∧ r'.length ≤ k) ∨ ∃ k', rows'[j]? = some (.g k') ∧ k' ≤ k)
 (hmp : ob.nam = true → old.nam = true ∧ kv = κ id := by intro h; cases h) :
 XX (updK κ id kv kr kb) (h.set id (some ob)) v c := by
 have hlt : id < h.length := (List.getElem?_eq_some_iff.1 hid).1
 have key : ∀ {i : Nat} {o : Ob}, (h.set id (some ob))[i]? = some (some o) → (i = id ∧ ob = o) ∨ (i ≠ id ∧ h[i]? = some (some o)) := by
  intro i o hl
  rw [List.getElem?_set] at hl
  split at hl
  · rename_i he
    subst he
    simp only [hlt, if_true, Option.some.injEq] at hl
    exact .inl ⟨rfl, hl⟩
  · rename_i he
    exact .inr ⟨fun e => he e.symm, hl⟩
 cases v <;> simp only [XX] at hx ⊢
 case ref i n =>
  refine ⟨hx.1, by simpa using hx.2.1, fun e sz l hl => ?_, fun e e2 sz l hl => ?_, fun o hl hn => by
   rcases key hl with ⟨rfl, ho⟩ | ⟨he, hl⟩
   · subst ho
     obtain ⟨h1, h2⟩ := hmp hn
     rw [updK_v, h2]
     exact hx.2.2.2.2 _ hid h1
   · rw [(updK_ne he).1]
     exact hx.2.2.2.2 _ hl hn⟩
  · rcases key hl with ⟨rfl, ho⟩ | ⟨he, hl⟩
    · obtain ⟨e', l', h1, h2, h3⟩ := harr e sz l ho
      subst h1
      obtain ⟨g1, g2⟩ := hx.2.2.1 e' sz l' hid
      refine ⟨by omega, fun hn => ?_⟩
      rw [updK_v, h3 (by omega)]
      exact g2 (by omega)
    · rw [(updK_ne he).1]
      exact hx.2.2.1 e sz l hl
  · rcases key hl with ⟨rfl, ho⟩ | ⟨he, hl⟩
    · obtain ⟨e', e2', l', h1, h2, h3, h4⟩ := hmat e e2 sz l ho
      subst h1
      obtain ⟨g1, g2⟩ := hx.2.2.2.1 e' e2' sz l' hid
      refine ⟨by omega, fun hn => ?_⟩
      rw [updK_v, h3]
      exact g2 (by omega)
    · rw [(updK_ne he).1]
      exact hx.2.2.2.1 e e2 sz l hl
 case ptr i off =>
  refine ⟨hx.1, by simpa using hx.2.1, fun cs hl => ?_⟩
  rcases key hl with ⟨rfl, ho⟩ | ⟨he, hl⟩
  · obtain ⟨⟨cs', h1⟩, h2⟩ := hbox cs ho
    subst h1
    rw [updK_v, h2]
    exact hx.2.2 cs' hid
  · rw [(updK_ne he).1]
    exact hx.2.2 cs hl
 case eptr i n j off =>
  refine ⟨hx.1, by simpa using hx.2.1, fun e sz l hl => ?_, fun e e2 sz l hl => ?_⟩
  · rcases key hl with ⟨rfl, ho⟩ | ⟨he, hl⟩
    · obtain ⟨e', l', h1, h2, h3⟩ := harr e sz l ho
      subst h1
      obtain ⟨g1, g2⟩ := hx.2.2.1 e' sz l' hid
      refine ⟨by omega, fun hn hj => ?_⟩
      rw [updK_v, h3 (by omega)]
      exact g2 (by omega) hj
    · rw [(updK_ne he).1]
      exact hx.2.2.1 e sz l hl
  · rcases key hl with ⟨rfl, ho⟩ | ⟨he, hl⟩
    · obtain ⟨e', e2', l', h1, h2, h3, h4⟩ := hmat e e2 sz l ho
      subst h1
      obtain ⟨g1, g2⟩ := hx.2.2.2 e' e2' sz l' hid
      refine ⟨by omega, fun hn hj => ?_⟩
      rw [updK_v, h3]
      exact g2 (by omega) hj
    · rw [(updK_ne he).1]
      exact hx.2.2.2 e e2 sz l hl
 case fseq sz l => exact hx
 case mref i j n =>
  refine ⟨hx.1, by simpa using hx.2.1, fun e e2 sz l hl => ?_⟩
  rcases key hl with ⟨rfl, ho⟩ | ⟨he, hl⟩
  · obtain ⟨e', e2', l', h1, h2, h3, h4, h8⟩ := hmat e e2 sz l ho
    subst h1
    obtain ⟨q1, q2⟩ := hx.2.2 e' e2' sz l' hid
    refine ⟨fun r hr => ?_, fun k hk => ?_⟩
    · rcases h4 j r hr with ⟨r', h5, h6, h7⟩ | ⟨k, h5, h6⟩
      · obtain ⟨g1, g2⟩ := q1 r' h5
        refine ⟨by omega, fun hn => ?_⟩
        rw [updK_row, h7 (by omega)]
        exact g2 (by omega)
      · have := q2 k h5
        exact ⟨by omega, fun hn => by omega⟩
    · rcases h8 j k hk with ⟨r', h5, h6⟩ | ⟨k', h5, h6⟩
      · have := (q1 r' h5).1; omega
      · have := q2 k' h5; omega
  · rw [(updK_ne he).2.1]
    exact hx.2.2 e e2 sz l hl
 case mptr i j n k off =>
  refine ⟨hx.1, by simpa using hx.2.1, fun e e2 sz l hl => ?_⟩
  rcases key hl with ⟨rfl, ho⟩ | ⟨he, hl⟩
  · obtain ⟨e', e2', l', h1, h2, h3, h4, h8⟩ := hmat e e2 sz l ho
    subst h1
    obtain ⟨q1, q2⟩ := hx.2.2 e' e2' sz l' hid
    refine ⟨fun r hr => ?_, fun q hk => ?_⟩
    · rcases h4 j r hr with ⟨r', h5, h6, h7⟩ | ⟨k', h5, h6⟩
      · obtain ⟨g1, g2⟩ := q1 r' h5
        refine ⟨by omega, fun hn hk => ?_⟩
        rw [updK_row, h7 (by omega)]
        exact g2 (by omega) hk
      · have := q2 k' h5
        exact ⟨by omega, fun hn _ => by omega⟩
    · rcases h8 j q hk with ⟨r', h5, h6⟩ | ⟨k', h5, h6⟩
      · have := (q1 r' h5).1; omega
      · have := q2 k' h5; omega
  · rw [(updK_ne he).2.1]
    exact hx.2.2 e e2 sz l hl

theorem below_setRow {g : Nat} (hg : B.own g) (cs : Array Value) (hsz : ∀ cur T z, w.heap[g]? = some (.cells cur T z) → cs.size = cur.size) : Und B w (w.setRow g cs) :=
 ⟨rfl, rfl, rfl, by simp, fun k hk hs => setRow_other w g k cs (fun e => by subst e; rcases hg with h | h; omega; exact hs h), fun k cur T z hc => by
   by_cases hk : k = g
   · subst hk
     exact ⟨cs, T, z, setRow_heap w k cur cs T z hc, hsz cur T z hc⟩
   · exact ⟨cur, T, z, by rw [setRow_other w g k cs hk]; exact hc, rfl⟩⟩

theorem grown_below {n : Nat} {row : Option Nat} (hg : w.grownBy w' row) (hr : ∀ g, row = some g → n ≤ g) (hB : n ≤ w.heap.size) : Below n w w' :=
 ⟨hg.os, hg.tape, hg.output, hg.size, fun k hk => hg.block k (by omega) (fun e => by have := hr k e.symm; omega)⟩
theorem setRow_size {e sz n n' b : Nat} {v : Value} {row : Array Value} {xs ys : List Value} (h1 : w.ownsRow 0 e sz v n xs) (h2 : (w.setRow b row).ownsRow 0 e sz v n' ys) (hb : blk v = some b) (cur : Array Value) (T : TypeId) (z : Nat × Nat) (hc : w.heap[b]? = some (Obj.cells cur T z)) : row.size = cur.size := by
 rcases h1.2 with ⟨h3, _⟩ | ⟨g, cap, cur1, h3, _, h4, _, _, h5, _⟩
 · rw [h3] at hb; cases hb
 · rcases h2.2 with ⟨h6, _⟩ | ⟨g', cap', cur2, h6, _, h7, _, _, h8, _⟩
   · rw [h6] at hb; cases hb
   · rw [h3] at hb h6
     simp only [blk, Option.some.injEq] at hb
     subst hb
     simp only [Value.slice.injEq, Option.some.injEq, Addr.mk.injEq, and_true] at h6
     obtain ⟨rfl, _, rfl⟩ := h6
     rw [hc] at h4
     simp only [Option.some.injEq, Obj.cells.injEq] at h4
     obtain ⟨rfl, _, _⟩ := h4
     rw [setRow_heap w g cur row T z hc] at h7
     simp only [Option.some.injEq, Obj.cells.injEq] at h7
     obtain ⟨rfl, _, _⟩ := h7
     rw [h5, h8]
theorem grown_und {row : Option Nat} (hg : w.grownBy w' row) (hr : ∀ g, row = some g → B.own g) (hB : B.n ≤ w.heap.size) (hs : Siz w w') : Und B w w' :=
 ⟨hg.os, hg.tape, hg.output, hg.size, fun k hk hs => hg.block k (by omega) (fun e => by rcases hr k e.symm with h | h; omega; exact hs h), hs⟩

theorem src_row {e sz : Nat} {val : Value} {l : List V} {xs : List Value} (h2 : w.ownsRow 0 e sz val l.length xs) (h3 : repRow M sz l xs) (h0 : 0 < sz) (h1 : l.length ≤ 140737488355328) :
 ∃ (ad : Option Addr) (cap : Nat), val = .slice ad l.length cap ∧ l.length ≤ 140737488355328 ∧ 0 < sz ∧ (l = [] ∨ ∃ (b off : Nat) (xs : List Value), ad = some ⟨b, off, none⟩ ∧ repRow M sz l xs ∧ ∀ j u, xs[j]? = some u → w.cell? ((⟨b, off, none⟩ : Addr).add j) = some u) := by
 rcases h2.2 with ⟨h4, h5⟩ | ⟨g, cap, cur, h4, h5, h6, h7, h8, h9⟩
 · exact ⟨none, 0, by rw [h4, h5], h1, h0, .inl (List.eq_nil_of_length_eq_zero h5)⟩
 · exact ⟨some ⟨g, 0, none⟩, cap, by rw [h4], h1, h0, .inr ⟨g, 0, xs, rfl, h3, fun j u hu => h2.cells (g := g) (by rw [h4]; rfl) j u hu⟩⟩
theorem seq_src (H : Rel N M0 B w0 κ M σ a w) {v : V} {c : Value} {sz : Nat} {l : List V} (hr : rep M (XX κ σ.h) v c) (hp : src σ.h v = some (.seq sz l)) :
 ∃ (ad : Option Addr) (cap : Nat), c = .slice ad l.length cap ∧ l.length ≤ 140737488355328 ∧ 0 < sz ∧ (l = [] ∨ ∃ (b off : Nat) (xs : List Value), ad = some ⟨b, off, none⟩ ∧ repRow M sz l xs ∧ ∀ j u, xs[j]? = some u → w.cell? ((⟨b, off, none⟩ : Addr).add j) = some u) := by
 cases v <;> simp only [src, pur] at hp <;> try (cases hp; done)
 case nil sz' =>
  cases hp
  simp only [rep] at hr
  exact ⟨none, 0, hr.1, by simp, hr.2, .inl rfl⟩
 case seq sz' l' =>
  cases hp
  simp only [rep] at hr
  obtain ⟨ad, cap, h1, _, h2', h2, h3⟩ := hr
  refine ⟨ad, cap, h1, h2', h2, ?_⟩
  rcases h3 with h3 | ⟨b, off, h4, h5⟩
  · exact .inl h3
  · obtain ⟨xs, g1, g2⟩ := repMem_row h5
    exact .inr ⟨b, off, xs, h4, g1, fun j u hu => by rw [Addr.add_lit]; exact H.snd _ _ (g2 j u hu)⟩
 case fseq sz' l' =>
  cases hp
  simp only [rep, XX] at hr
  obtain ⟨_, ad, cap, h1, _, h2', h2, h3⟩ := hr
  refine ⟨ad, cap, h1, h2', h2, ?_⟩
  rcases h3 with h3 | ⟨b, off, h4, h5⟩
  · exact .inl h3
  · obtain ⟨xs, g1, g2⟩ := repMem_row (repMem_mono H.sub.fmS _ _ _ _ h5)
    exact .inr ⟨b, off, xs, h4, g1, fun j u hu => by rw [Addr.add_lit]; exact H.snd _ _ (g2 j u hu)⟩
 case ref id n =>
  split at hp
  · rename_i e sz' l' hh
    split at hp
    · rename_i hn
      cases hp
      simp only [rep, XX] at hr
      have hc := (hr.2.2.1 e _ _ hh).2 hn
      obtain ⟨h0, h1, xs, h2, h3, _⟩ := H.heap id _ hh
      rw [hc]
      exact src_row h2 h3 h0 h1
    · cases hp
  · cases hp
 case mref id i n =>
  simp only [pur2] at hp
  split at hp
  · rename_i e e2 sz' rows hh
    split at hp
    · rename_i r hrr
      split at hp
      · rename_i hn
        cases hp
        simp only [rep, XX] at hr
        have hc := ((hr.2.2 _ _ _ _ hh).1 _ hrr).2 hn
        obtain ⟨h0, _, _, h5, _⟩ := H.heap id _ hh
        obtain ⟨h1, ys, h2, h3⟩ := h5 i _ hrr
        rw [hc]
        exact src_row h2 h3 h0 h1
      · cases hp
    · cases hp
  · cases hp
 all_goals first
  | (obtain ⟨_, _, h⟩ := Option.map_eq_some_iff.1 hp; cases h; done)
  | (split at hp <;> cases hp; done)

theorem len_pos {l : List V} (h : ¬ l = []) : 0 < l.length := by
 cases l with
 | nil => exact (h rfl).elim
 | cons _ _ => simp

theorem owns_slice {base e size n : Nat} {v : Value} {xs : List Value} (h : w.ownsRow base e size v n xs) : (v = .slice none 0 0 ∧ n = 0) ∨ ∃ g cap, v = .slice (some ⟨g, 0, none⟩) n cap := by
 rcases h.2 with h | ⟨g, cap, cur, h, _⟩
 · exact .inl h
 · exact .inr ⟨g, cap, h⟩

theorem app_ref (H : Rel N M0 B w0 κ M σ a w) {ty t e' : TypeId} {i : TypeInfo} {z : Value} {sz' by' : Nat} (ht : P.underlying t = some (.slice e')) (hi : P.info? e' = some i) (hz : i.zero = some z)
 (hs : i.size = sz') (hby : i.bytes = by') (hb0 : 0 < by') (hzs : z.cells.size = sz') (hn : 0 < sz') {d : Option Nat} (hd : ∀ t, d = some t → t < N ∧ t ∉ B.ps) {id : Nat} {l0 l : List V} (ha : σ.h[id]? = some (some (.arr e' sz' l0))) {cy : Value} {ad : Option Addr} {cap : Nat}
 (hcy : cy = .slice ad l.length cap) (hll : l.length ≤ 140737488355328) (hrow : l = [] ∨ ∃ (b off : Nat) (xs : List Value), ad = some ⟨b, off, none⟩ ∧ repRow M sz' l xs ∧ ∀ j u, xs[j]? = some u → w.cell? ((⟨b, off, none⟩ : Addr).add j) = some u)
 (hb : (l0.length + l.length) * by' ≤ 140737488355328) {Nx : Act → World → Prop} (hK : ∀ κ' M' a' w', Rel N M0 B w0 κ' M' ({ σ with h := σ.h.set id (some (.arr e' sz' (l0 ++ l))) }.put d (.ref id (l0.length + l.length))) a' w' → Nx a' w') :
 ∃ c w1, (Builtin.append_ #[t, t] ty #[κ id, cy]).run P w = .ok c w1 ∧ Nx (a.put d c) w1 := by
 have hBw : B.n ≤ w.heap.size := by rw [H.base]; exact H.blw.size
 obtain ⟨h0, h1, xs0, ho0, hrow0, hown0, hbl0⟩ := H.heap id _ ha
 rw [hcy]
 have fin : ∀ (v' : Value) (w' : World) (xs : List Value), w'.ownsRow 0 e' sz' v' (l0.length + l.length) (xs0 ++ xs) → repRow M sz' l xs → (l = [] → v' = κ id) → l0.length + l.length ≤ 140737488355328 → Und B w w' →
  (∀ k, k < w.heap.size → ¬ κ.bl id k → w'.heap[k]? = w.heap[k]?) → (∀ g, blk v' = some g → κ.bl id g ∨ w.heap.size ≤ g) → Nx (a.put d v') w' := by
  intro v' w' xs g1 hrow g0 hle hBl hoth g3
  have hX : ∀ v c, XX κ σ.h v c → XX (upd κ id v') (σ.h.set id (some (Ob.arr e' sz' (l0 ++ l)))) v c := fun v c hx => XX_set ha hx (fun cs h => by cases h) (fun e2 sz2 l2 h => by
   cases h
   refine ⟨e', l0, rfl, by simp, fun hlen => g0 ?_⟩
   simp at hlen
   exact hlen) (fun _ _ _ _ h => by cases h)
  have hlt : id < σ.h.length := (List.getElem?_eq_some_iff.1 ha).1
  have H' := H.setOb ha hBl hoth g3 hX (by
   simp only [obAt]
   exact ⟨hn, by simpa using hle, xs0 ++ xs, by rw [upd_self]; simpa using g1, repRow_append hrow0 hrow, fun g hg => by
    rw [updK_bl] at hg
    rcases g3 g hg with h | h
    · exact hown0 g h
    · exact .inl (by omega), fun g => by rw [updK_bl, updK_v]⟩)
  refine hK _ _ _ _ (H'.put' hd ?_)
  simp only [rep, XX]
  refine ⟨?_, by simpa using hlt, fun e2 sz2 l2 h2 => ?_, fun e2 sz2 l2 l3 h2 => by simp [List.getElem?_set, hlt] at h2, fun o2 h2 hn => by simp [List.getElem?_set, hlt] at h2; subst h2; cases hn⟩
  · rcases owns_slice g1 with ⟨h, _⟩ | ⟨g, cap, h⟩ <;> rw [h] <;> rfl
  · simp only [List.getElem?_set, if_true, hlt, Option.some.injEq, Ob.arr.injEq] at h2
    obtain ⟨rfl, rfl, rfl⟩ := h2
    exact ⟨by simp, fun _ => upd_self.symm⟩
 by_cases hz0 : l = []
 · subst hz0
   rcases owns_slice ho0 with ⟨hv0, hl0⟩ | ⟨g, cp, hv0⟩
   · have hr := run_append_zero (P := P) (ty := ty) ht hi none ad 0 0 cap (Nat.le_refl _) w
     rw [hv0]
     refine ⟨_, _, hr, fin _ w [] ?_ (by simp [repRow]) (fun _ => hv0.symm) (by simpa using h1) (Und.refl _ _) (fun _ _ _ => rfl) (fun g hg => .inl ((hbl0 g).2 (by rw [hv0]; exact hg)))⟩
     simpa [← hv0] using ho0
   · have hcp : l0.length ≤ cp := by
      rcases ho0.2 with ⟨h, _⟩ | ⟨g', cap', cur, h, _, _, h7, _⟩
      · rw [h] at hv0; cases hv0
      · rw [h] at hv0; cases hv0; exact h7
     have hr := run_append_zero (P := P) (ty := ty) ht hi (some ⟨g, 0, none⟩) ad l0.length cp cap hcp w
     rw [hv0]
     refine ⟨_, _, hr, fin _ w [] ?_ (by simp [repRow]) (fun _ => hv0.symm) (by simpa using h1) (Und.refl _ _) (fun _ _ _ => rfl) (fun g hg => .inl ((hbl0 g).2 (by rw [hv0]; exact hg)))⟩
     simpa [← hv0] using ho0
 · rcases hrow with hrow | ⟨b, off, xs, had, hrow, hcells⟩
   · exact (hz0 hrow).elim
   · have hlen := repRow_length hrow
     have hbytes : l0.length + l.length ≤ (l0.length + l.length) * by' := Nat.le_mul_of_pos_right _ hb0
     obtain ⟨v', w', hr, g1, g2, g3, g4⟩ := run_append_own' (P := P) (ty := ty) (base := 0) ht hi hz hs hby hzs hn ho0 ⟨b, off, none⟩ l.length cap xs hlen hcells (repRow_cells hrow) (len_pos hz0)
      hb (by simp only [maxLen]; omega) (Nat.zero_le _)
     rw [had]
     have hown : (κ id).ownBlock = blk (κ id) := by
      rcases owns_slice ho0 with ⟨hv0, _⟩ | ⟨g, cp, hv0⟩ <;> rw [hv0] <;> rfl
     rw [hown] at g2
     refine ⟨v', w', hr, fin v' w' xs g1 hrow (fun h => (hz0 h).elim) ?_ (grown_und g2 (fun g hg => (H.blk_lt ha ((hbl0 g).2 hg)).1) hBw g4) (fun k hk hne => g2.block k hk (fun e => hne ((hbl0 k).2 e.symm))) (fun g hg => (g3 g hg).imp (fun h => (hbl0 g).2 h) (fun h => h))⟩
     omega

theorem rowAt_set {rows : List Rw} {i j : Nat} {x : Rw} {r : List V} (h : rowAt (rows.set i x) j = some r) : (j = i ∧ i < rows.length ∧ x = .a r) ∨ (j ≠ i ∧ rowAt rows j = some r) := by
 have h' := (rowAt_lt h).1
 rw [List.getElem?_set] at h'
 split at h'
 · rename_i he
   subst he
   split at h'
   · rename_i hl
     simp only [Option.some.injEq] at h'
     exact .inl ⟨rfl, hl, h'⟩
   · cases h'
 · rename_i he
   exact .inr ⟨fun e => he e.symm, by unfold rowAt; rw [h']⟩
theorem rowLen_of {rows : List Rw} {i k : Nat} (h : rowLen rows i = some k) : (∃ r, rowAt rows i = some r ∧ r.length = k) ∨ rows[i]? = some (.g k) := by
 unfold rowLen at h
 split at h
 · rename_i r hr; cases h; exact .inl ⟨r, by unfold rowAt; rw [hr], rfl⟩
 · rename_i k hr; cases h; exact .inr hr
 · cases h
theorem rowLen_lt {rows : List Rw} {i k : Nat} (h : rowLen rows i = some k) : i < rows.length := by
 rcases rowLen_of h with ⟨r, h1, _⟩ | h
 · exact (rowAt_lt h1).2
 · exact (List.getElem?_eq_some_iff.1 h).1
theorem Rel.detach (H : Rel N M0 B w0 κ M σ a w) {id : Nat} {e e2 sz i : Nat} {rows : List Rw} {r : List V} (hm : σ.h[id]? = some (some (.mat e e2 sz rows))) (hr : rowAt rows i = some r) :
 ∃ κ', Rel N M0 B w0 κ' M { σ with h := σ.h.set id (some (.mat e e2 sz (rows.set i (.g r.length)))) ++ [some (.arr e2 sz r)] } a w ∧ κ' σ.h.length = κ.row id i := by
 obtain ⟨h0, h1, ⟨xs, h2, h3, h4⟩, h5, h6, h7, hown, hbl⟩ := H.heap id _ hm
 obtain ⟨q1, ys, q2, q3⟩ := h5 i r hr
 have hlt : id < σ.h.length := (List.getElem?_eq_some_iff.1 hm).1
 have hX : ∀ v c, XX κ σ.h v c → XX (updK κ id (κ id) (κ.row id) (fun g => blk (κ id) = some g ∨ ∃ j s, rowAt (rows.set i (.g r.length)) j = some s ∧ blk (κ.row id j) = some g)) (σ.h.set id (some (Ob.mat e e2 sz (rows.set i (.g r.length))))) v c := fun v c hx =>
  XX_set hm hx (fun _ h => by cases h) (fun _ _ _ h => by cases h) (fun e' e2' sz' rows' h => by
   cases h
   refine ⟨e, e2, rows, rfl, by simp, rfl, fun j s hs => ?_, fun j k hk => ?_⟩
   · rcases rowAt_set hs with ⟨_, _, h⟩ | ⟨_, h⟩
     · cases h
     · exact .inl ⟨s, h, Nat.le_refl _, fun _ => rfl⟩
   · rw [List.getElem?_set] at hk
     split at hk
     · rename_i he
       subst he
       split at hk
       · cases hk
         exact .inl ⟨r, hr, Nat.le_refl _⟩
       · cases hk
     · exact .inr ⟨k, hk, Nat.le_refl _⟩)
 have rs : ∀ {j : Nat} {s : List V}, rowAt (rows.set i (.g r.length)) j = some s → j ≠ i ∧ rowAt rows j = some s := by
  intro j s hs
  rcases rowAt_set hs with ⟨_, _, h⟩ | h
  · cases h
  · exact h
 have H1 := H.setOb (ob := .mat e e2 sz (rows.set i (.g r.length))) hm (Und.refl _ w) (fun _ _ _ => rfl) (kv := κ id) (kr := κ.row id) (kb := fun g => blk (κ id) = some g ∨ ∃ j s, rowAt (rows.set i (.g r.length)) j = some s ∧ blk (κ.row id j) = some g) (fun g hg => .inl ((hbl g).2 (hg.imp (fun h => h) fun ⟨j, s, k1, k2⟩ => ⟨j, s, (rs k1).2, k2⟩))) hX (by
  simp only [obAt]
  rw [updK_v, updK_row, updK_bl]
  refine ⟨h0, by simpa using h1, ⟨xs, by simpa using h2, h3, fun j s hs => h4 j s (rs hs).2⟩, fun j s hs => h5 j s (rs hs).2, fun j k s s' g hs hs' => h6 j k s s' g (rs hs).2 (rs hs').2, fun j s g hs => h7 j s g (rs hs).2, fun g hg => ?_, fun g => Iff.rfl⟩
  exact hown g ((hbl g).2 (hg.imp (fun h => h) fun ⟨j, s, k1, k2⟩ => ⟨j, s, (rs k1).2, k2⟩)))
 have hnb : ∀ g, blk (κ.row id i) = some g → κ.bl id g := fun g hg => (hbl g).2 (.inr ⟨i, r, hr, hg⟩)
 have hlen : (σ.h.set id (some (Ob.mat e e2 sz (rows.set i (.g r.length))))).length = σ.h.length := by simp
 have H2 := H1.newOb' (w' := w) (ob := .arr e2 sz r) (Below.refl _ _) (kv := κ.row id i) (kr := fun _ => Go.undef) (kb := fun g => blk (κ.row id i) = some g) (fun g hg j oj hj hj' => by
  simp only at hj
  rw [List.getElem?_set] at hj
  split at hj
  · rename_i he
    subst he
    rw [updK_bl] at hj'
    rcases hj' with h | ⟨k, s, k1, k2⟩
    · exact h7 i r g hr hg h
    · exact (rs k1).1 (h6 k i s r g (rs k1).2 hr k2 hg)
  · rename_i he
    rw [(updK_ne (fun e => he e.symm)).2.2] at hj'
    exact he (H.inj id j _ oj g hm hj (hnb g hg) hj')) (fun p v hp hg => H.sep p v hp id _ hm (hnb _ hg)) (by
  simp only [obAt]
  rw [updK_v, updK_bl]
  exact ⟨h0, q1, ys, q2, q3, fun g hg => hown g (hnb g hg), fun g => Iff.rfl⟩)
 rw [hlen] at H2
 exact ⟨_, H2, updK_v⟩

theorem repRow_take {sz : Nat} : ∀ (b : Nat) {l : List V} {xs : List Value}, repRow M sz l xs → repRow M sz (l.take b) (xs.take (b * sz))
 | 0, l, xs, h => by simp [repRow]
 | b + 1, [], xs, h => by simp only [repRow] at h; simp [h, repRow]
 | b + 1, v :: vs, xs, h => by
   simp only [repRow] at h
   obtain ⟨y, rest, rfl, h1, h2, h3, h4⟩ := h
   simp only [List.take_succ_cons, repRow]
   refine ⟨y, rest.take (b * sz), ?_, h1, h2, h3, repRow_take b h4⟩
   have hl : y.cells.toList.length = sz := by simpa using h2
   rw [List.take_append, hl, List.take_of_length_le (by rw [Nat.add_mul]; omega)]
   congr 2
   rw [Nat.add_mul]; omega
theorem lkF_mem {t : Nat} {f : FuncId} : ∀ {l : List (Nat × FuncId)}, lkF l t = some f → (t, f) ∈ l
 | [], h => by simp [lkF] at h
 | (u, g) :: l, h => by
   simp only [lkF] at h
   split at h
   · rename_i he; subst he; cases h; simp
   · exact List.mem_cons_of_mem _ (lkF_mem h)
theorem invF_fst {name : String} {t : TypeId} {x : Nat × FuncId} (h : invF P name t = some x) : x.1 = t := by
 unfold invF at h
 split at h
 · split at h
   · split at h <;> first | (cases h; done) | (cases h; rfl)
   · cases h
 · cases h
theorem run_method {name : String} {t : TypeId} {f : FuncId} (h : lkF (invT P name) t = some f) (n : Nat) (v : Value) (w : World) : (method (n + 1) t v name).run P w = .ok (f, v) w := by
 obtain ⟨i, _, hi⟩ := List.mem_filterMap.1 (lkF_mem h)
 have := invF_fst hi
 simp only at this
 subst this
 unfold invF at hi
 split at hi
 · rename_i ti hti
   split at hi
   · rename_i m hm
     split at hi
     · cases hi
     · rename_i hp hf hu
       cases hi
       simp [method, typeInfo, hti, hm, hp, follow, hf, receiverAt, run_underlying hu, Place.get]
     · rename_i d hne hp hf hu
       cases hi
       cases d <;> first | exact (hne _ rfl).elim | simp [method, typeInfo, hti, hm, hp, follow, hf, receiverAt, run_underlying hu, Place.get]
     · cases hi
   · cases hi
 · cases hi
theorem Rel.trunc (H : Rel N M0 B w0 κ M σ a w) {id : Nat} {e sz b : Nat} {l : List V} (hm : σ.h[id]? = some (some (.arr e sz l))) (hb : b ≤ l.length) {ad : Option Addr} {n cap : Nat} (hc : κ id = .slice ad n cap) :
 ∃ κ', Rel N M0 B w0 κ' M { σ with h := σ.h.set id none ++ [some (.arr e sz (l.take b))] } a w ∧ κ' σ.h.length = .slice ad b cap := by
 obtain ⟨h0, h1, xs, h2, h3, hown, hbl⟩ := H.heap id _ hm
 have hlt : id < σ.h.length := (List.getElem?_eq_some_iff.1 hm).1
 have hlen : (σ.h.set id none).length = σ.h.length := by simp
 have H1 := H.drop id
 have hbk : ∀ g, blk (.slice ad b cap) = some g → κ.bl id g := fun g hg => (hbl g).2 (by rw [hc]; cases ad <;> exact hg)
 have H2 := H1.newOb' (w' := w) (ob := .arr e sz (l.take b)) (Below.refl _ _) (kv := .slice ad b cap) (kr := fun _ => Go.undef) (kb := fun g => blk (.slice ad b cap) = some g) (fun g hg j oj hj hj' => by
  simp only at hj
  rw [List.getElem?_set] at hj
  split at hj
  · first | (cases hj; done) | (split at hj <;> cases hj)
  · rename_i he
    exact he (H.inj id j _ oj g hm hj (hbk g hg) hj')) (fun p v hp hg => H.sep p v hp id _ hm (hbk _ hg)) (by
  simp only [obAt]
  rw [updK_v, updK_bl]
  refine ⟨h0, by simp; omega, xs.take (b * sz), ?_, repRow_take b h3, fun g hg => hown g (hbk g hg), fun g => Iff.rfl⟩
  have hxl := repRow_length h3
  refine ⟨by simp only [List.length_take, hxl]; rw [Nat.min_eq_left hb, Nat.min_eq_left (Nat.mul_le_mul_right _ hb)], ?_⟩
  rcases h2.2 with ⟨h4, h5⟩ | ⟨g, cap', cur, h4, h5, h6, h7, h8, h9, h10⟩
  · rw [hc] at h4
    cases h4
    exact .inl ⟨by rw [show b = 0 by omega], by simp [show b = 0 by omega]⟩
  · rw [hc] at h4
    cases h4
    refine .inr ⟨g, _, cur, by rw [List.length_take, Nat.min_eq_left hb], h5, h6, by rw [List.length_take, Nat.min_eq_left hb]; omega, h8, h9, ?_⟩
    · rw [List.length_take, Nat.min_eq_left hb, ← h10]
      simp [List.take_take, Nat.min_eq_left (Nat.mul_le_mul_right sz hb)])
 rw [hlen] at H2
 exact ⟨_, H2, updK_v⟩

theorem app_sound (H : Rel N M0 B w0 κ M σ a w) {ty t e : TypeId} {x y : Operand} {x' y' : AO} {i : TypeInfo} {z : Value} {n by' : Nat} (ht : P.underlying t = some (.slice e)) (hi : P.info? e = some i) (hz : i.zero = some z)
 (hs : i.size = n) (hby : i.bytes = by') (hb0 : 0 < by') (hzs : z.cells.size = n) (hn : 0 < n) (hx : cO P t x = some x') (hy : cO P t y = some y') {d : Option Nat} (hd : ∀ t, d = some t → t < N ∧ t ∉ B.ps) {Φ : Ctr} {K : St → Prop}
 (hW : wact Φ d (.app x' y' e n by') K σ) {Nx : Act → World → Prop} (hK : ∀ κ' M' σ' a' w', K σ' → Rel N M0 B w0 κ' M' σ' a' w' → Nx a' w') :
 ∃ c w1, (Builtin.append_ #[t, t] ty #[a.eval x, a.eval y]).run P w = .ok c w1 ∧ Nx (a.put d c) w1 := by
 have hBw : B.n ≤ w.heap.size := by rw [H.base]; exact H.blw.size
 simp only [wact] at hW
 split at hW
 · rename_i u v hu hv
   split at hW
   · rename_i sz l hl
     obtain ⟨rfl, hW⟩ := hW
     have hrx := H.op hx hu
     obtain ⟨ad, cap, hcy, hll, _, hrow⟩ := seq_src H (H.op hy hv) hl
     split at hW
     · -- nil
       rename_i sz0
       obtain ⟨hb, hW⟩ := hW
       simp only [rep] at hrx
       rw [hrx.1, hcy]
       have fin : ∀ (v' : Value) (w' : World) (xs : List Value), w'.ownsRow 0 e sz v' l.length xs → repRow M sz l xs → Below w.heap.size w w' → (∀ g, blk v' = some g → w.heap.size ≤ g) → Nx (a.put d v') w' := by
        intro v' w' xs g1 hrow hBl g3
        have ho : obAt (upd κ σ.h.length v') M (XX (upd κ σ.h.length v') (σ.h ++ [some (Ob.arr e sz l)])) B w' σ.h.length (.arr e sz l) := by
         simp only [obAt]
         exact ⟨hn, hll, xs, by rw [upd_self]; exact g1, hrow, fun g hg => .inl (by rw [updK_bl] at hg; have := g3 g hg; omega), fun g => by rw [updK_bl, updK_v]⟩
        have H' := H.newOb hBl g3 ho
        refine hK _ _ _ _ _ hW (H'.put' hd ?_)
        simp only [rep, XX]
        refine ⟨?_, by simp, fun e2 sz2 l2 h2 => ?_, fun e2 sz2 l2 l3 h2 => by simp at h2, fun o2 h2 hn => by simp at h2; subst h2; cases hn⟩
        · rcases owns_slice g1 with ⟨h, _⟩ | ⟨g, cap, h⟩ <;> rw [h] <;> rfl
        · simp at h2
          obtain ⟨rfl, rfl, rfl⟩ := h2
          exact ⟨Nat.le_refl _, fun _ => upd_self.symm⟩
       by_cases h0 : l = []
       · subst h0
         have hr := run_append_zero (P := P) (ty := ty) ht hi none ad 0 0 cap (Nat.le_refl _) w
         exact ⟨_, _, hr, fin _ w [] (World.ownsRow_nil w 0 e sz) (by simp [repRow]) (Below.refl _ _) (fun g hg => by cases hg)⟩
       · rcases hrow with hrow | ⟨b, off, xs, had, hrow, hcells⟩
         · exact (h0 hrow).elim
         · have hlen := repRow_length hrow
           obtain ⟨v', w', hr, g1, g2, g3, g4⟩ := run_append_own' (P := P) (ty := ty) (base := 0) ht hi hz hs hby hzs hn (World.ownsRow_nil w 0 e sz) ⟨b, off, none⟩ l.length cap xs hlen hcells (repRow_cells hrow) (len_pos h0)
            (by simpa using hb) (by simp only [maxLen]; omega) (Nat.zero_le _)
           rw [had]
           refine ⟨v', w', hr, fin v' w' xs (by simpa using g1) hrow (grown_below g2 (fun g hg => by simp [Value.ownBlock] at hg) (Nat.le_refl _)) (fun g hg => ?_)⟩
           rcases g3 g hg with h | h
           · cases h
           · exact h
     · -- a row of its own
       rename_i id m
       split at hW
       · rename_i e' sz' l0 hal
         obtain ⟨rfl, rfl, rfl, hb, hW⟩ := hW
         have ha := arr?_eq hal
         simp only at ha
         simp only [rep, XX] at hrx
         have hck := (hrx.2.2.1 _ _ _ ha).2 rfl
         rw [hck]
         exact app_ref H ht hi hz hs hby hb0 hzs hn hd ha hcy hll hrow hb fun κ' M' a' w' h => hK _ _ _ _ _ hW h
       · exact hW.elim
     · -- a row of rows of its own
       rename_i id j m
       split at hW
       · rename_i e1 e2 sz2 rows hal
         split at hW
         · rename_i r hr
           obtain ⟨rfl, rfl, rfl, hb, hW⟩ := hW
           have ha := rws?_eq hal
           simp only at ha
           simp only [rep, XX] at hrx
           have hck := ((hrx.2.2 _ _ _ _ ha).1 _ hr).2 rfl
           obtain ⟨κ', H', hk'⟩ := H.detach ha hr
           have hlen : (σ.h.set id (some (Ob.mat e1 e2 sz2 (rows.set j (.g r.length))))).length = σ.h.length := by simp
           rw [hck, ← hk']
           refine app_ref H' ht hi hz hs hby hb0 hzs hn hd (id := σ.h.length) (l0 := r) (by simp only; rw [← hlen, List.getElem?_append_right (Nat.le_refl _)]; simp) hcy hll hrow hb fun κ' M' a' w' h => hK κ' M' _ a' w' hW ?_
           have e1 : (σ.h.set id (some (Ob.mat e1 e2 sz2 (rows.set j (.g r.length)))) ++ [some (Ob.arr e2 sz2 r)]).set σ.h.length (some (Ob.arr e2 sz2 (r ++ l))) = σ.h.set id (some (Ob.mat e1 e2 sz2 (rows.set j (.g r.length)))) ++ [some (Ob.arr e2 sz2 (r ++ l))] := by
            rw [← hlen, List.set_append_right _ _ (Nat.le_refl _)]; simp
           simp only [e1] at h
           exact h
         · exact hW.elim
       · exact hW.elim
     · exact hW.elim
   · exact hW.elim
 · exact hW.elim

theorem pur_nt {h : List (Option Ob)} {v u : V} (hp : pur h v = some u) (hn : nt v = true) : nt u = true := by
 cases v <;> simp only [pur] at hp <;> first
  | (cases hp; done)
  | (cases hp; rfl)
  | (simp [nt] at hn; done)
  | (obtain ⟨_, _, rfl⟩ := Option.map_eq_some_iff.1 hp; rfl)
  | (unfold pur1 at hp; split at hp <;> (try split at hp) <;> first | (cases hp; rfl) | (cases hp; done) | (obtain ⟨_, _, rfl⟩ := Option.map_eq_some_iff.1 hp; rfl))
  | (unfold pur2 at hp; split at hp <;> (try split at hp) <;> (try split at hp) <;> first | (cases hp; rfl) | cases hp)
  | (split at hp <;> first | (cases hp; rfl) | cases hp)

theorem splice_mid {α : Type} (c d : List α) (p off s t : Nat) (h1 : off + d.length ≤ s) (h2 : p + s ≤ t) (h3 : t ≤ c.length) :
 (c.take (p + off) ++ d ++ c.drop (p + off + d.length)).take t = (c.take t).take p ++ (((c.drop p).take s).take off ++ d ++ ((c.drop p).take s).drop (off + d.length)) ++ (c.take t).drop (p + s) := by
 obtain ⟨k, rfl⟩ : ∃ k, t = p + (off + (d.length + k)) := ⟨t - p - off - d.length, by omega⟩
 have e1 : (c.take (p + (off + (d.length + k)))).take p = c.take p := by rw [List.take_take, Nat.min_eq_left (by omega)]
 have e2 : ((c.drop p).take s).take off = (c.drop p).take off := by rw [List.take_take, Nat.min_eq_left (by omega)]
 have e3 : c.take (p + off) = c.take p ++ (c.drop p).take off := by rw [List.take_add]
 have l1 : (c.take p).length = p := by simp; omega
 have l2 : ((c.drop p).take off).length = off := by simp; omega
 rw [e1, e2, e3]
 simp only [List.append_assoc]
 rw [List.take_append, l1, List.take_of_length_le (l := c.take p) (by rw [l1]; omega), Nat.add_sub_cancel_left]
 rw [List.take_append, l2, List.take_of_length_le (l := (c.drop p).take off) (by rw [l2]; omega), Nat.add_sub_cancel_left]
 rw [List.take_append, List.take_of_length_le (l := d) (by omega), Nat.add_sub_cancel_left]
 congr 3
 apply List.ext_getElem?
 intro j
 by_cases hj : j < s - (off + d.length)
 · rw [List.getElem?_append_left (by simp; omega), List.getElem?_take, if_pos (by omega), List.getElem?_drop, List.getElem?_drop, List.getElem?_take, if_pos (by omega), List.getElem?_drop]
   congr 1; omega
 · rw [List.getElem?_append_right (by simp; omega)]
   simp only [List.getElem?_take, List.getElem?_drop, List.length_drop, List.length_take]
   split
   · rw [if_pos (by omega)]; congr 1; omega
   · rw [if_neg (by omega)]

theorem splice_take {α : Type} (c d : List α) (p t : Nat) (h2 : p + d.length ≤ t) (h3 : t ≤ c.length) :
 (c.take p ++ d ++ c.drop (p + d.length)).take t = (c.take t).take p ++ d ++ (c.take t).drop (p + d.length) := by
 have h := splice_mid c d p 0 d.length t (by omega) h2 h3
 simp only [Nat.add_zero, Nat.zero_add, List.take_zero, List.nil_append] at h
 rw [h]
 congr 2
 simp

theorem owns_store {t : TypeId} {n : Nat} (hs : szOf P t = some n) {e sz len : Nat} {val : Value} {xs : List Value} (ho : w.ownsRow 0 e sz val len xs) {b cap p : Nat} (g1 : val = .slice (some ⟨b, 0, none⟩) len cap) {d : Value} (hd : d.cells.size = n) (h1 : ∀ u ∈ d.cells.toList, isCell u) (hle : p + n ≤ len * sz) :
 ∃ row : Array Value, (Instr.storeAt t (.pointer (some ⟨b, p, none⟩)) d).run P w = .ok () (w.setRow b row) ∧ (w.setRow b row).ownsRow 0 e sz val len (xs.take p ++ d.cells.toList ++ xs.drop (p + n)) := by
 rcases ho.2 with ⟨h, h0⟩ | ⟨g, cap', cur, h4, h5, h6, h7, h8, h9, h10⟩
 · rw [h] at g1; cases g1
 · rw [g1] at h4
   cases h4
   have hcl : len * sz ≤ cur.size := by rw [h9]; exact Nat.mul_le_mul_right _ h7
   have hdl : d.cells.toList.length = n := by simpa using hd
   refine ⟨_, run_storeVar hs (off := p) h6 hd h1 (by omega), ?_, .inr ⟨b, cap, _, g1, h5, setRow_heap w b cur _ e (0, 0) h6, h7, h8, ?_, ?_⟩⟩
   · have := ho.1
     simp only [List.length_append, List.length_take, List.length_drop, hdl]; omega
   · simp only [List.size_toArray, List.length_append, List.length_take, List.length_drop, Array.length_toList]; omega
   · rw [← h10, ← hdl]
     exact splice_take cur.toList d.cells.toList p (len * sz) (by omega) (by simpa using hcl)

theorem row_store {Mx : Mem} {t : TypeId} {n : Nat} (hs : szOf P t = some n) {e sz : Nat} {val : Value} {l : List V} {xs : List Value} (ho : w.ownsRow 0 e sz val l.length xs) (hrow : repRow Mx sz l xs) {b cap i off : Nat} (g1 : val = .slice (some ⟨b, 0, none⟩) l.length cap) {d : Value} (hd : d.cells.size = n)
 (h1 : ∀ u ∈ d.cells.toList, isCell u) {vo v' : V} (hvo : l[i]? = some vo) {us cs' : List V} (hcs' : splice (cl vo) off us = some cs') (hv' : mkc (isS vo) cs' = some v') (hpu : repAll Mx NX us d.cells.toList) :
 ∃ row : Array Value, (Instr.storeAt t (.pointer (some ⟨b, i * sz + off, none⟩)) d).run P w = .ok () (w.setRow b row) ∧ ∃ xs', (w.setRow b row).ownsRow 0 e sz val (l.set i v').length xs' ∧ repRow Mx sz (l.set i v') xs' := by
 have hil : i < l.length := (List.getElem?_eq_some_iff.1 hvo).1
 obtain ⟨y, y1, y2, y3, y4⟩ := repRow_get hrow hvo
 have hnto : ∀ vs, vo ≠ .tup vs := by
  rintro vs rfl
  simp only [rep] at y1
  obtain ⟨arr, rfl, _⟩ := y1
  have := y3 (.tuple arr) (by simp [Value.cells])
  simp [isCell, Value.oneCell'] at this
 have yk := rep_cellsC y1 NX_cell hnto
 have hsp := splice_rep hcs' yk.1 hpu
 have hoff : off + n ≤ sz := by have := hsp.1; simp at this; omega
 have hcells : ∀ u ∈ y.cells.toList.take off ++ d.cells.toList ++ y.cells.toList.drop (off + d.cells.toList.length), isCell u := by
  intro u hu
  simp only [List.mem_append] at hu
  rcases hu with (hu | hu) | hu
  · exact y3 u (List.mem_of_mem_take hu)
  · exact h1 u hu
  · exact y3 u (List.mem_of_mem_drop hu)
 have hclen : (y.cells.toList.take off ++ d.cells.toList ++ y.cells.toList.drop (off + d.cells.toList.length)).length = sz := by
  simp only [List.length_append, List.length_take, List.length_drop, Array.length_toList]; omega
 obtain ⟨y', y1', y2', _⟩ : ∃ y' : Value, rep Mx NX v' y' ∧ y'.cells.toList = y.cells.toList.take off ++ d.cells.toList ++ y.cells.toList.drop (off + d.cells.toList.length) ∧ True := by
  rcases mkc_rep hv' hsp.2 hcells with ⟨_, h⟩ | ⟨_, c', h, h'⟩
  · exact ⟨_, h, by simp [Value.cells], trivial⟩
  · refine ⟨c', h', ?_, trivial⟩
    rw [h]
    have := cells_of_isCell (hcells c' (by rw [h]; simp))
    rw [this]
 have hys : y'.cells.size = sz := by rw [← Array.length_toList, y2', hclen]
 have hle : (i + 1) * sz ≤ l.length * sz := Nat.mul_le_mul_right _ (by omega)
 simp only [Nat.add_mul, Nat.one_mul] at hle
 obtain ⟨row, r1, r2⟩ := owns_store hs ho g1 (p := i * sz + off) hd h1 (by omega)
 refine ⟨row, r1, _, ?_, repRow_set hrow hil y1' hys (by rw [y2']; exact hcells)⟩
 have hdl : d.cells.toList.length = n := by simpa using hd
 have hxl := repRow_length hrow
 have hy4 : y.cells.toList = (xs.drop (i * sz)).take sz := by
  apply List.ext_getElem?
  intro j
  by_cases hj : j < sz
  · have := y4 j hj
    rw [List.getElem?_take, if_pos hj, List.getElem?_drop, this]
    simp
  · rw [List.getElem?_eq_none (by simp; omega), List.getElem?_eq_none (by simp; omega)]
 have hsm := splice_mid xs d.cells.toList (i * sz) off sz xs.length (by omega) (by omega) (Nat.le_refl _)
 rw [List.take_of_length_le (l := xs) (Nat.le_refl _)] at hsm
 rw [List.length_set, y2', hy4, ← hsm, hdl]
 rw [List.take_of_length_le (by simp only [List.length_append, List.length_take, List.length_drop, hdl]; omega)]
 exact r2

theorem stor_sound (H : Rel N M0 B w0 κ M σ a w) {t : TypeId} {n : Nat} (hs : szOf P t = some n) {p v : V} {c d : Value} (hp : rep M (XX κ σ.h) p c) (hv : rep M (XX κ σ.h) v d) (hnt : nt v = true) {σ' : St} (hst : σ.stor n p (cl v) = some σ') :
 ∃ w', (Instr.storeAt t c d).run P w = .ok () w' ∧ ∃ κ' M', Rel N M0 B w0 κ' M' σ' a w' := by
 have hk := rep_cellsC hv XX_cell (nt_spec hnt)
 have hlen := repAll_length hk.1
 cases p <;> simp only [St.stor] at hst <;> try (cases hst; done)
 case ptr id off =>
  split at hst
  · rename_i cs hcs
    split at hst
    · rename_i hn
      split at hst
      · rename_i cs' hcs'
        cases hst
        have hb := box?_eq hcs
        obtain ⟨b, arr, T, h1, h2, h3, h4, h5, hbl⟩ := H.heap id _ hb
        simp only [rep, XX] at hp
        obtain ⟨b', g1, g2⟩ := hp.2.2 cs hb
        rw [h1] at g1
        cases g1
        subst g2
        have hsp := splice_rep hcs' h4 hk.1
        have hd : d.cells.size = n := by simp at hlen; omega
        refine ⟨_, run_storeVar hs h3 hd hk.2 (by have := hsp.1; simp at this; omega), upd κ id (κ id), M, ?_⟩
        have hX : ∀ u c, XX κ σ.h u c → XX (upd κ id (κ id)) (σ.h.set id (some (Ob.box cs'))) u c := fun u c hx => XX_set hb hx (fun _ _ => ⟨⟨cs, rfl⟩, rfl⟩) (fun _ _ _ h => by cases h) (fun _ _ _ _ h => by cases h)
        refine H.setOb hb (below_setRow h2 _ fun cur T z hc => by rw [h3] at hc; cases hc; have := hsp.1; simp at this ⊢; omega) (fun k _ hne => setRow_other w b k _ (fun e => hne ((hbl k).2 e))) (fun g hg => .inl ((hbl g).2 (by rw [h1] at hg; cases hg; rfl))) hX ?_
        simp only [obAt]
        refine ⟨b, _, T, by rw [upd_self, h1], h2, setRow_heap w b arr _ T (0, 0) h3, repAll_mono (fun _ _ h => h) hX _ _ (by simpa using hsp.2), ?_, fun g => by rw [updK_bl, h1]; simp only [blk, Option.some.injEq]; exact eq_comm⟩
        intro u hu
        simp only [List.mem_append] at hu
        rcases hu with (hu | hu) | hu
        · exact h5 u (List.mem_of_mem_take hu)
        · exact hk.2 u hu
        · exact h5 u (List.mem_of_mem_drop hu)
      · cases hst
    · cases hst
  · cases hst
 case eptr id m i off =>
  split at hst
  · rename_i us' hus'
    split at hst
    · rename_i e sz l hal
      split at hst
      · rename_i hn
        split at hst
        · rename_i vo hvo
          split at hst
          · rename_i cs' hcs'
            split at hst
            · rename_i v' hv'
              cases hst
              obtain ⟨H1, hM1⟩ := H.kill (vidss (cl v)) (purs_in hus')
              have ha := arr?_eq hal
              simp only at ha
              obtain ⟨k1, k2, k3⟩ := kill_h (vidss (cl v)) σ
              have ha0 := (k3 id _ ha).1
              have hil : i < l.length := (List.getElem?_eq_some_iff.1 hvo).1
              simp only [rep, XX] at hp
              obtain ⟨b, cap, g1, g2⟩ := (hp.2.2.1 e sz l ha0).2 hn.2 (by omega)
              subst g2
              have hpu : repAll (ext M w (blks κ (vidss (cl v)))) NX us' d.cells.toList := by
               refine purs_rep H hM1 (fun id hid g hg p hpb => ?_) hk.1 hus'
               unfold ext
               rw [if_pos (mem_blks.2 ⟨id, hid, by rw [hpb]; exact hg⟩)]
              obtain ⟨hsz, hll, xs, ho, hrow, hown, hbl⟩ := H1.heap id _ ha
              have hd : d.cells.size = n := by simp at hlen; omega
              rw [hn.2] at g1
              obtain ⟨row, r1, xs', r2, r3⟩ := row_store hs ho hrow g1 hd hk.2 hvo hcs' hv' hpu
              have hb : κ.bl id b := (hbl b).2 (by rw [g1]; rfl)
              refine ⟨_, r1, upd κ id (κ id), ext M w (blks κ (vidss (cl v))), ?_⟩
              have hX : ∀ u c, XX κ (σ.kill (vidss (cl v))).h u c → XX (upd κ id (κ id)) ((σ.kill (vidss (cl v))).h.set id (some (Ob.arr e sz (l.set i v')))) u c := fun u c hx => XX_set ha hx (fun _ h => by cases h) (fun e2 sz2 l2 h => by
               cases h
               exact ⟨e, l, rfl, by simp, fun _ => rfl⟩) (fun _ _ _ _ h => by cases h)
              refine H1.setOb ha (below_setRow (hown b hb) _ (setRow_size ho r2 (by rw [g1]; rfl))) (fun k _ hne => setRow_other w b k _ (fun e => hne (e ▸ hb))) (fun g hg => .inl ((hbl g).2 hg)) hX ?_
              simp only [obAt]
              rw [updK_v, updK_bl]
              exact ⟨hsz, by simpa using hll, xs', r2, r3, fun g hg => hown g ((hbl g).2 hg), fun g => Iff.rfl⟩
            · cases hst
          · cases hst
        · cases hst
      · cases hst
    · unfold St.storM at hst
      split at hst
      · rename_i id2 n2 hcl
        split at hst
        · rename_i e e2 sz rows e2' sz' l hrm har
          split at hst
          · rename_i kl hri
            split at hst
            · rename_i hc
              cases hst
              obtain ⟨rfl, rfl, rfl, rfl, rfl, rfl, hlt⟩ := hc
              have hm := rws?_eq hrm
              have ha := arr?_eq har
              simp only at hm ha
              have hne : id2 ≠ id := by rintro rfl; rw [hm] at ha; cases ha
              have hm' : (σ.h.set id2 none)[id]? = some (some (.mat e e2' sz' rows)) := by rw [List.getElem?_set, if_neg hne]; exact hm
              have H0 := H.drop id2
              obtain ⟨h0, h1, ⟨xs, h2, h3, h4⟩, h5, h6, h7, hown, hbl⟩ := H.heap id _ hm
              obtain ⟨a0, a1, ys, a2, a3, aown, abl⟩ := H.heap id2 _ ha
              simp only [rep, XX] at hp
              have hil := rowLen_lt hri
              obtain ⟨b, cap, g1, g2⟩ := (hp.2.2.2 _ _ _ _ hm).2 rfl hil
              subst g2
              -- the value that is stored
              rw [hcl] at hk hlen
              have hdc : d.cells.toList = [κ id2] := by
               have h := hk.1
               simp only [repAll, rep, XX] at h
               obtain ⟨c, cs', k1, k2, k3⟩ := h
               rw [k1, k3, (k2.2.2.1 _ _ _ ha).2 rfl]
              have hd : d.cells.size = 1 := by rw [← Array.length_toList, hdc]; rfl
              have hle : i * 1 + 1 ≤ rows.length * 1 := by omega
              obtain ⟨row, r1, r2⟩ := owns_store hs h2 g1 (p := i + 0) hd hk.2 (by omega)
              have hb : blk (κ id) = some b := by rw [g1]; rfl
              have hbB : κ.bl id b := (hbl b).2 (.inl hb)
              have hoth : ∀ k, k ≠ b → (w.setRow b row).heap[k]? = w.heap[k]? := fun k hk => setRow_other w b k _ hk
              have kid2 : ∀ g, blk (κ id2) = some g → ¬ κ.bl id g := fun g hg hg' => hne (H.inj id2 id _ _ g ha hm ((abl g).2 hg) hg')
              let kr : Nat → Value := fun j => if j = i then κ id2 else κ.row id j
              have kri : kr i = κ id2 := by simp [kr]
              have krn : ∀ {j}, j ≠ i → kr j = κ.row id j := fun h => by simp [kr, h]
              let kb : Nat → Prop := fun g => blk (κ id) = some g ∨ ∃ j s, rowAt (rows.set i (.a l)) j = some s ∧ blk (kr j) = some g
              have rs : ∀ {j : Nat} {s : List V}, rowAt (rows.set i (.a l)) j = some s → (j = i ∧ s = l ∧ kr j = κ id2) ∨ (j ≠ i ∧ rowAt rows j = some s ∧ kr j = κ.row id j) := by
               intro j s hs
               rcases rowAt_set hs with ⟨h, _, h'⟩ | ⟨h, h'⟩
               · cases h'; exact .inl ⟨h, rfl, by rw [h, kri]⟩
               · exact .inr ⟨h, h', krn h⟩
              have kbs : ∀ {g}, kb g → κ.bl id g ∨ blk (κ id2) = some g := by
               rintro g (h | ⟨j, s, hj, h⟩)
               · exact .inl ((hbl g).2 (.inl h))
               · rcases rs hj with ⟨_, _, e⟩ | ⟨_, h', e⟩
                 · exact .inr (by rw [← e]; exact h)
                 · exact .inl ((hbl g).2 (.inr ⟨j, s, h', by rw [← e]; exact h⟩))
              have hrl : ∀ (j : Nat) (s : List V), rowAt rows j = some s → ∀ g, blk (κ.row id j) = some g → g ≠ b := fun j s hj g hg e => h7 j s g hj hg (by rw [e]; exact hb)
              have hX : ∀ u c, XX κ (σ.h.set id2 none) u c → XX (updK κ id (κ id) kr kb) ((σ.h.set id2 none).set id (some (Ob.mat e e2' sz' (rows.set i (.a l))))) u c := fun u c hx => XX_set hm' hx (fun _ h => by cases h) (fun _ _ _ h => by cases h) (fun e' e2'' sz'' rows' h => by
               cases h
               refine ⟨e, e2', rows, rfl, by simp, rfl, fun j s hs => ?_, fun j k hk => ?_⟩
               · rcases rs hs with ⟨rfl, rfl, _⟩ | ⟨_, h', e⟩
                 · rcases rowLen_of hri with ⟨r, hr1, hr2⟩ | hr1
                   · exact .inl ⟨r, hr1, by omega, fun h => by omega⟩
                   · exact .inr ⟨kl, hr1, hlt⟩
                 · exact .inl ⟨s, h', Nat.le_refl _, fun _ => e⟩
               · rw [List.getElem?_set] at hk
                 split at hk
                 · first | (cases hk; done) | (split at hk <;> cases hk)
                 · exact .inr ⟨k, hk, Nat.le_refl _⟩)
              refine ⟨_, r1, updK κ id (κ id) kr kb, M, ?_⟩
              refine H0.setOb' hm' (below_setRow (hown b hbB) _ (setRow_size h2 r2 hb)) (fun k _ hne => hoth k (fun e => hne (e ▸ hbB))) (fun g hg j oj hj hj' => ?_) (fun p v hp hg => ?_) hX ?_
              · simp only at hj
                rw [List.getElem?_set] at hj
                split at hj
                · split at hj <;> cases hj
                · rename_i hne2
                  rcases kbs hg with h | h
                  · exact H.inj id j _ oj g hm hj h hj'
                  · exact (hne2 (H.inj id2 j _ oj g ha hj ((abl g).2 h) hj')).elim
              · rcases kbs hg with h | h
                · exact H.sep p v hp id _ hm h
                · exact H.sep p v hp id2 _ ha ((abl _).2 h)
              · simp only [obAt]
                rw [updK_v, updK_row, updK_bl]
                have hxl : i < xs.length := by have := h2.1; omega
                have hxs : xs.take (i + 0) ++ d.cells.toList ++ xs.drop (i + 0 + 1) = xs.set i (κ id2) := by
                 rw [hdc, List.set_eq_take_append_cons_drop, if_pos hxl]; simp
                rw [hxs] at r2
                refine ⟨h0, by simpa using h1, ⟨xs.set i (κ id2), by simpa using r2, ?_, ?_⟩, ?_, ?_, ?_, ?_, fun g => Iff.rfl⟩
                · intro u hu
                  rcases List.mem_or_eq_of_mem_set hu with hu | hu
                  · exact h3 u hu
                  · rw [hu]; exact hk.2 _ (by rw [hdc]; simp)
                · intro j s hs
                  rw [List.getElem?_set]
                  rcases rs hs with ⟨rfl, _, e⟩ | ⟨hji, h', e⟩
                  · simp [hxl, e]
                  · rw [if_neg (fun h => hji h.symm), e]; exact h4 j s h'
                · intro j s hs
                  rcases rs hs with ⟨rfl, rfl, e⟩ | ⟨_, h', e⟩
                  · rw [e]
                    exact ⟨a1, ys, ownsRow_mono a2 (fun g hg => hoth g (fun h => kid2 g hg (h ▸ hbB))), a3⟩
                  · rw [e]
                    obtain ⟨q1, zs, q2, q3⟩ := h5 j s h'
                    exact ⟨q1, zs, ownsRow_mono q2 (fun g hg => hoth g (hrl j s h' g hg)), q3⟩
                · intro j k s s' g hs hs' hg hg'
                  rcases rs hs with ⟨rfl, _, e⟩ | ⟨hj, h', e⟩ <;> rcases rs hs' with ⟨rfl, _, e'⟩ | ⟨hj', h'', e'⟩
                  · rfl
                  · rw [e] at hg; rw [e'] at hg'
                    exact (kid2 g hg ((hbl g).2 (.inr ⟨k, s', h'', hg'⟩))).elim
                  · rw [e] at hg; rw [e'] at hg'
                    exact (kid2 g hg' ((hbl g).2 (.inr ⟨j, s, h', hg⟩))).elim
                  · rw [e] at hg; rw [e'] at hg'
                    exact h6 j k s s' g h' h'' hg hg'
                · intro j s g hs hg hg'
                  rcases rs hs with ⟨rfl, _, e⟩ | ⟨hj, h', e⟩
                  · rw [e] at hg
                    exact kid2 g hg ((hbl g).2 (.inl hg'))
                  · rw [e] at hg
                    exact h7 j s g h' hg hg'
                · intro g hg
                  rcases kbs hg with h | h
                  · exact hown g h
                  · exact aown g ((abl g).2 h)
            · cases hst
          · cases hst
        · cases hst
      · cases hst
  · cases hst
 case mptr id i m k off =>
  split at hst
  · rename_i us' hus'
    split at hst
    · rename_i e e2 sz rows hal
      split at hst
      · rename_i r hri
        split at hst
        · rename_i hn
          split at hst
          · rename_i vo hvo
            split at hst
            · rename_i cs' hcs'
              split at hst
              · rename_i v' hv'
                cases hst
                obtain ⟨H1, hM1⟩ := H.kill (vidss (cl v)) (purs_in hus')
                have ha := rws?_eq hal
                simp only at ha
                obtain ⟨k1, k2, k3⟩ := kill_h (vidss (cl v)) σ
                have ha0 := (k3 id _ ha).1
                have hil : k < r.length := (List.getElem?_eq_some_iff.1 hvo).1
                simp only [rep, XX] at hp
                obtain ⟨b, cap, g1, g2⟩ := ((hp.2.2 _ _ _ _ ha0).1 r hri).2 hn.2 (by omega)
                subst g2
                have hpu : repAll (ext M w (blks κ (vidss (cl v)))) NX us' d.cells.toList := by
                 refine purs_rep H hM1 (fun id hid g hg p hpb => ?_) hk.1 hus'
                 unfold ext
                 rw [if_pos (mem_blks.2 ⟨id, hid, by rw [hpb]; exact hg⟩)]
                obtain ⟨h0, h1, ⟨xs, h2, h3, h4⟩, h5, h6, h7, hown, hbl⟩ := H1.heap id _ ha
                obtain ⟨q1, ys, q2, q3⟩ := h5 i r hri
                have hd : d.cells.size = n := by simp at hlen; omega
                rw [hn.2] at g1
                obtain ⟨row, r1, xs', r2, r3⟩ := row_store hs q2 q3 g1 hd hk.2 hvo hcs' hv' hpu
                have hbi : blk (κ.row id i) = some b := by rw [g1]; rfl
                have hb : κ.bl id b := (hbl b).2 (.inr ⟨i, r, hri, hbi⟩)
                have hoth : ∀ k, k ≠ b → (w.setRow b row).heap[k]? = w.heap[k]? := fun k hk => setRow_other w b k _ hk
                have hir := rowAt_lt hri
                have rs : ∀ {j : Nat} {s : List V}, rowAt (rows.set i (.a (r.set k v'))) j = some s → (j = i ∧ s = r.set k v') ∨ (j ≠ i ∧ rowAt rows j = some s) := by
                 intro j s hs
                 rcases rowAt_set hs with ⟨h, _, h'⟩ | h
                 · cases h'; exact .inl ⟨h, rfl⟩
                 · exact .inr h
                have rr : ∀ {j : Nat} {s : List V}, rowAt (rows.set i (.a (r.set k v'))) j = some s → ∃ s', rowAt rows j = some s' ∧ s'.length = s.length := by
                 intro j s hs
                 rcases rs hs with ⟨rfl, rfl⟩ | ⟨_, h⟩
                 · exact ⟨r, hri, by simp⟩
                 · exact ⟨s, h, rfl⟩
                have hX : ∀ u c, XX κ (σ.kill (vidss (cl v))).h u c → XX (updK κ id (κ id) (κ.row id) (κ.bl id)) ((σ.kill (vidss (cl v))).h.set id (some (Ob.mat e e2 sz (rows.set i (.a (r.set k v')))))) u c := fun u c hx => XX_set ha hx (fun _ h => by cases h) (fun _ _ _ h => by cases h) (fun e' e2'' sz'' rows' h => by
                 cases h
                 refine ⟨e, e2, rows, rfl, by simp, rfl, fun j s hs => ?_, fun j q hk => ?_⟩
                 · obtain ⟨s', h', hl⟩ := rr hs
                   exact .inl ⟨s', h', by omega, fun _ => rfl⟩
                 · rw [List.getElem?_set] at hk
                   split at hk
                   · first | (cases hk; done) | (split at hk <;> cases hk)
                   · exact .inr ⟨q, hk, Nat.le_refl _⟩)
                refine ⟨_, r1, updK κ id (κ id) (κ.row id) (κ.bl id), ext M w (blks κ (vidss (cl v))), ?_⟩
                refine H1.setOb ha (below_setRow (hown b hb) _ (setRow_size q2 r2 hbi)) (fun k _ hne => hoth k (fun e => hne (e ▸ hb))) (fun g hg => .inl hg) hX ?_
                simp only [obAt]
                rw [updK_v, updK_row, updK_bl]
                refine ⟨h0, by simpa using h1, ⟨xs, ?_, h3, fun j s hs => by obtain ⟨s', h', _⟩ := rr hs; exact h4 j s' h'⟩, ?_, ?_, ?_, hown, fun g => (hbl g).trans ?_⟩
                · rw [List.length_set]
                  exact ownsRow_mono h2 fun g hg => hoth g (fun e => h7 i r b hri hbi (by rw [← e]; exact hg))
                · intro j s hs
                  rcases rs hs with ⟨rfl, rfl⟩ | ⟨hji, h⟩
                  · exact ⟨by simpa using q1, xs', r2, r3⟩
                  · obtain ⟨q4, zs, q5, q6⟩ := h5 j s h
                    exact ⟨q4, zs, ownsRow_mono q5 (fun g hg => hoth g (fun e => hji (h6 j i s r g h hri hg (by rw [e]; exact hbi)))), q6⟩
                · intro j k s s' g hs hs' hg hg'
                  obtain ⟨s1, h1', _⟩ := rr hs
                  obtain ⟨s2, h2', _⟩ := rr hs'
                  exact h6 j k s1 s2 g h1' h2' hg hg'
                · intro j s g hs
                  obtain ⟨s1, h1', _⟩ := rr hs
                  exact h7 j s1 g h1'
                · refine or_congr Iff.rfl ⟨?_, ?_⟩
                  · rintro ⟨j, s, hj, hg⟩
                    by_cases hji : j = i
                    · subst hji
                      exact ⟨j, r.set k v', by unfold rowAt; simp [hir.2], hg⟩
                    · exact ⟨j, s, by unfold rowAt at hj ⊢; rw [List.getElem?_set, if_neg (fun e => hji e.symm)]; exact hj, hg⟩
                  · rintro ⟨j, s, hj, hg⟩
                    obtain ⟨s', h', _⟩ := rr hj
                    exact ⟨j, s', h', hg⟩
              · cases hst
            · cases hst
          · cases hst
        · cases hst
      · cases hst
    · cases hst
  · cases hst

theorem bytesV_eq (l : List UInt8) : bytesV l = l.map fun b => .int .u8 b.toNat := by
 induction l with
 | nil => rfl
 | cons b l ih => simp [bytesV, ih]
theorem byte_rep {M : Mem} {X : V → Value → Prop} (b : UInt8) : rep M X (.int .u8 b.toNat) (.int .u8 b.toNat) := by
 simp only [rep]
 have := b.toNat_lt
 exact ⟨trivial, by simp [IntKind.min, IntKind.signed], by simp [IntKind.max, IntKind.signed, IntKind.bits]; omega⟩
theorem bytes_mem {M : Mem} {g : Nat} : ∀ (l : List UInt8) (off : Nat), (∀ j b, l[j]? = some b → M ⟨g, off + j, none⟩ = some (.int .u8 b.toNat)) → repMem M 1 (bytesV l) g off
 | [], _, _ => by simp [bytesV, repMem]
 | b :: l, off, h => by
   simp only [bytesV, repMem]
   refine ⟨⟨.int .u8 b.toNat, byte_rep b, rfl, by simp [Value.cells, isCell, Value.oneCell'], fun j hj => ?_⟩, bytes_mem l (off + 1) fun j c hc => ?_⟩
   · obtain rfl : j = 0 := by omega
     simpa [Value.cells] using h 0 b (by simp)
   · have := h (j + 1) c (by simpa using hc)
     rw [← this]; congr 2; omega

theorem s2b_sound (H : Rel N M0 B w0 κ M σ a w) (bs : ByteArray) (hlen : bs.data.toList.length ≤ 140737488355328) {s d e : TypeId} (hs : P.underlying s = some .string) (hd : P.underlying d = some (.slice e)) (he : P.underlying e = some (.int .u8)) :
 ∃ c w', (convert s d (.string bs)).run P w = .ok c w' ∧ ∃ M', Rel N M0 B w0 κ M' σ a w' ∧ rep M' NX (.seq 1 (bytesV bs.data.toList)) c := by
 have hrun := run_bytes_of_string (P := P) w s d e bs hs hd he
 have hcap := grownCap_ge w bs.size 0 e
 generalize grownCap w bs.size 0 e = cap at *
 refine ⟨_, _, hrun, ext M (w.drew.alloc (.cells (bytesRow bs cap) e ((bytesRow bs cap).size, (bytesRow bs cap).size + 1))) (fun g => g = w.heap.size), ?_, ?_⟩
 · have hb : Below w.heap.size w (w.drew.alloc (.cells (bytesRow bs cap) e ((bytesRow bs cap).size, (bytesRow bs cap).size + 1))) := ((Below.refl _ w).drew).alloc (Nat.le_refl _) _
   refine H.grow hb ?_ ?_ ?_
   · intro p v h
     unfold ext
     rw [if_neg (by have := H.mem_lt h; show ¬ p.block = _; omega)]
     exact h
   · intro p v h
     unfold ext at h
     split at h
     · exact h
     · rw [hb.cell (H.mem_lt h)]; exact H.snd p v h
   · intro p v h
     unfold ext at h
     split at h
     · rename_i hm; have hm : p.block = _ := hm; exact .inr (by omega)
     · exact .inl h
 · simp only [rep]
   have hl : (bytesV bs.data.toList).length = bs.size := by rw [bytesV_eq, List.length_map, ← size_eq]
   refine ⟨some ⟨w.heap.size, 0, none⟩, cap, by rw [hl], by rw [hl]; exact hcap, by rw [hl, size_eq]; exact hlen, by decide, .inr ⟨_, _, rfl, ?_⟩⟩
   refine bytes_mem _ 0 fun j b hj => ?_
   unfold ext
   rw [if_pos (by simp)]
   have hg : (w.drew.alloc (.cells (bytesRow bs cap) e ((bytesRow bs cap).size, (bytesRow bs cap).size + 1))).heap[w.heap.size]? = some (.cells (bytesRow bs cap) e ((bytesRow bs cap).size, (bytesRow bs cap).size + 1)) := heap_alloc_new w.drew _
   rw [cell_of_row _ _ _ _ _ _ hg]
   unfold bytesRow
   have hlt := (List.getElem?_eq_some_iff.1 hj).1
   rw [Nat.zero_add, Array.getElem?_append_left (by simpa using hlt)]
   simp at hj
   simp [hj]

theorem lit_run (H : Rel N M0 B w0 κ M σ a w) {t e : TypeId} {i : TypeInfo} {n len : Nat} {z : Value} {parts : Array (Nat × Operand)} (ht : P.underlying t = some (.slice e)) (hi : P.info? e = some i) (hs : i.size = n) (h0 : 0 < n) (hz : i.zero = some z) (hzs : z.cells.size = n)
 (hle : len * n ≤ 16777216) (hpi : parts.toList.map (·.1) = List.range len) {vs us : List V} (hvs : repAll M (XX κ σ.h) vs ((parts.toList.map (·.2)).map a.eval)) (hus : purs σ.h vs = some us) (hsl : sameLen n us = true) (hul : us.length ≤ 16777216) :
 ∃ (M1 : Mem) (xs : List Value), Rel N M0 B w0 κ M1 (σ.kill (vidss vs)) a w ∧ repRow M1 n us xs ∧ us.length = len ∧
   (Instr.buildSlice t len (parts.map fun x => (x.1, a.eval x.2))).run P w = .ok (.slice (some ⟨w.heap.size, 0, none⟩) len len) (w.alloc (.cells xs.toArray e)) := by
 obtain ⟨H1, hM1⟩ := H.kill (vidss vs) (purs_in hus)
 generalize hcs : (parts.toList.map (·.2)).map a.eval = cs at *
 have hpu : repAll (ext M w (blks κ (vidss vs))) NX us cs := by
  refine purs_rep H hM1 (fun id hid g hg p hpb => ?_) hvs hus
  unfold ext
  rw [if_pos (mem_blks.2 ⟨id, hid, by rw [hpb]; exact hg⟩)]
 have hcl : cs.length = len := by
  rw [← hcs, List.length_map, List.length_map]
  have := congrArg List.length hpi
  simpa using this
 have hul' : us.length = len := by rw [← hcl]; exact (repAll_length hpu).symm
 have hc1 : ∀ c ∈ cs, c.cells.size = n := by
  intro c hc
  obtain ⟨j, hj, hj'⟩ := List.getElem_of_mem hc
  exact (sameLen_rep hsl hpu j c (by rw [List.getElem?_eq_getElem hj, hj'])).1
 have hz0 : 0 < z.cells.size := by omega
 have hbase : ((Array.range (len * n)).map (fun x => z.cells[x % z.cells.size]!)).size = len * n := by simp
 have hfill := fill_row n cs 0 ((Array.range (len * n)).map (fun x => z.cells[x % z.cells.size]!)) hc1 (by rw [hbase, hcl]; simp)
 have hparts : (parts.map fun x => (x.1, a.eval x.2)).toList = (List.range' 0 cs.length).zip cs := by
  rw [hcl, ← List.range_eq_range', ← hpi, ← hcs]
  simp only [Array.toList_map, List.map_map]
  generalize parts.toList = ps
  induction ps with
  | nil => rfl
  | cons p ps ih => simp [ih]
 rw [← hparts] at hfill
 have hrow0 := rowOf_rep hsl hpu
 have hrl := repRow_length hrow0
 have hres : (List.take (0 * n) ((Array.range (len * n)).map (fun x => z.cells[x % z.cells.size]!)).toList ++ rowOf cs ++ List.drop ((0 + cs.length) * n) ((Array.range (len * n)).map (fun x => z.cells[x % z.cells.size]!)).toList).toArray = (rowOf cs).toArray := by
  rw [List.drop_eq_nil_of_le (by rw [Array.length_toList, hbase, hcl]; simp)]
  simp
 rw [hres] at hfill
 have hrun : (Instr.buildSlice t len (parts.map fun x => (x.1, a.eval x.2))).run P w = .ok (.slice (some ⟨w.heap.size, 0, none⟩) len len) (w.alloc (.cells (rowOf cs).toArray e)) := by
  have hsz : szOf P e = some n := by simp [szOf, hi, hs]
  have hn2 : ¬ len * n > 2 ^ 24 := by omega
  unfold Instr.buildSlice
  simp only [Sem.run_bind, run_underlying ht, Result.andThen_ok, run_sizeOf hsz, hn2, if_false]
  by_cases hln : len * n = 0
  · have hl0 : len = 0 := by
     rcases Nat.eq_zero_or_pos len with h | h
     · exact h
     · have := Nat.mul_pos h h0; omega
    have hcs0 : cs = [] := List.eq_nil_of_length_eq_zero (by omega)
    subst hcs0
    simp only [hln, if_true, Sem.run_pure, Result.andThen_ok] at hfill ⊢
    have e0 : ∀ (f : Nat → Value), Array.map f (Array.range 0) = #[] := fun f => by simp [Array.range_zero']
    simp only [e0] at hfill ⊢
    simp only [Sem.run_bind, Sem.run_pure, Result.andThen_ok, e0, hfill]
    simp [newRow]
  · simp only [hln, if_false, Sem.run_bind, zeroValue, typeInfo, run_program, Result.andThen_ok, hi, hz, Sem.run_pure, hfill]
    simp [newRow]
 exact ⟨_, _, H1, hrow0, hul', hrun⟩
theorem ltr_sound (H : Rel N M0 B w0 κ M σ a w) {t e : TypeId} {i : TypeInfo} {n len : Nat} {z : Value} {parts : Array (Nat × Operand)} (ht : P.underlying t = some (.slice e)) (hi : P.info? e = some i) (hs : i.size = n) (h0 : 0 < n) (hz : i.zero = some z) (hzs : z.cells.size = n)
 (hle : len * n ≤ 16777216) (hpi : parts.toList.map (·.1) = List.range len) {vs us : List V} (hvs : repAll M (XX κ σ.h) vs ((parts.toList.map (·.2)).map a.eval)) (hus : purs σ.h vs = some us) (hsl : sameLen n us = true) (hul : us.length ≤ 16777216) :
 ∃ c w', (Instr.buildSlice t len (parts.map fun x => (x.1, a.eval x.2))).run P w = .ok c w' ∧ ∃ κ' M', Rel N M0 B w0 κ' M' ⟨(σ.kill (vidss vs)).r, (σ.kill (vidss vs)).h ++ [some (Ob.arr e n us)]⟩ a w' ∧
   rep M' (XX κ' ((σ.kill (vidss vs)).h ++ [some (Ob.arr e n us)])) (.ref (σ.kill (vidss vs)).h.length us.length) c := by
 obtain ⟨M1, xs, H1, hrow, hl, hrun⟩ := lit_run H ht hi hs h0 hz hzs hle hpi hvs hus hsl hul
 have hxl := repRow_length hrow
 refine ⟨_, _, hrun, upd κ (σ.kill (vidss vs)).h.length (.slice (some ⟨w.heap.size, 0, none⟩) len len), M1, ?_, ?_⟩
 · have hBw : B.n ≤ w.heap.size := by rw [H1.base]; exact H1.blw.size
   refine H1.newOb (below_alloc w _) (fun g hg => by cases hg; exact Nat.le_refl _) ?_
   simp only [obAt]
   refine ⟨h0, by omega, xs, ?_, hrow, fun g hg => .inl (by rw [updK_bl] at hg; cases hg; exact hBw), fun g => by rw [updK_bl, updK_v]⟩
   rw [upd_self]
   refine ⟨hxl, .inr ⟨w.heap.size, len, _, by rw [hl], Nat.zero_le _, heap_alloc_new w _, by omega, by simp only [maxLen]; omega, by simp [hxl, hl], ?_⟩⟩
   rw [List.take_of_length_le (by simp [hxl])]
 · simp only [rep, XX]
   refine ⟨rfl, by simp, fun e2 sz2 l2 h2 => ?_, fun e2 sz2 l2 l3 h2 => by simp at h2, fun o2 h2 hn => by simp at h2; subst h2; cases hn⟩
   simp at h2
   obtain ⟨rfl, rfl, rfl⟩ := h2
   exact ⟨by simp, fun _ => upd_self.symm⟩
theorem lit_sound (H : Rel N M0 B w0 κ M σ a w) {t e : TypeId} {i : TypeInfo} {n len : Nat} {z : Value} {parts : Array (Nat × Operand)} (ht : P.underlying t = some (.slice e)) (hi : P.info? e = some i) (hs : i.size = n) (h0 : 0 < n) (hz : i.zero = some z) (hzs : z.cells.size = n)
 (hle : len * n ≤ 16777216) (hpi : parts.toList.map (·.1) = List.range len) {vs us : List V} (hvs : repAll M (XX κ σ.h) vs ((parts.toList.map (·.2)).map a.eval)) (hus : purs σ.h vs = some us) (hsl : sameLen n us = true) (hul : us.length ≤ 16777216) :
 ∃ c w', (Instr.buildSlice t len (parts.map fun x => (x.1, a.eval x.2))).run P w = .ok c w' ∧ ∃ κ' M', Rel N M0 B w0 κ' M' (σ.kill (vidss vs)) a w' ∧ rep M' NX (.seq n us) c := by
 obtain ⟨H1, hM1⟩ := H.kill (vidss vs) (purs_in hus)
 generalize hcs : (parts.toList.map (·.2)).map a.eval = cs at *
 have hpu : repAll (ext M w (blks κ (vidss vs))) NX us cs := by
  refine purs_rep H hM1 (fun id hid g hg p hpb => ?_) hvs hus
  unfold ext
  rw [if_pos (mem_blks.2 ⟨id, hid, by rw [hpb]; exact hg⟩)]
 have hcl : cs.length = len := by
  rw [← hcs, List.length_map, List.length_map]
  have := congrArg List.length hpi
  simpa using this
 have hul' : us.length = len := by rw [← hcl]; exact (repAll_length hpu).symm
 have hc1 : ∀ c ∈ cs, c.cells.size = n := by
  intro c hc
  obtain ⟨j, hj, hj'⟩ := List.getElem_of_mem hc
  exact (sameLen_rep hsl hpu j c (by rw [List.getElem?_eq_getElem hj, hj'])).1
 have hz0 : 0 < z.cells.size := by omega
 have hbase : ((Array.range (len * n)).map (fun x => z.cells[x % z.cells.size]!)).size = len * n := by simp
 have hfill := fill_row n cs 0 ((Array.range (len * n)).map (fun x => z.cells[x % z.cells.size]!)) hc1 (by rw [hbase, hcl]; simp)
 have hparts : (parts.map fun x => (x.1, a.eval x.2)).toList = (List.range' 0 cs.length).zip cs := by
  rw [hcl, ← List.range_eq_range', ← hpi, ← hcs]
  simp only [Array.toList_map, List.map_map]
  generalize parts.toList = ps
  induction ps with
  | nil => rfl
  | cons p ps ih => simp [ih]
 rw [← hparts] at hfill
 have hrow0 := rowOf_rep hsl hpu
 have hrl := repRow_length hrow0
 have hres : (List.take (0 * n) ((Array.range (len * n)).map (fun x => z.cells[x % z.cells.size]!)).toList ++ rowOf cs ++ List.drop ((0 + cs.length) * n) ((Array.range (len * n)).map (fun x => z.cells[x % z.cells.size]!)).toList).toArray = (rowOf cs).toArray := by
  rw [List.drop_eq_nil_of_le (by rw [Array.length_toList, hbase, hcl]; simp)]
  simp
 rw [hres] at hfill
 have hrun : (Instr.buildSlice t len (parts.map fun x => (x.1, a.eval x.2))).run P w = .ok (.slice (some ⟨w.heap.size, 0, none⟩) len len) (w.alloc (.cells (rowOf cs).toArray e)) := by
  have hsz : szOf P e = some n := by simp [szOf, hi, hs]
  have hn2 : ¬ len * n > 2 ^ 24 := by omega
  unfold Instr.buildSlice
  simp only [Sem.run_bind, run_underlying ht, Result.andThen_ok, run_sizeOf hsz, hn2, if_false]
  by_cases hln : len * n = 0
  · have hl0 : len = 0 := by
     rcases Nat.eq_zero_or_pos len with h | h
     · exact h
     · have := Nat.mul_pos h h0; omega
    have hcs0 : cs = [] := List.eq_nil_of_length_eq_zero (by omega)
    subst hcs0
    simp only [hln, if_true, Sem.run_pure, Result.andThen_ok] at hfill ⊢
    have e0 : ∀ (f : Nat → Value), Array.map f (Array.range 0) = #[] := fun f => by simp [Array.range_zero']
    simp only [e0] at hfill ⊢
    simp only [Sem.run_bind, Sem.run_pure, Result.andThen_ok, e0, hfill]
    simp [newRow]
  · simp only [hln, if_false, Sem.run_bind, zeroValue, typeInfo, run_program, Result.andThen_ok, hi, hz, Sem.run_pure, hfill]
    simp [newRow]
 refine ⟨_, _, hrun, κ, ext (ext M w (blks κ (vidss vs))) (w.alloc (.cells (rowOf cs).toArray e)) (fun g => g = w.heap.size), ?_, ?_⟩
 · refine H1.grow (below_alloc w _) ?_ ?_ ?_
   · intro p v h
     have := H1.mem_lt h
     unfold ext at h ⊢
     rw [if_neg (by show ¬ p.block = _; omega)]
     exact h
   · intro p v h
     have h' := h
     unfold ext at h
     split at h
     · exact h
     · rw [(below_alloc w _).cell (H1.mem_lt h)]; exact H1.snd p v h
   · intro p v h
     have h' := h
     unfold ext at h
     split at h
     · rename_i hm; have hm : p.block = _ := hm; exact .inr (by omega)
     · exact .inl h
 · simp only [rep]
   refine ⟨some ⟨w.heap.size, 0, none⟩, len, by rw [hul'], by rw [hul']; exact Nat.le_refl _, by omega, h0, .inr ⟨_, _, rfl, ?_⟩⟩
   refine repRow_mem (fun p v h => ?_) 0 hrow0 fun j u hu => ?_
   · have := H1.mem_lt h
     unfold ext at h ⊢
     rw [if_neg (by show ¬ p.block = _; omega)]
     exact h
   · unfold ext
     rw [if_pos (by simp)]
     rw [cell_of_row _ _ _ _ _ _ (heap_alloc_new w _)]
     simpa using hu

mutual
theorem pur_NX {M : Mem} {h : List (Option Ob)} : ∀ {v u : V} {c : Value}, rep M NX v c → pur h v = some u → rep M NX u c
 | .int _ _, u, c, h, hp => by simp only [pur] at hp; cases hp; exact h
 | .bool _, u, c, h, hp => by simp only [pur] at hp; cases hp; exact h
 | .str _, u, c, h, hp => by simp only [pur] at hp; cases hp; exact h
 | .nil sz, u, c, h, hp => by
   simp only [pur] at hp; cases hp
   simp only [rep] at h ⊢
   exact ⟨none, 0, by simpa using h.1, by simp, by simp, h.2, by simp⟩
 | .seq sz l, u, c, h, hp => by simp only [pur] at hp; cases hp; exact h
 | .ref id n, u, c, h, hp => h.elim
 | .strct cs, u, c, h, hp => by
   simp only [pur] at hp
   obtain ⟨us, hus, rfl⟩ := Option.map_eq_some_iff.1 hp
   simp only [rep] at h ⊢
   obtain ⟨arr, h1, h2, h3⟩ := h
   exact ⟨arr, h1, purs_NX h2 hus, h3⟩
 | .ptr _ _, u, c, h, hp => h.elim
 | .eptr _ _ _ _, u, c, h, hp => h.elim
 | .mref _ _ _, u, c, h, hp => h.elim
 | .fseq _ _, u, c, h, hp => h.elim
 | .mptr _ _ _ _ _, u, c, h, hp => h.elim
 | .sptr x off, u, c, h, hp => by simp only [pur] at hp; cases hp; exact h
 | .nilptr, u, c, h, hp => by simp only [pur] at hp; cases hp; exact h
 | .fn f x y, u, c, h, hp => by
   simp only [pur] at hp
   split at hp
   · rename_i x' y' hx hy
     cases hp
     simp only [rep] at h ⊢
     obtain ⟨a1, a2, h1, h2, h3⟩ := h
     exact ⟨a1, a2, h1, purs_NX h2 hx, purs_NX h3 hy⟩
   · cases hp
 | .nilfn, u, c, h, hp => by simp only [pur] at hp; cases hp; exact h
 | .iface t x, u, c, h, hp => by
   simp only [pur] at hp
   obtain ⟨x', hx, rfl⟩ := Option.map_eq_some_iff.1 hp
   simp only [rep] at h ⊢
   obtain ⟨y, h1, h2⟩ := h
   exact ⟨y, h1, pur_NX h2 hx⟩
 | .niliface, u, c, h, hp => by simp only [pur] at hp; cases hp; exact h
 | .tup vs, u, c, h, hp => by
   simp only [pur] at hp
   obtain ⟨us, hus, rfl⟩ := Option.map_eq_some_iff.1 hp
   simp only [rep] at h ⊢
   obtain ⟨arr, h1, h2⟩ := h
   exact ⟨arr, h1, purs_NX h2 hus⟩
 | .junk, u, c, h, hp => by simp only [pur] at hp; cases hp; exact h
theorem purs_NX {M : Mem} {h : List (Option Ob)} : ∀ {vs us : List V} {cs : List Value}, repAll M NX vs cs → purs h vs = some us → repAll M NX us cs
 | [], us, cs, h, hp => by simp only [purs] at hp; cases hp; exact h
 | v :: vs, us, cs, h, hp => by
   simp only [purs] at hp
   split at hp
   · rename_i u us' hu hus
     cases hp
     simp only [repAll] at h ⊢
     obtain ⟨c, cs', h1, h2, h3⟩ := h
     exact ⟨c, cs', h1, pur_NX h2 hu, purs_NX h3 hus⟩
   · cases hp
end

theorem mks_sound (H : Rel N M0 B w0 κ M σ a w) {t e : TypeId} {i : TypeInfo} {n by' : Nat} {z : Value} {v v' : V} (ht : P.underlying t = some (.slice e)) (hi : P.info? e = some i) (hz : i.zero = some z) (hv : cV P e z = some v) (hnt : nt v = true) (hpv : pur [] v = some v')
 (hs : i.size = n) (hby : i.bytes = by') (hb0 : 0 < by') (hn : 0 < n) (hzs : z.cells.size = n) {m : Int} (hm0 : 0 ≤ m) (hmb : m * by' ≤ 140737488355328) {k : IntKind} :
 ∃ c w', (Instr.makeSlice t (.int k m) (.int k m)).run P w = .ok c w' ∧ ∃ κ', Rel N M0 B w0 κ' M { σ with h := σ.h ++ [some (Ob.arr e n (List.replicate m.toNat v'))] } a w' ∧ rep M (XX κ' (σ.h ++ [some (Ob.arr e n (List.replicate m.toNat v'))])) (.ref σ.h.length m.toNat) c := by
 obtain ⟨q, rfl⟩ := Int.eq_ofNat_of_zero_le hm0
 have hqb : q * by' ≤ 140737488355328 := by
  have : ((q * by' : Nat) : Int) ≤ 140737488355328 := by rw [Int.natCast_mul]; exact hmb
  omega
 have hq : q ≤ q * by' := Nat.le_mul_of_pos_right _ hb0
 have hqb' : (by' : Int) * (q : Int) ≤ 281474976710656 := by
  have : ((by' * q : Nat) : Int) ≤ 281474976710656 := by rw [Nat.mul_comm]; omega
  rwa [Int.natCast_mul] at this
 have hr := run_make (P := P) w t e i z ht hi hz k k (q : Int) (q : Int) hm0 (Int.le_refl _) (by rw [hby]; exact hqb') (by omega)
 simp only [Int.toNat_natCast] at hr ⊢
 refine ⟨_, _, hr, upd κ σ.h.length (.slice (some ⟨w.heap.size, 0, none⟩) q q), ?_, ?_⟩
 · have hBw : B.n ≤ w.heap.size := by rw [H.base]; exact H.blw.size
   refine H.newOb (below_alloc w _) (fun g hg => by cases hg; exact Nat.le_refl _) ?_
   simp only [obAt]
   have hrp : rep M NX v' z := pur_NX (cV_rep hv) hpv
   have hk := rep_cellsC hrp NX_cell (nt_spec (pur_nt hpv hnt))
   refine ⟨hn, by simp; omega, (madeCells z.cells (q * i.size)).toList, ?_, ?_, fun g hg => .inl (by rw [updK_bl] at hg; cases hg; exact hBw), fun g => by rw [updK_bl, updK_v]⟩
   · rw [upd_self]
     have hsz := size_madeCells z.cells (q * n)
     rw [hs]
     refine ⟨by simp [hsz], .inr ⟨w.heap.size, q, _, by simp, Nat.zero_le _, heap_alloc_new w _, by simp, by simp only [maxLen]; omega, hsz, ?_⟩⟩
     rw [List.take_of_length_le (by simp [hsz])]
   · rw [hs, ← hzs, madeCells_flat _ _ (by omega)]
     exact repRow_replicate hrp rfl hk.2 q
 · simp only [rep, XX]
   refine ⟨rfl, by simp, fun e2 sz2 l2 h2 => ?_, fun e2 sz2 l2 l3 h2 => by simp at h2, fun o2 h2 hn => by simp at h2; subst h2; cases hn⟩
   simp at h2
   obtain ⟨rfl, rfl, rfl⟩ := h2
   exact ⟨by simp, fun _ => upd_self.symm⟩

theorem mk0_sound (H : Rel N M0 B w0 κ M σ a w) {t e : TypeId} {i : TypeInfo} {n by' : Nat} {z : Value} (ht : P.underlying t = some (.slice e)) (hi : P.info? e = some i) (hz : i.zero = some z)
 (hs : i.size = n) (hby : i.bytes = by') (hb0 : 0 < by') (hn : 0 < n) {m : Int} (hm0 : 0 ≤ m) (hmb : m * by' ≤ 140737488355328) {k k' : IntKind} :
 ∃ c w', (Instr.makeSlice t (.int k' 0) (.int k m)).run P w = .ok c w' ∧ ∃ κ', Rel N M0 B w0 κ' M { σ with h := σ.h ++ [some (Ob.arr e n [])] } a w' ∧ rep M (XX κ' (σ.h ++ [some (Ob.arr e n [])])) (.ref σ.h.length 0) c := by
 obtain ⟨q, rfl⟩ := Int.eq_ofNat_of_zero_le hm0
 have hqb : q * by' ≤ 140737488355328 := by
  have : ((q * by' : Nat) : Int) ≤ 140737488355328 := by rw [Int.natCast_mul]; exact hmb
  omega
 have hq : q ≤ q * by' := Nat.le_mul_of_pos_right _ hb0
 have hqb' : (by' : Int) * (q : Int) ≤ 281474976710656 := by
  have : ((by' * q : Nat) : Int) ≤ 281474976710656 := by rw [Nat.mul_comm]; omega
  rwa [Int.natCast_mul] at this
 have hr := run_make (P := P) w t e i z ht hi hz k' k 0 (q : Int) (Int.le_refl _) hm0 (by rw [hby]; exact hqb') (by omega)
 simp only [Int.toNat_natCast, Int.toNat_zero] at hr
 refine ⟨_, _, hr, upd κ σ.h.length (.slice (some ⟨w.heap.size, 0, none⟩) 0 q), ?_, ?_⟩
 · have hBw : B.n ≤ w.heap.size := by rw [H.base]; exact H.blw.size
   refine H.newOb (below_alloc w _) (fun g hg => by cases hg; exact Nat.le_refl _) ?_
   simp only [obAt]
   refine ⟨hn, by simp, [], ?_, by simp [repRow], fun g hg => .inl (by rw [updK_bl] at hg; cases hg; exact hBw), fun g => by rw [updK_bl, updK_v]⟩
   rw [upd_self]
   have hsz := size_madeCells z.cells (q * n)
   rw [hs]
   exact ⟨by simp, .inr ⟨w.heap.size, q, _, by simp, Nat.zero_le _, heap_alloc_new w _, by simp, by simp only [maxLen]; omega, hsz, by simp⟩⟩
 · simp only [rep, XX]
   refine ⟨rfl, by simp, fun e2 sz2 l2 h2 => ?_, fun e2 sz2 l2 l3 h2 => by simp at h2, fun o2 h2 hn => by simp at h2; subst h2; cases hn⟩
   simp at h2
   obtain ⟨rfl, rfl, rfl⟩ := h2
   exact ⟨by simp, fun _ => upd_self.symm⟩

theorem mkm_sound (H : Rel N M0 B w0 κ M σ a w) {t e e2 : TypeId} {i : TypeInfo} {n by' : Nat} (ht : P.underlying t = some (.slice e)) (hi : P.info? e = some i) (hz : i.zero = some (.slice none 0 0))
 (hs : i.size = 1) (hby : i.bytes = by') (hb0 : 0 < by') (hn : 0 < n) {m : Int} (hm0 : 0 ≤ m) (hmb : m * by' ≤ 140737488355328) {k : IntKind} :
 ∃ c w', (Instr.makeSlice t (.int k m) (.int k m)).run P w = .ok c w' ∧ ∃ κ', Rel N M0 B w0 κ' M { σ with h := σ.h ++ [some (Ob.mat e e2 n (List.replicate m.toNat (.a [])))] } a w' ∧ rep M (XX κ' (σ.h ++ [some (Ob.mat e e2 n (List.replicate m.toNat (.a [])))])) (.ref σ.h.length m.toNat) c := by
 obtain ⟨q, rfl⟩ := Int.eq_ofNat_of_zero_le hm0
 have hqb : q * by' ≤ 140737488355328 := by
  have : ((q * by' : Nat) : Int) ≤ 140737488355328 := by rw [Int.natCast_mul]; exact hmb
  omega
 have hq : q ≤ q * by' := Nat.le_mul_of_pos_right _ hb0
 have hqb' : (by' : Int) * (q : Int) ≤ 281474976710656 := by
  have : ((by' * q : Nat) : Int) ≤ 281474976710656 := by rw [Nat.mul_comm]; omega
  rwa [Int.natCast_mul] at this
 have hr := run_make (P := P) w t e i _ ht hi hz k k (q : Int) (q : Int) hm0 (Int.le_refl _) (by rw [hby]; exact hqb') (by omega)
 simp only [Int.toNat_natCast] at hr ⊢
 refine ⟨_, _, hr, updK κ σ.h.length (.slice (some ⟨w.heap.size, 0, none⟩) q q) (fun _ => .slice none 0 0) (fun g => g = w.heap.size), ?_, ?_⟩
 · have hBw : B.n ≤ w.heap.size := by rw [H.base]; exact H.blw.size
   have rs : ∀ {j : Nat} {s : List V}, rowAt (List.replicate q (.a [])) j = some s → s = [] ∧ j < q := by
    intro j s h
    obtain ⟨h1, h2⟩ := rowAt_lt h
    simp at h2
    rw [List.getElem?_replicate, if_pos h2] at h1
    cases h1
    exact ⟨rfl, h2⟩
   refine H.newOb (below_alloc w _) (fun g hg => by rw [hg]; exact Nat.le_refl _) ?_
   simp only [obAt]
   rw [updK_v, updK_row, updK_bl]
   have hc : (Value.slice none 0 0).cells = #[Value.slice none 0 0] := rfl
   have hcells : (madeCells (Value.slice none 0 0).cells (q * i.size)).toList = List.replicate q (.slice none 0 0) := by
    rw [hs, Nat.mul_one]
    apply List.ext_getElem?
    intro j
    simp [madeCells, hc, List.getElem?_replicate]
    by_cases hj : j < q
    · simp [hj, Nat.mod_one]
    · simp [hj]
   refine ⟨hn, by simp; omega, ⟨(madeCells (Value.slice none 0 0).cells (q * i.size)).toList, ?_, ?_, ?_⟩, ?_, ?_, ?_, fun g hg => .inl (by rw [hg]; exact hBw), fun g => ?_⟩
   · have hsz := size_madeCells (Value.slice none 0 0).cells (q * 1)
     rw [hs, List.length_replicate]
     refine ⟨by rw [Array.length_toList, hsz], .inr ⟨w.heap.size, q, _, rfl, Nat.zero_le _, heap_alloc_new w _, Nat.le_refl _, by simp only [maxLen]; omega, hsz, ?_⟩⟩
     rw [List.take_of_length_le (by rw [Array.length_toList, hsz]; exact Nat.le_refl _)]
   · intro u hu
     rw [hcells] at hu
     rw [(List.mem_replicate.1 hu).2]
     rfl
   · intro j r hj
     rw [hcells, List.getElem?_replicate, if_pos (rs hj).2]
   · intro j r hj
     rw [(rs hj).1]
     exact ⟨by simp, [], World.ownsRow_nil _ 0 e2 n, by simp [repRow]⟩
   · intro j k r s g _ _ h
     cases h
   · intro j r g _ h
     cases h
   · constructor
     · intro h; exact .inl (by rw [h]; rfl)
     · rintro (h | ⟨_, _, _, h⟩)
       · cases h; rfl
       · cases h
 · simp only [rep, XX]
   refine ⟨rfl, by simp, fun e3 sz2 l2 h2 => by simp at h2, fun e3 sz2 l2 l3 h2 => ?_, fun o2 h2 hn => by simp at h2; subst h2; cases hn⟩
   simp at h2
   obtain ⟨rfl, rfl, rfl, rfl⟩ := h2
   exact ⟨by simp, fun _ => updK_v.symm⟩

theorem ofBytesV_get : ∀ {l : List V} {s : List UInt8}, ofBytesV l = some s → s.length = l.length ∧ ∀ (j : Nat) (b : UInt8), s[j]? = some b → ∃ n, l[j]? = some (.int .u8 n) ∧ b = UInt8.ofNat n.toNat
 | [], s, h => by simp only [ofBytesV, Option.some.injEq] at h; subst h; simp
 | v :: l, s, h => by
   cases v <;> try (simp only [ofBytesV] at h; cases h; done)
   rename_i k n
   cases k <;> try (simp only [ofBytesV] at h; cases h; done)
   simp only [ofBytesV, Option.map_eq_some_iff] at h
   obtain ⟨t, h1, rfl⟩ := h
   obtain ⟨h2, h3⟩ := ofBytesV_get h1
   refine ⟨by simp [h2], fun j b hj => ?_⟩
   cases j with
   | zero => simp at hj; exact ⟨n, by simp, hj.symm⟩
   | succ j => simp at hj; simpa using h3 j b hj

theorem b2s_sound (H : Rel N M0 B w0 κ M σ a w) {s d e : TypeId} {x : Operand} {u : AO} (hx : cO P s x = some u) (hs : P.underlying s = some (.slice e)) (he : P.underlying e = some (.int .u8)) (hd : P.underlying d = some .string)
 {v : V} (hv : σ.val (.b2s u) = some v) : ∃ c, (convert s d (a.eval x)).run P w = .ok c w ∧ rep M (XX κ σ.h) v c := by
 simp only [St.val] at hv
 split at hv
 · rename_i v0 hv0
   split at hv
   · rename_i l hl
     simp only [Option.map_eq_some_iff] at hv
     obtain ⟨t, ht, rfl⟩ := hv
     have hr := pur_rep H H.snd (fun _ _ _ _ _ _ => rfl) (H.op hx hv0) hl
     simp only [rep] at hr
     obtain ⟨p, cap, e1, _, hlen, _, hmem⟩ := hr
     obtain ⟨hlt, hget⟩ := ofBytesV_get ht
     rcases hmem with rfl | ⟨b, off, rfl, hm⟩
     · have : t = [] := by simpa using hlt
       subst this
       refine ⟨.string .empty, ?_, by simp only [rep]; exact ⟨_, rfl, rfl, by simp⟩⟩
       rw [e1]
       cases p with
       | none => exact run_convert_bytes_nil w s e hs he _ _ d hd
       | some p => exact run_convert_bytes_back w s d e p cap [] hs he hd (fun j hj => by simp at hj)
     · refine ⟨.string ⟨t.toArray⟩, ?_, by simp only [rep]; exact ⟨_, rfl, rfl, by omega⟩⟩
       rw [e1, ← hlt]
       refine run_convert_bytes_back w s d e _ cap t hs he hd fun j hj => ?_
       obtain ⟨n, h1, h2⟩ := hget j t[j] (by simp)
       obtain ⟨y, g1, g2, g3, g4⟩ := repMem_get hm h1
       simp only [rep] at g1
       obtain ⟨rfl, hn1, hn2⟩ := g1
       have := g4 0 (by omega)
       rw [Addr.add_lit]
       simp only [Nat.mul_one, Nat.add_zero] at this
       rw [this, h2]
       have hmin : IntKind.u8.min = 0 := by decide
       have hmax : IntKind.u8.max = 255 := by decide
       rw [hmin] at hn1
       rw [hmax] at hn2
       have hn : n.toNat < 256 := by omega
       simp only [Value.cells, List.getElem?_toArray, List.getElem?_cons_zero]
       congr 2
       simp [UInt8.toNat_ofNat, Nat.mod_eq_of_lt hn, Int.toNat_of_nonneg hn1]
   · cases hv
 · cases hv

theorem mkp_sound (H : Rel N M0 B w0 κ M σ a w) {t : TypeId} {kt : KT} : ∃ c w', (Instr.makeMap t none).run P w = .ok c w' ∧ ∃ κ', Rel N M0 B w0 κ' M { σ with h := σ.h ++ [some (Ob.mp kt [])] } a w' ∧ rep M (XX κ' (σ.h ++ [some (Ob.mp kt [])])) (.ref σ.h.length 0) c := by
 refine ⟨_, _, run_makeMap (P := P) t w, updK κ σ.h.length (.map (some w.heap.size)) (fun _ => .nilFunc) (fun g => g = w.heap.size), ?_, ?_⟩
 · have hBw : B.n ≤ w.heap.size := by rw [H.base]; exact H.blw.size
   refine H.newOb (below_alloc w _) (fun g hg => by rw [hg]; exact Nat.le_refl _) ?_
   simp only [obAt]
   rw [updK_v, updK_bl]
   refine ⟨w.heap.size, #[], 0, rfl, .inl hBw, ?_, rfl, fun g => Iff.rfl⟩
   show (w.heap.push _)[w.heap.size]? = _
   simp
 · simp only [rep, XX]
   refine ⟨rfl, by simp, fun e2 sz2 l2 h2 => by simp at h2, fun e2 sz2 l2 l3 h2 => by simp at h2, fun e2 l3 h2 => ?_⟩
   rw [updK_v]
theorem mup_sound (H : Rel N M0 B w0 κ M σ a w) {t K E : TypeId} {kt : KT} (ht : P.underlying t = some (.map K E)) (hk : ktT P K = some kt) {id : Nat} {l : List (V × V)} (hm : σ.h[id]? = some (some (.mp kt l))) {kv u' : V} {c d : Value}
 (hf : fitsK kt kv = true) (hc : rep M (XX κ σ.h) kv c) (hd : rep M NX u' d) : ∃ w', (Instr.mapUpdate t (κ id) c d).run P w = .ok () w' ∧ ∃ κ', Rel N M0 B w0 κ' M { σ with h := σ.h.set id (some (Ob.mp kt (mput kv u' l))) } a w' := by
 obtain ⟨b, es, clock, e1, e2, e3, e4, e5⟩ := H.heap id _ hm
 obtain ⟨r, g1, g2⟩ := run_find hk hf hc w l es.toList e4
 have gc := run_check hk hf hc false w
 have hobj := Go.MapKept.run_getObj_map (P := P) e3
 have hkN : rep M NX kv c := by
  have := key_val hk hf hc
  refine key_NX hf hc
 have fin : ∀ (es' : Array MapEntry) (clock' : Nat), mpAt M kt (mput kv u' l) es'.toList → ∃ κ', Rel N M0 B w0 κ' M { σ with h := σ.h.set id (some (Ob.mp kt (mput kv u' l))) } a { w with heap := w.heap.setIfInBounds b (.map es' clock') } := by
  intro es' clock' hes
  have hlt : b < w.heap.size := (Array.getElem?_eq_some_iff.1 e3).1
  refine ⟨updK κ id (κ id) (κ.row id) (κ.bl id), H.setOb hm ⟨rfl, rfl, rfl, by simp, fun k hk1 hk2 => ?_, fun k cur T z hc => ⟨cur, T, z, by
   have : b ≠ k := fun e => by subst e; rw [e3] at hc; cases hc
   simp [Array.getElem?_setIfInBounds, this, hc], rfl⟩⟩ (fun k hk1 hk2 => ?_) (fun g hg => .inl hg) (fun v c hx => XX_set hm hx (fun _ h => by cases h) (fun _ _ _ h => by cases h) (fun _ _ _ _ h => by cases h) (fun _ => ⟨rfl, rfl⟩)) ?_⟩
  · have : b ≠ k := fun e => by
     subst e
     rcases e2 with h | h
     · omega
     · exact hk2 h
    simp [Array.getElem?_setIfInBounds, this]
  · have : b ≠ k := fun e => hk2 (by subst e; exact (e5 b).2 rfl)
    simp [Array.getElem?_setIfInBounds, this]
  · simp only [obAt]
    rw [updK_v, updK_bl]
    exact ⟨b, es', clock', e1, e2, by simp [Array.getElem?_setIfInBounds, hlt], hes, e5⟩
 rcases g2 with ⟨rfl, g3, g4⟩ | ⟨j, e, k', v2, rfl, hj, g3, _, hfk, hke, heq, g4⟩
 · refine ⟨_, ?_, fin (es.push { key := c, val := d, born := clock }) (clock + 1) (by simpa using g4 { key := c, val := d, born := clock } u' hf hkN hd)⟩
   unfold Instr.mapUpdate
   simp [run_underlying ht, e1, hobj, gc, g1, Go.MapKept.run_setObj_map _ e3]
 · have hcc : e.key = c := (key_same hf hfk heq hc hke).symm
   have hjs : es[j]? = some e := by simpa using hj
   have hst : (Instr.keyThatStays (((es[j]?).map (·.key)).getD c) c).run P w = .ok c w := by
    rw [hjs]
    simp only [Option.map_some, Option.getD_some, hcc, Instr.keyThatStays, bits_same hf hc, if_true]
    rfl
   refine ⟨_, ?_, fin (es.modify j fun e => { e with key := c, val := d }) clock (by simpa using g4 (fun e => { e with key := c, val := d }) u' hf (fun _ => ⟨hkN, hd⟩))⟩
   unfold Instr.mapUpdate
   simp [run_underlying ht, e1, hobj, gc, g1, hst, Go.MapKept.run_setObj_map _ e3]

theorem eff_sound (hJC : JCall P M0 B) (H : Rel N M0 B w0 κ M σ a w) {ty : TypeId} {op : Op} {act : Act'} (hl : LE P ty op act) (hny : ∀ g xs, act ≠ .yld g xs) {d : Option Nat} (hd : ∀ t, d = some t → t < N ∧ t ∉ B.ps) {K : St → Prop} (hW : wact (Cn P) d act K σ)
 {Nx : Act → World → Prop} (hK : ∀ κ' M' σ' a' w', K σ' → Rel N M0 B w0 κ' M' σ' a' w' → Nx a' w') {Q : Exit → Act → World → Prop} (o : Oper) (ho : o.op = op) (hty : o.type = ty) (hod : o.dst = d) : o.wp P a w Nx Q := by
 unfold Oper.wp execOp
 subst hod
 cases hl <;> rw [ho] <;> dsimp only
 case alloc e i z v hi hz hv hnt =>
  simp only [wact] at hW
  have hr := cV_rep hv (M := M) (X := NX)
  have hk := rep_cellsC hr NX_cell (nt_spec hnt)
  have ho' : obAt (upd κ σ.h.length (.pointer (some ⟨w.heap.size, 0, none⟩))) M (XX (upd κ σ.h.length (.pointer (some ⟨w.heap.size, 0, none⟩))) (σ.h ++ [some (Ob.box (cl v))])) B (w.alloc (.cells z.cells e)) σ.h.length (.box (cl v)) := by
   simp only [obAt]
   refine ⟨w.heap.size, z.cells, e, upd_self, .inl (by rw [H.base]; exact H.blw.size), heap_alloc_new w _, repAll_mono (fun _ _ h => h) (fun _ _ h => h.elim) _ _ hk.1, hk.2, fun g => by rw [updK_bl]; simp only [blk, Option.some.injEq]; exact eq_comm⟩
  have H' := H.newOb (below_alloc w _) (kv := .pointer (some ⟨w.heap.size, 0, none⟩)) (fun g hg => by cases hg; exact Nat.le_refl _) ho'
  have hfin := hK _ _ _ _ _ hW (H'.put' (c := .pointer (some ⟨w.heap.size, 0, none⟩)) hd (by
   simp only [rep, XX]
   exact ⟨rfl, by simp, fun cs _ => ⟨w.heap.size, upd_self, rfl⟩⟩))
  simp [Instr.alloc, zeroValue, typeInfo, hi, hz, newVar, newRow, Oper.upon]
  exact hfin
 case box e x y hx =>
  simp only [wact] at hW
  split at hW
  · rename_i v hv
    split at hW
    · rename_i hnt
      have hr := H.op hx hv
      have hk := rep_cellsC hr XX_cell (nt_spec hnt)
      have hX : ∀ u c, XX κ σ.h u c → XX (upd κ σ.h.length (.pointer (some ⟨w.heap.size, 0, none⟩))) (σ.h ++ [some (Ob.box (cl v))]) u c := fun u c hx => XX_lt hx (by simp) (fun i hi => upd_ne (by omega)) (fun i hi => (updK_ne (by omega)).2.1) (fun i ob' hi h => by rwa [List.getElem?_append_left hi] at h)
      have ho' : obAt (upd κ σ.h.length (.pointer (some ⟨w.heap.size, 0, none⟩))) M (XX (upd κ σ.h.length (.pointer (some ⟨w.heap.size, 0, none⟩))) (σ.h ++ [some (Ob.box (cl v))])) B (w.alloc (.cells (a.eval x).cells e)) σ.h.length (.box (cl v)) := by
       simp only [obAt]
       exact ⟨w.heap.size, (a.eval x).cells, e, upd_self, .inl (by rw [H.base]; exact H.blw.size), heap_alloc_new w _, repAll_mono (fun _ _ h => h) hX _ _ hk.1, hk.2, fun g => by rw [updK_bl]; simp only [blk, Option.some.injEq]; exact eq_comm⟩
      have H' := H.newOb (below_alloc w _) (kv := .pointer (some ⟨w.heap.size, 0, none⟩)) (fun g hg => by cases hg; exact Nat.le_refl _) ho'
      have hfin := hK _ _ _ _ _ hW (H'.put' (c := .pointer (some ⟨w.heap.size, 0, none⟩)) hd (by
       simp only [rep, XX]
       exact ⟨rfl, by simp, fun cs _ => ⟨w.heap.size, upd_self, rfl⟩⟩))
      simp [Instr.box, newVar, newRow, Oper.upon]
      exact hfin
    · exact hW.elim
  · exact hW.elim
 case store t p x p' x' n hp hx hs =>
  simp only [wact] at hW
  split at hW
  · rename_i pv v hpv hv
    split at hW
    · rename_i hnt
      split at hW
      · rename_i σ' hst
        obtain ⟨w', hrun, κ', M', H'⟩ := stor_sound H hs (H.op hp hpv) (H.op hx hv) hnt hst
        have hfin := hK _ _ _ _ _ hW (H'.undef hd)
        simp [hrun, Oper.upon]
        exact hfin
      · exact hW.elim
    · exact hW.elim
  · exact hW.elim
 case s2b s d x y e hx hs hd' he =>
  simp only [wact] at hW
  split at hW
  · rename_i l hv
    obtain ⟨hlen, hW⟩ := hW
    obtain ⟨bs, hc, rfl, _⟩ := rep_str (H.op hx hv)
    obtain ⟨c, w', hrun, M', H', hr⟩ := s2b_sound H bs hlen hs hd' he
    have hfin := hK _ _ _ _ _ hW (H'.put' hd (rep_of_pure hr))
    simp [hc, hrun, Oper.upon]
    exact hfin
  · exact hW.elim
 case lit t len parts xs e n i z ht hi hs h0 hz hzs hle hpi hps =>
  simp only [wact] at hW
  split at hW
  · rename_i vs hvs
    split at hW
    · rename_i us hus
      obtain ⟨hsl, hul, hW⟩ := hW
      obtain ⟨c, w', hrun, κ', M', H', hr⟩ := lit_sound H ht hi hs h0 hz hzs hle hpi (H.ops hps hvs) hus hsl hul
      have hfin := hK _ _ _ _ _ hW (H'.put' hd (rep_of_pure hr))
      simp [hrun, Oper.upon]
      exact hfin
    · exact hW.elim
  · exact hW.elim
 case ltr t len parts xs e n i z ht hi hs h0 hz hzs hle hpi hps =>
  simp only [wact] at hW
  split at hW
  · rename_i vs hvs
    split at hW
    · rename_i us hus
      obtain ⟨hsl, hul, hW⟩ := hW
      obtain ⟨c, w', hrun, κ', M', H', hr⟩ := ltr_sound H ht hi hs h0 hz hzs hle hpi (H.ops hps hvs) hus hsl hul
      have hfin := hK _ _ _ _ _ hW (H'.put' hd hr)
      simp [hrun, Oper.upon]
      exact hfin
    · exact hW.elim
  · exact hW.elim
 case app t x y x' y' e i z n by' ht hi hz hs hby hb0 hzs hn hx hy =>
  obtain ⟨c, w1, hr, hfin⟩ := app_sound (ty := o.type) H ht hi hz hs hby hb0 hzs hn hx hy hd hW hK
  simp [resolve, invoke, builtin, hr, Oper.upon]
  exact hfin
 case mks t l l' e i z v v' n by' ht hi hz hv hnt hpv hs hby hb0 hn hl' hzs =>
  simp only [wact] at hW
  split at hW
  · rename_i k m hm
    obtain ⟨hm0, hmb, hW⟩ := hW
    obtain ⟨c, w', hrun, κ', H', hr⟩ := mks_sound H ht hi hz hv hnt hpv hs hby hb0 hn hzs hm0 hmb (k := k)
    obtain ⟨em, _⟩ := rep_int (H.op hl' hm)
    have hfin := hK _ _ _ _ _ hW (H'.put' hd hr)
    simp [em, hrun, Oper.upon]
    exact hfin
  · exact hW.elim
 case mk0 t k0 l l' e i z n by' ht hi hz hs hby hb0 hn hl' =>
  simp only [wact] at hW
  split at hW
  · rename_i k m hm
    obtain ⟨hm0, hmb, hW⟩ := hW
    obtain ⟨c, w', hrun, κ', H', hr⟩ := mk0_sound H ht hi hz hs hby hb0 hn hm0 hmb (k := k) (k' := k0)
    obtain ⟨em, _⟩ := rep_int (H.op hl' hm)
    have hfin := hK _ _ _ _ _ hW (H'.put' hd hr)
    have ec : a.eval (.const (.int k0 0)) = .int k0 0 := rfl
    simp [em, ec, hrun, Oper.upon]
    exact hfin
  · exact hW.elim
 case mkm t l l' e i n by' e2 i2 ht hi hz hs hby hb0 ht2 hi2 hs2 hn hl' =>
  simp only [wact] at hW
  split at hW
  · rename_i k m hm
    obtain ⟨hm0, hmb, hW⟩ := hW
    obtain ⟨c, w', hrun, κ', H', hr⟩ := mkm_sound (e2 := e2) H ht hi hz hs hby hb0 hn hm0 hmb (k := k)
    obtain ⟨em, _⟩ := rep_int (H.op hl' hm)
    have hfin := hK _ _ _ _ _ hW (H'.put' hd hr)
    simp [em, hrun, Oper.upon]
    exact hfin
  · exact hW.elim
 case mkp t K E kt ht hk =>
  simp only [wact] at hW
  obtain ⟨c, w', hrun, κ', H', hr⟩ := mkp_sound (P := P) (t := t) (kt := kt) H
  have hfin := hK _ _ _ _ _ hW (H'.put' hd hr)
  simp [hrun, Oper.upon]
  exact hfin
 case mup t K E x k v u b c kt ht hk hx hkk hvv =>
  simp only [wact] at hW
  split at hW
  · rename_i id n kv u1 h1 h2 h3
    split at hW
    · rename_i kt' l u' hm hp
      obtain ⟨rfl, hf, hvi, hnt, hW⟩ := hW
      have hmp := mp?_eq hm
      have r1 := H.op hx h1
      simp only [rep, XX] at r1
      have ex := r1.2.2.2.2 _ hmp rfl
      have hd' := pur_rep H (fun _ _ h => h) (fun id hid => by rw [hvi] at hid; cases hid) (H.op hvv h3) hp
      obtain ⟨w', hrun, κ', H'⟩ := mup_sound (P := P) H ht hk hmp hf (H.op hkk h2) hd'
      have hfin := hK _ _ _ _ _ hW (H'.undef hd)
      simp [ex, hrun, Oper.upon]
      exact hfin
    · exact hW.elim
  · exact hW.elim
 case mui t K E x k v u b c kt ht hk hx hkk hvv =>
  simp only [wact] at hW
  split at hW
  · rename_i id n kv u1 h1 h2 h3
    split at hW
    · rename_i kt' l u' hm hp
      obtain ⟨rfl, hf, hvi, hnt, hW⟩ := hW
      have hmp := mp?_eq hm
      have r1 := H.op hx h1
      simp only [rep, XX] at r1
      have ex := r1.2.2.2.2 _ hmp rfl
      have hd' := pur_rep H (fun _ _ h => h) (fun id hid => by rw [hvi] at hid; cases hid) (H.op hvv h3) hp
      obtain ⟨w', hrun, κ', H'⟩ := mup_sound (P := P) H ht hk hmp hf (H.op hkk h2) hd'
      have hfin := hK _ _ _ _ _ hW (H'.undef hd)
      simp [ex, hrun, Oper.upon]
      exact hfin
    · exact hW.elim
  · exact hW.elim
 case call f args ts xs hx =>
  simp only [wact] at hW
  split at hW
  · rename_i vs hvs
    split at hW
    · rename_i us hus
      have hcs := H.ops hx hvs
      have := call_sound H hd hW hus (cs := args.map a.eval) (by simpa using hcs) hK (Q := Q) o rfl
      simpa [resolve, Deferred.ofValue, invoke, Act.eval] using this
    · have := callH_sound H hJC hd hW (cs := args.map a.eval) (by simpa using H.ops hx hvs) hK (Q := Q) o rfl
      simpa [resolve, Deferred.ofValue, invoke, Act.eval] using this
  · exact hW.elim
 case inv r x name args ts xs tbl hx ht hxs =>
  simp only [wact] at hW
  split at hW
  · rename_i t v vs he hvs
    split at hW
    · rename_i f hf
      subst ht
      have hr := H.op hx he
      simp only [rep] at hr
      obtain ⟨y, ey, hy⟩ := hr
      have hcs : repAll M (XX κ σ.h) (v :: vs) (#[y] ++ args.map a.eval).toList := by
       have := H.ops hxs hvs
       simp only [Array.toList_append, List.cons_append, List.nil_append, repAll]
       exact ⟨y, _, rfl, hy, by simpa using this⟩
      have hrun : ((do let d ← resolve a.eval { callee := .invoke r name, args := args, argTypes := ts } o.type; invoke d.target d.args : Sem Next)).run P w = (callFunc f (#[y] ++ args.map a.eval)).run P w := by
       have e0 : ∀ l : Array Value, (#[Value.iface t y] ++ l)[0]? = some (.iface t y) := fun l => by simp [Array.getElem?_append]
       have e1 : (args.map a.eval).extract 0 args.size = args.map a.eval := by simp
       simp [resolve, invoke, callMethod, ey, Made.depth, run_method hf, e0, e1]
      rw [hrun]
      split at hW
      · rename_i us hus
        exact call_sound H hd hW hus hcs hK (Q := Q) o rfl
      · exact callH_sound H hJC hd hW hcs hK (Q := Q) o rfl
    · exact hW.elim
  · exact hW.elim
 case trc t x hi u hi' e n hx hh ht hs =>
  simp only [wact] at hW
  split at hW
  · rename_i id m k b he hb
    split at hW
    · rename_i e' sz' l hal
      obtain ⟨rfl, hn, hb0, hbn, hW⟩ := hW
      have ha := arr?_eq hal
      simp only at ha
      have hr := H.op hx he
      simp only [rep, XX] at hr
      have hck := (hr.2.2.1 _ _ _ ha).2 hn
      obtain ⟨ei, _⟩ := rep_int (H.op hh hb)
      obtain ⟨h0, hll, xs, ho, hrow, _⟩ := H.heap id _ ha
      have hsl : ∃ (ad : Option Addr) (cap : Nat), κ id = .slice ad l.length cap ∧ l.length ≤ cap ∧ ∀ q, ad.map (·.add (0 * q)) = ad := by
       rcases ho.2 with ⟨h4, h5⟩ | ⟨g, cap, cur, h4, h5, h6, h7, _⟩
       · exact ⟨none, 0, by rw [h4, h5], by omega, fun q => rfl⟩
       · exact ⟨some ⟨g, 0, none⟩, cap, h4, h7, fun q => by simp [Addr.add_lit]⟩
      obtain ⟨ad, cap, hκ, hcap, hadd⟩ := hsl
      obtain ⟨κ', H', hk'⟩ := H.trunc ha (b := b.toNat) (by omega) hκ
      have b3 : (Instr.sliceBounds true l.length cap none (some (.int k b)) none).run P w = .ok (0, b.toNat, cap) w :=
       run_bounds (p := 0) (q := b.toNat) (.inr ⟨k, b, rfl, by omega, by omega, rfl⟩) (.inl ⟨rfl, rfl⟩) w
      have hfin := hK _ _ _ _ _ hW (H'.put' hd (c := .slice ad b.toNat cap) (by
       simp only [rep, XX]
       refine ⟨rfl, by simp, fun e2 sz2 l2 h2 => ?_, fun e2 sz2 l2 l3 h2 => by simp at h2, fun o2 h2 hn => by simp at h2; subst h2; cases hn⟩
       simp at h2
       obtain ⟨rfl, rfl, rfl⟩ := h2
       exact ⟨by simp; omega, fun _ => hk'.symm⟩))
      have hrun : (Instr.sliceAt t (a.eval x) none (some (a.eval hi)) none).run P w = .ok (.slice ad b.toNat cap) w := by
       rw [hck] at *
       simp [Instr.sliceAt, run_underlying ht, Instr.slice, hκ, ei, b3, run_sizeOf hs]
       intro hc0
       simpa using hadd sz'
      simp only [Option.map_none, Option.map_some]
      simp [hrun, Oper.upon]
      exact hfin
    · exact hW.elim
  · exact hW.elim
 case callH f args ts xs hx =>
  simp only [wact] at hW
  split at hW
  · rename_i vs hvs
    have := callH_sound H hJC hd hW (cs := args.map a.eval) (by simpa using H.ops hx hvs) hK (Q := Q) o rfl
    simpa [resolve, Deferred.ofValue, invoke, Act.eval] using this
  · exact hW.elim
 case b2s s d x u e hx hs he hd' =>
  simp only [wact] at hW
  split at hW
  · rename_i v hv
    obtain ⟨c, hrun, hc⟩ := b2s_sound H hx hs he hd' hv
    have hfin := hK _ _ _ _ _ hW (H.put' hd hc)
    simp [hrun, Oper.upon]
    exact hfin
  · exact hW.elim
 case yld g args ts xs hx => exact (hny _ _ rfl).elim
 case callv g args ts xs hx =>
  simp only [wact] at hW
  split at hW
  · rename_i f x y vs hg hvs
    split at hW
    · rename_i us hus
      have hcs := H.ops hx hvs
      simp only [St.ev] at hg
      have hrg := H.ev hg
      simp only [rep] at hrg
      obtain ⟨a1, a2, e1, h1, h2⟩ := hrg
      have := call_sound H hd hW hus (cs := a1 ++ args.map a.eval ++ a2) (by simpa using repAll_append h1 (repAll_append hcs h2)) hK (Q := Q) o rfl
      simpa [resolve, Deferred.ofValue, invoke, e1] using this
    · have hcs := H.ops hx hvs
      simp only [St.ev] at hg
      have hrg := H.ev hg
      simp only [rep] at hrg
      obtain ⟨a1, a2, e1, h1, h2⟩ := hrg
      have := callH_sound H hJC hd hW (cs := a1 ++ args.map a.eval ++ a2) (by simpa using repAll_append h1 (repAll_append hcs h2)) hK (Q := Q) o rfl
      simpa [resolve, Deferred.ofValue, invoke, e1] using this
  · exact hW.elim
end
end Go.Abs
end
section
namespace Go.Abs
open Go.RowKit

section
variable {P : Program} {N : Nat} {M0 : Mem} {B : Bas} {w0 : World} {κ : Kap} {M : Mem} {σ : St} {a : Act} {w w' : World}

theorem stepsIn_FR {ρ : Option Nat} {m m' : Machine} (h : Steps P m m') : StepsIn (Machine.fenced P (FR ρ)) P m m' := stepsIn_wide.2 h
theorem comesIn_FR {ρ : Option Nat} {m m' : Machine} {e : Ending} (h : Comes P m m' e) : ComesIn (Machine.fenced P (FR ρ)) P m m' e := comesIn_wide.2 h
theorem callsIn_FR {ρ : Option Nat} {n : Nat} {f : FuncId} {args : Array Value} {R : Ending → World → Prop} (h : Calls P f args w R) : CallsIn (FR ρ) n P f args w R :=
 ⟨trivial, fun cs _ => let ⟨e, w', fr, r, s, x⟩ := h cs; ⟨e, w', fr, r, comesIn_FR s, x⟩⟩
theorem uponIn_of {o : Oper} {Nx : Act → World → Prop} {Q : Exit → Act → World → Prop} {ρ : Option Nat} {r : Result Next} (h : o.upon P a Nx Q r) : o.uponIn (FR ρ) 0 P a Nx Q r := by
 cases r with
 | ok x w' =>
   cases x <;> simp only [Oper.upon] at h <;> simp only [Oper.uponIn] <;> first
    | exact h
    | exact h.elim
    | exact ⟨fun h => (by cases h), callsIn_FR h⟩
    | exact ⟨fun h => (by cases h), fun c cs _ => let ⟨v, w', r, s⟩ := h c cs; ⟨v, w', r, stepsIn_FR s⟩⟩
 | halt x w' => cases x <;> simp only [Oper.upon] at h <;> simp only [Oper.uponIn] <;> exact h
theorem wpIn_of {o : Oper} {Nx : Act → World → Prop} {Q : Exit → Act → World → Prop} {ρ : Option Nat} (h : o.wp P a w Nx Q) (hd : ∀ c, o.op ≠ .defer c) : o.wpIn (FR ρ) 0 P a w Nx Q := by
 refine ⟨fun _ _ => trivial, ?_⟩
 rw [Oper.semAt_eq _ _ _ hd]
 exact uponIn_of h
theorem LE_def {ty : TypeId} {op : Op} {act : Act'} (h : LE P ty op act) : ∀ c, op ≠ .defer c := by
 cases h <;> (intro c hc; cases hc)
theorem LV_def {ty : TypeId} {op : Op} {act : Act'} (h : LV P ty op act) : ∀ c, op ≠ .defer c := by
 cases h <;> (intro c hc; cases hc)

theorem Rel.env (H : Rel N M0 B w0 κ M σ a w) {id k : Nat} {l l' : List (V × Bool)} (hid : σ.h[id]? = some (some (.gh l))) (hk : κ id = .func (.yield k) #[] #[]) {S' : Nat → Prop} {M' : Mem} (E : EnvStep (κ.bl id) w S' M M' w') (hJ : B.J k l' S' M' w') :
 Rel N M0 B w0 (updK κ id (κ id) (κ.row id) S') M' { σ with h := σ.h.set id (some (.gh l')) } a w' := by
 have hlt : id < σ.h.length := (List.getElem?_eq_some_iff.1 hid).1
 obtain ⟨_, _, _, hown⟩ := H.heap id _ hid
 have hu : Und B w w' := ⟨E.os, E.tape, E.output, E.size, fun g hg hs => E.block g (by rw [H.base] at hg; have := H.blw.size; omega) (fun h => (hown g h).1.elim (fun h => by omega) hs), E.siz⟩
 have hX : ∀ v c, XX κ σ.h v c → XX (updK κ id (κ id) (κ.row id) S') (σ.h.set id (some (.gh l'))) v c := fun v c hx =>
  XX_set hid hx (fun _ h => by cases h) (fun _ _ _ h => by cases h) (fun _ _ _ _ h => by cases h) (fun _ => ⟨rfl, rfl⟩)
 have hne : ∀ {i}, ¬ id = i → (updK κ id (κ id) (κ.row id) S').bl i = κ.bl i := fun hi => (updK_ne (fun e => hi e.symm)).2.2
 have hse : (updK κ id (κ id) (κ.row id) S').bl id = S' := updK_bl
 have hoth : ∀ {i : Nat} {oi : Ob} {g : Nat}, ¬ id = i → σ.h[i]? = some (some oi) → κ.bl i g → ¬ S' g := fun {i oi g} hi ho hg hs => by
  rcases E.sub g hs with h | h
  · exact hi (H.inj id i _ oi g hid ho h hg)
  · have := (H.blk_lt ho hg).2; omega
 refine { dfr := H.dfr, jst := H.jst, pin := H.pin, size := H.size, regs := ?_, heap := ?_, inj := ?_, snd := E.snd, sep := ?_, sub := ⟨fun p v h => E.mem p v (H.sub.sub p v h), fun p v h => E.mem p v (H.sub.fmS p v h), H.sub.fmN, H.sub.fbn, H.sub.gl⟩, new := ?_, base := H.base, blw := H.blw.trans hu }
 · intro t v ht
   obtain ⟨h1, c, h2, h3⟩ := H.regs t v ht
   exact ⟨h1, c, h2, rep_mono E.mem hX _ _ h3⟩
 · intro i ob h
   rw [List.getElem?_set] at h
   split at h
   · rename_i he
     subst he
     simp only [hlt, if_true, Option.some.injEq] at h
     subst h
     simp only [obAt]
     rw [updK_v, updK_bl]
     exact ⟨k, hk, hJ, fun g hg => ⟨(E.sub g hg).elim (fun h => (hown g h).1) (fun h => .inl (by rw [H.base]; have := H.blw.size; omega)), E.lt g hg⟩⟩
   · rename_i he
     refine obAt_mono E.mem hX (updK_ne (fun e => he e.symm)) (fun g hg => E.block g (H.blk_lt h hg).2 (fun hs => he (H.inj id i _ ob g hid h hs hg))) H.jst hu E.snd (H.heap i ob h)
 · intro i j oi oj g hi hj gi gj
   rw [List.getElem?_set] at hi hj
   split at hi <;> split at hj
   · rename_i h1 h2; rw [← h1, ← h2]
   · rename_i h1 h2
     subst h1
     rw [hse] at gi
     rw [hne h2] at gj
     exact (hoth h2 hj gj gi).elim
   · rename_i h1 h2
     subst h2
     rw [hse] at gj
     rw [hne h1] at gi
     exact (hoth h1 hi gi gj).elim
   · rename_i h1 h2
     rw [hne h1] at gi
     rw [hne h2] at gj
     exact H.inj i j oi oj g hi hj gi gj
 · intro p v hp i ob' h
   rw [List.getElem?_set] at h
   split at h
   · rename_i he
     subst he
     rw [hse]
     exact E.sep p v hp
   · rename_i he
     rw [hne he]
     intro hg
     rcases E.new p v hp with h1 | h1 | h1
     · exact H.sep p v h1 i ob' h hg
     · have := (H.blk_lt h hg).2; omega
     · exact he (H.inj id i _ ob' _ hid h h1 hg)
 · intro p v hp
   rcases E.new p v hp with h1 | h1 | h1
   · exact H.new p v h1
   · exact .inr (.inl (by rw [H.base]; have := H.blw.size; omega))
   · exact .inr (hown _ h1).1

theorem yld_sound (hJC : JCall P M0 B) (H : Rel N M0 B w0 κ M σ a w) {g : AO} {xs : List AO} {ty : TypeId} {op : Op} (hl : LE P ty op (.yld g xs)) {d : Option Nat} (hd : ∀ t, d = some t → t < N ∧ t ∉ B.ps) {K : St → Prop} (hW : wact (Cn P) d (.yld g xs) K σ)
 {Nx : Act → World → Prop} (hK : ∀ κ' M' σ' a' w', K σ' → Rel N M0 B w0 κ' M' σ' a' w' → Nx a' w') {Q : Exit → Act → World → Prop} (o : Oper) (ho : o.op = op) (hod : o.dst = d) {ρ : Option Nat} : o.wpIn (FR ρ) 0 P a w Nx Q := by
 subst hod
 refine ⟨fun _ _ => trivial, ?_⟩
 rw [Oper.semAt_eq _ _ _ (by rw [ho]; exact LE_def hl)]
 unfold execOp
 cases hl with
 | @yld g args ts xs hx =>
   rw [ho]
   dsimp only
   simp only [wact] at hW
   split at hW
   · rename_i id n vs hg hvs
     split at hW
     · rename_i v b l us hgh hus
       obtain ⟨rfl, hvi, hW⟩ := hW
       have hid := gh?_eq hgh
       have hcs := H.ops hx hvs
       simp only [St.ev] at hg
       have hrg := H.ev hg
       simp only [rep, XX] at hrg
       have eg := hrg.2.2.2.2 _ hid rfl
       obtain ⟨k, h1, h2, h3⟩ := H.heap id _ hid
       rw [h1] at eg
       have hpu := purs_rep H (fun _ _ h => h) (fun i hi => by rw [hvi] at hi; cases hi) hcs hus
       have hM : Snd M w := ⟨H.snd, H.sub.gl.mono H.sub.sub⟩
       have := hJC k us b l (κ.bl id) M w (args.map a.eval) h2 hM (fun p v hp => H.sep p v hp id _ hid) H.new (by simpa using hpu) o a Nx Q ρ (fun M' S' w' hJ E => hK _ _ _ _ _ hW ((H.env hid h1 E hJ).put' hd (by simp [rep])))
       simpa [resolve, Deferred.ofValue, invoke, eg] using this
     · exact hW.elim
   · exact hW.elim
end
end Go.Abs
end
section
namespace Go.Abs
open Go.RowKit

section
variable {P : Program} {N : Nat} {M0 : Mem} {B : Bas} {w0 : World} {κ : Kap} {M : Mem} {σ : St} {a : Act} {w w' : World}

/-! ### Normal forms -/
theorem Rel.mat (H : Rel N M0 B w0 κ M σ a w) {m : Mat} {σ' : St} (h : σ.mat m = some σ') : ∃ κ' M', Rel N M0 B w0 κ' M' σ' a w := by
 cases m with
 | r t e sz =>
   simp only [St.mat] at h
   split at h
   · rename_i sz0 hlk
     split at h
     · rename_i hsz
       cases h
       have ho : obAt (upd κ σ.h.length (.slice none 0 0)) M (XX (upd κ σ.h.length (.slice none 0 0)) (σ.h ++ [some (Ob.arr e sz [])])) B w σ.h.length (.arr e sz []) := by
        simp only [obAt]
        exact ⟨hsz, by simp, [], by rw [upd_self]; exact World.ownsRow_nil w 0 e sz, by simp [repRow], fun g hg => (by rw [updK_bl] at hg; cases hg), fun g => by rw [updK_bl, updK_v]⟩
       have H' := H.newOb (Below.refl _ _) (kv := .slice none 0 0) (fun g hg => by cases hg) ho
       refine ⟨_, _, { dfr := H'.dfr, jst := H'.jst, pin := H'.pin, size := H'.size, regs := ?_, heap := H'.heap, inj := H'.inj, snd := H'.snd, sep := H'.sep, sub := H'.sub, new := H'.new, base := H'.base, blw := H'.blw }⟩
       intro t' v hv
       simp only [lk] at hv
       split at hv
       · rename_i he
         subst he
         cases hv
         obtain ⟨h1, c, h2, h3⟩ := H.regs _ _ hlk
         simp only [rep] at h3
         refine ⟨h1, c, h2, ?_⟩
         simp only [rep, XX]
         rw [h3.1]
         refine ⟨rfl, by simp, fun e2 sz2 l2 h2 => ?_, fun e2 sz2 l2 l3 h2 => by simp at h2, fun o2 h2 hn => by simp at h2; subst h2; cases hn⟩
         simp at h2
         obtain ⟨rfl, rfl, rfl⟩ := h2
         exact ⟨by simp, fun _ => upd_self.symm⟩
       · exact H'.regs t' v hv
     · cases h
   · cases h
 | b id off e sz =>
   simp only [St.mat] at h
   split at h
   · rename_i cs hcs
     split at h
     · rename_i sz0 hoff
       split at h
       · rename_i hsz
         cases h
         have ho : obAt (upd κ σ.h.length (.slice none 0 0)) M (XX (upd κ σ.h.length (.slice none 0 0)) (σ.h ++ [some (Ob.arr e sz [])])) B w σ.h.length (.arr e sz []) := by
          simp only [obAt]
          exact ⟨hsz, by simp, [], by rw [upd_self]; exact World.ownsRow_nil w 0 e sz, by simp [repRow], fun g hg => (by rw [updK_bl] at hg; cases hg), fun g => by rw [updK_bl, updK_v]⟩
         have H' := H.newOb (Below.refl _ _) (kv := .slice none 0 0) (fun g hg => by cases hg) ho
         have hb := box?_eq hcs
         have hlt : id < σ.h.length := (List.getElem?_eq_some_iff.1 hb).1
         have hb' : (σ.h ++ [some (Ob.arr e sz [])])[id]? = some (some (.box cs)) := by rw [List.getElem?_append_left hlt]; exact hb
         obtain ⟨b, arr, T, h1, h2, h3, h4, h5, h6⟩ := H'.heap id _ hb'
         let κ1 := upd κ σ.h.length (.slice none 0 0)
         have hX : ∀ u c, XX κ1 (σ.h ++ [some (Ob.arr e sz [])]) u c → XX (upd κ1 id (κ1 id)) ((σ.h ++ [some (Ob.arr e sz [])]).set id (some (Ob.box (cs.set off (.ref σ.h.length 0))))) u c := fun u c hx => XX_set hb' hx (fun _ _ => ⟨⟨cs, rfl⟩, rfl⟩) (fun _ _ _ h => by cases h) (fun _ _ _ _ h => by cases h)
         have H2 := H'.setOb hb' (ob := .box (cs.set off (.ref σ.h.length 0))) (kv := κ1 id) (Und.refl _ _) (fun _ _ _ => rfl) (fun g hg => .inl ((h6 g).2 (by rw [h1] at hg; cases hg; rfl))) hX (by
          simp only [obAt]
          refine ⟨b, arr, T, by rw [upd_self]; exact h1, h2, h3, ?_, h5, fun g => by rw [updK_bl, h1]; simp only [blk, Option.some.injEq]; exact eq_comm⟩
          obtain ⟨c, g1, g2⟩ := repAll_get (repAll_mono (fun _ _ h => h) hX _ _ h4) hoff
          simp only [rep] at g2
          have hs := repAll_set off (repAll_mono (fun _ _ h => h) hX _ _ h4) (v := .ref σ.h.length 0) (c := c) (by
           simp only [rep, XX]
           rw [g2.1]
           refine ⟨rfl, by simp, fun e2 sz2 l2 h2 => ?_, fun e2 sz2 l2 l3 h2 => by rw [List.getElem?_set_ne (by omega)] at h2; simp at h2, fun o2 h2 hn => by rw [List.getElem?_set_ne (by omega)] at h2; simp at h2; subst h2; cases hn⟩
           rw [List.getElem?_set_ne (by omega)] at h2
           simp at h2
           obtain ⟨rfl, rfl, rfl⟩ := h2
           refine ⟨by simp, fun _ => ?_⟩
           rw [upd_ne (by omega)]
           exact upd_self.symm)
          have : arr.toList.set off c = arr.toList := by
           apply List.ext_getElem?
           intro j
           rw [List.getElem?_set]
           split
           · rename_i he; subst he
             split
             · exact g1.symm
             · rename_i hn; rw [List.getElem?_eq_none (by omega)]
           · rfl
          rwa [this] at hs)
         refine ⟨upd κ1 id (κ1 id), M, ?_⟩
         have e1 : (σ.h ++ [some (Ob.arr e sz [])]).set id (some (Ob.box (cs.set off (.ref σ.h.length 0)))) = σ.h.set id (some (Ob.box (cs.set off (.ref σ.h.length 0)))) ++ [some (Ob.arr e sz [])] := by
          rw [List.set_append_left _ _ hlt]
         rw [← e1]
         exact H2
       · cases h
     · cases h
   · cases h
 | z t =>
   simp only [St.mat] at h
   split at h
   · rename_i v hv
     split at h
     · rename_i u hu
       cases h
       obtain ⟨H2, hM1⟩ := H.kill (vids v) (pur_in hu)
       obtain ⟨h1, c, h2, h3⟩ := H.regs t v hv
       have k3 : rep (ext M w (blks κ (vids v))) NX u c := by
        refine pur_rep H hM1 (fun id hid g hg p hpb => ?_) h3 hu
        unfold ext
        rw [if_pos (mem_blks.2 ⟨id, hid, by rw [hpb]; exact hg⟩)]
       refine ⟨κ, _, { dfr := H2.dfr, jst := H2.jst, pin := H2.pin, size := H2.size, regs := ?_, heap := H2.heap, inj := H2.inj, snd := H2.snd, sep := H2.sep, sub := H2.sub, new := H2.new, base := H2.base, blw := H2.blw }⟩
       intro t' v' hv'
       simp only [lk] at hv'
       split at hv'
       · rename_i he
         subst he
         cases hv'
         exact ⟨h1, c, h2, rep_of_pure k3⟩
       · exact H2.regs t' v' (by rw [(kill_h _ _).1]; exact hv')
     · cases h
   · cases h

theorem Rel.mats : ∀ {ms : List Mat} {σ σ' : St} {κ : Kap} {M : Mem}, Rel N M0 B w0 κ M σ a w → σ.mats ms = some σ' → ∃ κ' M', Rel N M0 B w0 κ' M' σ' a w
 | [], σ, σ', κ, M, H, h => by simp only [St.mats] at h; cases h; exact ⟨κ, M, H⟩
 | m :: ms, σ, σ', κ, M, H, h => by
   simp only [St.mats] at h
   split at h
   · rename_i σ1 h1
     obtain ⟨κ1, M1, H1⟩ := H.mat h1
     exact Rel.mats H1 h
   · cases h

theorem Rel.nrm (H : Rel N M0 B w0 κ M σ a w) (ks : List Nat) : ∃ κ', Rel N M0 B w0 κ' M (σ.nrm ks) a w := by
 unfold St.nrm
 exact ⟨_, H.ren (uniq_nodup _ _ (uniq_nodup _ _ (uniq_nodup _ _ List.nodup_nil))) _ (fun t v h => lk_pk h)⟩

/-! ### Regions -/
structure LO (P : Program) (N : Nat) (ps : List Nat) (ops : Array Oper) (o : Oper) (x : AOp) : Prop where
 dst : x.d = o.dst
 lt : ∀ t, o.dst = some t → t < N ∧ t ∉ ps
 act : LV P o.type o.op x.a ∨ LE P o.type o.op x.a ∨ x.a = .bad
 grd : (o.guard = none ∧ x.g = none) ∨ ∃ j b oj t, o.guard = some (j, b) ∧ ops[j]? = some oj ∧ oj.dst = some t ∧ x.g = some (t, b)

theorem LV_val {ty : TypeId} {op : Op} {act : Act'} (h : LV P ty op act) (Φ : Ctr) (d : Option Nat) (K : St → Prop) (σ : St) : wact Φ d act K σ = match σ.val act with
 | some v => K (σ.put d v)
 | none => False := by cases h <;> rfl

theorem act_sound (hJC : JCall P M0 B) {ρ : Option Nat} (H : Rel N M0 B w0 κ M σ a w) {ops : Array Oper} {o : Oper} {x : AOp} (hl : LO P N B.ps ops o x) {K : St → Prop} (hW : wact (Cn P) x.d x.a K σ)
 {Nx : Act → World → Prop} (hK : ∀ κ' M' σ' a' w', K σ' → Rel N M0 B w0 κ' M' σ' a' w' → Nx a' w') {Q : Exit → Act → World → Prop} : o.wpIn (FR ρ) 0 P a w Nx Q := by
 have hd : ∀ t, x.d = some t → t < N ∧ t ∉ B.ps := by rw [hl.dst]; exact hl.lt
 rcases hl.act with h | h | h
 · rw [LV_val h] at hW
   split at hW
   · rename_i v hv
     obtain ⟨c, hr, hc⟩ := val_sound H h hv o rfl rfl
     refine wpIn_of ?_ (LV_def h)
     unfold Oper.wp
     rw [hr, Oper.upon_value, ← hl.dst]
     exact hK _ _ _ _ _ hW (H.put' hd hc)
   · exact hW.elim
 · by_cases hy : ∃ g xs, x.a = .yld g xs
   · obtain ⟨g, xs, hy⟩ := hy
     rw [hy] at h hW
     exact yld_sound hJC H h hd hW hK o rfl hl.dst.symm
   · exact wpIn_of (eff_sound hJC H h (fun g xs e => hy ⟨g, xs, e⟩) hd hW hK o rfl rfl hl.dst.symm) (LE_def h)
 · rw [h] at hW
   simp only [wact, St.val] at hW

theorem op_sound (hJC : JCall P M0 B) {ρ : Option Nat} (H : Rel N M0 B w0 κ M σ a w) {ops : Array Oper} {o : Oper} {x : AOp} (hl : LO P N B.ps ops o x) {K : St → Prop} (hW : wop (Cn P) x K σ)
 {Nx : Act → World → Prop} (hK : ∀ κ' M' σ' a' w', K σ' → Rel N M0 B w0 κ' M' σ' a' w' → Nx a' w') {Q : Exit → Act → World → Prop} :
 if Region.wanted o (yielded ops a.tmps) then o.wpIn (FR ρ) 0 P a w Nx Q else Nx (a.put o.dst undef) w := by
 have hd : ∀ t, x.d = some t → t < N ∧ t ∉ B.ps := by rw [hl.dst]; exact hl.lt
 have hu : K (σ.put x.d (.tup [])) → Nx (a.put o.dst undef) w := fun h => by
  rw [← hl.dst]
  exact hK _ _ _ _ _ h (H.undef hd)
 unfold wop at hW
 rcases hl.grd with ⟨h1, h2⟩ | ⟨j, b, oj, t, h1, h2, h3, h4⟩
 · rw [h2] at hW
   have : Region.wanted o (yielded ops a.tmps) = true := by simp [Region.wanted, h1]
   rw [if_pos this]
   exact act_sound hJC H hl hW hK
 · rw [h4] at hW
   simp only at hW
   split at hW
   · rename_i y hy
     obtain ⟨_, c, g1, g2⟩ := H.regs t _ hy
     have hc := rep_bool g2
     subst hc
     have hyl : yielded ops a.tmps j = some y := by simp [yielded, h2, h3, g1]
     have hw : Region.wanted o (yielded ops a.tmps) = decide (y = b) := by
      cases y <;> cases b <;> simp [Region.wanted, h1, hyl]
     rw [hw]
     cases y <;> cases b <;> simp [Br] at hW ⊢
     · exact act_sound hJC H hl hW hK
     · exact hu hW
     · exact hu hW
     · exact act_sound hJC H hl hW hK
   · rename_i hy
     obtain ⟨_, c, g1, g2⟩ := H.regs t _ hy
     simp only [rep, repAll] at g2
     obtain ⟨arr, rfl, g3⟩ := g2
     have hyl : yielded ops a.tmps j = none := by simp [yielded, h2, h3, g1]
     have hw : ¬ Region.wanted o (yielded ops a.tmps) = true := by simp [Region.wanted, h1, hyl]
     rw [if_neg hw]
     exact hu hW
   · exact hW.elim

inductive LOs (P : Program) (N : Nat) (ps : List Nat) (ops : Array Oper) : List Oper → List AOp → Prop
 | nil : LOs P N ps ops [] []
 | cons {o os x xs} : LO P N ps ops o x → LOs P N ps ops os xs → LOs P N ps ops (o :: os) (x :: xs)

theorem ops_sound (hJC : JCall P M0 B) {ρ : Option Nat} {ops : Array Oper} {Q : Exit → Act → World → Prop} {K : St → Prop} (hK : ∀ κ' M' σ' a' w', K σ' → Rel N M0 B w0 κ' M' σ' a' w' → Q .normal a' w') :
 ∀ {os : List Oper} {xs : List AOp}, LOs P N B.ps ops os xs → ∀ {κ : Kap} {M : Mem} {σ : St} {a : Act} {w : World}, Rel N M0 B w0 κ M σ a w → wops (Cn P) xs K σ → wpListIn (FR ρ) 0 P ops Q os a w
 | _, _, .nil, _, _, _, _, _, H, hW => hK _ _ _ _ _ hW H
 | _, _, .cons hl hs, _, _, _, _, _, H, hW => by
   refine wpListIn_step fun K' hK' => ?_
   have := op_sound hJC (ρ := ρ) H hl hW (Q := Q) (fun κ' M' σ' a' w' hk H' => hK' _ _ (ops_sound hJC hK hs H' hk))
   split
   · rename_i hw; rw [if_pos hw] at this; exact this
   · rename_i hw; rw [if_neg hw] at this; exact ⟨fun _ _ => trivial, this⟩
end
end Go.Abs
end
