/-
  From the model's operations to those of the abstract machine: each operation that turns nothing gives what its qK gives. No condition.
  From the model's operations to those of the abstract machine: memory that is made, written, handed on. No condition.
  The abstract machine's numbers for what is the call's own, numbered anew; contracts of calls that turn what is lent to them. No condition.
-/
import Derived.Test.YtoonahofkpnihaaGreatDoorWAbs1
set_option linter.unusedVariables false
set_option linter.unusedSimpArgs false
set_option linter.unusedSectionVars false
set_option maxHeartbeats 4000000
set_option maxRecDepth 100000
section
namespace Go.Abs
open Go.RowKit
def cOo (P : Program) (t : TypeId) : Option Operand → Option (Option AO)
 | none => some none
 | some x => (cO P t x).map some

def placeOf (P : Program) (t : TypeId) (i : Nat) : Option (Nat × Nat × TypeId) :=
 match P.underlying t with
 | some (.struct fs) => match fs[i]? with
   | some f => match szOf P f.type with
     | some n => some (f.offset, n, f.type)
     | none => none
   | none => none
 | some (.array m e) => match szOf P e with
   | some n => if i < m then some (i * n, n, e) else none
   | none => none
 | _ => none
def cParts (P : Program) (t : TypeId) : List (Nat × Operand) → Option (List (Nat × Nat × AO))
 | [] => some []
 | (i, x) :: ps => match placeOf P t i with
   | some (off, n, ft) => match cO P ft x, cParts P t ps with
     | some y, some qs => some ((off, n, y) :: qs)
     | _, _ => none
   | none => none

def nilK (P : Program) (t : TypeId) (c : Value) : Option Nat := match P.underlying t, c with
 | some (.pointer _), .pointer none => some 0
 | some (.interface _), .nilIface => some 1
 | some (.func _ _ _), .nilFunc => some 2
 | _, _ => none
inductive LV (P : Program) : TypeId → Op → Act' → Prop
 | move {ty x y} : cO P ty x = some y → LV P ty (.move x) (.mov y)
 | assign {ty x y} : cO P ty x = some y → LV P ty (.assign x) (.mov y)
 | pick {ty c a b c' a' b'} : cO P ty c = some c' → cO P ty a = some a' → cO P ty b = some b' → LV P ty (.pick c a b) (.pick c' a' b')
 | field {ty t x i y fs f n g} : cO P t x = some y → P.underlying t = some (.struct fs) → fs[i]? = some f → szOf P f.type = some n → aggOf P f.type = some g → (g = false → n = 1) → LV P ty (.field t x i) (.fld y f.offset n g)
 | fieldAddr {ty t x i y fs f n} : cO P 0 x = some y → P.underlying t = some (.struct fs) → fs[i]? = some f → szOf P f.type = some n → n ≠ 0 → LV P ty (.fieldAddr t x i) (.fa y f.offset)
 | indexAddr {ty t x i y j e n} : cO P t x = some y → cO P 0 i = some j → P.underlying t = some (.slice e) → szOf P e = some n → LV P ty (.indexAddr t x i) (.ia y j n)
 | indexAddrA {ty t x i y j e m n} : cO P 0 x = some y → cO P 0 i = some j → P.underlying t = some (.array m e) → szOf P e = some n → LV P ty (.indexAddr t x i) (.iaa y j m n)
 | load {ty t x y n g} : cO P 0 x = some y → szOf P t = some n → aggOf P t = some g → (g = false → n = 1) → LV P ty (.load t x) (.ld y n g)
 | indexS {ty t x i y j} : cO P t x = some y → cO P 0 i = some j → P.underlying t = some .string → LV P ty (.index t x i) (.ixs y j)
 | indexA {ty t x i y j m e n g} : cO P t x = some y → cO P 0 i = some j → P.underlying t = some (.array m e) → szOf P e = some n → aggOf P e = some g → (g = false → n = 1) → LV P ty (.index t x i) (.ixa y j m n g)
 | bin {ty op xt x y yt u v} : cO P xt x = some u → cO P yt y = some v → LV P ty (.binOp op xt x y yt) (.bin op u v)
 | beq {ty xt x y yt u v} : P.underlying xt = some .bool → cO P xt x = some u → cO P yt y = some v → LV P ty (.binOp .eql xt x y yt) (.beq false u v)
 | bne {ty xt x y yt u v} : P.underlying xt = some .bool → cO P xt x = some u → cO P yt y = some v → LV P ty (.binOp .neq xt x y yt) (.beq true u v)
 | un {ty op t x u} : cO P t x = some u → LV P ty (.unOp op t x) (.un op u)
 | cii {ty s d x u k ds} : cO P s x = some u → P.underlying d = some (.int k) → P.underlying s = some ds → LV P ty (.convert s d x) (.cii k u)
 | sls {ty t x lo hi u lo' hi'} : cO P t x = some u → cOo P 0 lo = some lo' → cOo P 0 hi = some hi' → P.underlying t = some .string → LV P ty (.slice t x lo hi none) (.sls u lo' hi')
 | slq {ty t x lo hi u lo' hi' e n} : cO P t x = some u → cOo P 0 lo = some lo' → cOo P 0 hi = some hi' → P.underlying t = some (.slice e) → szOf P e = some n → LV P ty (.slice t x lo hi none) (.slq u lo' hi' n)
 | lens {ty t x u} : cO P t x = some u → P.underlying t = some .string → LV P ty (.call { callee := .builtin .len, args := #[x], argTypes := #[t] }) (.lens u)
 | lenq {ty t x u e} : cO P t x = some u → P.underlying t = some (.slice e) → LV P ty (.call { callee := .builtin .len, args := #[x], argTypes := #[t] }) (.lenq u)
 | mmx {ty x y t t' u v} : cO P t x = some u → cO P t' y = some v → LV P ty (.call { callee := .builtin .max, args := #[x, y], argTypes := #[t, t'] }) (.mm true u v)
 | mmn {ty x y t t' u v} : cO P t x = some u → cO P t' y = some v → LV P ty (.call { callee := .builtin .min, args := #[x, y], argTypes := #[t, t'] }) (.mm false u v)
 | nlq {ty t x yt u neg op k c} : nilK P t c = some k → ((op = .eql ∧ neg = false) ∨ (op = .neq ∧ neg = true)) → cO P t x = some u → LV P ty (.binOp op t x (.const c) yt) (.nlq k neg u)
 | ext {ty x i u} : cO P 0 x = some u → LV P ty (.extract x i) (.ext u i)
 | bld {ty t parts z zc zs ps i z'} : P.built t [] = some z' → P.info? t = some i → i.zero = some (.agg z) → flatT P 20 t = some zc → cSs P zc z.toList = some zs → cParts P t parts.toList = some ps → LV P ty (.build t parts) (.bld zs ps)
 | mkf {ty f a b a' b'} : cOs P (List.replicate a.size 0) a.toList = some a' → cOs P (List.replicate b.size 0) b.toList = some b' → LV P ty (.makeFunc f a b) (.mkf f a' b')
 | nlc {ty x u} : cO P 0 x = some u → LV P ty (.nilCheck x) (.nlc u)
 | mki {ty t x u ds} : cO P t x = some u → P.underlying t = some ds → (∀ ms, ds ≠ .interface ms) → LV P ty (.makeInterface t x) (.mki t u)
 | aeq {ty t x y yt u v kt} : ktT P t = some kt → kt.agg = true → cO P t x = some u → cO P yt y = some v → LV P ty (.binOp .eql t x y yt) (.aeq false kt u v)
 | ane {ty t x y yt u v kt} : ktT P t = some kt → kt.agg = true → cO P t x = some u → cO P yt y = some v → LV P ty (.binOp .neq t x y yt) (.aeq true kt u v)
 | lkp {ty t K E x k u v kt i z zv okk} : P.underlying t = some (.map K E) → ktT P K = some kt → cO P t x = some u → cO P K k = some v → P.info? E = some i → i.zero = some z → cV P E z = some zv → LV P ty (.lookup t x k okk) (.lkp kt zv okk u v)

section
variable {P : Program} {N : Nat} {M0 : Mem} {B : Bas} {w0 : World} {κ : Kap} {M : Mem} {σ : St} {a : Act} {w : World}

theorem zM {t : TypeId} {n : Nat} (h : szOf P t = some n) (w : World) : (sizeOf t).run P w = .ok n w := by
 unfold szOf at h
 obtain ⟨i, hi, rfl⟩ := Option.map_eq_some_iff.1 h
 simp [sizeOf, typeInfo, hi]
theorem run_isAgg {t : TypeId} {g : Bool} (h : aggOf P t = some g) (w : World) : (isAgg t).run P w = .ok g w := by
 unfold aggOf at h
 obtain ⟨d, hd, rfl⟩ := Option.map_eq_some_iff.1 h
 unfold isAgg
 rw [Sem.run_bind, run_underlying hd w, Result.andThen_ok]
 cases d <;> rfl

theorem run_part {t : TypeId} {cs : Array Value} {off n : Nat} {g : Bool} (hs : szOf P t = some n) (hg : aggOf P t = some g) (h1 : g = false → n = 1) {X : V → Value → Prop} {vs us : List V} {v : V}
 (hr : qA M X vs cs.toList) (hc : ∀ u ∈ cs.toList, qN u) (hcut : cut vs off n = some us) (hm : mkc g us = some v) (w : World) : ∃ c, (part t cs off).run P w = .ok c w ∧ rep M X v c := by
 obtain ⟨k1, k2, k3, k4⟩ := cut_rep hcut hr hc
 have hk := mkc_rep hm k2 k3
 rcases hk with ⟨rfl, hk⟩ | ⟨rfl, c, hk1, hk2⟩
 · refine ⟨_, ?_, hk⟩
   simp only [part, Sem.run_bind, run_isAgg hg, zM hs, Result.andThen_ok, if_true, Sem.run_pure]
   congr 2
   apply Array.ext'
   simp [List.take_drop]
 · have hn := h1 rfl
   subst hn
   refine ⟨c, ?_, hk2⟩
   have : cs[off]? = some c := by
    have : ((cs.toList.drop off).take 1)[0]? = some c := by rw [hk1]; rfl
    simpa [List.getElem?_take, List.getElem?_drop] using this
   simp only [part, Sem.run_bind, run_isAgg hg, Result.andThen_ok, Bool.false_eq_true, if_false, this, Sem.run_pure]

theorem Rel.opo (H : Rel N M0 B w0 κ M σ a w) {t : TypeId} {o : Option Operand} {x : Option AO} (hc : cOo P t o = some x) {d v : V} (hv : σ.evo d x = some v) {c : Value} (hd : rep M (XX κ σ.h) d c) :
 rep M (XX κ σ.h) v ((o.map a.eval).getD c) := by
 cases o with
 | none => simp only [cOo, Option.some.injEq] at hc; subst hc; simp only [St.evo, Option.some.injEq] at hv; subst hv; exact hd
 | some o =>
   simp only [cOo] at hc
   obtain ⟨y, hy, rfl⟩ := Option.map_eq_some_iff.1 hc
   exact H.op hy hv

theorem foldl_splice (off : Nat) : ∀ (l : List Value) (k : Nat) (ds : Array Value), off + k + l.length ≤ ds.size →
 ((l.zipIdx k).foldl (fun cs (x : Value × Nat) => cs.setIfInBounds (off + x.2) x.1) ds).toList = ds.toList.take (off + k) ++ l ++ ds.toList.drop (off + k + l.length)
 | [], k, ds, h => by simp
 | v :: l, k, ds, h => by
   simp only [List.length_cons] at h
   simp only [List.zipIdx_cons, List.foldl_cons]
   rw [foldl_splice off l (k + 1) _ (by simp; omega)]
   simp only [Array.toList_setIfInBounds]
   have e1 : (ds.toList.set (off + k) v).take (off + (k + 1)) = ds.toList.take (off + k) ++ [v] := by
    rw [← Nat.add_assoc, List.take_add_one, List.take_set_of_le (by omega)]
    simp [List.getElem?_set]
    omega
   have e2 : (ds.toList.set (off + k) v).drop (off + (k + 1) + l.length) = ds.toList.drop (off + k + (v :: l).length) := by
    rw [List.drop_set_of_lt (by omega)]
    congr 1
    simp; omega
   rw [e1, e2]
   simp
theorem foldl_splice' (off : Nat) (l ds : Array Value) (h : off + l.size ≤ ds.size) :
 l.zipIdx.foldl (fun cs (x : Value × Nat) => cs.setIfInBounds (off + x.2) x.1) ds = (ds.toList.take off ++ l.toList ++ ds.toList.drop (off + l.toList.length)).toArray := by
 rw [← Array.foldl_toList, Array.toList_zipIdx]
 apply Array.ext'
 have := foldl_splice off l.toList 0 ds (by simpa using h)
 simpa using this

theorem nt_spec {v : V} (h : nt v = true) : ∀ vs, v ≠ .tup vs := by rintro vs rfl; simp [nt] at h

theorem fill_sound {t : TypeId} {place : Nat → Option (Nat × Nat)} (hpl : ∀ i off n ft, placeOf P t i = some (off, n, ft) → place i = some (off, n)) (H : Rel N M0 B w0 κ M σ a w) :
 ∀ {parts : List (Nat × Operand)} {ps : List (Nat × Nat × AO)}, cParts P t parts = some ps → ∀ {cs us : List V} {ds : Array Value}, bldV σ cs ps = some us → qA M (XX κ σ.h) cs ds.toList → (∀ u ∈ ds.toList, qN u) →
 ∃ es : Array Value, Instr.fill place ds (parts.map fun x => (x.1, a.eval x.2)) = some es ∧ qA M (XX κ σ.h) us es.toList ∧ ∀ u ∈ es.toList, qN u
 | [], ps, h, cs, us, ds, hb, hr, hc => by
   simp only [cParts, Option.some.injEq] at h
   subst h
   simp only [bldV, Option.some.injEq] at hb
   subst hb
   exact ⟨ds, rfl, hr, hc⟩
 | (i, x) :: parts, ps, h, cs, us, ds, hb, hr, hc => by
   simp only [cParts] at h
   split at h
   · rename_i off n ft hp
     split at h
     · rename_i y qs hy hqs
       cases h
       simp only [bldV] at hb
       split at hb
       · rename_i v hv
         split at hb
         · rename_i hn
           split at hb
           · rename_i cs' hcs'
             have hrv := H.op hy hv
             have hk := rep_cellsC hrv XX_cell (nt_spec hn.2)
             have hsp := splice_rep hcs' hr hk.1
             have hlen : (a.eval x).cells.size = n := by
              have := qZ hk.1
              simp at this; omega
             have hle : off + (a.eval x).cells.size ≤ ds.size := by simpa using hsp.1
             obtain ⟨es, h1, h2, h3⟩ := fill_sound hpl H hqs hb (ds := (ds.toList.take off ++ (a.eval x).cells.toList ++ ds.toList.drop (off + (a.eval x).cells.toList.length)).toArray) (by simpa using hsp.2) (by
              intro u hu
              simp only [List.mem_append] at hu
              rcases hu with (hu | hu) | hu
              · exact hc u (List.mem_of_mem_take hu)
              · exact hk.2 u hu
              · exact hc u (List.mem_of_mem_drop hu))
             refine ⟨es, ?_, h2, h3⟩
             simp only [List.map_cons, Instr.fill, hpl i off n ft hp]
             have hno : ¬ ((a.eval x).cells.size ≠ n || off + (a.eval x).cells.size > ds.size) = true := by
              simp; omega
             rw [if_neg hno]
             have := foldl_splice' off (a.eval x).cells ds hle
             rw [← this] at h1
             exact h1
           · cases hb
         · cases hb
       · cases hb
     · cases h
   · cases h

theorem live_addr (H : Rel N M0 B w0 κ M σ a w) {v : V} {c : Value} (hv : rep M (XX κ σ.h) v c) (hl : σ.live v = true) {k : Nat} {u : V} (hf : St.fwd k v = some u) :
 ∃ b o, c = .pointer (some ⟨b, o, none⟩) ∧ rep M (XX κ σ.h) u (.pointer (some ⟨b, o + k, none⟩)) := by
 cases v <;> simp only [St.fwd] at hf <;> try (cases hf; done)
 case ptr id off =>
  cases hf
  simp only [St.live] at hl
  obtain ⟨cs, hcs⟩ := Option.isSome_iff_exists.1 hl
  have hb := box?_eq hcs
  simp only [rep, XX] at hv ⊢
  obtain ⟨b, g1, g2⟩ := hv.2.2 cs hb
  refine ⟨b, off, g2, rfl, hv.2.1, fun cs' _ => ⟨b, g1, rfl⟩⟩
 case eptr id n i off =>
  cases hf
  simp only [St.live] at hl
  split at hl
  · rename_i e sz l hal
    have ha := arr?_eq hal
    simp only at ha
    simp at hl
    simp only [rep, XX] at hv ⊢
    obtain ⟨b, cap, g1, g2⟩ := (hv.2.2.1 e sz l ha).2 hl.1 hl.2
    refine ⟨b, i * sz + off, g2, rfl, hv.2.1, fun e' sz' l' hl' => ?_, fun e' e2' sz' rows' hl' => ?_⟩
    · rw [ha] at hl'
      cases hl'
      exact ⟨(hv.2.2.1 e sz l ha).1, fun hn hi => ⟨b, cap, g1, by rw [Nat.add_assoc]⟩⟩
    · rw [ha] at hl'; cases hl'
  · cases hl
 case mptr id i n j off =>
  cases hf
  simp only [St.live] at hl
  split at hl
  · rename_i e e2 sz rows hal
    have ha := rws?_eq hal
    simp only at ha
    split at hl
    · rename_i r hrow
      simp at hl
      simp only [rep, XX] at hv ⊢
      obtain ⟨b, cap, g1, g2⟩ := (hv.2.2 e e2 sz rows ha r hrow).2 hl.1 hl.2
      refine ⟨b, j * sz + off, g2, rfl, hv.2.1, fun e' e2' sz' rows' hl' r' hr' => ?_⟩
      rw [ha] at hl'
      cases hl'
      rw [hrow] at hr'
      cases hr'
      exact ⟨(hv.2.2 e e2 sz rows ha r hrow).1, fun hn hi => ⟨b, cap, g1, by rw [Nat.add_assoc]⟩⟩
    · cases hl
  · cases hl
 case sptr y off =>
  cases hf
  simp only [rep] at hv ⊢
  obtain ⟨b, o, z, rfl, h2, h3, h4⟩ := hv
  exact ⟨b, o + off, rfl, b, o, z, by rw [Nat.add_assoc], h2, h3, h4⟩

theorem live_nil (H : Rel N M0 B w0 κ M σ a w) {v : V} {c : Value} (hv : rep M (XX κ σ.h) v c) (hl : σ.live v = true) : (∃ p, c = .pointer (some p)) ∨ ∃ f x y, c = .func (.func f) x y := by
 cases v <;> simp only [St.live] at hl <;> try (cases hl; done)
 case ptr id off => obtain ⟨b, o, h, _⟩ := live_addr H hv (by simpa only [St.live] using hl) (k := 0) rfl; exact .inl ⟨_, h⟩
 case eptr id n i off => obtain ⟨b, o, h, _⟩ := live_addr H hv (by simpa only [St.live] using hl) (k := 0) rfl; exact .inl ⟨_, h⟩
 case mptr id i n j off => obtain ⟨b, o, h, _⟩ := live_addr H hv (by simpa only [St.live] using hl) (k := 0) rfl; exact .inl ⟨_, h⟩
 case sptr y off => obtain ⟨b, o, h, _⟩ := live_addr H hv rfl (k := 0) rfl; exact .inl ⟨_, h⟩
 case fn f x y =>
  cases f with
  | func f => simp only [rep] at hv; obtain ⟨a1, a2, h, _⟩ := hv; exact .inr ⟨f, a1, a2, h⟩
  | _ => cases hl

theorem repMem_drop {sz : Nat} : ∀ {l : List V} {b off : Nat} (n : Nat), jF M sz l b off → jF M sz (l.drop n) b (off + n * sz)
 | l, b, off, 0, h => by simpa using h
 | [], b, off, n + 1, h => by simp [jF]
 | v :: vs, b, off, n + 1, h => by
   simp only [jF] at h
   have := repMem_drop n h.2
   simp only [List.drop_succ_cons]
   rw [show off + (n + 1) * sz = off + sz + n * sz by simp [Nat.add_mul]; omega]
   exact this
theorem repMem_take {sz : Nat} : ∀ {l : List V} {b off : Nat} (n : Nat), jF M sz l b off → jF M sz (l.take n) b off
 | l, b, off, 0, h => by simp [jF]
 | [], b, off, n + 1, h => by simp [jF]
 | v :: vs, b, off, n + 1, h => by
   simp only [jF] at h
   simp only [List.take_succ_cons, jF]
   exact ⟨h.1, repMem_take n h.2⟩

theorem run_bound {k : IntKind} {n : Int} {y : Nat} {code : BoundsCode} (h : 0 ≤ n ∧ n ≤ y) (w : World) : (Instr.sliceBound (.int k n) y code).run P w = .ok n.toNat w := by
 simp [Instr.sliceBound, asIntOf, h]
theorem run_bounds {s : Bool} {len cap p q : Nat} {lo hi : Option Value} (h1 : (hi = none ∧ q = len) ∨ ∃ k n, hi = some (.int k n) ∧ 0 ≤ n ∧ n ≤ cap ∧ q = n.toNat)
 (h2 : (lo = none ∧ p = 0) ∨ ∃ k n, lo = some (.int k n) ∧ 0 ≤ n ∧ n ≤ q ∧ p = n.toNat) (w : World) : (Instr.sliceBounds s len cap lo hi none).run P w = .ok (p, q, cap) w := by
 rcases h1 with ⟨rfl, rfl⟩ | ⟨k, n, rfl, h3, h4, rfl⟩ <;> rcases h2 with ⟨rfl, rfl⟩ | ⟨k', n', rfl, h5, h6, rfl⟩
 · simp [Instr.sliceBounds]
 · simp [Instr.sliceBounds, run_bound (P := P) (k := k') ⟨h5, h6⟩]
 · simp [Instr.sliceBounds, run_bound (P := P) (k := k) ⟨h3, h4⟩]
 · simp [Instr.sliceBounds, run_bound (P := P) (k := k) ⟨h3, h4⟩, run_bound (P := P) (k := k') ⟨h5, h6⟩]

theorem isNil_ptr (H : Rel N M0 B w0 κ M σ a w) {v : V} {c : Value} {b : Bool} (hv : rep M (XX κ σ.h) v c) (h : St.isNil 0 (σ.live v) v = some b) : (b = true ∧ c = .pointer none) ∨ (b = false ∧ ∃ p, c = .pointer (some p)) := by
 cases v <;> simp [St.isNil] at h
 case nilptr => subst h; exact .inl ⟨rfl, by simpa only [rep] using hv⟩
 case sptr => subst h; simp only [rep] at hv; obtain ⟨b, o, y, rfl, _⟩ := hv; exact .inr ⟨rfl, _, rfl⟩
 case ptr => obtain ⟨h1, rfl⟩ := h; obtain ⟨b, o, e, _⟩ := live_addr H hv h1 (k := 0) rfl; exact .inr ⟨rfl, _, e⟩
 case eptr => obtain ⟨h1, rfl⟩ := h; obtain ⟨b, o, e, _⟩ := live_addr H hv h1 (k := 0) rfl; exact .inr ⟨rfl, _, e⟩
 case mptr => obtain ⟨h1, rfl⟩ := h; obtain ⟨b, o, e, _⟩ := live_addr H hv h1 (k := 0) rfl; exact .inr ⟨rfl, _, e⟩
theorem isNil_iface {X : V → Value → Prop} {v : V} {c : Value} {b lv : Bool} (hv : rep M X v c) (h : St.isNil 1 lv v = some b) : (b = true ∧ c = .nilIface) ∨ (b = false ∧ ∃ t y, c = .iface t y) := by
 cases v <;> simp [St.isNil] at h
 case niliface => subst h; exact .inl ⟨rfl, by simpa only [rep] using hv⟩
 case iface => subst h; simp only [rep] at hv; obtain ⟨y, rfl, _⟩ := hv; exact .inr ⟨rfl, _, _, rfl⟩
theorem isNil_fn {X : V → Value → Prop} {v : V} {c : Value} {b lv : Bool} (hv : rep M X v c) (h : St.isNil 2 lv v = some b) : (b = true ∧ c = .nilFunc) ∨ (b = false ∧ ∃ f x y, c = .func f x y) := by
 cases v <;> simp [St.isNil] at h
 case nilfn => subst h; exact .inl ⟨rfl, by simpa only [rep] using hv⟩
 case fn => subst h; simp only [rep] at hv; obtain ⟨a1, a2, rfl, _⟩ := hv; exact .inr ⟨rfl, _, _, _, rfl⟩
theorem eql_eq {t : TypeId} {c d : Value} (h : (∃ p, c = .pointer p) ∨ c = .nilIface ∨ (∃ u y, c = .iface u y) ∨ c = .nilFunc ∨ ∃ f x y, c = .func f x y) (h' : d = .pointer none ∨ d = .nilIface ∨ d = .nilFunc) :
 binOp .eql t c d = (do pure (.bool (← Op.equal t c d))) ∧ binOp .neq t c d = (do pure (.bool (!(← Op.equal t c d)))) := by
 rcases h with ⟨p, rfl⟩ | rfl | ⟨u, y, rfl⟩ | rfl | ⟨f, x, y, rfl⟩ <;> rcases h' with rfl | rfl | rfl <;> exact ⟨by simp only [binOp], by simp only [binOp]⟩
theorem run_equal_nil {t : TypeId} {c d : Value} {b : Bool} (h : (Op.equalIn (9999 + 1) t c d).run P w = .ok b w) : (Op.equal t c d).run P w = .ok b w := h
theorem run_nil1 {t : TypeId} {c d : Value} {k : Nat} {b : Bool} (hk : nilK P t d = some k) (h : (k = 0 ∧ ((b = true ∧ c = .pointer none) ∨ (b = false ∧ ∃ p, c = .pointer (some p)))) ∨ (k = 1 ∧ ((b = true ∧ c = .nilIface) ∨ (b = false ∧ ∃ t y, c = .iface t y))) ∨ (k = 2 ∧ ((b = true ∧ c = .nilFunc) ∨ (b = false ∧ ∃ f x y, c = .func f x y)))) :
 (Op.equal t c d).run P w = .ok b w := by
 apply run_equal_nil
 unfold nilK at hk
 split at hk
 all_goals (try cases hk)
 all_goals
  rename_i hu
  unfold Op.equalIn
  rw [Sem.run_bind, run_underlying hu, Result.andThen_ok]
  rcases h with ⟨hk, h⟩ | ⟨hk, h⟩ | ⟨hk, h⟩ <;> first | (cases hk; done) | skip
 · rcases h with ⟨rfl, rfl⟩ | ⟨rfl, p, rfl⟩ <;> rfl
 · rcases h with ⟨rfl, rfl⟩ | ⟨rfl, p, y, rfl⟩ <;> rfl
 · rcases h with ⟨rfl, rfl⟩ | ⟨rfl, p, x, y, rfl⟩ <;> rfl
theorem run_nilguard {op : BinOp} {t : TypeId} {x : Operand} {c d : Value} (h' : d = .pointer none ∨ d = .nilIface ∨ d = .nilFunc) (ho : op = .eql ∨ op = .neq) : (eqGuard op t x (.const d) c d).run P w = .ok () w := by
 rcases h' with rfl | rfl | rfl <;> rcases ho with rfl | rfl <;> cases c <;> first | rfl | (cases x <;> rfl)
theorem run_nil (H : Rel N M0 B w0 κ M σ a w) {t : TypeId} {x : Operand} {v : V} {c d : Value} {k : Nat} {b neg : Bool} {op : BinOp} (hk : nilK P t d = some k) (ho : (op = .eql ∧ neg = false) ∨ (op = .neq ∧ neg = true)) (hv : rep M (XX κ σ.h) v c) (h : St.isNil k (σ.live v) v = some b) :
 ((do eqGuard op t x (.const d) c d; binOp op t c d : Sem Value)).run P w = .ok (.bool (xor neg b)) w := by
 have hd : d = .pointer none ∨ d = .nilIface ∨ d = .nilFunc := by
  unfold nilK at hk
  split at hk
  · exact .inl rfl
  · exact .inr (.inl rfl)
  · exact .inr (.inr rfl)
  · cases hk
 have hc : (k = 0 ∧ ((b = true ∧ c = .pointer none) ∨ (b = false ∧ ∃ p, c = .pointer (some p)))) ∨ (k = 1 ∧ ((b = true ∧ c = .nilIface) ∨ (b = false ∧ ∃ t y, c = .iface t y))) ∨ (k = 2 ∧ ((b = true ∧ c = .nilFunc) ∨ (b = false ∧ ∃ f x y, c = .func f x y))) := by
  unfold nilK at hk
  split at hk <;> cases hk
  · exact .inl ⟨rfl, isNil_ptr H hv h⟩
  · exact .inr (.inl ⟨rfl, isNil_iface hv h⟩)
  · exact .inr (.inr ⟨rfl, isNil_fn hv h⟩)
 have k1 := run_nil1 (w := w) hk hc
 have hf : (∃ p, c = .pointer p) ∨ c = .nilIface ∨ (∃ u y, c = .iface u y) ∨ c = .nilFunc ∨ ∃ f x y, c = .func f x y := by
  rcases hc with ⟨_, ⟨_, h⟩ | ⟨_, p, h⟩⟩ | ⟨_, ⟨_, h⟩ | ⟨_, p, y, h⟩⟩ | ⟨_, ⟨_, h⟩ | ⟨_, p, x, y, h⟩⟩
  · exact .inl ⟨_, h⟩
  · exact .inl ⟨_, h⟩
  · exact .inr (.inl h)
  · exact .inr (.inr (.inl ⟨_, _, h⟩))
  · exact .inr (.inr (.inr (.inl h)))
  · exact .inr (.inr (.inr (.inr ⟨_, _, _, h⟩)))
 obtain ⟨e1, e2⟩ := eql_eq (t := t) hf hd
 rcases ho with ⟨rfl, rfl⟩ | ⟨rfl, rfl⟩
 · rw [Sem.run_bind, run_nilguard hd (.inl rfl), Result.andThen_ok, e1, Sem.run_bind, k1, Result.andThen_ok]
   cases b <;> rfl
 · rw [Sem.run_bind, run_nilguard hd (.inr rfl), Result.andThen_ok, e2, Sem.run_bind, k1, Result.andThen_ok]
   cases b <;> rfl
theorem fseq_seq (H : Rel N M0 B w0 κ M σ a w) {sz : Nat} {l : List V} {c : Value} (h : rep M (XX κ σ.h) (.fseq sz l) c) : rep M (XX κ σ.h) (.seq sz l) c := by
 simp only [rep, XX] at h
 have := qQ (fun p v hp => H.sub.fmS p v hp) (X := NX) (fun _ _ h => h) (.seq sz l) c (by simp only [rep]; exact h.2)
 simpa only [rep] using this
theorem val_sound (H : Rel N M0 B w0 κ M σ a w) {ty : TypeId} {op : Op} {act : Act'} (hl : LV P ty op act) {v : V} (hv : σ.val act = some v) (o : Oper) (ho : o.op = op) (hty : o.type = ty) :
 ∃ c, (execOp a.eval o).run P w = .ok (.value c) w ∧ rep M (XX κ σ.h) v c := by
 unfold execOp
 cases hl <;> simp only [St.val] at hv <;> rw [ho] <;> dsimp only
 case move x y hc => exact ⟨_, rfl, H.op hc hv⟩
 case assign x y hc => exact ⟨_, rfl, H.op hc hv⟩
 case pick c x y c' x' y' hc hx hy =>
  split at hv
  · rename_i t ht
    have h1 := rep_bool (H.op hc ht)
    cases t
    · simp at hv; exact ⟨_, by simp [h1, asBool], H.op hy hv⟩
    · simp at hv; exact ⟨_, by simp [h1, asBool], H.op hx hv⟩
  · cases hv
 case field t x i y fs f n g hx ht hf hs hg h1 =>
  split at hv
  · rename_i cs hcs
    split at hv
    · rename_i us hus
      have hr := H.op hx hcs
      simp only [rep] at hr
      obtain ⟨arr, e, k1, k2⟩ := hr
      obtain ⟨c, hrun, hc⟩ := run_part hs hg h1 k1 k2 hus hv w
      refine ⟨c, ?_, hc⟩
      simp [Instr.field, run_underlying ht, hf, e, asAgg, hrun]
    · cases hv
  · cases hv
 case fieldAddr t x i y fs f n hx ht hf hs hn =>
  split at hv
  · rename_i u he
    split at hv
    · rename_i hlv
      obtain ⟨b, o', e, hr⟩ := live_addr H (H.op hx he) hlv hv
      exact ⟨_, by simp [Instr.fieldAt, run_underlying ht, hf, e, Instr.sureAddr, fieldPlace, zM hs, hn, Addr.add_lit], hr⟩
    · cases hv
  · cases hv
 case indexAddr t x i y j e n hx hi ht hs =>
  split at hv
  · rename_i sz' l k m he hj
    obtain ⟨ei, _⟩ := jE (H.op hi hj)
    split at hv
    · rename_i hc
      split at hv
      · rename_i u hu
        cases hv
        have hr := H.op hx he
        simp only [rep] at hr
        obtain ⟨ad, cap, ex, _, hlen, hsz, hmem⟩ := hr
        have hlt : m.toNat < l.length := (List.getElem?_eq_some_iff.1 hu).1
        rcases hmem with rfl | ⟨b, off, rfl, hmem⟩
        · simp at hlt
        · obtain ⟨y', k1, k2, k3, k4⟩ := repMem_get hmem hu
          have hm : 0 ≤ m ∧ m < l.length := by omega
          refine ⟨.pointer (some ⟨b, off + m.toNat * n, none⟩), ?_, ?_⟩
          · simp [Instr.indexAt, ei, ex, asIntOf, run_underlying ht, hm, zM hs, Addr.add_lit]
          · simp only [rep]
            refine ⟨b, off + m.toNat * n, y', by simp, k1, k3, fun q hq => ?_⟩
            rw [k2] at hq
            rw [← k4 q hq, hc.1]
      · cases hv
    · cases hv
  · rename_i sz' l k m he hj
    obtain ⟨ei, _⟩ := jE (H.op hi hj)
    split at hv
    · rename_i hc
      split at hv
      · rename_i u hu
        cases hv
        have hr := fseq_seq H (H.op hx he)
        simp only [rep] at hr
        obtain ⟨ad, cap, ex, _, hlen, hsz, hmem⟩ := hr
        have hlt : m.toNat < l.length := (List.getElem?_eq_some_iff.1 hu).1
        rcases hmem with rfl | ⟨b, off, rfl, hmem⟩
        · simp at hlt
        · obtain ⟨y', k1, k2, k3, k4⟩ := repMem_get hmem hu
          have hm : 0 ≤ m ∧ m < l.length := by omega
          refine ⟨.pointer (some ⟨b, off + m.toNat * n, none⟩), ?_, ?_⟩
          · simp [Instr.indexAt, ei, ex, asIntOf, run_underlying ht, hm, zM hs, Addr.add_lit]
          · simp only [rep]
            refine ⟨b, off + m.toNat * n, y', by simp, k1, k3, fun q hq => ?_⟩
            rw [k2] at hq
            rw [← k4 q hq, hc.1]
      · cases hv
    · cases hv
  · rename_i id m k q he hj
    obtain ⟨ei, _⟩ := jE (H.op hi hj)
    split at hv
    · rename_i e' sz' l hal
      split at hv
      · rename_i hc
        cases hv
        have ha := arr?_eq hal
        simp only at ha
        have hr := H.op hx he
        simp only [rep, XX] at hr
        have hck := (hr.2.2.1 _ _ _ ha).2 hc.2.1
        obtain ⟨hsz, hlen, xs, ho, hrow, _⟩ := H.heap id _ ha
        rcases ho.2 with ⟨hv0, h0⟩ | ⟨g, cap, cur, hv0, _⟩
        · omega
        · have hq : 0 ≤ q ∧ q < (l.length : Int) := by omega
          rw [hv0] at hck
          refine ⟨.pointer (some ⟨g, q.toNat * n, none⟩), ?_, ?_⟩
          · simp [Instr.indexAt, ei, hck, asIntOf, run_underlying ht, hq, zM hs, Addr.add_lit]
          · simp only [rep, XX]
            refine ⟨rfl, hr.2.1, fun e2 sz2 l2 h2 => ?_, fun e1 e2 sz2 l2 h2 => ?_⟩
            · rw [ha] at h2
              cases h2
              exact ⟨(hr.2.2.1 _ _ _ ha).1, fun hn2 hi2 => ⟨g, cap, by rw [hv0, hn2], by rw [hc.1]; simp⟩⟩
            · rw [ha] at h2; cases h2
      · cases hv
    · split at hv
      · rename_i e1 e2 sz' rows hal
        split at hv
        · rename_i hc
          cases hv
          have ha := rws?_eq hal
          simp only at ha
          have hr := H.op hx he
          simp only [rep, XX] at hr
          have hck := (hr.2.2.2.1 _ _ _ _ ha).2 hc.2.1
          obtain ⟨hsz, hlen, ⟨xs, ho, _⟩, _⟩ := H.heap id _ ha
          rcases ho.2 with ⟨hv0, h0⟩ | ⟨g, cap, cur, hv0, _⟩
          · omega
          · have hq : 0 ≤ q ∧ q < (rows.length : Int) := by omega
            rw [hv0] at hck
            refine ⟨.pointer (some ⟨g, q.toNat * n, none⟩), ?_, ?_⟩
            · simp [Instr.indexAt, ei, hck, asIntOf, run_underlying ht, hq, zM hs, Addr.add_lit]
            · simp only [rep, XX]
              refine ⟨rfl, hr.2.1, fun e2 sz2 l2 h2 => ?_, fun e1 e2 sz2 l2 h2 => ?_⟩
              · rw [ha] at h2; cases h2
              · rw [ha] at h2
                cases h2
                exact ⟨(hr.2.2.2.1 _ _ _ _ ha).1, fun hn2 hi2 => ⟨g, cap, by rw [hv0, hn2], by rw [hc.1]; simp⟩⟩
        · cases hv
      · cases hv
  · rename_i id i' m k q he hj
    obtain ⟨ei, _⟩ := jE (H.op hi hj)
    split at hv
    · rename_i e1 e2 sz' rows hal
      split at hv
      · rename_i r hrow
        split at hv
        · rename_i hc
          cases hv
          have ha := rws?_eq hal
          simp only at ha
          have hr := H.op hx he
          simp only [rep, XX] at hr
          have hck := (hr.2.2 _ _ _ _ ha r hrow).2 hc.2.1
          obtain ⟨hsz, hlen, _, hrs, _⟩ := H.heap id _ ha
          obtain ⟨hrl, ys, ho, _⟩ := hrs i' r hrow
          rcases ho.2 with ⟨hv0, h0⟩ | ⟨g, cap, cur, hv0, _⟩
          · omega
          · have hq : 0 ≤ q ∧ q < (r.length : Int) := by omega
            rw [hv0] at hck
            refine ⟨.pointer (some ⟨g, q.toNat * n, none⟩), ?_, ?_⟩
            · simp [Instr.indexAt, ei, hck, asIntOf, run_underlying ht, hq, zM hs, Addr.add_lit]
            · simp only [rep, XX]
              refine ⟨rfl, hr.2.1, fun e1 e2 sz2 l2 h2 r2 hr2 => ?_⟩
              rw [ha] at h2
              cases h2
              rw [hrow] at hr2
              cases hr2
              exact ⟨(hr.2.2 _ _ _ _ ha r hrow).1, fun hn2 hi2 => ⟨g, cap, by rw [hv0, hn2], by rw [hc.1]; simp⟩⟩
        · cases hv
      · cases hv
    · cases hv
  · cases hv
 case indexAddrA t x i y j e m n hx hi ht hs =>
  split at hv
  · rename_i u k q he hj
    obtain ⟨ei, _⟩ := jE (H.op hi hj)
    split at hv
    · rename_i hc
      obtain ⟨b, o', e', hr⟩ := live_addr H (H.op hx he) hc.1 hv
      exact ⟨_, by simp [Instr.indexAt, ei, e', asIntOf, run_underlying ht, hc.2, zM hs, Addr.add_lit, Instr.sureAddr], hr⟩
    · cases hv
  · cases hv
 case load t x y n g hx hs hg h1 =>
  split at hv
  · rename_i p he
    split at hv
    · rename_i us hus
      obtain ⟨b, o', cs, e, k1, k2, k3, k4⟩ := fetch_sound H (H.op hx he) hus
      rcases mkc_rep hv k1 k2 with ⟨rfl, hk⟩ | ⟨rfl, c, hk1, hk2⟩
      · refine ⟨_, ?_, hk⟩
        have := run_loadCells_list (P := P) w ⟨b, o', none⟩ cs k4
        rw [k3] at this
        simp [Instr.loadAt, e, Instr.sureAddr, loadVar, run_isAgg hg, zM hs, this]
      · refine ⟨c, ?_, hk2⟩
        have := k4 0 c (by simp [hk1])
        rw [Addr.add_lit] at this
        simp at this
        simp [Instr.loadAt, e, Instr.sureAddr, loadVar, run_isAgg hg, this]
    · cases hv
  · cases hv
 case indexS t x i y j hx hi ht =>
  split at hv
  · rename_i s k q he hj
    obtain ⟨ei, _⟩ := jE (H.op hi hj)
    obtain ⟨bs, ex, hs, hl⟩ := rep_str (H.op hx he)
    split at hv
    · rename_i hc
      split at hv
      · rename_i b hb
        cases hv
        subst hs
        have hlt : q.toNat < bs.size := by rw [size_eq]; exact (List.getElem?_eq_some_iff.1 hb).1
        have hbq : bs[q.toNat]? = some b := by
         rw [ByteArray.getElem?_lt' bs _ hlt]
         congr 1
         have := (List.getElem?_eq_some_iff.1 hb).2
         rw [← this]
         rfl
        refine ⟨.int .u8 b.toNat, by simp [Instr.index, ei, ex, asIntOf, run_underlying ht, hc, hbq], ?_⟩
        simp only [rep]
        have := b.toNat_lt
        exact ⟨trivial, by simp [IntKind.min, IntKind.signed], by simp [IntKind.max, IntKind.signed, IntKind.bits]; omega⟩
      · cases hv
    · cases hv
  · cases hv
 case indexA t x i y j m e n g hx hi ht hs hg h1 =>
  split at hv
  · rename_i cs k q he hj
    obtain ⟨ei, _⟩ := jE (H.op hi hj)
    split at hv
    · rename_i hc
      split at hv
      · rename_i us hus
        have hr := H.op hx he
        simp only [rep] at hr
        obtain ⟨arr, ex, k1, k2⟩ := hr
        obtain ⟨c, hrun, hcr⟩ := run_part hs hg h1 k1 k2 hus hv w
        exact ⟨c, by simp [Instr.index, ei, ex, asIntOf, run_underlying ht, hc, zM hs, hrun], hcr⟩
      · cases hv
    · cases hv
  · cases hv
 case bin op xt x y yt u v' hx hy =>
  split at hv
  · rename_i c d hc hd
    obtain ⟨e, h1, h2⟩ := vbin_sound (P := P) (w := w) hv (H.op hx hc) (H.op hy hd) xt x y
    refine ⟨e, ?_, h2⟩
    simp only [Sem.run_bind] at h1 ⊢
    rw [h1]; rfl
  · cases hv
 case beq xt x y yt u v' hu hx hy =>
  split at hv
  · rename_i c d hc hd
    have h1 := rep_bool (H.op hx hc)
    have h2 := rep_bool (H.op hy hd)
    simp at hv
    subst hv
    refine ⟨.bool (c == d), ?_, rfl⟩
    simp only [h1, h2, Sem.run_bind, run_guard .eql xt x y (.bool c) (.bool d) (by simp) (by simp), Result.andThen_ok, run_eql_bool w xt c d hu]
    rfl
  · cases hv
 case bne xt x y yt u v' hu hx hy =>
  split at hv
  · rename_i c d hc hd
    have h1 := rep_bool (H.op hx hc)
    have h2 := rep_bool (H.op hy hd)
    simp at hv
    subst hv
    refine ⟨.bool (!(c == d)), ?_, rfl⟩
    simp only [h1, h2, Sem.run_bind, run_guard .neq xt x y (.bool c) (.bool d) (by simp) (by simp), Result.andThen_ok, run_neq_bool w xt c d hu]
    rfl
  · cases hv
 case un op t x u hx =>
  split at hv
  · rename_i c hc
    have hr := H.op hx hc
    cases c <;> simp only [vun] at hv <;> try (cases hv; done)
    case int k n =>
     obtain ⟨e, _⟩ := jE hr
     cases op <;> simp only at hv <;> try (cases hv; done)
     cases hv
     exact ⟨_, by simp [Op.unary, e, Op.intArith], int_wrap _ _⟩
    case bool b =>
     have e := rep_bool hr
     cases op <;> simp only at hv <;> try (cases hv; done)
     cases hv
     exact ⟨_, by simp [Op.unary, e], bool_mk _⟩
  · cases hv
 case cii s d x u k ds hx hd hs =>
  split at hv
  · rename_i k' n hc
    obtain ⟨e, _⟩ := jE (H.op hx hc)
    cases hv
    exact ⟨_, by simp [convert, run_underlying hd, run_underlying hs, e, Conv.intToInt], int_wrap _ _⟩
  · cases hv
 case sls t x lo hi u lo' hi' hx hlo hhi ht =>
  split at hv
  · rename_i s he
    obtain ⟨bs, ex, hs, hl⟩ := rep_str (H.op hx he)
    split at hv
    · rename_i k p k' q hp hq
      split at hv
      · rename_i hc
        cases hv
        subst hs
        have hsz := size_eq bs
        obtain ⟨e1, _⟩ := jE (H.opo hlo hp (c := .int .i64 0) (by simp only [rep]; exact ⟨trivial, by decide, by decide⟩))
        obtain ⟨e2, _⟩ := jE (H.opo hhi hq (c := .int .i64 (bs.data.toList.length : Int)) (by
         simp only [rep]; refine ⟨trivial, ?_, ?_⟩
         · simp [IntKind.min, IntKind.signed, IntKind.bits] <;> omega
         · simp [IntKind.max, IntKind.signed, IntKind.bits]; simp at hl; omega))
        refine ⟨.string (bs.extract p.toNat q.toNat), ?_, ?_⟩
        · have b3 : (Instr.sliceBounds false bs.size bs.size (lo.map a.eval) (hi.map a.eval) none).run P w = .ok (p.toNat, q.toNat, bs.size) w := by
           refine run_bounds ?_ ?_ w
           · cases hi with
             | none => simp at e2 ⊢; rw [hsz]; simp; omega
             | some o' => simp at e2; exact .inr ⟨k', q, by simp [e2], by omega, by omega, rfl⟩
           · cases lo with
             | none => simp at e1 ⊢; omega
             | some o' => simp at e1; exact .inr ⟨k, p, by simp [e1], by omega, by omega, rfl⟩
          simp [Instr.sliceAt, run_underlying ht, Instr.slice, ex, b3]
        · simp only [rep]
          refine ⟨_, rfl, ?_, ?_⟩
          · rw [ByteArray.data_extract, Array.toList_extract, List.extract_eq_take_drop]
          · simp only [List.length_take, List.length_drop]; omega
      · cases hv
    · cases hv
  · cases hv
 case slq t x lo hi u lo' hi' e n hx hlo hhi ht hsz =>
  split at hv
  · rename_i sz' l he
    have hr := H.op hx he
    simp only [rep] at hr
    obtain ⟨ad, cap, ex, hcap, hlen, hsz', hmem⟩ := hr
    split at hv
    · rename_i k p k' q hp hq
      split at hv
      · rename_i hc
        subst hc
        obtain ⟨us, hus, rfl⟩ := Option.map_eq_some_iff.1 hv
        unfold sliceV at hus
        split at hus
        · rename_i hc
          cases hus
          obtain ⟨e1, _⟩ := jE (H.opo hlo hp (c := .int .i64 0) (by simp only [rep]; exact ⟨trivial, by decide, by decide⟩))
          obtain ⟨e2, _⟩ := jE (H.opo hhi hq (c := .int .i64 (l.length : Int)) (by
           simp only [rep]; refine ⟨trivial, ?_, ?_⟩
           · simp [IntKind.min, IntKind.signed, IntKind.bits] <;> omega
           · simp [IntKind.max, IntKind.signed, IntKind.bits]; omega))
          have b3 : (Instr.sliceBounds true l.length cap (lo.map a.eval) (hi.map a.eval) none).run P w = .ok (p.toNat, q.toNat, cap) w := by
           refine run_bounds ?_ ?_ w
           · cases hi with
             | none => simp at e2 ⊢; omega
             | some o' => simp at e2; exact .inr ⟨k', q, by simp [e2], by omega, by omega, rfl⟩
           · cases lo with
             | none => simp at e1 ⊢; omega
             | some o' => simp at e1; exact .inr ⟨k, p, by simp [e1], by omega, by omega, rfl⟩
          refine ⟨.slice (if cap = p.toNat then ad else ad.map (·.add (p.toNat * n))) (q.toNat - p.toNat) (cap - p.toNat), ?_, ?_⟩
          · simp [Instr.sliceAt, run_underlying ht, Instr.slice, ex, b3, zM hsz]
          · have hl2 : ((l.drop p.toNat).take (q.toNat - p.toNat)).length = q.toNat - p.toNat := by
             simp only [List.length_take, List.length_drop]; omega
            simp only [rep]
            refine ⟨_, _, by rw [hl2], by rw [hl2]; omega, by rw [hl2]; omega, hsz', ?_⟩
            by_cases h0 : (l.drop p.toNat).take (q.toNat - p.toNat) = []
            · exact .inl h0
            · have hpq : ¬ cap = p.toNat := by
               intro hcp
               apply h0
               rw [← List.length_eq_zero_iff, hl2]; omega
              rcases hmem with rfl | ⟨b, off, rfl, hmem⟩
              · simp at h0
              · refine .inr ⟨b, off + p.toNat * n, by simp [hpq, Addr.add_lit], repMem_take _ (repMem_drop _ hmem)⟩
        · cases hus
      · cases hv
    · cases hv
  · cases hv
 case lens t x u hx ht =>
  split at hv
  · rename_i s he
    obtain ⟨bs, ex, hs, hl⟩ := rep_str (H.op hx he)
    cases hv
    subst hs
    refine ⟨.int .i64 (bs.data.toList.length : Int), ?_, ?_⟩
    · rw [← size_eq]
      simp [resolve, invoke, builtin, Builtin.len_, ex, run_underlying ht, goInt]
    · simp only [rep]; refine ⟨trivial, ?_, ?_⟩
      · simp [IntKind.min, IntKind.signed, IntKind.bits] <;> omega
      · simp [IntKind.max, IntKind.signed, IntKind.bits]; simp at hl; omega
  · cases hv
 case lenq t x u e hx ht =>
  have hlenI : ∀ n : Nat, n ≤ 140737488355328 → rep M (XX κ σ.h) (.int .i64 (n : Int)) (.int .i64 (n : Int)) := by
   intro n hn
   simp only [rep]; refine ⟨trivial, ?_, ?_⟩
   · simp [IntKind.min, IntKind.signed, IntKind.bits] <;> omega
   · simp [IntKind.max, IntKind.signed, IntKind.bits]; omega
  split at hv
  · rename_i sz' l he
    have hr := H.op hx he
    simp only [rep] at hr
    obtain ⟨ad, cap, ex, _, hlen, _, hmem⟩ := hr
    cases hv
    exact ⟨_, by simp [resolve, invoke, builtin, Builtin.len_, ex, run_underlying ht, goInt], hlenI _ hlen⟩
  · rename_i sz' l he
    have hr := fseq_seq H (H.op hx he)
    simp only [rep] at hr
    obtain ⟨ad, cap, ex, _, hlen, _, hmem⟩ := hr
    cases hv
    exact ⟨_, by simp [resolve, invoke, builtin, Builtin.len_, ex, run_underlying ht, goInt], hlenI _ hlen⟩
  · rename_i sz' he
    have hr := H.op hx he
    simp only [rep] at hr
    cases hv
    exact ⟨_, by simp [resolve, invoke, builtin, Builtin.len_, hr.1, run_underlying ht, goInt], hlenI 0 (by omega)⟩
  · rename_i id n he
    split at hv
    · rename_i e' sz' l hal
      split at hv
      · rename_i hn
        cases hv
        have ha := arr?_eq hal
        simp only at ha
        have hr := H.op hx he
        simp only [rep, XX] at hr
        have hck := (hr.2.2.1 _ _ _ ha).2 hn
        obtain ⟨hsz, hlen, xs, ho, hrow, _⟩ := H.heap id _ ha
        subst hn
        rcases ho.2 with ⟨hv0, h0⟩ | ⟨g, cap, cur, hv0, _⟩
        · rw [hv0] at hck
          exact ⟨.int .i64 (l.length : Int), by simp [resolve, invoke, builtin, Builtin.len_, hck, run_underlying ht, goInt, h0], hlenI _ hlen⟩
        · rw [hv0] at hck
          exact ⟨.int .i64 (l.length : Int), by simp [resolve, invoke, builtin, Builtin.len_, hck, run_underlying ht, goInt], hlenI _ hlen⟩
      · cases hv
    · split at hv
      · rename_i e1 e2 sz' rows hal
        split at hv
        · rename_i hn
          cases hv
          have ha := rws?_eq hal
          simp only at ha
          have hr := H.op hx he
          simp only [rep, XX] at hr
          have hck := (hr.2.2.2.1 _ _ _ _ ha).2 hn
          obtain ⟨hsz, hlen, ⟨xs, ho, _⟩, _⟩ := H.heap id _ ha
          subst hn
          rcases ho.2 with ⟨hv0, h0⟩ | ⟨g, cap, cur, hv0, _⟩
          · rw [hv0] at hck
            exact ⟨.int .i64 (rows.length : Int), by simp [resolve, invoke, builtin, Builtin.len_, hck, run_underlying ht, goInt, h0], hlenI _ hlen⟩
          · rw [hv0] at hck
            exact ⟨.int .i64 (rows.length : Int), by simp [resolve, invoke, builtin, Builtin.len_, hck, run_underlying ht, goInt], hlenI _ hlen⟩
        · cases hv
      · cases hv
  · rename_i id i' n he
    split at hv
    · rename_i e1 e2 sz' rows hal
      split at hv
      · rename_i r hrow
        split at hv
        · rename_i hn
          cases hv
          have ha := rws?_eq hal
          simp only at ha
          have hr := H.op hx he
          simp only [rep, XX] at hr
          have hck := (hr.2.2 _ _ _ _ ha r hrow).2 hn
          obtain ⟨hsz, hlen, _, hrs, _⟩ := H.heap id _ ha
          obtain ⟨hrl, ys, ho, _⟩ := hrs i' r hrow
          subst hn
          rcases ho.2 with ⟨hv0, h0⟩ | ⟨g, cap, cur, hv0, _⟩
          · rw [hv0] at hck
            exact ⟨.int .i64 (r.length : Int), by simp [resolve, invoke, builtin, Builtin.len_, hck, run_underlying ht, goInt, h0], hlenI _ hrl⟩
          · rw [hv0] at hck
            exact ⟨.int .i64 (r.length : Int), by simp [resolve, invoke, builtin, Builtin.len_, hck, run_underlying ht, goInt], hlenI _ hrl⟩
        · cases hv
      · cases hv
    · cases hv
  · cases hv
 case mmx x y t t' u v' hx hy =>
  split at hv
  · rename_i k p k' q he hf
    split at hv
    · rename_i hk
      subst hk
      cases hv
      obtain ⟨e1, h1⟩ := jE (H.op hx he)
      obtain ⟨e2, h2⟩ := jE (H.op hy hf)
      refine ⟨.int k (if q > p then q else p), by simp [resolve, invoke, builtin, Builtin.max_, Builtin.max2, e1, e2], ?_⟩
      simp only [rep, if_true]
      refine ⟨trivial, ?_⟩
      split <;> assumption
    · cases hv
  · cases hv
 case mmn x y t t' u v' hx hy =>
  split at hv
  · rename_i k p k' q he hf
    split at hv
    · rename_i hk
      subst hk
      cases hv
      obtain ⟨e1, h1⟩ := jE (H.op hx he)
      obtain ⟨e2, h2⟩ := jE (H.op hy hf)
      refine ⟨.int k (if q < p then q else p), by simp [resolve, invoke, builtin, Builtin.min_, Builtin.min2, e1, e2], ?_⟩
      simp only [rep, Bool.false_eq_true, if_false]
      refine ⟨trivial, ?_⟩
      split <;> assumption
    · cases hv
  · cases hv
 case nlq t x yt u neg op k c hk ho' hx =>
  split at hv
  · rename_i v' he
    split at hv
    · rename_i b hb
      cases hv
      have := run_nil (P := P) H (x := x) hk ho' (H.op hx he) hb
      refine ⟨.bool (xor neg b), ?_, by simp [rep]⟩
      simp only [Act.eval, Sem.run_bind, Sem.run_pure] at this ⊢
      rw [this]
      rfl
    · cases hv
  · cases hv
 case ext x i u hx =>
  split at hv
  · rename_i vs he
    have hr := H.op hx he
    simp only [rep] at hr
    obtain ⟨arr, ex, k1⟩ := hr
    obtain ⟨c, k2, k3⟩ := repAll_get k1 hv
    exact ⟨c, by simp at k2; simp [Instr.extract, ex, k2], k3⟩
  · cases hv
 case bld t parts z zc zs ps i z' hbt hi hz hzc hzs hps =>
  obtain ⟨us, hus, rfl⟩ := Option.map_eq_some_iff.1 hv
  have hz0 := cSs_rep hzs (M := M) (X := XX κ σ.h)
  have hb : ∃ es : Array Value, P.built t (parts.toList.map fun x => (x.1, a.eval x.2)) = some es ∧ qA M (XX κ σ.h) us es.toList ∧ ∀ u ∈ es.toList, qN u := by
   unfold Program.built at hbt ⊢
   rw [hi] at hbt ⊢
   cases hu : P.underlying t with
   | none => rw [hu] at hbt; simp at hbt
   | some d =>
     rw [hu] at hbt
     cases d <;> simp only at hbt <;> try (cases hbt; done)
     case struct fs =>
      rw [hz] at hbt
      simp only [hz]
      cases hpl : fs.toList.mapM (fun f => (P.info? f.type).map fun i => (f.offset, i.size)) with
      | none => rw [hpl] at hbt; simp at hbt
      | some places =>
        refine fill_sound (t := t) (place := (places.toArray[·]?)) ?_ H hps hus hz0.1 hz0.2
        intro j off n ft hj
        unfold placeOf at hj
        rw [hu] at hj
        simp only at hj
        split at hj
        · rename_i f hf
          split at hj
          · rename_i n' hn'
            cases hj
            have h5 := mapM_some_get hpl j f (by simpa using hf)
            unfold szOf at hn'
            obtain ⟨i', hi', rfl⟩ := Option.map_eq_some_iff.1 hn'
            rw [hi'] at h5
            simpa using h5.symm
          · cases hj
        · cases hj
     case array m e =>
      rw [hz] at hbt
      simp only [hz]
      cases hie : P.info? e with
      | none => rw [hie] at hbt; simp at hbt
      | some ie =>
        refine fill_sound (t := t) (place := fun i => some (i * ie.size, ie.size)) ?_ H hps hus hz0.1 hz0.2
        intro j off n ft hj
        unfold placeOf at hj
        rw [hu] at hj
        simp only [szOf, hie, Option.map_some] at hj
        split at hj
        · cases hj; rfl
        · cases hj
  obtain ⟨es, k1, k2, k3⟩ := hb
  refine ⟨.agg es, ?_, by simp only [rep]; exact ⟨es, rfl, k2, k3⟩⟩
  have := run_build (P := P) w t (parts.map fun x => (x.1, a.eval x.2)) es (by simpa using k1)
  simp [this]
 case mkf f x y x' y' hx hy =>
  split at hv
  · rename_i vs us hvs hus
    cases hv
    refine ⟨.func f (x.map a.eval) (y.map a.eval), by simp [Instr.makeFunc], ?_⟩
    simp only [rep]
    exact ⟨_, _, rfl, by simpa using H.ops hx hvs, by simpa using H.ops hy hus⟩
  · cases hv
 case mki t x u ds hx hd hne =>
  split at hv
  · rename_i v' he
    split at hv
    · cases hv
      have hr : (Instr.makeInterface t (a.eval x)).run P w = .ok (.iface t (a.eval x)) w := by
       simp only [Instr.makeInterface, Sem.run_bind, run_underlying hd w, Result.andThen_ok]
       first
        | rfl
        | (split
           · exact absurd rfl (hne _)
           · rfl)
      exact ⟨.iface t (a.eval x), by simp [hr], by simp only [rep]; exact ⟨_, rfl, H.op hx he⟩⟩
    · cases hv
  · cases hv
 case aeq t x y yt u v' kt hk hg hx hy =>
  split at hv
  · rename_i u1 v1 h1 h2
    split at hv
    · rename_i hf
      cases hv
      have r1 := H.op hx h1
      have r2 := H.op hy h2
      have e := run_keyEq hk hf.1 hf.2 r1 r2 w
      obtain ⟨_, _, _, _, hc⟩ := key_val hk hf.1 r1
      obtain ⟨_, _, _, _, hc2⟩ := key_val hk hf.2 r2
      rcases hc with ⟨_, ⟨cs, ec⟩, hq, _⟩ | ⟨hn, _⟩
      · rcases hc2 with ⟨_, ⟨ds, ed⟩, _, _⟩ | ⟨hn, _⟩
        · rw [ec, ed] at e ⊢
          refine ⟨.bool (eqK u1 v1), ?_, by simp [rep]⟩
          simp only [Sem.run_bind, run_eqGuard_agg w .eql t x y cs ds hq, Result.andThen_ok, run_eql_struct, e]
          rfl
        · rw [hg] at hn; cases hn
      · rw [hg] at hn; cases hn
    · cases hv
  · cases hv
 case ane t x y yt u v' kt hk hg hx hy =>
  split at hv
  · rename_i u1 v1 h1 h2
    split at hv
    · rename_i hf
      cases hv
      have r1 := H.op hx h1
      have r2 := H.op hy h2
      have e := run_keyEq hk hf.1 hf.2 r1 r2 w
      obtain ⟨_, _, _, _, hc⟩ := key_val hk hf.1 r1
      obtain ⟨_, _, _, _, hc2⟩ := key_val hk hf.2 r2
      rcases hc with ⟨_, ⟨cs, ec⟩, hq, _⟩ | ⟨hn, _⟩
      · rcases hc2 with ⟨_, ⟨ds, ed⟩, _, _⟩ | ⟨hn, _⟩
        · rw [ec, ed] at e ⊢
          refine ⟨.bool (!eqK u1 v1), ?_, by simp [rep]⟩
          simp only [Sem.run_bind, run_eqGuard_agg w .neq t x y cs ds hq, Result.andThen_ok, run_neq_struct, e]
          rfl
        · rw [hg] at hn; cases hn
      · rw [hg] at hn; cases hn
    · cases hv
  · cases hv
 case lkp t K E x k u v' kt i z zv okk ht hkt hx hk2 hi hz hzv =>
  split at hv
  · rename_i id n kv h1 h2
    split at hv
    · rename_i kt' l hm
      split at hv
      · rename_i hf
        obtain ⟨rfl, hf⟩ := hf
        have hmp := mp?_eq hm
        have r1 := H.op hx h1
        simp only [rep, XX] at r1
        have ex := r1.2.2.2.2 _ _ hmp
        obtain ⟨b, es, clock, e1, e2, e3, e4, e5⟩ := H.heap id _ hmp
        rw [e1] at ex
        have r2 := H.op hk2 h2
        obtain ⟨r, g1, g2⟩ := run_find hkt hf r2 w l es.toList e4
        have gc := run_check hkt hf r2 es.isEmpty w
        have hzr : (zeroValue E).run P w = .ok z w := by simp [zeroValue, typeInfo, hi, hz]
        have hobj := Go.MapKept.run_getObj_map (P := P) e3
        rcases g2 with ⟨rfl, g3, _⟩ | ⟨j, e, k', v2, rfl, _, g3, g4, _⟩
        · rw [g3] at hv
          simp only [Option.some.injEq] at hv
          subst hv
          have hrun : (Instr.lookup t (a.eval x) (a.eval k) okk).run P w = .ok (if okk then .tuple #[z, .bool false] else z) w := by
           unfold Instr.lookup
           simp [run_underlying ht, ex, hobj, gc, g1, hzr]
          refine ⟨if okk then .tuple #[z, .bool false] else z, by simp [hrun], ?_⟩
          cases okk
          · simpa using cV_rep hzv
          · simp only [if_true, rep, qA]
            exact ⟨_, rfl, z, _, rfl, cV_rep hzv, .bool false, [], rfl, rfl, rfl⟩
        · rw [g3] at hv
          simp only [Option.some.injEq] at hv
          subst hv
          have hrun : (Instr.lookup t (a.eval x) (a.eval k) okk).run P w = .ok (if okk then .tuple #[e.val, .bool true] else e.val) w := by
           unfold Instr.lookup
           simp [run_underlying ht, ex, hobj, gc, g1]
          refine ⟨if okk then .tuple #[e.val, .bool true] else e.val, by simp [hrun], ?_⟩
          cases okk
          · simpa using qU g4
          · simp only [if_true, rep, qA]
            exact ⟨_, rfl, e.val, _, rfl, qU g4, .bool true, [], rfl, rfl, rfl⟩
      · cases hv
    · cases hv
  · cases hv
 case nlc x u hx =>
  split at hv
  · rename_i v' he
    split at hv
    · rename_i hlv
      cases hv
      have hr := H.op hx he
      rcases live_nil H hr hlv with ⟨p, e⟩ | ⟨f, x1, y1, e⟩
      · exact ⟨_, by rw [e]; rfl, hr⟩
      · exact ⟨_, by rw [e]; rfl, hr⟩
    · cases hv
  · cases hv
end
end Go.Abs
end
section
namespace Go.Abs
open Go.RowKit
def updK (κ : Kap) (id : Nat) (v : Value) (rw' : Nat → Value) (bl : Nat → Prop) : Kap := ⟨fun i => if i = id then v else κ i, fun i => if i = id then rw' else κ.row i, fun i => if i = id then bl else κ.bl i, κ.fm⟩
abbrev upd (κ : Kap) (id : Nat) (v : Value) : Kap := updK κ id v (fun _ => undef) (fun g => blk v = some g)
section
variable {κ : Kap} {id : Nat} {v : Value} {rw' : Nat → Value} {bl : Nat → Prop}
theorem updK_v : (updK κ id v rw' bl) id = v := by simp [updK]
theorem updK_row : (updK κ id v rw' bl).row id = rw' := by simp [updK]
theorem zF : (updK κ id v rw' bl).bl id = bl := by simp [updK]
theorem updK_ne {i : Nat} (h : i ≠ id) : (updK κ id v rw' bl) i = κ i ∧ (updK κ id v rw' bl).row i = κ.row i ∧ (updK κ id v rw' bl).bl i = κ.bl i := by simp [updK, h]
theorem upd_self : upd κ id v id = v := updK_v
theorem upd_ne {i : Nat} (h : i ≠ id) : upd κ id v i = κ i := (updK_ne h).1
end

theorem XX_lt {κ h v c} (hx : XX κ h v c) {κ' : Kap} {h' : List (Option Ob)} (hl : h.length ≤ h'.length) (hk : ∀ i, i < h.length → κ' i = κ i) (hr : ∀ i, i < h.length → κ'.row i = κ.row i) (hh : ∀ i ob, i < h.length → h'[i]? = some (some ob) → h[i]? = some (some ob)) (hf : κ'.fm = κ.fm := by rfl) : XX κ' h' v c := by
 cases v <;> simp only [XX] at hx ⊢
 case ref id n => exact ⟨hx.1, by omega, fun e sz l hl' => by rw [hk id hx.2.1]; exact hx.2.2.1 e sz l (hh id _ hx.2.1 hl'), fun e e2 sz l hl' => by rw [hk id hx.2.1]; exact hx.2.2.2.1 e e2 sz l (hh id _ hx.2.1 hl'), fun kt l hl' => by rw [hk id hx.2.1]; exact hx.2.2.2.2 kt l (hh id _ hx.2.1 hl')⟩
 case ptr id off => exact ⟨hx.1, by omega, fun cs hl' => by rw [hk id hx.2.1]; exact hx.2.2 cs (hh id _ hx.2.1 hl')⟩
 case eptr id n i off => exact ⟨hx.1, by omega, fun e sz l hl' => by rw [hk id hx.2.1]; exact hx.2.2.1 e sz l (hh id _ hx.2.1 hl'), fun e e2 sz l hl' => by rw [hk id hx.2.1]; exact hx.2.2.2 e e2 sz l (hh id _ hx.2.1 hl')⟩
 case fseq sz l => rw [hf]; exact hx
 case mref id i n => exact ⟨hx.1, by omega, fun e e2 sz l hl' => by rw [hr id hx.2.1]; exact hx.2.2 e e2 sz l (hh id _ hx.2.1 hl')⟩
 case mptr id i n k off => exact ⟨hx.1, by omega, fun e e2 sz l hl' => by rw [hr id hx.2.1]; exact hx.2.2 e e2 sz l (hh id _ hx.2.1 hl')⟩

theorem repRow_mono {M M' : Mem} (hM : ∀ p v, M p = some v → M' p = some v) {sz : Nat} : ∀ {l : List V} {xs : List Value}, qJ M sz l xs → qJ M' sz l xs
 | [], _, h => h
 | v :: vs, xs, h => by
   simp only [qJ] at h ⊢
   obtain ⟨y, rest, g1, g2, g3, g4, g5⟩ := h
   exact ⟨y, rest, g1, qQ hM (fun _ _ h => h) _ _ g2, g3, g4, repRow_mono hM g5⟩
theorem ownsRow_mono {w w' : World} {n e sz len : Nat} {v : Value} {xs : List Value} (h : w.ownsRow n e sz v len xs) (hw : ∀ g, blk v = some g → w'.heap[g]? = w.heap[g]?) : w'.ownsRow n e sz v len xs := by
 refine ⟨h.1, ?_⟩
 rcases h.2 with h4 | ⟨g, cap, cur, h4, h5, h6, h7⟩
 · exact .inl h4
 · exact .inr ⟨g, cap, cur, h4, h5, by rw [hw g (by rw [h4]; rfl), h6], h7⟩
theorem ownsRow_blk {w : World} {n e sz len : Nat} {v : Value} {xs : List Value} (h : w.ownsRow n e sz v len xs) {g : Nat} (hg : blk v = some g) : g < w.heap.size := by
 rcases h.2 with ⟨h4, _⟩ | ⟨g', cap, cur, h4, h5, h6, _⟩
 · rw [h4] at hg; cases hg
 · rw [h4] at hg
   cases hg
   exact (Array.getElem?_eq_some_iff.1 h6).1

section
variable {P : Program} {N : Nat} {M0 : Mem} {B : Bas} {w0 : World} {κ : Kap} {M : Mem} {σ : St} {a : Act} {w w' : World}

theorem mpAt_mono {M M' : Mem} (hM : ∀ p v, M p = some v → M' p = some v) {kt : KT} : ∀ {l : List (V × V)} {es : List MapEntry}, mpAt M kt l es → mpAt M' kt l es
 | [], _, h => h
 | (k, v) :: l, _, h => by
   simp only [mpAt] at h ⊢
   obtain ⟨e, rest, h1, h2, h3, h4, h5⟩ := h
   exact ⟨e, rest, h1, h2, qQ hM (fun _ _ h => h) _ _ h3, qQ hM (fun _ _ h => h) _ _ h4, mpAt_mono hM h5⟩
theorem obAt_mono {X X' : V → Value → Prop} {M' : Mem} (hM : ∀ p v, M p = some v → M' p = some v) (hX : ∀ v c, X v c → X' v c) {κ' : Kap} {id : Nat} (hk : κ' id = κ id ∧ κ'.row id = κ.row id ∧ κ'.bl id = κ.bl id) (hw : ∀ g, κ.bl id g → w'.heap[g]? = w.heap[g]?) : ∀ {ob : Ob}, zU κ M X B w id ob → zU κ' M' X' B w' id ob
 | .box cs, h => by
   simp only [zU] at h ⊢
   obtain ⟨b, arr, T, h1, h2, h3, h4, h5, h6⟩ := h
   exact ⟨b, arr, T, by rw [hk.1, h1], h2, by rw [hw b ((h6 b).2 rfl), h3], zK hM hX _ _ h4, h5, by rw [hk.2.2]; exact h6⟩
 | .arr e sz l, h => by
   simp only [zU] at h ⊢
   obtain ⟨h0, h1, xs, h2, h3, hown, hbl⟩ := h
   rw [hk.1, hk.2.2]
   exact ⟨h0, h1, xs, ownsRow_mono h2 fun g hg => hw g ((hbl g).2 hg), repRow_mono hM h3, hown, hbl⟩
 | .mat e e2 sz rows, h => by
   simp only [zU] at h ⊢
   obtain ⟨h0, h1, ⟨xs, h2, h3, h4⟩, h5, h6, h7, hown, hbl⟩ := h
   rw [hk.1, hk.2.1, hk.2.2]
   exact ⟨h0, h1, ⟨xs, ownsRow_mono h2 fun g hg => hw g ((hbl g).2 (.inl hg)), h3, h4⟩, fun i r hr => let ⟨k1, ys, k2, k3⟩ := h5 i r hr; ⟨k1, ys, ownsRow_mono k2 fun g hg => hw g ((hbl g).2 (.inr ⟨i, r, hr, hg⟩)), repRow_mono hM k3⟩, h6, h7, hown, hbl⟩
 | .mp kt l, h => by
   simp only [zU] at h ⊢
   obtain ⟨b, es, clock, h1, h2, h3, h4, h5⟩ := h
   exact ⟨b, es, clock, by rw [hk.1, h1], h2, by rw [hw b ((h5 b).2 rfl), h3], mpAt_mono hM h4, by rw [hk.2.2]; exact h5⟩

theorem obAt_blk {X : V → Value → Prop} {id : Nat} : ∀ {ob : Ob}, zU κ M X B w id ob → ∀ g, κ.bl id g → B.own g ∧ g < w.heap.size
 | .box cs, h, g, hg => by
   simp only [zU] at h
   obtain ⟨b, arr, T, h1, h2, h3, _, _, h6⟩ := h
   have := (h6 g).1 hg
   subst this
   exact ⟨h2, (Array.getElem?_eq_some_iff.1 h3).1⟩
 | .arr e sz l, h, g, hg => by
   simp only [zU] at h
   obtain ⟨_, _, xs, h2, _, hown, hbl⟩ := h
   exact ⟨hown g hg, ownsRow_blk h2 ((hbl g).1 hg)⟩
 | .mat e e2 sz rows, h, g, hg => by
   simp only [zU] at h
   obtain ⟨_, _, ⟨xs, h2, _⟩, h5, _, _, hown, hbl⟩ := h
   refine ⟨hown g hg, ?_⟩
   rcases (hbl g).1 hg with h | ⟨i, r, hr, h⟩
   · exact ownsRow_blk h2 h
   · obtain ⟨_, ys, k2, _⟩ := h5 i r hr
     exact ownsRow_blk k2 h
 | .mp kt l, h, g, hg => by
   simp only [zU] at h
   obtain ⟨b, es, clock, h1, h2, h3, _, h5⟩ := h
   have := (h5 g).1 hg
   subst this
   exact ⟨h2, (Array.getElem?_eq_some_iff.1 h3).1⟩

theorem Rel.blk_lt (H : Rel N M0 B w0 κ M σ a w) {id : Nat} {ob : Ob} (h : σ.h[id]? = some (some ob)) {g : Nat} (hg : κ.bl id g) : B.own g ∧ g < w.heap.size := obAt_blk (H.heap id ob h) g hg
theorem Rel.mem_lt (H : Rel N M0 B w0 κ M σ a w) {p : Addr} {v : Value} (h : M p = some v) : p.block < w.heap.size := World.block_lt_of_cell? w p (H.snd p v h)

theorem Rel.grow (H : Rel N M0 B w0 κ M σ a w) (hb : Below w.heap.size w w') {M' : Mem} (hM : ∀ p v, M p = some v → M' p = some v) (hs : ∀ p v, M' p = some v → w'.cell? p = some v)
 (hn : ∀ p v, M' p = some v → M p = some v ∨ w.heap.size ≤ p.block) : Rel N M0 B w0 κ M' σ a w' where
 dfr := H.dfr
 pin := H.pin
 size := H.size
 regs := fun t v ht => let ⟨h1, c, h2, h3⟩ := H.regs t v ht; ⟨h1, c, h2, qQ hM (fun _ _ h => h) _ _ h3⟩
 heap := fun id ob h => obAt_mono hM (fun _ _ h => h) ⟨rfl, rfl, rfl⟩ (fun g hg => hb.block g (H.blk_lt h hg).2) (H.heap id ob h)
 inj := H.inj
 snd := hs
 sep := fun p v hp id ob h => by
  rcases hn p v hp with h1 | h1
  · exact H.sep p v h1 id ob h
  · intro hg
    have := (H.blk_lt h hg).2
    omega
 sub := ⟨fun p v h => hM p v (H.sub.sub p v h), fun p v h => hM p v (H.sub.fmS p v h), H.sub.fmN, H.sub.fbn, H.sub.gl⟩
 new := fun p v h => by
  rcases hn p v h with h1 | h1
  · exact H.new p v h1
  · have := H.blw.size
    exact .inr (.inl (by rw [H.base]; omega))
 base := H.base
 blw := H.blw.trans (.of_below hb (by rw [H.base]; exact H.blw.size))

theorem Rel.grow0 (H : Rel N M0 B w0 κ M σ a w) (hb : Below w.heap.size w w') : Rel N M0 B w0 κ M σ a w' :=
 H.grow hb (fun _ _ h => h) (fun p v h => by rw [hb.cell (H.mem_lt h)]; exact H.snd p v h) (fun _ _ h => .inl h)

theorem getElem?_append_one {α} {l : List α} {x y : α} {i : Nat} (h : (l ++ [x])[i]? = some y) : (i < l.length ∧ l[i]? = some y) ∨ (i = l.length ∧ x = y) := by
 by_cases hi : i < l.length
 · rw [List.getElem?_append_left hi] at h; exact .inl ⟨hi, h⟩
 · rw [List.getElem?_append_right (by omega)] at h
   have : i - l.length = 0 := by
    rcases Nat.eq_zero_or_pos (i - l.length) with h0 | h0
    · exact h0
    · rw [List.getElem?_eq_none (by simp; omega)] at h; cases h
   rw [this] at h
   simp at h
   exact .inr ⟨by omega, h⟩

theorem Rel.newOb' (H : Rel N M0 B w0 κ M σ a w) (hb : Below w.heap.size w w') {ob : Ob} {kv : Value} {kr : Nat → Value} {kb : Nat → Prop} (hkI : ∀ g, kb g → ∀ j oj, σ.h[j]? = some (some oj) → ¬ κ.bl j g) (hkS : ∀ p v, M p = some v → ¬ kb p.block)
 (ho : zU (updK κ σ.h.length kv kr kb) M (XX (updK κ σ.h.length kv kr kb) (σ.h ++ [some ob])) B w' σ.h.length ob) : Rel N M0 B w0 (updK κ σ.h.length kv kr kb) M { σ with h := σ.h ++ [some ob] } a w' := by
 have H' := H.grow0 hb
 have hX : ∀ v c, XX κ σ.h v c → XX (updK κ σ.h.length kv kr kb) (σ.h ++ [some ob]) v c := fun v c hx => XX_lt hx (by simp) (fun i hi => (updK_ne (by omega)).1) (fun i hi => (updK_ne (by omega)).2.1) (fun i ob' hi h => by rwa [List.getElem?_append_left hi] at h)
 have hne : ∀ {i}, i < σ.h.length → (updK κ σ.h.length kv kr kb).bl i = κ.bl i := fun hi => (updK_ne (by omega)).2.2
 have hse : (updK κ σ.h.length kv kr kb).bl σ.h.length = kb := zF
 refine { dfr := H'.dfr, pin := H'.pin, size := H'.size, regs := ?_, heap := ?_, inj := ?_, snd := H'.snd, sep := ?_, sub := H'.sub, new := H'.new, base := H'.base, blw := H'.blw }
 · intro t v ht
   obtain ⟨h1, c, h2, h3⟩ := H'.regs t v ht
   exact ⟨h1, c, h2, rep_X hX h3⟩
 · intro id ob' h
   rcases getElem?_append_one h with ⟨hi, h⟩ | ⟨rfl, h⟩
   · exact obAt_mono (fun _ _ h => h) hX (updK_ne (by omega)) (fun _ _ => rfl) (H'.heap id ob' h)
   · rename_i h'
     simp only [Option.some.injEq] at h'
     rw [← h']; exact ho
 · intro i j oi oj g hi hj gi gj
   rcases getElem?_append_one hi with ⟨hi', hi⟩ | ⟨rfl, hi⟩ <;> rcases getElem?_append_one hj with ⟨hj', hj⟩ | ⟨rfl, hj⟩
   · rw [hne hi'] at gi; rw [hne hj'] at gj; exact H.inj i j oi oj g hi hj gi gj
   · rw [hne hi'] at gi; rw [hse] at gj
     exact (hkI g gj _ _ hi gi).elim
   · rw [hne hj'] at gj; rw [hse] at gi
     exact (hkI g gi _ _ hj gj).elim
   · rfl
 · intro p v hp id ob' h
   rcases getElem?_append_one h with ⟨hi, h⟩ | ⟨rfl, h⟩
   · rw [hne hi]; exact H'.sep p v hp id ob' h
   · rw [hse]
     exact hkS p v hp

theorem Rel.newOb (H : Rel N M0 B w0 κ M σ a w) (hb : Below w.heap.size w w') {ob : Ob} {kv : Value} {kr : Nat → Value} {kb : Nat → Prop} (hk : ∀ g, kb g → w.heap.size ≤ g)
 (ho : zU (updK κ σ.h.length kv kr kb) M (XX (updK κ σ.h.length kv kr kb) (σ.h ++ [some ob])) B w' σ.h.length ob) : Rel N M0 B w0 (updK κ σ.h.length kv kr kb) M { σ with h := σ.h ++ [some ob] } a w' :=
 H.newOb' hb (fun g hg j oj hj hg' => by have := (H.blk_lt hj hg').2; have := hk g hg; omega) (fun p v hp hg => by have := H.mem_lt hp; have := hk _ hg; omega) ho

theorem Rel.setOb' (H : Rel N M0 B w0 κ M σ a w) {id : Nat} {old ob : Ob} (hid : σ.h[id]? = some (some old)) {kv : Value} {kr : Nat → Value} {kb : Nat → Prop} (hb : Und B w w')
 (hother : ∀ k, k < w.heap.size → ¬ κ.bl id k → w'.heap[k]? = w.heap[k]?) (hkI : ∀ g, kb g → ∀ j oj, σ.h[j]? = some (some oj) → κ.bl j g → id = j) (hkS : ∀ p v, M p = some v → ¬ kb p.block)
 (hX : ∀ v c, XX κ σ.h v c → XX (updK κ id kv kr kb) (σ.h.set id (some ob)) v c)
 (ho : zU (updK κ id kv kr kb) M (XX (updK κ id kv kr kb) (σ.h.set id (some ob))) B w' id ob) : Rel N M0 B w0 (updK κ id kv kr kb) M { σ with h := σ.h.set id (some ob) } a w' := by
 have hlt : id < σ.h.length := (List.getElem?_eq_some_iff.1 hid).1
 have hne : ∀ {i}, ¬ id = i → (updK κ id kv kr kb).bl i = κ.bl i := fun hi => (updK_ne (fun e => hi e.symm)).2.2
 have hse : (updK κ id kv kr kb).bl id = kb := zF
 refine { dfr := H.dfr, pin := H.pin, size := H.size, regs := ?_, heap := ?_, inj := ?_, snd := ?_, sep := ?_, sub := H.sub, new := H.new, base := H.base, blw := H.blw.trans hb }
 · intro t v ht
   obtain ⟨h1, c, h2, h3⟩ := H.regs t v ht
   exact ⟨h1, c, h2, rep_X hX h3⟩
 · intro i ob' h
   rw [List.getElem?_set] at h
   split at h
   · rename_i he
     subst he
     simp only [hlt, if_true, Option.some.injEq] at h
     rw [← h]
     exact ho
   · rename_i he
     refine obAt_mono (fun _ _ h => h) hX (updK_ne (fun e => he e.symm)) (fun g hg => ?_) (H.heap i ob' h)
     exact hother g (H.blk_lt h hg).2 (fun hg' => he (H.inj id i old ob' g hid h hg' hg))
 · intro i j oi oj g hi hj gi gj
   rw [List.getElem?_set] at hi hj
   split at hi <;> split at hj
   · rename_i h1 h2; rw [← h1, ← h2]
   · rename_i h1 h2
     subst h1
     rw [hse] at gi
     rw [hne h2] at gj
     exact hkI g gi j oj hj gj
   · rename_i h1 h2
     subst h2
     rw [hse] at gj
     rw [hne h1] at gi
     exact (hkI g gj i oi hi gi).symm
   · rename_i h1 h2
     rw [hne h1] at gi
     rw [hne h2] at gj
     exact H.inj i j oi oj g hi hj gi gj
 · intro p v hp
   have h1 := H.snd p v hp
   have h2 := hother p.block (H.mem_lt hp) (H.sep p v hp id old hid)
   rw [World.cell?_of_block h2]; exact h1
 · intro p v hp i ob' h
   rw [List.getElem?_set] at h
   split at h
   · rename_i he
     subst he
     rw [hse]
     exact hkS p v hp
   · rename_i he
     rw [hne he]
     exact H.sep p v hp i ob' h

theorem Rel.setOb (H : Rel N M0 B w0 κ M σ a w) {id : Nat} {old ob : Ob} (hid : σ.h[id]? = some (some old)) {kv : Value} {kr : Nat → Value} {kb : Nat → Prop} (hb : Und B w w')
 (hother : ∀ k, k < w.heap.size → ¬ κ.bl id k → w'.heap[k]? = w.heap[k]?) (hk : ∀ g, kb g → κ.bl id g ∨ w.heap.size ≤ g)
 (hX : ∀ v c, XX κ σ.h v c → XX (updK κ id kv kr kb) (σ.h.set id (some ob)) v c)
 (ho : zU (updK κ id kv kr kb) M (XX (updK κ id kv kr kb) (σ.h.set id (some ob))) B w' id ob) : Rel N M0 B w0 (updK κ id kv kr kb) M { σ with h := σ.h.set id (some ob) } a w' :=
 H.setOb' hid hb hother (fun g hg j oj hj gj => by
  rcases hk g hg with h3 | h3
  · exact H.inj id j old oj g hid hj h3 gj
  · have := (H.blk_lt hj gj).2; omega) (fun p v hp hg => by
  rcases hk _ hg with h3 | h3
  · exact H.sep p v hp id old hid h3
  · have := H.mem_lt hp; omega) hX ho

theorem Rel.drop (H : Rel N M0 B w0 κ M σ a w) (id : Nat) : Rel N M0 B w0 κ M { σ with h := σ.h.set id none } a w := by
 have k3 : ∀ {i : Nat} {ob : Ob}, (σ.h.set id none)[i]? = some (some ob) → σ.h[i]? = some (some ob) := by
  intro i ob h
  rw [List.getElem?_set] at h
  split at h
  · split at h <;> cases h
  · exact h
 have hX : ∀ v c, XX κ σ.h v c → XX κ (σ.h.set id none) v c := fun v c hx => XX_lt hx (by simp) (fun _ _ => rfl) (fun _ _ => rfl) (fun i ob hi h => k3 h)
 exact { dfr := H.dfr, pin := H.pin, size := H.size
         regs := fun t v ht => let ⟨h1, c, h2, h3⟩ := H.regs t v ht; ⟨h1, c, h2, rep_X hX h3⟩
         heap := fun i ob h => obAt_mono (fun _ _ h => h) hX ⟨rfl, rfl, rfl⟩ (fun _ _ => rfl) (H.heap i ob (k3 h))
         inj := fun i j oi oj g hi hj => H.inj i j oi oj g (k3 hi) (k3 hj)
         snd := H.snd
         sep := fun p v hp i ob h => H.sep p v hp i ob (k3 h)
         sub := H.sub, new := H.new, base := H.base, blw := H.blw }

def Kap.add (κ : Kap) (F : Mem) : Kap := ⟨κ.v, κ.row, κ.bl, fun p => (κ.fm p).or (F p)⟩
theorem XX_add {κ : Kap} {F : Mem} {h : List (Option Ob)} : ∀ v c, XX κ h v c → XX (κ.add F) h v c := by
 intro v c hx
 cases v <;> simp only [XX] at hx ⊢ <;> try exact hx
 exact ⟨hx.1, qQ (M' := (κ.add F).fm) (fun p v hp => by simp [Kap.add, hp]) (X := NX) (fun _ _ h => h) _ _ hx.2⟩
theorem Rel.addF (H : Rel N M0 B w0 κ M σ a w) {F : Mem} (hF : ∀ p v, F p = some v → M p = some v ∧ B.fb ≤ p.block) : Rel N M0 B w0 (κ.add F) M σ a w :=
 { dfr := H.dfr, pin := H.pin, size := H.size
   regs := fun t v ht => let ⟨h1, c, h2, h3⟩ := H.regs t v ht; ⟨h1, c, h2, rep_X XX_add h3⟩
   heap := fun i ob h => obAt_mono (κ' := κ.add F) (fun _ _ h => h) XX_add ⟨rfl, rfl, rfl⟩ (fun _ _ => rfl) (H.heap i ob h)
   inj := H.inj, snd := H.snd, sep := H.sep
   sub := ⟨H.sub.sub, fun p v hp => by
       simp only [Kap.add, Option.or_eq_some_iff] at hp
       rcases hp with hp | hp
       · exact H.sub.fmS p v hp
       · exact (hF p v hp.2).1, fun p v hp => by
       simp only [Kap.add, Option.or_eq_some_iff] at hp
       rcases hp with hp | hp
       · exact H.sub.fmN p v hp
       · exact (hF p v hp.2).2, H.sub.fbn, H.sub.gl⟩
   new := H.new, base := H.base, blw := H.blw }
mutual
theorem fz_rep {Mn M : Mem} {X : V → Value → Prop} (hM : ∀ p v, Mn p = some v → M p = some v) (hX : ∀ sz l c, qN c → rep Mn NX (.seq sz l) c → X (.fseq sz l) c) : ∀ {v : V} {c : Value}, rep Mn NX v c → rep M X (fz v) c
 | .seq sz l, c, h => by
   simp only [fz, rep]
   refine hX sz l c ?_ h
   simp only [rep] at h
   obtain ⟨a, cap, rfl, _⟩ := h
   rfl
 | .strct cs, c, h => by
   simp only [rep, fz] at h ⊢
   obtain ⟨arr, h1, h2, h3⟩ := h
   exact ⟨arr, h1, fzs_rep hM hX h2, h3⟩
 | .tup cs, c, h => by
   simp only [rep, fz] at h ⊢
   obtain ⟨arr, h1, h2⟩ := h
   exact ⟨arr, h1, fzs_rep hM hX h2⟩
 | .int k n, c, h => qU (qQ hM (fun _ _ h => h) (.int k n) c h)
 | .bool b, c, h => qU (qQ hM (fun _ _ h => h) (.bool b) c h)
 | .str s, c, h => qU (qQ hM (fun _ _ h => h) (.str s) c h)
 | .nil sz, c, h => qU (qQ hM (fun _ _ h => h) (.nil sz) c h)
 | .sptr x o, c, h => qU (qQ hM (fun _ _ h => h) (.sptr x o) c h)
 | .nilptr, c, h => qU (qQ hM (fun _ _ h => h) .nilptr c h)
 | .fn f x y, c, h => qU (qQ hM (fun _ _ h => h) (.fn f x y) c h)
 | .nilfn, c, h => qU (qQ hM (fun _ _ h => h) .nilfn c h)
 | .iface t x, c, h => qU (qQ hM (fun _ _ h => h) (.iface t x) c h)
 | .niliface, c, h => qU (qQ hM (fun _ _ h => h) .niliface c h)
 | .junk, c, h => qU (qQ hM (fun _ _ h => h) .junk c h)
 | .ref _ _, _, h => h.elim
 | .ptr _ _, _, h => h.elim
 | .eptr _ _ _ _, _, h => h.elim
 | .mref _ _ _, _, h => h.elim
 | .mptr _ _ _ _ _, _, h => h.elim
 | .fseq _ _, _, h => h.elim
theorem fzs_rep {Mn M : Mem} {X : V → Value → Prop} (hM : ∀ p v, Mn p = some v → M p = some v) (hX : ∀ sz l c, qN c → rep Mn NX (.seq sz l) c → X (.fseq sz l) c) : ∀ {vs : List V} {cs : List Value}, qA Mn NX vs cs → qA M X (fzs vs) cs
 | [], cs, h => h
 | v :: vs, cs, h => by
   simp only [qA, fzs] at h ⊢
   obtain ⟨c, cs', h1, h2, h3⟩ := h
   exact ⟨c, cs', h1, fz_rep hM hX h2, fzs_rep hM hX h3⟩
end
open Classical in
noncomputable def ext (M : Mem) (w : World) (bs : Nat → Prop) : Mem := fun p => if bs p.block then w.cell? p else M p

theorem repRow_mem {M' : Mem} {sz g : Nat} (hM : ∀ p v, M p = some v → M' p = some v) : ∀ {l : List V} {xs : List Value} (off : Nat), qJ M sz l xs → (∀ j u, xs[j]? = some u → M' ⟨g, off + j, none⟩ = some u) → jF M' sz l g off
 | [], _, _, _, _ => by simp [jF]
 | v :: vs, xs, off, h, hx => by
   simp only [qJ] at h
   obtain ⟨y, rest, rfl, g1, g2, g3, g4⟩ := h
   simp only [jF]
   refine ⟨⟨y, qQ hM (fun _ _ h => h) _ _ g1, g2, g3, fun j hj => ?_⟩, repRow_mem hM (off + sz) g4 fun j u hu => ?_⟩
   · have h1 : (y.cells.toList ++ rest)[j]? = y.cells[j]? := by
      rw [List.getElem?_append_left (by simp; omega)]; simp
     rw [Array.getElem?_eq_getElem (by omega)] at h1 ⊢
     exact hx j _ h1
   · have := hx (sz + j) u (by rw [List.getElem?_append_right (by simp; omega)]; simp [g2, hu])
     rw [← this]; congr 2; omega

theorem row_rep {Mr Mn : Mem} (hM : ∀ p v, Mr p = some v → Mn p = some v) {e sz : Nat} {val : Value} {l : List V} {xs : List Value} (h2 : w.ownsRow 0 e sz val l.length xs) (h3 : qJ Mr sz l xs) (h0 : 0 < sz) (h1 : l.length ≤ 140737488355328)
 (hown : ∀ g, blk val = some g → ∀ p : Addr, p.block = g → Mn p = w.cell? p) {X : V → Value → Prop} : rep Mn X (.seq sz l) val := by
 simp only [rep]
 rcases h2.2 with ⟨h4, h5⟩ | ⟨g, cap, cur, h4, h5, h6, h7, h8, h9⟩
 · have : l = [] := List.eq_nil_of_length_eq_zero h5
   subst this
   exact ⟨none, 0, by rw [h4]; rfl, by simp, by simp, h0, by simp⟩
 · refine ⟨some ⟨g, 0, none⟩, cap, by rw [h4], h7, h1, h0, .inr ⟨g, 0, rfl, ?_⟩⟩
   refine repRow_mem hM 0 h3 fun j u hu => ?_
   rw [hown g (by rw [h4]; rfl) _ rfl]
   have := h2.cells (g := g) (by rw [h4]; rfl) j u hu
   rwa [Addr.add_lit] at this
theorem allRows_get {sz : Nat} : ∀ {rows : List (Option (List V))} {vs : List V}, allRows sz rows = some vs → vs.length = rows.length ∧ ∀ (i : Nat) (v : V), vs[i]? = some v → ∃ r, zC rows i = some r ∧ v = .seq sz r
 | [], vs, h => by simp only [allRows] at h; cases h; simp
 | some r :: rows, vs, h => by
   simp only [allRows] at h
   split at h
   · rename_i us hus
     cases h
     obtain ⟨k1, k2⟩ := allRows_get hus
     refine ⟨by simp [k1], fun i v hi => ?_⟩
     cases i with
     | zero => simp at hi; exact ⟨r, by simp [zC], hi.symm⟩
     | succ i =>
       simp at hi
       obtain ⟨r', k3, k4⟩ := k2 i v hi
       exact ⟨r', by simpa [zC] using k3, k4⟩
   · cases h
 | none :: rows, vs, h => by simp [allRows] at h
theorem repRow_of {Mr : Mem} : ∀ {vs : List V} {xs : List Value}, vs.length = xs.length → (∀ (i : Nat) (v : V), vs[i]? = some v → ∃ c : Value, xs[i]? = some c ∧ qN c ∧ rep Mr NX v c) → qJ Mr 1 vs xs
 | [], xs, h, _ => by
   simp only [qJ]
   exact List.eq_nil_of_length_eq_zero (by simpa using h.symm)
 | v :: vs, [], h, _ => by simp at h
 | v :: vs, x :: xs, h, hx => by
   simp only [qJ]
   obtain ⟨c, h1, h2, h3⟩ := hx 0 v (by simp)
   simp at h1
   subst h1
   exact ⟨x, xs, by simp [cells_of_isCell h2], h3, by simp [cells_of_isCell h2], by simp [cells_of_isCell h2, h2], repRow_of (by simpa using h) fun i u hi => hx (i + 1) u (by simpa using hi)⟩
theorem mat_rep {Mr Mn : Mem} (hM : ∀ p v, Mr p = some v → Mn p = some v) {id e e2 sz : Nat} {rows : List (Option (List V))} {X Y : V → Value → Prop} (h : zU κ M Y B w id (.mat e e2 sz rows)) (hr : ∀ i r xs, zC rows i = some r → qJ M sz r xs → qJ Mr sz r xs)
 {vs : List V} (hv : allRows sz rows = some vs) (hown : ∀ g, κ.bl id g → ∀ p : Addr, p.block = g → Mn p = w.cell? p) : rep Mn X (.seq 1 vs) (κ id) := by
 obtain ⟨h0, h1, ⟨xs, h2, h3, h4⟩, h5, h6, h7, _, hbl⟩ := h
 obtain ⟨k1, k2⟩ := allRows_get hv
 have hxl : xs.length = rows.length := by have := h2.1; simpa using this
 rw [← k1] at h2 h1
 refine row_rep (Mr := Mn) (fun _ _ h => h) h2 (repRow_of (by omega) fun i v hi => ?_) (by omega) h1 (fun g hg => hown g ((hbl g).2 (.inl hg)))
 obtain ⟨r, k3, rfl⟩ := k2 i v hi
 obtain ⟨k4, ys, k5, k6⟩ := h5 i r k3
 exact ⟨_, h4 i r k3, h3 _ (List.mem_of_getElem? (h4 i r k3)), row_rep hM k5 (hr i r ys k3 k6) h0 k4 fun g hg => hown g ((hbl g).2 (.inr ⟨i, r, k3, hg⟩))⟩
theorem mrow_rep {Mr Mn : Mem} (hM : ∀ p v, Mr p = some v → Mn p = some v) {id e e2 sz i : Nat} {rows : List (Option (List V))} {r : List V} {X Y : V → Value → Prop} (h : zU κ M Y B w id (.mat e e2 sz rows)) (k3 : zC rows i = some r) (hr : ∀ xs, qJ M sz r xs → qJ Mr sz r xs)
 (hown : ∀ g, κ.bl id g → ∀ p : Addr, p.block = g → Mn p = w.cell? p) : rep Mn X (.seq sz r) (κ.row id i) := by
 obtain ⟨h0, h1, ⟨xs, h2, h3, h4⟩, h5, h6, h7, _, hbl⟩ := h
 obtain ⟨k4, ys, k5, k6⟩ := h5 i r k3
 exact row_rep hM k5 (hr ys k6) h0 k4 fun g hg => hown g ((hbl g).2 (.inr ⟨i, r, k3, hg⟩))

mutual
theorem pur_rep (H : Rel N M0 B w0 κ M σ a w) {M' : Mem} (hM : ∀ p v, M p = some v → M' p = some v) : ∀ {v u : V} {c : Value} (hown : ∀ id ∈ qM v, ∀ g, κ.bl id g → ∀ p, p.block = g → M' p = w.cell? p), rep M (XX κ σ.h) v c → pur σ.h v = some u → rep M' NX u c
 | .int _ _, u, c, _, h, hp => by simp only [pur] at hp; cases hp; exact h
 | .bool _, u, c, _, h, hp => by simp only [pur] at hp; cases hp; exact h
 | .str _, u, c, _, h, hp => by simp only [pur] at hp; cases hp; exact h
 | .nil sz, u, c, _, h, hp => by
   simp only [pur] at hp; cases hp
   simp only [rep] at h ⊢
   exact ⟨none, 0, by simpa using h.1, by simp, by simp, h.2, by simp⟩
 | .seq sz l, u, c, _, h, hp => by simp only [pur] at hp; cases hp; exact qQ hM (X := NX) (fun _ _ h => h) (.seq sz l) c h
 | .ref id n, u, c, hown, h, hp => by
   simp only [pur, pur1] at hp
   split at hp
   · rename_i e sz l hh
     split at hp
     · rename_i hn
       cases hp
       simp only [rep, XX] at h
       have hc := (h.2.2.1 e sz l hh).2 hn
       obtain ⟨h0, h1, xs, h2, h3, _, hbl⟩ := H.heap id _ hh
       rw [hc]
       exact row_rep hM h2 h3 h0 h1 fun g hg => hown id (by simp [qM]) g ((hbl g).2 hg)
     · cases hp
   · rename_i e e2 sz rows hh
     split at hp
     · rename_i hn
       obtain ⟨vs, hvs, rfl⟩ := Option.map_eq_some_iff.1 hp
       simp only [rep, XX] at h
       have hc := (h.2.2.2.1 e e2 sz rows hh).2 hn
       rw [hc]
       exact mat_rep hM (H.heap id _ hh) (fun _ _ _ _ h => h) hvs (hown id (by simp [qM]))
     · cases hp
   · cases hp
 | .fseq sz l, u, c, _, h, hp => by
   simp only [pur] at hp; cases hp
   simp only [rep, XX] at h
   exact qQ (fun p v hp => hM p v (H.sub.fmS p v hp)) (X := NX) (fun _ _ h => h) (.seq sz l) c (by simp only [rep]; exact h.2)
 | .mref id i n, u, c, hown, h, hp => by
   simp only [pur, pur2] at hp
   split at hp
   · rename_i e e2 sz rows hh
     split at hp
     · rename_i r hr
       split at hp
       · rename_i hn
         cases hp
         simp only [rep, XX] at h
         have hc := (h.2.2 e e2 sz rows hh r hr).2 hn
         rw [hc]
         exact mrow_rep hM (H.heap id _ hh) hr (fun _ h => h) (hown id (by simp [qM]))
       · cases hp
     · cases hp
   · cases hp
 | .mptr _ _ _ _ _, u, c, _, h, hp => by simp [pur] at hp
 | .strct cs, u, c, hown, h, hp => by
   simp only [pur] at hp
   obtain ⟨us, hus, rfl⟩ := Option.map_eq_some_iff.1 hp
   simp only [rep] at h ⊢
   obtain ⟨arr, h1, h2, h3⟩ := h
   exact ⟨arr, h1, purs_rep H hM (by simpa only [qM] using hown) h2 hus, h3⟩
 | .ptr _ _, u, c, _, h, hp => by simp [pur] at hp
 | .eptr _ _ _ _, u, c, _, h, hp => by simp [pur] at hp
 | .sptr x off, u, c, _, h, hp => by simp only [pur] at hp; cases hp; exact qQ hM (X := NX) (fun _ _ h => h) (.sptr x off) c h
 | .nilptr, u, c, _, h, hp => by simp only [pur] at hp; cases hp; exact h
 | .fn f x y, u, c, hown, h, hp => by
   simp only [pur] at hp
   split at hp
   · rename_i x' y' hx hy
     cases hp
     simp only [rep] at h ⊢
     obtain ⟨a1, a2, h1, h2, h3⟩ := h
     simp only [qM, List.mem_append] at hown
     exact ⟨a1, a2, h1, purs_rep H hM (fun id hi => hown id (.inl hi)) h2 hx, purs_rep H hM (fun id hi => hown id (.inr hi)) h3 hy⟩
   · cases hp
 | .nilfn, u, c, _, h, hp => by simp only [pur] at hp; cases hp; exact h
 | .iface t x, u, c, hown, h, hp => by
   simp only [pur] at hp
   obtain ⟨x', hx, rfl⟩ := Option.map_eq_some_iff.1 hp
   simp only [rep] at h ⊢
   obtain ⟨y, h1, h2⟩ := h
   exact ⟨y, h1, pur_rep H hM (by simpa only [qM] using hown) h2 hx⟩
 | .niliface, u, c, _, h, hp => by simp only [pur] at hp; cases hp; exact h
 | .tup vs, u, c, hown, h, hp => by
   simp only [pur] at hp
   obtain ⟨us, hus, rfl⟩ := Option.map_eq_some_iff.1 hp
   simp only [rep] at h ⊢
   obtain ⟨arr, h1, h2⟩ := h
   exact ⟨arr, h1, purs_rep H hM (by simpa only [qM] using hown) h2 hus⟩
 | .junk, u, c, _, h, hp => by simp only [pur] at hp; cases hp; exact h
theorem purs_rep (H : Rel N M0 B w0 κ M σ a w) {M' : Mem} (hM : ∀ p v, M p = some v → M' p = some v) : ∀ {vs us : List V} {cs : List Value} (hown : ∀ id ∈ qE vs, ∀ g, κ.bl id g → ∀ p, p.block = g → M' p = w.cell? p), qA M (XX κ σ.h) vs cs → purs σ.h vs = some us → qA M' NX us cs
 | [], us, cs, _, h, hp => by simp only [purs] at hp; cases hp; exact h
 | v :: vs, us, cs, hown, h, hp => by
   simp only [purs] at hp
   split at hp
   · rename_i u us' hu hus
     cases hp
     simp only [qA] at h ⊢
     obtain ⟨c, cs', h1, h2, h3⟩ := h
     simp only [qE, List.mem_append] at hown
     exact ⟨c, cs', h1, pur_rep H hM (fun id hi => hown id (.inl hi)) h2 hu, purs_rep H hM (fun id hi => hown id (.inr hi)) h3 hus⟩
   · cases hp
end

mutual
theorem rep_flat {M M' : Mem} {X X' : V → Value → Prop} : ∀ {v : V} {c : Value}, flat v = true → rep M X v c → rep M' X' v c
 | .int _ _, _, _, h => h
 | .bool _, _, _, h => h
 | .str _, _, _, h => h
 | .nil _, _, _, h => h
 | .seq sz l, _, hf, h => by
   simp only [flat] at hf
   have : l = [] := by simpa using hf
   subst this
   simp only [rep] at h ⊢
   obtain ⟨a, cap, h1, h1', h2, h3, _⟩ := h
   exact ⟨a, cap, h1, h1', h2, h3, by simp⟩
 | .strct cs, c, hf, h => by
   simp only [flat] at hf
   simp only [rep] at h ⊢
   obtain ⟨arr, h1, h2, h3⟩ := h
   exact ⟨arr, h1, repAll_flat hf h2, h3⟩
 | .ref _ _, _, hf, _ => by simp [flat] at hf
 | .ptr _ _, _, hf, _ => by simp [flat] at hf
 | .eptr _ _ _ _, _, hf, _ => by simp [flat] at hf
 | .mref _ _ _, _, hf, _ => by simp [flat] at hf
 | .fseq _ _, _, hf, _ => by simp [flat] at hf
 | .mptr _ _ _ _ _, _, hf, _ => by simp [flat] at hf
 | .sptr _ _, _, hf, _ => by simp [flat] at hf
 | .nilptr, _, _, h => h
 | .fn f x y, c, hf, h => by
   simp only [flat, Bool.and_eq_true] at hf
   simp only [rep] at h ⊢
   obtain ⟨a1, a2, h1, h2, h3⟩ := h
   exact ⟨a1, a2, h1, repAll_flat hf.1 h2, repAll_flat hf.2 h3⟩
 | .nilfn, _, _, h => h
 | .iface t x, c, hf, h => by
   simp only [flat] at hf
   simp only [rep] at h ⊢
   obtain ⟨y, h1, h2⟩ := h
   exact ⟨y, h1, rep_flat hf h2⟩
 | .niliface, _, _, h => h
 | .tup vs, c, hf, h => by
   simp only [flat] at hf
   simp only [rep] at h ⊢
   obtain ⟨arr, h1, h2⟩ := h
   exact ⟨arr, h1, repAll_flat hf h2⟩
 | .junk, _, _, h => h
theorem repAll_flat {M M' : Mem} {X X' : V → Value → Prop} : ∀ {vs : List V} {cs : List Value}, flats vs = true → qA M X vs cs → qA M' X' vs cs
 | [], _, _, h => h
 | v :: vs, cs, hf, h => by
   simp only [flats, Bool.and_eq_true] at hf
   simp only [qA] at h ⊢
   obtain ⟨c, cs', h1, h2, h3⟩ := h
   exact ⟨c, cs', h1, rep_flat hf.1 h2, repAll_flat hf.2 h3⟩
end

mutual
theorem rep_ok {M : Mem} {X : V → Value → Prop} : ∀ {v : V} {c : Value}, rep M X v c → ok v
 | .int _ _, _, h => by simp only [rep] at h; exact h.2
 | .bool _, _, _ => trivial
 | .str _, _, h => by simp only [rep] at h; obtain ⟨_, _, _, h⟩ := h; exact h
 | .nil _, _, _ => trivial
 | .seq sz l, _, h => by
   simp only [rep] at h
   obtain ⟨a, cap, _, _, h2, _, h3⟩ := h
   simp only [ok]
   refine ⟨h2, ?_⟩
   rcases h3 with rfl | ⟨b, off, _, h4⟩
   · trivial
   · exact repMem_ok h4
 | .strct cs, c, h => by
   simp only [rep] at h
   obtain ⟨arr, _, h2, _⟩ := h
   simp only [ok]
   exact repAll_ok h2
 | .ref _ _, _, _ => trivial
 | .ptr _ _, _, _ => trivial
 | .eptr _ _ _ _, _, _ => trivial
 | .mref _ _ _, _, _ => trivial
 | .fseq _ _, _, _ => trivial
 | .mptr _ _ _ _ _, _, _ => trivial
 | .sptr x _, _, h => by
   simp only [rep] at h
   obtain ⟨_, _, y, _, h2, _⟩ := h
   simp only [ok]
   exact rep_ok h2
 | .nilptr, _, _ => trivial
 | .fn f x y, c, h => by
   simp only [rep] at h
   obtain ⟨a1, a2, h1, h2, h3⟩ := h
   exact ⟨repAll_ok h2, repAll_ok h3⟩
 | .nilfn, _, _ => trivial
 | .iface t x, c, h => by
   simp only [rep] at h
   obtain ⟨y, h1, h2⟩ := h
   simp only [ok]
   exact rep_ok h2
 | .niliface, _, _ => trivial
 | .tup vs, c, h => by
   simp only [rep] at h
   obtain ⟨arr, h1, h2⟩ := h
   simp only [ok]
   exact repAll_ok h2
 | .junk, _, _ => trivial
theorem repAll_ok {M : Mem} {X : V → Value → Prop} : ∀ {vs : List V} {cs : List Value}, qA M X vs cs → oks vs
 | [], _, _ => trivial
 | v :: vs, cs, h => by
   simp only [qA] at h
   obtain ⟨c, cs', h1, h2, h3⟩ := h
   exact ⟨rep_ok h2, repAll_ok h3⟩
theorem repMem_ok {M : Mem} : ∀ {sz : Nat} {l : List V} {b off : Nat}, jF M sz l b off → oks l
 | _, [], _, _, _ => trivial
 | sz, v :: vs, b, off, h => by
   simp only [jF] at h
   obtain ⟨⟨y, h1, _⟩, h2⟩ := h
   exact ⟨rep_ok h1, repMem_ok h2⟩
end

def blks (κ : Kap) (ids : List Nat) : Nat → Prop := fun g => ∃ id ∈ ids, κ.bl id g
theorem mem_blks {g : Nat} {ids : List Nat} : blks κ ids g ↔ ∃ id ∈ ids, κ.bl id g := Iff.rfl

theorem kill_h : ∀ (ids : List Nat) (σ : St), (σ.kill ids).r = σ.r ∧ (σ.kill ids).h.length = σ.h.length ∧ ∀ i ob, (σ.kill ids).h[i]? = some (some ob) → σ.h[i]? = some (some ob) ∧ i ∉ ids
 | [], σ => ⟨rfl, rfl, fun i ob h => ⟨h, by simp⟩⟩
 | id :: ids, σ => by
   simp only [St.kill]
   obtain ⟨h1, h2, h3⟩ := kill_h ids { σ with h := σ.h.set id none }
   refine ⟨h1, by simpa using h2, fun i ob h => ?_⟩
   obtain ⟨h4, h5⟩ := h3 i ob h
   simp only [List.getElem?_set] at h4
   split at h4
   · rename_i he
     split at h4 <;> cases h4
   · rename_i he
     exact ⟨h4, by simp; exact ⟨fun e => he e.symm, h5⟩⟩

theorem Rel.kill (H : Rel N M0 B w0 κ M σ a w) (ids : List Nat) (hin : ∀ id ∈ ids, ∃ ob, σ.h[id]? = some (some ob)) :
 Rel N M0 B w0 κ (ext M w (blks κ ids)) (σ.kill ids) a w ∧ (∀ p v, M p = some v → ext M w (blks κ ids) p = some v) := by
 obtain ⟨k1, k2, k3⟩ := kill_h ids σ
 have hM : ∀ p v, M p = some v → ext M w (blks κ ids) p = some v := by
  intro p v h
  unfold ext
  split
  · exact H.snd p v h
  · exact h
 have hs : ∀ p v, ext M w (blks κ ids) p = some v → w.cell? p = some v := by
  intro p v h
  unfold ext at h
  split at h
  · exact h
  · exact H.snd p v h
 have hX : ∀ v c, XX κ σ.h v c → XX κ (σ.kill ids).h v c := fun v c hx => XX_lt hx (by omega) (fun _ _ => rfl) (fun _ _ => rfl) (fun i ob hi h => (k3 i ob h).1)
 refine ⟨{ dfr := H.dfr, pin := H.pin, size := H.size, regs := ?_, heap := ?_, inj := ?_, snd := hs, sep := ?_, sub := ⟨fun p v h => hM p v (H.sub.sub p v h), fun p v h => hM p v (H.sub.fmS p v h), H.sub.fmN, H.sub.fbn, H.sub.gl⟩, new := ?_, base := H.base, blw := H.blw }, hM⟩
 · intro t v ht
   rw [k1] at ht
   obtain ⟨h1, c, h2, h3⟩ := H.regs t v ht
   exact ⟨h1, c, h2, qQ hM hX _ _ h3⟩
 · intro id ob h
   exact obAt_mono hM hX ⟨rfl, rfl, rfl⟩ (fun _ _ => rfl) (H.heap id ob (k3 id ob h).1)
 · intro i j oi oj g hi hj
   exact H.inj i j oi oj g (k3 i oi hi).1 (k3 j oj hj).1
 · intro p v hp id ob h
   obtain ⟨h1, h2⟩ := k3 id ob h
   unfold ext at hp
   split at hp
   · rename_i hm
     obtain ⟨id', h3, h4⟩ := mem_blks.1 hm
     obtain ⟨ob', h5⟩ := hin id' h3
     intro hg
     have := H.inj id' id ob' ob p.block h5 h1 h4 hg
     subst this
     exact h2 h3
   · exact H.sep p v hp id ob h1
 · intro p v hp
   unfold ext at hp
   split at hp
   · rename_i hm
     obtain ⟨id', h3, h4⟩ := mem_blks.1 hm
     obtain ⟨ob', h5⟩ := hin id' h3
     exact .inr (H.blk_lt h5 h4).1
   · exact H.new p v hp

mutual
theorem pur_in {h : List (Option Ob)} : ∀ {v u : V}, pur h v = some u → ∀ id ∈ qM v, ∃ ob, h[id]? = some (some ob)
 | .int _ _, _, _, _, hi => by simp [qM] at hi
 | .bool _, _, _, _, hi => by simp [qM] at hi
 | .str _, _, _, _, hi => by simp [qM] at hi
 | .nil _, _, _, _, hi => by simp [qM] at hi
 | .seq _ _, _, _, _, hi => by simp [qM] at hi
 | .sptr _ _, _, _, _, hi => by simp [qM] at hi
 | .nilptr, _, _, _, hi => by simp [qM] at hi
 | .nilfn, _, _, _, hi => by simp [qM] at hi
 | .niliface, _, _, _, hi => by simp [qM] at hi
 | .junk, _, _, _, hi => by simp [qM] at hi
 | .ref i n, u, hp, id, hi => by
   simp only [qM, List.mem_singleton] at hi
   subst hi
   simp only [pur, pur1] at hp
   split at hp
   · exact ⟨_, by assumption⟩
   · exact ⟨_, by assumption⟩
   · cases hp
 | .fseq _ _, _, _, _, hi => by simp [qM] at hi
 | .mref j i n, u, hp, id, hi => by
   simp only [qM, List.mem_singleton] at hi
   subst hi
   simp only [pur, pur2] at hp
   split at hp
   · exact ⟨_, by assumption⟩
   · cases hp
 | .mptr _ _ _ _ _, _, hp, _, _ => by simp [pur] at hp
 | .ptr _ _, _, hp, _, _ => by simp [pur] at hp
 | .eptr _ _ _ _, _, hp, _, _ => by simp [pur] at hp
 | .strct cs, u, hp, id, hi => by
   simp only [pur] at hp
   obtain ⟨us, hus, _⟩ := Option.map_eq_some_iff.1 hp
   exact purs_in hus id (by simpa only [qM] using hi)
 | .tup cs, u, hp, id, hi => by
   simp only [pur] at hp
   obtain ⟨us, hus, _⟩ := Option.map_eq_some_iff.1 hp
   exact purs_in hus id (by simpa only [qM] using hi)
 | .fn f x y, u, hp, id, hi => by
   simp only [pur] at hp
   split at hp
   · rename_i x' y' hx hy
     simp only [qM, List.mem_append] at hi
     rcases hi with hi | hi
     · exact purs_in hx id hi
     · exact purs_in hy id hi
   · cases hp
 | .iface t x, u, hp, id, hi => by
   simp only [pur] at hp
   obtain ⟨x', hx, _⟩ := Option.map_eq_some_iff.1 hp
   exact pur_in hx id (by simpa only [qM] using hi)
theorem purs_in {h : List (Option Ob)} : ∀ {vs us : List V}, purs h vs = some us → ∀ id ∈ qE vs, ∃ ob, h[id]? = some (some ob)
 | [], _, _, _, hi => by simp [qE] at hi
 | v :: vs, us, hp, id, hi => by
   simp only [purs] at hp
   split at hp
   · rename_i u us' hu hus
     simp only [qE, List.mem_append] at hi
     rcases hi with hi | hi
     · exact pur_in hu id hi
     · exact purs_in hus id hi
   · cases hp
end

def flatR : List (Option (List V)) → Bool
 | [] => true
 | some r :: l => flats r && flatR l
 | none :: _ => false
theorem flatR_at : ∀ {rows : List (Option (List V))} {i : Nat} {r : List V}, flatR rows = true → zC rows i = some r → flats r = true
 | [], i, r, _, h => by simp [zC] at h
 | some x :: rows, i, r, hf, h => by
   simp only [flatR, Bool.and_eq_true] at hf
   cases i with
   | zero => simp [zC] at h; rw [← h]; exact hf.1
   | succ i => exact flatR_at (i := i) hf.2 (by simpa [zC] using h)
 | none :: rows, i, r, hf, h => by simp [flatR] at hf
mutual
def fre (h : List (Option Ob)) : V → Bool
 | .ref id _ => match h[id]? with
   | some (some (.arr _ _ l)) => flats l
   | some (some (.mat _ _ _ rows)) => flatR rows
   | _ => false
 | .nil _ => true
 | .strct cs => fres h cs
 | .tup cs => fres h cs
 | .int _ _ => true
 | .bool _ => true
 | .str _ => true
 | .nilptr => true
 | .nilfn => true
 | .niliface => true
 | .seq _ l => l.isEmpty
 | .fseq _ _ => true
 | _ => false
def fres (h : List (Option Ob)) : List V → Bool
 | [] => true
 | v :: vs => fre h v && fres h vs
end
theorem repRow_flat {M M' : Mem} {sz : Nat} : ∀ {l : List V} {xs : List Value}, flats l = true → qJ M sz l xs → qJ M' sz l xs
 | [], _, _, h => h
 | v :: vs, xs, hf, h => by
   simp only [flats, Bool.and_eq_true] at hf
   simp only [qJ] at h ⊢
   obtain ⟨y, rest, h1, h2, h3, h4, h5⟩ := h
   exact ⟨y, rest, h1, rep_flat hf.1 h2, h3, h4, repRow_flat hf.2 h5⟩
mutual
theorem fre_rep (H : Rel N M0 B w0 κ M σ a w) {Mn : Mem} (hfm : ∀ p v, κ.fm p = some v → Mn p = some v) : ∀ {v u : V} {c : Value} (hown : ∀ id ∈ qM v, ∀ g, κ.bl id g → ∀ p, p.block = g → Mn p = w.cell? p), fre σ.h v = true → rep M (XX κ σ.h) v c → pur σ.h v = some u → rep Mn NX u c
 | .ref id n, u, c, hown, hf, h, hp => by
   simp only [pur, pur1] at hp
   split at hp
   · rename_i e sz l hh
     split at hp
     · rename_i hn
       cases hp
       simp only [fre, hh] at hf
       simp only [rep, XX] at h
       have hc := (h.2.2.1 e sz l hh).2 hn
       obtain ⟨h0, h1, xs, h2, h3, _, hbl⟩ := H.heap id _ hh
       rw [hc]
       exact row_rep (Mr := Mn) (fun _ _ h => h) h2 (repRow_flat hf h3) h0 h1 fun g hg => hown id (by simp [qM]) g ((hbl g).2 hg)
     · cases hp
   · rename_i e e2 sz rows hh
     split at hp
     · rename_i hn
       obtain ⟨vs, hvs, rfl⟩ := Option.map_eq_some_iff.1 hp
       simp only [fre, hh] at hf
       simp only [rep, XX] at h
       have hc := (h.2.2.2.1 e e2 sz rows hh).2 hn
       rw [hc]
       exact mat_rep (Mr := Mn) (fun _ _ h => h) (H.heap id _ hh) (fun i r xs hi h => repRow_flat (flatR_at hf hi) h) hvs (hown id (by simp [qM]))
     · cases hp
   · cases hp
 | .nil sz, u, c, _, _, h, hp => by
   simp only [pur] at hp; cases hp
   simp only [rep] at h ⊢
   exact ⟨none, 0, by simpa using h.1, by simp, by simp, h.2, by simp⟩
 | .strct cs, u, c, hown, hf, h, hp => by
   simp only [pur] at hp
   obtain ⟨us, hus, rfl⟩ := Option.map_eq_some_iff.1 hp
   simp only [rep] at h ⊢
   obtain ⟨arr, h1, h2, h3⟩ := h
   exact ⟨arr, h1, fres_rep H hfm (by simpa only [qM] using hown) (by simpa only [fre] using hf) h2 hus, h3⟩
 | .tup cs, u, c, hown, hf, h, hp => by
   simp only [pur] at hp
   obtain ⟨us, hus, rfl⟩ := Option.map_eq_some_iff.1 hp
   simp only [rep] at h ⊢
   obtain ⟨arr, h1, h2⟩ := h
   exact ⟨arr, h1, fres_rep H hfm (by simpa only [qM] using hown) (by simpa only [fre] using hf) h2 hus⟩
 | .int _ _, _, _, _, _, h, hp => by simp only [pur] at hp; cases hp; exact h
 | .bool _, _, _, _, _, h, hp => by simp only [pur] at hp; cases hp; exact h
 | .str _, _, _, _, _, h, hp => by simp only [pur] at hp; cases hp; exact h
 | .nilptr, _, _, _, _, h, hp => by simp only [pur] at hp; cases hp; exact h
 | .nilfn, _, _, _, _, h, hp => by simp only [pur] at hp; cases hp; exact h
 | .niliface, _, _, _, _, h, hp => by simp only [pur] at hp; cases hp; exact h
 | .seq sz l, _, _, _, hf, h, hp => by
   simp only [pur] at hp; cases hp
   exact rep_flat (v := .seq sz l) (by simpa only [flat, fre] using hf) h
 | .ptr _ _, _, _, _, hf, _, _ => by simp [fre] at hf
 | .eptr _ _ _ _, _, _, _, hf, _, _ => by simp [fre] at hf
 | .mref _ _ _, _, _, _, hf, _, _ => by simp [fre] at hf
 | .fseq sz l, _, c, _, _, h, hp => by
   simp only [pur] at hp; cases hp
   simp only [rep, XX] at h
   exact qQ hfm (X := NX) (fun _ _ h => h) (.seq sz l) c (by simp only [rep]; exact h.2)
 | .mptr _ _ _ _ _, _, _, _, hf, _, _ => by simp [fre] at hf
 | .sptr _ _, _, _, _, hf, _, _ => by simp [fre] at hf
 | .fn _ _ _, _, _, _, hf, _, _ => by simp [fre] at hf
 | .iface _ _, _, _, _, hf, _, _ => by simp [fre] at hf
 | .junk, _, _, _, hf, _, _ => by simp [fre] at hf
theorem fres_rep (H : Rel N M0 B w0 κ M σ a w) {Mn : Mem} (hfm : ∀ p v, κ.fm p = some v → Mn p = some v) : ∀ {vs us : List V} {cs : List Value} (hown : ∀ id ∈ qE vs, ∀ g, κ.bl id g → ∀ p, p.block = g → Mn p = w.cell? p), fres σ.h vs = true → qA M (XX κ σ.h) vs cs → purs σ.h vs = some us → qA Mn NX us cs
 | [], us, cs, _, _, h, hp => by simp only [purs] at hp; cases hp; exact h
 | v :: vs, us, cs, hown, hf, h, hp => by
   simp only [purs] at hp
   split at hp
   · rename_i u us' hu hus
     cases hp
     simp only [fres, Bool.and_eq_true] at hf
     simp only [qA] at h ⊢
     obtain ⟨c, cs', h1, h2, h3⟩ := h
     exact ⟨c, cs', h1, fre_rep H hfm (fun id hid => hown id (by simp only [qE, List.mem_append]; exact .inl hid)) hf.1 h2 hu, fres_rep H hfm (fun id hid => hown id (by simp only [qE, List.mem_append]; exact .inr hid)) hf.2 h3 hus⟩
   · cases hp
end
end
end Go.Abs
end
section
namespace Go.Abs
open Go.RowKit
section
variable {P : Program} {N : Nat} {M0 : Mem} {B : Bas} {w0 : World} {κ : Kap} {M : Mem} {σ : St} {a : Act} {w w' : World}
theorem uniq_nodup : ∀ (l acc : List Nat), acc.Nodup → (uniq acc l).Nodup
 | [], acc, h => h
 | k :: ks, acc, h => by
   simp only [uniq]
   split
   · exact uniq_nodup ks acc h
   · rename_i hk
     refine uniq_nodup ks _ ?_
     rw [List.nodup_append]
     exact ⟨h, by simp, fun x hx y hy => by simp at hy; subst hy; rintro rfl; exact hk (memb_iff.2 hx)⟩

theorem idx_some {id : Nat} : ∀ {m : List Nat} {j : Nat}, idx id m = some j → m[j]? = some id
 | [], j, h => by simp [idx] at h
 | k :: ks, j, h => by
   simp only [idx] at h
   split at h
   · rename_i he; cases h; simp [he]
   · obtain ⟨j', h1, rfl⟩ := Option.map_eq_some_iff.1 h
     simpa using idx_some h1

theorem lk_renR {m : List Nat} : ∀ {r : List (Nat × V)} {t : Nat} {v : V}, lk (renR m r) t = some v → ∃ u, lk r t = some u ∧ v = ren m u
 | [], t, v, h => by simp [renR, lk] at h
 | (k, u) :: r, t, v, h => by
   simp only [renR, lk] at h ⊢
   split at h
   · rename_i he; rw [if_pos he]; cases h; exact ⟨u, rfl, rfl⟩
   · rename_i he; rw [if_neg he]; exact lk_renR h

theorem renH_get {h : List (Option Ob)} {m : List Nat} : ∀ {ids : List Nat} {j : Nat} {ob : Ob}, (renH h m ids)[j]? = some (some ob) → ∃ id ob', ids[j]? = some id ∧ h[id]? = some (some ob') ∧ renO m (some ob') = some ob
 | [], j, ob, hj => by simp [renH] at hj
 | id :: ids, 0, ob, hj => by
   simp only [renH, List.getElem?_cons_zero, Option.some.injEq] at hj
   cases hg : h[id]? with
   | none => simp [List.getD, hg, renO] at hj
   | some o =>
     cases o with
     | none => simp [List.getD, hg, renO] at hj
     | some ob' => exact ⟨id, ob', by simp, hg, by simpa [List.getD, hg] using hj⟩
 | id :: ids, j + 1, ob, hj => by
   simp only [renH, List.getElem?_cons_succ] at hj ⊢
   exact renH_get hj
theorem renH_length {h : List (Option Ob)} {m : List Nat} : ∀ {ids : List Nat}, (renH h m ids).length = ids.length
 | [] => rfl
 | id :: ids => by simp [renH, renH_length]

mutual
theorem ren_rep {m : List Nat} {X X' : V → Value → Prop} (hX : ∀ v c, X v c → rep M X' (ren m v) c) : ∀ {v : V} {c : Value}, rep M X v c → rep M X' (ren m v) c
 | .int _ _, _, h => h
 | .bool _, _, h => h
 | .str _, _, h => h
 | .nil _, _, h => h
 | .seq _ _, _, h => h
 | .sptr _ _, _, h => h
 | .nilptr, _, h => h
 | .nilfn, _, h => h
 | .niliface, _, h => h
 | .junk, _, h => h
 | .ref _ _, _, h => hX _ _ h
 | .ptr _ _, _, h => hX _ _ h
 | .eptr _ _ _ _, _, h => hX _ _ h
 | .mref _ _ _, _, h => hX _ _ h
 | .fseq _ _, _, h => hX _ _ h
 | .mptr _ _ _ _ _, _, h => hX _ _ h
 | .strct cs, c, h => by
   simp only [rep, ren] at h ⊢
   obtain ⟨arr, h1, h2, h3⟩ := h
   exact ⟨arr, h1, rens_rep hX h2, h3⟩
 | .tup cs, c, h => by
   simp only [rep, ren] at h ⊢
   obtain ⟨arr, h1, h2⟩ := h
   exact ⟨arr, h1, rens_rep hX h2⟩
 | .fn f x y, c, h => by
   simp only [rep, ren] at h ⊢
   obtain ⟨a1, a2, h1, h2, h3⟩ := h
   exact ⟨a1, a2, h1, rens_rep hX h2, rens_rep hX h3⟩
 | .iface t x, c, h => by
   simp only [rep, ren] at h ⊢
   obtain ⟨y, h1, h2⟩ := h
   exact ⟨y, h1, ren_rep hX h2⟩
theorem rens_rep {m : List Nat} {X X' : V → Value → Prop} (hX : ∀ v c, X v c → rep M X' (ren m v) c) : ∀ {vs : List V} {cs : List Value}, qA M X vs cs → qA M X' (rens m vs) cs
 | [], _, h => h
 | v :: vs, cs, h => by
   simp only [qA, rens] at h ⊢
   obtain ⟨c, cs', h1, h2, h3⟩ := h
   exact ⟨c, cs', h1, ren_rep hX h2, rens_rep hX h3⟩
end

def Kap.ren (κ : Kap) (m : List Nat) : Kap := ⟨fun j => κ (m.getD j 0), fun j => κ.row (m.getD j 0), fun j => κ.bl (m.getD j 0), κ.fm⟩
theorem renO_arr {m : List Nat} {o : Ob} {e sz : Nat} {l : List V} (h : renO m (some o) = some (.arr e sz l)) : o = .arr e sz l := by
 cases o <;> simp only [renO, Option.some.injEq] at h <;> first | exact h | cases h
theorem renO_mat {m : List Nat} {o : Ob} {e e2 sz : Nat} {l : List (Option (List V))} (h : renO m (some o) = some (.mat e e2 sz l)) : o = .mat e e2 sz l := by
 cases o <;> simp only [renO, Option.some.injEq] at h <;> first | exact h | cases h
theorem renO_box {m : List Nat} {o : Ob} {l : List V} (h : renO m (some o) = some (.box l)) : ∃ l', o = .box l' ∧ l = rens m l' := by
 cases o <;> simp only [renO, Option.some.injEq] at h
 · cases h; exact ⟨_, rfl, rfl⟩
 · cases h
 · cases h
 · cases h
theorem renO_mp {m : List Nat} {o : Ob} {kt : KT} {l : List (V × V)} (h : renO m (some o) = some (.mp kt l)) : o = .mp kt l := by
 cases o <;> simp only [renO, Option.some.injEq] at h <;> first | exact h | cases h
theorem XX_ren {h : List (Option Ob)} {m : List Nat} (hm : m.Nodup) : ∀ v c, XX κ h v c → rep M (XX (κ.ren m) (renH h m m)) (ren m v) c := by
 intro v c hx
 have key : ∀ {id j : Nat}, m[j]? = some id → (κ.ren m) j = κ id ∧ (κ.ren m).row j = κ.row id := fun {id j} h => by simp [Kap.ren, List.getD, h]
 have back : ∀ {id j : Nat} {ob : Ob}, m[j]? = some id → (renH h m m)[j]? = some (some ob) → ∃ ob', h[id]? = some (some ob') ∧ renO m (some ob') = some ob := by
  intro id j ob hj hl
  obtain ⟨id', ob', h1, h2, h3⟩ := renH_get hl
  rw [hj] at h1
  cases h1
  exact ⟨ob', h2, h3⟩
 cases v <;> simp only [XX] at hx
 case ref id n =>
  simp only [ren]
  split
  · rename_i j hj
    have hmj := idx_some hj
    simp only [rep, XX]
    rw [(key hmj).1]
    refine ⟨hx.1, by rw [renH_length]; exact (List.getElem?_eq_some_iff.1 hmj).1, fun e sz l hl => ?_, fun e e2 sz l hl => ?_, fun kt l hl => ?_⟩
    · obtain ⟨ob', h2, h3⟩ := back hmj hl
      rw [renO_arr h3] at h2
      exact hx.2.2.1 e sz l h2
    · obtain ⟨ob', h2, h3⟩ := back hmj hl
      rw [renO_mat h3] at h2
      exact hx.2.2.2.1 e e2 sz l h2
    · obtain ⟨ob', h2, h3⟩ := back hmj hl
      rw [renO_mp h3] at h2
      exact hx.2.2.2.2 kt l h2
  · exact hx.1
 case ptr id off =>
  simp only [ren]
  split
  · rename_i j hj
    have hmj := idx_some hj
    simp only [rep, XX]
    rw [(key hmj).1]
    refine ⟨hx.1, by rw [renH_length]; exact (List.getElem?_eq_some_iff.1 hmj).1, fun cs hl => ?_⟩
    obtain ⟨ob', h2, h3⟩ := back hmj hl
    obtain ⟨l', rfl, rfl⟩ := renO_box h3
    exact hx.2.2 _ h2
  · exact hx.1
 case eptr id n i off =>
  simp only [ren]
  split
  · rename_i j hj
    have hmj := idx_some hj
    simp only [rep, XX]
    rw [(key hmj).1]
    refine ⟨hx.1, by rw [renH_length]; exact (List.getElem?_eq_some_iff.1 hmj).1, fun e sz l hl => ?_, fun e e2 sz l hl => ?_⟩
    · obtain ⟨ob', h2, h3⟩ := back hmj hl
      rw [renO_arr h3] at h2
      exact hx.2.2.1 e sz l h2
    · obtain ⟨ob', h2, h3⟩ := back hmj hl
      rw [renO_mat h3] at h2
      exact hx.2.2.2 e e2 sz l h2
  · exact hx.1
 case fseq sz l =>
  simp only [ren, rep, XX]; exact hx
 case mref id i n =>
  simp only [ren]
  split
  · rename_i j hj
    have hmj := idx_some hj
    simp only [rep, XX]
    rw [(key hmj).2]
    refine ⟨hx.1, by rw [renH_length]; exact (List.getElem?_eq_some_iff.1 hmj).1, fun e e2 sz l hl => ?_⟩
    obtain ⟨ob', h2, h3⟩ := back hmj hl
    rw [renO_mat h3] at h2
    exact hx.2.2 e e2 sz l h2
  · exact hx.1
 case mptr id i n k off =>
  simp only [ren]
  split
  · rename_i j hj
    have hmj := idx_some hj
    simp only [rep, XX]
    rw [(key hmj).2]
    refine ⟨hx.1, by rw [renH_length]; exact (List.getElem?_eq_some_iff.1 hmj).1, fun e e2 sz l hl => ?_⟩
    obtain ⟨ob', h2, h3⟩ := back hmj hl
    rw [renO_mat h3] at h2
    exact hx.2.2 e e2 sz l h2
  · exact hx.1

theorem Rel.ren (H : Rel N M0 B w0 κ M σ a w) {m : List Nat} (hm : m.Nodup) (r : List (Nat × V)) (hr : ∀ t v, lk r t = some v → lk σ.r t = some v) :
 Rel N M0 B w0 (κ.ren m) M { r := renR m r, h := renH σ.h m m } a w where
 dfr := H.dfr
 pin := H.pin
 size := H.size
 regs := fun t v ht => by
  obtain ⟨u, h1, rfl⟩ := lk_renR ht
  obtain ⟨g1, c, g2, g3⟩ := H.regs t u (hr t u h1)
  exact ⟨g1, c, g2, ren_rep (XX_ren hm) g3⟩
 heap := fun j ob hj => by
  obtain ⟨id, ob', h1, h2, h3⟩ := renH_get hj
  have ho := H.heap id ob' h2
  have hk : (κ.ren m) j = κ id ∧ (κ.ren m).row j = κ.row id ∧ (κ.ren m).bl j = κ.bl id := by simp [Kap.ren, List.getD, h1]
  cases ob' with
  | box cs =>
    simp only [renO, Option.some.injEq] at h3
    subst h3
    simp only [zU] at ho ⊢
    rw [hk.1, hk.2.2]
    obtain ⟨b, arr, T, g1, g2, g3, g4, g5⟩ := ho
    exact ⟨b, arr, T, g1, g2, g3, rens_rep (XX_ren hm) g4, g5⟩
  | arr e sz l =>
    simp only [renO, Option.some.injEq] at h3
    subst h3
    simp only [zU] at ho ⊢
    rw [hk.1, hk.2.2]
    exact ho
  | mat e e2 sz l =>
    simp only [renO, Option.some.injEq] at h3
    subst h3
    simp only [zU] at ho ⊢
    rw [hk.1, hk.2.1, hk.2.2]
    exact ho
  | mp kt l =>
    simp only [renO, Option.some.injEq] at h3
    subst h3
    simp only [zU] at ho ⊢
    rw [hk.1, hk.2.2]
    exact ho
 inj := fun i j oi oj g hi hj gi gj => by
  obtain ⟨i', oi', h1, h2, _⟩ := renH_get hi
  obtain ⟨j', oj', h3, h4, _⟩ := renH_get hj
  have e1 : (κ.ren m).bl i = κ.bl i' := by simp [Kap.ren, List.getD, h1]
  have e2 : (κ.ren m).bl j = κ.bl j' := by simp [Kap.ren, List.getD, h3]
  rw [e1] at gi
  rw [e2] at gj
  have := H.inj i' j' oi' oj' g h2 h4 gi gj
  subst this
  exact (List.getElem?_inj (List.getElem?_eq_some_iff.1 h1).1 hm).1 (h1.trans h3.symm)
 snd := H.snd
 sep := fun p v hp j ob hj => by
  obtain ⟨id, ob', h1, h2, _⟩ := renH_get hj
  have e1 : (κ.ren m).bl j = κ.bl id := by simp [Kap.ren, List.getD, h1]
  rw [e1]
  exact H.sep p v hp id ob' h2
 sub := H.sub
 new := H.new
 base := H.base
 blw := H.blw

end
end Go.Abs
end
