/-
  From the model's operations to those of the abstract machine: each operation that turns nothing gives what its image gives. No condition.
-/
import Derived.Test.YtpblinccnkidfaaDoorAbs4b
set_option linter.unusedVariables false
set_option linter.unusedSimpArgs false
namespace Go.Abs
open Go.RowKit

def cOo (P : Program) (t : TypeId) : Option Operand → Option (Option AO)
  | none => some none
  | some x => (cO P t x).map some

/-- The places of a struct's fields. -/
def placeOf (P : Program) (t : TypeId) (i : Nat) : Option (Nat × Nat × TypeId) :=
  match P.underlying t with
  | some (.struct fs) => match fs[i]? with
    | some f => match szOf P f.type with
      | some n => some (f.offset, n, f.type)
      | none => none
    | none => none
  | some (.array m e) => match szOf P e with
    | some n => if i < m then some (i * n, n, e) else none
    | none => none
  | _ => none
def cParts (P : Program) (t : TypeId) : List (Nat × Operand) → Option (List (Nat × Nat × AO))
  | [] => some []
  | (i, x) :: ps => match placeOf P t i with
    | some (off, n, ft) => match cO P ft x, cParts P t ps with
      | some y, some qs => some ((off, n, y) :: qs)
      | _, _ => none
    | none => none

/-- Of which kind is a comparison with nil? -/
def nilK (P : Program) (t : TypeId) (c : Value) : Option Nat := match P.underlying t, c with
  | some (.pointer _), .pointer none => some 0
  | some (.interface _), .nilIface => some 1
  | some (.func _ _ _), .nilFunc => some 2
  | _, _ => none
/-- An operation that turns nothing, and its image. -/
inductive LV (P : Program) : TypeId → Op → Act' → Prop
  | move {ty x y} : cO P ty x = some y → LV P ty (.move x) (.mov y)
  | assign {ty x y} : cO P ty x = some y → LV P ty (.assign x) (.mov y)
  | pick {ty c a b c' a' b'} : cO P ty c = some c' → cO P ty a = some a' → cO P ty b = some b' → LV P ty (.pick c a b) (.pick c' a' b')
  | field {ty t x i y fs f n g} : cO P t x = some y → P.underlying t = some (.struct fs) → fs[i]? = some f → szOf P f.type = some n → aggOf P f.type = some g → (g = false → n = 1) → LV P ty (.field t x i) (.fld y f.offset n g)
  | fieldAddr {ty t x i y fs f n} : cO P 0 x = some y → P.underlying t = some (.struct fs) → fs[i]? = some f → szOf P f.type = some n → n ≠ 0 → LV P ty (.fieldAddr t x i) (.fa y f.offset)
  | indexAddr {ty t x i y j e n} : cO P t x = some y → cO P 0 i = some j → P.underlying t = some (.slice e) → szOf P e = some n → LV P ty (.indexAddr t x i) (.ia y j n)
  | indexAddrA {ty t x i y j e m n} : cO P 0 x = some y → cO P 0 i = some j → P.underlying t = some (.array m e) → szOf P e = some n → LV P ty (.indexAddr t x i) (.iaa y j m n)
  | load {ty t x y n g} : cO P 0 x = some y → szOf P t = some n → aggOf P t = some g → (g = false → n = 1) → LV P ty (.load t x) (.ld y n g)
  | indexS {ty t x i y j} : cO P t x = some y → cO P 0 i = some j → P.underlying t = some .string → LV P ty (.index t x i) (.ixs y j)
  | indexA {ty t x i y j m e n g} : cO P t x = some y → cO P 0 i = some j → P.underlying t = some (.array m e) → szOf P e = some n → aggOf P e = some g → (g = false → n = 1) → LV P ty (.index t x i) (.ixa y j m n g)
  | bin {ty op xt x y yt u v} : cO P xt x = some u → cO P yt y = some v → LV P ty (.binOp op xt x y yt) (.bin op u v)
  | beq {ty xt x y yt u v} : P.underlying xt = some .bool → cO P xt x = some u → cO P yt y = some v → LV P ty (.binOp .eql xt x y yt) (.beq false u v)
  | bne {ty xt x y yt u v} : P.underlying xt = some .bool → cO P xt x = some u → cO P yt y = some v → LV P ty (.binOp .neq xt x y yt) (.beq true u v)
  | un {ty op t x u} : cO P t x = some u → LV P ty (.unOp op t x) (.un op u)
  | cii {ty s d x u k ds} : cO P s x = some u → P.underlying d = some (.int k) → P.underlying s = some ds → LV P ty (.convert s d x) (.cii k u)
  | sls {ty t x lo hi u lo' hi'} : cO P t x = some u → cOo P 0 lo = some lo' → cOo P 0 hi = some hi' → P.underlying t = some .string → LV P ty (.slice t x lo hi none) (.sls u lo' hi')
  | slq {ty t x lo hi u lo' hi' e n} : cO P t x = some u → cOo P 0 lo = some lo' → cOo P 0 hi = some hi' → P.underlying t = some (.slice e) → szOf P e = some n → LV P ty (.slice t x lo hi none) (.slq u lo' hi' n)
  | lens {ty t x u} : cO P t x = some u → P.underlying t = some .string → LV P ty (.call { callee := .builtin .len, args := #[x], argTypes := #[t] }) (.lens u)
  | lenq {ty t x u e} : cO P t x = some u → P.underlying t = some (.slice e) → LV P ty (.call { callee := .builtin .len, args := #[x], argTypes := #[t] }) (.lenq u)
  | mmx {ty x y t t' u v} : cO P t x = some u → cO P t' y = some v → LV P ty (.call { callee := .builtin .max, args := #[x, y], argTypes := #[t, t'] }) (.mm true u v)
  | mmn {ty x y t t' u v} : cO P t x = some u → cO P t' y = some v → LV P ty (.call { callee := .builtin .min, args := #[x, y], argTypes := #[t, t'] }) (.mm false u v)
  | nlq {ty t x yt u neg op k c} : nilK P t c = some k → ((op = .eql ∧ neg = false) ∨ (op = .neq ∧ neg = true)) → cO P t x = some u → LV P ty (.binOp op t x (.const c) yt) (.nlq k neg u)
  | ext {ty x i u} : cO P 0 x = some u → LV P ty (.extract x i) (.ext u i)
  | bld {ty t parts z zc zs ps i z'} : P.built t [] = some z' → P.info? t = some i → i.zero = some (.agg z) → flatT P 20 t = some zc → cSs P zc z.toList = some zs → cParts P t parts.toList = some ps → LV P ty (.build t parts) (.bld zs ps)
  | mkf {ty f a b a' b'} : cOs P (List.replicate a.size 0) a.toList = some a' → cOs P (List.replicate b.size 0) b.toList = some b' → LV P ty (.makeFunc f a b) (.mkf f a' b')
  | nlc {ty x u} : cO P 0 x = some u → LV P ty (.nilCheck x) (.nlc u)
  | mki {ty t x u ds} : cO P t x = some u → P.underlying t = some ds → (∀ ms, ds ≠ .interface ms) → LV P ty (.makeInterface t x) (.mki t u)
  | aeq {ty t x y yt u v kt} : ktT P t = some kt → kt.agg = true → cO P t x = some u → cO P yt y = some v → LV P ty (.binOp .eql t x y yt) (.aeq false kt u v)
  | ane {ty t x y yt u v kt} : ktT P t = some kt → kt.agg = true → cO P t x = some u → cO P yt y = some v → LV P ty (.binOp .neq t x y yt) (.aeq true kt u v)
  | lkp {ty t K E x k u v kt i z zv okk} : P.underlying t = some (.map K E) → ktT P K = some kt → cO P t x = some u → cO P K k = some v → P.info? E = some i → i.zero = some z → cV P E z = some zv → LV P ty (.lookup t x k okk) (.lkp kt zv okk u v)

section
variable {P : Program} {N : Nat} {M0 : Mem} {B : Bas} {w0 : World} {κ : Kap} {M : Mem} {σ : St} {a : Act} {w : World}

theorem run_sizeOf {t : TypeId} {n : Nat} (h : szOf P t = some n) (w : World) : (sizeOf t).run P w = .ok n w := by
  unfold szOf at h
  obtain ⟨i, hi, rfl⟩ := Option.map_eq_some_iff.1 h
  simp [sizeOf, typeInfo, hi]
theorem run_isAgg {t : TypeId} {g : Bool} (h : aggOf P t = some g) (w : World) : (isAgg t).run P w = .ok g w := by
  unfold aggOf at h
  obtain ⟨d, hd, rfl⟩ := Option.map_eq_some_iff.1 h
  unfold isAgg
  rw [Sem.run_bind, run_underlying hd w, Result.andThen_ok]
  cases d <;> rfl

theorem run_part {t : TypeId} {cs : Array Value} {off n : Nat} {g : Bool} (hs : szOf P t = some n) (hg : aggOf P t = some g) (h1 : g = false → n = 1) {X : V → Value → Prop} {vs us : List V} {v : V}
    (hr : repAll M X vs cs.toList) (hc : ∀ u ∈ cs.toList, isCell u) (hcut : cut vs off n = some us) (hm : mkc g us = some v) (w : World) : ∃ c, (part t cs off).run P w = .ok c w ∧ rep M X v c := by
  obtain ⟨k1, k2, k3, k4⟩ := cut_rep hcut hr hc
  have hk := mkc_rep hm k2 k3
  rcases hk with ⟨rfl, hk⟩ | ⟨rfl, c, hk1, hk2⟩
  · refine ⟨_, ?_, hk⟩
    simp only [part, Sem.run_bind, run_isAgg hg, run_sizeOf hs, Result.andThen_ok, if_true, Sem.run_pure]
    congr 2
    apply Array.ext'
    simp [List.take_drop]
  · have hn := h1 rfl
    subst hn
    refine ⟨c, ?_, hk2⟩
    have : cs[off]? = some c := by
      have : ((cs.toList.drop off).take 1)[0]? = some c := by rw [hk1]; rfl
      simpa [List.getElem?_take, List.getElem?_drop] using this
    simp only [part, Sem.run_bind, run_isAgg hg, Result.andThen_ok, Bool.false_eq_true, if_false, this, Sem.run_pure]

theorem Rel.opo (H : Rel N M0 B w0 κ M σ a w) {t : TypeId} {o : Option Operand} {x : Option AO} (hc : cOo P t o = some x) {d v : V} (hv : σ.evo d x = some v) {c : Value} (hd : rep M (XX κ σ.h) d c) :
    rep M (XX κ σ.h) v ((o.map a.eval).getD c) := by
  cases o with
  | none => simp only [cOo, Option.some.injEq] at hc; subst hc; simp only [St.evo, Option.some.injEq] at hv; subst hv; exact hd
  | some o =>
    simp only [cOo] at hc
    obtain ⟨y, hy, rfl⟩ := Option.map_eq_some_iff.1 hc
    exact H.op hy hv

theorem foldl_splice (off : Nat) : ∀ (l : List Value) (k : Nat) (ds : Array Value), off + k + l.length ≤ ds.size →
    ((l.zipIdx k).foldl (fun cs (x : Value × Nat) => cs.setIfInBounds (off + x.2) x.1) ds).toList = ds.toList.take (off + k) ++ l ++ ds.toList.drop (off + k + l.length)
  | [], k, ds, h => by simp
  | v :: l, k, ds, h => by
    simp only [List.length_cons] at h
    simp only [List.zipIdx_cons, List.foldl_cons]
    rw [foldl_splice off l (k + 1) _ (by simp; omega)]
    simp only [Array.toList_setIfInBounds]
    have e1 : (ds.toList.set (off + k) v).take (off + (k + 1)) = ds.toList.take (off + k) ++ [v] := by
      rw [← Nat.add_assoc, List.take_add_one, List.take_set_of_le (by omega)]
      simp [List.getElem?_set]
      omega
    have e2 : (ds.toList.set (off + k) v).drop (off + (k + 1) + l.length) = ds.toList.drop (off + k + (v :: l).length) := by
      rw [List.drop_set_of_lt (by omega)]
      congr 1
      simp; omega
    rw [e1, e2]
    simp
theorem foldl_splice' (off : Nat) (l ds : Array Value) (h : off + l.size ≤ ds.size) :
    l.zipIdx.foldl (fun cs (x : Value × Nat) => cs.setIfInBounds (off + x.2) x.1) ds = (ds.toList.take off ++ l.toList ++ ds.toList.drop (off + l.toList.length)).toArray := by
  rw [← Array.foldl_toList, Array.toList_zipIdx]
  apply Array.ext'
  have := foldl_splice off l.toList 0 ds (by simpa using h)
  simpa using this

theorem nt_spec {v : V} (h : nt v = true) : ∀ vs, v ≠ .tup vs := by rintro vs rfl; simp [nt] at h

theorem fill_sound {t : TypeId} {place : Nat → Option (Nat × Nat)} (hpl : ∀ i off n ft, placeOf P t i = some (off, n, ft) → place i = some (off, n)) (H : Rel N M0 B w0 κ M σ a w) :
    ∀ {parts : List (Nat × Operand)} {ps : List (Nat × Nat × AO)}, cParts P t parts = some ps → ∀ {cs us : List V} {ds : Array Value}, bldV σ cs ps = some us → repAll M (XX κ σ.h) cs ds.toList → (∀ u ∈ ds.toList, isCell u) →
    ∃ es : Array Value, Instr.fill place ds (parts.map fun x => (x.1, a.eval x.2)) = some es ∧ repAll M (XX κ σ.h) us es.toList ∧ ∀ u ∈ es.toList, isCell u
  | [], ps, h, cs, us, ds, hb, hr, hc => by
    simp only [cParts, Option.some.injEq] at h
    subst h
    simp only [bldV, Option.some.injEq] at hb
    subst hb
    exact ⟨ds, rfl, hr, hc⟩
  | (i, x) :: parts, ps, h, cs, us, ds, hb, hr, hc => by
    simp only [cParts] at h
    split at h
    · rename_i off n ft hp
      split at h
      · rename_i y qs hy hqs
        cases h
        simp only [bldV] at hb
        split at hb
        · rename_i v hv
          split at hb
          · rename_i hn
            split at hb
            · rename_i cs' hcs'
              have hrv := H.op hy hv
              have hk := rep_cellsC hrv XX_cell (nt_spec hn.2)
              have hsp := splice_rep hcs' hr hk.1
              have hlen : (a.eval x).cells.size = n := by
                have := repAll_length hk.1
                simp at this; omega
              have hle : off + (a.eval x).cells.size ≤ ds.size := by simpa using hsp.1
              obtain ⟨es, h1, h2, h3⟩ := fill_sound hpl H hqs hb (ds := (ds.toList.take off ++ (a.eval x).cells.toList ++ ds.toList.drop (off + (a.eval x).cells.toList.length)).toArray) (by simpa using hsp.2) (by
                intro u hu
                simp only [List.mem_append] at hu
                rcases hu with (hu | hu) | hu
                · exact hc u (List.mem_of_mem_take hu)
                · exact hk.2 u hu
                · exact hc u (List.mem_of_mem_drop hu))
              refine ⟨es, ?_, h2, h3⟩
              simp only [List.map_cons, Instr.fill, hpl i off n ft hp]
              have hno : ¬ ((a.eval x).cells.size ≠ n || off + (a.eval x).cells.size > ds.size) = true := by
                simp; omega
              rw [if_neg hno]
              have := foldl_splice' off (a.eval x).cells ds hle
              rw [← this] at h1
              exact h1
            · cases hb
          · cases hb
        · cases hb
      · cases h
    · cases h

theorem live_addr (H : Rel N M0 B w0 κ M σ a w) {v : V} {c : Value} (hv : rep M (XX κ σ.h) v c) (hl : σ.live v = true) {k : Nat} {u : V} (hf : St.fwd k v = some u) :
    ∃ b o, c = .pointer (some ⟨b, o, none⟩) ∧ rep M (XX κ σ.h) u (.pointer (some ⟨b, o + k, none⟩)) := by
  cases v <;> simp only [St.fwd] at hf <;> try (cases hf; done)
  case ptr id off =>
    cases hf
    simp only [St.live] at hl
    obtain ⟨cs, hcs⟩ := Option.isSome_iff_exists.1 hl
    have hb := box?_eq hcs
    simp only [rep, XX] at hv ⊢
    obtain ⟨b, g1, g2⟩ := hv.2.2 cs hb
    refine ⟨b, off, g2, rfl, hv.2.1, fun cs' _ => ⟨b, g1, rfl⟩⟩
  case eptr id n i off =>
    cases hf
    simp only [St.live] at hl
    split at hl
    · rename_i e sz l hal
      have ha := arr?_eq hal
      simp only at ha
      simp at hl
      simp only [rep, XX] at hv ⊢
      obtain ⟨b, cap, g1, g2⟩ := (hv.2.2.1 e sz l ha).2 hl.1 hl.2
      refine ⟨b, i * sz + off, g2, rfl, hv.2.1, fun e' sz' l' hl' => ?_, fun e' e2' sz' rows' hl' => ?_⟩
      · rw [ha] at hl'
        cases hl'
        exact ⟨(hv.2.2.1 e sz l ha).1, fun hn hi => ⟨b, cap, g1, by rw [Nat.add_assoc]⟩⟩
      · rw [ha] at hl'; cases hl'
    · cases hl
  case mptr id i n j off =>
    cases hf
    simp only [St.live] at hl
    split at hl
    · rename_i e e2 sz rows hal
      have ha := rws?_eq hal
      simp only at ha
      split at hl
      · rename_i r hrow
        simp at hl
        simp only [rep, XX] at hv ⊢
        obtain ⟨b, cap, g1, g2⟩ := (hv.2.2 e e2 sz rows ha r hrow).2 hl.1 hl.2
        refine ⟨b, j * sz + off, g2, rfl, hv.2.1, fun e' e2' sz' rows' hl' r' hr' => ?_⟩
        rw [ha] at hl'
        cases hl'
        rw [hrow] at hr'
        cases hr'
        exact ⟨(hv.2.2 e e2 sz rows ha r hrow).1, fun hn hi => ⟨b, cap, g1, by rw [Nat.add_assoc]⟩⟩
      · cases hl
    · cases hl
  case sptr y off =>
    cases hf
    simp only [rep] at hv ⊢
    obtain ⟨b, o, z, rfl, h2, h3, h4⟩ := hv
    exact ⟨b, o + off, rfl, b, o, z, by rw [Nat.add_assoc], h2, h3, h4⟩

theorem live_nil (H : Rel N M0 B w0 κ M σ a w) {v : V} {c : Value} (hv : rep M (XX κ σ.h) v c) (hl : σ.live v = true) : (∃ p, c = .pointer (some p)) ∨ ∃ f x y, c = .func (.func f) x y := by
  cases v <;> simp only [St.live] at hl <;> try (cases hl; done)
  case ptr id off => obtain ⟨b, o, h, _⟩ := live_addr H hv (by simpa only [St.live] using hl) (k := 0) rfl; exact .inl ⟨_, h⟩
  case eptr id n i off => obtain ⟨b, o, h, _⟩ := live_addr H hv (by simpa only [St.live] using hl) (k := 0) rfl; exact .inl ⟨_, h⟩
  case mptr id i n j off => obtain ⟨b, o, h, _⟩ := live_addr H hv (by simpa only [St.live] using hl) (k := 0) rfl; exact .inl ⟨_, h⟩
  case sptr y off => obtain ⟨b, o, h, _⟩ := live_addr H hv rfl (k := 0) rfl; exact .inl ⟨_, h⟩
  case fn f x y =>
    cases f with
    | func f => simp only [rep] at hv; obtain ⟨a1, a2, h, _⟩ := hv; exact .inr ⟨f, a1, a2, h⟩
    | _ => cases hl

theorem repMem_drop {sz : Nat} : ∀ {l : List V} {b off : Nat} (n : Nat), repMem M sz l b off → repMem M sz (l.drop n) b (off + n * sz)
  | l, b, off, 0, h => by simpa using h
  | [], b, off, n + 1, h => by simp [repMem]
  | v :: vs, b, off, n + 1, h => by
    simp only [repMem] at h
    have := repMem_drop n h.2
    simp only [List.drop_succ_cons]
    rw [show off + (n + 1) * sz = off + sz + n * sz by simp [Nat.add_mul]; omega]
    exact this
theorem repMem_take {sz : Nat} : ∀ {l : List V} {b off : Nat} (n : Nat), repMem M sz l b off → repMem M sz (l.take n) b off
  | l, b, off, 0, h => by simp [repMem]
  | [], b, off, n + 1, h => by simp [repMem]
  | v :: vs, b, off, n + 1, h => by
    simp only [repMem] at h
    simp only [List.take_succ_cons, repMem]
    exact ⟨h.1, repMem_take n h.2⟩

theorem run_bound {k : IntKind} {n : Int} {y : Nat} {code : BoundsCode} (h : 0 ≤ n ∧ n ≤ y) (w : World) : (Instr.sliceBound (.int k n) y code).run P w = .ok n.toNat w := by
  simp [Instr.sliceBound, asIntOf, h]
theorem run_bounds {s : Bool} {len cap p q : Nat} {lo hi : Option Value} (h1 : (hi = none ∧ q = len) ∨ ∃ k n, hi = some (.int k n) ∧ 0 ≤ n ∧ n ≤ cap ∧ q = n.toNat)
    (h2 : (lo = none ∧ p = 0) ∨ ∃ k n, lo = some (.int k n) ∧ 0 ≤ n ∧ n ≤ q ∧ p = n.toNat) (w : World) : (Instr.sliceBounds s len cap lo hi none).run P w = .ok (p, q, cap) w := by
  rcases h1 with ⟨rfl, rfl⟩ | ⟨k, n, rfl, h3, h4, rfl⟩ <;> rcases h2 with ⟨rfl, rfl⟩ | ⟨k', n', rfl, h5, h6, rfl⟩
  · simp [Instr.sliceBounds]
  · simp [Instr.sliceBounds, run_bound (P := P) (k := k') ⟨h5, h6⟩]
  · simp [Instr.sliceBounds, run_bound (P := P) (k := k) ⟨h3, h4⟩]
  · simp [Instr.sliceBounds, run_bound (P := P) (k := k) ⟨h3, h4⟩, run_bound (P := P) (k := k') ⟨h5, h6⟩]

/-- What an operation that turns nothing gives. -/
theorem isNil_ptr (H : Rel N M0 B w0 κ M σ a w) {v : V} {c : Value} {b : Bool} (hv : rep M (XX κ σ.h) v c) (h : St.isNil 0 (σ.live v) v = some b) : (b = true ∧ c = .pointer none) ∨ (b = false ∧ ∃ p, c = .pointer (some p)) := by
  cases v <;> simp [St.isNil] at h
  case nilptr => subst h; exact .inl ⟨rfl, by simpa only [rep] using hv⟩
  case sptr => subst h; simp only [rep] at hv; obtain ⟨b, o, y, rfl, _⟩ := hv; exact .inr ⟨rfl, _, rfl⟩
  case ptr => obtain ⟨h1, rfl⟩ := h; obtain ⟨b, o, e, _⟩ := live_addr H hv h1 (k := 0) rfl; exact .inr ⟨rfl, _, e⟩
  case eptr => obtain ⟨h1, rfl⟩ := h; obtain ⟨b, o, e, _⟩ := live_addr H hv h1 (k := 0) rfl; exact .inr ⟨rfl, _, e⟩
  case mptr => obtain ⟨h1, rfl⟩ := h; obtain ⟨b, o, e, _⟩ := live_addr H hv h1 (k := 0) rfl; exact .inr ⟨rfl, _, e⟩
theorem isNil_iface {X : V → Value → Prop} {v : V} {c : Value} {b lv : Bool} (hv : rep M X v c) (h : St.isNil 1 lv v = some b) : (b = true ∧ c = .nilIface) ∨ (b = false ∧ ∃ t y, c = .iface t y) := by
  cases v <;> simp [St.isNil] at h
  case niliface => subst h; exact .inl ⟨rfl, by simpa only [rep] using hv⟩
  case iface => subst h; simp only [rep] at hv; obtain ⟨y, rfl, _⟩ := hv; exact .inr ⟨rfl, _, _, rfl⟩
theorem isNil_fn {X : V → Value → Prop} {v : V} {c : Value} {b lv : Bool} (hv : rep M X v c) (h : St.isNil 2 lv v = some b) : (b = true ∧ c = .nilFunc) ∨ (b = false ∧ ∃ f x y, c = .func f x y) := by
  cases v <;> simp [St.isNil] at h
  case nilfn => subst h; exact .inl ⟨rfl, by simpa only [rep] using hv⟩
  case fn => subst h; simp only [rep] at hv; obtain ⟨a1, a2, rfl, _⟩ := hv; exact .inr ⟨rfl, _, _, _, rfl⟩
theorem eql_eq {t : TypeId} {c d : Value} (h : (∃ p, c = .pointer p) ∨ c = .nilIface ∨ (∃ u y, c = .iface u y) ∨ c = .nilFunc ∨ ∃ f x y, c = .func f x y) (h' : d = .pointer none ∨ d = .nilIface ∨ d = .nilFunc) :
    binOp .eql t c d = (do pure (.bool (← Op.equal t c d))) ∧ binOp .neq t c d = (do pure (.bool (!(← Op.equal t c d)))) := by
  rcases h with ⟨p, rfl⟩ | rfl | ⟨u, y, rfl⟩ | rfl | ⟨f, x, y, rfl⟩ <;> rcases h' with rfl | rfl | rfl <;> exact ⟨by simp only [binOp], by simp only [binOp]⟩
theorem run_equal_nil {t : TypeId} {c d : Value} {b : Bool} (h : (Op.equalIn (9999 + 1) t c d).run P w = .ok b w) : (Op.equal t c d).run P w = .ok b w := h
theorem run_nil1 {t : TypeId} {c d : Value} {k : Nat} {b : Bool} (hk : nilK P t d = some k) (h : (k = 0 ∧ ((b = true ∧ c = .pointer none) ∨ (b = false ∧ ∃ p, c = .pointer (some p)))) ∨ (k = 1 ∧ ((b = true ∧ c = .nilIface) ∨ (b = false ∧ ∃ t y, c = .iface t y))) ∨ (k = 2 ∧ ((b = true ∧ c = .nilFunc) ∨ (b = false ∧ ∃ f x y, c = .func f x y)))) :
    (Op.equal t c d).run P w = .ok b w := by
  apply run_equal_nil
  unfold nilK at hk
  split at hk
  all_goals (try cases hk)
  all_goals
    rename_i hu
    unfold Op.equalIn
    rw [Sem.run_bind, run_underlying hu, Result.andThen_ok]
    rcases h with ⟨hk, h⟩ | ⟨hk, h⟩ | ⟨hk, h⟩ <;> first | (cases hk; done) | skip
  · rcases h with ⟨rfl, rfl⟩ | ⟨rfl, p, rfl⟩ <;> rfl
  · rcases h with ⟨rfl, rfl⟩ | ⟨rfl, p, y, rfl⟩ <;> rfl
  · rcases h with ⟨rfl, rfl⟩ | ⟨rfl, p, x, y, rfl⟩ <;> rfl
theorem run_nilguard {op : BinOp} {t : TypeId} {x : Operand} {c d : Value} (h' : d = .pointer none ∨ d = .nilIface ∨ d = .nilFunc) (ho : op = .eql ∨ op = .neq) : (eqGuard op t x (.const d) c d).run P w = .ok () w := by
  rcases h' with rfl | rfl | rfl <;> rcases ho with rfl | rfl <;> cases c <;> first | rfl | (cases x <;> rfl)
/-- A comparison with nil. -/
theorem run_nil (H : Rel N M0 B w0 κ M σ a w) {t : TypeId} {x : Operand} {v : V} {c d : Value} {k : Nat} {b neg : Bool} {op : BinOp} (hk : nilK P t d = some k) (ho : (op = .eql ∧ neg = false) ∨ (op = .neq ∧ neg = true)) (hv : rep M (XX κ σ.h) v c) (h : St.isNil k (σ.live v) v = some b) :
    ((do eqGuard op t x (.const d) c d; binOp op t c d : Sem Value)).run P w = .ok (.bool (xor neg b)) w := by
  have hd : d = .pointer none ∨ d = .nilIface ∨ d = .nilFunc := by
    unfold nilK at hk
    split at hk
    · exact .inl rfl
    · exact .inr (.inl rfl)
    · exact .inr (.inr rfl)
    · cases hk
  have hc : (k = 0 ∧ ((b = true ∧ c = .pointer none) ∨ (b = false ∧ ∃ p, c = .pointer (some p)))) ∨ (k = 1 ∧ ((b = true ∧ c = .nilIface) ∨ (b = false ∧ ∃ t y, c = .iface t y))) ∨ (k = 2 ∧ ((b = true ∧ c = .nilFunc) ∨ (b = false ∧ ∃ f x y, c = .func f x y))) := by
    unfold nilK at hk
    split at hk <;> cases hk
    · exact .inl ⟨rfl, isNil_ptr H hv h⟩
    · exact .inr (.inl ⟨rfl, isNil_iface hv h⟩)
    · exact .inr (.inr ⟨rfl, isNil_fn hv h⟩)
  have k1 := run_nil1 (w := w) hk hc
  have hf : (∃ p, c = .pointer p) ∨ c = .nilIface ∨ (∃ u y, c = .iface u y) ∨ c = .nilFunc ∨ ∃ f x y, c = .func f x y := by
    rcases hc with ⟨_, ⟨_, h⟩ | ⟨_, p, h⟩⟩ | ⟨_, ⟨_, h⟩ | ⟨_, p, y, h⟩⟩ | ⟨_, ⟨_, h⟩ | ⟨_, p, x, y, h⟩⟩
    · exact .inl ⟨_, h⟩
    · exact .inl ⟨_, h⟩
    · exact .inr (.inl h)
    · exact .inr (.inr (.inl ⟨_, _, h⟩))
    · exact .inr (.inr (.inr (.inl h)))
    · exact .inr (.inr (.inr (.inr ⟨_, _, _, h⟩)))
  obtain ⟨e1, e2⟩ := eql_eq (t := t) hf hd
  rcases ho with ⟨rfl, rfl⟩ | ⟨rfl, rfl⟩
  · rw [Sem.run_bind, run_nilguard hd (.inl rfl), Result.andThen_ok, e1, Sem.run_bind, k1, Result.andThen_ok]
    cases b <;> rfl
  · rw [Sem.run_bind, run_nilguard hd (.inr rfl), Result.andThen_ok, e2, Sem.run_bind, k1, Result.andThen_ok]
    cases b <;> rfl
theorem fseq_seq (H : Rel N M0 B w0 κ M σ a w) {sz : Nat} {l : List V} {c : Value} (h : rep M (XX κ σ.h) (.fseq sz l) c) : rep M (XX κ σ.h) (.seq sz l) c := by
  simp only [rep, XX] at h
  have := rep_mono (fun p v hp => H.sub.fmS p v hp) (X := NX) (fun _ _ h => h) (.seq sz l) c (by simp only [rep]; exact h.2)
  simpa only [rep] using this
theorem val_sound (H : Rel N M0 B w0 κ M σ a w) {ty : TypeId} {op : Op} {act : Act'} (hl : LV P ty op act) {v : V} (hv : σ.val act = some v) (o : Oper) (ho : o.op = op) (hty : o.type = ty) :
    ∃ c, (execOp a.eval o).run P w = .ok (.value c) w ∧ rep M (XX κ σ.h) v c := by
  unfold execOp
  cases hl <;> simp only [St.val] at hv <;> rw [ho] <;> dsimp only
  case move x y hc => exact ⟨_, rfl, H.op hc hv⟩
  case assign x y hc => exact ⟨_, rfl, H.op hc hv⟩
  case pick c x y c' x' y' hc hx hy =>
    split at hv
    · rename_i t ht
      have h1 := rep_bool (H.op hc ht)
      cases t
      · simp at hv; exact ⟨_, by simp [h1, asBool], H.op hy hv⟩
      · simp at hv; exact ⟨_, by simp [h1, asBool], H.op hx hv⟩
    · cases hv
  case field t x i y fs f n g hx ht hf hs hg h1 =>
    split at hv
    · rename_i cs hcs
      split at hv
      · rename_i us hus
        have hr := H.op hx hcs
        simp only [rep] at hr
        obtain ⟨arr, e, k1, k2⟩ := hr
        obtain ⟨c, hrun, hc⟩ := run_part hs hg h1 k1 k2 hus hv w
        refine ⟨c, ?_, hc⟩
        simp [Instr.field, run_underlying ht, hf, e, asAgg, hrun]
      · cases hv
    · cases hv
  case fieldAddr t x i y fs f n hx ht hf hs hn =>
    split at hv
    · rename_i u he
      split at hv
      · rename_i hlv
        obtain ⟨b, o', e, hr⟩ := live_addr H (H.op hx he) hlv hv
        exact ⟨_, by simp [Instr.fieldAt, run_underlying ht, hf, e, Instr.sureAddr, fieldPlace, run_sizeOf hs, hn, Addr.add_lit], hr⟩
      · cases hv
    · cases hv
  case indexAddr t x i y j e n hx hi ht hs =>
    split at hv
    · rename_i sz' l k m he hj
      obtain ⟨ei, _⟩ := rep_int (H.op hi hj)
      split at hv
      · rename_i hc
        split at hv
        · rename_i u hu
          cases hv
          have hr := H.op hx he
          simp only [rep] at hr
          obtain ⟨ad, cap, ex, _, hlen, hsz, hmem⟩ := hr
          have hlt : m.toNat < l.length := (List.getElem?_eq_some_iff.1 hu).1
          rcases hmem with rfl | ⟨b, off, rfl, hmem⟩
          · simp at hlt
          · obtain ⟨y', k1, k2, k3, k4⟩ := repMem_get hmem hu
            have hm : 0 ≤ m ∧ m < l.length := by omega
            refine ⟨.pointer (some ⟨b, off + m.toNat * n, none⟩), ?_, ?_⟩
            · simp [Instr.indexAt, ei, ex, asIntOf, run_underlying ht, hm, run_sizeOf hs, Addr.add_lit]
            · simp only [rep]
              refine ⟨b, off + m.toNat * n, y', by simp, k1, k3, fun q hq => ?_⟩
              rw [k2] at hq
              rw [← k4 q hq, hc.1]
        · cases hv
      · cases hv
    · rename_i sz' l k m he hj
      obtain ⟨ei, _⟩ := rep_int (H.op hi hj)
      split at hv
      · rename_i hc
        split at hv
        · rename_i u hu
          cases hv
          have hr := fseq_seq H (H.op hx he)
          simp only [rep] at hr
          obtain ⟨ad, cap, ex, _, hlen, hsz, hmem⟩ := hr
          have hlt : m.toNat < l.length := (List.getElem?_eq_some_iff.1 hu).1
          rcases hmem with rfl | ⟨b, off, rfl, hmem⟩
          · simp at hlt
          · obtain ⟨y', k1, k2, k3, k4⟩ := repMem_get hmem hu
            have hm : 0 ≤ m ∧ m < l.length := by omega
            refine ⟨.pointer (some ⟨b, off + m.toNat * n, none⟩), ?_, ?_⟩
            · simp [Instr.indexAt, ei, ex, asIntOf, run_underlying ht, hm, run_sizeOf hs, Addr.add_lit]
            · simp only [rep]
              refine ⟨b, off + m.toNat * n, y', by simp, k1, k3, fun q hq => ?_⟩
              rw [k2] at hq
              rw [← k4 q hq, hc.1]
        · cases hv
      · cases hv
    · rename_i id m k q he hj
      obtain ⟨ei, _⟩ := rep_int (H.op hi hj)
      split at hv
      · rename_i e' sz' l hal
        split at hv
        · rename_i hc
          cases hv
          have ha := arr?_eq hal
          simp only at ha
          have hr := H.op hx he
          simp only [rep, XX] at hr
          have hck := (hr.2.2.1 _ _ _ ha).2 hc.2.1
          obtain ⟨hsz, hlen, xs, ho, hrow, _⟩ := H.heap id _ ha
          rcases ho.2 with ⟨hv0, h0⟩ | ⟨g, cap, cur, hv0, _⟩
          · omega
          · have hq : 0 ≤ q ∧ q < (l.length : Int) := by omega
            rw [hv0] at hck
            refine ⟨.pointer (some ⟨g, q.toNat * n, none⟩), ?_, ?_⟩
            · simp [Instr.indexAt, ei, hck, asIntOf, run_underlying ht, hq, run_sizeOf hs, Addr.add_lit]
            · simp only [rep, XX]
              refine ⟨rfl, hr.2.1, fun e2 sz2 l2 h2 => ?_, fun e1 e2 sz2 l2 h2 => ?_⟩
              · rw [ha] at h2
                cases h2
                exact ⟨(hr.2.2.1 _ _ _ ha).1, fun hn2 hi2 => ⟨g, cap, by rw [hv0, hn2], by rw [hc.1]; simp⟩⟩
              · rw [ha] at h2; cases h2
        · cases hv
      · split at hv
        · rename_i e1 e2 sz' rows hal
          split at hv
          · rename_i hc
            cases hv
            have ha := rws?_eq hal
            simp only at ha
            have hr := H.op hx he
            simp only [rep, XX] at hr
            have hck := (hr.2.2.2.1 _ _ _ _ ha).2 hc.2.1
            obtain ⟨hsz, hlen, ⟨xs, ho, _⟩, _⟩ := H.heap id _ ha
            rcases ho.2 with ⟨hv0, h0⟩ | ⟨g, cap, cur, hv0, _⟩
            · omega
            · have hq : 0 ≤ q ∧ q < (rows.length : Int) := by omega
              rw [hv0] at hck
              refine ⟨.pointer (some ⟨g, q.toNat * n, none⟩), ?_, ?_⟩
              · simp [Instr.indexAt, ei, hck, asIntOf, run_underlying ht, hq, run_sizeOf hs, Addr.add_lit]
              · simp only [rep, XX]
                refine ⟨rfl, hr.2.1, fun e2 sz2 l2 h2 => ?_, fun e1 e2 sz2 l2 h2 => ?_⟩
                · rw [ha] at h2; cases h2
                · rw [ha] at h2
                  cases h2
                  exact ⟨(hr.2.2.2.1 _ _ _ _ ha).1, fun hn2 hi2 => ⟨g, cap, by rw [hv0, hn2], by rw [hc.1]; simp⟩⟩
          · cases hv
        · cases hv
    · rename_i id i' m k q he hj
      obtain ⟨ei, _⟩ := rep_int (H.op hi hj)
      split at hv
      · rename_i e1 e2 sz' rows hal
        split at hv
        · rename_i r hrow
          split at hv
          · rename_i hc
            cases hv
            have ha := rws?_eq hal
            simp only at ha
            have hr := H.op hx he
            simp only [rep, XX] at hr
            have hck := (hr.2.2 _ _ _ _ ha r hrow).2 hc.2.1
            obtain ⟨hsz, hlen, _, hrs, _⟩ := H.heap id _ ha
            obtain ⟨hrl, ys, ho, _⟩ := hrs i' r hrow
            rcases ho.2 with ⟨hv0, h0⟩ | ⟨g, cap, cur, hv0, _⟩
            · omega
            · have hq : 0 ≤ q ∧ q < (r.length : Int) := by omega
              rw [hv0] at hck
              refine ⟨.pointer (some ⟨g, q.toNat * n, none⟩), ?_, ?_⟩
              · simp [Instr.indexAt, ei, hck, asIntOf, run_underlying ht, hq, run_sizeOf hs, Addr.add_lit]
              · simp only [rep, XX]
                refine ⟨rfl, hr.2.1, fun e1 e2 sz2 l2 h2 r2 hr2 => ?_⟩
                rw [ha] at h2
                cases h2
                rw [hrow] at hr2
                cases hr2
                exact ⟨(hr.2.2 _ _ _ _ ha r hrow).1, fun hn2 hi2 => ⟨g, cap, by rw [hv0, hn2], by rw [hc.1]; simp⟩⟩
          · cases hv
        · cases hv
      · cases hv
    · cases hv
  case indexAddrA t x i y j e m n hx hi ht hs =>
    split at hv
    · rename_i u k q he hj
      obtain ⟨ei, _⟩ := rep_int (H.op hi hj)
      split at hv
      · rename_i hc
        obtain ⟨b, o', e', hr⟩ := live_addr H (H.op hx he) hc.1 hv
        exact ⟨_, by simp [Instr.indexAt, ei, e', asIntOf, run_underlying ht, hc.2, run_sizeOf hs, Addr.add_lit, Instr.sureAddr], hr⟩
      · cases hv
    · cases hv
  case load t x y n g hx hs hg h1 =>
    split at hv
    · rename_i p he
      split at hv
      · rename_i us hus
        obtain ⟨b, o', cs, e, k1, k2, k3, k4⟩ := fetch_sound H (H.op hx he) hus
        rcases mkc_rep hv k1 k2 with ⟨rfl, hk⟩ | ⟨rfl, c, hk1, hk2⟩
        · refine ⟨_, ?_, hk⟩
          have := run_loadCells_list (P := P) w ⟨b, o', none⟩ cs k4
          rw [k3] at this
          simp [Instr.loadAt, e, Instr.sureAddr, loadVar, run_isAgg hg, run_sizeOf hs, this]
        · refine ⟨c, ?_, hk2⟩
          have := k4 0 c (by simp [hk1])
          rw [Addr.add_lit] at this
          simp at this
          simp [Instr.loadAt, e, Instr.sureAddr, loadVar, run_isAgg hg, this]
      · cases hv
    · cases hv
  case indexS t x i y j hx hi ht =>
    split at hv
    · rename_i s k q he hj
      obtain ⟨ei, _⟩ := rep_int (H.op hi hj)
      obtain ⟨bs, ex, hs, hl⟩ := rep_str (H.op hx he)
      split at hv
      · rename_i hc
        split at hv
        · rename_i b hb
          cases hv
          subst hs
          have hlt : q.toNat < bs.size := by rw [size_eq]; exact (List.getElem?_eq_some_iff.1 hb).1
          have hbq : bs[q.toNat]? = some b := by
            rw [ByteArray.getElem?_lt' bs _ hlt]
            congr 1
            have := (List.getElem?_eq_some_iff.1 hb).2
            rw [← this]
            rfl
          refine ⟨.int .u8 b.toNat, by simp [Instr.index, ei, ex, asIntOf, run_underlying ht, hc, hbq], ?_⟩
          simp only [rep]
          have := b.toNat_lt
          exact ⟨trivial, by simp [IntKind.min, IntKind.signed], by simp [IntKind.max, IntKind.signed, IntKind.bits]; omega⟩
        · cases hv
      · cases hv
    · cases hv
  case indexA t x i y j m e n g hx hi ht hs hg h1 =>
    split at hv
    · rename_i cs k q he hj
      obtain ⟨ei, _⟩ := rep_int (H.op hi hj)
      split at hv
      · rename_i hc
        split at hv
        · rename_i us hus
          have hr := H.op hx he
          simp only [rep] at hr
          obtain ⟨arr, ex, k1, k2⟩ := hr
          obtain ⟨c, hrun, hcr⟩ := run_part hs hg h1 k1 k2 hus hv w
          exact ⟨c, by simp [Instr.index, ei, ex, asIntOf, run_underlying ht, hc, run_sizeOf hs, hrun], hcr⟩
        · cases hv
      · cases hv
    · cases hv
  case bin op xt x y yt u v' hx hy =>
    split at hv
    · rename_i c d hc hd
      obtain ⟨e, h1, h2⟩ := vbin_sound (P := P) (w := w) hv (H.op hx hc) (H.op hy hd) xt x y
      refine ⟨e, ?_, h2⟩
      simp only [Sem.run_bind] at h1 ⊢
      rw [h1]; rfl
    · cases hv
  case beq xt x y yt u v' hu hx hy =>
    split at hv
    · rename_i c d hc hd
      have h1 := rep_bool (H.op hx hc)
      have h2 := rep_bool (H.op hy hd)
      simp at hv
      subst hv
      refine ⟨.bool (c == d), ?_, rfl⟩
      simp only [h1, h2, Sem.run_bind, run_guard .eql xt x y (.bool c) (.bool d) (by simp) (by simp), Result.andThen_ok, run_eql_bool w xt c d hu]
      rfl
    · cases hv
  case bne xt x y yt u v' hu hx hy =>
    split at hv
    · rename_i c d hc hd
      have h1 := rep_bool (H.op hx hc)
      have h2 := rep_bool (H.op hy hd)
      simp at hv
      subst hv
      refine ⟨.bool (!(c == d)), ?_, rfl⟩
      simp only [h1, h2, Sem.run_bind, run_guard .neq xt x y (.bool c) (.bool d) (by simp) (by simp), Result.andThen_ok, run_neq_bool w xt c d hu]
      rfl
    · cases hv
  case un op t x u hx =>
    split at hv
    · rename_i c hc
      have hr := H.op hx hc
      cases c <;> simp only [vun] at hv <;> try (cases hv; done)
      case int k n =>
        obtain ⟨e, _⟩ := rep_int hr
        cases op <;> simp only at hv <;> try (cases hv; done)
        cases hv
        exact ⟨_, by simp [Op.unary, e, Op.intArith], int_wrap _ _⟩
      case bool b =>
        have e := rep_bool hr
        cases op <;> simp only at hv <;> try (cases hv; done)
        cases hv
        exact ⟨_, by simp [Op.unary, e], bool_mk _⟩
    · cases hv
  case cii s d x u k ds hx hd hs =>
    split at hv
    · rename_i k' n hc
      obtain ⟨e, _⟩ := rep_int (H.op hx hc)
      cases hv
      exact ⟨_, by simp [convert, run_underlying hd, run_underlying hs, e, Conv.intToInt], int_wrap _ _⟩
    · cases hv
  case sls t x lo hi u lo' hi' hx hlo hhi ht =>
    split at hv
    · rename_i s he
      obtain ⟨bs, ex, hs, hl⟩ := rep_str (H.op hx he)
      split at hv
      · rename_i k p k' q hp hq
        split at hv
        · rename_i hc
          cases hv
          subst hs
          have hsz := size_eq bs
          obtain ⟨e1, _⟩ := rep_int (H.opo hlo hp (c := .int .i64 0) (by simp only [rep]; exact ⟨trivial, by decide, by decide⟩))
          obtain ⟨e2, _⟩ := rep_int (H.opo hhi hq (c := .int .i64 (bs.data.toList.length : Int)) (by
            simp only [rep]; refine ⟨trivial, ?_, ?_⟩
            · simp [IntKind.min, IntKind.signed, IntKind.bits] <;> omega
            · simp [IntKind.max, IntKind.signed, IntKind.bits]; simp at hl; omega))
          refine ⟨.string (bs.extract p.toNat q.toNat), ?_, ?_⟩
          · have b3 : (Instr.sliceBounds false bs.size bs.size (lo.map a.eval) (hi.map a.eval) none).run P w = .ok (p.toNat, q.toNat, bs.size) w := by
              refine run_bounds ?_ ?_ w
              · cases hi with
                | none => simp at e2 ⊢; rw [hsz]; simp; omega
                | some o' => simp at e2; exact .inr ⟨k', q, by simp [e2], by omega, by omega, rfl⟩
              · cases lo with
                | none => simp at e1 ⊢; omega
                | some o' => simp at e1; exact .inr ⟨k, p, by simp [e1], by omega, by omega, rfl⟩
            simp [Instr.sliceAt, run_underlying ht, Instr.slice, ex, b3]
          · simp only [rep]
            refine ⟨_, rfl, ?_, ?_⟩
            · rw [ByteArray.data_extract, Array.toList_extract, List.extract_eq_take_drop]
            · simp only [List.length_take, List.length_drop]; omega
        · cases hv
      · cases hv
    · cases hv
  case slq t x lo hi u lo' hi' e n hx hlo hhi ht hsz =>
    split at hv
    · rename_i sz' l he
      have hr := H.op hx he
      simp only [rep] at hr
      obtain ⟨ad, cap, ex, hcap, hlen, hsz', hmem⟩ := hr
      split at hv
      · rename_i k p k' q hp hq
        split at hv
        · rename_i hc
          subst hc
          obtain ⟨us, hus, rfl⟩ := Option.map_eq_some_iff.1 hv
          unfold sliceV at hus
          split at hus
          · rename_i hc
            cases hus
            obtain ⟨e1, _⟩ := rep_int (H.opo hlo hp (c := .int .i64 0) (by simp only [rep]; exact ⟨trivial, by decide, by decide⟩))
            obtain ⟨e2, _⟩ := rep_int (H.opo hhi hq (c := .int .i64 (l.length : Int)) (by
              simp only [rep]; refine ⟨trivial, ?_, ?_⟩
              · simp [IntKind.min, IntKind.signed, IntKind.bits] <;> omega
              · simp [IntKind.max, IntKind.signed, IntKind.bits]; omega))
            have b3 : (Instr.sliceBounds true l.length cap (lo.map a.eval) (hi.map a.eval) none).run P w = .ok (p.toNat, q.toNat, cap) w := by
              refine run_bounds ?_ ?_ w
              · cases hi with
                | none => simp at e2 ⊢; omega
                | some o' => simp at e2; exact .inr ⟨k', q, by simp [e2], by omega, by omega, rfl⟩
              · cases lo with
                | none => simp at e1 ⊢; omega
                | some o' => simp at e1; exact .inr ⟨k, p, by simp [e1], by omega, by omega, rfl⟩
            refine ⟨.slice (if cap = p.toNat then ad else ad.map (·.add (p.toNat * n))) (q.toNat - p.toNat) (cap - p.toNat), ?_, ?_⟩
            · simp [Instr.sliceAt, run_underlying ht, Instr.slice, ex, b3, run_sizeOf hsz]
            · have hl2 : ((l.drop p.toNat).take (q.toNat - p.toNat)).length = q.toNat - p.toNat := by
                simp only [List.length_take, List.length_drop]; omega
              simp only [rep]
              refine ⟨_, _, by rw [hl2], by rw [hl2]; omega, by rw [hl2]; omega, hsz', ?_⟩
              by_cases h0 : (l.drop p.toNat).take (q.toNat - p.toNat) = []
              · exact .inl h0
              · have hpq : ¬ cap = p.toNat := by
                  intro hcp
                  apply h0
                  rw [← List.length_eq_zero_iff, hl2]; omega
                rcases hmem with rfl | ⟨b, off, rfl, hmem⟩
                · simp at h0
                · refine .inr ⟨b, off + p.toNat * n, by simp [hpq, Addr.add_lit], repMem_take _ (repMem_drop _ hmem)⟩
          · cases hus
        · cases hv
      · cases hv
    · cases hv
  case lens t x u hx ht =>
    split at hv
    · rename_i s he
      obtain ⟨bs, ex, hs, hl⟩ := rep_str (H.op hx he)
      cases hv
      subst hs
      refine ⟨.int .i64 (bs.data.toList.length : Int), ?_, ?_⟩
      · rw [← size_eq]
        simp [resolve, invoke, builtin, Builtin.len_, ex, run_underlying ht, goInt]
      · simp only [rep]; refine ⟨trivial, ?_, ?_⟩
        · simp [IntKind.min, IntKind.signed, IntKind.bits] <;> omega
        · simp [IntKind.max, IntKind.signed, IntKind.bits]; simp at hl; omega
    · cases hv
  case lenq t x u e hx ht =>
    have hlenI : ∀ n : Nat, n ≤ 140737488355328 → rep M (XX κ σ.h) (.int .i64 (n : Int)) (.int .i64 (n : Int)) := by
      intro n hn
      simp only [rep]; refine ⟨trivial, ?_, ?_⟩
      · simp [IntKind.min, IntKind.signed, IntKind.bits] <;> omega
      · simp [IntKind.max, IntKind.signed, IntKind.bits]; omega
    split at hv
    · rename_i sz' l he
      have hr := H.op hx he
      simp only [rep] at hr
      obtain ⟨ad, cap, ex, _, hlen, _, hmem⟩ := hr
      cases hv
      exact ⟨_, by simp [resolve, invoke, builtin, Builtin.len_, ex, run_underlying ht, goInt], hlenI _ hlen⟩
    · rename_i sz' l he
      have hr := fseq_seq H (H.op hx he)
      simp only [rep] at hr
      obtain ⟨ad, cap, ex, _, hlen, _, hmem⟩ := hr
      cases hv
      exact ⟨_, by simp [resolve, invoke, builtin, Builtin.len_, ex, run_underlying ht, goInt], hlenI _ hlen⟩
    · rename_i sz' he
      have hr := H.op hx he
      simp only [rep] at hr
      cases hv
      exact ⟨_, by simp [resolve, invoke, builtin, Builtin.len_, hr.1, run_underlying ht, goInt], hlenI 0 (by omega)⟩
    · rename_i id n he
      split at hv
      · rename_i e' sz' l hal
        split at hv
        · rename_i hn
          cases hv
          have ha := arr?_eq hal
          simp only at ha
          have hr := H.op hx he
          simp only [rep, XX] at hr
          have hck := (hr.2.2.1 _ _ _ ha).2 hn
          obtain ⟨hsz, hlen, xs, ho, hrow, _⟩ := H.heap id _ ha
          subst hn
          rcases ho.2 with ⟨hv0, h0⟩ | ⟨g, cap, cur, hv0, _⟩
          · rw [hv0] at hck
            exact ⟨.int .i64 (l.length : Int), by simp [resolve, invoke, builtin, Builtin.len_, hck, run_underlying ht, goInt, h0], hlenI _ hlen⟩
          · rw [hv0] at hck
            exact ⟨.int .i64 (l.length : Int), by simp [resolve, invoke, builtin, Builtin.len_, hck, run_underlying ht, goInt], hlenI _ hlen⟩
        · cases hv
      · split at hv
        · rename_i e1 e2 sz' rows hal
          split at hv
          · rename_i hn
            cases hv
            have ha := rws?_eq hal
            simp only at ha
            have hr := H.op hx he
            simp only [rep, XX] at hr
            have hck := (hr.2.2.2.1 _ _ _ _ ha).2 hn
            obtain ⟨hsz, hlen, ⟨xs, ho, _⟩, _⟩ := H.heap id _ ha
            subst hn
            rcases ho.2 with ⟨hv0, h0⟩ | ⟨g, cap, cur, hv0, _⟩
            · rw [hv0] at hck
              exact ⟨.int .i64 (rows.length : Int), by simp [resolve, invoke, builtin, Builtin.len_, hck, run_underlying ht, goInt, h0], hlenI _ hlen⟩
            · rw [hv0] at hck
              exact ⟨.int .i64 (rows.length : Int), by simp [resolve, invoke, builtin, Builtin.len_, hck, run_underlying ht, goInt], hlenI _ hlen⟩
          · cases hv
        · cases hv
    · rename_i id i' n he
      split at hv
      · rename_i e1 e2 sz' rows hal
        split at hv
        · rename_i r hrow
          split at hv
          · rename_i hn
            cases hv
            have ha := rws?_eq hal
            simp only at ha
            have hr := H.op hx he
            simp only [rep, XX] at hr
            have hck := (hr.2.2 _ _ _ _ ha r hrow).2 hn
            obtain ⟨hsz, hlen, _, hrs, _⟩ := H.heap id _ ha
            obtain ⟨hrl, ys, ho, _⟩ := hrs i' r hrow
            subst hn
            rcases ho.2 with ⟨hv0, h0⟩ | ⟨g, cap, cur, hv0, _⟩
            · rw [hv0] at hck
              exact ⟨.int .i64 (r.length : Int), by simp [resolve, invoke, builtin, Builtin.len_, hck, run_underlying ht, goInt, h0], hlenI _ hrl⟩
            · rw [hv0] at hck
              exact ⟨.int .i64 (r.length : Int), by simp [resolve, invoke, builtin, Builtin.len_, hck, run_underlying ht, goInt], hlenI _ hrl⟩
          · cases hv
        · cases hv
      · cases hv
    · cases hv
  case mmx x y t t' u v' hx hy =>
    split at hv
    · rename_i k p k' q he hf
      split at hv
      · rename_i hk
        subst hk
        cases hv
        obtain ⟨e1, h1⟩ := rep_int (H.op hx he)
        obtain ⟨e2, h2⟩ := rep_int (H.op hy hf)
        refine ⟨.int k (if q > p then q else p), by simp [resolve, invoke, builtin, Builtin.max_, Builtin.max2, e1, e2], ?_⟩
        simp only [rep, if_true]
        refine ⟨trivial, ?_⟩
        split <;> assumption
      · cases hv
    · cases hv
  case mmn x y t t' u v' hx hy =>
    split at hv
    · rename_i k p k' q he hf
      split at hv
      · rename_i hk
        subst hk
        cases hv
        obtain ⟨e1, h1⟩ := rep_int (H.op hx he)
        obtain ⟨e2, h2⟩ := rep_int (H.op hy hf)
        refine ⟨.int k (if q < p then q else p), by simp [resolve, invoke, builtin, Builtin.min_, Builtin.min2, e1, e2], ?_⟩
        simp only [rep, Bool.false_eq_true, if_false]
        refine ⟨trivial, ?_⟩
        split <;> assumption
      · cases hv
    · cases hv
  case nlq t x yt u neg op k c hk ho' hx =>
    split at hv
    · rename_i v' he
      split at hv
      · rename_i b hb
        cases hv
        have := run_nil (P := P) H (x := x) hk ho' (H.op hx he) hb
        refine ⟨.bool (xor neg b), ?_, by simp [rep]⟩
        simp only [Act.eval, Sem.run_bind, Sem.run_pure] at this ⊢
        rw [this]
        rfl
      · cases hv
    · cases hv
  case ext x i u hx =>
    split at hv
    · rename_i vs he
      have hr := H.op hx he
      simp only [rep] at hr
      obtain ⟨arr, ex, k1⟩ := hr
      obtain ⟨c, k2, k3⟩ := repAll_get k1 hv
      exact ⟨c, by simp at k2; simp [Instr.extract, ex, k2], k3⟩
    · cases hv
  case bld t parts z zc zs ps i z' hbt hi hz hzc hzs hps =>
    obtain ⟨us, hus, rfl⟩ := Option.map_eq_some_iff.1 hv
    have hz0 := cSs_rep hzs (M := M) (X := XX κ σ.h)
    have hb : ∃ es : Array Value, P.built t (parts.toList.map fun x => (x.1, a.eval x.2)) = some es ∧ repAll M (XX κ σ.h) us es.toList ∧ ∀ u ∈ es.toList, isCell u := by
      unfold Program.built at hbt ⊢
      rw [hi] at hbt ⊢
      cases hu : P.underlying t with
      | none => rw [hu] at hbt; simp at hbt
      | some d =>
        rw [hu] at hbt
        cases d <;> simp only at hbt <;> try (cases hbt; done)
        case struct fs =>
          rw [hz] at hbt
          simp only [hz]
          cases hpl : fs.toList.mapM (fun f => (P.info? f.type).map fun i => (f.offset, i.size)) with
          | none => rw [hpl] at hbt; simp at hbt
          | some places =>
            refine fill_sound (t := t) (place := (places.toArray[·]?)) ?_ H hps hus hz0.1 hz0.2
            intro j off n ft hj
            unfold placeOf at hj
            rw [hu] at hj
            simp only at hj
            split at hj
            · rename_i f hf
              split at hj
              · rename_i n' hn'
                cases hj
                have h5 := mapM_some_get hpl j f (by simpa using hf)
                unfold szOf at hn'
                obtain ⟨i', hi', rfl⟩ := Option.map_eq_some_iff.1 hn'
                rw [hi'] at h5
                simpa using h5.symm
              · cases hj
            · cases hj
        case array m e =>
          rw [hz] at hbt
          simp only [hz]
          cases hie : P.info? e with
          | none => rw [hie] at hbt; simp at hbt
          | some ie =>
            refine fill_sound (t := t) (place := fun i => some (i * ie.size, ie.size)) ?_ H hps hus hz0.1 hz0.2
            intro j off n ft hj
            unfold placeOf at hj
            rw [hu] at hj
            simp only [szOf, hie, Option.map_some] at hj
            split at hj
            · cases hj; rfl
            · cases hj
    obtain ⟨es, k1, k2, k3⟩ := hb
    refine ⟨.agg es, ?_, by simp only [rep]; exact ⟨es, rfl, k2, k3⟩⟩
    have := run_build (P := P) w t (parts.map fun x => (x.1, a.eval x.2)) es (by simpa using k1)
    simp [this]
  case mkf f x y x' y' hx hy =>
    split at hv
    · rename_i vs us hvs hus
      cases hv
      refine ⟨.func f (x.map a.eval) (y.map a.eval), by simp [Instr.makeFunc], ?_⟩
      simp only [rep]
      exact ⟨_, _, rfl, by simpa using H.ops hx hvs, by simpa using H.ops hy hus⟩
    · cases hv
  case mki t x u ds hx hd hne =>
    split at hv
    · rename_i v' he
      split at hv
      · cases hv
        have hr : (Instr.makeInterface t (a.eval x)).run P w = .ok (.iface t (a.eval x)) w := by
          simp only [Instr.makeInterface, Sem.run_bind, run_underlying hd w, Result.andThen_ok]
          first
            | rfl
            | (split
               · exact absurd rfl (hne _)
               · rfl)
        exact ⟨.iface t (a.eval x), by simp [hr], by simp only [rep]; exact ⟨_, rfl, H.op hx he⟩⟩
      · cases hv
    · cases hv
  case aeq t x y yt u v' kt hk hg hx hy =>
    split at hv
    · rename_i u1 v1 h1 h2
      split at hv
      · rename_i hf
        cases hv
        have r1 := H.op hx h1
        have r2 := H.op hy h2
        have e := run_keyEq hk hf.1 hf.2 r1 r2 w
        obtain ⟨_, _, _, _, hc⟩ := key_val hk hf.1 r1
        obtain ⟨_, _, _, _, hc2⟩ := key_val hk hf.2 r2
        rcases hc with ⟨_, ⟨cs, ec⟩, hq, _⟩ | ⟨hn, _⟩
        · rcases hc2 with ⟨_, ⟨ds, ed⟩, _, _⟩ | ⟨hn, _⟩
          · rw [ec, ed] at e ⊢
            refine ⟨.bool (eqK u1 v1), ?_, by simp [rep]⟩
            simp only [Sem.run_bind, run_eqGuard_agg w .eql t x y cs ds hq, Result.andThen_ok, run_eql_struct, e]
            rfl
          · rw [hg] at hn; cases hn
        · rw [hg] at hn; cases hn
      · cases hv
    · cases hv
  case ane t x y yt u v' kt hk hg hx hy =>
    split at hv
    · rename_i u1 v1 h1 h2
      split at hv
      · rename_i hf
        cases hv
        have r1 := H.op hx h1
        have r2 := H.op hy h2
        have e := run_keyEq hk hf.1 hf.2 r1 r2 w
        obtain ⟨_, _, _, _, hc⟩ := key_val hk hf.1 r1
        obtain ⟨_, _, _, _, hc2⟩ := key_val hk hf.2 r2
        rcases hc with ⟨_, ⟨cs, ec⟩, hq, _⟩ | ⟨hn, _⟩
        · rcases hc2 with ⟨_, ⟨ds, ed⟩, _, _⟩ | ⟨hn, _⟩
          · rw [ec, ed] at e ⊢
            refine ⟨.bool (!eqK u1 v1), ?_, by simp [rep]⟩
            simp only [Sem.run_bind, run_eqGuard_agg w .neq t x y cs ds hq, Result.andThen_ok, run_neq_struct, e]
            rfl
          · rw [hg] at hn; cases hn
        · rw [hg] at hn; cases hn
      · cases hv
    · cases hv
  case lkp t K E x k u v' kt i z zv okk ht hkt hx hk2 hi hz hzv =>
    split at hv
    · rename_i id n kv h1 h2
      split at hv
      · rename_i kt' l hm
        split at hv
        · rename_i hf
          obtain ⟨rfl, hf⟩ := hf
          have hmp := mp?_eq hm
          have r1 := H.op hx h1
          simp only [rep, XX] at r1
          have ex := r1.2.2.2.2 _ _ hmp
          obtain ⟨b, es, clock, e1, e2, e3, e4, e5⟩ := H.heap id _ hmp
          rw [e1] at ex
          have r2 := H.op hk2 h2
          obtain ⟨r, g1, g2⟩ := run_find hkt hf r2 w l es.toList e4
          have gc := run_check hkt hf r2 es.isEmpty w
          have hzr : (zeroValue E).run P w = .ok z w := by simp [zeroValue, typeInfo, hi, hz]
          have hobj := Go.MapKept.run_getObj_map (P := P) e3
          rcases g2 with ⟨rfl, g3, _⟩ | ⟨j, e, k', v2, rfl, _, g3, g4, _⟩
          · rw [g3] at hv
            simp only [Option.some.injEq] at hv
            subst hv
            have hrun : (Instr.lookup t (a.eval x) (a.eval k) okk).run P w = .ok (if okk then .tuple #[z, .bool false] else z) w := by
              unfold Instr.lookup
              simp [run_underlying ht, ex, hobj, gc, g1, hzr]
            refine ⟨if okk then .tuple #[z, .bool false] else z, by simp [hrun], ?_⟩
            cases okk
            · simpa using cV_rep hzv
            · simp only [if_true, rep, repAll]
              exact ⟨_, rfl, z, _, rfl, cV_rep hzv, .bool false, [], rfl, rfl, rfl⟩
          · rw [g3] at hv
            simp only [Option.some.injEq] at hv
            subst hv
            have hrun : (Instr.lookup t (a.eval x) (a.eval k) okk).run P w = .ok (if okk then .tuple #[e.val, .bool true] else e.val) w := by
              unfold Instr.lookup
              simp [run_underlying ht, ex, hobj, gc, g1]
            refine ⟨if okk then .tuple #[e.val, .bool true] else e.val, by simp [hrun], ?_⟩
            cases okk
            · simpa using rep_of_pure g4
            · simp only [if_true, rep, repAll]
              exact ⟨_, rfl, e.val, _, rfl, rep_of_pure g4, .bool true, [], rfl, rfl, rfl⟩
        · cases hv
      · cases hv
    · cases hv
  case nlc x u hx =>
    split at hv
    · rename_i v' he
      split at hv
      · rename_i hlv
        cases hv
        have hr := H.op hx he
        rcases live_nil H hr hlv with ⟨p, e⟩ | ⟨f, x1, y1, e⟩
        · exact ⟨_, by rw [e]; rfl, hr⟩
        · exact ⟨_, by rw [e]; rfl, hr⟩
      · cases hv
    · cases hv
end
end Go.Abs
