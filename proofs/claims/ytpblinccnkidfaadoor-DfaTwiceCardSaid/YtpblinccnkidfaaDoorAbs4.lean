/-
  From the model's operations to those of the abstract machine: operations that turn nothing. No condition.
-/
import Derived.Test.YtpblinccnkidfaaDoorAbs3
set_option linter.unusedVariables false
set_option linter.unusedSimpArgs false
namespace Go.Abs
open Go.RowKit

def flatT (P : Program) : Nat → TypeId → Option (List TypeId)
  | 0, _ => none
  | d + 1, t => match P.underlying t with
    | some (.struct fs) => fs.toList.foldr (fun f acc => match flatT P d f.type, acc with
      | some l, some r => some (l ++ r)
      | _, _ => none) (some [])
    | some (.array n e) => (flatT P d e).map fun l => (List.replicate n l).flatten
    | some _ => some [t]
    | none => none

def szOf (P : Program) (t : TypeId) : Option Nat := (P.info? t).map (·.size)
def aggOf (P : Program) (t : TypeId) : Option Bool := (P.underlying t).map fun
  | .struct _ | .array _ _ => true
  | _ => false

def cS (P : Program) (t : TypeId) : Value → Option V
  | .int k n => if k.min ≤ n ∧ n ≤ k.max then some (.int k n) else none
  | .bool b => some (.bool b)
  | .string bs => if bs.data.toList.length ≤ 4611686018427387904 then some (.str bs.data.toList) else none
  | .slice none 0 0 => match P.underlying t with
    | some (.slice e) => match szOf P e with
      | some n => if 0 < n then some (.nil n) else none
      | none => none
    | _ => none
  | .pointer none => some .nilptr
  | .nilFunc => some .nilfn
  | .nilIface => some .niliface
  | .map none => some .junk
  | _ => none
def cSs (P : Program) : List TypeId → List Value → Option (List V)
  | [], [] => some []
  | t :: ts, c :: cs => match cS P t c, cSs P ts cs with
    | some v, some vs => some (v :: vs)
    | _, _ => none
  | _, _ => none
def cV (P : Program) (t : TypeId) : Value → Option V
  | .agg cs => match flatT P 20 t with
    | some ts => (cSs P ts cs.toList).map .strct
    | none => none
  | c => cS P t c
def cO (P : Program) (t : TypeId) : Operand → Option AO
  | .tmp n => some (.t n)
  | .const c => (cV P t c).map .v
  | .func f => some (.v (.fn (.func f) [] []))
  | .global g => if g = GLb ∧ 0 < GLt.length then some (.v (.sptr (.strct (GLt.map fun n => .int .u8 (n % 256 : Nat))) 0)) else none
def cOs (P : Program) : List TypeId → List Operand → Option (List AO)
  | [], [] => some []
  | t :: ts, x :: xs => match cO P t x, cOs P ts xs with
    | some v, some vs => some (v :: vs)
    | _, _ => none
  | _, _ => none

theorem cS_rep {P : Program} {t : TypeId} {c : Value} {v : V} (h : cS P t c = some v) {M : Mem} {X : V → Value → Prop} : rep M X v c ∧ isCell c := by
  unfold cS at h
  split at h
  · split at h
    · cases h; exact ⟨by simp only [rep]; exact ⟨trivial, ‹_›⟩, rfl⟩
    · cases h
  · cases h; exact ⟨rfl, rfl⟩
  · split at h
    · cases h; exact ⟨by simp only [rep]; exact ⟨_, rfl, rfl, ‹_›⟩, rfl⟩
    · cases h
  · split at h
    · split at h
      · split at h
        · rename_i h0; cases h; exact ⟨⟨rfl, h0⟩, rfl⟩
        · cases h
      · cases h
    · cases h
  · cases h; exact ⟨rfl, rfl⟩
  · cases h; exact ⟨rfl, rfl⟩
  · cases h; exact ⟨rfl, rfl⟩
  · cases h; exact ⟨rfl, rfl⟩
  · cases h
theorem cSs_rep {P : Program} {M : Mem} {X : V → Value → Prop} : ∀ {ts : List TypeId} {cs : List Value} {vs : List V}, cSs P ts cs = some vs → repAll M X vs cs ∧ ∀ u ∈ cs, isCell u
  | [], [], vs, h => by simp only [cSs, Option.some.injEq] at h; subst h; simp [repAll]
  | t :: ts, c :: cs, vs, h => by
    simp only [cSs] at h
    split at h
    · rename_i v us hv hus
      cases h
      have h1 := cS_rep hv (M := M) (X := X)
      have h2 := cSs_rep (M := M) (X := X) hus
      refine ⟨by simp only [repAll]; exact ⟨c, cs, rfl, h1.1, h2.1⟩, fun u hu => ?_⟩
      rcases List.mem_cons.1 hu with rfl | hu
      · exact h1.2
      · exact h2.2 u hu
    · cases h
  | [], _ :: _, _, h => by simp [cSs] at h
  | _ :: _, [], _, h => by simp [cSs] at h
theorem cV_rep {P : Program} {t : TypeId} {c : Value} {v : V} (h : cV P t c = some v) {M : Mem} {X : V → Value → Prop} : rep M X v c := by
  unfold cV at h
  split at h
  · split at h
    · rename_i ts _
      obtain ⟨vs, hc, rfl⟩ := Option.map_eq_some_iff.1 h
      have := cSs_rep hc (M := M) (X := X)
      simp only [rep]
      exact ⟨_, rfl, this.1, this.2⟩
    · cases h
  · exact (cS_rep h).1

section
variable {P : Program} {N : Nat} {M0 : Mem} {B : Bas} {w0 : World} {κ : Kap} {M : Mem} {σ : St} {a : Act} {w : World}

theorem GLs_rep {M : Mem} {X : V → Value → Prop} : ∀ l : List Nat, repAll M X (l.map fun n => .int .u8 (n % 256 : Nat)) (l.map GLv) ∧ ∀ u ∈ l.map GLv, isCell u
  | [] => by simp [repAll]
  | n :: l => by
    obtain ⟨h1, h2⟩ := GLs_rep (M := M) (X := X) l
    refine ⟨?_, ?_⟩
    · simp only [List.map_cons, repAll]
      refine ⟨_, _, rfl, ?_, h1⟩
      simp only [rep, GLv]
      refine ⟨trivial, ?_⟩
      simp [IntKind.min, IntKind.max, IntKind.signed, IntKind.bits]
      omega
    · intro u hu
      simp only [List.map_cons, List.mem_cons] at hu
      rcases hu with rfl | hu
      · rfl
      · exact h2 u hu
theorem GL_rep {M : Mem} {X : V → Value → Prop} (hM : ∀ p v, GL p = some v → M p = some v) {g : Nat} (hg : g = GLb) : rep M X (.sptr (.strct (GLt.map fun n => .int .u8 (n % 256 : Nat))) 0) (.pointer (some ⟨g, 0, none⟩)) := by
  subst hg
  simp only [rep]
  obtain ⟨h1, h2⟩ := GLs_rep (M := M) (X := NX) GLt
  refine ⟨GLb, 0, .agg (GLt.map GLv).toArray, rfl, ⟨_, rfl, h1, h2⟩, h2, fun j hj => ?_⟩
  have hj : j < GLt.length := by simpa [Value.cells] using hj
  have e : (Value.agg (GLt.map GLv).toArray).cells[j]? = some (GLv GLt[j]) := by simp [Value.cells, hj]
  rw [e]
  refine hM _ _ ?_
  simp [GL, hj]
theorem Rel.op (H : Rel N M0 B w0 κ M σ a w) {t : TypeId} {o : Operand} {x : AO} {v : V} (hc : cO P t o = some x) (hv : σ.ev x = some v) : rep M (XX κ σ.h) v (a.eval o) := by
  cases o with
  | tmp n => simp only [cO, Option.some.injEq] at hc; subst hc; exact H.ev hv
  | const c =>
    simp only [cO] at hc
    cases h : cV P t c with
    | none => simp [h] at hc
    | some u =>
      simp only [h, Option.map_some, Option.some.injEq] at hc
      subst hc
      simp only [St.ev, Option.some.injEq] at hv
      subst hv
      exact cV_rep h
  | global g =>
    simp only [cO] at hc
    split at hc
    · rename_i hg
      cases hc
      simp only [St.ev, Option.some.injEq] at hv
      subst hv
      exact GL_rep (fun p v h => H.sub.sub p v (H.sub.gl p v h)) hg.1
    · cases hc
  | func f =>
    simp only [cO, Option.some.injEq] at hc
    subst hc
    simp only [St.ev, Option.some.injEq] at hv
    subst hv
    simp only [rep, Act.eval]
    exact ⟨#[], #[], rfl, by simp [repAll], by simp [repAll]⟩

theorem Rel.ops (H : Rel N M0 B w0 κ M σ a w) : ∀ {ts : List TypeId} {os : List Operand} {xs : List AO} {vs : List V}, cOs P ts os = some xs → σ.evs xs = some vs → repAll M (XX κ σ.h) vs (os.map a.eval)
  | [], [], xs, vs, h, h' => by
    simp only [cOs, Option.some.injEq] at h
    subst h
    simp only [St.evs, Option.some.injEq] at h'
    subst h'
    simp [repAll]
  | t :: ts, o :: os, xs, vs, h, h' => by
    simp only [cOs] at h
    split at h
    · rename_i x ys hx hys
      cases h
      simp only [St.evs] at h'
      split at h'
      · rename_i u us hu hus
        cases h'
        simp only [List.map_cons, repAll]
        exact ⟨_, _, rfl, H.op hx hu, H.ops hys hus⟩
      · cases h'
    · cases h
  | [], _ :: _, _, _, h, _ => by simp [cOs] at h
  | _ :: _, [], _, _, h, _ => by simp [cOs] at h

/-! ### The forms of values -/
theorem rep_int {X k n c} (h : rep M X (.int k n) c) : c = .int k n ∧ k.min ≤ n ∧ n ≤ k.max := by simpa only [rep] using h
theorem rep_bool {X b c} (h : rep M X (.bool b) c) : c = .bool b := by simpa only [rep] using h
theorem rep_str {X s c} (h : rep M X (.str s) c) : ∃ bs : ByteArray, c = .string bs ∧ bs.data.toList = s ∧ s.length ≤ 4611686018427387904 := h
theorem str_mk {X} (l : List UInt8) (h : l.length ≤ 4611686018427387904) : rep M X (.str l) (.string ⟨l.toArray⟩) := ⟨_, rfl, rfl, h⟩
theorem bs_eta (bs : ByteArray) : bs = ⟨bs.data.toList.toArray⟩ := by cases bs; simp
theorem size_eq (bs : ByteArray) : bs.size = bs.data.toList.length := by rw [ByteArray.size, Array.length_toList]

theorem wrap_in (k : IntKind) (n : Int) : k.min ≤ k.wrap n ∧ k.wrap n ≤ k.max := by
  cases k <;> simp [IntKind.wrap, IntKind.min, IntKind.max, IntKind.signed, IntKind.bits] <;> (try split) <;> omega
theorem int_wrap {X} (k : IntKind) (n : Int) : rep M X (.int k (k.wrap n)) (.int k (k.wrap n)) := by simp only [rep]; exact ⟨trivial, wrap_in k n⟩
theorem bool_mk {X} (b : Bool) : rep M X (.bool b) (.bool b) := rfl

theorem min_le_zero (k : IntKind) : k.min ≤ 0 ∧ 0 ≤ k.max := by cases k <;> decide
theorem tmod_in {k : IntKind} {m n : Int} (h : k.min ≤ m ∧ m ≤ k.max) : k.min ≤ m.tmod n ∧ m.tmod n ≤ k.max := by
  have := min_le_zero k
  by_cases hm : 0 ≤ m
  · have h1 := Int.tmod_nonneg n hm
    have h2 : m.tmod n ≤ m := by
      rw [Int.tmod_eq_emod_of_nonneg hm]
      by_cases hn : n = 0
      · subst hn; simp
      · have h3 := Int.mul_ediv_add_emod m n
        have h4 : 0 ≤ n * (m / n) := by
          rcases Int.lt_or_gt_of_ne hn with h5 | h5
          · have := Int.ediv_nonpos_of_nonneg_of_nonpos hm (Int.le_of_lt h5)
            exact Int.mul_nonneg_of_nonpos_of_nonpos (Int.le_of_lt h5) this
          · exact Int.mul_nonneg (Int.le_of_lt h5) (Int.ediv_nonneg hm (Int.le_of_lt h5))
        omega
    omega
  · have e : m.tmod n = -((-m).tmod n) := by rw [Int.neg_tmod]; omega
    have h1 := Int.tmod_nonneg n (show 0 ≤ -m by omega)
    have h2 : (-m).tmod n ≤ -m := by
      rw [Int.tmod_eq_emod_of_nonneg (show 0 ≤ -m by omega)]
      by_cases hn : n = 0
      · subst hn; simp
      · have h3 := Int.mul_ediv_add_emod (-m) n
        have h4 : 0 ≤ n * (-m / n) := by
          rcases Int.lt_or_gt_of_ne hn with h5 | h5
          · have := Int.ediv_nonpos_of_nonneg_of_nonpos (show 0 ≤ -m by omega) (Int.le_of_lt h5)
            exact Int.mul_nonneg_of_nonpos_of_nonpos (Int.le_of_lt h5) this
          · exact Int.mul_nonneg (Int.le_of_lt h5) (Int.ediv_nonneg (show 0 ≤ -m by omega) (Int.le_of_lt h5))
        omega
    omega
theorem fdiv_in {k : IntKind} {m : Int} {n : Nat} (h : k.min ≤ m ∧ m ≤ k.max) : k.min ≤ m.fdiv (2 ^ n) ∧ m.fdiv (2 ^ n) ≤ k.max := by
  have hz := min_le_zero k
  have hp : (0 : Int) < 2 ^ n := Int.pow_pos (by decide)
  rw [Int.fdiv_eq_ediv_of_nonneg _ (Int.le_of_lt hp)]
  have h3 := Int.mul_ediv_add_emod m (2 ^ n)
  have h4 := Int.emod_nonneg m (Int.ne_of_gt hp)
  have h5 := Int.emod_lt_of_pos m hp
  generalize m / 2 ^ n = q at *
  generalize (2 : Int) ^ n = p at *
  generalize m % p = r at *
  by_cases hm : 0 ≤ q
  · have : q ≤ p * q := by
      have : 1 * q ≤ p * q := Int.mul_le_mul_of_nonneg_right (by omega) hm
      omega
    omega
  · have h6 : (p - 1) * 1 ≤ (p - 1) * (-q) := Int.mul_le_mul_of_nonneg_left (by omega) (by omega)
    have h7 : (p - 1) * (-q) = q - p * q := by rw [Int.sub_mul, Int.mul_neg, Int.one_mul]; omega
    omega

theorem beq_dec (a b : List UInt8) : (a == b) = decide (a = b) := by
  by_cases h : a = b <;> simp [h]

/-! ### Arithmetic -/
theorem run_guard (op : BinOp) (xt : TypeId) (x y : Operand) (c d : Value) (h1 : ∀ cs, c ≠ .agg cs) (h2 : c ≠ .nilIface) : (eqGuard op xt x y c d).run P w = .ok () w := by
  cases op <;> first | rfl | (unfold eqGuard; simp; split <;> first | exact (h2 rfl).elim | exact (h1 _ rfl).elim | rfl)
theorem vbin_sound {op : BinOp} {u v r : V} (h : vbin op u v = some r) {X : V → Value → Prop} {c d : Value} (hu : rep M X u c) (hv : rep M X v d) (xt : TypeId) (x y : Operand) :
    ∃ e, ((do eqGuard op xt x y c d; binOp op xt c d : Sem Value)).run P w = .ok e w ∧ rep M X r e := by
  cases u <;> cases v <;> simp only [vbin] at h <;> try (cases h; done)
  case int.int k m k' n =>
    obtain ⟨rfl, hm⟩ := rep_int hu
    obtain ⟨rfl, hn⟩ := rep_int hv
    simp only [Sem.run_bind, run_guard op xt x y (.int k m) (.int k' n) (by simp) (by simp), Result.andThen_ok]
    cases op <;> simp only [vint, vbits, vshift] at h
    case shl =>
      split at h
      · cases h
      · rename_i hb
        cases h
        exact ⟨_, by simp [binOp, Op.shift, hb], int_wrap _ _⟩
    case shr =>
      split at h
      · cases h
      · rename_i hb
        cases h
        exact ⟨.int k (m.fdiv (2 ^ min n.toNat k.bits)), by simp [binOp, Op.shift, hb], by simp only [rep]; exact ⟨trivial, fdiv_in hm⟩⟩
    all_goals (split at h <;> try (cases h; done)); rename_i hk; subst hk
    case quo =>
      split at h
      · cases h
      · rename_i hb; cases h; exact ⟨_, by simp [binOp, Op.intDiv, hb], int_wrap _ _⟩
    case rem =>
      split at h
      · cases h
      · rename_i hb; cases h; exact ⟨.int k (m.tmod n), by simp [binOp, Op.intDiv, hb], by simp only [rep]; exact ⟨trivial, tmod_in hm⟩⟩
    case add => cases h; exact ⟨_, by simp [binOp, Op.intArith], int_wrap _ _⟩
    case sub => cases h; exact ⟨_, by simp [binOp, Op.intArith], int_wrap _ _⟩
    case mul => cases h; exact ⟨_, by simp [binOp, Op.intArith], int_wrap _ _⟩
    case and => cases h; exact ⟨_, by simp [binOp, Op.intBits], int_wrap _ _⟩
    case or => cases h; exact ⟨_, by simp [binOp, Op.intBits], int_wrap _ _⟩
    case xor => cases h; exact ⟨_, by simp [binOp, Op.intBits], int_wrap _ _⟩
    case andNot => cases h; exact ⟨_, by simp [binOp, Op.intBits], int_wrap _ _⟩
    case eql => cases h; exact ⟨_, by simp only [binOp, Op.intCmp, ne_eq, not_true_eq_false, if_false]; rfl, bool_mk _⟩
    case neq => cases h; exact ⟨_, by simp only [binOp, Op.intCmp, ne_eq, not_true_eq_false, if_false]; rfl, bool_mk _⟩
    case lss => cases h; exact ⟨_, by simp only [binOp, Op.intCmp, ne_eq, not_true_eq_false, if_false]; rfl, bool_mk _⟩
    case leq => cases h; exact ⟨_, by simp only [binOp, Op.intCmp, ne_eq, not_true_eq_false, if_false]; rfl, bool_mk _⟩
    case gtr => cases h; exact ⟨_, by simp only [binOp, Op.intCmp, ne_eq, not_true_eq_false, if_false]; rfl, bool_mk _⟩
    case geq => cases h; exact ⟨_, by simp only [binOp, Op.intCmp, ne_eq, not_true_eq_false, if_false]; rfl, bool_mk _⟩
  case str.str s t =>
    obtain ⟨bs, rfl, rfl, hl⟩ := rep_str hu
    obtain ⟨bt, rfl, rfl, hl'⟩ := rep_str hv
    simp only [Sem.run_bind, run_guard op xt x y (.string bs) (.string bt) (by simp) (by simp), Result.andThen_ok]
    have e1 := ByteArray.toList_eq bs
    have e2 := ByteArray.toList_eq bt
    cases op <;> simp only [vstr] at h <;> try (cases h; done)
    case add =>
      split at h
      · rename_i hb
        cases h
        have hs := size_eq bs
        have ht := size_eq bt
        refine ⟨.string (bs ++ bt), ?_, ?_⟩
        · have : ¬ (((bs.size + bt.size : Nat) : Int) > IntKind.i64.max) := by
            simp only [IntKind.max, IntKind.signed, IntKind.bits]; simp; omega
          simp only [binOp, Op.stringOp]
          rw [if_neg this]; rfl
        · simp only [rep]
          exact ⟨_, rfl, by simp [ByteArray.data_append], by simpa using hb⟩
      · cases h
    case eql => cases h; exact ⟨_, by simp only [binOp, Op.stringOp, e1, e2, beq_dec]; rfl, bool_mk _⟩
    case neq => cases h; exact ⟨_, by simp only [binOp, Op.stringOp, e1, e2, beq_dec]; rfl, bool_mk _⟩
    case lss => cases h; exact ⟨_, by simp only [binOp, Op.stringOp, e1, e2, beq_dec]; rfl, bool_mk _⟩
    case leq => cases h; exact ⟨_, by simp only [binOp, Op.stringOp, e1, e2, beq_dec]; rfl, bool_mk _⟩
    case gtr => cases h; exact ⟨_, by simp only [binOp, Op.stringOp, e1, e2, beq_dec]; rfl, bool_mk _⟩
    case geq => cases h; exact ⟨_, by simp only [binOp, Op.stringOp, e1, e2, beq_dec]; rfl, bool_mk _⟩
end
end Go.Abs
