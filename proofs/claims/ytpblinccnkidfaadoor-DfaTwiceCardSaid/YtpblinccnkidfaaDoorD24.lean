/-
  Arguments of the types of package api, read as data; the card's glue. No condition.
-/
import Derived.Test.YtpblinccnkidfaaDoorD23
import Derived.Test.YtpblinccnkidfaaDoorRows
import Derived.Test.YtpblinccnkidfaaDoorG2
import Derived.KernelRfl
import Derived.Lib.LaidTab
import Derived.Deep.DeepHandedRow
set_option linter.unusedVariables false
set_option linter.unusedSimpArgs false
set_option maxRecDepth 100000
namespace Go.Abs
open Go.Proofs
attribute [-simp] getElem?_pos Option.not_isSome List.map_map
section
variable {P : Program} {t e : TypeId} {u : V}
def tyStr (P : Program) (t : TypeId) : Bool := match P.underlying t with
  | some .string => true
  | _ => false
def tyBool (P : Program) (t : TypeId) : Bool := match P.underlying t with
  | some .bool => true
  | _ => false
def tyInt (P : Program) (t : TypeId) (k : IntKind) : Bool := match P.underlying t with
  | some (.int k') => decide (k' = k)
  | _ => false
def tySeq (P : Program) (t e : TypeId) (sz : Nat) : Bool := match P.underlying t with
  | some (.slice e') => decide (e' = e) && decide (P.cellsOf e = sz)
  | _ => false
def tyStruct (P : Program) (t : TypeId) (ts : List TypeId) : Bool := match P.underlying t with
  | some (.struct fs) => decide (fs.toList.map (·.type) = ts)
  | _ => false
theorem HasTy.str_of (h : tyStr P t = true) (hu : HasTy P t u) : ∃ s, u = .str s ∧ s.length ≤ reachBytes := by
  unfold tyStr at h
  cases hu with
  | str h2 h3 => exact ⟨_, rfl, h3⟩
  | _ => simp_all
theorem HasTy.bool_of (h : tyBool P t = true) (hu : HasTy P t u) : ∃ b, u = .bool b := by
  unfold tyBool at h
  cases hu with
  | bool h2 => exact ⟨_, rfl⟩
  | _ => simp_all
theorem HasTy.int_of {k : IntKind} (h : tyInt P t k = true) (hu : HasTy P t u) : ∃ n, u = .int k n ∧ k.min ≤ n ∧ n ≤ k.max := by
  unfold tyInt at h
  cases hu with
  | int h2 h3 h4 =>
    rw [h2] at h
    simp only [decide_eq_true_eq] at h
    subst h
    exact ⟨_, rfl, h3, h4⟩
  | _ => simp_all
theorem HasTy.seq_of {sz : Nat} (h : tySeq P t e sz = true) (hu : HasTy P t u) : ∃ l, u = .seq sz l ∧ (∀ x ∈ l, HasTy P e x) ∧ l.length ≤ reachBytes := by
  unfold tySeq at h
  cases hu with
  | seq h2 h3 h4 =>
    rw [h2] at h
    simp only [Bool.and_eq_true, decide_eq_true_eq] at h
    obtain ⟨rfl, rfl⟩ := h
    exact ⟨_, rfl, h3, h4⟩
  | _ => simp_all
theorem hasTys_of : ∀ {fs : List Field} {us : List V}, us.length = fs.length → (∀ (i : Nat) (f : Field) (u : V), fs[i]? = some f → us[i]? = some u → HasTy P f.type u) → HasTys P (fs.map (·.type)) us
  | [], [], _, _ => trivial
  | f :: fs, u :: us, hl, h => ⟨h 0 f u rfl rfl, hasTys_of (by simpa using hl) fun i f u hf hu => h (i + 1) f u (by simpa using hf) (by simpa using hu)⟩
  | [], _ :: _, hl, _ => by simp at hl
  | _ :: _, [], hl, _ => by simp at hl
theorem HasTy.strct_of {ts : List TypeId} (h : tyStruct P t ts = true) (hu : HasTy P t u) : ∃ us, u = .strct (us.flatMap cl) ∧ HasTys P ts us := by
  unfold tyStruct at h
  cases hu with
  | strct h2 h3 h4 =>
    rw [h2] at h
    simp only [decide_eq_true_eq] at h
    subst h
    exact ⟨_, rfl, hasTys_of (by simpa using h3) fun i f u hf hu => h4 i f u (by simpa using hf) hu⟩
  | _ => simp_all
theorem seq_map {α : Type} {f : α → V} {Q : α → Prop} : ∀ {l : List V}, (∀ x ∈ l, ∃ a, x = f a ∧ Q a) → ∃ xs : List α, l = xs.map f ∧ ∀ a ∈ xs, Q a
  | [], _ => ⟨[], rfl, by simp⟩
  | x :: l, h => by
    obtain ⟨a, rfl, ha⟩ := h x (by simp)
    obtain ⟨xs, rfl, has⟩ := seq_map (l := l) (fun y hy => h y (by simp [hy]))
    exact ⟨a :: xs, rfl, by simpa using ⟨ha, has⟩⟩
theorem HasTys.one {t : TypeId} {us : List V} (h : HasTys P [t] us) : ∃ a, us = [a] ∧ HasTy P t a := by
  match us, h with
  | [a], h => exact ⟨a, rfl, h.1⟩
  | [], h => exact h.elim
  | _ :: _ :: _, h => exact h.2.elim
theorem HasTys.two {t t' : TypeId} {us : List V} (h : HasTys P [t, t'] us) : ∃ a b, us = [a, b] ∧ HasTy P t a ∧ HasTy P t' b := by
  match us, h with
  | a :: us, h =>
    obtain ⟨b, rfl, hb⟩ := HasTys.one h.2
    exact ⟨a, b, rfl, h.1, hb⟩
  | [], h => exact h.elim
theorem HasTys.three {t t' t2 : TypeId} {us : List V} (h : HasTys P [t, t', t2] us) : ∃ a b c, us = [a, b, c] ∧ HasTy P t a ∧ HasTy P t' b ∧ HasTy P t2 c := by
  match us, h with
  | a :: us, h =>
    obtain ⟨b, c, rfl, hb⟩ := HasTys.two h.2
    exact ⟨a, b, c, rfl, h.1, hb⟩
  | [], h => exact h.elim
theorem HasTys.four {t t' t2 t3 : TypeId} {us : List V} (h : HasTys P [t, t', t2, t3] us) : ∃ a b c d, us = [a, b, c, d] ∧ HasTy P t a ∧ HasTy P t' b ∧ HasTy P t2 c ∧ HasTy P t3 d := by
  match us, h with
  | a :: us, h =>
    obtain ⟨b, c, d, rfl, hb⟩ := HasTys.three h.2
    exact ⟨a, b, c, d, rfl, h.1, hb⟩
  | [], h => exact h.elim
theorem HasTys.five {t t' t2 t3 t4 : TypeId} {us : List V} (h : HasTys P [t, t', t2, t3, t4] us) : ∃ a b c d e, us = [a, b, c, d, e] ∧ HasTy P t a ∧ HasTy P t' b ∧ HasTy P t2 c ∧ HasTy P t3 d ∧ HasTy P t4 e := by
  match us, h with
  | a :: us, h =>
    obtain ⟨b, c, d, e, rfl, hb⟩ := HasTys.four h.2
    exact ⟨a, b, c, d, e, rfl, h.1, hb⟩
  | [], h => exact h.elim
end
theorem of_str {u : V} (h : HasTy Tryd.prog ty_string u) : ∃ s, u = .str s := by
  obtain ⟨s, rfl, _⟩ := HasTy.str_of (by kernel_rfl) h
  exact ⟨s, rfl⟩
theorem of_rows {u : V} (h : HasTy Tryd.prog ty_IIint u) : ∃ l : List (List Int), u = .seq 1 (l.map rowZ) := by
  obtain ⟨l, rfl, h1, _⟩ := HasTy.seq_of (e := ty_Iint) (sz := 1) (by kernel_rfl) h
  obtain ⟨rs, rfl, _⟩ := seq_map (f := rowZ) (Q := fun _ => True) (l := l) fun x hx => by
    obtain ⟨m, rfl, h2, _⟩ := HasTy.seq_of (e := ty_int) (sz := 1) (by kernel_rfl) (h1 x hx)
    obtain ⟨zs, rfl, _⟩ := seq_map (f := zV) (Q := fun _ => True) (l := m) fun y hy => by
      obtain ⟨n, rfl, _⟩ := HasTy.int_of (k := .i64) (by kernel_rfl) (h2 y hy)
      exact ⟨n, rfl, trivial⟩
    exact ⟨zs, rfl, trivial⟩
  exact ⟨rs, rfl⟩
theorem of_bools {u : V} (h : HasTy Tryd.prog ty_Ibool u) : ∃ l : List Bool, u = finN l := by
  obtain ⟨l, rfl, h1, _⟩ := HasTy.seq_of (e := ty_bool) (sz := 1) (by kernel_rfl) h
  obtain ⟨bs, rfl, _⟩ := seq_map (f := V.bool) (Q := fun _ => True) (l := l) fun x hx => by
    obtain ⟨b, rfl⟩ := HasTy.bool_of (by kernel_rfl) (h1 x hx)
    exact ⟨b, rfl, trivial⟩
  exact ⟨bs, rfl⟩
theorem of_auto {u : V} (h : HasTy Tryd.prog ty_api_Auto u) : ∃ (nx : List (List Int)) (fi : List Bool), u = .strct (autoC nx fi) := by
  obtain ⟨us, rfl, h1⟩ := HasTy.strct_of (ts := [ty_IIint, ty_Ibool]) (by kernel_rfl) h
  obtain ⟨a, b, rfl, ha, hb⟩ := h1.two
  obtain ⟨nx, rfl⟩ := of_rows ha
  obtain ⟨fi, rfl⟩ := of_bools hb
  exact ⟨nx, fi, rfl⟩
end Go.Abs
namespace Go.Proofs.YtpblinccnkidfaaDoor
open Go.ChangeShapes Go.WideShapes Go.ChangeAt Go.RowKit Go.Abs
theorem own : ownKnob Tryd.prog.godebug = none := by kernel_rfl
theorem laidOut : laidOutB Tryd.prog = true := by kernel_rfl
def tyS : List TypeId := [ty_bool, ty_int, ty_string, ty_Iint, ty_IIint, ty_Ibool, ty_api_Auto]
theorem tyS_plain : tyS.all (plainTy Tryd.prog tyS) = true := by kernel_rfl
theorem gTab : Tryd.prog.globalNamed "math/bits.deBruijn64tab" = some 0 := by kernel_rfl
theorem gTabType : (Tryd.prog.globals[0]?).map (·.type) = some 164 := by kernel_rfl
theorem gTabU : Tryd.prog.underlying 164 = some (.array 64 ty_uint8) := by kernel_rfl
theorem u8U : Tryd.prog.underlying ty_uint8 = some (.int .u8) := by kernel_rfl
theorem cellsTab : Tryd.prog.cellsOf 164 = 64 := by kernel_rfl
theorem cellsU8 : Tryd.prog.cellsOf ty_uint8 = 1 := by kernel_rfl
def tabN : List Nat := [0, 1, 56, 2, 57, 49, 28, 3, 61, 58, 42, 50, 38, 29, 17, 4, 62, 47, 59, 36, 45, 43, 51, 22, 53, 39, 33, 30, 24, 18, 12, 5, 63, 55, 48, 27, 60, 41, 37, 16, 46, 35, 44, 21, 52, 32, 23, 11, 54, 26, 40, 15, 34, 20, 31, 10, 25, 14, 19, 9, 13, 8, 7, 6]
theorem GLt_eq : GLt = tabN := by decide
/-- What the row's list gives: the cells that the walks read. -/
theorem table {W : World} (h : laidMet Tryd.prog [("math/bits.deBruijn64tab", Rows.laid_math_bits_deBruijn64tab)] W) : ∀ p v, GL p = some v → W.cell? p = some v := by
  have ht : Lib.TabIs Tryd.prog W "math/bits.deBruijn64tab" .u8 (tabN.map fun (n : Nat) => (n : Int)) :=
    Lib.tabIs_of_head (rest := []) gTab gTabType gTabU u8U cellsU8 cellsTab h
  intro p v hp
  unfold GL at hp
  split at hp
  · rename_i e
    rw [GLt_eq] at hp
    cases hi : tabN[p.off]? with
    | none => rw [hi] at hp; cases hp
    | some n =>
      rw [hi] at hp
      have hlt : p.off < tabN.length := by
        rw [List.getElem?_eq_some_iff] at hi; exact hi.1
      have := ht.cell gTab p.off (by simpa using hlt)
      rw [e]
      show W.cell? ⟨0, p.off, none⟩ = _
      rw [this]
      have h0 : GLv n = v := by simpa using hp
      rw [← h0]
      have hn : n < 256 := (by decide : ∀ m ∈ tabN, m < 256) n (List.mem_of_getElem? hi)
      simp only [GLv, List.getD_eq_getElem?_getD, List.getElem?_map, hi, Option.map_some, Option.getD_some, Nat.mod_eq_of_lt hn]
  · cases hp
end Go.Proofs.YtpblinccnkidfaaDoor
