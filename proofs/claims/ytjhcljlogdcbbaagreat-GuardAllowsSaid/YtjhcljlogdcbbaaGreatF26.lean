/-
  Arguments of the types of package api, read as data. No condition.
-/
import Derived.Test.YtjhcljlogdcbbaaGreatF25
import Derived.Test.YtjhcljlogdcbbaaGreatG2
import Derived.KernelRfl
set_option linter.unusedVariables false
set_option linter.unusedSimpArgs false
set_option maxRecDepth 100000
namespace Go.Abs
open Go.Proofs
attribute [-simp] getElem?_pos Option.not_isSome List.map_map
section
variable {P : Program} {t e : TypeId} {u : V}
def tyStr (P : Program) (t : TypeId) : Bool := match P.underlying t with
  | some .string => true
  | _ => false
def tyBool (P : Program) (t : TypeId) : Bool := match P.underlying t with
  | some .bool => true
  | _ => false
def tyInt (P : Program) (t : TypeId) (k : IntKind) : Bool := match P.underlying t with
  | some (.int k') => decide (k' = k)
  | _ => false
def tySeq (P : Program) (t e : TypeId) (sz : Nat) : Bool := match P.underlying t with
  | some (.slice e') => decide (e' = e) && decide (P.cellsOf e = sz)
  | _ => false
def tyStruct (P : Program) (t : TypeId) (ts : List TypeId) : Bool := match P.underlying t with
  | some (.struct fs) => decide (fs.toList.map (·.type) = ts)
  | _ => false
theorem HasTy.str_of (h : tyStr P t = true) (hu : HasTy P t u) : ∃ s, u = .str s ∧ s.length ≤ reachBytes := by
  unfold tyStr at h
  cases hu with
  | str h2 h3 => exact ⟨_, rfl, h3⟩
  | _ => simp_all
theorem HasTy.bool_of (h : tyBool P t = true) (hu : HasTy P t u) : ∃ b, u = .bool b := by
  unfold tyBool at h
  cases hu with
  | bool h2 => exact ⟨_, rfl⟩
  | _ => simp_all
theorem HasTy.int_of {k : IntKind} (h : tyInt P t k = true) (hu : HasTy P t u) : ∃ n, u = .int k n ∧ k.min ≤ n ∧ n ≤ k.max := by
  unfold tyInt at h
  cases hu with
  | int h2 h3 h4 =>
    rw [h2] at h
    simp only [decide_eq_true_eq] at h
    subst h
    exact ⟨_, rfl, h3, h4⟩
  | _ => simp_all
theorem HasTy.seq_of {sz : Nat} (h : tySeq P t e sz = true) (hu : HasTy P t u) : ∃ l, u = .seq sz l ∧ (∀ x ∈ l, HasTy P e x) ∧ l.length ≤ reachBytes := by
  unfold tySeq at h
  cases hu with
  | seq h2 h3 h4 =>
    rw [h2] at h
    simp only [Bool.and_eq_true, decide_eq_true_eq] at h
    obtain ⟨rfl, rfl⟩ := h
    exact ⟨_, rfl, h3, h4⟩
  | _ => simp_all
theorem hasTys_of : ∀ {fs : List Field} {us : List V}, us.length = fs.length → (∀ (i : Nat) (f : Field) (u : V), fs[i]? = some f → us[i]? = some u → HasTy P f.type u) → HasTys P (fs.map (·.type)) us
  | [], [], _, _ => trivial
  | f :: fs, u :: us, hl, h => ⟨h 0 f u rfl rfl, hasTys_of (by simpa using hl) fun i f u hf hu => h (i + 1) f u (by simpa using hf) (by simpa using hu)⟩
  | [], _ :: _, hl, _ => by simp at hl
  | _ :: _, [], hl, _ => by simp at hl
theorem HasTy.strct_of {ts : List TypeId} (h : tyStruct P t ts = true) (hu : HasTy P t u) : ∃ us, u = .strct (us.flatMap cl) ∧ HasTys P ts us := by
  unfold tyStruct at h
  cases hu with
  | strct h2 h3 h4 =>
    rw [h2] at h
    simp only [decide_eq_true_eq] at h
    subst h
    exact ⟨_, rfl, hasTys_of (by simpa using h3) fun i f u hf hu => h4 i f u (by simpa using hf) hu⟩
  | _ => simp_all
theorem seq_map {α : Type} {f : α → V} {Q : α → Prop} : ∀ {l : List V}, (∀ x ∈ l, ∃ a, x = f a ∧ Q a) → ∃ xs : List α, l = xs.map f ∧ ∀ a ∈ xs, Q a
  | [], _ => ⟨[], rfl, by simp⟩
  | x :: l, h => by
    obtain ⟨a, rfl, ha⟩ := h x (by simp)
    obtain ⟨xs, rfl, has⟩ := seq_map (l := l) (fun y hy => h y (by simp [hy]))
    exact ⟨a :: xs, rfl, by simpa using ⟨ha, has⟩⟩
theorem HasTys.one {t : TypeId} {us : List V} (h : HasTys P [t] us) : ∃ a, us = [a] ∧ HasTy P t a := by
  match us, h with
  | [a], h => exact ⟨a, rfl, h.1⟩
  | [], h => exact h.elim
  | _ :: _ :: _, h => exact h.2.elim
theorem HasTys.two {t t' : TypeId} {us : List V} (h : HasTys P [t, t'] us) : ∃ a b, us = [a, b] ∧ HasTy P t a ∧ HasTy P t' b := by
  match us, h with
  | a :: us, h =>
    obtain ⟨b, rfl, hb⟩ := HasTys.one h.2
    exact ⟨a, b, rfl, h.1, hb⟩
  | [], h => exact h.elim
theorem HasTys.three {t t' t2 : TypeId} {us : List V} (h : HasTys P [t, t', t2] us) : ∃ a b c, us = [a, b, c] ∧ HasTy P t a ∧ HasTy P t' b ∧ HasTy P t2 c := by
  match us, h with
  | a :: us, h =>
    obtain ⟨b, c, rfl, hb⟩ := HasTys.two h.2
    exact ⟨a, b, c, rfl, h.1, hb⟩
  | [], h => exact h.elim
theorem HasTys.four {t t' t2 t3 : TypeId} {us : List V} (h : HasTys P [t, t', t2, t3] us) : ∃ a b c d, us = [a, b, c, d] ∧ HasTy P t a ∧ HasTy P t' b ∧ HasTy P t2 c ∧ HasTy P t3 d := by
  match us, h with
  | a :: us, h =>
    obtain ⟨b, c, d, rfl, hb⟩ := HasTys.three h.2
    exact ⟨a, b, c, d, rfl, h.1, hb⟩
  | [], h => exact h.elim
theorem HasTys.five {t t' t2 t3 t4 : TypeId} {us : List V} (h : HasTys P [t, t', t2, t3, t4] us) : ∃ a b c d e, us = [a, b, c, d, e] ∧ HasTy P t a ∧ HasTy P t' b ∧ HasTy P t2 c ∧ HasTy P t3 d ∧ HasTy P t4 e := by
  match us, h with
  | a :: us, h =>
    obtain ⟨b, c, d, e, rfl, hb⟩ := HasTys.four h.2
    exact ⟨a, b, c, d, e, rfl, h.1, hb⟩
  | [], h => exact h.elim
end
theorem of_str {u : V} (h : HasTy Tryz.prog ty_string u) : ∃ s, u = .str s ∧ s.length ≤ reachBytes := HasTy.str_of (by kernel_rfl) h
theorem of_strs {u : V} (h : HasTy Tryz.prog ty_Istring u) : ∃ l : List Str, u = .seq 1 (l.map .str) ∧ (∀ s ∈ l, s.length ≤ reachBytes) ∧ l.length ≤ reachBytes := by
  obtain ⟨l, rfl, h1, h2⟩ := HasTy.seq_of (e := ty_string) (sz := 1) (by kernel_rfl) h
  obtain ⟨ats, rfl, h3⟩ := seq_map (f := V.str) (Q := fun s => s.length ≤ reachBytes) (l := l) fun x hx => of_str (h1 x hx)
  exact ⟨ats, rfl, h3, by simpa using h2⟩
theorem of_attr {u : V} (h : HasTy Tryz.prog ty_api_Attr u) : ∃ a : Attr, u = a.v ∧ a.name.length ≤ reachBytes ∧ a.value.length ≤ reachBytes := by
  obtain ⟨us, rfl, h1⟩ := HasTy.strct_of (ts := [ty_string, ty_string]) (by kernel_rfl) h
  obtain ⟨a, b, rfl, ha, hb⟩ := h1.two
  obtain ⟨n, rfl, hn⟩ := of_str ha
  obtain ⟨v, rfl, hv⟩ := of_str hb
  exact ⟨⟨n, v⟩, rfl, hn, hv⟩
def Constraint.fits (c : Constraint) : Prop := (∀ s ∈ c.words, s.length ≤ reachBytes) ∧ c.words.length ≤ reachBytes ∧ c.regex.length ≤ reachBytes
theorem of_constraint {u : V} (h : HasTy Tryz.prog ty_api_Constraint u) : ∃ c : Constraint, u = c.v ∧ c.fits := by
  obtain ⟨us, rfl, h1⟩ := HasTy.strct_of (ts := [ty_int, ty_Istring, ty_string]) (by kernel_rfl) h
  obtain ⟨a, b, c, rfl, ha, hb, hc⟩ := h1.three
  obtain ⟨n, rfl, hn⟩ := HasTy.int_of (k := .i64) (by kernel_rfl) ha
  obtain ⟨l, rfl, hl⟩ := of_strs hb
  obtain ⟨r, rfl, hr⟩ := of_str hc
  exact ⟨⟨n, l, r⟩, rfl, hl.1, hl.2, hr⟩
theorem of_rule {u : V} (h : HasTy Tryz.prog ty_api_Rule u) : ∃ r : Rule, u = r.v ∧ r.name.length ≤ reachBytes ∧ r.value.fits := by
  obtain ⟨us, rfl, h1⟩ := HasTy.strct_of (ts := [ty_string, ty_api_Constraint, ty_bool]) (by kernel_rfl) h
  obtain ⟨a, b, c, rfl, ha, hb, hc⟩ := h1.three
  obtain ⟨n, rfl, hn⟩ := of_str ha
  obtain ⟨k, rfl, hk⟩ := of_constraint hb
  obtain ⟨r, rfl⟩ := HasTy.bool_of (by kernel_rfl) hc
  exact ⟨⟨n, k, r⟩, rfl, hn, hk⟩
def Allowed.fits (a : Allowed) : Prop := a.name.length ≤ reachBytes ∧ (∀ s ∈ a.kids, s.length ≤ reachBytes) ∧ a.kids.length ≤ reachBytes ∧ (∀ r ∈ a.rules, r.name.length ≤ reachBytes ∧ r.value.fits) ∧ a.rules.length ≤ reachBytes
theorem of_allowed {u : V} (h : HasTy Tryz.prog ty_api_Allowed u) : ∃ a : Allowed, u = a.v ∧ a.fits := by
  obtain ⟨us, rfl, h1⟩ := HasTy.strct_of (ts := [ty_string, ty_Istring, ty_Iapi_Rule]) (by kernel_rfl) h
  obtain ⟨a, b, c, rfl, ha, hb, hc⟩ := h1.three
  obtain ⟨n, rfl, hn⟩ := of_str ha
  obtain ⟨k, rfl, hk1, hk2⟩ := of_strs hb
  obtain ⟨l, rfl, h2, h3⟩ := HasTy.seq_of (e := ty_api_Rule) (sz := 5) (by kernel_rfl) hc
  obtain ⟨rs, rfl, h4⟩ := seq_map (f := Rule.v) (l := l) fun x hx => of_rule (h2 x hx)
  exact ⟨⟨n, k, rs⟩, rfl, hn, hk1, hk2, h4, by simpa using h3⟩
def Policy.fits (p : Policy) : Prop := (∀ s ∈ p.top, s.length ≤ reachBytes) ∧ p.top.length ≤ reachBytes ∧ (∀ e ∈ p.elements, e.fits) ∧ p.elements.length ≤ reachBytes ∧ (∀ s ∈ p.unwrap, s.length ≤ reachBytes) ∧ p.unwrap.length ≤ reachBytes
theorem of_policy {u : V} (h : HasTy Tryz.prog ty_api_Policy u) : ∃ p : Policy, u = p.v ∧ p.fits := by
  obtain ⟨us, rfl, h1⟩ := HasTy.strct_of (ts := [ty_Istring, ty_Iapi_Allowed, ty_Istring]) (by kernel_rfl) h
  obtain ⟨a, b, c, rfl, ha, hb, hc⟩ := h1.three
  obtain ⟨n, rfl, hn1, hn2⟩ := of_strs ha
  obtain ⟨k, rfl, hk1, hk2⟩ := of_strs hc
  obtain ⟨l, rfl, h2, h3⟩ := HasTy.seq_of (e := ty_api_Allowed) (sz := 3) (by kernel_rfl) hb
  obtain ⟨rs, rfl, h4⟩ := seq_map (f := Allowed.v) (l := l) fun x hx => of_allowed (h2 x hx)
  exact ⟨⟨n, rs, k⟩, rfl, hn1, hn2, h4, by simpa using h3, hk1, hk2⟩
def Node.fits (n : Node) : Prop := n.name.length ≤ reachBytes ∧ (∀ a ∈ n.attrs, a.name.length ≤ reachBytes ∧ a.value.length ≤ reachBytes) ∧ n.attrs.length ≤ reachBytes ∧ n.text.length ≤ reachBytes ∧ n.kids.length ≤ reachBytes
theorem of_node_sz : ∀ (sz : Nat) (u : V), SizeOf.sizeOf u ≤ sz → HasTy Tryz.prog ty_api_Node u → ∃ n : Node, u = n.v ∧ n.fits ∧ allNs Node.fits n.kids := by
  intro sz
  induction sz with
  | zero =>
    intro u hu
    cases u <;> simp at hu
  | succ sz ih =>
    intro u hu h
    obtain ⟨us, rfl, h1⟩ := HasTy.strct_of (ts := [ty_int, ty_string, ty_Iapi_Attr, ty_string, ty_Iapi_Node]) (by kernel_rfl) h
    obtain ⟨a, b, c, d, e, rfl, ha, hb, hc, hd, he⟩ := h1.five
    obtain ⟨k, rfl, hk⟩ := HasTy.int_of (k := .i64) (by kernel_rfl) ha
    obtain ⟨nm, rfl, hn⟩ := of_str hb
    obtain ⟨tx, rfl, htx⟩ := of_str hd
    obtain ⟨l, rfl, h2, h3⟩ := HasTy.seq_of (e := ty_api_Attr) (sz := 2) (by kernel_rfl) hc
    obtain ⟨ats, rfl, h4⟩ := seq_map (f := Attr.v) (l := l) fun x hx => of_attr (h2 x hx)
    obtain ⟨m, rfl, h5, h6⟩ := HasTy.seq_of (e := ty_api_Node) (sz := 5) (by kernel_rfl) he
    obtain ⟨ks, hks, h7⟩ := seq_map (f := Node.v) (Q := fun n => n.fits ∧ allNs Node.fits n.kids) (l := m) fun x hx => ih x (by
      have := List.sizeOf_lt_of_mem hx
      simp [cl] at hu
      omega) (h5 x hx)
    subst hks
    refine ⟨⟨k, nm, ats, tx, ks⟩, ?_, ⟨hn, h4, by simpa using h3, htx, by simpa using h6⟩, allNs_iff.2 h7⟩
    rw [Node.v_eq]
    rfl
theorem of_node (u : V) (h : HasTy Tryz.prog ty_api_Node u) : ∃ n : Node, u = n.v ∧ n.fits ∧ allNs Node.fits n.kids := of_node_sz _ u (Nat.le_refl _) h
theorem of_nodes {u : V} (h : HasTy Tryz.prog ty_Iapi_Node u) : ∃ l : List Node, u = .seq 5 (l.map Node.v) ∧ allNs Node.fits l ∧ l.length ≤ reachBytes := by
  obtain ⟨m, rfl, h5, h6⟩ := HasTy.seq_of (e := ty_api_Node) (sz := 5) (by kernel_rfl) h
  obtain ⟨ks, rfl, h7⟩ := seq_map (f := Node.v) (Q := fun n => n.fits ∧ allNs Node.fits n.kids) (l := m) fun x hx => of_node x (h5 x hx)
  exact ⟨ks, rfl, allNs_iff.2 h7, by simpa using h6⟩
end Go.Abs
