/-
  The image of a function's code, reckoned; and a function's contract from what 'W' says of the image. No condition.
-/
import Derived.Test.YtpblinccnkidfaaDoorAbs11
set_option linter.unusedVariables false
set_option linter.unusedSimpArgs false
namespace Go.Abs
open Go.RowKit

/-! ### The image, reckoned -/
def cBin (P : Program) (op : BinOp) (xt : TypeId) (u v : AO) : Act' :=
  match P.underlying xt, op with
  | some .bool, .eql => .beq false u v
  | some .bool, .neq => .beq true u v
  | some (.struct _), .eql => match ktT P xt with
    | some kt => if kt.agg = true then .aeq false kt u v else .bin op u v
    | none => .bin op u v
  | some (.struct _), .neq => match ktT P xt with
    | some kt => if kt.agg = true then .aeq true kt u v else .bin op u v
    | none => .bin op u v
  | some (.array _ _), .eql => match ktT P xt with
    | some kt => if kt.agg = true then .aeq false kt u v else .bin op u v
    | none => .bin op u v
  | some (.array _ _), .neq => match ktT P xt with
    | some kt => if kt.agg = true then .aeq true kt u v else .bin op u v
    | none => .bin op u v
  | _, _ => .bin op u v
def szAgg (P : Program) (t : TypeId) : Option (Nat × Bool) :=
  match szOf P t, aggOf P t with
  | some n, some g => if g = true ∨ n = 1 then some (n, g) else none
  | _, _ => none
def cSlot (P : Program) (t : TypeId) (i : Nat) : Option (Nat × TypeId) :=
  match P.underlying t with
  | some (.struct fs) => match fs[i]? with
    | some f => some (f.offset, f.type)
    | none => none
  | _ => none
def cCall (P : Program) (c : Call) : Option Act' :=
  match c with
  | { callee := .builtin .len, args := args, argTypes := ts } => match args.toList, ts.toList with
    | [x], [t] => match cO P t x, P.underlying t with
      | some u, some .string => some (.lens u)
      | some u, some (.slice _) => some (.lenq u)
      | _, _ => none
    | _, _ => none
  | { callee := .builtin .append, args := args, argTypes := ts } => match args.toList, ts.toList with
    | [x, y], [t, t'] => if t = t' then (match P.underlying t with
      | some (.slice e) => match P.info? e with
        | some i => match i.zero, cO P t x, cO P t y with
          | some z, some x', some y' => if 0 < i.bytes ∧ z.cells.size = i.size ∧ 0 < i.size then some (.app x' y' e i.size i.bytes) else none
          | _, _, _ => none
        | none => none
      | _ => none) else none
    | _, _ => none
  | { callee := .builtin .max, args := args, argTypes := ts } => match args.toList, ts.toList with
    | [x, y], [t, t'] => match cO P t x, cO P t' y with
      | some u, some v => some (.mm true u v)
      | _, _ => none
    | _, _ => none
  | { callee := .builtin .min, args := args, argTypes := ts } => match args.toList, ts.toList with
    | [x, y], [t, t'] => match cO P t x, cO P t' y with
      | some u, some v => some (.mm false u v)
      | _, _ => none
    | _, _ => none
  | { callee := .invoke r name, args := args, argTypes := ts } => match cO P 0 r, cOs P ts.toList args.toList with
    | some x, some xs => some (.inv (invT P name) x xs)
    | _, _ => none
  | { callee := .value (.func f), args := args, argTypes := ts } => match cOs P ts.toList args.toList with
    | some xs => some (.call f xs)
    | none => none
  | { callee := .value (.tmp g), args := args, argTypes := ts } => match cOs P ts.toList args.toList with
    | some xs => some (.callv (.t g) xs)
    | none => none
  | _ => none
def sameO : Operand → Operand → Bool
  | .tmp a, .tmp b => decide (a = b)
  | .const (.int k n), .const (.int k' n') => decide (k = k' ∧ n = n')
  | _, _ => false
theorem sameO_spec {x y : Operand} (h : sameO x y = true) : x = y := by
  unfold sameO at h
  split at h
  · simp at h; rw [h]
  · simp at h; rw [h.1, h.2]
  · cases h
def cNil (P : Program) (op : BinOp) (xt : TypeId) (y : Operand) : Option (Nat × Bool) := match y, op with
  | .const c, .eql => match nilK P xt c with
    | some k => some (k, false)
    | none => none
  | .const c, .neq => match nilK P xt c with
    | some k => some (k, true)
    | none => none
  | _, _ => none
theorem cNil_spec {P : Program} {op : BinOp} {xt : TypeId} {y : Operand} {k : Nat} {neg : Bool} (h : cNil P op xt y = some (k, neg)) : ∃ c, y = .const c ∧ nilK P xt c = some k ∧ ((op = .eql ∧ neg = false) ∨ (op = .neq ∧ neg = true)) := by
  unfold cNil at h
  split at h
  · split at h
    · cases h; exact ⟨_, rfl, ‹_›, .inl ⟨rfl, rfl⟩⟩
    · cases h
  · split at h
    · cases h; exact ⟨_, rfl, ‹_›, .inr ⟨rfl, rfl⟩⟩
    · cases h
  · cases h
def cAct (P : Program) (ty : TypeId) : Op → Option Act'
  | .move x => (cO P ty x).map .mov
  | .assign x => (cO P ty x).map .mov
  | .pick c a b => match cO P ty c, cO P ty a, cO P ty b with
    | some c', some a', some b' => some (.pick c' a' b')
    | _, _, _ => none
  | .field t x i => match cO P t x, cSlot P t i with
    | some y, some (off, ft) => match szAgg P ft with
      | some (n, g) => some (.fld y off n g)
      | none => none
    | _, _ => none
  | .fieldAddr t x i => match cO P 0 x, cSlot P t i with
    | some y, some (off, ft) => match szOf P ft with
      | some n => if n ≠ 0 then some (.fa y off) else none
      | none => none
    | _, _ => none
  | .indexAddr t x i => match cO P 0 i, P.underlying t with
    | some j, some (.slice e) => match cO P t x, szOf P e with
      | some y, some n => some (.ia y j n)
      | _, _ => none
    | some j, some (.array m e) => match cO P 0 x, szOf P e with
      | some y, some n => some (.iaa y j m n)
      | _, _ => none
    | _, _ => none
  | .load t x => match cO P 0 x, szAgg P t with
    | some y, some (n, g) => some (.ld y n g)
    | _, _ => none
  | .index t x i => match cO P t x, cO P 0 i, P.underlying t with
    | some y, some j, some .string => some (.ixs y j)
    | some y, some j, some (.array m e) => match szAgg P e with
      | some (n, g) => some (.ixa y j m n g)
      | none => none
    | _, _, _ => none
  | .binOp op xt x y yt => match cO P xt x, cNil P op xt y with
    | some u, some (k, neg) => some (.nlq k neg u)
    | some u, none => match cO P yt y with
      | some v => some (cBin P op xt u v)
      | none => none
    | none, _ => none
  | .unOp op t x => (cO P t x).map (.un op)
  | .convert s d x => match cO P s x, P.underlying s, P.underlying d with
    | some u, some (.slice e), some .string => match P.underlying e with
      | some (.int .u8) => some (.b2s u)
      | _ => none
    | some u, some _, some (.int k) => some (.cii k u)
    | some u, some .string, some (.slice e) => match P.underlying e with
      | some (.int .u8) => some (.s2b u)
      | _ => none
    | _, _, _ => none
  | .slice t x lo hi none => match cO P t x, cOo P 0 lo, cOo P 0 hi with
    | some u, some lo', some hi' => match P.underlying t with
      | some .string => some (.sls u lo' hi')
      | some (.slice e) => match szOf P e with
        | some n => some (.slq u lo' hi' n)
        | none => none
      | _ => none
    | _, _, _ => none
  | .extract x i => (cO P 0 x).map fun u => .ext u i
  | .build t parts => match P.built t [], P.info? t with
    | some _, some i => match i.zero with
      | some (.agg z) => match flatT P 20 t with
        | some zc => match cSs P zc z.toList, cParts P t parts.toList with
          | some zs, some ps => some (.bld zs ps)
          | _, _ => none
        | none => none
      | _ => none
    | _, _ => none
  | .makeFunc f a b => match cOs P (List.replicate a.size 0) a.toList, cOs P (List.replicate b.size 0) b.toList with
    | some a', some b' => some (.mkf f a' b')
    | _, _ => none
  | .nilCheck x => (cO P 0 x).map .nlc
  | .alloc e => match P.info? e with
    | some i => match i.zero with
      | some z => match cV P e z with
        | some v => if nt v = true then some (.alc (cl v)) else none
        | none => none
      | none => none
    | none => none
  | .box e x => (cO P e x).map .box
  | .store t p x => match cO P 0 p, cO P t x, szOf P t with
    | some p', some x', some n => some (.st n p' x')
    | _, _, _ => none
  | .buildSlice t len parts => match P.underlying t with
    | some (.slice e) => match P.info? e with
      | some i => match i.zero with
        | some z => match cOs P (List.replicate len e) (parts.toList.map (·.2)) with
          | some xs => if 0 < i.size ∧ z.cells.size = i.size ∧ len * i.size ≤ 16777216 ∧ parts.toList.map (·.1) = List.range len then some (.lit e i.size xs) else none
          | none => none
        | none => none
      | none => none
    | _ => none
  | .makeSlice t l l' => if sameO l l' = true then (match P.underlying t with
      | some (.slice e) => match P.info? e with
        | some i => match i.zero with
          | some (.slice none 0 0) => match P.underlying e with
            | some (.slice e2) => match P.info? e2, cO P 0 l with
              | some i2, some u => if 0 < i.bytes ∧ i.size = 1 ∧ 0 < i2.size then some (.mkm e i.bytes e2 i2.size u) else none
              | _, _ => none
            | _ => none
          | some z => match cV P e z, cO P 0 l with
            | some v, some u => match pur [] v with
              | some v' => if nt v = true ∧ 0 < i.bytes ∧ 0 < i.size ∧ z.cells.size = i.size then some (.mks e i.size i.bytes v' u) else none
              | none => none
            | _, _ => none
          | none => none
        | none => none
      | _ => none) else none
  | .makeInterface t x => match cO P t x, P.underlying t with
    | some u, some ds => match ds with
      | .interface _ => none
      | _ => some (.mki t u)
    | _, _ => none
  | .makeMap t none => match P.underlying t with
    | some (.map K _) => match ktT P K with
      | some kt => some (.mkp kt)
      | none => none
    | _ => none
  | .lookup t x k okk => match P.underlying t with
    | some (.map K E) => match ktT P K, cO P t x, cO P K k, P.info? E with
      | some kt, some u, some v, some i => match i.zero with
        | some z => match cV P E z with
          | some zv => some (.lkp kt zv okk u v)
          | none => none
        | none => none
      | _, _, _, _ => none
    | _ => none
  | .mapUpdate t x k v => match P.underlying t with
    | some (.map K E) => match ktT P K, cO P t x, cO P K k, cO P E v with
      | some kt, some u, some b, some c => some (.mup kt u b c)
      | _, _, _, _ => none
    | _ => none
  | .insert t x k v => match P.underlying t with
    | some (.map K E) => match ktT P K, cO P t x, cO P K k, cO P E v with
      | some kt, some u, some b, some c => some (.mup kt u b c)
      | _, _, _, _ => none
    | _ => none
  | .call c => cCall P c
  | _ => none

theorem szAgg_spec {P : Program} {t : TypeId} {n : Nat} {g : Bool} (h : szAgg P t = some (n, g)) : szOf P t = some n ∧ aggOf P t = some g ∧ (g = false → n = 1) := by
  unfold szAgg at h
  split at h
  · rename_i n' g' h1 h2
    split at h
    · rename_i hc
      cases h
      exact ⟨h1, h2, fun hg => by rcases hc with h | h; · rw [hg] at h; cases h
                                  · exact h⟩
    · cases h
  · cases h
theorem cSlot_spec {P : Program} {t : TypeId} {i off : Nat} {ft : TypeId} (h : cSlot P t i = some (off, ft)) : ∃ fs f, P.underlying t = some (.struct fs) ∧ fs[i]? = some f ∧ off = f.offset ∧ ft = f.type := by
  unfold cSlot at h
  split at h
  · rename_i fs h1
    split at h
    · rename_i f h2; cases h; exact ⟨fs, f, h1, h2, rfl, rfl⟩
    · cases h
  · cases h

theorem cBin_spec {P : Program} {ty xt yt : TypeId} {op : BinOp} {x y : Operand} {u v : AO} (hu : cO P xt x = some u) (hv : cO P yt y = some v) : LV P ty (.binOp op xt x y yt) (cBin P op xt u v) := by
  unfold cBin
  split
  · exact .beq ‹_› hu hv
  · exact .bne ‹_› hu hv
  all_goals
    first
      | exact .bin hu hv
      | (split
         · split
           · first | exact .aeq ‹_› ‹_› hu hv | exact .ane ‹_› ‹_› hu hv
           · exact .bin hu hv
         · exact .bin hu hv)

theorem cCall_spec {P : Program} {ty : TypeId} {c : Call} {x : Act'} (h : cCall P c = some x) : LV P ty (.call c) x ∨ LE P ty (.call c) x := by
  unfold cCall at h
  split at h
  · rename_i args ts
    split at h
    · rename_i x t hx ht
      have e1 : args = #[x] := by apply Array.ext'; simpa using hx
      have e2 : ts = #[t] := by apply Array.ext'; simpa using ht
      subst e1; subst e2
      split at h
      · cases h; exact .inl (.lens ‹_› ‹_›)
      · cases h; exact .inl (.lenq ‹_› ‹_›)
      · cases h
    · cases h
  · rename_i args ts
    split at h
    · rename_i x y t t' hx ht
      have e1 : args = #[x, y] := by apply Array.ext'; simpa using hx
      have e2 : ts = #[t, t'] := by apply Array.ext'; simpa using ht
      subst e1; subst e2
      split at h
      · rename_i ett
        subst ett
        split at h
        · split at h
          · split at h
            · split at h
              · rename_i hc; cases h; exact .inr (.app ‹_› ‹_› ‹_› rfl rfl hc.1 hc.2.1 hc.2.2 ‹_› ‹_›)
              · cases h
            · cases h
          · cases h
        · cases h
      · cases h
    · cases h
  · rename_i args ts
    split at h
    · rename_i x y t t' hx ht
      have e1 : args = #[x, y] := by apply Array.ext'; simpa using hx
      have e2 : ts = #[t, t'] := by apply Array.ext'; simpa using ht
      subst e1; subst e2
      split at h
      · cases h; exact .inl (.mmx ‹_› ‹_›)
      · cases h
    · cases h
  · rename_i args ts
    split at h
    · rename_i x y t t' hx ht
      have e1 : args = #[x, y] := by apply Array.ext'; simpa using hx
      have e2 : ts = #[t, t'] := by apply Array.ext'; simpa using ht
      subst e1; subst e2
      split at h
      · cases h; exact .inl (.mmn ‹_› ‹_›)
      · cases h
    · cases h
  · split at h
    · cases h; exact .inr (.inv ‹_› rfl ‹_›)
    · cases h
  · split at h
    · cases h; exact .inr (.call ‹_›)
    · cases h
  · split at h
    · cases h; exact .inr (.callv ‹_›)
    · cases h
  · cases h

theorem cAct_spec {P : Program} {ty : TypeId} {o : Op} {x : Act'} (h : cAct P ty o = some x) : LV P ty o x ∨ LE P ty o x := by
  cases o with
  | move x => simp only [cAct, Option.map_eq_some_iff] at h; obtain ⟨y, hy, rfl⟩ := h; exact .inl (.move hy)
  | assign x => simp only [cAct, Option.map_eq_some_iff] at h; obtain ⟨y, hy, rfl⟩ := h; exact .inl (.assign hy)
  | pick c a b =>
    simp only [cAct] at h
    split at h
    · cases h; exact .inl (.pick ‹_› ‹_› ‹_›)
    · cases h
  | field t x i =>
    simp only [cAct] at h
    split at h
    · rename_i y off ft hy hs
      obtain ⟨fs, f, h1, h2, rfl, rfl⟩ := cSlot_spec hs
      split at h
      · rename_i n g hn
        obtain ⟨k1, k2, k3⟩ := szAgg_spec hn
        cases h; exact .inl (.field hy h1 h2 k1 k2 k3)
      · cases h
    · cases h
  | fieldAddr t x i =>
    simp only [cAct] at h
    split at h
    · rename_i y off ft hy hs
      obtain ⟨fs, f, h1, h2, rfl, rfl⟩ := cSlot_spec hs
      split at h
      · split at h
        · cases h; exact .inl (.fieldAddr hy h1 h2 ‹_› ‹_›)
        · cases h
      · cases h
    · cases h
  | indexAddr t x i =>
    simp only [cAct] at h
    split at h
    · split at h
      · cases h; exact .inl (.indexAddr ‹_› ‹_› ‹_› ‹_›)
      · cases h
    · split at h
      · cases h; exact .inl (.indexAddrA ‹_› ‹_› ‹_› ‹_›)
      · cases h
    · cases h
  | load t x =>
    simp only [cAct] at h
    split at h
    · rename_i y n g hy hs
      obtain ⟨k1, k2, k3⟩ := szAgg_spec hs
      cases h; exact .inl (.load hy k1 k2 k3)
    · cases h
  | index t x i =>
    simp only [cAct] at h
    split at h
    · cases h; exact .inl (.indexS ‹_› ‹_› ‹_›)
    · split at h
      · rename_i n g hs
        obtain ⟨k1, k2, k3⟩ := szAgg_spec hs
        cases h; exact .inl (.indexA ‹_› ‹_› ‹_› k1 k2 k3)
      · cases h
    · cases h
  | binOp op xt x y yt =>
    simp only [cAct] at h
    split at h
    · rename_i hn
      cases h
      obtain ⟨c, rfl, h1, h2⟩ := cNil_spec hn
      exact .inl (.nlq h1 h2 ‹_›)
    · split at h
      · cases h; exact .inl (cBin_spec ‹_› ‹_›)
      · cases h
    · cases h
  | unOp op t x => simp only [cAct, Option.map_eq_some_iff] at h; obtain ⟨y, hy, rfl⟩ := h; exact .inl (.un hy)
  | convert s d x =>
    simp only [cAct] at h
    split at h
    · split at h
      · cases h; exact .inr (.b2s ‹_› ‹_› ‹_› ‹_›)
      · cases h
    · cases h; exact .inl (.cii ‹_› ‹_› ‹_›)
    · split at h
      · cases h; exact .inr (.s2b ‹_› ‹_› ‹_› ‹_›)
      · cases h
    · cases h
  | slice t x lo hi m =>
    cases m with
    | some m => simp only [cAct] at h; cases h
    | none =>
      simp only [cAct] at h
      split at h
      · split at h
        · cases h; exact .inl (.sls ‹_› ‹_› ‹_› ‹_›)
        · split at h
          · cases h; exact .inl (.slq ‹_› ‹_› ‹_› ‹_› ‹_›)
          · cases h
        · cases h
      · cases h
  | extract x i => simp only [cAct, Option.map_eq_some_iff] at h; obtain ⟨y, hy, rfl⟩ := h; exact .inl (.ext hy)
  | build t parts =>
    simp only [cAct] at h
    split at h
    · split at h
      · split at h
        · split at h
          · cases h; exact .inl (.bld ‹_› ‹_› ‹_› ‹_› ‹_› ‹_›)
          · cases h
        · cases h
      · cases h
    · cases h
  | makeFunc f a b =>
    simp only [cAct] at h
    split at h
    · cases h; exact .inl (.mkf ‹_› ‹_›)
    · cases h
  | nilCheck x => simp only [cAct, Option.map_eq_some_iff] at h; obtain ⟨y, hy, rfl⟩ := h; exact .inl (.nlc hy)
  | alloc e =>
    simp only [cAct] at h
    split at h
    · split at h
      · split at h
        · split at h
          · cases h; exact .inr (.alloc ‹_› ‹_› ‹_› ‹_›)
          · cases h
        · cases h
      · cases h
    · cases h
  | box e x => simp only [cAct, Option.map_eq_some_iff] at h; obtain ⟨y, hy, rfl⟩ := h; exact .inr (.box hy)
  | store t p x =>
    simp only [cAct] at h
    split at h
    · cases h; exact .inr (.store ‹_› ‹_› ‹_›)
    · cases h
  | buildSlice t len parts =>
    simp only [cAct] at h
    split at h
    · split at h
      · split at h
        · split at h
          · split at h
            · rename_i hc; cases h; exact .inr (.lit ‹_› ‹_› rfl hc.1 ‹_› hc.2.1 hc.2.2.1 hc.2.2.2 ‹_›)
            · cases h
          · cases h
        · cases h
      · cases h
    · cases h
  | makeSlice t l l' =>
    simp only [cAct] at h
    split at h
    · rename_i hab
      have hab := sameO_spec hab
      subst hab
      split at h
      · split at h
        · split at h
          · split at h
            · split at h
              · split at h
                · rename_i hc; cases h; exact .inr (.mkm ‹_› ‹_› ‹_› hc.2.1 rfl hc.1 ‹_› ‹_› rfl hc.2.2 ‹_›)
                · cases h
              · cases h
            · cases h
          · split at h
            · split at h
              · split at h
                · rename_i hc; cases h; exact .inr (.mks ‹_› ‹_› ‹_› ‹_› hc.1 ‹_› rfl rfl hc.2.1 hc.2.2.1 ‹_› hc.2.2.2)
                · cases h
              · cases h
            · cases h
          · cases h
        · cases h
      · cases h
    · cases h
  | makeInterface t x =>
    simp only [cAct] at h
    split at h
    · rename_i u ds hu hds
      split at h
      · cases h
      · rename_i hne
        cases h; exact .inl (.mki hu hds (fun ms e => hne ms e))
    · cases h
  | makeMap t r =>
    cases r with
    | some r => simp only [cAct] at h; cases h
    | none =>
      simp only [cAct] at h
      split at h
      · split at h
        · cases h; exact .inr (.mkp ‹_› ‹_›)
        · cases h
      · cases h
  | lookup t x k okk =>
    simp only [cAct] at h
    split at h
    · split at h
      · split at h
        · split at h
          · cases h; exact .inl (.lkp ‹_› ‹_› ‹_› ‹_› ‹_› ‹_› ‹_›)
          · cases h
        · cases h
      · cases h
    · cases h
  | mapUpdate t x k v =>
    simp only [cAct] at h
    split at h
    · split at h
      · cases h; exact .inr (.mup ‹_› ‹_› ‹_› ‹_› ‹_›)
      · cases h
    · cases h
  | insert t x k v =>
    simp only [cAct] at h
    split at h
    · split at h
      · cases h; exact .inr (.mui ‹_› ‹_› ‹_› ‹_› ‹_›)
      · cases h
    · cases h
  | call c => simp only [cAct] at h; exact cCall_spec h
  | _ => simp only [cAct] at h; cases h

def cOper (P : Program) (N : Nat) (ps : List Nat) (ops : Array Oper) (o : Oper) : Option AOp :=
  match (cAct P o.type o.op).getD .bad, (match o.dst with
    | some t => decide (t < N) && !memb t ps
    | none => true) with
  | a, true => match o.guard with
    | none => some ⟨o.dst, a, none⟩
    | some (j, b) => match ops[j]? with
      | some oj => match oj.dst with
        | some t => some ⟨o.dst, a, some (t, b)⟩
        | none => none
      | none => none
  | _, _ => none
def cOpers (P : Program) (N : Nat) (ps : List Nat) (ops : Array Oper) : List Oper → Option (List AOp)
  | [] => some []
  | o :: os => match cOper P N ps ops o, cOpers P N ps ops os with
    | some x, some xs => some (x :: xs)
    | _, _ => none
/-- Calls of the functions in E turn what is lent to them. -/
def fHop (E : List Nat) (x : AOp) : AOp := match x.a with
  | .call f xs => if memb f E = true then ⟨x.d, .callH f xs, x.g⟩ else x
  | .slq y none (some hi) sz => if memb 1000000 E = true then ⟨x.d, .trc y hi sz, x.g⟩ else x
  | .lit e sz ys => if (memb 1000001 E || memb (2000000 + e) E) = true then ⟨x.d, .ltr e sz ys, x.g⟩ else x
  | _ => x
def fHs (E : List Nat) : List AOp → List AOp
  | [] => []
  | x :: xs => fHop E x :: fHs E xs
section
variable {P : Program}
theorem LV_call {ty : TypeId} {op : Op} {f : FuncId} {xs : List AO} (h : LV P ty op (.call f xs)) : False := by cases h
theorem LE_callH {ty : TypeId} {op : Op} {f : FuncId} {xs : List AO} (h : LE P ty op (.call f xs)) : LE P ty op (.callH f xs) := by
  cases h; exact .callH ‹_›
theorem LV_lit {ty : TypeId} {op : Op} {e sz : Nat} {xs : List AO} (h : LV P ty op (.lit e sz xs)) : False := by cases h
theorem LE_ltr {ty : TypeId} {op : Op} {e sz : Nat} {xs : List AO} (h : LE P ty op (.lit e sz xs)) : LE P ty op (.ltr e sz xs) := by
  cases h with
  | lit h1 h2 h3 h4 h5 h6 h7 h8 h9 => exact .ltr h1 h2 h3 h4 h5 h6 h7 h8 h9
theorem LE_slq {ty : TypeId} {op : Op} {y : AO} {lo hi : Option AO} {sz : Nat} (h : LE P ty op (.slq y lo hi sz)) : False := by cases h
theorem cOo_none {t : TypeId} {o : Option Operand} (h : cOo P t o = some none) : o = none := by
  cases o with
  | none => rfl
  | some o => simp only [cOo, Option.map_eq_some_iff] at h; obtain ⟨_, _, h⟩ := h; cases h
theorem cOo_some {t : TypeId} {o : Option Operand} {y : AO} (h : cOo P t o = some (some y)) : ∃ o', o = some o' ∧ cO P t o' = some y := by
  cases o with
  | none => simp only [cOo, Option.some.injEq] at h; cases h
  | some o => simp only [cOo, Option.map_eq_some_iff] at h; obtain ⟨z, h, e⟩ := h; cases e; exact ⟨o, rfl, h⟩
theorem LV_trc {ty : TypeId} {op : Op} {y hi : AO} {sz : Nat} (h : LV P ty op (.slq y none (some hi) sz)) : LE P ty op (.trc y hi sz) := by
  cases h with
  | slq h1 h2 h3 h4 h5 =>
    have e1 := cOo_none h2
    obtain ⟨o', e2, h6⟩ := cOo_some h3
    subst e1; subst e2
    exact .trc h1 h6 h4 h5
theorem fHop_spec {E ps : List Nat} {N : Nat} {ops : Array Oper} {o : Oper} {x : AOp} (h : LO P N ps ops o x) : LO P N ps ops o (fHop E x) := by
  unfold fHop
  split
  · rename_i f xs hx
    split
    · refine ⟨h.dst, h.lt, .inr (.inl ?_), h.grd⟩
      rcases h.act with h1 | h1 | h1
      · rw [hx] at h1; exact (LV_call h1).elim
      · rw [hx] at h1; exact LE_callH h1
      · rw [hx] at h1; cases h1
    · exact h
  · rename_i y hi sz hx
    split
    · refine ⟨h.dst, h.lt, .inr (.inl ?_), h.grd⟩
      rcases h.act with h1 | h1 | h1
      · rw [hx] at h1; exact LV_trc h1
      · rw [hx] at h1; exact (LE_slq h1).elim
      · rw [hx] at h1; cases h1
    · exact h
  · rename_i e sz ys hx
    split
    · refine ⟨h.dst, h.lt, .inr (.inl ?_), h.grd⟩
      rcases h.act with h1 | h1 | h1
      · rw [hx] at h1; exact (LV_lit h1).elim
      · rw [hx] at h1; exact LE_ltr h1
      · rw [hx] at h1; cases h1
    · exact h
  · exact h
theorem fHs_spec {E ps : List Nat} {N : Nat} {ops : Array Oper} {os : List Oper} {xs : List AOp} (h : LOs P N ps ops os xs) : LOs P N ps ops os (fHs E xs) := by
  induction h with
  | nil => exact .nil
  | cons h1 _ ih => exact .cons (fHop_spec h1) ih
end
/-- Behind a label. -/
def noLab : AC → Bool
  | .seq a b => noLab a && noLab b
  | .label _ => false
  | .bad => false
  | _ => true
def findAC (l : Nat) : AC → Option AC
  | .seq a b => match findAC l a with
    | some r => some (.seq r b)
    | none => if noLab a = true then findAC l b else none
  | .label l' => if (l' == l) = true then some .skip else none
  | _ => none
theorem noLab_spec {P : Program} {N : Nat} {ps : List Nat} {c : Code} {a : AC} (h : LC P N ps c a) (l : Nat) : noLab a = true → findLabel c l = none := by
  induction h with
  | seq _ _ ih1 ih2 =>
    intro hn
    simp only [noLab, Bool.and_eq_true] at hn
    simp only [findLabel, ih1 hn.1, ih2 hn.2]
  | label => intro hn; simp [noLab] at hn
  | bad => intro hn; simp [noLab] at hn
  | _ => intro _; rfl
theorem findAC_spec {P : Program} {N : Nat} {ps : List Nat} {c : Code} {a : AC} (h : LC P N ps c a) {l : Nat} : ∀ {b : AC}, findAC l a = some b → ∃ rest, findLabel c l = some rest ∧ LC P N ps rest b := by
  induction h with
  | seq h1 h2 ih1 ih2 =>
    intro b hb
    simp only [findAC] at hb
    split at hb
    · cases hb
      obtain ⟨r, g1, g2⟩ := ih1 ‹_›
      exact ⟨_, by simp only [findLabel, g1], .seq g2 h2⟩
    · split at hb
      · rename_i hn
        obtain ⟨r, g1, g2⟩ := ih2 hb
        exact ⟨r, by simp only [findLabel, noLab_spec h1 l hn, g1], g2⟩
      · cases hb
  | @label l' =>
    intro b hb
    simp only [findAC] at hb
    split at hb
    · rename_i he
      cases hb
      exact ⟨.skip, by simp only [findLabel, he, if_true], .skip⟩
    · cases hb
  | _ => intro b hb; simp [findAC] at hb
/-- The image of code; 'K': what is kept, region by region and loop by loop. -/
def cCode (P : Program) (N : Nat) (ps E : List Nat) : Code → List (List Nat) → Option (AC × List (List Nat))
  | .skip, K => some (.skip, K)
  | .region _ ops false, ks :: K => match (cOpers P N ps ops ops.toList).map (fHs E) with
    | some xs => some (.reg xs ks, K)
    | none => none
  | .region _ ops true, [] :: ks :: K => match (cOpers P N ps ops ops.toList).map (fHs E) with
    | some xs => if noCall xs = true ∧ ops.size = xs.length then (match pickAs xs (linX ops ops.size (Array.replicate ops.size false)) with
      | some yss => some (.regE yss ks, K)
      | none => none) else some (.bad, K)
    | none => none
  | .region _ ops true, (1 :: anc) :: ks :: K => match (cOpers P N ps ops ops.toList).map (fHs E) with
    | some xs => if ancChk ops anc = true then (match linY ops xs anc ops.size (Array.replicate ops.size false) with
      | some yss => some (.regF yss ks, K)
      | none => none) else none
    | none => none
  | .region _ ops true, (0 :: anc) :: perm :: ks :: K => match (cOpers P N ps ops ops.toList).map (fHs E) with
    | some xs => if drawOK ops xs anc perm = true then (match pickA xs perm with
      | some ys => some (.regD ys ks, K)
      | none => none) else none
    | none => none
  | .seq x y, K => match cCode P N ps E x K with
    | some (a, K') => match cCode P N ps E y K' with
      | some (b, K'') => some (.seq a b, K'')
      | none => none
    | none => none
  | .cond c x y, K => match cO P 0 c, cCode P N ps E x K with
    | some c', some (a, K') => match cCode P N ps E y K' with
      | some (b, K'') => some (.cond c' a b, K'')
      | none => none
    | _, _ => none
  | .block id x, K => match cCode P N ps E x K with
    | some (a, K') => some (.block id a, K')
    | none => none
  | .loop x, ks :: K => match cCode P N ps E x K with
    | some (a, K') => some (.loop ks a, K')
    | none => none
  | .exit id, K => some (.exit id, K)
  | .ret, K => some (.ret, K)
  | .rangeFunc _ _ _ _, K => some (.bad, K)
  | .scope x, (l :: ks) :: K => match cCode P N ps E x K with
    | some (a, K') => match findAC l a with
      | some b => some (.scope l ks a b, K')
      | none => some (.bad, K')
    | none => none
  | .scope _, [] :: K => some (.bad, K)
  | .label l, K => some (.label l, K)
  | .goto l, K => some (.goto l, K)
  | .refuse _, K => some (.bad, K)
  | .region _ _ _, _ => none
  | .loop _, _ => none
  | .scope _, _ => none

section
variable {P : Program} {N : Nat} {ps : List Nat}
theorem cOper_spec {ops : Array Oper} {o : Oper} {x : AOp} (h : cOper P N ps ops o = some x) : LO P N ps ops o x := by
  unfold cOper at h
  split at h
  · rename_i a hd
    have ha : LV P o.type o.op ((cAct P o.type o.op).getD .bad) ∨ LE P o.type o.op ((cAct P o.type o.op).getD .bad) ∨ (cAct P o.type o.op).getD .bad = .bad := by
      cases hc : cAct P o.type o.op with
      | none => exact .inr (.inr rfl)
      | some y => exact (cAct_spec hc).elim .inl (fun h => .inr (.inl h))
    have hlt : ∀ t, o.dst = some t → t < N ∧ t ∉ ps := by
      intro t ht
      rw [ht] at hd
      simp only [Bool.and_eq_true, decide_eq_true_eq, Bool.not_eq_true'] at hd
      exact ⟨hd.1, fun hm => by rw [memb_iff.2 hm] at hd; cases hd.2⟩
    split at h
    · rename_i hg
      cases h
      exact ⟨rfl, hlt, ha, .inl ⟨hg, rfl⟩⟩
    · rename_i j b hg
      split at h
      · rename_i oj hj
        split at h
        · rename_i t ht
          cases h
          exact ⟨rfl, hlt, ha, .inr ⟨j, b, oj, t, hg, hj, ht, rfl⟩⟩
        · cases h
      · cases h
  · cases h
theorem cOpers_spec {ops : Array Oper} : ∀ {os : List Oper} {xs : List AOp}, cOpers P N ps ops os = some xs → LOs P N ps ops os xs
  | [], xs, h => by simp only [cOpers, Option.some.injEq] at h; subst h; exact .nil
  | o :: os, xs, h => by
    simp only [cOpers] at h
    split at h
    · rename_i x ys hx hy; cases h; exact .cons (cOper_spec hx) (cOpers_spec hy)
    · cases h
theorem map_spec {E : List Nat} {ops : Array Oper} {xs : List AOp} (h : (cOpers P N ps ops ops.toList).map (fHs E) = some xs) : LOs P N ps ops ops.toList xs := by
  obtain ⟨ys, h1, rfl⟩ := Option.map_eq_some_iff.1 h
  exact fHs_spec (cOpers_spec h1)
theorem cCode_spec {E : List Nat} : ∀ {c : Code} {K K' : List (List Nat)} {a : AC}, cCode P N ps E c K = some (a, K') → LC P N ps c a := by
  intro c
  induction c with
  | skip => intro K K' a h; simp only [cCode, Option.some.injEq, Prod.mk.injEq] at h; rw [← h.1]; exact .skip
  | region id ops d =>
    intro K K' a h
    cases d with
    | false =>
      cases K with
      | nil => simp only [cCode] at h; cases h
      | cons ks K =>
        simp only [cCode] at h
        split at h
        · cases h; exact .reg (map_spec ‹_›)
        · cases h
    | true =>
      match K, h with
      | [], h => simp only [cCode] at h; cases h
      | [[]], h => simp only [cCode] at h; cases h
      | [_ :: _], h => simp only [cCode] at h; cases h
      | [] :: ks :: K, h =>
        simp only [cCode] at h
        split at h
        · split at h
          · rename_i hc
            split at h
            · cases h; exact .regE (map_spec ‹_›) hc.1 hc.2 ‹_›
            · cases h
          · cases h; exact .bad
        · cases h
      | [0 :: anc, perm], h => simp only [cCode] at h; cases h
      | (1 :: anc) :: ks :: K, h =>
        simp only [cCode] at h
        split at h
        · split at h
          · rename_i hc
            split at h
            · cases h; exact .regF (map_spec ‹_›) hc ‹_›
            · cases h
          · cases h
        · cases h
      | ((n + 2) :: l) :: k :: K, h => simp only [cCode] at h; cases h
      | (0 :: anc) :: perm :: ks :: K, h =>
        simp only [cCode] at h
        split at h
        · split at h
          · rename_i hc
            split at h
            · cases h; exact .regD (map_spec ‹_›) hc ‹_›
            · cases h
          · cases h
        · cases h
  | seq x y ihx ihy =>
    intro K K' a h
    simp only [cCode] at h
    split at h
    · split at h
      · cases h; exact .seq (ihx ‹_›) (ihy ‹_›)
      · cases h
    · cases h
  | cond c x y ihx ihy =>
    intro K K' a h
    simp only [cCode] at h
    split at h
    · split at h
      · cases h; exact .cond (t := 0) ‹_› (ihx ‹_›) (ihy ‹_›)
      · cases h
    · cases h
  | block id x ih =>
    intro K K' a h
    simp only [cCode] at h
    split at h
    · cases h; exact .block (ih ‹_›)
    · cases h
  | loop x ih =>
    intro K K' a h
    cases K with
    | nil => simp only [cCode] at h; cases h
    | cons ks K =>
      simp only [cCode] at h
      split at h
      · cases h; exact .loop (ih ‹_›)
      · cases h
  | scope x ih =>
    intro K K' a h
    match K, h with
    | [], h => simp only [cCode] at h; cases h
    | [] :: K, h => simp only [cCode, Option.some.injEq, Prod.mk.injEq] at h; rw [← h.1]; exact .bad
    | (l :: ks) :: K, h =>
      simp only [cCode] at h
      split at h
      · split at h
        · cases h
          have hx := ih ‹_›
          obtain ⟨rest, g1, g2⟩ := findAC_spec hx ‹_›
          exact .scope hx g1 g2
        · cases h; exact .bad
      · cases h
  | label l => intro K K' a h; simp only [cCode, Option.some.injEq, Prod.mk.injEq] at h; rw [← h.1]; exact .label
  | goto l => intro K K' a h; simp only [cCode, Option.some.injEq, Prod.mk.injEq] at h; rw [← h.1]; exact .goto
  | exit id => intro K K' a h; simp only [cCode, Option.some.injEq, Prod.mk.injEq] at h; rw [← h.1]; exact .exit
  | ret => intro K K' a h; simp only [cCode, Option.some.injEq, Prod.mk.injEq] at h; rw [← h.1]; exact .ret
  | _ => intro K K' a h; simp only [cCode, Option.some.injEq, Prod.mk.injEq] at h; rw [← h.1]; exact .bad

/-! ### Functions -/
/-- Where a result lies at a function's end. -/
inductive RV where
  | t (n : Nat)
  | c (a n : Nat) (agg : Bool)
def cRes (P : Program) : List ResultVar → Option (List RV)
  | [] => some []
  | .tmp t :: rs => (cRes P rs).map (.t t :: ·)
  | .cell a t :: rs => match szAgg P t, cRes P rs with
    | some (n, g), some xs => some (.c a n g :: xs)
    | _, _ => none
def St.rv (σ : St) : RV → Option V
  | .t n => match lk σ.r n with
    | some v => if nt v = true then some v else none
    | none => none
  | .c a n g => match lk σ.r a with
    | some p => match σ.fetch p n with
      | some us => mkc g us
      | none => none
    | none => none
def St.rvs (σ : St) : List RV → Option (List V)
  | [] => some []
  | x :: xs => match σ.rv x, σ.rvs xs with
    | some v, some vs => some (v :: vs)
    | _, _ => none
def tupV : List V → V
  | [v] => v
  | vs => .tup vs
/-- What is handed back at a function's end. -/
def Res (rs : List RV) (post : V → Prop) : Ex → St → Prop := fun e σ => (match e with
    | .exit _ => False
    | .goto _ => False
    | _ => True) ∧ match σ.rvs rs with
    | some vs => match purs σ.h vs with
      | some us => post (tupV us)
      | none => False
    | none => False
def ent : Nat → List V → List (Nat × V)
  | _, [] => []
  | k, v :: vs => (k, v) :: ent (k + 1) vs

theorem lk_ent : ∀ {vs : List V} {k t : Nat} {v : V}, lk (ent k vs) t = some v → k ≤ t ∧ vs[t - k]? = some v
  | [], k, t, v, h => by simp [ent, lk] at h
  | u :: us, k, t, v, h => by
    simp only [ent, lk] at h
    split at h
    · rename_i he; subst he; cases h; exact ⟨Nat.le_refl _, by simp⟩
    · rename_i he
      obtain ⟨h1, h2⟩ := lk_ent h
      refine ⟨by omega, ?_⟩
      rw [show t - k = (t - (k + 1)) + 1 by omega]
      simpa using h2

variable {M0 : Mem} {B : Bas} {w0 : World} {κ : Kap} {M : Mem} {σ : St} {a : Act} {w : World}

def resF (a : Act) : ResultVar → Sem Value
  | .tmp t => pure (a.tmps.getD t undef)
  | .cell x t => do loadVar t (← asAddr (a.tmps.getD x undef))

theorem run_results {fn : Func} {rs : List RV} (hr : cRes P fn.results.toList = some rs) (H : Rel N M0 B w0 κ M σ a w) {vs : List V} (hv : σ.rvs rs = some vs) :
    ∃ cs : List Value, repAll M (XX κ σ.h) vs cs ∧ (results fn a.tmps).run P w = .ok (if h : cs.length = 1 then cs[0] else .tuple cs.toArray) w := by
  have key : ∀ (l : List ResultVar) (rs : List RV) (vs : List V), cRes P l = some rs → σ.rvs rs = some vs →
      ∃ cs : List Value, repAll M (XX κ σ.h) vs cs ∧ (l.mapM (resF a)).run P w = .ok cs w := by
    intro l
    induction l with
    | nil =>
      intro rs vs h1 h2
      simp only [cRes, Option.some.injEq] at h1
      subst h1
      simp only [St.rvs, Option.some.injEq] at h2
      subst h2
      exact ⟨[], by simp [repAll], by simp⟩
    | cons x l ih =>
      intro rs vs h1 h2
      cases x with
      | tmp t =>
        simp only [cRes, Option.map_eq_some_iff] at h1
        obtain ⟨rs', h1, rfl⟩ := h1
        simp only [St.rvs] at h2
        split at h2
        · rename_i v us g1 g2
          cases h2
          obtain ⟨cs, k1, k2⟩ := ih rs' us h1 g2
          simp only [St.rv] at g1
          split at g1
          · rename_i u hu
            split at g1
            · cases g1
              obtain ⟨_, c, e1, e2⟩ := H.regs _ _ hu
              refine ⟨c :: cs, by simp only [repAll]; exact ⟨c, cs, rfl, e2, k1⟩, ?_⟩
              have hF : (resF a (.tmp t)).run P w = .ok c w := by simp [resF, e1]
              rw [List.mapM_cons, Sem.run_bind, hF, Result.andThen_ok, Sem.run_bind, k2, Result.andThen_ok, Sem.run_pure]
            · cases g1
          · cases g1
        · cases h2
      | cell t ty =>
        simp only [cRes] at h1
        split at h1
        · rename_i n g xs hs hx
          cases h1
          simp only [St.rvs] at h2
          split at h2
          · rename_i v us g1 g2
            cases h2
            obtain ⟨cs, k1, k2⟩ := ih _ us hx g2
            simp only [St.rv] at g1
            split at g1
            · rename_i p hp
              split at g1
              · rename_i vs' hf
                obtain ⟨s1, s2, s3⟩ := szAgg_spec hs
                obtain ⟨_, c, e1, e2⟩ := H.regs _ _ hp
                obtain ⟨b, o', ds, e, f1, f2, f3, f4⟩ := fetch_sound H e2 hf
                subst e
                rcases mkc_rep g1 f1 f2 with ⟨rfl, hk⟩ | ⟨rfl, c, hk1, hk2⟩
                · refine ⟨.agg ds.toArray :: cs, by simp only [repAll]; exact ⟨_, cs, rfl, hk, k1⟩, ?_⟩
                  have := run_loadCells_list (P := P) w ⟨b, o', none⟩ ds f4
                  rw [f3] at this
                  have hF : (resF a (.cell t ty)).run P w = .ok (.agg ds.toArray) w := by simp [resF, e1, asAddr, loadVar, run_isAgg s2, run_sizeOf s1, this]
                  rw [List.mapM_cons, Sem.run_bind, hF, Result.andThen_ok, Sem.run_bind, k2, Result.andThen_ok, Sem.run_pure]
                · refine ⟨c :: cs, by simp only [repAll]; exact ⟨c, cs, rfl, hk2, k1⟩, ?_⟩
                  have := f4 0 c (by simp [hk1])
                  rw [Addr.add_lit] at this
                  simp at this
                  have hF : (resF a (.cell t ty)).run P w = .ok c w := by simp [resF, e1, asAddr, loadVar, run_isAgg s2, this]
                  rw [List.mapM_cons, Sem.run_bind, hF, Result.andThen_ok, Sem.run_bind, k2, Result.andThen_ok, Sem.run_pure]
              · cases g1
            · cases g1
          · cases h2
        · cases h1
  obtain ⟨cs, k1, k2⟩ := key _ _ _ hr hv
  refine ⟨cs, k1, ?_⟩
  have e : results fn a.tmps = (do
      let vs ← fn.results.mapM (resF a)
      pure (if h : vs.size = 1 then vs[0] else .tuple vs)) := by
    unfold results
    congr 2
  rw [e, Array.mapM_eq_mapM_toList]
  simp [Sem.run_bind, k2]

/-- A function's contract, from its code's image. -/
theorem FnE.of_W {f : FuncId} {fn : Func} {c : Code} {us : List V} {r : V} {x : AC} {rs : List RV} (hm : P.follows .mixedOrders = true) (hf : P.funcs[f]? = some fn) (hb : fn.body = some c)
    (hn : (fn.name == "runtime.NumGoroutine") = false) (hc : LC P fn.ntmps [] c x) (hr : cRes P fn.results.toList = some rs) (hs : us.length ≤ fn.ntmps)
    (hW : oks us → W (Cn P) x (Res rs (· = r)) ⟨ent 0 us, []⟩) : FnE P f us r where
  call := fun args w => by
    unfold callFunc
    simp only [beq_eq_false_iff_ne, ne_eq] at hn
    simp [Sem.run_bind, hf, hb, hn]
  does := fun M w cs hM hus => by
    have hl : cs.size = us.length := by have := repAll_length hus; simpa using this
    refine calls_of_wp hf hb ?_
    have H : Rel fn.ntmps M ⟨w.heap.size, fun _ => False, [], #[], w.heap.size⟩ w ⟨fun _ => undef, fun _ _ => undef, fun _ _ => False, fun _ => none⟩ M ⟨ent 0 us, []⟩ { tmps := cs ++ Array.replicate (fn.ntmps - cs.size) undef, defers := [] } w :=
      { dfr := rfl, pin := fun i hi => by cases hi
        size := by simp; omega
        regs := fun t v ht => by
          obtain ⟨_, h2⟩ := lk_ent ht
          simp only [Nat.sub_zero] at h2
          have hlt : t < us.length := (List.getElem?_eq_some_iff.1 h2).1
          obtain ⟨c, h3, h4⟩ := repAll_get hus h2
          refine ⟨by omega, c, ?_, rep_mono (fun _ _ h => h) (fun _ _ h => h.elim) _ _ h4⟩
          rw [Array.getElem?_append_left (by omega)]
          simpa using h3
        heap := fun id ob h => by simp at h
        inj := fun i j oi oj g h => by simp at h
        snd := hM.snd
        sep := fun p v _ id ob h => by simp at h
        sub := ⟨fun _ _ h => h, fun _ _ h => (by cases h), fun _ _ h => (by cases h), Nat.le_refl _, hM.gl⟩
        new := fun _ _ h => .inl h
        base := rfl
        blw := Und.refl _ _ }
    refine W_sound hm (B := ⟨w.heap.size, fun _ => False, [], #[], w.heap.size⟩) hc ?_ H (hW (repAll_ok hus))
    intro e κ M1 σ a w1 hR H1
    simp only [Res] at hR
    obtain ⟨he, hR⟩ := hR
    split at hR
    · rename_i vs hvs
      split at hR
      · rename_i ws hws
        obtain ⟨ds, k1, k2⟩ := run_results hr H1 hvs
        obtain ⟨H2, hM1⟩ := H1.kill (vidss vs) (purs_in hws)
        have k3 : repAll (ext M1 w1 (blks κ (vidss vs))) NX ws ds := by
          refine purs_rep H1 hM1 (fun id hid g hg p hpb => ?_) k1 hws
          unfold ext
          rw [if_pos (mem_blks.2 ⟨id, hid, by rw [hpb]; exact hg⟩)]
        have fin : bodyPost P fn (fun e w' => ∃ (c : Value) (M' : Mem), e = .returned c ∧ rep M' NX r c ∧ Below w.heap.size w w' ∧ (∀ p v, M' p = some v → w'.cell? p = some v) ∧
            (∀ p v, M p = some v → M' p = some v) ∧ ∀ p v, M' p = some v → M p = some v ∨ w.heap.size ≤ p.block) .normal a w1 := by
          refine ⟨H1.dfr, _, k2, _, _, rfl, ?_, ⟨H1.blw.os, H1.blw.tape, H1.blw.output, H1.blw.size, fun k hk => H1.blw.block k hk id⟩, H2.snd, H2.sub.sub, fun p v h => (H2.new p v h).imp_right fun h => h.elim id False.elim⟩
          subst hR
          match ws, ds, k3 with
          | [], [], k3 => simp only [tupV, rep]; exact ⟨#[], rfl, by simp [repAll]⟩
          | [v], [d], k3 =>
            simp only [repAll] at k3
            obtain ⟨_, _, h1, h2, _⟩ := k3
            cases h1
            simpa [tupV] using h2
          | v :: v' :: vs', d :: d' :: ds', k3 =>
            have e : (if h : (d :: d' :: ds').length = 1 then (d :: d' :: ds')[0] else .tuple (d :: d' :: ds').toArray) = .tuple (d :: d' :: ds').toArray := dif_neg (by simp)
            rw [e]
            simp only [tupV, rep]
            exact ⟨_, rfl, by simpa using k3⟩
          | [], d :: ds, k3 => simp [repAll] at k3
          | v :: vs, [], k3 => simp [repAll] at k3
          | [v], d :: d' :: ds, k3 => simp [repAll] at k3
          | v :: v' :: vs, [d], k3 =>
            simp only [repAll] at k3
            obtain ⟨c, cs', h1, _, c2, cs2, h2, _⟩ := k3
            cases h1
            cases h2
        cases e with
        | norm => exact fin
        | ret => exact fin
        | exit id => exact he.elim
        | goto l => exact he.elim
      · exact hR.elim
    · exact hR.elim

/-- As 'Res'; what is handed back lies in new memory alone. -/
def ResN (rs : List RV) (r : V) : Ex → St → Prop := fun e σ => (match e with
    | .exit _ => False
    | .goto _ => False
    | _ => True) ∧ match σ.rvs rs with
    | some vs => fres σ.h vs = true ∧ (match purs σ.h vs with
      | some us => tupV us = r
      | none => False)
    | none => False
theorem tupV_rep {M : Mem} {X : V → Value → Prop} : ∀ {ws : List V} {ds : List Value}, repAll M X ws ds → rep M X (tupV ws) (if h : ds.length = 1 then ds[0] else .tuple ds.toArray)
  | [], [], k3 => by simp only [tupV, rep]; exact ⟨#[], rfl, by simp [repAll]⟩
  | [v], [d], k3 => by
    simp only [repAll] at k3
    obtain ⟨_, _, h1, h2, _⟩ := k3
    cases h1
    simpa [tupV] using h2
  | v :: v' :: vs', d :: d' :: ds', k3 => by
    have e : (if h : (d :: d' :: ds').length = 1 then (d :: d' :: ds')[0] else .tuple (d :: d' :: ds').toArray) = .tuple (d :: d' :: ds').toArray := dif_neg (by simp)
    rw [e]
    simp only [tupV, rep]
    exact ⟨_, rfl, by simpa using k3⟩
  | [], d :: ds, k3 => by simp [repAll] at k3
  | v :: vs, [], k3 => by simp [repAll] at k3
  | [v], d :: d' :: ds, k3 => by simp [repAll] at k3
  | v :: v' :: vs, [d], k3 => by
    simp only [repAll] at k3
    obtain ⟨c, cs', h1, _, c2, cs2, h2, _⟩ := k3
    cases h1
    cases h2
theorem FnN.of_W {f : FuncId} {fn : Func} {c : Code} {us : List V} {r : V} {x : AC} {rs : List RV} (hm : P.follows .mixedOrders = true) (hf : P.funcs[f]? = some fn) (hb : fn.body = some c)
    (hn : (fn.name == "runtime.NumGoroutine") = false) (hc : LC P fn.ntmps [] c x) (hr : cRes P fn.results.toList = some rs) (hs : us.length ≤ fn.ntmps)
    (hW : oks us → W (Cn P) x (ResN rs r) ⟨ent 0 us, []⟩) : FnN P f us r := by
  intro M w cs hM hus o a Nx Q hN
  have hcall : (callFunc f cs).run P w = .ok (.enter f cs) w := by
    unfold callFunc
    simp only [beq_eq_false_iff_ne, ne_eq] at hn
    simp [Sem.run_bind, hf, hb, hn]
  have hl : cs.size = us.length := by have := repAll_length hus; simpa using this
  rw [hcall, Oper.upon_enter]
  have key : Calls P f cs w fun e w' => ∃ (c : Value) (M' : Mem), e = .returned c ∧ rep (newM w M') NX r c ∧ Below w.heap.size w w' ∧ ∀ p v, M' p = some v → w'.cell? p = some v := by
    refine calls_of_wp hf hb ?_
    have H : Rel fn.ntmps M ⟨w.heap.size, fun _ => False, [], #[], w.heap.size⟩ w ⟨fun _ => undef, fun _ _ => undef, fun _ _ => False, fun _ => none⟩ M ⟨ent 0 us, []⟩ { tmps := cs ++ Array.replicate (fn.ntmps - cs.size) undef, defers := [] } w :=
      { dfr := rfl, pin := fun i hi => by cases hi
        size := by simp; omega
        regs := fun t v ht => by
          obtain ⟨_, h2⟩ := lk_ent ht
          simp only [Nat.sub_zero] at h2
          have hlt : t < us.length := (List.getElem?_eq_some_iff.1 h2).1
          obtain ⟨c, h3, h4⟩ := repAll_get hus h2
          refine ⟨by omega, c, ?_, rep_mono (fun _ _ h => h) (fun _ _ h => h.elim) _ _ h4⟩
          rw [Array.getElem?_append_left (by omega)]
          simpa using h3
        heap := fun id ob h => by simp at h
        inj := fun i j oi oj g h => by simp at h
        snd := hM.snd
        sep := fun p v _ id ob h => by simp at h
        sub := ⟨fun _ _ h => h, fun _ _ h => (by cases h), fun _ _ h => (by cases h), Nat.le_refl _, hM.gl⟩
        new := fun _ _ h => .inl h
        base := rfl
        blw := Und.refl _ _ }
    refine W_sound hm (B := ⟨w.heap.size, fun _ => False, [], #[], w.heap.size⟩) hc ?_ H (hW (repAll_ok hus))
    intro e κ M1 σ a w1 hR H1
    simp only [ResN] at hR
    obtain ⟨he, hR⟩ := hR
    split at hR
    · rename_i vs hvs
      obtain ⟨hfr, hR⟩ := hR
      split at hR
      · rename_i ws hws
        obtain ⟨ds, k1, k2⟩ := run_results hr H1 hvs
        obtain ⟨H2, hM1⟩ := H1.kill (vidss vs) (purs_in hws)
        have k3 : repAll (newM w (ext M1 w1 (blks κ (vidss vs)))) NX ws ds := by
          refine fres_rep H1 (fun p v hp => by unfold newM; rw [if_pos (H1.sub.fmN p v hp)]; exact hM1 p v (H1.sub.fmS p v hp)) (fun id hid g hg p hpb => ?_) hfr k1 hws
          obtain ⟨ob, hob⟩ := purs_in hws id hid
          have hgw : w.heap.size ≤ g := by
            rcases (H1.blk_lt hob hg).1 with h | h
            · exact h
            · exact h.elim
          unfold newM
          rw [if_pos (by omega)]
          unfold ext
          rw [if_pos (mem_blks.2 ⟨id, hid, by rw [hpb]; exact hg⟩)]
        have fin : bodyPost P fn (fun e w' => ∃ (c : Value) (M' : Mem), e = .returned c ∧ rep (newM w M') NX r c ∧ Below w.heap.size w w' ∧ ∀ p v, M' p = some v → w'.cell? p = some v) .normal a w1 := by
          refine ⟨H1.dfr, _, k2, _, _, rfl, ?_, ⟨H1.blw.os, H1.blw.tape, H1.blw.output, H1.blw.size, fun k hk => H1.blw.block k hk id⟩, H2.snd⟩
          subst hR
          exact tupV_rep k3
        cases e with
        | norm => exact fin
        | ret => exact fin
        | exit id => exact he.elim
        | goto l => exact he.elim
      · exact hR.elim
    · exact hR.elim
  refine key.mono ?_
  rintro e w' ⟨c, M', rfl, h1, h2, h3⟩
  exact hN c M' w' h1 h2 h3

mutual
/-- A value of which what lies in memory is not looked at. -/
def jk : V → V
  | .seq sz l => if l.isEmpty = true then .seq sz l else .junk
  | .strct cs => .strct (jks cs)
  | .tup cs => .tup (jks cs)
  | .sptr _ _ => .junk
  | v => v
def jks : List V → List V
  | [] => []
  | v :: vs => jk v :: jks vs
end
mutual
theorem jk_rep {M : Mem} {X : V → Value → Prop} : ∀ {v : V} {c : Value}, rep M X v c → rep M X (jk v) c
  | .seq sz l, c, h => by
    simp only [jk]
    split
    · exact h
    · simp only [rep] at h ⊢
      obtain ⟨a, cap, rfl, _⟩ := h
      rfl
  | .strct cs, c, h => by
    simp only [rep, jk] at h ⊢
    obtain ⟨arr, h1, h2, h3⟩ := h
    exact ⟨arr, h1, jks_rep h2, h3⟩
  | .tup cs, c, h => by
    simp only [rep, jk] at h ⊢
    obtain ⟨arr, h1, h2⟩ := h
    exact ⟨arr, h1, jks_rep h2⟩
  | .sptr _ _, c, h => by
    simp only [rep, jk] at h ⊢
    obtain ⟨b, o, y, rfl, _⟩ := h
    rfl
  | .int _ _, _, h => h
  | .bool _, _, h => h
  | .str _, _, h => h
  | .nil _, _, h => h
  | .ref _ _, _, h => h
  | .ptr _ _, _, h => h
  | .eptr _ _ _ _, _, h => h
  | .mref _ _ _, _, h => h
  | .fseq _ _, _, h => h
  | .mptr _ _ _ _ _, _, h => h
  | .nilptr, _, h => h
  | .fn _ _ _, _, h => h
  | .nilfn, _, h => h
  | .iface _ _, _, h => h
  | .niliface, _, h => h
  | .junk, _, h => h
theorem jks_rep {M : Mem} {X : V → Value → Prop} : ∀ {vs : List V} {cs : List Value}, repAll M X vs cs → repAll M X (jks vs) cs
  | [], _, h => h
  | v :: vs, cs, h => by
    simp only [repAll, jks] at h ⊢
    obtain ⟨c, cs', h1, h2, h3⟩ := h
    exact ⟨c, cs', h1, jk_rep h2, jks_rep h3⟩
end
theorem Fn.weak {f : FuncId} {us : List V} {r r' : V} (h : Fn P f us r) (hr : ∀ M c, rep M NX r c → rep M NX r' c) : Fn P f us r' :=
  fun M w cs hM hus o a Nx Q hN => h M w cs hM hus o a Nx Q fun c M' w' h1 => hN c M' w' (hr M' c h1)
theorem Fn.jk {f : FuncId} {us : List V} {r : V} (h : Fn P f us r) : Fn P f us (jk r) := h.weak fun _ _ => jk_rep
/-- The image of a function's code and of its results, reckoned. -/
def image (P : Program) (fn : Func) (K : List (List Nat)) (n : Nat) : Option (AC × List RV) :=
  match fn.body with
  | some c => match cCode P fn.ntmps [] [] c K, cRes P fn.results.toList with
    | some (x, []), some rs => if (fn.name == "runtime.NumGoroutine") = false ∧ n ≤ fn.ntmps then some (x, rs) else none
    | _, _ => none
  | none => none

theorem FnE.of_image {f : FuncId} {fn : Func} {us : List V} {r : V} {x : AC} {K : List (List Nat)} {rs : List RV} {n : Nat} (hm : P.follows .mixedOrders = true) (hf : P.funcs[f]? = some fn)
    (hi : image P fn K n = some (x, rs)) (hn : us.length = n) (hW : oks us → W (Cn P) x (Res rs (· = r)) ⟨ent 0 us, []⟩) : FnE P f us r := by
  unfold image at hi
  split at hi
  · split at hi
    · split at hi
      · rename_i hc
        cases hi
        exact FnE.of_W hm hf ‹_› hc.1 (cCode_spec ‹_›) ‹_› (by rw [hn]; exact hc.2) hW
      · cases hi
    · cases hi
  · cases hi
theorem Fn.of_image {f : FuncId} {fn : Func} {us : List V} {r : V} {x : AC} {K : List (List Nat)} {rs : List RV} {n : Nat} (hm : P.follows .mixedOrders = true) (hf : P.funcs[f]? = some fn)
    (hi : image P fn K n = some (x, rs)) (hn : us.length = n) (hW : oks us → W (Cn P) x (Res rs (· = r)) ⟨ent 0 us, []⟩) : Fn P f us r := (FnE.of_image hm hf hi hn hW).fn

theorem FnN.of_image {f : FuncId} {fn : Func} {us : List V} {r : V} {x : AC} {K : List (List Nat)} {rs : List RV} {n : Nat} (hm : P.follows .mixedOrders = true) (hf : P.funcs[f]? = some fn)
    (hi : image P fn K n = some (x, rs)) (hn : us.length = n) (hW : oks us → W (Cn P) x (ResN rs r) ⟨ent 0 us, []⟩) : FnN P f us r := by
  unfold image at hi
  split at hi
  · split at hi
    · split at hi
      · rename_i hc
        cases hi
        exact FnN.of_W hm hf ‹_› hc.1 (cCode_spec ‹_›) ‹_› (by rw [hn]; exact hc.2) hW
      · cases hi
    · cases hi
  · cases hi

/-! ### Functions that turn what is lent to them -/
def pvals : List (Nat × V) → List V
  | [] => []
  | (_, v) :: r => v :: pvals r
def pinEq (m : List Nat) (r : List (Nat × V)) (us : List V) : List Nat → Prop
  | [] => True
  | i :: is => (match lk r i, us[i]? with
    | some v, some u => ren m v = u
    | _, _ => False) ∧ pinEq m r us is
def resHM (σ : St) (ps : List Nat) (us : List V) (r : V) (H' : List (Option Ob)) (vs : List V) (m : List Nat) : Prop :=
  pinEq m σ.r us ps ∧ tupV (rens m vs) = r ∧ renH σ.h m m = H'
/-- What is handed back, and left, at such a function's end. -/
def ResH (rs : List RV) (ps : List Nat) (us : List V) (r : V) (H' : List (Option Ob)) : Ex → St → Prop := fun e σ => (match e with
    | .exit _ => False
    | .goto _ => False
    | _ => True) ∧ match σ.rvs rs with
    | some vs => resHM σ ps us r H' vs (lent σ.h (pvals (pk σ.r ps)) vs).2
    | none => False
theorem pinEq_get {m : List Nat} {r : List (Nat × V)} {us : List V} : ∀ {is : List Nat}, pinEq m r us is → ∀ i, i ∈ is → ∃ v u, lk r i = some v ∧ us[i]? = some u ∧ ren m v = u
  | [], _, i, hi => by cases hi
  | j :: is, h, i, hi => by
    simp only [pinEq] at h
    rcases List.mem_cons.1 hi with rfl | hi
    · have h1 := h.1
      split at h1
      · exact ⟨_, _, by assumption, by assumption, h1⟩
      · exact h1.elim
    · exact pinEq_get h.2 i hi

theorem FnH.of_W {f : FuncId} {fn : Func} {c : Code} {ps : List Nat} {us : List V} {H H' : List (Option Ob)} {r : V} {x : AC} {rs : List RV} (hm : P.follows .mixedOrders = true) (hf : P.funcs[f]? = some fn) (hb : fn.body = some c)
    (hn : (fn.name == "runtime.NumGoroutine") = false) (hc : LC P fn.ntmps ps c x) (hr : cRes P fn.results.toList = some rs) (hs : us.length ≤ fn.ntmps) (hps : ∀ i ∈ ps, i < us.length)
    (hW : oks us → okH H → W (Cn P) x (ResH rs ps us r H') ⟨ent 0 us, H⟩) : FnH P f ps us H r H' := by
  intro M w κ cs hp hus o a Nx Q hN
  have hcall : (callFunc f cs).run P w = .ok (.enter f cs) w := by
    unfold callFunc
    simp only [beq_eq_false_iff_ne, ne_eq] at hn
    simp [Sem.run_bind, hf, hb, hn]
  have hl : cs.size = us.length := by have := repAll_length hus; simpa using this
  rw [hcall, Oper.upon_enter]
  have key : Calls P f cs w fun e w' => ∃ (c : Value) (M' : Mem) (κ' : Kap), e = .returned c ∧ rep M' (XX κ' H') r c ∧ Und (lentB κ H w ps cs) w w' ∧ Heap κ' M' (lentB κ H w ps cs) w' H' ∧
      (∀ p v, M p = some v → M' p = some v) ∧ (∀ p v, M' p = some v → M p = some v ∨ (lentB κ H w ps cs).own p.block) ∧
      (∀ i, i ∈ ps → ∀ u d, us[i]? = some u → cs[i]? = some d → rep M' (XX κ' H') u d) := by
    refine calls_of_wp hf hb ?_
    have H0 : Rel fn.ntmps M (lentB κ H w ps cs) w κ M ⟨ent 0 us, H⟩ { tmps := cs ++ Array.replicate (fn.ntmps - cs.size) undef, defers := [] } w :=
      { dfr := rfl
        pin := fun i hi => by
          have hi : i ∈ ps := hi
          have := hps i hi
          show (cs ++ Array.replicate (fn.ntmps - cs.size) undef)[i]? = cs[i]?
          rw [Array.getElem?_append_left (by omega)]
        size := by simp; omega
        regs := fun t v ht => by
          obtain ⟨_, h2⟩ := lk_ent ht
          simp only [Nat.sub_zero] at h2
          have hlt : t < us.length := (List.getElem?_eq_some_iff.1 h2).1
          obtain ⟨c, h3, h4⟩ := repAll_get hus h2
          refine ⟨by omega, c, ?_, h4⟩
          rw [Array.getElem?_append_left (by omega)]
          simpa using h3
        heap := hp.heap
        inj := hp.inj
        snd := hp.snd
        sep := hp.sep
        sub := ⟨fun _ _ h => h, hp.fmS, fun _ _ _ => Nat.zero_le _, Nat.zero_le _, hp.gl⟩
        new := fun _ _ h => .inl h
        base := rfl
        blw := Und.refl _ _ }
    refine W_sound hm (B := lentB κ H w ps cs) hc ?_ H0 (hW (repAll_ok hus) (heap_ok hp.heap))
    intro e κ1 M1 σ a w1 hR H1
    simp only [ResH] at hR
    obtain ⟨he, hR⟩ := hR
    split at hR
    · rename_i vs hvs
      obtain ⟨ds, k1, k2⟩ := run_results hr H1 hvs
      obtain ⟨hmn, _, _⟩ := lent_spec (h := σ.h) (pvs := pvals (pk σ.r ps)) (vs := vs)
      generalize (lent σ.h (pvals (pk σ.r ps)) vs).2 = m at *
      obtain ⟨hR1, hR2, hR3⟩ := hR
      have H2 := H1.ren hmn [] (fun t v h => by simp [lk] at h)
      have k3 := rens_rep (XX_ren (M := M1) (κ := κ1) (h := σ.h) hmn) k1
      simp only [renR] at H2
      rw [hR3] at H2 k3
      have hpin : ∀ i, i ∈ ps → ∀ u d, us[i]? = some u → cs[i]? = some d → rep M1 (XX (κ1.ren m) H') u d := by
        intro i hi u d hu hd
        obtain ⟨v, u', e1, e2, e3⟩ := pinEq_get hR1 i hi
        rw [hu] at e2
        cases e2
        obtain ⟨_, c, g2, g3⟩ := H1.regs i v e1
        rw [H1.pin i hi] at g2
        have g2 : cs[i]? = some c := g2
        rw [hd] at g2
        cases g2
        rw [← e3, ← hR3]
        exact ren_rep (XX_ren hmn) g3
      generalize hk' : κ1.ren m = κ' at *
      have fin : bodyPost P fn (fun e w' => ∃ (c : Value) (M' : Mem) (κ' : Kap), e = .returned c ∧ rep M' (XX κ' H') r c ∧ Und (lentB κ H w ps cs) w w' ∧ Heap κ' M' (lentB κ H w ps cs) w' H' ∧
          (∀ p v, M p = some v → M' p = some v) ∧ (∀ p v, M' p = some v → M p = some v ∨ (lentB κ H w ps cs).own p.block) ∧
          (∀ i, i ∈ ps → ∀ u d, us[i]? = some u → cs[i]? = some d → rep M' (XX κ' H') u d)) .normal a w1 := by
        refine ⟨H1.dfr, _, k2, _, M1, κ', rfl, ?_, H1.blw, ⟨H2.heap, H2.inj, H2.snd, H2.sep, H2.sub.fmS, fun p v h => H2.sub.sub p v (H2.sub.gl p v h)⟩, H1.sub.sub, H1.new, hpin⟩
        subst hR2
        generalize rens m vs = ws at *
        match ws, ds, k3 with
        | [], [], k3 => simp only [tupV, rep]; exact ⟨#[], rfl, by simp [repAll]⟩
        | [v], [d], k3 =>
          simp only [repAll] at k3
          obtain ⟨_, _, h1, h2, _⟩ := k3
          cases h1
          simpa [tupV] using h2
        | v :: v' :: vs', d :: d' :: ds', k3 =>
          have e : (if h : (d :: d' :: ds').length = 1 then (d :: d' :: ds')[0] else .tuple (d :: d' :: ds').toArray) = .tuple (d :: d' :: ds').toArray := dif_neg (by simp)
          rw [e]
          simp only [tupV, rep]
          exact ⟨_, rfl, by simpa using k3⟩
        | [], d :: ds, k3 => simp [repAll] at k3
        | v :: vs, [], k3 => simp [repAll] at k3
        | [v], d :: d' :: ds, k3 => simp [repAll] at k3
        | v :: v' :: vs, [d], k3 =>
          simp only [repAll] at k3
          obtain ⟨c, cs', h1, _, c2, cs2, h2, _⟩ := k3
          cases h1
          cases h2
      cases e with
      | norm => exact fin
      | ret => exact fin
      | exit id => exact he.elim
      | goto l => exact he.elim
    · exact hR.elim
  refine key.mono ?_
  rintro e w' ⟨c, M', κ', rfl, h1, h2, h3, h4, h5, h6⟩
  exact hN c M' w' κ' h1 h2 h3 h4 h5 h6

def imageE (P : Program) (fn : Func) (ps E : List Nat) (K : List (List Nat)) (n : Nat) : Option (AC × List RV) :=
  match fn.body with
  | some c => match cCode P fn.ntmps ps E c K, cRes P fn.results.toList with
    | some (x, []), some rs => if (fn.name == "runtime.NumGoroutine") = false ∧ n ≤ fn.ntmps ∧ ps.all (fun i => decide (i < n)) = true then some (x, rs) else none
    | _, _ => none
  | none => none
theorem FnH.of_image {f : FuncId} {fn : Func} {ps E : List Nat} {us : List V} {H H' : List (Option Ob)} {r : V} {x : AC} {K : List (List Nat)} {rs : List RV} {n : Nat} (hm : P.follows .mixedOrders = true) (hf : P.funcs[f]? = some fn)
    (hi : imageE P fn ps E K n = some (x, rs)) (hn : us.length = n) (hW : oks us → okH H → W (Cn P) x (ResH rs ps us r H') ⟨ent 0 us, H⟩) : FnH P f ps us H r H' := by
  unfold imageE at hi
  split at hi
  · split at hi
    · split at hi
      · rename_i hc
        cases hi
        exact FnH.of_W hm hf ‹_› hc.1 (cCode_spec ‹_›) ‹_› (by rw [hn]; exact hc.2.1) (fun i hi => by have := List.all_eq_true.1 hc.2.2 i hi; simp at this; omega) hW
      · cases hi
    · cases hi
  · cases hi
theorem Fn.of_imageE {f : FuncId} {fn : Func} {E : List Nat} {us : List V} {r : V} {x : AC} {K : List (List Nat)} {rs : List RV} {n : Nat} (hm : P.follows .mixedOrders = true) (hf : P.funcs[f]? = some fn)
    (hi : imageE P fn [] E K n = some (x, rs)) (hn : us.length = n) (hW : oks us → W (Cn P) x (Res rs (· = r)) ⟨ent 0 us, []⟩) : Fn P f us r := by
  unfold imageE at hi
  split at hi
  · split at hi
    · split at hi
      · rename_i hc
        cases hi
        exact (FnE.of_W hm hf ‹_› hc.1 (cCode_spec ‹_›) ‹_› (by rw [hn]; exact hc.2.1) hW).fn
      · cases hi
    · cases hi
  · cases hi
end
end Go.Abs
