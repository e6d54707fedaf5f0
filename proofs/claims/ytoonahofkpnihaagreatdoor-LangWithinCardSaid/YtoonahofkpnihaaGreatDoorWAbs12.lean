/-
  The qK of a function's code, reckoned; and a function's contract from what 'W' says of the qK. No condition.
  What 'simp' is told of the abstract machine: it goes through code step by step, and looks at nothing that lies ahead. No condition.
  Short words for the abstract machine's code. No condition.
-/
import Derived.Test.YtoonahofkpnihaaGreatDoorWAbs10
set_option linter.unusedVariables false
set_option linter.unusedSimpArgs false
set_option linter.unusedSectionVars false
set_option maxHeartbeats 4000000
set_option maxRecDepth 100000
section
namespace Go.Abs
open Go.RowKit
def cBin (P : Program) (op : BinOp) (xt : TypeId) (u v : AO) : Act' :=
 match P.underlying xt, op with
 | some .bool, .eql => .beq false u v
 | some .bool, .neq => .beq true u v
 | some (.struct _), .eql => match ktT P xt with
   | some kt => if kt.agg = true then .aeq false kt u v else .bin op u v
   | none => .bin op u v
 | some (.struct _), .neq => match ktT P xt with
   | some kt => if kt.agg = true then .aeq true kt u v else .bin op u v
   | none => .bin op u v
 | some (.array _ _), .eql => match ktT P xt with
   | some kt => if kt.agg = true then .aeq false kt u v else .bin op u v
   | none => .bin op u v
 | some (.array _ _), .neq => match ktT P xt with
   | some kt => if kt.agg = true then .aeq true kt u v else .bin op u v
   | none => .bin op u v
 | _, _ => .bin op u v
def szAgg (P : Program) (t : TypeId) : Option (Nat × Bool) :=
 match szOf P t, aggOf P t with
 | some n, some g => if g = true ∨ n = 1 then some (n, g) else none
 | _, _ => none
def cSlot (P : Program) (t : TypeId) (i : Nat) : Option (Nat × TypeId) :=
 match P.underlying t with
 | some (.struct fs) => match fs[i]? with
   | some f => some (f.offset, f.type)
   | none => none
 | _ => none
def cCall (P : Program) (c : Call) : Option Act' :=
 match c with
 | { callee := .builtin .len, args := args, argTypes := ts } => match args.toList, ts.toList with
   | [x], [t] => match cO P t x, P.underlying t with
     | some u, some .string => some (.lens u)
     | some u, some (.slice _) => some (.lenq u)
     | _, _ => none
   | _, _ => none
 | { callee := .builtin .append, args := args, argTypes := ts } => match args.toList, ts.toList with
   | [x, y], [t, t'] => if t = t' then (match P.underlying t with
     | some (.slice e) => match P.info? e with
       | some i => match i.zero, cO P t x, cO P t y with
         | some z, some x', some y' => if 0 < i.bytes ∧ z.cells.size = i.size ∧ 0 < i.size then some (.app x' y' e i.size i.bytes) else none
         | _, _, _ => none
       | none => none
     | _ => none) else none
   | _, _ => none
 | { callee := .builtin .max, args := args, argTypes := ts } => match args.toList, ts.toList with
   | [x, y], [t, t'] => match cO P t x, cO P t' y with
     | some u, some v => some (.mm true u v)
     | _, _ => none
   | _, _ => none
 | { callee := .builtin .min, args := args, argTypes := ts } => match args.toList, ts.toList with
   | [x, y], [t, t'] => match cO P t x, cO P t' y with
     | some u, some v => some (.mm false u v)
     | _, _ => none
   | _, _ => none
 | { callee := .invoke r name, args := args, argTypes := ts } => match cO P 0 r, cOs P ts.toList args.toList with
   | some x, some xs => some (.inv (invT P name) x xs)
   | _, _ => none
 | { callee := .value (.func f), args := args, argTypes := ts } => match cOs P ts.toList args.toList with
   | some xs => some (.call f xs)
   | none => none
 | { callee := .value (.tmp g), args := args, argTypes := ts } => match cOs P ts.toList args.toList with
   | some xs => some (.callv (.t g) xs)
   | none => none
 | _ => none
def sameO : Operand → Operand → Bool
 | .tmp a, .tmp b => decide (a = b)
 | .const (.int k n), .const (.int k' n') => decide (k = k' ∧ n = n')
 | _, _ => false
theorem sameO_spec {x y : Operand} (h : sameO x y = true) : x = y := by
 unfold sameO at h
 split at h
 · simp at h; rw [h]
 · simp at h; rw [h.1, h.2]
 · cases h
def cNil (P : Program) (op : BinOp) (xt : TypeId) (y : Operand) : Option (Nat × Bool) := match y, op with
 | .const c, .eql => match nilK P xt c with
   | some k => some (k, false)
   | none => none
 | .const c, .neq => match nilK P xt c with
   | some k => some (k, true)
   | none => none
 | _, _ => none
theorem cNil_spec {P : Program} {op : BinOp} {xt : TypeId} {y : Operand} {k : Nat} {neg : Bool} (h : cNil P op xt y = some (k, neg)) : ∃ c, y = .const c ∧ nilK P xt c = some k ∧ ((op = .eql ∧ neg = false) ∨ (op = .neq ∧ neg = true)) := by
 unfold cNil at h
 split at h
 · split at h
   · cases h; exact ⟨_, rfl, ‹_›, .inl ⟨rfl, rfl⟩⟩
   · cases h
 · split at h
   · cases h; exact ⟨_, rfl, ‹_›, .inr ⟨rfl, rfl⟩⟩
   · cases h
 · cases h
def cAct (P : Program) (ty : TypeId) : Op → Option Act'
 | .move x => (cO P ty x).map .mov
 | .assign x => (cO P ty x).map .mov
 | .pick c a b => match cO P ty c, cO P ty a, cO P ty b with
   | some c', some a', some b' => some (.pick c' a' b')
   | _, _, _ => none
 | .field t x i => match cO P t x, cSlot P t i with
   | some y, some (off, ft) => match szAgg P ft with
     | some (n, g) => some (.fld y off n g)
     | none => none
   | _, _ => none
 | .fieldAddr t x i => match cO P 0 x, cSlot P t i with
   | some y, some (off, ft) => match szOf P ft with
     | some n => if n ≠ 0 then some (.fa y off) else none
     | none => none
   | _, _ => none
 | .indexAddr t x i => match cO P 0 i, P.underlying t with
   | some j, some (.slice e) => match cO P t x, szOf P e with
     | some y, some n => some (.ia y j n)
     | _, _ => none
   | some j, some (.array m e) => match cO P 0 x, szOf P e with
     | some y, some n => some (.iaa y j m n)
     | _, _ => none
   | _, _ => none
 | .load t x => match cO P 0 x, szAgg P t with
   | some y, some (n, g) => some (.ld y n g)
   | _, _ => none
 | .index t x i => match cO P t x, cO P 0 i, P.underlying t with
   | some y, some j, some .string => some (.ixs y j)
   | some y, some j, some (.array m e) => match szAgg P e with
     | some (n, g) => some (.ixa y j m n g)
     | none => none
   | _, _, _ => none
 | .binOp op xt x y yt => match cO P xt x, cNil P op xt y with
   | some u, some (k, neg) => some (.nlq k neg u)
   | some u, none => match cO P yt y with
     | some v => some (cBin P op xt u v)
     | none => none
   | none, _ => none
 | .unOp op t x => (cO P t x).map (.un op)
 | .convert s d x => match cO P s x, P.underlying s, P.underlying d with
   | some u, some (.slice e), some .string => match P.underlying e with
     | some (.int .u8) => some (.b2s u)
     | _ => none
   | some u, some _, some (.int k) => some (.cii k u)
   | some u, some .string, some (.slice e) => match P.underlying e with
     | some (.int .u8) => some (.s2b u)
     | _ => none
   | _, _, _ => none
 | .slice t x lo hi none => match cO P t x, cOo P 0 lo, cOo P 0 hi with
   | some u, some lo', some hi' => match P.underlying t with
     | some .string => some (.sls u lo' hi')
     | some (.slice e) => match szOf P e with
       | some n => some (.slq u lo' hi' n)
       | none => none
     | _ => none
   | _, _, _ => none
 | .extract x i => (cO P 0 x).map fun u => .ext u i
 | .build t parts => match P.built t [], P.info? t with
   | some _, some i => match i.zero with
     | some (.agg z) => match flatT P 20 t with
       | some zc => match cSs P zc z.toList, cParts P t parts.toList with
         | some zs, some ps => some (.bld zs ps)
         | _, _ => none
       | none => none
     | _ => none
   | _, _ => none
 | .makeFunc f a b => match cOs P (List.replicate a.size 0) a.toList, cOs P (List.replicate b.size 0) b.toList with
   | some a', some b' => some (.mkf f a' b')
   | _, _ => none
 | .nilCheck x => (cO P 0 x).map .nlc
 | .alloc e => match P.info? e with
   | some i => match i.zero with
     | some z => match cV P e z with
       | some v => if nt v = true then some (.alc (cl v)) else none
       | none => none
     | none => none
   | none => none
 | .box e x => (cO P e x).map .box
 | .store t p x => match cO P 0 p, cO P t x, szOf P t with
   | some p', some x', some n => some (.st n p' x')
   | _, _, _ => none
 | .buildSlice t len parts => match P.underlying t with
   | some (.slice e) => match P.info? e with
     | some i => match i.zero with
       | some z => match cOs P (List.replicate len e) (parts.toList.map (·.2)) with
         | some xs => if 0 < i.size ∧ z.cells.size = i.size ∧ len * i.size ≤ 16777216 ∧ parts.toList.map (·.1) = List.range len then some (.lit e i.size xs) else none
         | none => none
       | none => none
     | none => none
   | _ => none
 | .makeSlice t l l' => if sameO l l' = true then (match P.underlying t with
    | some (.slice e) => match P.info? e with
      | some i => match i.zero with
        | some (.slice none 0 0) => match P.underlying e with
          | some (.slice e2) => match P.info? e2, cO P 0 l with
            | some i2, some u => if 0 < i.bytes ∧ i.size = 1 ∧ 0 < i2.size then some (.mkm e i.bytes e2 i2.size u) else none
            | _, _ => none
          | _ => none
        | some z => match cV P e z, cO P 0 l with
          | some v, some u => match pur [] v with
            | some v' => if nt v = true ∧ 0 < i.bytes ∧ 0 < i.size ∧ z.cells.size = i.size then some (.mks e i.size i.bytes v' u) else none
            | none => none
          | _, _ => none
        | none => none
      | none => none
    | _ => none) else (match l with
      | .const (.int _ 0) => (match P.underlying t with
        | some (.slice e) => match P.info? e with
          | some i => match i.zero, cO P 0 l' with
            | some _, some u => if 0 < i.bytes ∧ 0 < i.size then some (.mk0 e i.size i.bytes u) else none
            | _, _ => none
          | none => none
        | _ => none)
      | _ => none)
 | .makeInterface t x => match cO P t x, P.underlying t with
   | some u, some ds => match ds with
     | .interface _ => none
     | _ => some (.mki t u)
   | _, _ => none
 | .makeMap t none => match P.underlying t with
   | some (.map K _) => match ktT P K with
     | some kt => some (.mkp kt)
     | none => none
   | _ => none
 | .lookup t x k okk => match P.underlying t with
   | some (.map K E) => match ktT P K, cO P t x, cO P K k, P.info? E with
     | some kt, some u, some v, some i => match i.zero with
       | some z => match cV P E z with
         | some zv => some (.lkp kt zv okk u v)
         | none => none
       | none => none
     | _, _, _, _ => none
   | _ => none
 | .mapUpdate t x k v => match P.underlying t with
   | some (.map K E) => match ktT P K, cO P t x, cO P K k, cO P E v with
     | some kt, some u, some b, some c => some (.mup kt u b c)
     | _, _, _, _ => none
   | _ => none
 | .insert t x k v => match P.underlying t with
   | some (.map K E) => match ktT P K, cO P t x, cO P K k, cO P E v with
     | some kt, some u, some b, some c => some (.mup kt u b c)
     | _, _, _, _ => none
   | _ => none
 | .call c => cCall P c
 | _ => none

theorem szAgg_spec {P : Program} {t : TypeId} {n : Nat} {g : Bool} (h : szAgg P t = some (n, g)) : szOf P t = some n ∧ aggOf P t = some g ∧ (g = false → n = 1) := by
 unfold szAgg at h
 split at h
 · rename_i n' g' h1 h2
   split at h
   · rename_i hc
     cases h
     exact ⟨h1, h2, fun hg => by rcases hc with h | h; · rw [hg] at h; cases h
                                 · exact h⟩
   · cases h
 · cases h
theorem cSlot_spec {P : Program} {t : TypeId} {i off : Nat} {ft : TypeId} (h : cSlot P t i = some (off, ft)) : ∃ fs f, P.underlying t = some (.struct fs) ∧ fs[i]? = some f ∧ off = f.offset ∧ ft = f.type := by
 unfold cSlot at h
 split at h
 · rename_i fs h1
   split at h
   · rename_i f h2; cases h; exact ⟨fs, f, h1, h2, rfl, rfl⟩
   · cases h
 · cases h

theorem cBin_spec {P : Program} {ty xt yt : TypeId} {op : BinOp} {x y : Operand} {u v : AO} (hu : cO P xt x = some u) (hv : cO P yt y = some v) : LV P ty (.binOp op xt x y yt) (cBin P op xt u v) := by
 unfold cBin
 split
 · exact .beq ‹_› hu hv
 · exact .bne ‹_› hu hv
 all_goals
  first
   | exact .bin hu hv
   | (split
      · split
        · first | exact .aeq ‹_› ‹_› hu hv | exact .ane ‹_› ‹_› hu hv
        · exact .bin hu hv
      · exact .bin hu hv)

theorem cCall_spec {P : Program} {ty : TypeId} {c : Call} {x : Act'} (h : cCall P c = some x) : LV P ty (.call c) x ∨ LE P ty (.call c) x := by
 unfold cCall at h
 split at h
 · rename_i args ts
   split at h
   · rename_i x t hx ht
     have e1 : args = #[x] := by apply Array.ext'; simpa using hx
     have e2 : ts = #[t] := by apply Array.ext'; simpa using ht
     subst e1; subst e2
     split at h
     · cases h; exact .inl (.lens ‹_› ‹_›)
     · cases h; exact .inl (.lenq ‹_› ‹_›)
     · cases h
   · cases h
 · rename_i args ts
   split at h
   · rename_i x y t t' hx ht
     have e1 : args = #[x, y] := by apply Array.ext'; simpa using hx
     have e2 : ts = #[t, t'] := by apply Array.ext'; simpa using ht
     subst e1; subst e2
     split at h
     · rename_i ett
       subst ett
       split at h
       · split at h
         · split at h
           · split at h
             · rename_i hc; cases h; exact .inr (.app ‹_› ‹_› ‹_› rfl rfl hc.1 hc.2.1 hc.2.2 ‹_› ‹_›)
             · cases h
           · cases h
         · cases h
       · cases h
     · cases h
   · cases h
 · rename_i args ts
   split at h
   · rename_i x y t t' hx ht
     have e1 : args = #[x, y] := by apply Array.ext'; simpa using hx
     have e2 : ts = #[t, t'] := by apply Array.ext'; simpa using ht
     subst e1; subst e2
     split at h
     · cases h; exact .inl (.mmx ‹_› ‹_›)
     · cases h
   · cases h
 · rename_i args ts
   split at h
   · rename_i x y t t' hx ht
     have e1 : args = #[x, y] := by apply Array.ext'; simpa using hx
     have e2 : ts = #[t, t'] := by apply Array.ext'; simpa using ht
     subst e1; subst e2
     split at h
     · cases h; exact .inl (.mmn ‹_› ‹_›)
     · cases h
   · cases h
 · split at h
   · cases h; exact .inr (.inv ‹_› rfl ‹_›)
   · cases h
 · split at h
   · cases h; exact .inr (.call ‹_›)
   · cases h
 · split at h
   · cases h; exact .inr (.callv ‹_›)
   · cases h
 · cases h

theorem cAct_spec {P : Program} {ty : TypeId} {o : Op} {x : Act'} (h : cAct P ty o = some x) : LV P ty o x ∨ LE P ty o x := by
 cases o with
 | move x => simp only [cAct, Option.map_eq_some_iff] at h; obtain ⟨y, hy, rfl⟩ := h; exact .inl (.move hy)
 | assign x => simp only [cAct, Option.map_eq_some_iff] at h; obtain ⟨y, hy, rfl⟩ := h; exact .inl (.assign hy)
 | pick c a b =>
   simp only [cAct] at h
   split at h
   · cases h; exact .inl (.pick ‹_› ‹_› ‹_›)
   · cases h
 | field t x i =>
   simp only [cAct] at h
   split at h
   · rename_i y off ft hy hs
     obtain ⟨fs, f, h1, h2, rfl, rfl⟩ := cSlot_spec hs
     split at h
     · rename_i n g hn
       obtain ⟨k1, k2, k3⟩ := szAgg_spec hn
       cases h; exact .inl (.field hy h1 h2 k1 k2 k3)
     · cases h
   · cases h
 | fieldAddr t x i =>
   simp only [cAct] at h
   split at h
   · rename_i y off ft hy hs
     obtain ⟨fs, f, h1, h2, rfl, rfl⟩ := cSlot_spec hs
     split at h
     · split at h
       · cases h; exact .inl (.fieldAddr hy h1 h2 ‹_› ‹_›)
       · cases h
     · cases h
   · cases h
 | indexAddr t x i =>
   simp only [cAct] at h
   split at h
   · split at h
     · cases h; exact .inl (.indexAddr ‹_› ‹_› ‹_› ‹_›)
     · cases h
   · split at h
     · cases h; exact .inl (.indexAddrA ‹_› ‹_› ‹_› ‹_›)
     · cases h
   · cases h
 | load t x =>
   simp only [cAct] at h
   split at h
   · rename_i y n g hy hs
     obtain ⟨k1, k2, k3⟩ := szAgg_spec hs
     cases h; exact .inl (.load hy k1 k2 k3)
   · cases h
 | index t x i =>
   simp only [cAct] at h
   split at h
   · cases h; exact .inl (.indexS ‹_› ‹_› ‹_›)
   · split at h
     · rename_i n g hs
       obtain ⟨k1, k2, k3⟩ := szAgg_spec hs
       cases h; exact .inl (.indexA ‹_› ‹_› ‹_› k1 k2 k3)
     · cases h
   · cases h
 | binOp op xt x y yt =>
   simp only [cAct] at h
   split at h
   · rename_i hn
     cases h
     obtain ⟨c, rfl, h1, h2⟩ := cNil_spec hn
     exact .inl (.nlq h1 h2 ‹_›)
   · split at h
     · cases h; exact .inl (cBin_spec ‹_› ‹_›)
     · cases h
   · cases h
 | unOp op t x => simp only [cAct, Option.map_eq_some_iff] at h; obtain ⟨y, hy, rfl⟩ := h; exact .inl (.un hy)
 | convert s d x =>
   simp only [cAct] at h
   split at h
   · split at h
     · cases h; exact .inr (.b2s ‹_› ‹_› ‹_› ‹_›)
     · cases h
   · cases h; exact .inl (.cii ‹_› ‹_› ‹_›)
   · split at h
     · cases h; exact .inr (.s2b ‹_› ‹_› ‹_› ‹_›)
     · cases h
   · cases h
 | slice t x lo hi m =>
   cases m with
   | some m => simp only [cAct] at h; cases h
   | none =>
     simp only [cAct] at h
     split at h
     · split at h
       · cases h; exact .inl (.sls ‹_› ‹_› ‹_› ‹_›)
       · split at h
         · cases h; exact .inl (.slq ‹_› ‹_› ‹_› ‹_› ‹_›)
         · cases h
       · cases h
     · cases h
 | extract x i => simp only [cAct, Option.map_eq_some_iff] at h; obtain ⟨y, hy, rfl⟩ := h; exact .inl (.ext hy)
 | build t parts =>
   simp only [cAct] at h
   split at h
   · split at h
     · split at h
       · split at h
         · cases h; exact .inl (.bld ‹_› ‹_› ‹_› ‹_› ‹_› ‹_›)
         · cases h
       · cases h
     · cases h
   · cases h
 | makeFunc f a b =>
   simp only [cAct] at h
   split at h
   · cases h; exact .inl (.mkf ‹_› ‹_›)
   · cases h
 | nilCheck x => simp only [cAct, Option.map_eq_some_iff] at h; obtain ⟨y, hy, rfl⟩ := h; exact .inl (.nlc hy)
 | alloc e =>
   simp only [cAct] at h
   split at h
   · split at h
     · split at h
       · split at h
         · cases h; exact .inr (.alloc ‹_› ‹_› ‹_› ‹_›)
         · cases h
       · cases h
     · cases h
   · cases h
 | box e x => simp only [cAct, Option.map_eq_some_iff] at h; obtain ⟨y, hy, rfl⟩ := h; exact .inr (.box hy)
 | store t p x =>
   simp only [cAct] at h
   split at h
   · cases h; exact .inr (.store ‹_› ‹_› ‹_›)
   · cases h
 | buildSlice t len parts =>
   simp only [cAct] at h
   split at h
   · split at h
     · split at h
       · split at h
         · split at h
           · rename_i hc; cases h; exact .inr (.lit ‹_› ‹_› rfl hc.1 ‹_› hc.2.1 hc.2.2.1 hc.2.2.2 ‹_›)
           · cases h
         · cases h
       · cases h
     · cases h
   · cases h
 | makeSlice t l l' =>
   simp only [cAct] at h
   split at h
   · rename_i hab
     have hab := sameO_spec hab
     subst hab
     split at h
     · split at h
       · split at h
         · split at h
           · split at h
             · split at h
               · rename_i hc; cases h; exact .inr (.mkm ‹_› ‹_› ‹_› hc.2.1 rfl hc.1 ‹_› ‹_› rfl hc.2.2 ‹_›)
               · cases h
             · cases h
           · cases h
         · split at h
           · split at h
             · split at h
               · rename_i hc; cases h; exact .inr (.mks ‹_› ‹_› ‹_› ‹_› hc.1 ‹_› rfl rfl hc.2.1 hc.2.2.1 ‹_› hc.2.2.2)
               · cases h
             · cases h
           · cases h
         · cases h
       · cases h
     · cases h
   · split at h
     · split at h
       · split at h
         · split at h
           · split at h
             · rename_i hc; cases h; exact .inr (.mk0 ‹_› ‹_› ‹_› rfl rfl hc.1 hc.2 ‹_›)
             · cases h
           · cases h
         · cases h
       · cases h
     · cases h
 | makeInterface t x =>
   simp only [cAct] at h
   split at h
   · rename_i u ds hu hds
     split at h
     · cases h
     · rename_i hne
       cases h; exact .inl (.mki hu hds (fun ms e => hne ms e))
   · cases h
 | makeMap t r =>
   cases r with
   | some r => simp only [cAct] at h; cases h
   | none =>
     simp only [cAct] at h
     split at h
     · split at h
       · cases h; exact .inr (.mkp ‹_› ‹_›)
       · cases h
     · cases h
 | lookup t x k okk =>
   simp only [cAct] at h
   split at h
   · split at h
     · split at h
       · split at h
         · cases h; exact .inl (.lkp ‹_› ‹_› ‹_› ‹_› ‹_› ‹_› ‹_›)
         · cases h
       · cases h
     · cases h
   · cases h
 | mapUpdate t x k v =>
   simp only [cAct] at h
   split at h
   · split at h
     · cases h; exact .inr (.mup ‹_› ‹_› ‹_› ‹_› ‹_›)
     · cases h
   · cases h
 | insert t x k v =>
   simp only [cAct] at h
   split at h
   · split at h
     · cases h; exact .inr (.mui ‹_› ‹_› ‹_› ‹_› ‹_›)
     · cases h
   · cases h
 | call c => simp only [cAct] at h; exact cCall_spec h
 | _ => simp only [cAct] at h; cases h

def cOper (P : Program) (N : Nat) (ps : List Nat) (ops : Array Oper) (o : Oper) : Option AOp :=
 match (cAct P o.type o.op).getD .bad, (match o.dst with
  | some t => decide (t < N) && !memb t ps
  | none => true) with
 | a, true => match o.guard with
   | none => some ⟨o.dst, a, none⟩
   | some (j, b) => match ops[j]? with
     | some oj => match oj.dst with
       | some t => some ⟨o.dst, a, some (t, b)⟩
       | none => none
     | none => none
 | _, _ => none
def cOpers (P : Program) (N : Nat) (ps : List Nat) (ops : Array Oper) : List Oper → Option (List AOp)
 | [] => some []
 | o :: os => match cOper P N ps ops o, cOpers P N ps ops os with
   | some x, some xs => some (x :: xs)
   | _, _ => none
def fHop (E : List Nat) (x : AOp) : AOp := match x.a with
 | .call f xs => if memb f E = true then ⟨x.d, .callH f xs, x.g⟩ else x
 | .slq y none (some hi) sz => if memb 1000000 E = true then ⟨x.d, .trc y hi sz, x.g⟩ else x
 | .lit e sz ys => if (memb 1000001 E || memb (2000000 + e) E) = true then ⟨x.d, .ltr e sz ys, x.g⟩ else x
 | _ => x
def fHs (E : List Nat) : List AOp → List AOp
 | [] => []
 | x :: xs => fHop E x :: fHs E xs
section
variable {P : Program}
theorem LV_call {ty : TypeId} {op : Op} {f : FuncId} {xs : List AO} (h : LV P ty op (.call f xs)) : False := by cases h
theorem LE_callH {ty : TypeId} {op : Op} {f : FuncId} {xs : List AO} (h : LE P ty op (.call f xs)) : LE P ty op (.callH f xs) := by
 cases h; exact .callH ‹_›
theorem LV_lit {ty : TypeId} {op : Op} {e sz : Nat} {xs : List AO} (h : LV P ty op (.lit e sz xs)) : False := by cases h
theorem LE_ltr {ty : TypeId} {op : Op} {e sz : Nat} {xs : List AO} (h : LE P ty op (.lit e sz xs)) : LE P ty op (.ltr e sz xs) := by
 cases h with
 | lit h1 h2 h3 h4 h5 h6 h7 h8 h9 => exact .ltr h1 h2 h3 h4 h5 h6 h7 h8 h9
theorem LE_slq {ty : TypeId} {op : Op} {y : AO} {lo hi : Option AO} {sz : Nat} (h : LE P ty op (.slq y lo hi sz)) : False := by cases h
theorem cOo_none {t : TypeId} {o : Option Operand} (h : cOo P t o = some none) : o = none := by
 cases o with
 | none => rfl
 | some o => simp only [cOo, Option.map_eq_some_iff] at h; obtain ⟨_, _, h⟩ := h; cases h
theorem cOo_some {t : TypeId} {o : Option Operand} {y : AO} (h : cOo P t o = some (some y)) : ∃ o', o = some o' ∧ cO P t o' = some y := by
 cases o with
 | none => simp only [cOo, Option.some.injEq] at h; cases h
 | some o => simp only [cOo, Option.map_eq_some_iff] at h; obtain ⟨z, h, e⟩ := h; cases e; exact ⟨o, rfl, h⟩
theorem LV_trc {ty : TypeId} {op : Op} {y hi : AO} {sz : Nat} (h : LV P ty op (.slq y none (some hi) sz)) : LE P ty op (.trc y hi sz) := by
 cases h with
 | slq h1 h2 h3 h4 h5 =>
   have e1 := cOo_none h2
   obtain ⟨o', e2, h6⟩ := cOo_some h3
   subst e1; subst e2
   exact .trc h1 h6 h4 h5
theorem fHop_spec {E ps : List Nat} {N : Nat} {ops : Array Oper} {o : Oper} {x : AOp} (h : LO P N ps ops o x) : LO P N ps ops o (fHop E x) := by
 unfold fHop
 split
 · rename_i f xs hx
   split
   · refine ⟨h.dst, h.lt, .inr (.inl ?_), h.grd⟩
     rcases h.act with h1 | h1 | h1
     · rw [hx] at h1; exact (LV_call h1).elim
     · rw [hx] at h1; exact LE_callH h1
     · rw [hx] at h1; cases h1
   · exact h
 · rename_i y hi sz hx
   split
   · refine ⟨h.dst, h.lt, .inr (.inl ?_), h.grd⟩
     rcases h.act with h1 | h1 | h1
     · rw [hx] at h1; exact LV_trc h1
     · rw [hx] at h1; exact (LE_slq h1).elim
     · rw [hx] at h1; cases h1
   · exact h
 · rename_i e sz ys hx
   split
   · refine ⟨h.dst, h.lt, .inr (.inl ?_), h.grd⟩
     rcases h.act with h1 | h1 | h1
     · rw [hx] at h1; exact (LV_lit h1).elim
     · rw [hx] at h1; exact LE_ltr h1
     · rw [hx] at h1; cases h1
   · exact h
 · exact h
theorem fHs_spec {E ps : List Nat} {N : Nat} {ops : Array Oper} {os : List Oper} {xs : List AOp} (h : LOs P N ps ops os xs) : LOs P N ps ops os (fHs E xs) := by
 induction h with
 | nil => exact .nil
 | cons h1 _ ih => exact .cons (fHop_spec h1) ih
end
def noLab : AC → Bool
 | .seq a b => noLab a && noLab b
 | .label _ => false
 | .bad => false
 | _ => true
def findAC (l : Nat) : AC → Option AC
 | .seq a b => match findAC l a with
   | some r => some (.seq r b)
   | none => if noLab a = true then findAC l b else none
 | .label l' => if (l' == l) = true then some .skip else none
 | _ => none
theorem noLab_spec {P : Program} {N : Nat} {ps : List Nat} {c : Code} {a : AC} (h : LC P N ps c a) (l : Nat) : noLab a = true → findLabel c l = none := by
 induction h with
 | seq _ _ ih1 ih2 =>
   intro hn
   simp only [noLab, Bool.and_eq_true] at hn
   simp only [findLabel, ih1 hn.1, ih2 hn.2]
 | label => intro hn; simp [noLab] at hn
 | bad => intro hn; simp [noLab] at hn
 | _ => intro _; rfl
theorem findAC_spec {P : Program} {N : Nat} {ps : List Nat} {c : Code} {a : AC} (h : LC P N ps c a) {l : Nat} : ∀ {b : AC}, findAC l a = some b → ∃ rest, findLabel c l = some rest ∧ LC P N ps rest b := by
 induction h with
 | seq h1 h2 ih1 ih2 =>
   intro b hb
   simp only [findAC] at hb
   split at hb
   · cases hb
     obtain ⟨r, g1, g2⟩ := ih1 ‹_›
     exact ⟨_, by simp only [findLabel, g1], .seq g2 h2⟩
   · split at hb
     · rename_i hn
       obtain ⟨r, g1, g2⟩ := ih2 hb
       exact ⟨r, by simp only [findLabel, noLab_spec h1 l hn, g1], g2⟩
     · cases hb
 | @label l' =>
   intro b hb
   simp only [findAC] at hb
   split at hb
   · rename_i he
     cases hb
     exact ⟨.skip, by simp only [findLabel, he, if_true], .skip⟩
   · cases hb
 | _ => intro b hb; simp [findAC] at hb
def cCode (P : Program) (N : Nat) (ps E : List Nat) : Code → List (List Nat) → Option (AC × List (List Nat))
 | .skip, K => some (.skip, K)
 | .region _ ops false, ks :: K => match (cOpers P N ps ops ops.toList).map (fHs E) with
   | some xs => some (.reg xs ks, K)
   | none => none
 | .region _ ops true, [] :: ks :: K => match (cOpers P N ps ops ops.toList).map (fHs E) with
   | some xs => if noCall xs = true ∧ ops.size = xs.length then (match pickAs xs (linX ops ops.size (Array.replicate ops.size false)) with
     | some yss => some (.regE yss ks, K)
     | none => none) else some (.bad, K)
   | none => none
 | .region _ ops true, (1 :: anc) :: ks :: K => match (cOpers P N ps ops ops.toList).map (fHs E) with
   | some xs => if ancChk ops anc = true then (match linY ops xs anc ops.size (Array.replicate ops.size false) with
     | some yss => some (.regF yss ks, K)
     | none => none) else none
   | none => none
 | .region _ ops true, (0 :: anc) :: perm :: ks :: K => match (cOpers P N ps ops ops.toList).map (fHs E) with
   | some xs => if drawOK ops xs anc perm = true then (match pickA xs perm with
     | some ys => some (.regD ys ks, K)
     | none => none) else none
   | none => none
 | .seq x y, K => match cCode P N ps E x K with
   | some (a, K') => match cCode P N ps E y K' with
     | some (b, K'') => some (.seq a b, K'')
     | none => none
   | none => none
 | .cond c x y, K => match cO P 0 c, cCode P N ps E x K with
   | some c', some (a, K') => match cCode P N ps E y K' with
     | some (b, K'') => some (.cond c' a b, K'')
     | none => none
   | _, _ => none
 | .block id x, K => match cCode P N ps E x K with
   | some (a, K') => some (.block id a, K')
   | none => none
 | .loop x, ks :: K => match cCode P N ps E x K with
   | some (a, K') => some (.loop ks a, K')
   | none => none
 | .exit id, K => some (.exit id, K)
 | .ret, K => some (.ret, K)
 | .rangeFunc _ _ _ _, K => some (.bad, K)
 | .scope x, (l :: ks) :: K => match cCode P N ps E x K with
   | some (a, K') => match findAC l a with
     | some b => some (.scope l ks a b, K')
     | none => some (.bad, K')
   | none => none
 | .scope _, [] :: K => some (.bad, K)
 | .label l, K => some (.label l, K)
 | .goto l, K => some (.goto l, K)
 | .refuse _, K => some (.bad, K)
 | .region _ _ _, _ => none
 | .loop _, _ => none
 | .scope _, _ => none

section
variable {P : Program} {N : Nat} {ps : List Nat}
theorem cOper_spec {ops : Array Oper} {o : Oper} {x : AOp} (h : cOper P N ps ops o = some x) : LO P N ps ops o x := by
 unfold cOper at h
 split at h
 · rename_i a hd
   have ha : LV P o.type o.op ((cAct P o.type o.op).getD .bad) ∨ LE P o.type o.op ((cAct P o.type o.op).getD .bad) ∨ (cAct P o.type o.op).getD .bad = .bad := by
    cases hc : cAct P o.type o.op with
    | none => exact .inr (.inr rfl)
    | some y => exact (cAct_spec hc).elim .inl (fun h => .inr (.inl h))
   have hlt : ∀ t, o.dst = some t → t < N ∧ t ∉ ps := by
    intro t ht
    rw [ht] at hd
    simp only [Bool.and_eq_true, decide_eq_true_eq, Bool.not_eq_true'] at hd
    exact ⟨hd.1, fun hm => by rw [memb_iff.2 hm] at hd; cases hd.2⟩
   split at h
   · rename_i hg
     cases h
     exact ⟨rfl, hlt, ha, .inl ⟨hg, rfl⟩⟩
   · rename_i j b hg
     split at h
     · rename_i oj hj
       split at h
       · rename_i t ht
         cases h
         exact ⟨rfl, hlt, ha, .inr ⟨j, b, oj, t, hg, hj, ht, rfl⟩⟩
       · cases h
     · cases h
 · cases h
theorem cOpers_spec {ops : Array Oper} : ∀ {os : List Oper} {xs : List AOp}, cOpers P N ps ops os = some xs → LOs P N ps ops os xs
 | [], xs, h => by simp only [cOpers, Option.some.injEq] at h; subst h; exact .nil
 | o :: os, xs, h => by
   simp only [cOpers] at h
   split at h
   · rename_i x ys hx hy; cases h; exact .cons (cOper_spec hx) (cOpers_spec hy)
   · cases h
theorem map_spec {E : List Nat} {ops : Array Oper} {xs : List AOp} (h : (cOpers P N ps ops ops.toList).map (fHs E) = some xs) : LOs P N ps ops ops.toList xs := by
 obtain ⟨ys, h1, rfl⟩ := Option.map_eq_some_iff.1 h
 exact fHs_spec (cOpers_spec h1)
theorem cCode_spec {E : List Nat} : ∀ {c : Code} {K K' : List (List Nat)} {a : AC}, cCode P N ps E c K = some (a, K') → LC P N ps c a := by
 intro c
 induction c with
 | skip => intro K K' a h; simp only [cCode, Option.some.injEq, Prod.mk.injEq] at h; rw [← h.1]; exact .skip
 | region id ops d =>
   intro K K' a h
   cases d with
   | false =>
     cases K with
     | nil => simp only [cCode] at h; cases h
     | cons ks K =>
       simp only [cCode] at h
       split at h
       · cases h; exact .reg (map_spec ‹_›)
       · cases h
   | true =>
     match K, h with
     | [], h => simp only [cCode] at h; cases h
     | [[]], h => simp only [cCode] at h; cases h
     | [_ :: _], h => simp only [cCode] at h; cases h
     | [] :: ks :: K, h =>
       simp only [cCode] at h
       split at h
       · split at h
         · rename_i hc
           split at h
           · cases h; exact .regE (map_spec ‹_›) hc.1 hc.2 ‹_›
           · cases h
         · cases h; exact .bad
       · cases h
     | [0 :: anc, perm], h => simp only [cCode] at h; cases h
     | (1 :: anc) :: ks :: K, h =>
       simp only [cCode] at h
       split at h
       · split at h
         · rename_i hc
           split at h
           · cases h; exact .regF (map_spec ‹_›) hc ‹_›
           · cases h
         · cases h
       · cases h
     | ((n + 2) :: l) :: k :: K, h => simp only [cCode] at h; cases h
     | (0 :: anc) :: perm :: ks :: K, h =>
       simp only [cCode] at h
       split at h
       · split at h
         · rename_i hc
           split at h
           · cases h; exact .regD (map_spec ‹_›) hc ‹_›
           · cases h
         · cases h
       · cases h
 | seq x y ihx ihy =>
   intro K K' a h
   simp only [cCode] at h
   split at h
   · split at h
     · cases h; exact .seq (ihx ‹_›) (ihy ‹_›)
     · cases h
   · cases h
 | cond c x y ihx ihy =>
   intro K K' a h
   simp only [cCode] at h
   split at h
   · split at h
     · cases h; exact .cond (t := 0) ‹_› (ihx ‹_›) (ihy ‹_›)
     · cases h
   · cases h
 | block id x ih =>
   intro K K' a h
   simp only [cCode] at h
   split at h
   · cases h; exact .block (ih ‹_›)
   · cases h
 | loop x ih =>
   intro K K' a h
   cases K with
   | nil => simp only [cCode] at h; cases h
   | cons ks K =>
     simp only [cCode] at h
     split at h
     · cases h; exact .loop (ih ‹_›)
     · cases h
 | scope x ih =>
   intro K K' a h
   match K, h with
   | [], h => simp only [cCode] at h; cases h
   | [] :: K, h => simp only [cCode, Option.some.injEq, Prod.mk.injEq] at h; rw [← h.1]; exact .bad
   | (l :: ks) :: K, h =>
     simp only [cCode] at h
     split at h
     · split at h
       · cases h
         have hx := ih ‹_›
         obtain ⟨rest, g1, g2⟩ := findAC_spec hx ‹_›
         exact .scope hx g1 g2
       · cases h; exact .bad
     · cases h
 | label l => intro K K' a h; simp only [cCode, Option.some.injEq, Prod.mk.injEq] at h; rw [← h.1]; exact .label
 | goto l => intro K K' a h; simp only [cCode, Option.some.injEq, Prod.mk.injEq] at h; rw [← h.1]; exact .goto
 | exit id => intro K K' a h; simp only [cCode, Option.some.injEq, Prod.mk.injEq] at h; rw [← h.1]; exact .exit
 | ret => intro K K' a h; simp only [cCode, Option.some.injEq, Prod.mk.injEq] at h; rw [← h.1]; exact .ret
 | _ => intro K K' a h; simp only [cCode, Option.some.injEq, Prod.mk.injEq] at h; rw [← h.1]; exact .bad

inductive RV where
 | t (n : Nat)
 | c (a n : Nat) (agg : Bool)
def cRes (P : Program) : List ResultVar → Option (List RV)
 | [] => some []
 | .tmp t :: rs => (cRes P rs).map (.t t :: ·)
 | .cell a t :: rs => match szAgg P t, cRes P rs with
   | some (n, g), some xs => some (.c a n g :: xs)
   | _, _ => none
def St.rv (σ : St) : RV → Option V
 | .t n => match lk σ.r n with
   | some v => if nt v = true then some v else none
   | none => none
 | .c a n g => match lk σ.r a with
   | some p => match σ.fetch p n with
     | some us => mkc g us
     | none => none
   | none => none
def St.rvs (σ : St) : List RV → Option (List V)
 | [] => some []
 | x :: xs => match σ.rv x, σ.rvs xs with
   | some v, some vs => some (v :: vs)
   | _, _ => none
def tupV : List V → V
 | [v] => v
 | vs => .tup vs
def Res (rs : List RV) (post : V → Prop) : Ex → St → Prop := fun e σ => (match e with
    | .exit _ => False
    | .goto _ => False
    | _ => True) ∧ match σ.rvs rs with
    | some vs => match purs σ.h vs with
      | some us => post (tupV us)
      | none => False
    | none => False
def ent : Nat → List V → List (Nat × V)
 | _, [] => []
 | k, v :: vs => (k, v) :: ent (k + 1) vs

theorem lk_ent : ∀ {vs : List V} {k t : Nat} {v : V}, lk (ent k vs) t = some v → k ≤ t ∧ vs[t - k]? = some v
 | [], k, t, v, h => by simp [ent, lk] at h
 | u :: us, k, t, v, h => by
   simp only [ent, lk] at h
   split at h
   · rename_i he; subst he; cases h; exact ⟨Nat.le_refl _, by simp⟩
   · rename_i he
     obtain ⟨h1, h2⟩ := lk_ent h
     refine ⟨by omega, ?_⟩
     rw [show t - k = (t - (k + 1)) + 1 by omega]
     simpa using h2

variable {M0 : Mem} {B : Bas} {w0 : World} {κ : Kap} {M : Mem} {σ : St} {a : Act} {w : World}

def resF (a : Act) : ResultVar → Sem Value
 | .tmp t => pure (a.tmps.getD t undef)
 | .cell x t => do loadVar t (← asAddr (a.tmps.getD x undef))

theorem run_results {fn : Func} {rs : List RV} (hr : cRes P fn.results.toList = some rs) (H : Rel N M0 B w0 κ M σ a w) {vs : List V} (hv : σ.rvs rs = some vs) :
 ∃ cs : List Value, qA M (XX κ σ.h) vs cs ∧ (results fn a.tmps).run P w = .ok (if h : cs.length = 1 then cs[0] else .tuple cs.toArray) w := by
 have key : ∀ (l : List ResultVar) (rs : List RV) (vs : List V), cRes P l = some rs → σ.rvs rs = some vs →
  ∃ cs : List Value, qA M (XX κ σ.h) vs cs ∧ (l.mapM (resF a)).run P w = .ok cs w := by
  intro l
  induction l with
  | nil =>
    intro rs vs h1 h2
    simp only [cRes, Option.some.injEq] at h1
    subst h1
    simp only [St.rvs, Option.some.injEq] at h2
    subst h2
    exact ⟨[], by simp [qA], by simp⟩
  | cons x l ih =>
    intro rs vs h1 h2
    cases x with
    | tmp t =>
      simp only [cRes, Option.map_eq_some_iff] at h1
      obtain ⟨rs', h1, rfl⟩ := h1
      simp only [St.rvs] at h2
      split at h2
      · rename_i v us g1 g2
        cases h2
        obtain ⟨cs, k1, k2⟩ := ih rs' us h1 g2
        simp only [St.rv] at g1
        split at g1
        · rename_i u hu
          split at g1
          · cases g1
            obtain ⟨_, c, e1, e2⟩ := H.regs _ _ hu
            refine ⟨c :: cs, by simp only [qA]; exact ⟨c, cs, rfl, e2, k1⟩, ?_⟩
            have hF : (resF a (.tmp t)).run P w = .ok c w := by simp [resF, e1]
            rw [List.mapM_cons, Sem.run_bind, hF, Result.andThen_ok, Sem.run_bind, k2, Result.andThen_ok, Sem.run_pure]
          · cases g1
        · cases g1
      · cases h2
    | cell t ty =>
      simp only [cRes] at h1
      split at h1
      · rename_i n g xs hs hx
        cases h1
        simp only [St.rvs] at h2
        split at h2
        · rename_i v us g1 g2
          cases h2
          obtain ⟨cs, k1, k2⟩ := ih _ us hx g2
          simp only [St.rv] at g1
          split at g1
          · rename_i p hp
            split at g1
            · rename_i vs' hf
              obtain ⟨s1, s2, s3⟩ := szAgg_spec hs
              obtain ⟨_, c, e1, e2⟩ := H.regs _ _ hp
              obtain ⟨b, o', ds, e, f1, f2, f3, f4⟩ := fetch_sound H e2 hf
              subst e
              rcases mkc_rep g1 f1 f2 with ⟨rfl, hk⟩ | ⟨rfl, c, hk1, hk2⟩
              · refine ⟨.agg ds.toArray :: cs, by simp only [qA]; exact ⟨_, cs, rfl, hk, k1⟩, ?_⟩
                have := run_loadCells_list (P := P) w ⟨b, o', none⟩ ds f4
                rw [f3] at this
                have hF : (resF a (.cell t ty)).run P w = .ok (.agg ds.toArray) w := by simp [resF, e1, asAddr, loadVar, run_isAgg s2, zM s1, this]
                rw [List.mapM_cons, Sem.run_bind, hF, Result.andThen_ok, Sem.run_bind, k2, Result.andThen_ok, Sem.run_pure]
              · refine ⟨c :: cs, by simp only [qA]; exact ⟨c, cs, rfl, hk2, k1⟩, ?_⟩
                have := f4 0 c (by simp [hk1])
                rw [Addr.add_lit] at this
                simp at this
                have hF : (resF a (.cell t ty)).run P w = .ok c w := by simp [resF, e1, asAddr, loadVar, run_isAgg s2, this]
                rw [List.mapM_cons, Sem.run_bind, hF, Result.andThen_ok, Sem.run_bind, k2, Result.andThen_ok, Sem.run_pure]
            · cases g1
          · cases g1
        · cases h2
      · cases h1
 obtain ⟨cs, k1, k2⟩ := key _ _ _ hr hv
 refine ⟨cs, k1, ?_⟩
 have e : results fn a.tmps = (do
  let vs ← fn.results.mapM (resF a)
  pure (if h : vs.size = 1 then vs[0] else .tuple vs)) := by
  unfold results
  congr 2
 rw [e, Array.mapM_eq_mapM_toList]
 simp [Sem.run_bind, k2]

theorem FnE.of_W {f : FuncId} {fn : Func} {c : Code} {us : List V} {r : V} {x : AC} {rs : List RV} (hm : P.follows .mixedOrders = true) (hf : P.funcs[f]? = some fn) (hb : fn.body = some c)
 (hn : (fn.name == "runtime.NumGoroutine") = false) (hc : LC P fn.ntmps [] c x) (hr : cRes P fn.results.toList = some rs) (hs : us.length ≤ fn.ntmps)
 (hW : oks us → W (Cn P) x (Res rs (· = r)) ⟨ent 0 us, []⟩) : FnE P f us r where
 call := fun args w => by
  unfold callFunc
  simp only [beq_eq_false_iff_ne, ne_eq] at hn
  simp [Sem.run_bind, hf, hb, hn]
 does := fun M w cs hM hus => by
  have hl : cs.size = us.length := by have := qZ hus; simpa using this
  refine calls_of_wp hf hb ?_
  have H : Rel fn.ntmps M ⟨w.heap.size, fun _ => False, [], #[], w.heap.size⟩ w ⟨fun _ => undef, fun _ _ => undef, fun _ _ => False, fun _ => none⟩ M ⟨ent 0 us, []⟩ { tmps := cs ++ Array.replicate (fn.ntmps - cs.size) undef, defers := [] } w :=
   { dfr := rfl, pin := fun i hi => by cases hi
     size := by simp; omega
     regs := fun t v ht => by
      obtain ⟨_, h2⟩ := lk_ent ht
      simp only [Nat.sub_zero] at h2
      have hlt : t < us.length := (List.getElem?_eq_some_iff.1 h2).1
      obtain ⟨c, h3, h4⟩ := repAll_get hus h2
      refine ⟨by omega, c, ?_, qQ (fun _ _ h => h) (fun _ _ h => h.elim) _ _ h4⟩
      rw [Array.getElem?_append_left (by omega)]
      simpa using h3
     heap := fun id ob h => by simp at h
     inj := fun i j oi oj g h => by simp at h
     snd := hM.snd
     sep := fun p v _ id ob h => by simp at h
     sub := ⟨fun _ _ h => h, fun _ _ h => (by cases h), fun _ _ h => (by cases h), Nat.le_refl _, hM.gl⟩
     new := fun _ _ h => .inl h
     base := rfl
     blw := Und.refl _ _ }
  refine W_sound hm (B := ⟨w.heap.size, fun _ => False, [], #[], w.heap.size⟩) hc ?_ H (hW (repAll_ok hus))
  intro e κ M1 σ a w1 hR H1
  simp only [Res] at hR
  obtain ⟨he, hR⟩ := hR
  split at hR
  · rename_i vs hvs
    split at hR
    · rename_i ws hws
      obtain ⟨ds, k1, k2⟩ := run_results hr H1 hvs
      obtain ⟨H2, hM1⟩ := H1.kill (qE vs) (purs_in hws)
      have k3 : qA (ext M1 w1 (blks κ (qE vs))) NX ws ds := by
       refine purs_rep H1 hM1 (fun id hid g hg p hpb => ?_) k1 hws
       unfold ext
       rw [if_pos (mem_blks.2 ⟨id, hid, by rw [hpb]; exact hg⟩)]
      have fin : bodyPost P fn (fun e w' => ∃ (c : Value) (M' : Mem), e = .returned c ∧ rep M' NX r c ∧ Below w.heap.size w w' ∧ (∀ p v, M' p = some v → w'.cell? p = some v) ∧
       (∀ p v, M p = some v → M' p = some v) ∧ ∀ p v, M' p = some v → M p = some v ∨ w.heap.size ≤ p.block) .normal a w1 := by
       refine ⟨H1.dfr, _, k2, _, _, rfl, ?_, ⟨H1.blw.os, H1.blw.tape, H1.blw.output, H1.blw.size, fun k hk => H1.blw.block k hk id⟩, H2.snd, H2.sub.sub, fun p v h => (H2.new p v h).imp_right fun h => h.elim id False.elim⟩
       subst hR
       match ws, ds, k3 with
       | [], [], k3 => simp only [tupV, rep]; exact ⟨#[], rfl, by simp [qA]⟩
       | [v], [d], k3 =>
         simp only [qA] at k3
         obtain ⟨_, _, h1, h2, _⟩ := k3
         cases h1
         simpa [tupV] using h2
       | v :: v' :: vs', d :: d' :: ds', k3 =>
         have e : (if h : (d :: d' :: ds').length = 1 then (d :: d' :: ds')[0] else .tuple (d :: d' :: ds').toArray) = .tuple (d :: d' :: ds').toArray := dif_neg (by simp)
         rw [e]
         simp only [tupV, rep]
         exact ⟨_, rfl, by simpa using k3⟩
       | [], d :: ds, k3 => simp [qA] at k3
       | v :: vs, [], k3 => simp [qA] at k3
       | [v], d :: d' :: ds, k3 => simp [qA] at k3
       | v :: v' :: vs, [d], k3 =>
         simp only [qA] at k3
         obtain ⟨c, cs', h1, _, c2, cs2, h2, _⟩ := k3
         cases h1
         cases h2
      cases e with
      | norm => exact fin
      | ret => exact fin
      | exit id => exact he.elim
      | goto l => exact he.elim
    · exact hR.elim
  · exact hR.elim

def ResN (rs : List RV) (r : V) : Ex → St → Prop := fun e σ => (match e with
    | .exit _ => False
    | .goto _ => False
    | _ => True) ∧ match σ.rvs rs with
    | some vs => fres σ.h vs = true ∧ (match purs σ.h vs with
      | some us => tupV us = r
      | none => False)
    | none => False
theorem tupV_rep {M : Mem} {X : V → Value → Prop} : ∀ {ws : List V} {ds : List Value}, qA M X ws ds → rep M X (tupV ws) (if h : ds.length = 1 then ds[0] else .tuple ds.toArray)
 | [], [], k3 => by simp only [tupV, rep]; exact ⟨#[], rfl, by simp [qA]⟩
 | [v], [d], k3 => by
   simp only [qA] at k3
   obtain ⟨_, _, h1, h2, _⟩ := k3
   cases h1
   simpa [tupV] using h2
 | v :: v' :: vs', d :: d' :: ds', k3 => by
   have e : (if h : (d :: d' :: ds').length = 1 then (d :: d' :: ds')[0] else .tuple (d :: d' :: ds').toArray) = .tuple (d :: d' :: ds').toArray := dif_neg (by simp)
   rw [e]
   simp only [tupV, rep]
   exact ⟨_, rfl, by simpa using k3⟩
 | [], d :: ds, k3 => by simp [qA] at k3
 | v :: vs, [], k3 => by simp [qA] at k3
 | [v], d :: d' :: ds, k3 => by simp [qA] at k3
 | v :: v' :: vs, [d], k3 => by
   simp only [qA] at k3
   obtain ⟨c, cs', h1, _, c2, cs2, h2, _⟩ := k3
   cases h1
   cases h2
theorem FnN.of_W {f : FuncId} {fn : Func} {c : Code} {us : List V} {r : V} {x : AC} {rs : List RV} (hm : P.follows .mixedOrders = true) (hf : P.funcs[f]? = some fn) (hb : fn.body = some c)
 (hn : (fn.name == "runtime.NumGoroutine") = false) (hc : LC P fn.ntmps [] c x) (hr : cRes P fn.results.toList = some rs) (hs : us.length ≤ fn.ntmps)
 (hW : oks us → W (Cn P) x (ResN rs r) ⟨ent 0 us, []⟩) : FnN P f us r := by
 intro M w cs hM hus o a Nx Q hN
 have hcall : (callFunc f cs).run P w = .ok (.enter f cs) w := by
  unfold callFunc
  simp only [beq_eq_false_iff_ne, ne_eq] at hn
  simp [Sem.run_bind, hf, hb, hn]
 have hl : cs.size = us.length := by have := qZ hus; simpa using this
 rw [hcall, Oper.upon_enter]
 have key : Calls P f cs w fun e w' => ∃ (c : Value) (M' : Mem), e = .returned c ∧ rep (newM w M') NX r c ∧ Below w.heap.size w w' ∧ ∀ p v, M' p = some v → w'.cell? p = some v := by
  refine calls_of_wp hf hb ?_
  have H : Rel fn.ntmps M ⟨w.heap.size, fun _ => False, [], #[], w.heap.size⟩ w ⟨fun _ => undef, fun _ _ => undef, fun _ _ => False, fun _ => none⟩ M ⟨ent 0 us, []⟩ { tmps := cs ++ Array.replicate (fn.ntmps - cs.size) undef, defers := [] } w :=
   { dfr := rfl, pin := fun i hi => by cases hi
     size := by simp; omega
     regs := fun t v ht => by
      obtain ⟨_, h2⟩ := lk_ent ht
      simp only [Nat.sub_zero] at h2
      have hlt : t < us.length := (List.getElem?_eq_some_iff.1 h2).1
      obtain ⟨c, h3, h4⟩ := repAll_get hus h2
      refine ⟨by omega, c, ?_, qQ (fun _ _ h => h) (fun _ _ h => h.elim) _ _ h4⟩
      rw [Array.getElem?_append_left (by omega)]
      simpa using h3
     heap := fun id ob h => by simp at h
     inj := fun i j oi oj g h => by simp at h
     snd := hM.snd
     sep := fun p v _ id ob h => by simp at h
     sub := ⟨fun _ _ h => h, fun _ _ h => (by cases h), fun _ _ h => (by cases h), Nat.le_refl _, hM.gl⟩
     new := fun _ _ h => .inl h
     base := rfl
     blw := Und.refl _ _ }
  refine W_sound hm (B := ⟨w.heap.size, fun _ => False, [], #[], w.heap.size⟩) hc ?_ H (hW (repAll_ok hus))
  intro e κ M1 σ a w1 hR H1
  simp only [ResN] at hR
  obtain ⟨he, hR⟩ := hR
  split at hR
  · rename_i vs hvs
    obtain ⟨hfr, hR⟩ := hR
    split at hR
    · rename_i ws hws
      obtain ⟨ds, k1, k2⟩ := run_results hr H1 hvs
      obtain ⟨H2, hM1⟩ := H1.kill (qE vs) (purs_in hws)
      have k3 : qA (newM w (ext M1 w1 (blks κ (qE vs)))) NX ws ds := by
       refine fres_rep H1 (fun p v hp => by unfold newM; rw [if_pos (H1.sub.fmN p v hp)]; exact hM1 p v (H1.sub.fmS p v hp)) (fun id hid g hg p hpb => ?_) hfr k1 hws
       obtain ⟨ob, hob⟩ := purs_in hws id hid
       have hgw : w.heap.size ≤ g := by
        rcases (H1.blk_lt hob hg).1 with h | h
        · exact h
        · exact h.elim
       unfold newM
       rw [if_pos (by omega)]
       unfold ext
       rw [if_pos (mem_blks.2 ⟨id, hid, by rw [hpb]; exact hg⟩)]
      have fin : bodyPost P fn (fun e w' => ∃ (c : Value) (M' : Mem), e = .returned c ∧ rep (newM w M') NX r c ∧ Below w.heap.size w w' ∧ ∀ p v, M' p = some v → w'.cell? p = some v) .normal a w1 := by
       refine ⟨H1.dfr, _, k2, _, _, rfl, ?_, ⟨H1.blw.os, H1.blw.tape, H1.blw.output, H1.blw.size, fun k hk => H1.blw.block k hk id⟩, H2.snd⟩
       subst hR
       exact tupV_rep k3
      cases e with
      | norm => exact fin
      | ret => exact fin
      | exit id => exact he.elim
      | goto l => exact he.elim
    · exact hR.elim
  · exact hR.elim
 refine key.mono ?_
 rintro e w' ⟨c, M', rfl, h1, h2, h3⟩
 exact hN c M' w' h1 h2 h3

mutual
def jk : V → V
 | .seq sz l => if l.isEmpty = true then .seq sz l else .junk
 | .strct cs => .strct (jks cs)
 | .tup cs => .tup (jks cs)
 | .sptr _ _ => .junk
 | v => v
def jks : List V → List V
 | [] => []
 | v :: vs => jk v :: jks vs
end
mutual
theorem jk_rep {M : Mem} {X : V → Value → Prop} : ∀ {v : V} {c : Value}, rep M X v c → rep M X (jk v) c
 | .seq sz l, c, h => by
   simp only [jk]
   split
   · exact h
   · simp only [rep] at h ⊢
     obtain ⟨a, cap, rfl, _⟩ := h
     rfl
 | .strct cs, c, h => by
   simp only [rep, jk] at h ⊢
   obtain ⟨arr, h1, h2, h3⟩ := h
   exact ⟨arr, h1, jks_rep h2, h3⟩
 | .tup cs, c, h => by
   simp only [rep, jk] at h ⊢
   obtain ⟨arr, h1, h2⟩ := h
   exact ⟨arr, h1, jks_rep h2⟩
 | .sptr _ _, c, h => by
   simp only [rep, jk] at h ⊢
   obtain ⟨b, o, y, rfl, _⟩ := h
   rfl
 | .int _ _, _, h => h
 | .bool _, _, h => h
 | .str _, _, h => h
 | .nil _, _, h => h
 | .ref _ _, _, h => h
 | .ptr _ _, _, h => h
 | .eptr _ _ _ _, _, h => h
 | .mref _ _ _, _, h => h
 | .fseq _ _, _, h => h
 | .mptr _ _ _ _ _, _, h => h
 | .nilptr, _, h => h
 | .fn _ _ _, _, h => h
 | .nilfn, _, h => h
 | .iface _ _, _, h => h
 | .niliface, _, h => h
 | .junk, _, h => h
theorem jks_rep {M : Mem} {X : V → Value → Prop} : ∀ {vs : List V} {cs : List Value}, qA M X vs cs → qA M X (jks vs) cs
 | [], _, h => h
 | v :: vs, cs, h => by
   simp only [qA, jks] at h ⊢
   obtain ⟨c, cs', h1, h2, h3⟩ := h
   exact ⟨c, cs', h1, jk_rep h2, jks_rep h3⟩
end
theorem Fn.weak {f : FuncId} {us : List V} {r r' : V} (h : Fn P f us r) (hr : ∀ M c, rep M NX r c → rep M NX r' c) : Fn P f us r' :=
 fun M w cs hM hus o a Nx Q hN => h M w cs hM hus o a Nx Q fun c M' w' h1 => hN c M' w' (hr M' c h1)
theorem Fn.jk {f : FuncId} {us : List V} {r : V} (h : Fn P f us r) : Fn P f us (jk r) := h.weak fun _ _ => jk_rep
def qK (P : Program) (fn : Func) (K : List (List Nat)) (n : Nat) : Option (AC × List RV) :=
 match fn.body with
 | some c => match cCode P fn.ntmps [] [] c K, cRes P fn.results.toList with
   | some (x, []), some rs => if (fn.name == "runtime.NumGoroutine") = false ∧ n ≤ fn.ntmps then some (x, rs) else none
   | _, _ => none
 | none => none

theorem FnE.of_image {f : FuncId} {fn : Func} {us : List V} {r : V} {x : AC} {K : List (List Nat)} {rs : List RV} {n : Nat} (hm : P.follows .mixedOrders = true) (hf : P.funcs[f]? = some fn)
 (hi : qK P fn K n = some (x, rs)) (hn : us.length = n) (hW : oks us → W (Cn P) x (Res rs (· = r)) ⟨ent 0 us, []⟩) : FnE P f us r := by
 unfold qK at hi
 split at hi
 · split at hi
   · split at hi
     · rename_i hc
       cases hi
       exact FnE.of_W hm hf ‹_› hc.1 (cCode_spec ‹_›) ‹_› (by rw [hn]; exact hc.2) hW
     · cases hi
   · cases hi
 · cases hi
theorem Fn.of_image {f : FuncId} {fn : Func} {us : List V} {r : V} {x : AC} {K : List (List Nat)} {rs : List RV} {n : Nat} (hm : P.follows .mixedOrders = true) (hf : P.funcs[f]? = some fn)
 (hi : qK P fn K n = some (x, rs)) (hn : us.length = n) (hW : oks us → W (Cn P) x (Res rs (· = r)) ⟨ent 0 us, []⟩) : Fn P f us r := (FnE.of_image hm hf hi hn hW).fn

theorem FnN.of_image {f : FuncId} {fn : Func} {us : List V} {r : V} {x : AC} {K : List (List Nat)} {rs : List RV} {n : Nat} (hm : P.follows .mixedOrders = true) (hf : P.funcs[f]? = some fn)
 (hi : qK P fn K n = some (x, rs)) (hn : us.length = n) (hW : oks us → W (Cn P) x (ResN rs r) ⟨ent 0 us, []⟩) : FnN P f us r := by
 unfold qK at hi
 split at hi
 · split at hi
   · split at hi
     · rename_i hc
       cases hi
       exact FnN.of_W hm hf ‹_› hc.1 (cCode_spec ‹_›) ‹_› (by rw [hn]; exact hc.2) hW
     · cases hi
   · cases hi
 · cases hi

def pvals : List (Nat × V) → List V
 | [] => []
 | (_, v) :: r => v :: pvals r
def pinEq (m : List Nat) (r : List (Nat × V)) (us : List V) : List Nat → Prop
 | [] => True
 | i :: is => (match lk r i, us[i]? with
   | some v, some u => ren m v = u
   | _, _ => False) ∧ pinEq m r us is
def resHM (σ : St) (ps : List Nat) (us : List V) (r : V) (H' : List (Option Ob)) (vs : List V) (m : List Nat) : Prop :=
 pinEq m σ.r us ps ∧ tupV (rens m vs) = r ∧ renH σ.h m m = H'
def ResH (rs : List RV) (ps : List Nat) (us : List V) (r : V) (H' : List (Option Ob)) : Ex → St → Prop := fun e σ => (match e with
    | .exit _ => False
    | .goto _ => False
    | _ => True) ∧ match σ.rvs rs with
    | some vs => resHM σ ps us r H' vs (lent σ.h (pvals (pk σ.r ps)) vs).2
    | none => False
theorem pinEq_get {m : List Nat} {r : List (Nat × V)} {us : List V} : ∀ {is : List Nat}, pinEq m r us is → ∀ i, i ∈ is → ∃ v u, lk r i = some v ∧ us[i]? = some u ∧ ren m v = u
 | [], _, i, hi => by cases hi
 | j :: is, h, i, hi => by
   simp only [pinEq] at h
   rcases List.mem_cons.1 hi with rfl | hi
   · have h1 := h.1
     split at h1
     · exact ⟨_, _, by assumption, by assumption, h1⟩
     · exact h1.elim
   · exact pinEq_get h.2 i hi

theorem FnH.of_W {f : FuncId} {fn : Func} {c : Code} {ps : List Nat} {us : List V} {H H' : List (Option Ob)} {r : V} {x : AC} {rs : List RV} (hm : P.follows .mixedOrders = true) (hf : P.funcs[f]? = some fn) (hb : fn.body = some c)
 (hn : (fn.name == "runtime.NumGoroutine") = false) (hc : LC P fn.ntmps ps c x) (hr : cRes P fn.results.toList = some rs) (hs : us.length ≤ fn.ntmps) (hps : ∀ i ∈ ps, i < us.length)
 (hW : oks us → okH H → W (Cn P) x (ResH rs ps us r H') ⟨ent 0 us, H⟩) : FnH P f ps us H r H' := by
 intro M w κ cs hp hus o a Nx Q hN
 have hcall : (callFunc f cs).run P w = .ok (.enter f cs) w := by
  unfold callFunc
  simp only [beq_eq_false_iff_ne, ne_eq] at hn
  simp [Sem.run_bind, hf, hb, hn]
 have hl : cs.size = us.length := by have := qZ hus; simpa using this
 rw [hcall, Oper.upon_enter]
 have key : Calls P f cs w fun e w' => ∃ (c : Value) (M' : Mem) (κ' : Kap), e = .returned c ∧ rep M' (XX κ' H') r c ∧ Und (lentB κ H w ps cs) w w' ∧ Heap κ' M' (lentB κ H w ps cs) w' H' ∧
  (∀ p v, M p = some v → M' p = some v) ∧ (∀ p v, M' p = some v → M p = some v ∨ (lentB κ H w ps cs).own p.block) ∧
  (∀ i, i ∈ ps → ∀ u d, us[i]? = some u → cs[i]? = some d → rep M' (XX κ' H') u d) := by
  refine calls_of_wp hf hb ?_
  have H0 : Rel fn.ntmps M (lentB κ H w ps cs) w κ M ⟨ent 0 us, H⟩ { tmps := cs ++ Array.replicate (fn.ntmps - cs.size) undef, defers := [] } w :=
   { dfr := rfl
     pin := fun i hi => by
      have hi : i ∈ ps := hi
      have := hps i hi
      show (cs ++ Array.replicate (fn.ntmps - cs.size) undef)[i]? = cs[i]?
      rw [Array.getElem?_append_left (by omega)]
     size := by simp; omega
     regs := fun t v ht => by
      obtain ⟨_, h2⟩ := lk_ent ht
      simp only [Nat.sub_zero] at h2
      have hlt : t < us.length := (List.getElem?_eq_some_iff.1 h2).1
      obtain ⟨c, h3, h4⟩ := repAll_get hus h2
      refine ⟨by omega, c, ?_, h4⟩
      rw [Array.getElem?_append_left (by omega)]
      simpa using h3
     heap := hp.heap
     inj := hp.inj
     snd := hp.snd
     sep := hp.sep
     sub := ⟨fun _ _ h => h, hp.fmS, fun _ _ _ => Nat.zero_le _, Nat.zero_le _, hp.gl⟩
     new := fun _ _ h => .inl h
     base := rfl
     blw := Und.refl _ _ }
  refine W_sound hm (B := lentB κ H w ps cs) hc ?_ H0 (hW (repAll_ok hus) (heap_ok hp.heap))
  intro e κ1 M1 σ a w1 hR H1
  simp only [ResH] at hR
  obtain ⟨he, hR⟩ := hR
  split at hR
  · rename_i vs hvs
    obtain ⟨ds, k1, k2⟩ := run_results hr H1 hvs
    obtain ⟨hmn, _, _⟩ := lent_spec (h := σ.h) (pvs := pvals (pk σ.r ps)) (vs := vs)
    generalize (lent σ.h (pvals (pk σ.r ps)) vs).2 = m at *
    obtain ⟨hR1, hR2, hR3⟩ := hR
    have H2 := H1.ren hmn [] (fun t v h => by simp [lk] at h)
    have k3 := rens_rep (XX_ren (M := M1) (κ := κ1) (h := σ.h) hmn) k1
    simp only [renR] at H2
    rw [hR3] at H2 k3
    have hpin : ∀ i, i ∈ ps → ∀ u d, us[i]? = some u → cs[i]? = some d → rep M1 (XX (κ1.ren m) H') u d := by
     intro i hi u d hu hd
     obtain ⟨v, u', e1, e2, e3⟩ := pinEq_get hR1 i hi
     rw [hu] at e2
     cases e2
     obtain ⟨_, c, g2, g3⟩ := H1.regs i v e1
     rw [H1.pin i hi] at g2
     have g2 : cs[i]? = some c := g2
     rw [hd] at g2
     cases g2
     rw [← e3, ← hR3]
     exact ren_rep (XX_ren hmn) g3
    generalize hk' : κ1.ren m = κ' at *
    have fin : bodyPost P fn (fun e w' => ∃ (c : Value) (M' : Mem) (κ' : Kap), e = .returned c ∧ rep M' (XX κ' H') r c ∧ Und (lentB κ H w ps cs) w w' ∧ Heap κ' M' (lentB κ H w ps cs) w' H' ∧
     (∀ p v, M p = some v → M' p = some v) ∧ (∀ p v, M' p = some v → M p = some v ∨ (lentB κ H w ps cs).own p.block) ∧
     (∀ i, i ∈ ps → ∀ u d, us[i]? = some u → cs[i]? = some d → rep M' (XX κ' H') u d)) .normal a w1 := by
     refine ⟨H1.dfr, _, k2, _, M1, κ', rfl, ?_, H1.blw, ⟨H2.heap, H2.inj, H2.snd, H2.sep, H2.sub.fmS, H2.sub.gl.mono H2.sub.sub⟩, H1.sub.sub, H1.new, hpin⟩
     subst hR2
     generalize rens m vs = ws at *
     match ws, ds, k3 with
     | [], [], k3 => simp only [tupV, rep]; exact ⟨#[], rfl, by simp [qA]⟩
     | [v], [d], k3 =>
       simp only [qA] at k3
       obtain ⟨_, _, h1, h2, _⟩ := k3
       cases h1
       simpa [tupV] using h2
     | v :: v' :: vs', d :: d' :: ds', k3 =>
       have e : (if h : (d :: d' :: ds').length = 1 then (d :: d' :: ds')[0] else .tuple (d :: d' :: ds').toArray) = .tuple (d :: d' :: ds').toArray := dif_neg (by simp)
       rw [e]
       simp only [tupV, rep]
       exact ⟨_, rfl, by simpa using k3⟩
     | [], d :: ds, k3 => simp [qA] at k3
     | v :: vs, [], k3 => simp [qA] at k3
     | [v], d :: d' :: ds, k3 => simp [qA] at k3
     | v :: v' :: vs, [d], k3 =>
       simp only [qA] at k3
       obtain ⟨c, cs', h1, _, c2, cs2, h2, _⟩ := k3
       cases h1
       cases h2
    cases e with
    | norm => exact fin
    | ret => exact fin
    | exit id => exact he.elim
    | goto l => exact he.elim
  · exact hR.elim
 refine key.mono ?_
 rintro e w' ⟨c, M', κ', rfl, h1, h2, h3, h4, h5, h6⟩
 exact hN c M' w' κ' h1 h2 h3 h4 h5 h6

def qL (P : Program) (fn : Func) (ps E : List Nat) (K : List (List Nat)) (n : Nat) : Option (AC × List RV) :=
 match fn.body with
 | some c => match cCode P fn.ntmps ps E c K, cRes P fn.results.toList with
   | some (x, []), some rs => if (fn.name == "runtime.NumGoroutine") = false ∧ n ≤ fn.ntmps ∧ ps.all (fun i => decide (i < n)) = true then some (x, rs) else none
   | _, _ => none
 | none => none
theorem FnH.of_image {f : FuncId} {fn : Func} {ps E : List Nat} {us : List V} {H H' : List (Option Ob)} {r : V} {x : AC} {K : List (List Nat)} {rs : List RV} {n : Nat} (hm : P.follows .mixedOrders = true) (hf : P.funcs[f]? = some fn)
 (hi : qL P fn ps E K n = some (x, rs)) (hn : us.length = n) (hW : oks us → okH H → W (Cn P) x (ResH rs ps us r H') ⟨ent 0 us, H⟩) : FnH P f ps us H r H' := by
 unfold qL at hi
 split at hi
 · split at hi
   · split at hi
     · rename_i hc
       cases hi
       exact FnH.of_W hm hf ‹_› hc.1 (cCode_spec ‹_›) ‹_› (by rw [hn]; exact hc.2.1) (fun i hi => by have := List.all_eq_true.1 hc.2.2 i hi; simp at this; omega) hW
     · cases hi
   · cases hi
 · cases hi
theorem Fn.of_imageE {f : FuncId} {fn : Func} {E : List Nat} {us : List V} {r : V} {x : AC} {K : List (List Nat)} {rs : List RV} {n : Nat} (hm : P.follows .mixedOrders = true) (hf : P.funcs[f]? = some fn)
 (hi : qL P fn [] E K n = some (x, rs)) (hn : us.length = n) (hW : oks us → W (Cn P) x (Res rs (· = r)) ⟨ent 0 us, []⟩) : Fn P f us r := by
 unfold qL at hi
 split at hi
 · split at hi
   · split at hi
     · rename_i hc
       cases hi
       exact (FnE.of_W hm hf ‹_› hc.1 (cCode_spec ‹_›) ‹_› (by rw [hn]; exact hc.2.1) hW).fn
     · cases hi
   · cases hi
 · cases hi
end
end Go.Abs
end
section
namespace Go.Abs
def oM {α : Type} (x : Option α) (k : α → Prop) : Prop := match x with
 | some v => k v
 | none => False
def oN {α : Type} (x : Option α) (k : α → Prop) (e : Prop) : Prop := match x with
 | some v => k v
 | none => e
theorem oN_some {α : Type} {v : α} {k : α → Prop} {e : Prop} : oN (some v) k e = k v := propext Iff.rfl
theorem oN_none {α : Type} {k : α → Prop} {e : Prop} : oN none k e = e := propext Iff.rfl
def BrK (t : Bool) (A B : St → Prop) (σ : St) : Prop := Br t (A σ) (B σ)
def rqK (p : Prop) (K : St → Prop) (σ : St) : Prop := p ∧ K σ
def cM (x : Option V) (A B : St → Prop) (σ : St) : Prop := match x with
 | some (.bool t) => Br t (A σ) (B σ)
 | _ => False
def gM (x : Option V) (b : Bool) (A B : St → Prop) (σ : St) : Prop := match x with
 | some (.bool y) => if b = true then Br y (A σ) (B σ) else Br y (B σ) (A σ)
 | some (.tup []) => B σ
 | _ => False
def clsK (Q : Ex → St → Prop) (ks : List Nat) (σ : St) : Prop := Q .norm { σ with r := pk σ.r ks }
def skK (d : Option Nat) (K : St → Prop) (σ : St) : Prop := K (σ.put d (.tup []))
def putK (σ : St) (d : Option Nat) (K : St → Prop) (v : V) : Prop := K (σ.put d v)
theorem BrK.mk {t : Bool} {A B : St → Prop} {σ : St} (h : t = true → A σ) (h' : t = false → B σ) : BrK t A B σ := ⟨h, h'⟩
theorem BrK_true {A B : St → Prop} {σ : St} : BrK true A B σ = A σ := by simp [BrK, Br]
theorem BrK_false {A B : St → Prop} {σ : St} : BrK false A B σ = B σ := by simp [BrK, Br]
theorem BrKd.mk {p : Prop} [Decidable p] {A B : St → Prop} {σ : St} (h : p → A σ) (h' : ¬p → B σ) : BrK (decide p) A B σ := ⟨fun e => h (of_decide_eq_true e), fun e => h' (of_decide_eq_false e)⟩
theorem BrKe.mk {p : Prop} [Decidable p] {A B : St → Prop} {σ : St} (h : p → A σ) (h' : ¬p → B σ) : BrK (!decide p) B A σ := ⟨fun e => h' (by simpa using e), fun e => h (by simpa using e)⟩
theorem BrK_t {p : Prop} [Decidable p] {A B : St → Prop} {σ : St} (h : p) : BrK (decide p) A B σ = A σ := by rw [decide_eq_true h]; exact BrK_true
theorem BrK_f {p : Prop} [Decidable p] {A B : St → Prop} {σ : St} (h : ¬p) : BrK (decide p) A B σ = B σ := by rw [decide_eq_false h]; exact BrK_false
theorem BrK_n {b : Bool} {A B : St → Prop} {σ : St} : BrK (!b) A B σ = BrK b B A σ := by cases b <;> simp [BrK, Br]
theorem rqK_t {p : Prop} {K : St → Prop} {σ : St} (h : p) : rqK p K σ = K σ := by simp [rqK, h]
theorem rqK.mk {p : Prop} {K : St → Prop} {σ : St} (h : p) (h' : K σ) : rqK p K σ := ⟨h, h'⟩
theorem rqK_true {K : St → Prop} {σ : St} : rqK True K σ = K σ := by simp [rqK]
theorem oM_some {α : Type} {v : α} {k : α → Prop} : oM (some v) k = k v := propext Iff.rfl
theorem oM_none {α : Type} {k : α → Prop} : oM none k = False := propext Iff.rfl
theorem cM_bool {t : Bool} {A B : St → Prop} {σ : St} : cM (some (.bool t)) A B σ = BrK t A B σ := propext Iff.rfl
theorem gM_true {y : Bool} {A B : St → Prop} {σ : St} : gM (some (.bool y)) true A B σ = BrK y A B σ := propext Iff.rfl
theorem gM_false {y : Bool} {A B : St → Prop} {σ : St} : gM (some (.bool y)) false A B σ = BrK y B A σ := propext Iff.rfl
theorem gM_tup {b : Bool} {A B : St → Prop} {σ : St} : gM (some (.tup [])) b A B σ = B σ := by cases b <;> rfl
section
variable {Φ : Ctr} {Q : Ex → St → Prop} {σ : St} {K : St → Prop} {d : Option Nat}
theorem clsK_app {ks : List Nat} : clsK Q ks σ = Q .norm { σ with r := pk σ.r ks } := propext Iff.rfl
theorem skK_app : skK d K σ = K (σ.put d (.tup [])) := propext Iff.rfl
theorem putK_app {v : V} : putK σ d K v = K (σ.put d v) := propext Iff.rfl
theorem W_reg' {ops ks} : W Φ (.reg ops ks) Q σ = wops Φ ops (clsK Q ks) σ := propext Iff.rfl
theorem W_regD' {ops ks} : W Φ (.regD ops ks) Q σ = wopsD Φ ops (clsK Q ks) σ := propext Iff.rfl
theorem W_regE' {alts ks} : W Φ (.regE alts ks) Q σ = wall Φ alts (clsK Q ks) σ := propext Iff.rfl
theorem W_cond' {c : AO} {a b : AC} : W Φ (.cond c a b) Q σ = cM (σ.ev c) (W Φ a Q) (W Φ b Q) σ := propext Iff.rfl
theorem W_seq' {a b : AC} : W Φ (.seq a b) Q σ = W Φ a (Ex.then (W Φ b Q) Q) σ := propext Iff.rfl
theorem wops_nil : wops Φ [] K σ = K σ := propext Iff.rfl
theorem wops_cons {o : AOp} {os : List AOp} : wops Φ (o :: os) K σ = wop Φ o (wops Φ os K) σ := propext Iff.rfl
theorem wop_n {d : Option Nat} {a : Act'} : wop Φ ⟨d, a, none⟩ K σ = qC Φ d a K σ := propext Iff.rfl
theorem wop_g {d : Option Nat} {a : Act'} {t : Nat} {b : Bool} : wop Φ ⟨d, a, some (t, b)⟩ K σ = gM (lk σ.r t) b (qC Φ d a K) (skK d K) σ := by
 simp only [wop, gM]
 split <;> rename_i heq <;> simp only [heq] <;> rfl
theorem wopsD_nil : wopsD Φ [] K σ = K σ := propext Iff.rfl
theorem wopsD_cons {o : AOp} {os : List AOp} : wopsD Φ (o :: os) K σ = qW Φ o (wopsD Φ os K) σ := propext Iff.rfl
theorem wopD_n {d : Option Nat} {a : Act'} : qW Φ ⟨d, a, none⟩ K σ = qD Φ d a K σ := propext Iff.rfl
theorem wopD_g {d : Option Nat} {a : Act'} {t : Nat} {b : Bool} : qW Φ ⟨d, a, some (t, b)⟩ K σ = gM (lk σ.r t) b (qD Φ d a K) (skK d K) σ := by
 simp only [qW, gM]
 split <;> rename_i heq <;> simp only [heq] <;> rfl
theorem wtree_nil : wtree Φ .nil K σ = K σ := propext Iff.rfl
theorem wtree_op {x : AOp} {t : OT} : wtree Φ (.op x t) K σ = qW Φ x (wtree Φ t K) σ := propext Iff.rfl
def wbothK (Φ : Ctr) (a b : OT) (K : St → Prop) (σ : St) : Prop := wtree Φ a K σ ∧ wtree Φ b K σ
theorem wtree_both {a b : OT} : wtree Φ (.both a b) K σ = wbothK Φ a b K σ := propext Iff.rfl
theorem wbothK.mk {a b : OT} (h : wtree Φ a K σ) (h' : wtree Φ b K σ) : wbothK Φ a b K σ := ⟨h, h'⟩
def nrmK (Q : Ex → St → Prop) (ks : List Nat) (σ : St) : Prop := Q .norm (σ.nrm ks)
theorem nrmK_app {ks : List Nat} : nrmK Q ks σ = Q .norm (σ.nrm ks) := propext Iff.rfl
theorem W_regF' {t ks} : W Φ (.regF t ks) Q σ = wtree Φ t (nrmK Q ks) σ := propext Iff.rfl
theorem wall_nil : wall Φ [] K σ = True := propext Iff.rfl
def wallK (Φ : Ctr) (o : List AOp) (os : List (List AOp)) (K : St → Prop) (σ : St) : Prop := wops Φ o K σ ∧ wall Φ os K σ
theorem wall_cons {o : List AOp} {os : List (List AOp)} : wall Φ (o :: os) K σ = wallK Φ o os K σ := propext Iff.rfl
theorem wallK.mk {o : List AOp} {os : List (List AOp)} (h : wops Φ o K σ) (h' : wall Φ os K σ) : wallK Φ o os K σ := ⟨h, h'⟩

def isVal : Act' → Bool
 | .s2b _ => false
 | .lit _ _ _ => false
 | .ltr _ _ _ => false
 | .alc _ => false
 | .box _ => false
 | .st _ _ _ => false
 | .app _ _ _ _ _ => false
 | .mks _ _ _ _ _ => false
 | .mk0 _ _ _ _ => false
 | .mkm _ _ _ _ _ => false
 | .call _ _ => false
 | .callv _ _ => false
 | .callH _ _ => false
 | .mkp _ => false
 | .mup _ _ _ _ => false
 | .inv _ _ _ => false
 | .trc _ _ _ => false
 | _ => true
theorem a_val {a : Act'} (h : isVal a = true) : qC Φ d a K σ = oM (σ.val a) (putK σ d K) := by
 cases a <;> first | (exfalso; revert h; simp only [isVal]; decide) | skip
 all_goals
  simp only [qC, oM]
  split <;> rename_i heq <;> simp only [heq] <;> rfl
theorem a_mov {x} : qC Φ d (.mov x) K σ = oM (σ.val (.mov x)) (putK σ d K) := a_val rfl
theorem aD_mov {x} : qD Φ d (.mov x) K σ = qC Φ d (.mov x) K σ := propext Iff.rfl
theorem a_pick {x y z} : qC Φ d (.pick x y z) K σ = oM (σ.val (.pick x y z)) (putK σ d K) := a_val rfl
theorem aD_pick {x y z} : qD Φ d (.pick x y z) K σ = qC Φ d (.pick x y z) K σ := propext Iff.rfl
theorem a_fld {x y z w} : qC Φ d (.fld x y z w) K σ = oM (σ.val (.fld x y z w)) (putK σ d K) := a_val rfl
theorem aD_fld {x y z w} : qD Φ d (.fld x y z w) K σ = qC Φ d (.fld x y z w) K σ := propext Iff.rfl
theorem a_fa {x y} : qC Φ d (.fa x y) K σ = oM (σ.val (.fa x y)) (putK σ d K) := a_val rfl
theorem aD_fa {x y} : qD Φ d (.fa x y) K σ = qC Φ d (.fa x y) K σ := propext Iff.rfl
theorem a_ia {x y z} : qC Φ d (.ia x y z) K σ = oM (σ.val (.ia x y z)) (putK σ d K) := a_val rfl
theorem aD_ia {x y z} : qD Φ d (.ia x y z) K σ = qC Φ d (.ia x y z) K σ := propext Iff.rfl
theorem a_iaa {x y z w} : qC Φ d (.iaa x y z w) K σ = oM (σ.val (.iaa x y z w)) (putK σ d K) := a_val rfl
theorem aD_iaa {x y z w} : qD Φ d (.iaa x y z w) K σ = qC Φ d (.iaa x y z w) K σ := propext Iff.rfl
theorem a_ld {x y z} : qC Φ d (.ld x y z) K σ = oM (σ.val (.ld x y z)) (putK σ d K) := a_val rfl
theorem aD_ld {x y z} : qD Φ d (.ld x y z) K σ = qC Φ d (.ld x y z) K σ := propext Iff.rfl
theorem a_ixs {x y} : qC Φ d (.ixs x y) K σ = oM (σ.val (.ixs x y)) (putK σ d K) := a_val rfl
theorem aD_ixs {x y} : qD Φ d (.ixs x y) K σ = qC Φ d (.ixs x y) K σ := propext Iff.rfl
theorem a_ixa {x y z w u} : qC Φ d (.ixa x y z w u) K σ = oM (σ.val (.ixa x y z w u)) (putK σ d K) := a_val rfl
theorem aD_ixa {x y z w u} : qD Φ d (.ixa x y z w u) K σ = qC Φ d (.ixa x y z w u) K σ := propext Iff.rfl
theorem a_bin {x y z} : qC Φ d (.bin x y z) K σ = oM (σ.val (.bin x y z)) (putK σ d K) := a_val rfl
theorem aD_bin {x y z} : qD Φ d (.bin x y z) K σ = qC Φ d (.bin x y z) K σ := propext Iff.rfl
theorem a_un {x y} : qC Φ d (.un x y) K σ = oM (σ.val (.un x y)) (putK σ d K) := a_val rfl
theorem aD_un {x y} : qD Φ d (.un x y) K σ = qC Φ d (.un x y) K σ := propext Iff.rfl
theorem a_cii {x y} : qC Φ d (.cii x y) K σ = oM (σ.val (.cii x y)) (putK σ d K) := a_val rfl
theorem aD_cii {x y} : qD Φ d (.cii x y) K σ = qC Φ d (.cii x y) K σ := propext Iff.rfl
theorem a_b2s {x} : qC Φ d (.b2s x) K σ = oM (σ.val (.b2s x)) (putK σ d K) := a_val rfl
theorem aD_b2s {x} : qD Φ d (.b2s x) K σ = qC Φ d (.b2s x) K σ := propext Iff.rfl
theorem a_sls {x y z} : qC Φ d (.sls x y z) K σ = oM (σ.val (.sls x y z)) (putK σ d K) := a_val rfl
theorem aD_sls {x y z} : qD Φ d (.sls x y z) K σ = qC Φ d (.sls x y z) K σ := propext Iff.rfl
theorem a_slq {x y z w} : qC Φ d (.slq x y z w) K σ = oM (σ.val (.slq x y z w)) (putK σ d K) := a_val rfl
theorem aD_slq {x y z w} : qD Φ d (.slq x y z w) K σ = qC Φ d (.slq x y z w) K σ := propext Iff.rfl
theorem a_lens {x} : qC Φ d (.lens x) K σ = oM (σ.val (.lens x)) (putK σ d K) := a_val rfl
theorem aD_lens {x} : qD Φ d (.lens x) K σ = qC Φ d (.lens x) K σ := propext Iff.rfl
theorem a_lenq {x} : qC Φ d (.lenq x) K σ = oM (σ.val (.lenq x)) (putK σ d K) := a_val rfl
theorem aD_lenq {x} : qD Φ d (.lenq x) K σ = qC Φ d (.lenq x) K σ := propext Iff.rfl
theorem a_beq {x y z} : qC Φ d (.beq x y z) K σ = oM (σ.val (.beq x y z)) (putK σ d K) := a_val rfl
theorem aD_beq {x y z} : qD Φ d (.beq x y z) K σ = qC Φ d (.beq x y z) K σ := propext Iff.rfl
theorem a_ext {x y} : qC Φ d (.ext x y) K σ = oM (σ.val (.ext x y)) (putK σ d K) := a_val rfl
theorem aD_ext {x y} : qD Φ d (.ext x y) K σ = qC Φ d (.ext x y) K σ := propext Iff.rfl
theorem a_bld {x y} : qC Φ d (.bld x y) K σ = oM (σ.val (.bld x y)) (putK σ d K) := a_val rfl
theorem aD_bld {x y} : qD Φ d (.bld x y) K σ = qC Φ d (.bld x y) K σ := propext Iff.rfl
theorem a_mkf {x y z} : qC Φ d (.mkf x y z) K σ = oM (σ.val (.mkf x y z)) (putK σ d K) := a_val rfl
theorem aD_mkf {x y z} : qD Φ d (.mkf x y z) K σ = qC Φ d (.mkf x y z) K σ := propext Iff.rfl
theorem a_nlc {x} : qC Φ d (.nlc x) K σ = oM (σ.val (.nlc x)) (putK σ d K) := a_val rfl
theorem aD_nlc {x} : qD Φ d (.nlc x) K σ = qC Φ d (.nlc x) K σ := propext Iff.rfl
theorem a_mki {x y} : qC Φ d (.mki x y) K σ = oM (σ.val (.mki x y)) (putK σ d K) := a_val rfl
theorem aD_mki {x y} : qD Φ d (.mki x y) K σ = qC Φ d (.mki x y) K σ := propext Iff.rfl
theorem a_aeq {x y z w} : qC Φ d (.aeq x y z w) K σ = oM (σ.val (.aeq x y z w)) (putK σ d K) := a_val rfl
theorem aD_aeq {x y z w} : qD Φ d (.aeq x y z w) K σ = qC Φ d (.aeq x y z w) K σ := propext Iff.rfl
theorem a_lkp {x y z w u} : qC Φ d (.lkp x y z w u) K σ = oM (σ.val (.lkp x y z w u)) (putK σ d K) := a_val rfl
theorem aD_lkp {x y z w u} : qD Φ d (.lkp x y z w u) K σ = qC Φ d (.lkp x y z w u) K σ := propext Iff.rfl
theorem a_mm {x y z} : qC Φ d (.mm x y z) K σ = oM (σ.val (.mm x y z)) (putK σ d K) := a_val rfl
theorem aD_mm {x y z} : qD Φ d (.mm x y z) K σ = qC Φ d (.mm x y z) K σ := propext Iff.rfl
theorem a_nlq {x y z} : qC Φ d (.nlq x y z) K σ = oM (σ.val (.nlq x y z)) (putK σ d K) := a_val rfl
theorem aD_nlq {x y z} : qD Φ d (.nlq x y z) K σ = qC Φ d (.nlq x y z) K σ := propext Iff.rfl
theorem aD_alc {x} : qD Φ d (.alc x) K σ = qC Φ d (.alc x) K σ := propext Iff.rfl
theorem aD_box {x} : qD Φ d (.box x) K σ = qC Φ d (.box x) K σ := propext Iff.rfl
theorem aD_st {x y z} : qD Φ d (.st x y z) K σ = qC Φ d (.st x y z) K σ := propext Iff.rfl
theorem aD_app {x y z w u} : qD Φ d (.app x y z w u) K σ = qC Φ d (.app x y z w u) K σ := propext Iff.rfl
theorem aD_mks {x y z w u} : qD Φ d (.mks x y z w u) K σ = qC Φ d (.mks x y z w u) K σ := propext Iff.rfl
theorem aD_mk0 {x y z w} : qD Φ d (.mk0 x y z w) K σ = qC Φ d (.mk0 x y z w) K σ := propext Iff.rfl
theorem aD_mkm {x y z w u} : qD Φ d (.mkm x y z w u) K σ = qC Φ d (.mkm x y z w u) K σ := propext Iff.rfl
theorem aD_s2b {x} : qD Φ d (.s2b x) K σ = qC Φ d (.s2b x) K σ := propext Iff.rfl
theorem a_alc {z} : qC Φ d (.alc z) K σ = K ({ σ with h := σ.h ++ [some (Ob.box z)] }.put d (.ptr σ.h.length 0)) := propext Iff.rfl
def boxV (σ : St) (x : AO) : Option (List V) := match σ.ev x with
 | some v => if nt v = true then some (cl v) else none
 | none => none
def boxK (σ : St) (d : Option Nat) (K : St → Prop) (cs : List V) : Prop := K ({ σ with h := σ.h ++ [some (Ob.box cs)] }.put d (.ptr σ.h.length 0))
theorem boxK_app {cs : List V} : boxK σ d K cs = K ({ σ with h := σ.h ++ [some (Ob.box cs)] }.put d (.ptr σ.h.length 0)) := propext Iff.rfl
theorem a_box {x} : qC Φ d (.box x) K σ = oM (boxV σ x) (boxK σ d K) := by
 simp only [qC, boxV]
 cases σ.ev x with
 | none => rfl
 | some v => simp only; split <;> rfl
def stV (σ : St) (n : Nat) (p x : AO) : Option St := match σ.ev p, σ.ev x with
 | some a, some v => if nt v = true then σ.stor n a (cl v) else none
 | _, _ => none
theorem a_st {n p x} : qC Φ d (.st n p x) K σ = oM (stV σ n p x) (skK d K) := by
 simp only [qC, stV]
 cases σ.ev p with
 | none => rfl
 | some a => cases σ.ev x with
   | none => rfl
   | some v =>
     simp only
     split
     · cases σ.stor n a (cl v) <;> rfl
     · rfl
def strV (σ : St) (x : AO) : Option (List UInt8) := match σ.ev x with
 | some (.str s) => some s
 | _ => none
def s2bK (σ : St) (d : Option Nat) (K : St → Prop) (s : List UInt8) : Prop := rqK (s.length ≤ 140737488355328) K (σ.put d (.seq 1 (bytesV s)))
theorem s2bK_app {s : List UInt8} : s2bK σ d K s = rqK (s.length ≤ 140737488355328) K (σ.put d (.seq 1 (bytesV s))) := propext Iff.rfl
theorem a_s2b {x} : qC Φ d (.s2b x) K σ = oM (strV σ x) (s2bK σ d K) := by
 simp only [qC, strV, oM]
 cases σ.ev x with
 | none => rfl
 | some v => cases v <;> rfl
def litK (σ : St) (d : Option Nat) (sz : Nat) (K : St → Prop) (vs us : List V) : Prop := rqK (jD sz us = true ∧ us.length ≤ 16777216) K ((σ.kill (qE vs)).put d (.seq sz us))
theorem litK_app {sz : Nat} {vs us : List V} : litK σ d sz K vs us = rqK (jD sz us = true ∧ us.length ≤ 16777216) K ((σ.kill (qE vs)).put d (.seq sz us)) := propext Iff.rfl
def litKK (σ : St) (d : Option Nat) (sz : Nat) (K : St → Prop) (vs : List V) : Prop := oM (purs σ.h vs) (litK σ d sz K vs)
theorem litKK_app {sz : Nat} {vs : List V} : litKK σ d sz K vs = oM (purs σ.h vs) (litK σ d sz K vs) := propext Iff.rfl
theorem a_lit {e sz xs} : qC Φ d (.lit e sz xs) K σ = oM (σ.evs xs) (litKK σ d sz K) := by
 simp only [qC, oM]
 cases σ.evs xs with
 | none => rfl
 | some vs =>
   simp only [litKK, oM]
   cases purs σ.h vs with
   | none => rfl
   | some us => simp only [litK, rqK, and_assoc]
def litDK (σ : St) (d : Option Nat) (sz : Nat) (K : St → Prop) (us : List V) : Prop := rqK (jD sz us = true ∧ us.length ≤ 16777216) K (σ.put d (.seq sz us))
theorem litDK_app {sz : Nat} {us : List V} : litDK σ d sz K us = rqK (jD sz us = true ∧ us.length ≤ 16777216) K (σ.put d (.seq sz us)) := propext Iff.rfl
def litDKK (σ : St) (d : Option Nat) (sz : Nat) (K : St → Prop) (vs : List V) : Prop := oM (purs [] vs) (litDK σ d sz K)
theorem litDKK_app {sz : Nat} {vs : List V} : litDKK σ d sz K vs = oM (purs [] vs) (litDK σ d sz K) := propext Iff.rfl
theorem aD_lit {e sz xs} : qD Φ d (.lit e sz xs) K σ = oM (σ.evs xs) (litDKK σ d sz K) := by
 simp only [qD, oM]
 cases σ.evs xs with
 | none => rfl
 | some vs =>
   simp only [litDKK, oM]
   cases purs [] vs with
   | none => rfl
   | some us => simp only [litDK, rqK, and_assoc]
def appV (σ : St) (x y : AO) (e sz by' : Nat) : Option (St × V × Nat) := match σ.ev x, σ.ev y with
    | some u, some v => match src σ.h v with
      | some (.seq sz' l) => if sz' = sz then
        (match u with
        | .nil _ => some ({ σ with h := σ.h ++ [some (Ob.arr e sz l)] }, .ref σ.h.length l.length, l.length * by')
        | .ref id n => match σ.arr? id with
          | some (e', sz', l0) => if e' = e ∧ sz' = sz ∧ n = l0.length then
            some ({ σ with h := σ.h.set id (some (Ob.arr e sz (l0 ++ l))) }, .ref id (n + l.length), (n + l.length) * by') else none
          | none => none
        | .mref id i n => match σ.rws? id with
          | some (e1, e2, sz2, rows) => match zC rows i with
            | some r => if e2 = e ∧ sz2 = sz ∧ n = r.length then
              some ({ σ with h := σ.h.set id (some (Ob.mat e1 e2 sz2 (rows.set i none))) ++ [some (Ob.arr e sz (r ++ l))] }, .ref σ.h.length (n + l.length), (n + l.length) * by') else none
            | none => none
          | none => none
        | _ => none) else none
      | _ => none
    | _, _ => none
def appK (d : Option Nat) (K : St → Prop) (p : St × V × Nat) : Prop := rqK (p.2.2 ≤ 140737488355328) K (p.1.put d p.2.1)
theorem appK_app {τ : St} {v : V} {n : Nat} : appK d K (τ, v, n) = rqK (n ≤ 140737488355328) K (τ.put d v) := propext Iff.rfl
theorem a_app1 {x y e sz by'} (h : oM (appV σ x y e sz by') (appK d K)) : qC Φ d (.app x y e sz by') K σ := by
 simp only [qC, appV] at h ⊢
 cases hx : σ.ev x with
 | none => simp only [hx] at h; exact h
 | some u => cases hy : σ.ev y with
   | none => simp only [hx, hy] at h; exact h
   | some v =>
     simp only [hx, hy] at h ⊢
     cases hp : src σ.h v with
     | none => simp only [hp] at h; exact h
     | some w =>
       cases w <;> simp only [hp] at h <;> try exact h
       rename_i sz' l
       split at h
       · rename_i hs
         refine ⟨hs, ?_⟩
         cases u <;> simp only at h <;> try exact h
         · rename_i id n
           cases ha : σ.arr? id with
           | none => simp only [ha] at h; exact False.elim h
           | some p =>
             obtain ⟨e', sz2, l0⟩ := p
             simp only [ha] at h ⊢
             split at h
             · rename_i hc; exact ⟨hc.1, hc.2.1, hc.2.2, h.1, h.2⟩
             · exact h.elim
         · rename_i id i n
           cases ha : σ.rws? id with
           | none => simp only [ha] at h; exact False.elim h
           | some p =>
             obtain ⟨e', e2', sz2, rows⟩ := p
             simp only [ha] at h ⊢
             cases hr : zC rows i with
             | none => simp only [hr] at h; exact False.elim h
             | some r =>
               simp only [hr] at h ⊢
               split at h
               · rename_i hc; exact ⟨hc.1, hc.2.1, hc.2.2, h.1, h.2⟩
               · exact h.elim
       · exact h.elim
theorem a_app {x y e sz by'} : qC Φ d (.app x y e sz by') K σ = oM (appV σ x y e sz by') (appK d K) := by
 refine propext ⟨fun h => ?_, a_app1⟩
 simp only [qC] at h
 split at h
 · rename_i u v hu hv
   split at h
   · rename_i sz' l hl
     obtain ⟨h0, h⟩ := h
     subst h0
     split at h
     · simp only [appV, hu, hv, hl]; exact h
     · rename_i id n
       split at h
       · rename_i e' sz2 l0 ha
         obtain ⟨h1, h2, h3, h4, h5⟩ := h
         simp only [appV, hu, hv, hl, ha, h1, h2, h3, and_self, if_true]
         exact ⟨by rw [h3] at h4; exact h4, by rw [h3] at h5; exact h5⟩
       · exact h.elim
     · rename_i id i n
       split at h
       · rename_i e1 e2 sz2 rows ha
         split at h
         · rename_i r hr
           obtain ⟨rfl, rfl, rfl, h4, h5⟩ := h
           simp only [appV, hu, hv, hl, ha, hr, and_self, if_true]
           exact ⟨h4, h5⟩
         · exact h.elim
       · exact h.elim
     · exact h.elim
   · exact h.elim
 · exact h.elim
def mksV (σ : St) (n : AO) : Option Int := match σ.ev n with
 | some (.int _ m) => some m
 | _ => none
def mksK (σ : St) (d : Option Nat) (e sz by' : Nat) (z : V) (K : St → Prop) (m : Int) : Prop :=
 rqK (0 ≤ m ∧ m * by' ≤ 140737488355328) K ({ σ with h := σ.h ++ [some (Ob.arr e sz (List.replicate m.toNat z))] }.put d (.ref σ.h.length m.toNat))
theorem mksK_app {e sz by' z} {m : Int} : mksK σ d e sz by' z K m =
 rqK (0 ≤ m ∧ m * by' ≤ 140737488355328) K ({ σ with h := σ.h ++ [some (Ob.arr e sz (List.replicate m.toNat z))] }.put d (.ref σ.h.length m.toNat)) := propext Iff.rfl
theorem a_mks {e sz by' z n} : qC Φ d (.mks e sz by' z n) K σ = oM (mksV σ n) (mksK σ d e sz by' z K) := by
 simp only [qC, mksV, oM]
 cases σ.ev n with
 | none => rfl
 | some v => cases v <;> first | rfl | simp only [mksK, rqK, and_assoc]
def sm (l : List (List V)) : List (Option (List V)) := l.map some
theorem sm_len {l : List (List V)} : (sm l).length = l.length := by simp [sm]
theorem sm_rowAt {l : List (List V)} {i : Nat} : zC (sm l) i = l[i]? := by
 unfold zC sm
 rw [List.getElem?_map]
 cases l[i]? <;> rfl
theorem sm_allRows {sz : Nat} : ∀ {l : List (List V)}, allRows sz (sm l) = some (l.map (.seq sz))
 | [] => rfl
 | r :: l => by
   have := sm_allRows (sz := sz) (l := l)
   simp only [sm] at this
   simp [sm, allRows, this]
theorem sm_set {l : List (List V)} {i : Nat} {r : List V} : (sm l).set i (some r) = sm (l.set i r) := by simp [sm]
theorem sm_flat : ∀ {l : List (List V)}, flatR (sm l) = l.all fun r => flats r
 | [] => rfl
 | r :: l => by
   have := sm_flat (l := l)
   simp only [sm] at this
   simp [sm, flatR, this]
def mkmK (σ : St) (d : Option Nat) (e by' e2 sz : Nat) (K : St → Prop) (m : Int) : Prop :=
 rqK (0 ≤ m ∧ m * by' ≤ 140737488355328) K ({ σ with h := σ.h ++ [some (Ob.mat e e2 sz (List.replicate m.toNat (some [])))] }.put d (.ref σ.h.length m.toNat))
theorem mkmK_app {e by' e2 sz} {m : Int} : mkmK σ d e by' e2 sz K m =
 rqK (0 ≤ m ∧ m * by' ≤ 140737488355328) K ({ σ with h := σ.h ++ [some (Ob.mat e e2 sz (sm (List.replicate m.toNat [])))] }.put d (.ref σ.h.length m.toNat)) := by simp [mkmK, sm]
def mk0K (σ : St) (d : Option Nat) (e sz by' : Nat) (K : St → Prop) (m : Int) : Prop :=
 rqK (0 ≤ m ∧ m * by' ≤ 140737488355328) K ({ σ with h := σ.h ++ [some (Ob.arr e sz [])] }.put d (.ref σ.h.length 0))
theorem mk0K_app {e sz by'} {m : Int} : mk0K σ d e sz by' K m =
 rqK (0 ≤ m ∧ m * by' ≤ 140737488355328) K ({ σ with h := σ.h ++ [some (Ob.arr e sz [])] }.put d (.ref σ.h.length 0)) := propext Iff.rfl
theorem a_mk0 {e sz by' n} : qC Φ d (.mk0 e sz by' n) K σ = oM (mksV σ n) (mk0K σ d e sz by' K) := by
 simp only [qC, mksV, oM]
 cases σ.ev n with
 | none => rfl
 | some v => cases v <;> first | rfl | simp only [mk0K, rqK, and_assoc]
theorem a_mkm {e by' e2 sz n} : qC Φ d (.mkm e by' e2 sz n) K σ = oM (mksV σ n) (mkmK σ d e by' e2 sz K) := by
 simp only [qC, mksV, oM]
 cases σ.ev n with
 | none => rfl
 | some v => cases v <;> first | rfl | simp only [mkmK, rqK, and_assoc]
theorem a_mkp {kt} : qC Φ d (.mkp kt) K σ = K ({ σ with h := σ.h ++ [some (Ob.mp kt [])] }.put d (.ref σ.h.length 0)) := propext Iff.rfl
theorem aD_mkp {kt} : qD Φ d (.mkp kt) K σ = qC Φ d (.mkp kt) K σ := propext Iff.rfl
theorem aD_mup {x y z w} : qD Φ d (.mup x y z w) K σ = qC Φ d (.mup x y z w) K σ := propext Iff.rfl
def mupV (σ : St) (kt : KT) (x k v : AO) : Option St := match σ.ev x, σ.ev k, σ.ev v with
 | some (.ref id _), some kv, some u => match σ.mp? id, pur σ.h u with
   | some (kt', l), some u' => if kt' = kt ∧ zL kt kv = true ∧ qM u = [] ∧ nt u' = true then some { σ with h := σ.h.set id (some (Ob.mp kt (mput kv u' l))) } else none
   | _, _ => none
 | _, _, _ => none
theorem a_mup {kt x k v} : qC Φ d (.mup kt x k v) K σ = oM (mupV σ kt x k v) (skK d K) := by
 simp only [qC, mupV]
 cases σ.ev x with
 | none => rfl
 | some a =>
   cases σ.ev k with
   | none => cases a <;> rfl
   | some b =>
     cases σ.ev v with
     | none => cases a <;> rfl
     | some c =>
       cases a <;> try rfl
       rename_i id n
       simp only
       cases σ.mp? id with
       | none => rfl
       | some p =>
         obtain ⟨kt', l⟩ := p
         cases pur σ.h c with
         | none => rfl
         | some u' =>
           simp only
           by_cases hc : kt' = kt ∧ zL kt b = true ∧ qM c = [] ∧ nt u' = true
           · rw [if_pos hc]
             exact propext ⟨fun h => h.2.2.2.2, fun h => ⟨hc.1, hc.2.1, hc.2.2.1, hc.2.2.2, h⟩⟩
           · rw [if_neg hc]
             exact propext ⟨fun h => (hc ⟨h.1, h.2.1, h.2.2.1, h.2.2.2.1⟩).elim, fun h => h.elim⟩
theorem fitsK_int {k : IntKind} {n : Int} : zL ⟨false, [.i k]⟩ (.int k n) = true := by simp [zL, aggV, cl, zT, kOf, qT]
theorem fitsK_str {s : List UInt8} : zL ⟨false, [.s]⟩ (.str s) = true := by simp [zL, aggV, cl, zT, kOf, qT]
def clK (Φ : Ctr) (d : Option Nat) (f : FuncId) (vs : List V) (σ : St) (K : St → Prop) (us : List V) : Prop := wcall Φ d f vs us K σ
def clKK (Φ : Ctr) (d : Option Nat) (f : FuncId) (σ : St) (K : St → Prop) (vs : List V) : Prop := oN (purs σ.h vs) (clK Φ d f vs σ K) (wcallH Φ d f vs K σ)
theorem clK_app {f vs us} : clK Φ d f vs σ K us = wcall Φ d f vs us K σ := propext Iff.rfl
theorem clKK_app {f vs} : clKK Φ d f σ K vs = oN (purs σ.h vs) (clK Φ d f vs σ K) (wcallH Φ d f vs K σ) := propext Iff.rfl
theorem a_call {f xs} : qC Φ d (.call f xs) K σ = oM (σ.evs xs) (clKK Φ d f σ K) := by
 simp only [qC, oM]
 cases σ.evs xs with
 | none => rfl
 | some vs => simp only [clKK, oN]; cases purs σ.h vs <;> rfl
def chK (Φ : Ctr) (d : Option Nat) (f : FuncId) (σ : St) (K : St → Prop) (vs : List V) : Prop := wcallH Φ d f vs K σ
theorem chK_app {f vs} : chK Φ d f σ K vs = wcallH Φ d f vs K σ := propext Iff.rfl
theorem a_callH {f xs} : qC Φ d (.callH f xs) K σ = oM (σ.evs xs) (chK Φ d f σ K) := by
 simp only [qC, oM]
 cases σ.evs xs <;> rfl
def clDK (Φ : Ctr) (d : Option Nat) (f : FuncId) (vs : List V) (σ : St) (K : St → Prop) (us : List V) : Prop := wcallD Φ d f vs us K σ
def clDKK (Φ : Ctr) (d : Option Nat) (f : FuncId) (σ : St) (K : St → Prop) (vs : List V) : Prop := oM (purs σ.h vs) (clDK Φ d f vs σ K)
theorem clDK_app {f vs us} : clDK Φ d f vs σ K us = wcallD Φ d f vs us K σ := propext Iff.rfl
theorem clDKK_app {f vs} : clDKK Φ d f σ K vs = oM (purs σ.h vs) (clDK Φ d f vs σ K) := propext Iff.rfl
theorem aD_call {f xs} : qD Φ d (.call f xs) K σ = oM (σ.evs xs) (clDKK Φ d f σ K) := by
 simp only [qD, oM]
 cases σ.evs xs with
 | none => rfl
 | some vs => simp only [clDKK, oM]; cases purs σ.h vs <;> rfl
def fnV (σ : St) (g : AO) (xs : List AO) : Option (FuncId × List V) := match σ.ev g, σ.evs xs with
 | some (.fn (.func f) a b), some vs => some (f, a ++ vs ++ b)
 | _, _ => none
def cvK (Φ : Ctr) (d : Option Nat) (σ : St) (K : St → Prop) (p : FuncId × List V) : Prop := oN (purs σ.h p.2) (clK Φ d p.1 p.2 σ K) (wcallH Φ d p.1 p.2 K σ)
def invV (σ : St) (tbl : List (Nat × FuncId)) (x : AO) (xs : List AO) : Option (FuncId × List V) := match σ.ev x, σ.evs xs with
 | some (.iface t v), some vs => match lkF tbl t with
   | some f => some (f, v :: vs)
   | none => none
 | _, _ => none
theorem a_inv {tbl x xs} : qC Φ d (.inv tbl x xs) K σ = oM (invV σ tbl x xs) (cvK Φ d σ K) := by
 simp only [qC, invV]
 cases σ.ev x with
 | none => rfl
 | some a =>
   cases σ.evs xs with
   | none => cases a <;> rfl
   | some vs =>
     cases a <;> try rfl
     rename_i t v
     simp only
     cases lkF tbl t with
     | none => rfl
     | some f => simp only [oM, cvK, oN]; cases purs σ.h (v :: vs) <;> rfl
theorem cvK_app {f vs} : cvK Φ d σ K (f, vs) = oN (purs σ.h vs) (clK Φ d f vs σ K) (wcallH Φ d f vs K σ) := propext Iff.rfl
theorem a_callv {g xs} : qC Φ d (.callv g xs) K σ = oM (fnV σ g xs) (cvK Φ d σ K) := by
 simp only [qC, fnV, oM]
 cases σ.ev g with
 | none => rfl
 | some v =>
   cases v with
   | fn f a b =>
     cases f <;> cases σ.evs xs <;> try rfl
     rename_i vs
     simp only [cvK, oN]
     cases purs σ.h (a ++ vs ++ b) <;> rfl
   | _ => rfl
def cvDK (Φ : Ctr) (d : Option Nat) (σ : St) (K : St → Prop) (p : FuncId × List V) : Prop := oM (purs σ.h p.2) (clDK Φ d p.1 p.2 σ K)
theorem cvDK_app {f vs} : cvDK Φ d σ K (f, vs) = oM (purs σ.h vs) (clDK Φ d f vs σ K) := propext Iff.rfl
theorem aD_callv {g xs} : qD Φ d (.callv g xs) K σ = oM (fnV σ g xs) (cvDK Φ d σ K) := by
 simp only [qD, fnV, oM]
 cases σ.ev g with
 | none => rfl
 | some v =>
   cases v with
   | fn f a b =>
     cases f <;> cases σ.evs xs <;> try rfl
     rename_i vs
     simp only [cvDK, oM]
     cases purs σ.h (a ++ vs ++ b) <;> rfl
   | _ => rfl
end
def resK (post : V → Prop) (us : List V) : Prop := post (tupV us)
theorem resK_app {post : V → Prop} {us : List V} : resK post us = post (tupV us) := propext Iff.rfl
def resKK (post : V → Prop) (σ : St) (vs : List V) : Prop := oM (purs σ.h vs) (resK post)
theorem resKK_app {post : V → Prop} {σ : St} {vs : List V} : resKK post σ vs = oM (purs σ.h vs) (resK post) := propext Iff.rfl
theorem Res_norm {rs : List RV} {post : V → Prop} {σ : St} : Res rs post .norm σ = oM (σ.rvs rs) (resKK post σ) := by
 unfold Res resKK oM
 cases σ.rvs rs with
 | none => simp
 | some vs => simp only; cases purs σ.h vs <;> simp [resK]
theorem Res_ret {rs : List RV} {post : V → Prop} {σ : St} : Res rs post .ret σ = oM (σ.rvs rs) (resKK post σ) := by
 unfold Res resKK oM
 cases σ.rvs rs with
 | none => simp
 | some vs => simp only; cases purs σ.h vs <;> simp [resK]
def resHK (σ : St) (ps : List Nat) (us : List V) (r : V) (H' : List (Option Ob)) (vs : List V) : Prop := resHM σ ps us r H' vs (lent σ.h (pvals (pk σ.r ps)) vs).2
theorem resHK_app {σ : St} {ps : List Nat} {us : List V} {r : V} {H' : List (Option Ob)} {vs : List V} : resHK σ ps us r H' vs = resHM σ ps us r H' vs (lent σ.h (pvals (pk σ.r ps)) vs).2 := propext Iff.rfl
theorem ResH_norm {rs : List RV} {σ : St} {ps : List Nat} {us : List V} {r : V} {H' : List (Option Ob)} : ResH rs ps us r H' .norm σ = oM (σ.rvs rs) (resHK σ ps us r H') := by
 unfold ResH oM
 cases σ.rvs rs <;> simp [resHK]
theorem ResH_ret {rs : List RV} {σ : St} {ps : List Nat} {us : List V} {r : V} {H' : List (Option Ob)} : ResH rs ps us r H' .ret σ = oM (σ.rvs rs) (resHK σ ps us r H') := by
 unfold ResH oM
 cases σ.rvs rs <;> simp [resHK]
section
variable {Φ : Ctr} {σ : St} {K : St → Prop} {d : Option Nat}
def hEnd (σ : St) (d : Option Nat) (K : St → Prop) (q : Nat) (m : List Nat) (r : V) (H' : List (Option Ob)) : Prop := K (St.put ⟨σ.r, σ.back q m H'⟩ d (bck (dest q m σ.h.length H'.length) r))
theorem hEnd_app {q : Nat} {m : List Nat} {r : V} {H' : List (Option Ob)} : hEnd σ d K q m r H' = K (St.put ⟨σ.r, σ.back q m H'⟩ d (bck (dest q m σ.h.length H'.length) r)) := propext Iff.rfl
theorem qH (ps : List Nat) (q : Nat) (m : List Nat) {f : FuncId} {vs us : List V} {H H' : List (Option Ob)} {r : V} (hc : σ.curs (pickV vs ps) = true) (hl : lent σ.h (pickV vs ps) vs = (q, m)) (hu : rens m vs = us) (hH : renH σ.h m m = H)
 (h : Φ.e f ps us H r H') (hk : kin q H H' = true) (k : ok r → okH H' → hEnd σ d K q m r H') : wcallH Φ d f vs K σ := by
 refine ⟨ps, hc, r, H', ?_, ?_, ?_⟩
 · rw [hl, hH]; exact hk
 · rw [hl, hu, hH]; exact h
 · rw [hl]; exact k
end
def resNK (r : V) (us : List V) : Prop := tupV us = r
theorem resNK_app {r : V} {us : List V} : resNK r us = (tupV us = r) := propext Iff.rfl
def resNKK (r : V) (σ : St) (vs : List V) : Prop := fres σ.h vs = true ∧ oM (purs σ.h vs) (resNK r)
theorem resNKK_app {r : V} {σ : St} {vs : List V} : resNKK r σ vs = (fres σ.h vs = true ∧ oM (purs σ.h vs) (resNK r)) := propext Iff.rfl
theorem ResN_norm {rs : List RV} {r : V} {σ : St} : ResN rs r .norm σ = oM (σ.rvs rs) (resNKK r σ) := by
 unfold ResN resNKK oM
 cases σ.rvs rs with
 | none => simp
 | some vs => simp only; cases purs σ.h vs <;> simp [resNK]
theorem ResN_ret {rs : List RV} {r : V} {σ : St} : ResN rs r .ret σ = oM (σ.rvs rs) (resNKK r σ) := by
 unfold ResN resNKK oM
 cases σ.rvs rs with
 | none => simp
 | some vs => simp only; cases purs σ.h vs <;> simp [resNK]
theorem tupV0 : tupV [] = .tup [] := rfl
theorem tupV1 {v : V} : tupV [v] = v := rfl
theorem tupV2 {v w : V} {l : List V} : tupV (v :: w :: l) = .tup (v :: w :: l) := rfl

attribute [simp] wtree_nil wtree_op wtree_both nrmK_app W_regF' W_label W_goto then_goto inBlock_goto jump_norm jump_ret jump_exit jump_goto W_skip W_reg' W_regD' W_regE' W_seq' W_block W_exit W_ret W_cond' then_norm then_exit then_ret inBlock_norm inBlock_ret inBlock_exit
 BrK_true BrK_false BrK_t BrK_f BrK_n rqK_t rqK_true oM_some oM_none cM_bool gM_true gM_false gM_tup clsK_app skK_app putK_app wops_nil wops_cons wop_n wop_g wopsD_nil wopsD_cons wopD_n wopD_g wall_nil wall_cons
 boxK_app s2bK_app litK_app litKK_app litDK_app litDKK_app appK_app mksK_app mk0K_app mkmK_app sm_len sm_rowAt sm_allRows sm_set sm_flat a_mkm a_mkp aD_mkp aD_mup a_mup a_inv fitsK_int fitsK_str clK_app clKK_app clDK_app clDKK_app cvK_app cvDK_app resK_app resKK_app oN_some oN_none chK_app fz fzs a_callH resHK_app ResH_norm ResH_ret hEnd_app resNK_app resNKK_app ResN_norm ResN_ret jk jks fre fres
 a_mov a_pick a_fld a_fa a_ia a_iaa a_ld a_ixs a_ixa a_bin a_un a_cii a_b2s a_sls a_slq a_lens a_lenq a_beq a_ext a_bld a_mkf a_nlc a_mki a_aeq a_lkp a_mm a_nlq aD_mov aD_pick aD_fld aD_fa aD_ia aD_iaa aD_ld aD_ixs aD_ixa aD_bin aD_un aD_cii aD_b2s aD_sls aD_slq aD_lens aD_lenq aD_beq aD_ext aD_bld aD_mkf aD_nlc aD_mki aD_aeq aD_lkp aD_mm aD_nlq aD_alc aD_box aD_st aD_app aD_mks aD_mk0 aD_mkm aD_s2b
 a_alc a_box a_st a_s2b a_lit a_app a_mks a_mk0 a_call a_callv aD_lit aD_call aD_callv
 boxV stV strV appV mksV fnV mupV invV lkF Res_norm Res_ret tupV0 tupV1 tupV2
 St.ev St.evs St.evo St.val St.put lk pk St.fetch St.box? St.arr? St.rws? St.mp? cut splice cl mkc vbin vstr
 St.live St.fwd St.stor St.storM St.kill bldV isS nt flat flats qM qE pur purs pur1 pur2 src flatR sliceV jD ofBytesV memb
 St.nrm rids hids renR ren rens renH renO uniq idx St.mats St.mat ent St.rv St.rvs ok oks okH pickV St.cur St.curA St.cur0 St.curs lent bck bcks bckO bckH wr dest St.back resHM pvals pinEq kin
theorem wrap64 (n : Int) (h1 : -9223372036854775808 ≤ n) (h2 : n ≤ 9223372036854775807) : IntKind.i64.wrap n = n := by
 rw [Go.IntKind.wrap_i64]; omega
theorem max64 : IntKind.i64.max = 9223372036854775807 := by decide
theorem min64 : IntKind.i64.min = -9223372036854775808 := by decide
theorem maxU8 : IntKind.u8.max = 255 := by decide
theorem minU8 : IntKind.u8.min = 0 := by decide
theorem wrapU8 (n : Int) (h1 : 0 ≤ n) (h2 : n ≤ 255) : IntKind.u8.wrap n = n := by
 rw [Go.IntKind.wrap_u8]; omega
theorem wrapI32 (n : Int) (h1 : -2147483648 ≤ n) (h2 : n ≤ 2147483647) : IntKind.i32.wrap n = n := by
 rw [Go.IntKind.wrap_i32]; omega
theorem vadd64 {a b : Int} (h1 : -9223372036854775808 ≤ a + b) (h2 : a + b ≤ 9223372036854775807) : vint .add .i64 a b = some (.int .i64 (a + b)) := by simp only [vint, wrap64 _ h1 h2]
theorem vsub64 {a b : Int} (h1 : -9223372036854775808 ≤ a - b) (h2 : a - b ≤ 9223372036854775807) : vint .sub .i64 a b = some (.int .i64 (a - b)) := by simp only [vint, wrap64 _ h1 h2]
theorem vmul64 {a b : Int} (h1 : -9223372036854775808 ≤ a * b) (h2 : a * b ≤ 9223372036854775807) : vint .mul .i64 a b = some (.int .i64 (a * b)) := by simp only [vint, wrap64 _ h1 h2]
theorem vadd8 {a b : Int} (h1 : 0 ≤ a + b) (h2 : a + b ≤ 255) : vint .add .u8 a b = some (.int .u8 (a + b)) := by simp only [vint, wrapU8 _ h1 h2]
theorem vsub8 {a b : Int} (h1 : 0 ≤ a - b) (h2 : a - b ≤ 255) : vint .sub .u8 a b = some (.int .u8 (a - b)) := by simp only [vint, wrapU8 _ h1 h2]
theorem vadd32 {a b : Int} (h1 : -2147483648 ≤ a + b) (h2 : a + b ≤ 2147483647) : vint .add .i32 a b = some (.int .i32 (a + b)) := by simp only [vint, wrapI32 _ h1 h2]
theorem vsub32 {a b : Int} (h1 : -2147483648 ≤ a - b) (h2 : a - b ≤ 2147483647) : vint .sub .i32 a b = some (.int .i32 (a - b)) := by simp only [vint, wrapI32 _ h1 h2]
theorem vmul32 {a b : Int} (h1 : -2147483648 ≤ a * b) (h2 : a * b ≤ 2147483647) : vint .mul .i32 a b = some (.int .i32 (a * b)) := by simp only [vint, wrapI32 _ h1 h2]
theorem vcii64 {n : Int} (h1 : -9223372036854775808 ≤ n) (h2 : n ≤ 9223372036854775807) : vcii .i64 n = some (.int .i64 n) := by simp only [vcii, wrap64 _ h1 h2]
theorem vcii8 {n : Int} (h1 : 0 ≤ n) (h2 : n ≤ 255) : vcii .u8 n = some (.int .u8 n) := by simp only [vcii, wrapU8 _ h1 h2]
theorem vcii32 {n : Int} (h1 : -2147483648 ≤ n) (h2 : n ≤ 2147483647) : vcii .i32 n = some (.int .i32 n) := by simp only [vcii, wrapI32 _ h1 h2]
theorem vneg64 {n : Int} (h1 : -9223372036854775808 ≤ 0 - n) (h2 : 0 - n ≤ 9223372036854775807) : vun .neg (.int .i64 n) = some (.int .i64 (0 - n)) := by simp only [vun, wrap64 _ h1 h2]
attribute [simp high] vadd64 vsub64 vmul64 vadd8 vsub8 vadd32 vsub32 vmul32 vcii64 vcii8 vcii32 vneg64
theorem vquo64 {a b : Int} (h0 : 0 ≤ a) (h1 : 0 < b) (h2 : a ≤ 9223372036854775807) : vint .quo .i64 a b = some (.int .i64 (a / b)) := by
 have h3 : 0 ≤ a / b := Int.ediv_nonneg h0 (by omega)
 have h4 : a / b ≤ a := Int.ediv_le_self _ h0
 simp only [vint]
 rw [if_neg (by omega), Int.tdiv_eq_ediv_of_nonneg h0, wrap64 _ (by omega) (by omega)]
theorem vrem64 {k : IntKind} {a b : Int} (h0 : 0 ≤ a) (h1 : 0 < b) : vint .rem k a b = some (.int k (a % b)) := by
 simp only [vint]
 rw [if_neg (by omega), Int.tmod_eq_emod_of_nonneg h0]
theorem vremt {k : IntKind} {a b : Int} (h1 : b ≠ 0) : vint .rem k a b = some (.int k (a.tmod b)) := by
 simp only [vint]
 rw [if_neg h1]
theorem veql {k : IntKind} {a b : Int} : vint .eql k a b = some (.bool (decide (a = b))) := rfl
theorem vneq {k : IntKind} {a b : Int} : vint .neq k a b = some (.bool (!decide (a = b))) := rfl
theorem vlss {k : IntKind} {a b : Int} : vint .lss k a b = some (.bool (decide (a < b))) := rfl
theorem vleq {k : IntKind} {a b : Int} : vint .leq k a b = some (.bool (decide (a ≤ b))) := rfl
theorem vgtr {k : IntKind} {a b : Int} : vint .gtr k a b = some (.bool (decide (b < a))) := rfl
theorem vgeq {k : IntKind} {a b : Int} : vint .geq k a b = some (.bool (decide (b ≤ a))) := rfl
theorem vnot {b : Bool} : vun .not (.bool b) = some (.bool !b) := rfl
attribute [simp high] vquo64 vrem64
attribute [simp] veql vneq vlss vleq vgtr vgeq vnot vremt wrap64 wrapU8 wrapI32 max64 min64 maxU8 minU8

theorem num_le (m n : Nat) : ((no_index (@OfNat.ofNat Int m instOfNat)) ≤ (n : Int)) ↔ (@OfNat.ofNat Nat m (instOfNatNat m)) ≤ n := Int.ofNat_le
theorem le_num (m n : Nat) : ((n : Int) ≤ (no_index (@OfNat.ofNat Int m instOfNat))) ↔ n ≤ (@OfNat.ofNat Nat m (instOfNatNat m)) := Int.ofNat_le
theorem num_lt (m n : Nat) : ((no_index (@OfNat.ofNat Int m instOfNat)) < (n : Int)) ↔ (@OfNat.ofNat Nat m (instOfNatNat m)) < n := Int.ofNat_lt
theorem lt_num (m n : Nat) : ((n : Int) < (no_index (@OfNat.ofNat Int m instOfNat))) ↔ n < (@OfNat.ofNat Nat m (instOfNatNat m)) := Int.ofNat_lt
theorem num_eq (m n : Nat) : ((no_index (@OfNat.ofNat Int m instOfNat)) = (n : Int)) ↔ (@OfNat.ofNat Nat m (instOfNatNat m)) = n := Int.ofNat_inj
theorem eq_num (m n : Nat) : ((n : Int) = (no_index (@OfNat.ofNat Int m instOfNat))) ↔ n = (@OfNat.ofNat Nat m (instOfNatNat m)) := Int.ofNat_inj
attribute [simp] num_le le_num num_lt lt_num num_eq eq_num

theorem get0 {α : Type} {x : α} {l : List α} : (x :: l)[0]? = some x := rfl
attribute [simp] get0

theorem ite_t {p : Prop} [Decidable p] {α : Sort _} {a b : α} (h : p) : (if p then a else b) = a := if_pos h
theorem ite_f {p : Prop} [Decidable p] {α : Sort _} {a b : α} (h : ¬p) : (if p then a else b) = b := if_neg h
attribute [simp] ite_t ite_f

theorem oks_all : ∀ {l : List V}, oks l ↔ ∀ v ∈ l, ok v
 | [] => by simp
 | v :: vs => by simp [oks_all]
theorem drop_cons {α : Type} {l : List α} {k : Nat} {x : α} (h : l[k]? = some x) : l.drop k = x :: l.drop (k + 1) := by
 obtain ⟨h1, h2⟩ := List.getElem?_eq_some_iff.1 h
 rw [List.drop_eq_getElem_cons h1, h2]
theorem qP {α : Type} {l : List α} {k : Nat} (h : k < l.length) : ∃ x, l[k]? = some x := ⟨_, List.getElem?_eq_getElem h⟩
theorem place {α : Type} (l : List α) (k : Nat) (h : k ≤ l.length) : (k = l.length ∧ l.drop k = []) ∨ (k < l.length ∧ ∃ x, l[k]? = some x ∧ l.drop k = x :: l.drop (k + 1)) := by
 rcases Nat.lt_or_ge k l.length with h' | h'
 · obtain ⟨x, hx⟩ := qP h'
   exact .inr ⟨h', x, hx, drop_cons hx⟩
 · have : k = l.length := by omega
   exact .inl ⟨this, by simp [this]⟩
def Hid (p : Prop) : Prop := p
theorem Hid.out {p : Prop} (h : Hid p) : p := h
theorem hid {p : Prop} (h : p) : Hid p := h
end Go.Abs
end
section
namespace Go.Abs
theorem Cn_p {P : Program} : (Cn P).p = Fn P := rfl
theorem Cn_n {P : Program} : (Cn P).n = FnN P := rfl
theorem Cn_e {P : Program} : (Cn P).e = FnH P := rfl
def o1 (d : Nat) (a : Act') : AOp := ⟨some d, a, none⟩
def o0 (a : Act') : AOp := ⟨none, a, none⟩
def gt (t : Nat) (o : AOp) : AOp := ⟨o.d, o.a, some (t, true)⟩
def gf (t : Nat) (o : AOp) : AOp := ⟨o.d, o.a, some (t, false)⟩
def ts : List Nat → List AO
 | [] => []
 | t :: l => .t t :: ts l
def m (d x : Nat) : AOp := ⟨some d, .mov (.t x), none⟩
def mv (d : Nat) (v : V) : AOp := ⟨some d, .mov (.v v), none⟩
def mi (d : Nat) (n : Int) : AOp := ⟨some d, .mov (.v (.int .i64 n)), none⟩
def mb (d : Nat) (b : Bool) : AOp := ⟨some d, .mov (.v (.bool b)), none⟩
def bt (d : Nat) (op : BinOp) (x y : Nat) : AOp := ⟨some d, .bin op (.t x) (.t y), none⟩
def bi (d : Nat) (op : BinOp) (x : Nat) (n : Int) : AOp := ⟨some d, .bin op (.t x) (.v (.int .i64 n)), none⟩
def bu (d : Nat) (op : BinOp) (x : Nat) (n : Int) : AOp := ⟨some d, .bin op (.t x) (.v (.int .u8 n)), none⟩
def bs (d : Nat) (op : BinOp) (x : Nat) (s : List UInt8) : AOp := ⟨some d, .bin op (.t x) (.v (.str s)), none⟩
def nt' (d x : Nat) : AOp := ⟨some d, .un .not (.t x), none⟩
def ls (d x : Nat) : AOp := ⟨some d, .lens (.t x), none⟩
def lq (d x : Nat) : AOp := ⟨some d, .lenq (.t x), none⟩
def fa (d x o : Nat) : AOp := ⟨some d, .fa (.t x) o, none⟩
def fl (d x o : Nat) : AOp := ⟨some d, .fld (.t x) o 1 false, none⟩
def l1 (d x : Nat) : AOp := ⟨some d, .ld (.t x) 1 false, none⟩
def la (d x n : Nat) : AOp := ⟨some d, .ld (.t x) n true, none⟩
def ia (d x i s : Nat) : AOp := ⟨some d, .ia (.t x) (.t i) s, none⟩
def ix (d x i : Nat) : AOp := ⟨some d, .ixs (.t x) (.t i), none⟩
def pa (d x y : Nat) : AOp := ⟨some d, .pick (.t x) (.t y) (.v (.bool false)), none⟩
def po (d x y : Nat) : AOp := ⟨some d, .pick (.t x) (.v (.bool true)) (.t y), none⟩
def ex (d x i : Nat) : AOp := ⟨some d, .ext (.t x) i, none⟩
def bx (d x : Nat) : AOp := ⟨some d, .box (.t x), none⟩
def st (n x y : Nat) : AOp := ⟨none, .st n (.t x) (.t y), none⟩
def ca (d f : Nat) (l : List Nat) : AOp := ⟨some d, .call f (ts l), none⟩
def ch (d f : Nat) (l : List Nat) : AOp := ⟨some d, .callH f (ts l), none⟩
def cv (d g : Nat) (l : List Nat) : AOp := ⟨some d, .callv (.t g) (ts l), none⟩
def Q : List AC → AC
 | [] => .skip
 | [a] => a
 | a :: l => .seq a (Q l)
def OQ : List AOp → OT → OT
 | [], t => t
 | x :: xs, t => .op x (OQ xs t)
def C (c : Nat) (a b : AC) : AC := .cond (.t c) a b
theorem OQ0 {t : OT} : OQ [] t = t := rfl
theorem OQ1 {x : AOp} {xs : List AOp} {t : OT} : OQ (x :: xs) t = .op x (OQ xs t) := rfl
attribute [simp] OQ0 OQ1
section
variable {Φ : Ctr} {K : St → Prop} {σ : St} {Q' : Ex → St → Prop}
theorem wop_o1 {d : Nat} {a : Act'} : wop Φ (o1 d a) K σ = qC Φ (some d) (a) K σ := propext Iff.rfl
theorem wopD_o1 {d : Nat} {a : Act'} : qW Φ (o1 d a) K σ = qD Φ (some d) (a) K σ := propext Iff.rfl
theorem wop_o0 {a : Act'} : wop Φ (o0 a) K σ = qC Φ (none) (a) K σ := propext Iff.rfl
theorem wopD_o0 {a : Act'} : qW Φ (o0 a) K σ = qD Φ (none) (a) K σ := propext Iff.rfl
theorem wop_m {d x : Nat} : wop Φ (m d x) K σ = qC Φ (some d) (.mov (.t x)) K σ := propext Iff.rfl
theorem wopD_m {d x : Nat} : qW Φ (m d x) K σ = qD Φ (some d) (.mov (.t x)) K σ := propext Iff.rfl
theorem wop_mv {d : Nat} {v : V} : wop Φ (mv d v) K σ = qC Φ (some d) (.mov (.v v)) K σ := propext Iff.rfl
theorem wopD_mv {d : Nat} {v : V} : qW Φ (mv d v) K σ = qD Φ (some d) (.mov (.v v)) K σ := propext Iff.rfl
theorem wop_mi {d : Nat} {n : Int} : wop Φ (mi d n) K σ = qC Φ (some d) (.mov (.v (.int .i64 n))) K σ := propext Iff.rfl
theorem wopD_mi {d : Nat} {n : Int} : qW Φ (mi d n) K σ = qD Φ (some d) (.mov (.v (.int .i64 n))) K σ := propext Iff.rfl
theorem wop_mb {d : Nat} {b : Bool} : wop Φ (mb d b) K σ = qC Φ (some d) (.mov (.v (.bool b))) K σ := propext Iff.rfl
theorem wopD_mb {d : Nat} {b : Bool} : qW Φ (mb d b) K σ = qD Φ (some d) (.mov (.v (.bool b))) K σ := propext Iff.rfl
theorem wop_bt {d : Nat} {op : BinOp} {x y : Nat} : wop Φ (bt d op x y) K σ = qC Φ (some d) (.bin op (.t x) (.t y)) K σ := propext Iff.rfl
theorem wopD_bt {d : Nat} {op : BinOp} {x y : Nat} : qW Φ (bt d op x y) K σ = qD Φ (some d) (.bin op (.t x) (.t y)) K σ := propext Iff.rfl
theorem wop_bi {d : Nat} {op : BinOp} {x : Nat} {n : Int} : wop Φ (bi d op x n) K σ = qC Φ (some d) (.bin op (.t x) (.v (.int .i64 n))) K σ := propext Iff.rfl
theorem wopD_bi {d : Nat} {op : BinOp} {x : Nat} {n : Int} : qW Φ (bi d op x n) K σ = qD Φ (some d) (.bin op (.t x) (.v (.int .i64 n))) K σ := propext Iff.rfl
theorem wop_bu {d : Nat} {op : BinOp} {x : Nat} {n : Int} : wop Φ (bu d op x n) K σ = qC Φ (some d) (.bin op (.t x) (.v (.int .u8 n))) K σ := propext Iff.rfl
theorem wopD_bu {d : Nat} {op : BinOp} {x : Nat} {n : Int} : qW Φ (bu d op x n) K σ = qD Φ (some d) (.bin op (.t x) (.v (.int .u8 n))) K σ := propext Iff.rfl
theorem wop_bs {d : Nat} {op : BinOp} {x : Nat} {s : List UInt8} : wop Φ (bs d op x s) K σ = qC Φ (some d) (.bin op (.t x) (.v (.str s))) K σ := propext Iff.rfl
theorem wopD_bs {d : Nat} {op : BinOp} {x : Nat} {s : List UInt8} : qW Φ (bs d op x s) K σ = qD Φ (some d) (.bin op (.t x) (.v (.str s))) K σ := propext Iff.rfl
theorem wop_ntp {d x : Nat} : wop Φ (nt' d x) K σ = qC Φ (some d) (.un .not (.t x)) K σ := propext Iff.rfl
theorem wopD_ntp {d x : Nat} : qW Φ (nt' d x) K σ = qD Φ (some d) (.un .not (.t x)) K σ := propext Iff.rfl
theorem wop_ls {d x : Nat} : wop Φ (ls d x) K σ = qC Φ (some d) (.lens (.t x)) K σ := propext Iff.rfl
theorem wopD_ls {d x : Nat} : qW Φ (ls d x) K σ = qD Φ (some d) (.lens (.t x)) K σ := propext Iff.rfl
theorem wop_lq {d x : Nat} : wop Φ (lq d x) K σ = qC Φ (some d) (.lenq (.t x)) K σ := propext Iff.rfl
theorem wopD_lq {d x : Nat} : qW Φ (lq d x) K σ = qD Φ (some d) (.lenq (.t x)) K σ := propext Iff.rfl
theorem wop_fa {d x o : Nat} : wop Φ (fa d x o) K σ = qC Φ (some d) (.fa (.t x) o) K σ := propext Iff.rfl
theorem wopD_fa {d x o : Nat} : qW Φ (fa d x o) K σ = qD Φ (some d) (.fa (.t x) o) K σ := propext Iff.rfl
theorem wop_fl {d x o : Nat} : wop Φ (fl d x o) K σ = qC Φ (some d) (.fld (.t x) o 1 false) K σ := propext Iff.rfl
theorem wopD_fl {d x o : Nat} : qW Φ (fl d x o) K σ = qD Φ (some d) (.fld (.t x) o 1 false) K σ := propext Iff.rfl
theorem wop_l1 {d x : Nat} : wop Φ (l1 d x) K σ = qC Φ (some d) (.ld (.t x) 1 false) K σ := propext Iff.rfl
theorem wopD_l1 {d x : Nat} : qW Φ (l1 d x) K σ = qD Φ (some d) (.ld (.t x) 1 false) K σ := propext Iff.rfl
theorem wop_la {d x n : Nat} : wop Φ (la d x n) K σ = qC Φ (some d) (.ld (.t x) n true) K σ := propext Iff.rfl
theorem wopD_la {d x n : Nat} : qW Φ (la d x n) K σ = qD Φ (some d) (.ld (.t x) n true) K σ := propext Iff.rfl
theorem wop_ia {d x i s : Nat} : wop Φ (ia d x i s) K σ = qC Φ (some d) (.ia (.t x) (.t i) s) K σ := propext Iff.rfl
theorem wopD_ia {d x i s : Nat} : qW Φ (ia d x i s) K σ = qD Φ (some d) (.ia (.t x) (.t i) s) K σ := propext Iff.rfl
theorem wop_ix {d x i : Nat} : wop Φ (ix d x i) K σ = qC Φ (some d) (.ixs (.t x) (.t i)) K σ := propext Iff.rfl
theorem wopD_ix {d x i : Nat} : qW Φ (ix d x i) K σ = qD Φ (some d) (.ixs (.t x) (.t i)) K σ := propext Iff.rfl
theorem wop_pa {d x y : Nat} : wop Φ (pa d x y) K σ = qC Φ (some d) (.pick (.t x) (.t y) (.v (.bool false))) K σ := propext Iff.rfl
theorem wopD_pa {d x y : Nat} : qW Φ (pa d x y) K σ = qD Φ (some d) (.pick (.t x) (.t y) (.v (.bool false))) K σ := propext Iff.rfl
theorem wop_po {d x y : Nat} : wop Φ (po d x y) K σ = qC Φ (some d) (.pick (.t x) (.v (.bool true)) (.t y)) K σ := propext Iff.rfl
theorem wopD_po {d x y : Nat} : qW Φ (po d x y) K σ = qD Φ (some d) (.pick (.t x) (.v (.bool true)) (.t y)) K σ := propext Iff.rfl
theorem wop_ex {d x i : Nat} : wop Φ (ex d x i) K σ = qC Φ (some d) (.ext (.t x) i) K σ := propext Iff.rfl
theorem wopD_ex {d x i : Nat} : qW Φ (ex d x i) K σ = qD Φ (some d) (.ext (.t x) i) K σ := propext Iff.rfl
theorem wop_bx {d x : Nat} : wop Φ (bx d x) K σ = qC Φ (some d) (.box (.t x)) K σ := propext Iff.rfl
theorem wopD_bx {d x : Nat} : qW Φ (bx d x) K σ = qD Φ (some d) (.box (.t x)) K σ := propext Iff.rfl
theorem wop_st {n x y : Nat} : wop Φ (st n x y) K σ = qC Φ (none) (.st n (.t x) (.t y)) K σ := propext Iff.rfl
theorem wopD_st {n x y : Nat} : qW Φ (st n x y) K σ = qD Φ (none) (.st n (.t x) (.t y)) K σ := propext Iff.rfl
theorem wop_ca {d f : Nat} {l : List Nat} : wop Φ (ca d f l) K σ = qC Φ (some d) (.call f (ts l)) K σ := propext Iff.rfl
theorem wopD_ca {d f : Nat} {l : List Nat} : qW Φ (ca d f l) K σ = qD Φ (some d) (.call f (ts l)) K σ := propext Iff.rfl
theorem wop_ch {d f : Nat} {l : List Nat} : wop Φ (ch d f l) K σ = qC Φ (some d) (.callH f (ts l)) K σ := propext Iff.rfl
theorem wopD_ch {d f : Nat} {l : List Nat} : qW Φ (ch d f l) K σ = qD Φ (some d) (.callH f (ts l)) K σ := propext Iff.rfl
theorem wop_cv {d g : Nat} {l : List Nat} : wop Φ (cv d g l) K σ = qC Φ (some d) (.callv (.t g) (ts l)) K σ := propext Iff.rfl
theorem wopD_cv {d g : Nat} {l : List Nat} : qW Φ (cv d g l) K σ = qD Φ (some d) (.callv (.t g) (ts l)) K σ := propext Iff.rfl
def skO (o : AOp) (K : St → Prop) (σ : St) : Prop := K (σ.put o.d (.tup []))
theorem skO_app {o : AOp} : skO o K σ = K (σ.put o.d (.tup [])) := propext Iff.rfl
def un (o : AOp) : AOp := ⟨o.d, o.a, none⟩
theorem wop_gt {t : Nat} {o : AOp} : wop Φ (gt t o) K σ = gM (lk σ.r t) true (wop Φ (un o) K) (skO o K) σ := by
 simp only [gt, wop_g]; rfl
theorem wop_gf {t : Nat} {o : AOp} : wop Φ (gf t o) K σ = gM (lk σ.r t) false (wop Φ (un o) K) (skO o K) σ := by
 simp only [gf, wop_g]; rfl
theorem wopD_gt {t : Nat} {o : AOp} : qW Φ (gt t o) K σ = gM (lk σ.r t) true (qW Φ (un o) K) (skO o K) σ := by
 simp only [gt, wopD_g]; rfl
theorem wopD_gf {t : Nat} {o : AOp} : qW Φ (gf t o) K σ = gM (lk σ.r t) false (qW Φ (un o) K) (skO o K) σ := by
 simp only [gf, wopD_g]; rfl
theorem wopu_o1 {d : Nat} {a : Act'} : wop Φ (un (o1 d a)) K σ = qC Φ (some d) (a) K σ := propext Iff.rfl
theorem wopuD_o1 {d : Nat} {a : Act'} : qW Φ (un (o1 d a)) K σ = qD Φ (some d) (a) K σ := propext Iff.rfl
theorem wopu_o0 {a : Act'} : wop Φ (un (o0 a)) K σ = qC Φ (none) (a) K σ := propext Iff.rfl
theorem wopuD_o0 {a : Act'} : qW Φ (un (o0 a)) K σ = qD Φ (none) (a) K σ := propext Iff.rfl
theorem wopu_m {d x : Nat} : wop Φ (un (m d x)) K σ = qC Φ (some d) (.mov (.t x)) K σ := propext Iff.rfl
theorem wopuD_m {d x : Nat} : qW Φ (un (m d x)) K σ = qD Φ (some d) (.mov (.t x)) K σ := propext Iff.rfl
theorem wopu_mv {d : Nat} {v : V} : wop Φ (un (mv d v)) K σ = qC Φ (some d) (.mov (.v v)) K σ := propext Iff.rfl
theorem wopuD_mv {d : Nat} {v : V} : qW Φ (un (mv d v)) K σ = qD Φ (some d) (.mov (.v v)) K σ := propext Iff.rfl
theorem wopu_mi {d : Nat} {n : Int} : wop Φ (un (mi d n)) K σ = qC Φ (some d) (.mov (.v (.int .i64 n))) K σ := propext Iff.rfl
theorem wopuD_mi {d : Nat} {n : Int} : qW Φ (un (mi d n)) K σ = qD Φ (some d) (.mov (.v (.int .i64 n))) K σ := propext Iff.rfl
theorem wopu_mb {d : Nat} {b : Bool} : wop Φ (un (mb d b)) K σ = qC Φ (some d) (.mov (.v (.bool b))) K σ := propext Iff.rfl
theorem wopuD_mb {d : Nat} {b : Bool} : qW Φ (un (mb d b)) K σ = qD Φ (some d) (.mov (.v (.bool b))) K σ := propext Iff.rfl
theorem wopu_bt {d : Nat} {op : BinOp} {x y : Nat} : wop Φ (un (bt d op x y)) K σ = qC Φ (some d) (.bin op (.t x) (.t y)) K σ := propext Iff.rfl
theorem wopuD_bt {d : Nat} {op : BinOp} {x y : Nat} : qW Φ (un (bt d op x y)) K σ = qD Φ (some d) (.bin op (.t x) (.t y)) K σ := propext Iff.rfl
theorem wopu_bi {d : Nat} {op : BinOp} {x : Nat} {n : Int} : wop Φ (un (bi d op x n)) K σ = qC Φ (some d) (.bin op (.t x) (.v (.int .i64 n))) K σ := propext Iff.rfl
theorem wopuD_bi {d : Nat} {op : BinOp} {x : Nat} {n : Int} : qW Φ (un (bi d op x n)) K σ = qD Φ (some d) (.bin op (.t x) (.v (.int .i64 n))) K σ := propext Iff.rfl
theorem wopu_bu {d : Nat} {op : BinOp} {x : Nat} {n : Int} : wop Φ (un (bu d op x n)) K σ = qC Φ (some d) (.bin op (.t x) (.v (.int .u8 n))) K σ := propext Iff.rfl
theorem wopuD_bu {d : Nat} {op : BinOp} {x : Nat} {n : Int} : qW Φ (un (bu d op x n)) K σ = qD Φ (some d) (.bin op (.t x) (.v (.int .u8 n))) K σ := propext Iff.rfl
theorem wopu_bs {d : Nat} {op : BinOp} {x : Nat} {s : List UInt8} : wop Φ (un (bs d op x s)) K σ = qC Φ (some d) (.bin op (.t x) (.v (.str s))) K σ := propext Iff.rfl
theorem wopuD_bs {d : Nat} {op : BinOp} {x : Nat} {s : List UInt8} : qW Φ (un (bs d op x s)) K σ = qD Φ (some d) (.bin op (.t x) (.v (.str s))) K σ := propext Iff.rfl
theorem wopu_ntp {d x : Nat} : wop Φ (un (nt' d x)) K σ = qC Φ (some d) (.un .not (.t x)) K σ := propext Iff.rfl
theorem wopuD_ntp {d x : Nat} : qW Φ (un (nt' d x)) K σ = qD Φ (some d) (.un .not (.t x)) K σ := propext Iff.rfl
theorem wopu_ls {d x : Nat} : wop Φ (un (ls d x)) K σ = qC Φ (some d) (.lens (.t x)) K σ := propext Iff.rfl
theorem wopuD_ls {d x : Nat} : qW Φ (un (ls d x)) K σ = qD Φ (some d) (.lens (.t x)) K σ := propext Iff.rfl
theorem wopu_lq {d x : Nat} : wop Φ (un (lq d x)) K σ = qC Φ (some d) (.lenq (.t x)) K σ := propext Iff.rfl
theorem wopuD_lq {d x : Nat} : qW Φ (un (lq d x)) K σ = qD Φ (some d) (.lenq (.t x)) K σ := propext Iff.rfl
theorem wopu_fa {d x o : Nat} : wop Φ (un (fa d x o)) K σ = qC Φ (some d) (.fa (.t x) o) K σ := propext Iff.rfl
theorem wopuD_fa {d x o : Nat} : qW Φ (un (fa d x o)) K σ = qD Φ (some d) (.fa (.t x) o) K σ := propext Iff.rfl
theorem wopu_fl {d x o : Nat} : wop Φ (un (fl d x o)) K σ = qC Φ (some d) (.fld (.t x) o 1 false) K σ := propext Iff.rfl
theorem wopuD_fl {d x o : Nat} : qW Φ (un (fl d x o)) K σ = qD Φ (some d) (.fld (.t x) o 1 false) K σ := propext Iff.rfl
theorem wopu_l1 {d x : Nat} : wop Φ (un (l1 d x)) K σ = qC Φ (some d) (.ld (.t x) 1 false) K σ := propext Iff.rfl
theorem wopuD_l1 {d x : Nat} : qW Φ (un (l1 d x)) K σ = qD Φ (some d) (.ld (.t x) 1 false) K σ := propext Iff.rfl
theorem wopu_la {d x n : Nat} : wop Φ (un (la d x n)) K σ = qC Φ (some d) (.ld (.t x) n true) K σ := propext Iff.rfl
theorem wopuD_la {d x n : Nat} : qW Φ (un (la d x n)) K σ = qD Φ (some d) (.ld (.t x) n true) K σ := propext Iff.rfl
theorem wopu_ia {d x i s : Nat} : wop Φ (un (ia d x i s)) K σ = qC Φ (some d) (.ia (.t x) (.t i) s) K σ := propext Iff.rfl
theorem wopuD_ia {d x i s : Nat} : qW Φ (un (ia d x i s)) K σ = qD Φ (some d) (.ia (.t x) (.t i) s) K σ := propext Iff.rfl
theorem wopu_ix {d x i : Nat} : wop Φ (un (ix d x i)) K σ = qC Φ (some d) (.ixs (.t x) (.t i)) K σ := propext Iff.rfl
theorem wopuD_ix {d x i : Nat} : qW Φ (un (ix d x i)) K σ = qD Φ (some d) (.ixs (.t x) (.t i)) K σ := propext Iff.rfl
theorem wopu_pa {d x y : Nat} : wop Φ (un (pa d x y)) K σ = qC Φ (some d) (.pick (.t x) (.t y) (.v (.bool false))) K σ := propext Iff.rfl
theorem wopuD_pa {d x y : Nat} : qW Φ (un (pa d x y)) K σ = qD Φ (some d) (.pick (.t x) (.t y) (.v (.bool false))) K σ := propext Iff.rfl
theorem wopu_po {d x y : Nat} : wop Φ (un (po d x y)) K σ = qC Φ (some d) (.pick (.t x) (.v (.bool true)) (.t y)) K σ := propext Iff.rfl
theorem wopuD_po {d x y : Nat} : qW Φ (un (po d x y)) K σ = qD Φ (some d) (.pick (.t x) (.v (.bool true)) (.t y)) K σ := propext Iff.rfl
theorem wopu_ex {d x i : Nat} : wop Φ (un (ex d x i)) K σ = qC Φ (some d) (.ext (.t x) i) K σ := propext Iff.rfl
theorem wopuD_ex {d x i : Nat} : qW Φ (un (ex d x i)) K σ = qD Φ (some d) (.ext (.t x) i) K σ := propext Iff.rfl
theorem wopu_bx {d x : Nat} : wop Φ (un (bx d x)) K σ = qC Φ (some d) (.box (.t x)) K σ := propext Iff.rfl
theorem wopuD_bx {d x : Nat} : qW Φ (un (bx d x)) K σ = qD Φ (some d) (.box (.t x)) K σ := propext Iff.rfl
theorem wopu_st {n x y : Nat} : wop Φ (un (st n x y)) K σ = qC Φ (none) (.st n (.t x) (.t y)) K σ := propext Iff.rfl
theorem wopuD_st {n x y : Nat} : qW Φ (un (st n x y)) K σ = qD Φ (none) (.st n (.t x) (.t y)) K σ := propext Iff.rfl
theorem wopu_ca {d f : Nat} {l : List Nat} : wop Φ (un (ca d f l)) K σ = qC Φ (some d) (.call f (ts l)) K σ := propext Iff.rfl
theorem wopuD_ca {d f : Nat} {l : List Nat} : qW Φ (un (ca d f l)) K σ = qD Φ (some d) (.call f (ts l)) K σ := propext Iff.rfl
theorem wopu_ch {d f : Nat} {l : List Nat} : wop Φ (un (ch d f l)) K σ = qC Φ (some d) (.callH f (ts l)) K σ := propext Iff.rfl
theorem wopuD_ch {d f : Nat} {l : List Nat} : qW Φ (un (ch d f l)) K σ = qD Φ (some d) (.callH f (ts l)) K σ := propext Iff.rfl
theorem wopu_cv {d g : Nat} {l : List Nat} : wop Φ (un (cv d g l)) K σ = qC Φ (some d) (.callv (.t g) (ts l)) K σ := propext Iff.rfl
theorem wopuD_cv {d g : Nat} {l : List Nat} : qW Φ (un (cv d g l)) K σ = qD Φ (some d) (.callv (.t g) (ts l)) K σ := propext Iff.rfl
theorem d_o1 {d : Nat} {a : Act'} : (o1 d a).d = some d := rfl
theorem d_o0 {a : Act'} : (o0 a).d = none := rfl
theorem d_m {d x : Nat} : (m d x).d = some d := rfl
theorem d_mv {d : Nat} {v : V} : (mv d v).d = some d := rfl
theorem d_mi {d : Nat} {n : Int} : (mi d n).d = some d := rfl
theorem d_mb {d : Nat} {b : Bool} : (mb d b).d = some d := rfl
theorem d_bt {d : Nat} {op : BinOp} {x y : Nat} : (bt d op x y).d = some d := rfl
theorem d_bi {d : Nat} {op : BinOp} {x : Nat} {n : Int} : (bi d op x n).d = some d := rfl
theorem d_bu {d : Nat} {op : BinOp} {x : Nat} {n : Int} : (bu d op x n).d = some d := rfl
theorem d_bs {d : Nat} {op : BinOp} {x : Nat} {s : List UInt8} : (bs d op x s).d = some d := rfl
theorem d_ntp {d x : Nat} : (nt' d x).d = some d := rfl
theorem d_ls {d x : Nat} : (ls d x).d = some d := rfl
theorem d_lq {d x : Nat} : (lq d x).d = some d := rfl
theorem d_fa {d x o : Nat} : (fa d x o).d = some d := rfl
theorem d_fl {d x o : Nat} : (fl d x o).d = some d := rfl
theorem d_l1 {d x : Nat} : (l1 d x).d = some d := rfl
theorem d_la {d x n : Nat} : (la d x n).d = some d := rfl
theorem d_ia {d x i s : Nat} : (ia d x i s).d = some d := rfl
theorem d_ix {d x i : Nat} : (ix d x i).d = some d := rfl
theorem d_pa {d x y : Nat} : (pa d x y).d = some d := rfl
theorem d_po {d x y : Nat} : (po d x y).d = some d := rfl
theorem d_ex {d x i : Nat} : (ex d x i).d = some d := rfl
theorem d_bx {d x : Nat} : (bx d x).d = some d := rfl
theorem d_st {n x y : Nat} : (st n x y).d = none := rfl
theorem d_ca {d f : Nat} {l : List Nat} : (ca d f l).d = some d := rfl
theorem d_ch {d f : Nat} {l : List Nat} : (ch d f l).d = some d := rfl
theorem d_cv {d g : Nat} {l : List Nat} : (cv d g l).d = some d := rfl
theorem d_un {o : AOp} : (un o).d = o.d := rfl
theorem W_Q1 {a : AC} : W Φ (Q [a]) Q' σ = W Φ a Q' σ := propext Iff.rfl
theorem W_Q2 {a b : AC} {l : List AC} : W Φ (Q (a :: b :: l)) Q' σ = W Φ a (Ex.then (W Φ (Q (b :: l)) Q') Q') σ := propext Iff.rfl
theorem W_C {c : Nat} {a b : AC} : W Φ (C c a b) Q' σ = cM (lk σ.r c) (W Φ a Q') (W Φ b Q') σ := propext Iff.rfl
end
attribute [simp] skO_app wop_gt wop_gf wopD_gt wopD_gf W_Q1 W_Q2 W_C wop_o1 wopD_o1 wopu_o1 wopuD_o1 wop_o0 wopD_o0 wopu_o0 wopuD_o0 wop_m wopD_m wopu_m wopuD_m wop_mv wopD_mv wopu_mv wopuD_mv wop_mi wopD_mi wopu_mi wopuD_mi wop_mb wopD_mb wopu_mb wopuD_mb wop_bt wopD_bt wopu_bt wopuD_bt wop_bi wopD_bi wopu_bi wopuD_bi wop_bu wopD_bu wopu_bu wopuD_bu wop_bs wopD_bs wopu_bs wopuD_bs wop_ntp wopD_ntp wopu_ntp wopuD_ntp wop_ls wopD_ls wopu_ls wopuD_ls wop_lq wopD_lq wopu_lq wopuD_lq wop_fa wopD_fa wopu_fa wopuD_fa wop_fl wopD_fl wopu_fl wopuD_fl wop_l1 wopD_l1 wopu_l1 wopuD_l1 wop_la wopD_la wopu_la wopuD_la wop_ia wopD_ia wopu_ia wopuD_ia wop_ix wopD_ix wopu_ix wopuD_ix wop_pa wopD_pa wopu_pa wopuD_pa wop_po wopD_po wopu_po wopuD_po wop_ex wopD_ex wopu_ex wopuD_ex wop_bx wopD_bx wopu_bx wopuD_bx wop_st wopD_st wopu_st wopuD_st wop_ca wopD_ca wopu_ca wopuD_ca wop_ch wopD_ch wopu_ch wopuD_ch wop_cv wopD_cv wopu_cv wopuD_cv
attribute [simp] Cn_p Cn_n Cn_e ts d_o1 d_o0 d_m d_mv d_mi d_mb d_bt d_bi d_bu d_bs d_ntp d_ls d_lq d_fa d_fl d_l1 d_la d_ia d_ix d_pa d_po d_ex d_bx d_st d_ca d_ch d_cv d_un
end Go.Abs
end
