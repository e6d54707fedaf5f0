/-
  From the model's operations to those of the abstract machine: each operation, whatever it turns. No condition.
-/
import Derived.Test.YtoonahofkpnihaaGreatDoorWAbs5
set_option linter.unusedVariables false
set_option linter.unusedSimpArgs false
set_option linter.unusedSectionVars false
set_option maxHeartbeats 4000000
set_option maxRecDepth 100000
namespace Go.Abs
open Go.RowKit

structure Snd (M : Mem) (w : World) : Prop where
 snd : ∀ p v, M p = some v → w.cell? p = some v
 gl : GLok M
structure FnE (P : Program) (f : FuncId) (us : List V) (r : V) : Prop where
 call : ∀ args w, (callFunc f args).run P w = .ok (.enter f args) w
 does : ∀ (M : Mem) (w : World) (cs : Array Value), Snd M w → qA M NX us cs.toList →
  Calls P f cs w fun e w' => ∃ (c : Value) (M' : Mem), e = .returned c ∧ rep M' NX r c ∧ Below w.heap.size w w' ∧ (∀ p v, M' p = some v → w'.cell? p = some v) ∧
   (∀ p v, M p = some v → M' p = some v) ∧ ∀ p v, M' p = some v → M p = some v ∨ w.heap.size ≤ p.block

def Fn (P : Program) (f : FuncId) (us : List V) (r : V) : Prop :=
 ∀ (M : Mem) (w : World) (cs : Array Value), Snd M w → qA M NX us cs.toList →
   ∀ (o : Oper) (a : Act) (Nx : Act → World → Prop) (Q : Exit → Act → World → Prop), (∀ (c : Value) (M' : Mem) (w' : World), rep M' NX r c → Below w.heap.size w w' → (∀ p v, M' p = some v → w'.cell? p = some v) →
     (∀ p v, M p = some v → M' p = some v) → (∀ p v, M' p = some v → M p = some v ∨ w.heap.size ≤ p.block) → Nx (a.put o.dst c) w') → o.upon P a Nx Q ((callFunc f cs).run P w)

theorem FnE.fn {P : Program} {f : FuncId} {us : List V} {r : V} (h : FnE P f us r) : Fn P f us r := by
 intro M w cs hM hus o a Nx Q hN
 rw [h.call, Oper.upon_enter]
 refine (h.does M w cs hM hus).mono ?_
 rintro e w' ⟨c, M', rfl, h1, h2, h3, h4, h5⟩
 exact hN c M' w' h1 h2 h3 h4 h5

structure Heap (κ : Kap) (M : Mem) (B : Bas) (w : World) (H : List (Option Ob)) : Prop where
 heap : ∀ id ob, H[id]? = some (some ob) → zU κ M (XX κ H) B w id ob
 inj : ∀ i j oi oj g, H[i]? = some (some oi) → H[j]? = some (some oj) → κ.bl i g → κ.bl j g → i = j
 snd : ∀ p v, M p = some v → w.cell? p = some v
 sep : ∀ p v, M p = some v → ∀ id ob, H[id]? = some (some ob) → ¬ κ.bl id p.block
 fmS : ∀ p v, κ.fm p = some v → M p = some v
 gl : GLok M
def Blks (κ : Kap) (H : List (Option Ob)) (g : Nat) : Prop := ∃ id ob, H[id]? = some (some ob) ∧ κ.bl id g
def lentB (κ : Kap) (H : List (Option Ob)) (w : World) (ps : List Nat) (cs : Array Value) : Bas := ⟨w.heap.size, Blks κ H, ps, cs, 0⟩
def FnH (P : Program) (f : FuncId) (ps : List Nat) (us : List V) (H : List (Option Ob)) (r : V) (H' : List (Option Ob)) : Prop :=
 ∀ (M : Mem) (w : World) (κ : Kap) (cs : Array Value), Heap κ M (lentB κ H w ps cs) w H → qA M (XX κ H) us cs.toList →
   ∀ (o : Oper) (a : Act) (Nx : Act → World → Prop) (Q : Exit → Act → World → Prop), (∀ (c : Value) (M' : Mem) (w' : World) (κ' : Kap), rep M' (XX κ' H') r c → Und (lentB κ H w ps cs) w w' → Heap κ' M' (lentB κ H w ps cs) w' H' →
     (∀ p v, M p = some v → M' p = some v) → (∀ p v, M' p = some v → M p = some v ∨ (lentB κ H w ps cs).own p.block) →
     (∀ i, i ∈ ps → ∀ u d, us[i]? = some u → cs[i]? = some d → rep M' (XX κ' H') u d) → Nx (a.put o.dst c) w') → o.upon P a Nx Q ((callFunc f cs).run P w)
def newM (w : World) (M : Mem) : Mem := fun p => if w.heap.size ≤ p.block then M p else none
def FnN (P : Program) (f : FuncId) (us : List V) (r : V) : Prop :=
 ∀ (M : Mem) (w : World) (cs : Array Value), Snd M w → qA M NX us cs.toList →
   ∀ (o : Oper) (a : Act) (Nx : Act → World → Prop) (Q : Exit → Act → World → Prop), (∀ (c : Value) (M' : Mem) (w' : World), rep (newM w M') NX r c → Below w.heap.size w w' → (∀ p v, M' p = some v → w'.cell? p = some v) → Nx (a.put o.dst c) w') → o.upon P a Nx Q ((callFunc f cs).run P w)
theorem newM_sub {w : World} {M : Mem} {p : Addr} {v : Value} (h : newM w M p = some v) : w.heap.size ≤ p.block ∧ M p = some v := by
 unfold newM at h
 split at h
 · exact ⟨by assumption, h⟩
 · cases h
theorem FnN.fn {P : Program} {f : FuncId} {us : List V} {r : V} (h : FnN P f us r) : Fn P f us r := by
 intro M w cs hM hus o a Nx Q hN
 refine h M w cs hM hus o a Nx Q fun c M' w' h1 h2 h3 => ?_
 refine hN c (fun p => (M p).or (newM w M' p)) w' (qQ (fun p v hp => ?_) (fun _ _ h => h) _ _ h1) h2 (fun p v hp => ?_) (fun p v hp => ?_) (fun p v hp => ?_)
 · have := (newM_sub hp).1
   cases hm : M p with
   | none => simp [hp]
   | some u =>
     have := World.block_lt_of_cell? w p (hM.snd p u hm)
     omega
 · cases hm : M p with
   | none => simp [hm] at hp; exact h3 p v (newM_sub hp).2
   | some u =>
     simp [hm] at hp
     subst hp
     rw [h2.cell (World.block_lt_of_cell? w p (hM.snd p u hm))]
     exact hM.snd p u hm
 · simp [hp]
 · cases hm : M p with
   | none => simp [hm] at hp; exact .inr (newM_sub hp).1
   | some u => simp [hm] at hp; subst hp; exact .inl rfl
def Cn (P : Program) : Ctr := ⟨Fn P, FnN P, FnH P⟩

theorem Fn.ext {P : Program} {f : FuncId} {us : List V} {r : V} {fn : Func} {e : Array Value → Sem Value} (hf : P.funcs[f]? = some fn) (hname : (fn.name == "runtime.NumGoroutine") = false) (hb : fn.body.isNone = true)
 (hn : Extern.findNext fn = none) (he : Extern.find fn = some e) (hr : ∀ (M : Mem) (w : World) (cs : Array Value), Snd M w → qA M NX us cs.toList → ∃ c, (e cs).run P w = .ok c w ∧ rep M NX r c) : Fn P f us r := by
 intro M w cs hM hus o a Nx Q hN
 obtain ⟨c, h1, h2⟩ := hr M w cs hM hus
 rw [run_callFunc_extern hf hname hb hn he, h1]
 exact hN c M w h2 (Below.refl _ _) hM.snd (fun _ _ h => h) (fun _ _ h => .inl h)

def invF (P : Program) (name : String) (t : TypeId) : Option (Nat × FuncId) :=
 match P.info? t with
 | some i => match i.methods.find? (·.name == name) with
   | some m => match m.path.toList, m.func, P.underlying t with
     | [], some (f, false), some (.pointer _) => none
     | [], some (f, true), some (.pointer _) => some (t, f)
     | [], some (f, false), some _ => some (t, f)
     | _, _, _ => none
   | none => none
 | none => none
def invT (P : Program) (name : String) : List (Nat × FuncId) := (List.range P.types.size).filterMap (invF P name)
inductive LE (P : Program) : TypeId → Op → Act' → Prop
 | alloc {ty e i z v} : P.info? e = some i → i.zero = some z → cV P e z = some v → nt v = true → LE P ty (.alloc e) (.alc (cl v))
 | box {ty e x y} : cO P e x = some y → LE P ty (.box e x) (.box y)
 | store {ty t p x p' x' n} : cO P 0 p = some p' → cO P t x = some x' → szOf P t = some n → LE P ty (.store t p x) (.st n p' x')
 | s2b {ty s d x y e} : cO P s x = some y → P.underlying s = some .string → P.underlying d = some (.slice e) → P.underlying e = some (.int .u8) → LE P ty (.convert s d x) (.s2b y)
 | lit {ty t len parts xs e n i z} : P.underlying t = some (.slice e) → P.info? e = some i → i.size = n → 0 < n → i.zero = some z → z.cells.size = n → len * n ≤ 16777216 → parts.toList.map (·.1) = List.range len →
    cOs P (List.replicate len e) (parts.toList.map (·.2)) = some xs → LE P ty (.buildSlice t len parts) (.lit e n xs)
 | ltr {ty t len parts xs e n i z} : P.underlying t = some (.slice e) → P.info? e = some i → i.size = n → 0 < n → i.zero = some z → z.cells.size = n → len * n ≤ 16777216 → parts.toList.map (·.1) = List.range len →
    cOs P (List.replicate len e) (parts.toList.map (·.2)) = some xs → LE P ty (.buildSlice t len parts) (.ltr e n xs)
 | app {ty t x y x' y' e i z n by'} : P.underlying t = some (.slice e) → P.info? e = some i → i.zero = some z → i.size = n → i.bytes = by' → 0 < by' → z.cells.size = n → 0 < n → cO P t x = some x' → cO P t y = some y' →
    LE P ty (.call { callee := .builtin .append, args := #[x, y], argTypes := #[t, t] }) (.app x' y' e n by')
 | mk0 {ty t k l l' e i z n by'} : P.underlying t = some (.slice e) → P.info? e = some i → i.zero = some z → i.size = n → i.bytes = by' → 0 < by' → 0 < n → cO P 0 l = some l' →
    LE P ty (.makeSlice t (.const (.int k 0)) l) (.mk0 e n by' l')
 | mkm {ty t l l' e i n by' e2 i2} : P.underlying t = some (.slice e) → P.info? e = some i → i.zero = some (.slice none 0 0) → i.size = 1 → i.bytes = by' → 0 < by' → P.underlying e = some (.slice e2) → P.info? e2 = some i2 → i2.size = n → 0 < n → cO P 0 l = some l' →
    LE P ty (.makeSlice t l l) (.mkm e by' e2 n l')
 | mks {ty t l l' e i z v v' n by'} : P.underlying t = some (.slice e) → P.info? e = some i → i.zero = some z → cV P e z = some v → nt v = true → pur [] v = some v' → i.size = n → i.bytes = by' → 0 < by' → 0 < n → cO P 0 l = some l' →
    z.cells.size = n → LE P ty (.makeSlice t l l) (.mks e n by' v' l')
 | call {ty f args ts xs} : cOs P ts.toList args.toList = some xs → LE P ty (.call { callee := .value (.func f), args := args, argTypes := ts }) (.call f xs)
 | callH {ty f args ts xs} : cOs P ts.toList args.toList = some xs → LE P ty (.call { callee := .value (.func f), args := args, argTypes := ts }) (.callH f xs)
 | b2s {ty s d x u e} : cO P s x = some u → P.underlying s = some (.slice e) → P.underlying e = some (.int .u8) → P.underlying d = some .string → LE P ty (.convert s d x) (.b2s u)
 | mkp {ty t K E kt} : P.underlying t = some (.map K E) → ktT P K = some kt → LE P ty (.makeMap t none) (.mkp kt)
 | mup {ty t K E x k v u b c kt} : P.underlying t = some (.map K E) → ktT P K = some kt → cO P t x = some u → cO P K k = some b → cO P E v = some c → LE P ty (.mapUpdate t x k v) (.mup kt u b c)
 | mui {ty t K E x k v u b c kt} : P.underlying t = some (.map K E) → ktT P K = some kt → cO P t x = some u → cO P K k = some b → cO P E v = some c → LE P ty (.insert t x k v) (.mup kt u b c)
 | inv {ty r x name args ts xs tbl} : cO P 0 r = some x → invT P name = tbl → cOs P ts.toList args.toList = some xs → LE P ty (.call { callee := .invoke r name, args := args, argTypes := ts }) (.inv tbl x xs)
 | trc {ty t x hi u hi' e n} : cO P t x = some u → cO P 0 hi = some hi' → P.underlying t = some (.slice e) → szOf P e = some n → LE P ty (.slice t x none (some hi) none) (.trc u hi' n)
 | callv {ty g args ts xs} : cOs P ts.toList args.toList = some xs → LE P ty (.call { callee := .value (.tmp g), args := args, argTypes := ts }) (.callv (.t g) xs)

section
variable {P : Program} {N : Nat} {M0 : Mem} {B : Bas} {w0 : World} {κ : Kap} {M : Mem} {σ : St} {a : Act} {w w' : World}

theorem below_alloc (w : World) (o : Obj) : Below w.heap.size w (w.alloc o) := (Below.refl _ _).alloc (Nat.le_refl _) _

theorem lk_kill (ids : List Nat) (σ : St) : (σ.kill ids).r = σ.r := (kill_h ids σ).1

theorem call_sound (H : Rel N M0 B w0 κ M σ a w) {d : Option Nat} (hd : ∀ t, d = some t → t < N ∧ t ∉ B.ps) {f : FuncId} {vs us : List V} {K : St → Prop} (hW : wcall (Cn P) d f vs us K σ) (hp : purs σ.h vs = some us)
 {cs : Array Value} (hcs : qA M (XX κ σ.h) vs cs.toList) {Nx : Act → World → Prop} (hK : ∀ κ' M' σ' a' w', K σ' → Rel N M0 B w0 κ' M' σ' a' w' → Nx a' w') {Q : Exit → Act → World → Prop} (o : Oper) (ho : o.dst = d) :
 o.upon P a Nx Q ((callFunc f cs).run P w) := by
 subst ho
 obtain ⟨r, ⟨(⟨hr, hf | hf⟩ | hr), hk⟩ | ⟨hr, hk⟩ | ⟨hr, hk⟩⟩ := hW
 · refine hr w.cell? w cs ⟨fun _ _ h => h, (H.sub.gl.mono H.sub.sub).mono H.snd⟩ (purs_rep H H.snd (fun _ _ _ _ _ _ => rfl) hcs hp) o a Nx Q ?_
   intro c M' w' h1 h2 h3 h4 h5
   have H' := H.grow0 h2
   exact hK _ _ _ _ _ (hk (rep_ok h1)) (H'.put' hd (rep_flat hf h1))
 · refine hr M w cs ⟨H.snd, H.sub.gl.mono H.sub.sub⟩ ?_ o a Nx Q ?_
   · refine purs_rep H (fun _ _ h => h) (fun id hid => ?_) hcs hp
     rw [hf] at hid
     cases hid
   · intro c M' w' h1 h2 h3 h4 h5
     have H' := H.grow h2 h4 h3 h5
     exact hK _ _ _ _ _ (hk (rep_ok h1)) (H'.put' hd (qU h1))
 · refine hr w.cell? w cs ⟨fun _ _ h => h, (H.sub.gl.mono H.sub.sub).mono H.snd⟩ (purs_rep H H.snd (fun _ _ _ _ _ _ => rfl) hcs hp) o a Nx Q ?_
   intro c M' w' h1 h2 h3
   have hsub : ∀ p v, newM w M' p = some v → w.heap.size ≤ p.block ∧ M' p = some v := fun p v h => newM_sub h
   have H' : Rel N M0 B w0 κ (fun p => (M p).or (newM w M' p)) σ a w' := by
    refine H.grow h2 (fun p v hp => by simp [hp]) (fun p v hp => ?_) (fun p v hp => ?_)
    · cases hm : M p with
      | none => simp [hm] at hp; exact h3 p v (hsub p v hp).2
      | some u =>
        simp [hm] at hp
        subst hp
        rw [h2.cell (H.mem_lt hm)]
        exact H.snd p u hm
    · cases hm : M p with
      | none => simp [hm] at hp; exact .inr (hsub p v hp).1
      | some u => simp [hm] at hp; subst hp; exact .inl rfl
   refine hK _ _ _ _ _ (hk (rep_ok h1)) (H'.put' hd (qU (qQ (fun p v hp => ?_) (fun _ _ h => h) _ _ h1)))
   have := (hsub p v hp).1
   cases hm : M p with
   | none => simp [hp]
   | some u => have := H.mem_lt hm; omega
 · obtain ⟨H1, hM1⟩ := H.kill (qE vs) (purs_in hp)
   refine hr (ext M w (blks κ (qE vs))) w cs ⟨H1.snd, H1.sub.gl.mono H1.sub.sub⟩ ?_ o a Nx Q ?_
   · refine purs_rep H hM1 (fun id hid g hg p hpb => ?_) hcs hp
     unfold ext
     rw [if_pos (mem_blks.2 ⟨id, hid, by rw [hpb]; exact hg⟩)]
   · intro c M' w' h1 h2 h3 h4 h5
     have H' := H1.grow h2 h4 h3 h5
     exact hK _ _ _ _ _ (hk (rep_ok h1)) (H'.put' hd (qU h1))
 · refine hr w.cell? w cs ⟨fun _ _ h => h, (H.sub.gl.mono H.sub.sub).mono H.snd⟩ (purs_rep H H.snd (fun _ _ _ _ _ _ => rfl) hcs hp) o a Nx Q ?_
   intro c M' w' h1 h2 h3
   have hsub : ∀ p v, newM w M' p = some v → w.heap.size ≤ p.block ∧ M' p = some v := fun p v h => newM_sub h
   have hMn : ∀ p v, newM w M' p = some v → (fun p => (M p).or (newM w M' p)) p = some v := fun p v hp => by
    have := (hsub p v hp).1
    cases hm : M p with
    | none => simp [hm, hp]
    | some u => have := H.mem_lt hm; omega
   have H' : Rel N M0 B w0 κ (fun p => (M p).or (newM w M' p)) σ a w' := by
    refine H.grow h2 (fun p v hp => by simp [hp]) (fun p v hp => ?_) (fun p v hp => ?_)
    · cases hm : M p with
      | none => simp [hm] at hp; exact h3 p v (hsub p v hp).2
      | some u =>
        simp [hm] at hp
        subst hp
        rw [h2.cell (H.mem_lt hm)]
        exact H.snd p u hm
    · cases hm : M p with
      | none => simp [hm] at hp; exact .inr (hsub p v hp).1
      | some u => simp [hm] at hp; subst hp; exact .inl rfl
   have H'' := H'.addF (F := newM w M') (fun p v hp => ⟨hMn p v hp, by have := (hsub p v hp).1; have := H.sub.fbn; have := H.blw.size; have := H.base; omega⟩)
   refine hK _ _ _ _ _ (hk (rep_ok h1)) (H''.put' hd (fz_rep hMn (fun sz l c hc hr => ?_) h1))
   simp only [XX]
   refine ⟨hc, qQ (fun p v hp => ?_) (X := NX) (fun _ _ h => h) _ _ hr⟩
   simp only [Kap.add, Option.or_eq_some_iff]
   cases hf : κ.fm p with
   | none => exact .inr ⟨rfl, hp⟩
   | some u => have := H.mem_lt (H.sub.fmS p u hf); have := (hsub p v hp).1; omega

theorem getElem?_range' {n k j : Nat} {x : Nat} (h : (List.range' n k)[j]? = some x) : x = n + j ∧ j < k := by
 obtain ⟨h1, h2⟩ := List.getElem?_eq_some_iff.1 h
 simp at h1 h2
 omega
theorem wr_length : ∀ (ids : List Nat) (obs h : List (Option Ob)), (wr h ids obs).length = h.length
 | [], obs, h => by simp [wr]
 | _ :: _, [], h => by simp [wr]
 | id :: ids, ob :: obs, h => by simp [wr, wr_length ids obs]
theorem wr_get : ∀ (ids : List Nat) (obs h : List (Option Ob)), ids.Nodup → ids.length = obs.length → ∀ {i : Nat} {ob : Ob}, (wr h ids obs)[i]? = some (some ob) →
 (∃ j : Nat, ids[j]? = some i ∧ obs[j]? = some (some ob)) ∨ (i ∉ ids ∧ h[i]? = some (some ob))
 | [], obs, h, _, _, i, ob, hi => by simp only [wr] at hi; exact .inr ⟨by simp, hi⟩
 | id :: ids, [], h, _, hl, i, ob, hi => by simp at hl
 | id :: ids, o :: obs, h, hn, hl, i, ob, hi => by
   simp only [wr] at hi
   simp only [List.nodup_cons] at hn
   rcases wr_get ids obs _ hn.2 (by simpa using hl) hi with ⟨j, h1, h2⟩ | ⟨h1, h2⟩
   · exact .inl ⟨j + 1, by simpa using h1, by simpa using h2⟩
   · rw [List.getElem?_set] at h2
     split at h2
     · rename_i he
       subst he
       split at h2
       · exact .inl ⟨0, by simp, by simpa using h2⟩
       · cases h2
     · rename_i he
       exact .inr ⟨by simp; exact ⟨fun e => he e.symm, h1⟩, h2⟩
theorem bckH_length {m : List Nat} : ∀ {H : List (Option Ob)}, (bckH m H).length = H.length
 | [] => rfl
 | _ :: H => by simp [bckH, bckH_length (H := H)]
theorem bckH_get {m : List Nat} : ∀ {H : List (Option Ob)} {j : Nat} {ob : Ob}, (bckH m H)[j]? = some (some ob) → ∃ ob', H[j]? = some (some ob') ∧ bckO m (some ob') = some ob
 | [], j, ob, h => by simp [bckH] at h
 | o :: H, 0, ob, h => by
   simp only [bckH, List.getElem?_cons_zero, Option.some.injEq] at h
   cases o with
   | none => simp [bckO] at h
   | some ob' => exact ⟨ob', by simp, h⟩
 | o :: H, j + 1, ob, h => by
   simp only [bckH, List.getElem?_cons_succ] at h ⊢
   exact bckH_get h
mutual
theorem bck_rep {m : List Nat} {X X' : V → Value → Prop} (hX : ∀ v c, X v c → rep M X' (bck m v) c) : ∀ {v : V} {c : Value}, rep M X v c → rep M X' (bck m v) c
 | .int _ _, _, h => h
 | .bool _, _, h => h
 | .str _, _, h => h
 | .nil _, _, h => h
 | .seq _ _, _, h => h
 | .sptr _ _, _, h => h
 | .nilptr, _, h => h
 | .nilfn, _, h => h
 | .niliface, _, h => h
 | .junk, _, h => h
 | .ref _ _, _, h => hX _ _ h
 | .ptr _ _, _, h => hX _ _ h
 | .eptr _ _ _ _, _, h => hX _ _ h
 | .mref _ _ _, _, h => hX _ _ h
 | .fseq _ _, _, h => hX _ _ h
 | .mptr _ _ _ _ _, _, h => hX _ _ h
 | .strct cs, c, h => by
   simp only [rep, bck] at h ⊢
   obtain ⟨arr, h1, h2, h3⟩ := h
   exact ⟨arr, h1, bcks_rep hX h2, h3⟩
 | .tup cs, c, h => by
   simp only [rep, bck] at h ⊢
   obtain ⟨arr, h1, h2⟩ := h
   exact ⟨arr, h1, bcks_rep hX h2⟩
 | .fn f x y, c, h => by
   simp only [rep, bck] at h ⊢
   obtain ⟨a1, a2, h1, h2, h3⟩ := h
   exact ⟨a1, a2, h1, bcks_rep hX h2, bcks_rep hX h3⟩
 | .iface t x, c, h => by
   simp only [rep, bck] at h ⊢
   obtain ⟨y, h1, h2⟩ := h
   exact ⟨y, h1, bck_rep hX h2⟩
theorem bcks_rep {m : List Nat} {X X' : V → Value → Prop} (hX : ∀ v c, X v c → rep M X' (bck m v) c) : ∀ {vs : List V} {cs : List Value}, qA M X vs cs → qA M X' (bcks m vs) cs
 | [], _, h => h
 | v :: vs, cs, h => by
   simp only [qA, bcks] at h ⊢
   obtain ⟨c, cs', h1, h2, h3⟩ := h
   exact ⟨c, cs', h1, bck_rep hX h2, bcks_rep hX h3⟩
end
theorem uniq_pre : ∀ (l acc : List Nat), ∃ t, uniq acc l = acc ++ t
 | [], acc => ⟨[], by simp [uniq]⟩
 | k :: ks, acc => by
   simp only [uniq]
   split
   · exact uniq_pre ks acc
   · obtain ⟨t, ht⟩ := uniq_pre ks (acc ++ [k])
     exact ⟨[k] ++ t, by rw [ht]; simp⟩
theorem uniq_mem : ∀ (l acc : List Nat) {x : Nat}, x ∈ uniq acc l → x ∈ acc ∨ x ∈ l
 | [], acc, x, h => .inl h
 | k :: ks, acc, x, h => by
   simp only [uniq] at h
   split at h
   · rcases uniq_mem ks acc h with h | h
     · exact .inl h
     · exact .inr (by simp [h])
   · rcases uniq_mem ks _ h with h | h
     · simp at h
       rcases h with h | h
       · exact .inl h
       · exact .inr (by simp [h])
     · exact .inr (by simp [h])
theorem lent_spec {h : List (Option Ob)} {pvs vs : List V} : (lent h pvs vs).2.Nodup ∧ (lent h pvs vs).2.take (lent h pvs vs).1 = uniq [] (qE pvs) ∧ (lent h pvs vs).1 = (uniq [] (qE pvs)).length := by
 unfold lent
 simp only
 refine ⟨uniq_nodup _ _ (uniq_nodup _ _ (uniq_nodup _ _ (uniq_nodup _ _ List.nodup_nil))), ?_, trivial⟩
 obtain ⟨t1, h1⟩ := uniq_pre (qE vs) (uniq [] (qE pvs))
 obtain ⟨t2, h2⟩ := uniq_pre (hids h (uniq (uniq [] (qE pvs)) (qE vs))) (uniq (uniq [] (qE pvs)) (qE vs))
 generalize hb : uniq (uniq (uniq [] (qE pvs)) (qE vs)) (hids h (uniq (uniq [] (qE pvs)) (qE vs))) = b at *
 obtain ⟨t3, h3⟩ := uniq_pre (hids h b) b
 rw [h3, h2, h1]
 simp
theorem pickV_mem {vs : List V} : ∀ {ps : List Nat} {v : V}, v ∈ pickV vs ps → ∃ i, i ∈ ps ∧ vs[i]? = some v
 | [], v, h => by simp [pickV] at h
 | i :: is, v, h => by
   simp only [pickV] at h
   split at h
   · rename_i u hu
     rcases List.mem_cons.1 h with rfl | h
     · exact ⟨i, by simp, hu⟩
     · obtain ⟨j, h1, h2⟩ := pickV_mem h; exact ⟨j, by simp [h1], h2⟩
   · obtain ⟨j, h1, h2⟩ := pickV_mem h; exact ⟨j, by simp [h1], h2⟩
theorem curs_mem : ∀ {vs : List V} {v : V}, σ.curs vs = true → v ∈ vs → σ.cur v = true
 | [], v, _, h => by cases h
 | u :: us, v, hc, h => by
   simp only [St.curs, Bool.and_eq_true] at hc
   rcases List.mem_cons.1 h with rfl | h
   · exact hc.1
   · exact curs_mem hc.2 h
mutual
theorem cur_leaf {σ : St} {id : Nat} : ∀ {u : V}, σ.cur u = true → id ∈ qM u → ∃ v, σ.cur0 v = true ∧ qM v = [id]
 | .fn _ a b, h, hi => by
   simp only [St.cur, Bool.and_eq_true] at h
   simp only [qM, List.mem_append] at hi
   rcases hi with hi | hi
   · exact curA_leaf h.1 hi
   · exact curA_leaf h.2 hi
 | .strct cs, h, hi => by simp only [St.cur] at h; simp only [qM] at hi; exact curA_leaf h hi
 | .tup cs, h, hi => by simp only [St.cur] at h; simp only [qM] at hi; exact curA_leaf h hi
 | .iface _ x, h, hi => by simp only [St.cur] at h; simp only [qM] at hi; exact cur_leaf h hi
 | .int _ _, h, hi => by simp [qM] at hi
 | .bool _, h, hi => by simp [qM] at hi
 | .str _, h, hi => by simp [qM] at hi
 | .nil _, h, hi => by simp [qM] at hi
 | .seq _ _, h, hi => by simp [qM] at hi
 | .fseq _ _, h, hi => by simp [qM] at hi
 | .sptr _ _, h, hi => by simp [qM] at hi
 | .nilptr, h, hi => by simp [qM] at hi
 | .nilfn, h, hi => by simp [qM] at hi
 | .niliface, h, hi => by simp [qM] at hi
 | .junk, h, hi => by simp [qM] at hi
 | .mref _ _ _, h, hi => by simp [St.cur, St.cur0, qM] at h
 | .mptr _ _ _ _ _, h, hi => by simp [St.cur, St.cur0, qM] at h
 | .ref a n, h, hi => by
   simp only [qM, List.mem_singleton] at hi; subst hi
   simp only [St.cur, qM, List.isEmpty_cons, Bool.or_false] at h
   exact ⟨_, h, rfl⟩
 | .ptr a n, h, hi => by
   simp only [qM, List.mem_singleton] at hi; subst hi
   simp only [St.cur, qM, List.isEmpty_cons, Bool.or_false] at h
   exact ⟨_, h, rfl⟩
 | .eptr a n i o, h, hi => by
   simp only [qM, List.mem_singleton] at hi; subst hi
   simp only [St.cur, qM, List.isEmpty_cons, Bool.or_false] at h
   exact ⟨_, h, rfl⟩
theorem curA_leaf {σ : St} {id : Nat} : ∀ {u : List V}, σ.curA u = true → id ∈ qE u → ∃ v, σ.cur0 v = true ∧ qM v = [id]
 | [], _, hi => by simp [qE] at hi
 | v :: vs, h, hi => by
   simp only [St.curA, Bool.and_eq_true] at h
   simp only [qE, List.mem_append] at hi
   rcases hi with hi | hi
   · exact cur_leaf h.1 hi
   · exact curA_leaf h.2 hi
end
mutual
theorem cur_leaf2 {σ : St} {id : Nat} {m : List Nat} {M M' : Mem} {X X' : V → Value → Prop} : ∀ {u : V} {d : Value}, σ.cur u = true → rep M X u d → rep M' X' (ren m u) d → id ∈ qM u → ∃ v c, σ.cur0 v = true ∧ qM v = [id] ∧ rep M X v c ∧ rep M' X' (ren m v) c
 | .fn _ a b, d, h, h1, h2, hi => by
   simp only [St.cur, Bool.and_eq_true] at h
   simp only [qM, List.mem_append] at hi
   simp only [ren, rep] at h1 h2
   obtain ⟨a1, a2, rfl, g1, g2⟩ := h1
   obtain ⟨b1, b2, e, g3, g4⟩ := h2
   cases e
   rcases hi with hi | hi
   · exact curA_leaf2 h.1 g1 g3 hi
   · exact curA_leaf2 h.2 g2 g4 hi
 | .strct cs, d, h, h1, h2, hi => by
   simp only [St.cur] at h
   simp only [qM] at hi
   simp only [ren, rep] at h1 h2
   obtain ⟨a1, rfl, g1, _⟩ := h1
   obtain ⟨b1, e, g3, _⟩ := h2
   cases e
   exact curA_leaf2 h g1 g3 hi
 | .tup cs, d, h, h1, h2, hi => by
   simp only [St.cur] at h
   simp only [qM] at hi
   simp only [ren, rep] at h1 h2
   obtain ⟨a1, rfl, g1⟩ := h1
   obtain ⟨b1, e, g3⟩ := h2
   cases e
   exact curA_leaf2 h g1 g3 hi
 | .iface _ x, d, h, h1, h2, hi => by
   simp only [St.cur] at h
   simp only [qM] at hi
   simp only [ren, rep] at h1 h2
   obtain ⟨y, rfl, g1⟩ := h1
   obtain ⟨z, e, g3⟩ := h2
   cases e
   exact cur_leaf2 h g1 g3 hi
 | .int _ _, _, h, _, _, hi => by simp [qM] at hi
 | .bool _, _, h, _, _, hi => by simp [qM] at hi
 | .str _, _, h, _, _, hi => by simp [qM] at hi
 | .nil _, _, h, _, _, hi => by simp [qM] at hi
 | .seq _ _, _, h, _, _, hi => by simp [qM] at hi
 | .fseq _ _, _, h, _, _, hi => by simp [qM] at hi
 | .sptr _ _, _, h, _, _, hi => by simp [qM] at hi
 | .nilptr, _, h, _, _, hi => by simp [qM] at hi
 | .nilfn, _, h, _, _, hi => by simp [qM] at hi
 | .niliface, _, h, _, _, hi => by simp [qM] at hi
 | .junk, _, h, _, _, hi => by simp [qM] at hi
 | .mref _ _ _, _, h, _, _, hi => by simp [St.cur, St.cur0, qM] at h
 | .mptr _ _ _ _ _, _, h, _, _, hi => by simp [St.cur, St.cur0, qM] at h
 | .ref a n, _, h, h1, h2, hi => by
   simp only [qM, List.mem_singleton] at hi; subst hi
   simp only [St.cur, qM, List.isEmpty_cons, Bool.or_false] at h
   exact ⟨_, _, h, rfl, h1, h2⟩
 | .ptr a n, _, h, h1, h2, hi => by
   simp only [qM, List.mem_singleton] at hi; subst hi
   simp only [St.cur, qM, List.isEmpty_cons, Bool.or_false] at h
   exact ⟨_, _, h, rfl, h1, h2⟩
 | .eptr a n i o, _, h, h1, h2, hi => by
   simp only [qM, List.mem_singleton] at hi; subst hi
   simp only [St.cur, qM, List.isEmpty_cons, Bool.or_false] at h
   exact ⟨_, _, h, rfl, h1, h2⟩
theorem curA_leaf2 {σ : St} {id : Nat} {m : List Nat} {M M' : Mem} {X X' : V → Value → Prop} : ∀ {u : List V} {d : List Value}, σ.curA u = true → qA M X u d → qA M' X' (rens m u) d → id ∈ qE u → ∃ v c, σ.cur0 v = true ∧ qM v = [id] ∧ rep M X v c ∧ rep M' X' (ren m v) c
 | [], _, _, _, _, hi => by simp [qE] at hi
 | v :: vs, d, h, h1, h2, hi => by
   simp only [St.curA, Bool.and_eq_true] at h
   simp only [qE, List.mem_append] at hi
   simp only [rens, qA] at h1 h2
   obtain ⟨c, cs, rfl, g1, g2⟩ := h1
   obtain ⟨c', cs', e, g3, g4⟩ := h2
   cases e
   rcases hi with hi | hi
   · exact cur_leaf2 h.1 g1 g3 hi
   · exact curA_leaf2 h.2 g2 g4 hi
end
theorem vidss_mem : ∀ {vs : List V} {id : Nat}, id ∈ qE vs → ∃ v ∈ vs, id ∈ qM v
 | [], id, h => by simp [qE] at h
 | v :: vs, id, h => by
   simp only [qE, List.mem_append] at h
   rcases h with h | h
   · exact ⟨v, by simp, h⟩
   · obtain ⟨u, h1, h2⟩ := vidss_mem h; exact ⟨u, by simp [h1], h2⟩
theorem kin_get : ∀ {q : Nat} {H H' : List (Option Ob)}, kin q H H' = true → ∀ {j : Nat}, j < q →
 (∃ cs cs', H[j]? = some (some (.box cs)) ∧ H'[j]? = some (some (.box cs'))) ∨ ∃ e sz l l', H[j]? = some (some (.arr e sz l)) ∧ H'[j]? = some (some (.arr e sz l'))
 | 0, _, _, _, j, hj => by omega
 | q + 1, [], _, hk, j, hj => by simp [kin] at hk
 | q + 1, none :: _, _, hk, j, hj => by simp [kin] at hk
 | q + 1, some (.box _) :: _, [], hk, j, hj => by simp [kin] at hk
 | q + 1, some (.arr _ _ _) :: _, [], hk, j, hj => by simp [kin] at hk
 | q + 1, some (.mat _ _ _ _) :: _, _, hk, j, hj => by simp [kin] at hk
 | q + 1, some (.mp _ _) :: _, _, hk, j, hj => by simp [kin] at hk
 | q + 1, some (.box _) :: _, some (.mp _ _) :: _, hk, j, hj => by simp [kin] at hk
 | q + 1, some (.arr _ _ _) :: _, some (.mp _ _) :: _, hk, j, hj => by simp [kin] at hk
 | q + 1, some (.box _) :: _, some (.mat _ _ _ _) :: _, hk, j, hj => by simp [kin] at hk
 | q + 1, some (.arr _ _ _) :: _, some (.mat _ _ _ _) :: _, hk, j, hj => by simp [kin] at hk
 | q + 1, some (.box _) :: _, none :: _, hk, j, hj => by simp [kin] at hk
 | q + 1, some (.arr _ _ _) :: _, none :: _, hk, j, hj => by simp [kin] at hk
 | q + 1, some (.box _) :: _, some (.arr _ _ _) :: _, hk, j, hj => by simp [kin] at hk
 | q + 1, some (.arr _ _ _) :: _, some (.box _) :: _, hk, j, hj => by simp [kin] at hk
 | q + 1, some (.box _) :: H, some (.box _) :: H', hk, 0, hj => .inl ⟨_, _, rfl, rfl⟩
 | q + 1, some (.box _) :: H, some (.box _) :: H', hk, j + 1, hj => by
   simp only [kin] at hk
   simpa using kin_get hk (j := j) (by omega)
 | q + 1, some (.arr e sz l) :: H, some (.arr e' sz' l') :: H', hk, 0, hj => by
   simp only [kin, Bool.and_eq_true, decide_eq_true_eq] at hk
   obtain ⟨⟨rfl, rfl⟩, hk⟩ := hk
   exact .inr ⟨_, _, _, _, rfl, rfl⟩
 | q + 1, some (.arr e sz l) :: H, some (.arr e' sz' l') :: H', hk, j + 1, hj => by
   simp only [kin, Bool.and_eq_true, decide_eq_true_eq] at hk
   simpa using kin_get hk.2 (j := j) (by omega)
theorem kin_len : ∀ {q : Nat} {H H' : List (Option Ob)}, kin q H H' = true → q ≤ H'.length := by
 intro q H H' hk
 rcases Nat.eq_zero_or_pos q with h | h
 · omega
 · have hg : ∀ j, j < q → j < H'.length := fun j hj => by
    rcases kin_get hk hj with ⟨_, _, _, h⟩ | ⟨_, _, _, _, _, h⟩ <;> exact (List.getElem?_eq_some_iff.1 h).1
   have := hg (q - 1) (by omega)
   omega
theorem idx_get {id : Nat} : ∀ {m : List Nat} {j : Nat}, m.Nodup → m[j]? = some id → idx id m = some j
 | [], j, _, h => by simp at h
 | k :: ks, 0, _, h => by simp at h; simp [idx, h]
 | k :: ks, j + 1, hn, h => by
   simp only [List.nodup_cons] at hn
   simp only [List.getElem?_cons_succ] at h
   have : id ≠ k := fun e => hn.1 (e ▸ List.mem_of_getElem? h)
   simp only [idx, if_neg this, idx_get hn.2 h, Option.map_some]
theorem idx_none {id : Nat} : ∀ {m : List Nat}, idx id m = none → id ∉ m
 | [], _ => by simp
 | k :: ks, h => by
   simp only [idx] at h
   split at h
   · cases h
   · rename_i hk
     simp only [Option.map_eq_none_iff] at h
     simp only [List.mem_cons, not_or]
     exact ⟨hk, idx_none h⟩
theorem obAt_base {B B' : Bas} {X : V → Value → Prop} {id : Nat} (hB : ∀ g, κ.bl id g → B'.own g) : ∀ {ob : Ob}, zU κ M X B w id ob → zU κ M X B' w id ob
 | .box cs, h => by
   simp only [zU] at h ⊢
   obtain ⟨b, arr, T, h1, h2, h3, h4, h5, h6⟩ := h
   exact ⟨b, arr, T, h1, hB b ((h6 b).2 rfl), h3, h4, h5, h6⟩
 | .arr e sz l, h => by
   simp only [zU] at h ⊢
   obtain ⟨h1, h2, xs, h3, h4, _, h5⟩ := h
   exact ⟨h1, h2, xs, h3, h4, hB, h5⟩
 | .mat e e2 sz l, h => by
   simp only [zU] at h ⊢
   obtain ⟨h1, h2, h3, h4, h5, h6, _, h7⟩ := h
   exact ⟨h1, h2, h3, h4, h5, h6, hB, h7⟩
 | .mp kt l, h => by
   simp only [zU] at h ⊢
   obtain ⟨b, es, clock, h1, h2, h3, h4, h5⟩ := h
   exact ⟨b, es, clock, h1, hB b ((h5 b).2 rfl), h3, h4, h5⟩
theorem renH_get' {h : List (Option Ob)} {m : List Nat} : ∀ {ids : List Nat} {j id : Nat} {ob : Ob}, ids[j]? = some id → h[id]? = some (some ob) → (renH h m ids)[j]? = some (renO m (some ob))
 | [], j, id, ob, h1, _ => by simp at h1
 | i :: ids, 0, id, ob, h1, h2 => by simp at h1; subst h1; simp [renH, List.getD, h2]
 | i :: ids, j + 1, id, ob, h1, h2 => by simp only [List.getElem?_cons_succ] at h1; simp only [renH, List.getElem?_cons_succ]; exact renH_get' h1 h2
theorem rens_get {m : List Nat} : ∀ {vs : List V} {i : Nat} {v : V}, vs[i]? = some v → (rens m vs)[i]? = some (ren m v)
 | [], i, v, h => by simp at h
 | u :: us, 0, v, h => by simp at h; simp [rens, h]
 | u :: us, i + 1, v, h => by simp only [List.getElem?_cons_succ] at h; simp only [rens, List.getElem?_cons_succ]; exact rens_get h

theorem repRow_ok {M : Mem} {sz : Nat} : ∀ {l : List V} {xs : List Value}, qJ M sz l xs → oks l
 | [], _, _ => by simp [oks]
 | v :: vs, xs, h => by
   simp only [qJ] at h
   obtain ⟨y, rest, _, h1, _, _, h2⟩ := h
   exact ⟨rep_ok h1, repRow_ok h2⟩
theorem okH_of : ∀ {h : List (Option Ob)}, (∀ (id : Nat) (ob : Ob), h[id]? = some (some ob) → match ob with
 | .box cs => oks cs
 | .arr _ _ l => l.length ≤ 140737488355328 ∧ oks l
 | .mat _ _ _ rows => rows.length ≤ 140737488355328
 | .mp _ _ => True) → okH h
 | [], _ => trivial
 | none :: h, H => by simp only [okH]; exact okH_of fun id ob hi => H (id + 1) ob (by simpa using hi)
 | some (.box cs) :: h, H => by simp only [okH]; exact ⟨H 0 (.box cs) rfl, okH_of fun id ob hi => H (id + 1) ob (by simpa using hi)⟩
 | some (.mat e e2 sz l) :: h, H => by simp only [okH]; exact ⟨H 0 (.mat e e2 sz l) rfl, okH_of fun id ob hi => H (id + 1) ob (by simpa using hi)⟩
 | some (.mp kt l) :: h, H => by simp only [okH]; exact okH_of fun id ob hi => H (id + 1) ob (by simpa using hi)
 | some (.arr e sz l) :: h, H => by simp only [okH]; exact ⟨H 0 (.arr e sz l) rfl, okH_of fun id ob hi => H (id + 1) ob (by simpa using hi)⟩
theorem heap_ok {H : List (Option Ob)} (hh : ∀ id ob, H[id]? = some (some ob) → zU κ M (XX κ H) B w id ob) : okH H := by
 refine okH_of fun id ob hi => ?_
 have h := hh id ob hi
 cases ob with
 | box cs => simp only [zU] at h; obtain ⟨b, arr, T, _, _, _, h4, _⟩ := h; exact repAll_ok h4
 | arr e sz l => simp only [zU] at h; obtain ⟨_, h1, xs, _, h3, _⟩ := h; exact ⟨h1, repRow_ok h3⟩
 | mat e e2 sz l => simp only [zU] at h; exact h.2.1
 | mp kt l => trivial

theorem callH_sound (H : Rel N M0 B w0 κ M σ a w) {d : Option Nat} (hd : ∀ t, d = some t → t < N ∧ t ∉ B.ps) {f : FuncId} {vs : List V} {K : St → Prop} (hW : wcallH (Cn P) d f vs K σ)
 {cs : Array Value} (hcs : qA M (XX κ σ.h) vs cs.toList) {Nx : Act → World → Prop} (hK : ∀ κ' M' σ' a' w', K σ' → Rel N M0 B w0 κ' M' σ' a' w' → Nx a' w') {Q : Exit → Act → World → Prop} (o : Oper) (ho : o.dst = d) :
 o.upon P a Nx Q ((callFunc f cs).run P w) := by
 subst ho
 obtain ⟨ps, hcur, r, H', hkin, hΦ, hk⟩ := hW
 obtain ⟨hm, hA, hq⟩ := lent_spec (h := σ.h) (pvs := pickV vs ps) (vs := vs)
 generalize hqq : (lent σ.h (pickV vs ps) vs).1 = q at *
 generalize hmm : (lent σ.h (pickV vs ps) vs).2 = m at *
 clear hqq hmm
 have hqk := kin_len hkin
 have hAn : (uniq [] (qE (pickV vs ps))).Nodup := uniq_nodup _ _ List.nodup_nil
 have hAlt : ∀ id ∈ m.take q, ∃ i u, i ∈ ps ∧ vs[i]? = some u ∧ σ.cur u = true ∧ id ∈ qM u := by
  intro id hid
  rw [hA] at hid
  rcases uniq_mem _ _ hid with h | h
  · cases h
  · obtain ⟨u, h1, h2⟩ := vidss_mem h
    obtain ⟨i, h3, h4⟩ := pickV_mem h1
    exact ⟨i, u, h3, h4, curs_mem hcur h1, h2⟩
 have hAin : ∀ id ∈ m.take q, ∃ ob, σ.h[id]? = some (some ob) := by
  intro id hid
  obtain ⟨i, u0, _, _, hc0, hv0⟩ := hAlt id hid
  obtain ⟨u, hc, hv⟩ := cur_leaf hc0 hv0
  cases u <;> simp [St.cur0] at hc <;> simp only [qM, List.cons.injEq, and_true] at hv <;> subst hv
  · split at hc
    · rename_i h; exact ⟨_, arr?_eq h⟩
    · cases hc
  · obtain ⟨x, hx⟩ := Option.isSome_iff_exists.1 hc.1; exact ⟨_, box?_eq hx⟩
  · split at hc
    · rename_i h; exact ⟨_, arr?_eq h⟩
    · cases hc
 have hn : σ.h.length = σ.h.length := rfl
 generalize hD : dest q m σ.h.length H'.length = D at *
 have hDl : D.length = H'.length := by
  rw [← hD]; unfold dest; rw [List.length_append, hA, ← hq]; simp; omega
 have hDget : ∀ {j id : Nat}, D[j]? = some id → (j < q ∧ m[j]? = some id ∧ id ∈ m.take q) ∨ (q ≤ j ∧ σ.h.length ≤ id ∧ id < σ.h.length + (H'.length - q)) := by
  intro j id h
  rw [← hD] at h
  unfold dest at h
  have hl : (m.take q).length = q := by rw [hA, ← hq]
  by_cases hj : j < q
  · rw [List.getElem?_append_left (by omega)] at h
    refine .inl ⟨hj, ?_, List.mem_of_getElem? h⟩
    rwa [List.getElem?_take, if_pos hj] at h
  · rw [List.getElem?_append_right (by omega)] at h
    have := getElem?_range' h
    exact .inr ⟨by omega, by omega, by omega⟩
 have hDlt : ∀ {j id : Nat}, D[j]? = some id → id < σ.h.length + (H'.length - q) := by
  intro j id h
  rcases hDget h with ⟨_, _, h1⟩ | ⟨_, _, h1⟩
  · obtain ⟨ob, h2⟩ := hAin id h1; have := (List.getElem?_eq_some_iff.1 h2).1; omega
  · exact h1
 have hDn : D.Nodup := by
  rw [← hD]
  unfold dest
  rw [List.nodup_append]
  refine ⟨by rw [hA]; exact hAn, List.nodup_range', fun x hx y hy => ?_⟩
  obtain ⟨ob, h2⟩ := hAin x hx
  have := (List.getElem?_eq_some_iff.1 h2).1
  simp [List.mem_range'] at hy
  omega
 obtain ⟨k1, k2, k3⟩ := kill_h m σ
 have H1 := H.ren hm [] (fun t v h => by simp [lk] at h)
 simp only [renR] at H1
 -- what is lent
 generalize hκc : κ.ren m = κc at *
 generalize hHc : renH σ.h m m = Hc at *
 have hlb : ∀ g, Blks κc Hc g → ∃ id ob, id ∈ m ∧ σ.h[id]? = some (some ob) ∧ κ.bl id g := by
  rintro g ⟨j, ob, h1, h2⟩
  rw [← hHc] at h1
  obtain ⟨id, ob', g1, g2, _⟩ := renH_get h1
  refine ⟨id, ob', List.mem_of_getElem? g1, g2, ?_⟩
  rw [← hκc] at h2
  simpa [Kap.ren, List.getD, g1] using h2
 have hown : ∀ g, (lentB κc Hc w ps cs).own g → B.own g := by
  rintro g (h | h)
  · have h : w.heap.size ≤ g := h
    exact .inl (by rw [H.base]; have := H.blw.size; omega)
  · obtain ⟨id, ob, _, h2, h3⟩ := hlb g h
    exact (H.blk_lt h2 h3).1
 have hpre : Heap κc M (lentB κc Hc w ps cs) w Hc :=
  { heap := fun id ob h => obAt_base (B' := lentB κc Hc w ps cs) (fun g hg => Or.inr (show Blks κc Hc g from ⟨id, ob, h, hg⟩)) (H1.heap id ob h), inj := H1.inj, gl := H1.sub.gl.mono H1.sub.sub, snd := H1.snd, sep := H1.sep, fmS := H1.sub.fmS }
 have hus : qA M (XX κc Hc) (rens m vs) cs.toList := by
  have := rens_rep (XX_ren (M := M) (κ := κ) (h := σ.h) hm) hcs
  rwa [hκc, hHc] at this
 refine hΦ M w κc cs hpre hus o a Nx Q ?_
 intro c M' w' κ' hr hu hp' hM hnew hpin
 have hback : ∀ {id : Nat} {ob : Ob}, (σ.back q m H')[id]? = some (some ob) → (∃ (j : Nat) (ob' : Ob), D[j]? = some id ∧ H'[j]? = some (some ob') ∧ bckO D (some ob') = some ob) ∨ (id ∉ D ∧ id ∉ m ∧ σ.h[id]? = some (some ob)) := by
  intro id ob h
  unfold St.back at h
  rw [hD] at h
  rcases wr_get _ _ _ hDn (by rw [bckH_length, hDl]) h with ⟨j, h1, h2⟩ | ⟨h1, h2⟩
  · obtain ⟨ob', h3, h4⟩ := bckH_get h2
    exact .inl ⟨j, ob', h1, h3, h4⟩
  · by_cases hlt : id < (σ.kill m).h.length
    · rw [List.getElem?_append_left hlt] at h2
      obtain ⟨h3, h4⟩ := k3 id ob h2
      exact .inr ⟨h1, h4, h3⟩
    · rw [List.getElem?_append_right (by omega)] at h2
      obtain ⟨_, h3⟩ := List.getElem?_eq_some_iff.1 h2
      simp at h3
 have hblen : (σ.back q m H').length = σ.h.length + (H'.length - q) := by
  unfold St.back; rw [wr_length]; simp [k2]
 generalize hB2 : σ.back q m H' = h2 at *
 -- what the numbers stand for
 let κ2 : Kap := ⟨fun id => match idx id D with
  | some j => κ' j
  | none => κ id, fun id => match idx id D with
  | some j => κ'.row j
  | none => κ.row id, fun id => match idx id D with
  | some j => κ'.bl j
  | none => κ.bl id, κ.fm⟩
 have κD3 : ∀ {j id : Nat}, D[j]? = some id → κ2 id = κ' j ∧ κ2.row id = κ'.row j ∧ κ2.bl id = κ'.bl j := by
  intro j id h
  simp only [κ2, idx_get hDn h, and_self]
 have κO3 : ∀ {id : Nat}, id ∉ D → κ2 id = κ id ∧ κ2.row id = κ.row id ∧ κ2.bl id = κ.bl id := by
  intro id h
  simp only [κ2]
  split
  · rename_i j hj; exact (h (List.mem_of_getElem? (idx_some hj))).elim
  · exact ⟨rfl, rfl, rfl⟩
 have κD : ∀ {j id : Nat}, D[j]? = some id → κ2 id = κ' j := fun h => (κD3 h).1
 have κO : ∀ {id : Nat}, id ∉ D → κ2 id = κ id := fun h => (κO3 h).1
 have hturn : ∀ {j id : Nat}, D[j]? = some id → id < σ.h.length → (∀ cs', H'[j]? = some (some (Ob.box cs')) → (∃ cs0, σ.h[id]? = some (some (Ob.box cs0))) ∧ κ' j = κ id) ∧
  (∀ e sz l, H'[j]? = some (some (Ob.arr e sz l)) → ∃ l0, σ.h[id]? = some (some (Ob.arr e sz l0)) ∧ l0.length ≤ l.length ∧ (l0.length = l.length → κ' j = κ id)) ∧ ((∀ e e2 sz l, H'[j]? ≠ some (some (Ob.mat e e2 sz l))) ∧ (∀ kt l, H'[j]? ≠ some (some (Ob.mp kt l)))) := by
  intro j id hj hlt
  refine and_assoc.1 ⟨?_, fun e e2 sz l hl => by
   rcases hDget hj with ⟨h1, _, _⟩ | ⟨_, h1, _⟩
   · rcases kin_get hkin h1 with ⟨_, _, _, g2⟩ | ⟨_, _, _, _, _, g2⟩ <;> rw [hl] at g2 <;> cases g2
   · omega, fun kt l hl => by
   rcases hDget hj with ⟨h1, _, _⟩ | ⟨_, h1, _⟩
   · rcases kin_get hkin h1 with ⟨_, _, _, g2⟩ | ⟨_, _, _, _, _, g2⟩ <;> rw [hl] at g2 <;> cases g2
   · omega⟩
  rcases hDget hj with ⟨h1, h2, h3⟩ | ⟨_, h1, _⟩
  · obtain ⟨i, u0, hi, hvi, hcu0, hvu0⟩ := hAlt id h3
    obtain ⟨d0, hd1, hd02⟩ := repAll_get hcs hvi
    have hd03 := hpin i hi _ d0 (rens_get hvi) (by simpa using hd1)
    obtain ⟨u, d, hcu, hvu, hd2, hd3⟩ := cur_leaf2 hcu0 hd02 hd03 hvu0
    have hx := idx_get hm h2
    have hkg := kin_get hkin h1
    rw [← hHc] at hkg
    cases u <;> simp [St.cur0] at hcu <;> simp only [qM, List.cons.injEq, and_true] at hvu <;> subst hvu
    · rename_i id n
      split at hcu
      · rename_i e0 sz0 l0 har
        have ha := arr?_eq har
        simp only at ha
        simp at hcu
        simp only [ren, hx, rep, XX] at hd2 hd3
        have hg := renH_get' (m := m) h2 ha
        refine ⟨fun cs' hc => ?_, fun e sz l hl => ?_⟩
        · rcases hkg with ⟨_, _, g1, g2⟩ | ⟨_, _, _, _, g1, g2⟩
          · rw [hg] at g1; simp [renO] at g1
          · rw [hc] at g2; cases g2
        · rcases hkg with ⟨_, _, g1, g2⟩ | ⟨_, _, _, _, g1, g2⟩
          · rw [hl] at g2; cases g2
          · rw [hg] at g1
            simp [renO] at g1
            rw [hl] at g2
            cases g2
            obtain ⟨rfl, rfl, rfl⟩ := g1
            refine ⟨l0, ha, ?_, fun heq => ?_⟩
            · have := (hd3.2.2.1 _ _ _ hl).1; omega
            · have h5 := (hd3.2.2.1 _ _ _ hl).2 (by omega)
              have h6 := (hd2.2.2.1 _ _ _ ha).2 hcu
              rw [← h5, ← h6]
      · cases hcu
    · rename_i id off
      obtain ⟨x, hx0⟩ := Option.isSome_iff_exists.1 hcu.1
      have hb := box?_eq hx0
      have hoff : off = 0 := hcu.2
      subst hoff
      simp only [ren, hx, rep, XX] at hd2 hd3
      have hg := renH_get' (m := m) h2 hb
      refine ⟨fun cs' hc => ⟨⟨_, hb⟩, ?_⟩, fun e sz l hl => ?_⟩
      · obtain ⟨b1, e1, e2⟩ := hd2.2.2 _ hb
        obtain ⟨b2, e3, e4⟩ := hd3.2.2 _ hc
        rw [e2] at e4
        cases e4
        rw [e1, e3]
      · rcases hkg with ⟨_, _, g1, g2⟩ | ⟨_, _, _, _, g1, g2⟩
        · rw [hl] at g2; cases g2
        · rw [hg] at g1; simp [renO] at g1
    · rename_i id n i0 off
      split at hcu
      · rename_i e0 sz0 l0 har
        have ha := arr?_eq har
        simp only at ha
        simp at hcu
        simp only [ren, hx, rep, XX] at hd2 hd3
        have hg := renH_get' (m := m) h2 ha
        refine ⟨fun cs' hc => ?_, fun e sz l hl => ?_⟩
        · rcases hkg with ⟨_, _, g1, g2⟩ | ⟨_, _, _, _, g1, g2⟩
          · rw [hg] at g1; simp [renO] at g1
          · rw [hc] at g2; cases g2
        · rcases hkg with ⟨_, _, g1, g2⟩ | ⟨_, _, _, _, g1, g2⟩
          · rw [hl] at g2; cases g2
          · rw [hg] at g1
            simp [renO] at g1
            rw [hl] at g2
            cases g2
            obtain ⟨rfl, rfl, rfl⟩ := g1
            refine ⟨l0, ha, ?_, fun heq => ?_⟩
            · have := (hd3.2.2.1 _ _ _ hl).1; omega
            · clear hg
              obtain ⟨b1, cap1, q1, q2⟩ := (hd3.2.2.1 _ _ _ hl).2 (by omega) hcu.2
              obtain ⟨b2, cap2, q3, q4⟩ := (hd2.2.2.1 _ _ _ ha).2 hcu.1 hcu.2
              rw [q2] at q4
              simp only [Value.pointer.injEq, Option.some.injEq, Addr.mk.injEq, and_true] at q4
              obtain ⟨rfl, _⟩ := q4
              have o1 := hp'.heap j _ hl
              have o2 := H.heap id _ ha
              simp only [zU] at o1 o2
              obtain ⟨hsz0, _, _, o1, _⟩ := o1
              obtain ⟨_, _, _, o2, _⟩ := o2
              rcases o1.2 with ⟨o3, _⟩ | ⟨g1', cap1', cur1, o3, _, o4, _, _, o5, _⟩
              · rw [q1] at o3; cases o3
              · rcases o2.2 with ⟨o6, _⟩ | ⟨g2', cap2', cur2, o6, _, o7, _, _, o8, _⟩
                · rw [q3] at o6; cases o6
                · rw [q1] at o3
                  rw [q3] at o6
                  simp only [Value.slice.injEq, Option.some.injEq, Addr.mk.injEq, and_true] at o3 o6
                  obtain ⟨rfl, _, rfl⟩ := o3
                  obtain ⟨rfl, _, rfl⟩ := o6
                  obtain ⟨cur', T', z', s1, s2⟩ := hu.siz _ _ _ _ o7
                  rw [o4] at s1
                  simp only [Option.some.injEq, Obj.cells.injEq] at s1
                  obtain ⟨rfl, _, _⟩ := s1
                  have : cap1 = cap2 := Nat.eq_of_mul_eq_mul_right hsz0 (by rw [← o5, ← o8, s2])
                  rw [q1, q3, this]
      · cases hcu
  · omega
 have V1 : ∀ v c, XX κ σ.h v c → XX κ2 h2 v c := by
  intro v c hx
  have km : ∀ {id : Nat} {e e2 sz : Nat} {l : List (Option (List V))}, id < σ.h.length → h2[id]? = some (some (.mat e e2 sz l)) → κ2 id = κ id ∧ κ2.row id = κ.row id ∧ σ.h[id]? = some (some (.mat e e2 sz l)) := by
   intro id e e2 sz l hlt hl
   rcases hback hl with ⟨j, ob', h1, h3, h4⟩ | ⟨h1, _, h3⟩
   · have := (hturn h1 hlt).2.2.1 e e2 sz l
     cases ob' <;> simp [bckO] at h4
     obtain ⟨rfl, rfl, rfl, rfl⟩ := h4
     exact (this h3).elim
   · exact ⟨κO h1, (κO3 h1).2.1, h3⟩
  have kp : ∀ {id : Nat} {kt : KT} {l : List (V × V)}, id < σ.h.length → h2[id]? = some (some (.mp kt l)) → κ2 id = κ id ∧ σ.h[id]? = some (some (.mp kt l)) := by
   intro id kt l hlt hl
   rcases hback hl with ⟨j, ob', h1, h3, h4⟩ | ⟨h1, _, h3⟩
   · have := (hturn h1 hlt).2.2.2 kt l
     cases ob' <;> simp [bckO] at h4
     obtain ⟨rfl, rfl⟩ := h4
     exact (this h3).elim
   · exact ⟨κO h1, h3⟩
  cases v <;> simp only [XX] at hx ⊢
  case ref id n =>
   refine ⟨hx.1, by omega, fun e sz l hl => ?_, fun e e2 sz l hl => ?_, fun kt l hl => by obtain ⟨g1, g2⟩ := kp hx.2.1 hl; rw [g1]; exact hx.2.2.2.2 _ _ g2⟩
   · rcases hback hl with ⟨j, ob', h1, h3, h4⟩ | ⟨h1, _, h3⟩
     · cases ob' <;> simp [bckO] at h4
       obtain ⟨rfl, rfl, rfl⟩ := h4
       obtain ⟨l0, h5, h6, h7⟩ := (hturn h1 hx.2.1).2.1 _ _ _ h3
       obtain ⟨g1, g2⟩ := hx.2.2.1 _ _ _ h5
       exact ⟨by omega, fun he => by rw [κD h1, h7 (by omega)]; exact g2 (by omega)⟩
     · rw [κO h1]; exact hx.2.2.1 _ _ _ h3
   · obtain ⟨g1, _, g2⟩ := km hx.2.1 hl
     rw [g1]; exact hx.2.2.2.1 _ _ _ _ g2
  case ptr id off =>
   refine ⟨hx.1, by omega, fun cs' hl => ?_⟩
   rcases hback hl with ⟨j, ob', h1, h3, h4⟩ | ⟨h1, _, h3⟩
   · cases ob' <;> simp [bckO] at h4
     obtain ⟨⟨cs0, h5⟩, h6⟩ := (hturn h1 hx.2.1).1 _ h3
     rw [κD h1, h6]; exact hx.2.2 _ h5
   · rw [κO h1]; exact hx.2.2 _ h3
  case eptr id n i off =>
   refine ⟨hx.1, by omega, fun e sz l hl => ?_, fun e e2 sz l hl => ?_⟩
   · rcases hback hl with ⟨j, ob', h1, h3, h4⟩ | ⟨h1, _, h3⟩
     · cases ob' <;> simp [bckO] at h4
       obtain ⟨rfl, rfl, rfl⟩ := h4
       obtain ⟨l0, h5, h6, h7⟩ := (hturn h1 hx.2.1).2.1 _ _ _ h3
       obtain ⟨g1, g2⟩ := hx.2.2.1 _ _ _ h5
       exact ⟨by omega, fun he hi => by rw [κD h1, h7 (by omega)]; exact g2 (by omega) hi⟩
     · rw [κO h1]; exact hx.2.2.1 _ _ _ h3
   · obtain ⟨g1, _, g2⟩ := km hx.2.1 hl
     rw [g1]; exact hx.2.2.2 _ _ _ _ g2
  case fseq sz l => exact hx
  case mref id i n =>
   refine ⟨hx.1, by omega, fun e e2 sz l hl => ?_⟩
   obtain ⟨_, g1, g2⟩ := km hx.2.1 hl
   rw [g1]; exact hx.2.2 _ _ _ _ g2
  case mptr id i n k off =>
   refine ⟨hx.1, by omega, fun e e2 sz l hl => ?_⟩
   obtain ⟨_, g1, g2⟩ := km hx.2.1 hl
   rw [g1]; exact hx.2.2 _ _ _ _ g2
 have V2 : ∀ v c, XX κ' H' v c → rep M' (XX κ2 h2) (bck D v) c := by
  intro v c hx
  have key : ∀ {j id : Nat} {ob : Ob}, D[j]? = some id → h2[id]? = some (some ob) → ∃ ob', H'[j]? = some (some ob') ∧ bckO D (some ob') = some ob := by
   intro j id ob hj hl
   rcases hback hl with ⟨j', ob', h1, h3, h4⟩ | ⟨h1, _, _⟩
   · have : j = j' := (List.getElem?_inj (List.getElem?_eq_some_iff.1 hj).1 hDn).1 (hj.trans h1.symm)
     subst this
     exact ⟨ob', h3, h4⟩
   · exact (h1 (List.mem_of_getElem? hj)).elim
  have ka : ∀ {j id : Nat} {e sz : Nat} {l : List V}, D[j]? = some id → h2[id]? = some (some (.arr e sz l)) → H'[j]? = some (some (.arr e sz l)) := by
   intro j id e sz l hj hl
   obtain ⟨ob', h3, h4⟩ := key hj hl
   cases ob' <;> simp [bckO] at h4
   obtain ⟨rfl, rfl, rfl⟩ := h4
   exact h3
  have km : ∀ {j id : Nat} {e e2 sz : Nat} {l : List (Option (List V))}, D[j]? = some id → h2[id]? = some (some (.mat e e2 sz l)) → H'[j]? = some (some (.mat e e2 sz l)) := by
   intro j id e e2 sz l hj hl
   obtain ⟨ob', h3, h4⟩ := key hj hl
   cases ob' <;> simp [bckO] at h4
   obtain ⟨rfl, rfl, rfl, rfl⟩ := h4
   exact h3
  have kp : ∀ {j id : Nat} {kt : KT} {l : List (V × V)}, D[j]? = some id → h2[id]? = some (some (.mp kt l)) → H'[j]? = some (some (.mp kt l)) := by
   intro j id kt l hj hl
   obtain ⟨ob', h3, h4⟩ := key hj hl
   cases ob' <;> simp [bckO] at h4
   obtain ⟨rfl, rfl⟩ := h4
   exact h3
  cases v <;> simp only [XX] at hx
  case ref j n =>
   simp only [bck]
   split
   · rename_i id hj
     simp only [rep, XX]
     rw [κD hj]
     exact ⟨hx.1, by rw [hblen]; exact hDlt hj, fun e sz l hl => hx.2.2.1 _ _ _ (ka hj hl), fun e e2 sz l hl => hx.2.2.2.1 _ _ _ _ (km hj hl), fun kt l hl => hx.2.2.2.2 _ _ (kp hj hl)⟩
   · exact hx.1
  case ptr j off =>
   simp only [bck]
   split
   · rename_i id hj
     simp only [rep, XX]
     refine ⟨hx.1, by rw [hblen]; exact hDlt hj, fun cs' hl => ?_⟩
     obtain ⟨ob', h3, h4⟩ := key hj hl
     cases ob' <;> simp [bckO] at h4
     rw [κD hj]; exact hx.2.2 _ h3
   · exact hx.1
  case eptr j n i off =>
   simp only [bck]
   split
   · rename_i id hj
     simp only [rep, XX]
     rw [κD hj]
     exact ⟨hx.1, by rw [hblen]; exact hDlt hj, fun e sz l hl => hx.2.2.1 _ _ _ (ka hj hl), fun e e2 sz l hl => hx.2.2.2 _ _ _ _ (km hj hl)⟩
   · exact hx.1
  case fseq sz l =>
   simp only [bck]
   exact qU (qQ hp'.fmS (X := NX) (fun _ _ h => h) (.seq sz l) c hx.2)
  case mref j i n =>
   simp only [bck]
   split
   · rename_i id hj
     simp only [rep, XX]
     rw [(κD3 hj).2.1]
     exact ⟨hx.1, by rw [hblen]; exact hDlt hj, fun e e2 sz l hl => hx.2.2 _ _ _ _ (km hj hl)⟩
   · exact hx.1
  case mptr j i n k off =>
   simp only [bck]
   split
   · rename_i id hj
     simp only [rep, XX]
     rw [(κD3 hj).2.1]
     exact ⟨hx.1, by rw [hblen]; exact hDlt hj, fun e e2 sz l hl => hx.2.2 _ _ _ _ (km hj hl)⟩
   · exact hx.1
 have hold : ∀ {id : Nat} {ob : Ob} {g : Nat}, id ∉ m → σ.h[id]? = some (some ob) → κ.bl id g → ¬ (lentB κc Hc w ps cs).own g := by
  rintro id ob g h1 h3 h4 (h5 | h5)
  · have h5 : w.heap.size ≤ g := h5
    have := (H.blk_lt h3 h4).2
    omega
  · obtain ⟨id', ob', g1, g2, g3⟩ := hlb g h5
    have := H.inj id id' ob ob' g h3 g2 h4 g3
    subst this
    exact h1 g1
 have hnewblk : ∀ {j : Nat} {ob : Ob} {g : Nat}, H'[j]? = some (some ob) → κ'.bl j g → (lentB κc Hc w ps cs).own g := fun {j ob g} h1 h3 => (obAt_blk (hp'.heap j ob h1) g h3).1
 have hfin : Rel N M0 B w0 κ2 M' ⟨σ.r, h2⟩ a w' :=
  { dfr := H.dfr, pin := H.pin, size := H.size
    regs := fun t v ht => by
     obtain ⟨g1, c, g2, g3⟩ := H.regs t v ht
     exact ⟨g1, c, g2, qQ hM V1 _ _ g3⟩
    heap := fun id ob hl => by
     rcases hback hl with ⟨j, ob', h1, h3, h4⟩ | ⟨h1, h3, h4⟩
     · have hob := hp'.heap j ob' h3
       cases ob' with
       | box cs' =>
         simp only [bckO, Option.some.injEq] at h4
         subst h4
         simp only [zU] at hob ⊢
         obtain ⟨b, arr, T, e1, e2, e3, e4, e5⟩ := hob
         rw [κD h1, (κD3 h1).2.2]
         exact ⟨b, arr, T, e1, hown b e2, e3, bcks_rep V2 e4, e5⟩
       | arr e sz l =>
         simp only [bckO, Option.some.injEq] at h4
         subst h4
         simp only [zU] at hob ⊢
         rw [κD h1, (κD3 h1).2.2]
         obtain ⟨e1, e2, xs, e3, e4, e5, e6⟩ := hob
         exact ⟨e1, e2, xs, e3, e4, fun g hg => hown g (e5 g hg), e6⟩
       | mat e e2 sz l =>
         simp only [bckO, Option.some.injEq] at h4
         subst h4
         simp only [zU] at hob ⊢
         rw [κD h1, (κD3 h1).2.1, (κD3 h1).2.2]
         obtain ⟨e1, e2, e3, e4, e5, e6, e7, e8⟩ := hob
         exact ⟨e1, e2, e3, e4, e5, e6, fun g hg => hown g (e7 g hg), e8⟩
       | mp kt l =>
         simp only [bckO, Option.some.injEq] at h4
         subst h4
         simp only [zU] at hob ⊢
         rw [κD h1, (κD3 h1).2.2]
         obtain ⟨b, es, clock, e1, e2, e3⟩ := hob
         exact ⟨b, es, clock, e1, hown b e2, e3⟩
     · refine obAt_mono hM V1 (κO3 h1) (fun g hg => ?_) (H.heap id ob h4)
       refine hu.block g ?_ (fun hs => hold h3 h4 hg (.inr hs))
       exact (H.blk_lt h4 hg).2
    inj := fun i j oi oj g hi hj gi gj => by
     rcases hback hi with ⟨i', oi', h1, h3, _⟩ | ⟨h1, h3, h4⟩ <;> rcases hback hj with ⟨j', oj', g1, g3, _⟩ | ⟨g1, g3, g4⟩
     · rw [(κD3 h1).2.2] at gi; rw [(κD3 g1).2.2] at gj
       have := hp'.inj i' j' oi' oj' g h3 g3 gi gj
       subst this
       rw [h1] at g1; cases g1; rfl
     · rw [(κD3 h1).2.2] at gi; rw [(κO3 g1).2.2] at gj
       exact (hold g3 g4 gj (hnewblk h3 gi)).elim
     · rw [(κO3 h1).2.2] at gi; rw [(κD3 g1).2.2] at gj
       exact (hold h3 h4 gi (hnewblk g3 gj)).elim
     · rw [(κO3 h1).2.2] at gi; rw [(κO3 g1).2.2] at gj
       exact H.inj i j oi oj g h4 g4 gi gj
    snd := hp'.snd
    sep := fun p v hp id ob hl => by
     rcases hback hl with ⟨j, ob', h1, h3, _⟩ | ⟨h1, h3, h4⟩
     · rw [(κD3 h1).2.2]; exact hp'.sep p v hp j ob' h3
     · rw [(κO3 h1).2.2]
       intro hg
       rcases hnew p v hp with h | h
       · exact H.sep p v h id ob h4 hg
       · exact hold h3 h4 hg h
    sub := ⟨fun p v h => hM p v (H.sub.sub p v h), fun p v h => hM p v (H.sub.fmS p v h), H.sub.fmN, H.sub.fbn, H.sub.gl⟩
    new := fun p v h => by
     rcases hnew p v h with h | h
     · exact H.new p v h
     · exact .inr (hown _ h)
    base := H.base
    blw := H.blw.trans ⟨hu.os, hu.tape, hu.output, hu.size, fun k hk hs => by
     have hkw : k < w.heap.size := by have := H.blw.size; rw [← H.base] at this; omega
     refine hu.block k hkw (fun hb => ?_)
     rcases hown k (.inr hb) with h | h
     · omega
     · exact hs h, hu.siz⟩ }
 have := hk (rep_ok hr) (heap_ok hp'.heap)
 exact hK _ _ _ _ _ this (hfin.put' hd (bck_rep V2 hr))

theorem sameLen_rep {M : Mem} {sz : Nat} : ∀ {us : List V} {cs : List Value}, jD sz us = true → qA M NX us cs →
 ∀ (i : Nat) (c : Value), cs[i]? = some c → c.cells.size = sz ∧ (∀ u ∈ c.cells.toList, qN u)
 | [], cs, _, h, i, c, hi => by simp only [qA] at h; subst h; simp at hi
 | v :: vs, cs, hs, h, i, c, hi => by
   simp only [qA] at h
   obtain ⟨c0, cs', rfl, h2, h3⟩ := h
   simp only [jD, Bool.and_eq_true, decide_eq_true_eq] at hs
   cases i with
   | zero =>
     simp at hi
     subst hi
     have := rep_cellsC h2 NX_cell (nt_spec hs.1.2)
     refine ⟨?_, this.2⟩
     have h4 := qZ this.1
     simp at h4; omega
   | succ i => simp at hi; exact sameLen_rep hs.2 h3 i c hi

def rowOf (cs : List Value) : List Value := (cs.map fun c => c.cells.toList).flatten
theorem rowOf_rep {M : Mem} {sz : Nat} : ∀ {us : List V} {cs : List Value}, jD sz us = true → qA M NX us cs → qJ M sz us (rowOf cs)
 | [], cs, _, h => by simp only [qA] at h; subst h; simp [qJ, rowOf]
 | v :: vs, cs, hs, h => by
   simp only [qA] at h
   obtain ⟨c0, cs', rfl, h2, h3⟩ := h
   simp only [jD, Bool.and_eq_true, decide_eq_true_eq] at hs
   have hk := rep_cellsC h2 NX_cell (nt_spec hs.1.2)
   have h4 := qZ hk.1
   simp only [qJ]
   exact ⟨c0, rowOf cs', by simp [rowOf], h2, by simp at h4; omega, hk.2, rowOf_rep hs.2 h3⟩

theorem run_storeVar {t : TypeId} {n : Nat} (hs : szOf P t = some n) {b off : Nat} {T : TypeId} {cur : Array Value} (hg : w.heap[b]? = some (.cells cur T (0, 0))) {c : Value} (hc : c.cells.size = n) (h1 : ∀ u ∈ c.cells.toList, qN u) (hle : off + n ≤ cur.size) :
 (Instr.storeAt t (.pointer (some ⟨b, off, none⟩)) c).run P w = .ok () (w.setRow b (cur.toList.take off ++ c.cells.toList ++ cur.toList.drop (off + c.cells.toList.length)).toArray) := by
 have h := run_storeCells_at P b off T c.cells.toList 0 cur w hg (by simp; omega) h1
 simp only [Nat.add_zero] at h
 simp [Instr.storeAt, Instr.sureAddr, storeVar, zM hs, hc, h]

theorem repRow_set {M : Mem} {sz : Nat} : ∀ {l : List V} {xs : List Value} {i : Nat} {v' : V} {y' : Value}, qJ M sz l xs → i < l.length → rep M NX v' y' → y'.cells.size = sz → (∀ u ∈ y'.cells.toList, qN u) →
 qJ M sz (l.set i v') (xs.take (i * sz) ++ y'.cells.toList ++ xs.drop (i * sz + sz))
 | [], xs, i, v', y', h, hi, _, _, _ => by simp at hi
 | v :: vs, xs, 0, v', y', h, hi, h1, h2, h3 => by
   simp only [qJ] at h
   obtain ⟨y, rest, rfl, g1, g2, g3, g4⟩ := h
   simp only [List.set_cons_zero, qJ]
   refine ⟨y', rest, ?_, h1, h2, h3, g4⟩
   simp [g2, List.drop_append]
 | v :: vs, xs, i + 1, v', y', h, hi, h1, h2, h3 => by
   simp only [qJ] at h
   obtain ⟨y, rest, rfl, g1, g2, g3, g4⟩ := h
   simp only [List.set_cons_succ, qJ]
   refine ⟨y, _, ?_, g1, g2, g3, repRow_set g4 (by simpa using hi) h1 h2 h3⟩
   have e1 : (i + 1) * sz = sz + i * sz := by rw [Nat.add_mul]; omega
   have hy : y.cells.toList.length = sz := by simpa using g2
   rw [e1, List.take_append, List.drop_append, hy]
   rw [List.take_of_length_le (by omega), List.drop_eq_nil_of_le (by omega)]
   have e2 : sz + i * sz - sz = i * sz := by omega
   have e3 : sz + i * sz + sz - sz = i * sz + sz := by omega
   rw [e2, e3]
   simp

theorem repRow_append {M : Mem} {sz : Nat} : ∀ {l m : List V} {xs ys : List Value}, qJ M sz l xs → qJ M sz m ys → qJ M sz (l ++ m) (xs ++ ys)
 | [], m, xs, ys, h, h' => by simp only [qJ] at h; subst h; simpa using h'
 | v :: vs, m, xs, ys, h, h' => by
   simp only [qJ] at h
   obtain ⟨y, rest, rfl, g1, g2, g3, g4⟩ := h
   simp only [List.cons_append, qJ]
   exact ⟨y, rest ++ ys, by simp, g1, g2, g3, repRow_append g4 h'⟩

theorem repMem_row {M : Mem} {sz : Nat} : ∀ {l : List V} {b off : Nat}, jF M sz l b off → ∃ xs, qJ M sz l xs ∧ ∀ j u, xs[j]? = some u → M ⟨b, off + j, none⟩ = some u
 | [], b, off, _ => ⟨[], rfl, by simp⟩
 | v :: vs, b, off, h => by
   simp only [jF] at h
   obtain ⟨⟨y, h1, h2, h3, h4⟩, h5⟩ := h
   obtain ⟨xs, g1, g2⟩ := repMem_row h5
   refine ⟨y.cells.toList ++ xs, by simp only [qJ]; exact ⟨y, xs, rfl, h1, h2, h3, g1⟩, fun j u hj => ?_⟩
   by_cases hlt : j < sz
   · rw [List.getElem?_append_left (by simp; omega)] at hj
     rw [h4 j hlt]; simpa using hj
   · rw [List.getElem?_append_right (by simp; omega)] at hj
     have := g2 _ u hj
     rw [← this]
     congr 2
     simp [h2]; omega

theorem repRow_cells {M : Mem} {sz : Nat} : ∀ {l : List V} {xs : List Value}, qJ M sz l xs → ∀ u ∈ xs, qN u
 | [], xs, h, u, hu => by simp only [qJ] at h; subst h; cases hu
 | v :: vs, xs, h, u, hu => by
   simp only [qJ] at h
   obtain ⟨y, rest, rfl, g1, g2, g3, g4⟩ := h
   rcases List.mem_append.1 hu with hu | hu
   · exact g3 u hu
   · exact repRow_cells g4 u hu

theorem run_append_zero {t ty e : TypeId} {i : TypeInfo} (ht : P.underlying t = some (.slice e)) (hi : P.info? e = some i) (base ad : Option Addr) (n cap c : Nat) (hn : n ≤ cap) (w : World) :
 (Builtin.append_ #[t, t] ty #[.slice base n cap, .slice ad 0 c]).run P w = .ok (.slice base n cap) w := by
 cases base <;> cases ad <;> simp [Builtin.append_, run_underlying ht, sizeOf, typeInfo, hi, Builtin.lenOf, hn, Builtin.firstCells, loadCells, loadCellsFrom, storeCells]

theorem run_append_own' {t ty e : TypeId} {i : TypeInfo} {z : Value} {size bytes base : Nat} (ht : P.underlying t = some (.slice e)) (hi : P.info? e = some i) (hz : i.zero = some z)
 (hsize : i.size = size) (hby : i.bytes = bytes) (hzs : z.cells.size = size) (hsz : 0 < size)
 {v : Value} {n : Nat} {xs : List Value} (hown : w.ownsRow base e size v n xs)
 (ad : Addr) (m c : Nat) (news : List Value) (hl : news.length = m * size) (hnews : ∀ j u, news[j]? = some u → w.cell? (ad.add j) = some u) (h1 : ∀ u ∈ news, u.oneCell' = true)
 (hm : 0 < m) (hbytes : (n + m) * bytes ≤ 140737488355328) (h63 : n + m ≤ maxLen) (hbase : base ≤ w.heap.size) :
 ∃ v' w', (Builtin.append_ #[t, t] ty #[v, .slice (some ad) m c]).run P w = .ok v' w' ∧ w'.ownsRow base e size v' (n + m) (xs ++ news) ∧ w.grownBy w' v.ownBlock ∧ (∀ g, blk v' = some g → blk v = some g ∨ w.heap.size ≤ g) ∧ Siz w w' := by
 rcases hown.2 with ⟨rfl, rfl⟩ | ⟨g, cap, cur, rfl, hbg, hg, hnc, hcm, hcs, htake⟩
 · obtain ⟨v', w', hr, h2, h3, h4⟩ := run_append_own (P := P) w w.heap.size t ty e i z size bytes ht hi hz hsize hby hzs hsz (.slice none 0 0) 0 [] (World.ownsRow_nil w _ e size) ad m c news hl hnews h1 h63 hbytes (Nat.le_refl _)
   have hx : xs = [] := List.eq_nil_of_length_eq_zero (by simpa using hown.1)
   subst hx
   refine ⟨v', w', hr, ⟨h2.1, ?_⟩, h3, fun g hg => ?_, fun k cur T z hc => ⟨cur, T, z, by rw [h3.block k (Array.getElem?_eq_some_iff.1 hc).1 (by simp [Value.ownBlock])]; exact hc, rfl⟩⟩
   · rcases h2.2 with h5 | ⟨g, cap, cur, h5, h6, h7⟩
     · exact .inl h5
     · exact .inr ⟨g, cap, cur, h5, by omega, h7⟩
   · rcases h2.2 with h5 | ⟨g', cap, cur, h5, h6, h7⟩
     · rw [h5.1] at hg; cases hg
     · rw [h5] at hg; cases hg; exact .inr h6
 · by_cases hroom : n + m ≤ cap
   · subst hsize
     have hfit : n * i.size + news.length ≤ cur.size := by rw [hl, hcs, ← Nat.add_mul]; exact Nat.mul_le_mul_right _ hroom
     have hr := run_append_room (P := P) w t ty e i ht hi g n cap cur hg ad m c news hl hnews h1 hroom hfit
     obtain ⟨v', w', hr', h2, h3, h4⟩ := run_append_own (P := P) w base t ty e i z i.size bytes ht hi hz rfl hby hzs hsz _ n xs hown ad m c news hl hnews h1 h63 hbytes hbase
     rw [hr] at hr'
     injection hr' with e1 e2
     subst e1 e2
     refine ⟨_, _, hr, h2, h3, fun g' hg' => .inl hg', fun k cur1 T z hc => ?_⟩
     by_cases hk : k = g
     · subst hk
       refine ⟨_, T, z, setRow_heap w k cur1 _ T z hc, ?_⟩
       rw [hg] at hc
       cases hc
       simp only [List.size_toArray, List.length_append, List.length_take, List.length_drop, Array.length_toList]
       omega
     · exact ⟨cur1, T, z, by rw [setRow_other w g k _ hk]; exact hc, rfl⟩
   · obtain ⟨v', w', hr', h2, h3, h4⟩ := run_append_own (P := P) w base t ty e i z size bytes ht hi hz hsize hby hzs hsz _ n xs hown ad m c news hl hnews h1 h63 hbytes hbase
     subst hsize
     have holds : ∀ j u, xs[j]? = some u → w.cell? ((⟨g, 0, none⟩ : Addr).add j) = some u := hown.cells (g := g) rfl
     have hr := run_append_grow (P := P) w t ty e i z ht hi hz ⟨g, 0, none⟩ n cap xs hown.1 holds ad m c news hl hnews (by omega) (by simp only [maxLen] at h63; omega) (growslice_fits (by omega) (by rw [hby]; exact hbytes))
     rw [hr] at hr'
     injection hr' with e1 e2
     subst e1 e2
     exact ⟨_, _, hr, h2, h3, fun g' hg' => by cases hg'; exact .inr (Nat.le_refl _), fun k cur1 T z hc => ⟨cur1, T, z, by rw [Below.heap_alloc w.drew _ k (Array.getElem?_eq_some_iff.1 hc).1]; exact hc, rfl⟩⟩

theorem fill_row (size : Nat) : ∀ (cs : List Value) (k : Nat) (ds : Array Value), (∀ c ∈ cs, c.cells.size = size) → (k + cs.length) * size ≤ ds.size →
 Instr.fill (fun i => some (i * size, size)) ds ((List.range' k cs.length).zip cs) = some (ds.toList.take (k * size) ++ rowOf cs ++ ds.toList.drop ((k + cs.length) * size)).toArray
 | [], k, ds, _, _ => by simp [Instr.fill, rowOf]
 | c :: cs, k, ds, hc, hle => by
   have h0 := hc c (by simp)
   simp only [List.length_cons] at hle ⊢
   have e1 : (k + (cs.length + 1)) * size = k * size + size + cs.length * size := by simp only [Nat.add_mul, Nat.one_mul]; omega
   rw [List.range'_succ, List.zip_cons_cons]
   simp only [Instr.fill]
   have hno : ¬ (c.cells.size ≠ size || k * size + c.cells.size > ds.size) = true := by simp; omega
   rw [if_neg hno]
   have hf := foldl_splice' (k * size) c.cells ds (by omega)
   rw [hf]
   have hsz : c.cells.toList.length = size := by simpa using h0
   rw [fill_row size cs (k + 1) _ (fun c hc' => hc c (by simp [hc'])) (by simp only [List.size_toArray, List.length_append, List.length_take, List.length_drop, Array.length_toList]; rw [show (k + 1 + cs.length) * size = k * size + size + cs.length * size by simp only [Nat.add_mul, Nat.one_mul]]; omega)]
   congr 2
   have e2 : (k + 1) * size = k * size + size := by simp [Nat.add_mul]
   have e3 : (k + 1 + cs.length) * size = k * size + size + cs.length * size := by simp only [Nat.add_mul, Nat.one_mul]
   rw [e1, e2, e3]
   simp only [rowOf, List.map_cons, List.flatten_cons]
   have l1 : (ds.toList.take (k * size)).length = k * size := by simp; omega
   have t1 : List.take (k * size + size) (ds.toList.take (k * size) ++ c.cells.toList ++ ds.toList.drop (k * size + c.cells.toList.length)) = ds.toList.take (k * size) ++ c.cells.toList := by
    rw [List.take_append_of_le_length (by simp only [List.length_append, l1, hsz]; omega)]
    exact List.take_of_length_le (by simp only [List.length_append, l1, hsz]; omega)
   have t2 : List.drop (k * size + size + cs.length * size) (ds.toList.take (k * size) ++ c.cells.toList ++ ds.toList.drop (k * size + c.cells.toList.length)) = ds.toList.drop (k * size + size + cs.length * size) := by
    rw [List.drop_append, List.drop_eq_nil_of_le (by simp only [List.length_append, l1, hsz]; omega), List.nil_append, List.drop_drop]
    congr 1
    simp only [List.length_append, l1, hsz]; omega
   rw [t1, t2]
   simp

theorem madeCells_flat (z : Array Value) (m : Nat) (hz : 0 < z.size) : (madeCells z (m * z.size)).toList = (List.replicate m z.toList).flatten := by
 unfold madeCells
 rw [Array.toList_map, Array.toList_range]
 induction m with
 | zero => simp
 | succ m ih =>
   rw [Nat.add_mul, Nat.one_mul, List.range_add, List.map_append, ih, List.replicate_succ', List.flatten_append]
   congr 1
   simp only [List.flatten_cons, List.flatten_nil, List.append_nil, List.map_map]
   apply List.ext_getElem?
   intro j
   by_cases hj : j < z.size
   · simp [List.getElem?_range hj, hj, Nat.mul_add_mod', Nat.mod_eq_of_lt hj]
   · rw [List.getElem?_eq_none (by simp; omega), List.getElem?_eq_none (by simp; omega)]
theorem repRow_replicate {M : Mem} {sz : Nat} {v : V} {y : Value} (h : rep M NX v y) (hs : y.cells.size = sz) (hc : ∀ u ∈ y.cells.toList, qN u) : ∀ m, qJ M sz (List.replicate m v) (List.replicate m y.cells.toList).flatten
 | 0 => by simp [qJ]
 | m + 1 => by
   simp only [List.replicate_succ, qJ, List.flatten_cons]
   exact ⟨y, _, rfl, h, hs, hc, repRow_replicate h hs hc m⟩

end
end Go.Abs
