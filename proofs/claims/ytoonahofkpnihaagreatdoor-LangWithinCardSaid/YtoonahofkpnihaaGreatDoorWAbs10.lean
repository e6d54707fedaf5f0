/-
  Operations in any order: what an operation looks at and what it turns, and that two that are apart may change places. No condition.
  Regions whose order is drawn, and whole code: what 'W' says of the qK holds of the code. No condition.
-/
import Derived.Test.YtoonahofkpnihaaGreatDoorWAbs8
import Derived.Deep.LoopGhost
import Derived.ScopeJumps
set_option linter.unusedVariables false
set_option linter.unusedSimpArgs false
set_option linter.unusedSectionVars false
set_option maxHeartbeats 4000000
set_option maxRecDepth 100000
section
namespace Go.Abs
def AO.rd : AO → List Nat
 | .t n => [n]
 | .v _ => []
def rdo : Option AO → List Nat
 | none => []
 | some x => x.rd
def rdl : List AO → List Nat
 | [] => []
 | x :: xs => x.rd ++ rdl xs
def rdp : List (Nat × Nat × AO) → List Nat
 | [] => []
 | (_, _, x) :: ps => x.rd ++ rdp ps
def Act'.rds : Act' → List Nat
 | .mov x => x.rd
 | .pick c a b => c.rd ++ (a.rd ++ b.rd)
 | .fld x _ _ _ => x.rd
 | .fa x _ => x.rd
 | .ia x i _ => x.rd ++ i.rd
 | .iaa x i _ _ => x.rd ++ i.rd
 | .ld x _ _ => x.rd
 | .ixs x i => x.rd ++ i.rd
 | .ixa x i _ _ _ => x.rd ++ i.rd
 | .bin _ x y => x.rd ++ y.rd
 | .un _ x => x.rd
 | .cii _ x => x.rd
 | .s2b x => x.rd
 | .b2s x => x.rd
 | .sls x lo hi => x.rd ++ (rdo lo ++ rdo hi)
 | .slq x lo hi _ => x.rd ++ (rdo lo ++ rdo hi)
 | .lens x => x.rd
 | .lenq x => x.rd
 | .beq _ x y => x.rd ++ y.rd
 | .ext x _ => x.rd
 | .bld _ ps => rdp ps
 | .lit _ _ xs => rdl xs
 | .ltr _ _ xs => rdl xs
 | .mkf _ a b => rdl a ++ rdl b
 | .nlc x => x.rd
 | .alc _ => []
 | .box x => x.rd
 | .st _ a x => a.rd ++ x.rd
 | .app x y _ _ _ => x.rd ++ y.rd
 | .mks _ _ _ _ n => n.rd
 | .mkm _ _ _ _ n => n.rd
 | .mk0 _ _ _ n => n.rd
 | .call _ xs => rdl xs
 | .callv g xs => g.rd ++ rdl xs
 | .callH _ xs => rdl xs
 | .mki _ x => x.rd
 | .aeq _ _ x y => x.rd ++ y.rd
 | .mkp _ => []
 | .lkp _ _ _ x k => x.rd ++ k.rd
 | .mup _ x k v => x.rd ++ (k.rd ++ v.rd)
 | .inv _ x xs => x.rd ++ rdl xs
 | .mm _ x y => x.rd ++ y.rd
 | .trc x hi _ => x.rd ++ hi.rd
 | .nlq _ _ x => x.rd
 | .bad => []
def appKind : AO → Nat
 | .v (.nil _) => 2
 | _ => 3
theorem appKind_ge (x : AO) : 2 ≤ appKind x := by unfold appKind; split <;> decide
def Act'.kind : Act' → Nat
 | .fa _ _ => 1
 | .ia _ _ _ => 1
 | .iaa _ _ _ _ => 1
 | .ld _ _ _ => 1
 | .b2s _ => 1
 | .lenq _ => 1
 | .nlc _ => 1
 | .call _ _ => 1
 | .callv _ _ => 1
 | .alc _ => 2
 | .box _ => 2
 | .mks _ _ _ _ _ => 2
 | .mkm _ _ _ _ _ => 2
 | .mk0 _ _ _ _ => 2
 | .st _ _ _ => 3
 | .callH _ _ => 3
 | .lkp _ _ _ _ _ => 1
 | .mkp _ => 2
 | .mup _ _ _ _ => 3
 | .inv _ _ _ => 3
 | .trc _ _ _ => 3
 | .ltr _ _ _ => 3
 | .nlq _ _ _ => 1
 | .app x _ _ _ _ => appKind x
 | _ => 0
def AOp.rds (o : AOp) : List Nat := o.a.rds ++ (match o.g with
 | none => []
 | some (t, _) => [t])

def Agr (σ σ' : St) (rs : List Nat) : Prop := ∀ t, t ∈ rs → lk σ'.r t = lk σ.r t
def Ext (σ σ' : St) : Prop := ∀ (id : Nat) (ob : Ob), σ.h[id]? = some (some ob) → σ'.h[id]? = some (some ob)

section
variable {σ σ' : St}
theorem Agr.sub {rs ss : List Nat} (h : Agr σ σ' rs) (hs : ∀ t, t ∈ ss → t ∈ rs) : Agr σ σ' ss := fun t ht => h t (hs t ht)
theorem Agr.l {rs ss : List Nat} (h : Agr σ σ' (rs ++ ss)) : Agr σ σ' rs := h.sub fun t ht => List.mem_append_left _ ht
theorem Agr.r {rs ss : List Nat} (h : Agr σ σ' (rs ++ ss)) : Agr σ σ' ss := h.sub fun t ht => List.mem_append_right _ ht
theorem Agr.ev {x : AO} (h : Agr σ σ' x.rd) : σ'.ev x = σ.ev x := by
 cases x with
 | t n => exact h n (by simp [AO.rd])
 | v x => rfl
theorem Agr.evo {d : V} {x : Option AO} (h : Agr σ σ' (rdo x)) : σ'.evo d x = σ.evo d x := by
 cases x with
 | none => rfl
 | some x => exact Agr.ev (x := x) h
theorem Agr.evs : ∀ {xs : List AO}, Agr σ σ' (rdl xs) → σ'.evs xs = σ.evs xs
 | [], _ => rfl
 | x :: xs, h => by simp only [St.evs, Agr.ev (Agr.l h), Agr.evs (Agr.r h)]
theorem Agr.bldV : ∀ {ps : List (Nat × Nat × AO)} {cs : List V}, Agr σ σ' (rdp ps) → bldV σ' cs ps = bldV σ cs ps
 | [], _, _ => rfl
 | (off, n, x) :: ps, cs, h => by
   simp only [Abs.bldV, Agr.ev (Agr.l h)]
   cases σ.ev x with
   | none => rfl
   | some v =>
     simp only
     split
     · cases splice cs off (cl v) with
       | none => rfl
       | some cs' => exact Agr.bldV (Agr.r h)
     · rfl

theorem Ext.refl : Ext σ σ := fun _ _ h => h
theorem Ext.box (h : Ext σ σ') {id cs} (hb : σ.box? id = some cs) : σ'.box? id = some cs := by
 simp only [St.box?, h _ _ (box?_eq hb)]
theorem Ext.arr (h : Ext σ σ') {id x} (hb : σ.arr? id = some x) : σ'.arr? id = some x := by
 simp only [St.arr?, h _ _ (arr?_eq hb)]
theorem Ext.mat (h : Ext σ σ') {id x} (hb : σ.rws? id = some x) : σ'.rws? id = some x ∧ σ'.arr? id = none := by
 constructor
 · simp only [St.rws?, h _ _ (rws?_eq hb)]
 · simp only [St.arr?, h _ _ (rws?_eq hb)]
theorem Ext.mp (h : Ext σ σ') {id x} (hb : σ.mp? id = some x) : σ'.mp? id = some x := by
 simp only [St.mp?, h _ _ (mp?_eq hb)]
theorem Ext.live (h : Ext σ σ') {v : V} (hv : σ.live v = true) : σ'.live v = true := by
 cases v <;> simp only [St.live] at hv ⊢ <;> try assumption
 case ptr id off =>
  obtain ⟨cs, hc⟩ := Option.isSome_iff_exists.1 hv
  rw [h.box hc]; rfl
 case eptr id n i off =>
  split at hv
  · rename_i e sz l hl
    rw [h.arr hl]; exact hv
  · cases hv
 case mptr id i n k off =>
  split at hv
  · rename_i e e2 sz l hl
    rw [(h.mat hl).1]; exact hv
  · cases hv
 case fn f a b => cases f <;> exact hv
theorem Ext.fetch (h : Ext σ σ') {p : V} {n : Nat} {us : List V} (hv : σ.fetch p n = some us) : σ'.fetch p n = some us := by
 cases p <;> simp only [St.fetch] at hv ⊢ <;> try assumption
 case ptr id off =>
  split at hv
  · rename_i cs hc; rw [h.box hc]; exact hv
  · cases hv
 case eptr id m i off =>
  split at hv
  · rename_i e sz l hl; rw [h.arr hl]; exact hv
  · split at hv
    · rename_i e e2 sz l hl; simp only [(h.mat hl).1, (h.mat hl).2]; exact hv
    · cases hv
 case mptr id i n k off =>
  split at hv
  · rename_i e e2 sz l hl
    rw [(h.mat hl).1]; exact hv
  · cases hv
theorem Ext.pur1 (h : Ext σ σ') {id n : Nat} {u : V} (hv : pur1 σ.h id n = some u) : pur1 σ'.h id n = some u := by
 unfold Abs.pur1 at hv ⊢
 split at hv
 · rename_i hb; rw [h _ _ hb]; exact hv
 · rename_i hb; rw [h _ _ hb]; exact hv
 · cases hv
theorem Ext.pur2 (h : Ext σ σ') {id i n : Nat} {u : V} (hv : pur2 σ.h id i n = some u) : pur2 σ'.h id i n = some u := by
 unfold Abs.pur2 at hv ⊢
 split at hv
 · rename_i hb; rw [h _ _ hb]; exact hv
 · cases hv
mutual
theorem Ext.pur (h : Ext σ σ') : ∀ {v u : V}, pur σ.h v = some u → pur σ'.h v = some u
 | .nil sz, _, hv => by simp only [Abs.pur] at hv ⊢; exact hv
 | .ref id n, _, hv => by simp only [Abs.pur] at hv ⊢; exact h.pur1 hv
 | .mref id i n, _, hv => by simp only [Abs.pur] at hv ⊢; exact h.pur2 hv
 | .fseq _ _, _, hv => by simp only [Abs.pur] at hv ⊢; exact hv
 | .mptr _ _ _ _ _, _, hv => by simp only [Abs.pur] at hv; cases hv
 | .strct cs, _, hv => by
   simp only [Abs.pur, Option.map_eq_some_iff] at hv ⊢
   obtain ⟨us, h1, h2⟩ := hv
   exact ⟨us, Ext.purs h h1, h2⟩
 | .tup cs, _, hv => by
   simp only [Abs.pur, Option.map_eq_some_iff] at hv ⊢
   obtain ⟨us, h1, h2⟩ := hv
   exact ⟨us, Ext.purs h h1, h2⟩
 | .fn f a b, _, hv => by
   simp only [Abs.pur] at hv ⊢
   split at hv
   · rename_i a' b' h1 h2; rw [Ext.purs h h1, Ext.purs h h2]; exact hv
   · cases hv
 | .iface t x, _, hv => by
   simp only [Abs.pur, Option.map_eq_some_iff] at hv ⊢
   obtain ⟨us, h1, h2⟩ := hv
   exact ⟨us, Ext.pur h h1, h2⟩
 | .ptr _ _, _, hv => by simp only [Abs.pur] at hv; cases hv
 | .eptr _ _ _ _, _, hv => by simp only [Abs.pur] at hv; cases hv
 | .int _ _, _, hv => by simp only [Abs.pur] at hv ⊢; exact hv
 | .bool _, _, hv => by simp only [Abs.pur] at hv ⊢; exact hv
 | .str _, _, hv => by simp only [Abs.pur] at hv ⊢; exact hv
 | .seq _ _, _, hv => by simp only [Abs.pur] at hv ⊢; exact hv
 | .sptr _ _, _, hv => by simp only [Abs.pur] at hv ⊢; exact hv
 | .nilptr, _, hv => by simp only [Abs.pur] at hv ⊢; exact hv
 | .nilfn, _, hv => by simp only [Abs.pur] at hv ⊢; exact hv
 | .niliface, _, hv => by simp only [Abs.pur] at hv ⊢; exact hv
 | .junk, _, hv => by simp only [Abs.pur] at hv ⊢; exact hv
theorem Ext.purs (h : Ext σ σ') : ∀ {v u : List V}, purs σ.h v = some u → purs σ'.h v = some u
 | [], _, hv => by simp only [Abs.purs] at hv ⊢; exact hv
 | v :: vs, _, hv => by
   simp only [Abs.purs] at hv ⊢
   split at hv
   · rename_i a' b' h1 h2; rw [Ext.pur h h1, Ext.purs h h2]; exact hv
   · cases hv
end

theorem val_eq0 {a : Act'} (hk : a.kind = 0) (h : Agr σ σ' a.rds) : σ'.val a = σ.val a := by
 cases a <;> simp only [Act'.kind] at hk <;> first | exact absurd hk (by decide) | skip
 all_goals simp only [Act'.rds] at h
 all_goals simp only [St.val]
 case mov x => exact h.ev
 case pick c a b => rw [h.l.ev, h.r.l.ev, h.r.r.ev]
 case fld => rw [h.ev]
 case ixs => rw [h.l.ev, h.r.ev]
 case ixa => rw [h.l.ev, h.r.ev]
 case bin => rw [h.l.ev, h.r.ev]
 case un => rw [h.ev]
 case cii => rw [h.ev]
 case sls => simp only [h.l.ev, h.r.l.evo, h.r.r.evo]
 case slq => simp only [h.l.ev, h.r.l.evo, h.r.r.evo]
 case lens => rw [h.ev]
 case beq => rw [h.l.ev, h.r.ev]
 case ext => rw [h.ev]
 case bld => rw [h.bldV]
 case mkf => rw [h.l.evs, h.r.evs]
 case mki => rw [h.ev]
 case aeq => rw [h.l.ev, h.r.ev]
 case mm => rw [h.l.ev, h.r.ev]

theorem Ext.isNil (h : Ext σ σ') {k : Nat} {v : V} {b : Bool} (hb : St.isNil k (σ.live v) v = some b) : St.isNil k (σ'.live v) v = some b := by
 cases hl : σ.live v with
 | true => rw [h.live hl]; rw [hl] at hb; exact hb
 | false =>
   rw [hl] at hb
   cases v <;> simp [St.isNil] at hb ⊢ <;> exact hb
theorem val_mono1 {a : Act'} (hk : a.kind = 1) (h : Agr σ σ' a.rds) (hx : Ext σ σ') {v : V} (hv : σ.val a = some v) : σ'.val a = some v := by
 cases a <;> simp only [Act'.kind] at hk <;> first | exact absurd hk (by decide) | skip
 all_goals simp only [Act'.rds] at h
 all_goals simp only [St.val] at hv ⊢
 case call => cases hv
 case callv => cases hv
 case app => cases hv
 case fa x off =>
  rw [h.ev]
  split at hv
  · rename_i u hu
    split at hv
    · rename_i hl; rw [if_pos (hx.live hl)]; exact hv
    · cases hv
  · cases hv
 case ia x i sz =>
  rw [h.l.ev, h.r.ev]
  split at hv
  · exact hv
  · exact hv
  · rename_i id m k n h1 h2
    split at hv
    · rename_i e sz' l hl; rw [hx.arr hl]; exact hv
    · split at hv
      · rename_i e e2 sz l hl; simp only [(hx.mat hl).1, (hx.mat hl).2]; exact hv
      · cases hv
  · split at hv
    · rename_i e e2 sz l hl; rw [(hx.mat hl).1]; exact hv
    · cases hv
  · cases hv
 case iaa x i len sz =>
  rw [h.l.ev, h.r.ev]
  split at hv
  · rename_i u k n h1 h2
    split at hv
    · rename_i hl; rw [if_pos ⟨hx.live hl.1, hl.2⟩]; exact hv
    · cases hv
  · cases hv
 case ld x n agg =>
  rw [h.ev]
  split at hv
  · rename_i p hp
    split at hv
    · rename_i us hus; simp only [hx.fetch hus]; exact hv
    · cases hv
  · cases hv
 case b2s x =>
  rw [h.ev]
  split at hv
  · rename_i u hu
    split at hv
    · rename_i l hl; simp only [hx.pur hl]; exact hv
    · cases hv
  · cases hv
 case lenq x =>
  rw [h.ev]
  split at hv
  · exact hv
  · exact hv
  · exact hv
  · rename_i id n hu
    split at hv
    · rename_i e sz l hl; simp only [hx.arr hl]; exact hv
    · split at hv
      · rename_i e e2 sz l hl; simp only [(hx.mat hl).1, (hx.mat hl).2]; exact hv
      · cases hv
  · split at hv
    · rename_i e e2 sz l hl; simp only [(hx.mat hl).1]; exact hv
    · cases hv
  · cases hv
 case nlc x =>
  rw [h.ev]
  split at hv
  · rename_i u hu
    split at hv
    · rename_i hl; rw [if_pos (hx.live hl)]; exact hv
    · cases hv
  · cases hv
 case nlq k neg x =>
  rw [h.ev]
  split at hv
  · rename_i u hu
    split at hv
    · rename_i b hb; simp only [hx.isNil hb]; exact hv
    · cases hv
  · cases hv
 case lkp kt z okk x k =>
  rw [h.l.ev, h.r.ev]
  split at hv
  · rename_i id n kv h1 h2
    split at hv
    · rename_i kt' l hm
      simp only [hx.mp hm]
      exact hv
    · cases hv
  · cases hv

def Fits (k : Nat) (σ σ' : St) : Prop := k = 0 ∨ (k = 1 ∧ Ext σ σ') ∨ σ'.h = σ.h
def post (k : Nat) (σ' : St) (h' : List (Option Ob)) (d : Option Nat) (v : V) : St := St.put { σ' with h := if k ≤ 1 then σ'.h else h' } d v

def Does (T : (St → Prop) → St → Prop) (k : Nat) (rs : List Nat) (d : Option Nat) (σ : St) (K : St → Prop) : Prop :=
 ∃ h' v, (k ≤ 1 → h' = σ.h) ∧ (k = 2 → ∀ (id : Nat) (ob : Ob), σ.h[id]? = some (some ob) → h'[id]? = some (some ob)) ∧ K (St.put { σ with h := h' } d v) ∧
   ∀ (σ' : St) (K' : St → Prop), Agr σ σ' rs → Fits k σ σ' → K' (post k σ' h' d v) → T K' σ'

theorem Fits.ext {k : Nat} (h : Fits k σ σ') (hk : k = 1) : Ext σ σ' := by
 rcases h with h | h | h
 · omega
 · exact h.2
 · intro i ob h'; rw [h]; exact h'
theorem Fits.heq {k : Nat} (h : Fits k σ σ') (hk : 2 ≤ k) : σ'.h = σ.h := by
 rcases h with h | h | h
 · omega
 · omega
 · exact h

variable {Φ : Ctr} {d : Option Nat} {K : St → Prop}

theorem wactD_val {a : Act'} {v : V} (h : σ.val a = some v) (hK : K (σ.put d v)) (hk : a.kind ≤ 1) : qD Φ d a K σ := by
 cases a <;> simp only [qD, qC] <;> simp only [Act'.kind] at hk <;> first | (simp only [h]; exact hK) | (exfalso; revert hk; decide) | (simp [St.val] at h)

theorem does_val {a : Act'} (hk : a.kind ≤ 1) {v : V} (h : σ.val a = some v) (hK : K (σ.put d v)) : Does (qD Φ d a) a.kind a.rds d σ K := by
 refine ⟨σ.h, v, fun _ => rfl, fun _ _ _ h => h, hK, fun σ' K' ha hf hK' => ?_⟩
 simp only [post, if_pos hk] at hK'
 refine wactD_val (v := v) ?_ hK' hk
 rcases Nat.le_one_iff_eq_zero_or_eq_one.1 hk with h0 | h1
 · rw [val_eq0 h0 ha]; exact h
 · exact val_mono1 h1 ha (hf.ext h1) h

theorem getElem?_snoc {α : Type} {l : List α} {x y : α} {i : Nat} (h : l[i]? = some x) : (l ++ [y])[i]? = some x := by
 rw [List.getElem?_append_left (List.getElem?_eq_some_iff.1 h).1]; exact h

theorem kill_r (r : List (Nat × V)) : ∀ (ids : List Nat) (σ : St), ({ σ with r := r } : St).kill ids = { (σ.kill ids) with r := r }
 | [], σ => rfl
 | id :: ids, σ => by simp only [St.kill]; exact kill_r r ids { σ with h := σ.h.set id none }
theorem storM_r (r : List (Nat × V)) (σ : St) (n id m i off : Nat) (us : List V) : ({ σ with r := r } : St).storM n id m i off us = (σ.storM n id m i off us).map fun τ => { τ with r := r } := by
 have e1 : ∀ id, St.arr? { σ with r := r } id = σ.arr? id := fun _ => rfl
 have e2 : ∀ id, St.rws? { σ with r := r } id = σ.rws? id := fun _ => rfl
 unfold St.storM
 split
 · simp only [e1, e2]
   split
   · split
     · split <;> rfl
     · rfl
   · rfl
 · rfl
theorem stor_r (r : List (Nat × V)) (σ : St) (n : Nat) (p : V) (us : List V) : ({ σ with r := r } : St).stor n p us = (σ.stor n p us).map fun τ => { τ with r := r } := by
 have e1 : ∀ (τ : St) id, St.arr? { τ with r := r } id = τ.arr? id := fun _ _ => rfl
 have e2 : ∀ (τ : St) id, St.rws? { τ with r := r } id = τ.rws? id := fun _ _ => rfl
 have e3 : ∀ (τ : St) id, St.box? { τ with r := r } id = τ.box? id := fun _ _ => rfl
 cases p <;> simp only [St.stor, kill_r, e1, e2, e3, storM_r] <;> try rfl
 · split
   · split
     · split <;> rfl
     · rfl
   · rfl
 · split
   · split
     · split
       · split
         · split
           · split <;> rfl
           · rfl
         · rfl
       · rfl
     · rfl
   · rfl
 · split
   · split
     · split
       · split
         · split
           · split
             · split <;> rfl
             · rfl
           · rfl
         · rfl
       · rfl
     · rfl
   · rfl
theorem stor_rr (σ : St) (n : Nat) (p : V) (us : List V) {τ : St} (h : σ.stor n p us = some τ) : τ.r = σ.r := by
 have h1 := stor_r σ.r σ n p us
 have h2 : ({ σ with r := σ.r } : St) = σ := rfl
 rw [h2, h] at h1
 simp only [Option.map_some, Option.some.injEq] at h1
 rw [h1]

theorem zP {σ σ' : St} (he : σ'.h = σ.h) (v : V) : σ'.cur0 v = σ.cur0 v := by
 cases v <;> simp only [St.cur0, St.box?, St.arr?, he]
mutual
theorem cur_congr {σ σ' : St} (he : σ'.h = σ.h) : ∀ v : V, σ'.cur v = σ.cur v
 | .fn _ a b => by simp only [St.cur, curA_congr he a, curA_congr he b]
 | .strct a => by simp only [St.cur, curA_congr he a]
 | .tup a => by simp only [St.cur, curA_congr he a]
 | .iface _ x => by simp only [St.cur, cur_congr he x]
 | .int _ _ => by simp only [St.cur, zP he]
 | .bool _ => by simp only [St.cur, zP he]
 | .str _ => by simp only [St.cur, zP he]
 | .nil _ => by simp only [St.cur, zP he]
 | .seq _ _ => by simp only [St.cur, zP he]
 | .fseq _ _ => by simp only [St.cur, zP he]
 | .sptr _ _ => by simp only [St.cur, zP he]
 | .nilptr => by simp only [St.cur, zP he]
 | .nilfn => by simp only [St.cur, zP he]
 | .niliface => by simp only [St.cur, zP he]
 | .junk => by simp only [St.cur, zP he]
 | .mref _ _ _ => by simp only [St.cur, zP he]
 | .mptr _ _ _ _ _ => by simp only [St.cur, zP he]
 | .ref _ _ => by simp only [St.cur, zP he]
 | .ptr _ _ => by simp only [St.cur, zP he]
 | .eptr _ _ _ _ => by simp only [St.cur, zP he]
theorem curA_congr {σ σ' : St} (he : σ'.h = σ.h) : ∀ v : List V, σ'.curA v = σ.curA v
 | [] => rfl
 | v :: vs => by simp only [St.curA, cur_congr he v, curA_congr he vs]
end
theorem curs_congr {σ σ' : St} (he : σ'.h = σ.h) : ∀ l : List V, σ'.curs l = σ.curs l
 | [] => rfl
 | v :: l => by simp only [St.curs, cur_congr he, curs_congr he l]
theorem kill_congr : ∀ (l : List Nat) {σ σ' : St}, σ'.h = σ.h → (σ'.kill l).h = (σ.kill l).h
 | [], _, _, he => he
 | id :: l, σ, σ', he => by
   simp only [St.kill]
   exact kill_congr l (by simp only [he])
theorem back_congr {σ σ' : St} (he : σ'.h = σ.h) {q : Nat} {m : List Nat} {H' : List (Option Ob)} : σ'.back q m H' = σ.back q m H' := by
 simp only [St.back, kill_congr m he, he]
theorem kill_congr2 : ∀ (ids : List Nat) {σ σ' : St}, σ'.h = σ.h → (σ'.kill ids).h = (σ.kill ids).h
 | [], _, _, he => he
 | id :: ids, σ, σ', he => by
   simp only [St.kill]
   exact kill_congr2 ids (by simp only [he])
theorem wactD_does {a : Act'} (h : qD Φ d a K σ) : Does (qD Φ d a) a.kind a.rds d σ K := by
 cases a with
 | lit e0 sz xs =>
   simp only [qD] at h
   split at h
   · rename_i vs hvs
     split at h
     · rename_i us hus
       refine ⟨σ.h, .seq sz us, fun _ => rfl, fun _ _ _ h => h, h.2.2, fun σ' K' ha hf hK' => ?_⟩
       simp only [Act'.rds] at ha
       simp only [qD, ha.evs, hvs, hus]
       exact ⟨h.1, h.2.1, hK'⟩
     · exact h.elim
   · exact h.elim
 | call f xs =>
   simp only [qD] at h
   split at h
   · rename_i vs hvs
     split at h
     · rename_i us hus
       obtain ⟨r, h1, h3⟩ := h
       refine ⟨σ.h, r, fun _ => rfl, fun _ _ _ h => h, h3, fun σ' K' ha hf hK' => ?_⟩
       simp only [Act'.rds] at ha
       simp only [qD, ha.evs, hvs, (hf.ext rfl).purs hus]
       exact Exists.intro r ⟨h1, hK'⟩
     · exact h.elim
   · exact h.elim
 | callv g xs =>
   simp only [qD] at h
   split at h
   · rename_i f a b vs hg hvs
     split at h
     · rename_i us hus
       obtain ⟨r, h1, h3⟩ := h
       refine ⟨σ.h, r, fun _ => rfl, fun _ _ _ h => h, h3, fun σ' K' ha hf hK' => ?_⟩
       simp only [Act'.rds] at ha
       simp only [qD, ha.l.ev, hg, ha.r.evs, hvs, (hf.ext rfl).purs hus]
       exact Exists.intro r ⟨h1, hK'⟩
     · exact h.elim
   · exact h.elim
 | alc z =>
   simp only [qD, qC] at h
   refine ⟨_, _, fun h => absurd h (by simp [Act'.kind]), fun _ id ob h => getElem?_snoc h, h, fun σ' K' ha hf hK' => ?_⟩
   simp only [qD, qC]
   rw [hf.heq (by simp [Act'.kind])]
   exact hK'
 | box x =>
   simp only [qD, qC] at h
   split at h
   · rename_i v hv
     split at h
     · rename_i hn
       refine ⟨_, _, fun h => absurd h (by simp [Act'.kind]), fun _ id ob h => getElem?_snoc h, h, fun σ' K' ha hf hK' => ?_⟩
       simp only [Act'.rds] at ha
       simp only [qD, qC, ha.ev, hv, if_pos hn]
       rw [hf.heq (by simp [Act'.kind])]
       exact hK'
     · exact h.elim
   · exact h.elim
 | mkm e by' e2 sz n =>
   simp only [qD, qC] at h
   split at h
   · rename_i k m hm
     obtain ⟨h1, h2, h3⟩ := h
     refine ⟨_, _, fun h => absurd h (by simp [Act'.kind]), fun _ id ob h => getElem?_snoc h, h3, fun σ' K' ha hf hK' => ?_⟩
     simp only [Act'.rds] at ha
     simp only [qD, qC, ha.ev, hm]
     rw [hf.heq (by simp [Act'.kind])]
     exact ⟨h1, h2, hK'⟩
   · exact h.elim
 | mk0 e sz by' n =>
   simp only [qD, qC] at h
   split at h
   · rename_i k m hm
     obtain ⟨h1, h2, h3⟩ := h
     refine ⟨_, _, fun h => absurd h (by simp [Act'.kind]), fun _ id ob h => getElem?_snoc h, h3, fun σ' K' ha hf hK' => ?_⟩
     simp only [Act'.rds] at ha
     simp only [qD, qC, ha.ev, hm]
     rw [hf.heq (by simp [Act'.kind])]
     exact ⟨h1, h2, hK'⟩
   · exact h.elim
 | mks e sz by' z n =>
   simp only [qD, qC] at h
   split at h
   · rename_i k m hm
     obtain ⟨h1, h2, h3⟩ := h
     refine ⟨_, _, fun h => absurd h (by simp [Act'.kind]), fun _ id ob h => getElem?_snoc h, h3, fun σ' K' ha hf hK' => ?_⟩
     simp only [Act'.rds] at ha
     simp only [qD, qC, ha.ev, hm]
     rw [hf.heq (by simp [Act'.kind])]
     exact ⟨h1, h2, hK'⟩
   · exact h.elim
 | s2b x =>
   simp only [qD, qC] at h
   split at h
   · rename_i s hs
     refine ⟨σ.h, _, fun _ => rfl, fun _ _ _ h => h, h.2, fun σ' K' ha hf hK' => ?_⟩
     simp only [Act'.rds] at ha
     simp only [qD, qC, ha.ev, hs]
     exact ⟨h.1, hK'⟩
   · exact h.elim
 | st n p x =>
   simp only [qD, qC] at h
   split at h
   · rename_i a v ha hv
     split at h
     · rename_i hn
       split at h
       · rename_i σ1 hs
         have hr : σ1.r = σ.r ∧ ∀ σ' : St, σ'.h = σ.h → σ'.stor n a (cl v) = some { σ' with h := σ1.h } := by
          refine ⟨stor_rr _ _ _ _ hs, fun σ' he => ?_⟩
          have h1 := stor_r σ'.r σ n a (cl v)
          have h2 : ({ σ with r := σ'.r } : St) = σ' := by rw [← he]
          rw [h2, hs] at h1
          rw [h1, Option.map_some]
         refine ⟨σ1.h, .tup [], fun h => absurd h (by simp [Act'.kind]), fun h => absurd h (by simp [Act'.kind]), ?_, fun σ' K' hg hf hK' => ?_⟩
         · have : ({ σ with h := σ1.h } : St) = σ1 := by rw [← hr.1]
           rw [this]; exact h
         · simp only [Act'.rds] at hg
           simp only [qD, qC, hg.l.ev, ha, hg.r.ev, hv, if_pos hn, hr.2 σ' (hf.heq (by simp [Act'.kind]))]
           exact hK'
       · exact h.elim
     · exact h.elim
   · exact h.elim
 | app x y e sz by' =>
   simp only [qD, qC] at h
   split at h
   · rename_i u v hu hv
     split at h
     · rename_i sz' l hl
       obtain ⟨h0, h⟩ := h
       have hk2 : ∀ y' e' sz' b', 2 ≤ (Act'.app x y' e' sz' b').kind := fun _ _ _ _ => appKind_ge x
       split at h
       · rename_i sz2
         refine ⟨_, _, fun h => absurd h (by have := hk2 y e sz by'; omega), fun _ id ob h => getElem?_snoc h, h.2, fun σ' K' hg hf hK' => ?_⟩
         have hne : ¬ (Act'.app x y e sz by').kind ≤ 1 := by have := hk2 y e sz by'; omega
         simp only [post, if_neg hne] at hK'
         simp only [Act'.rds] at hg
         have he := hf.heq (hk2 y e sz by')
         simp only [qD, qC, hg.l.ev, hu, hg.r.ev, hv]
         rw [he]
         simp only [hl]
         exact ⟨h0, h.1, hK'⟩
       · rename_i id n
         split at h
         · rename_i e' sz2 l0 ha
           obtain ⟨h1, h2, h3, h4, h5⟩ := h
           have hne : ¬ (Act'.app x y e sz by').kind ≤ 1 := by have := hk2 y e sz by'; omega
           have hn2 : (Act'.app x y e sz by').kind ≠ 2 := by
            cases x with
            | t n => simp [Act'.kind, appKind]
            | v x =>
              simp only [St.ev, Option.some.injEq] at hu
              subst hu
              simp [Act'.kind, appKind]
           refine ⟨_, _, fun h => absurd h hne, fun h => absurd h hn2, h5, fun σ' K' hg hf hK' => ?_⟩
           simp only [post, if_neg hne] at hK'
           simp only [Act'.rds] at hg
           have he := hf.heq (hk2 y e sz by')
           have ha' : σ'.arr? id = some (e', sz2, l0) := by simp only [St.arr?, he]; exact ha
           simp only [qD, qC, hg.l.ev, hu, hg.r.ev, hv, ha']
           rw [he]
           simp only [hl]
           exact ⟨h0, h1, h2, h3, h4, hK'⟩
         · exact h.elim
       · rename_i id i n
         split at h
         · rename_i e1 e2 sz2 rows ha
           split at h
           · rename_i r hr
             obtain ⟨h1, h2, h3, h4, h5⟩ := h
             have hne : ¬ (Act'.app x y e sz by').kind ≤ 1 := by have := hk2 y e sz by'; omega
             have hn2 : (Act'.app x y e sz by').kind ≠ 2 := by
              cases x with
              | t n => simp [Act'.kind, appKind]
              | v x =>
                simp only [St.ev, Option.some.injEq] at hu
                subst hu
                simp [Act'.kind, appKind]
             refine ⟨_, _, fun h => absurd h hne, fun h => absurd h hn2, h5, fun σ' K' hg hf hK' => ?_⟩
             simp only [post, if_neg hne] at hK'
             simp only [Act'.rds] at hg
             have he := hf.heq (hk2 y e sz by')
             have ha' : σ'.rws? id = some (e1, e2, sz2, rows) := by simp only [St.rws?, he]; exact ha
             simp only [qD, qC, hg.l.ev, hu, hg.r.ev, hv, ha', hr]
             rw [he]
             simp only [hl]
             exact ⟨h0, h1, h2, h3, h4, hK'⟩
           · exact h.elim
         · exact h.elim
       · exact h.elim
     · exact h.elim
   · exact h.elim
 | callH f xs =>
   simp only [qD] at h
   split at h
   · rename_i vs hvs
     obtain ⟨ps, h1, r, H', h2, h3, h4⟩ := h
     refine ⟨_, _, fun h => absurd h (by simp [Act'.kind]), fun h => absurd h (by simp [Act'.kind]), h4, fun σ' K' ha hf hK' => ?_⟩
     simp only [Act'.rds] at ha
     have he := hf.heq (show 2 ≤ (Act'.callH f xs).kind by simp [Act'.kind])
     simp only [qD, ha.evs, hvs]
     refine ⟨ps, by rw [curs_congr he]; exact h1, r, H', by rw [he]; exact h2, by rw [he]; exact h3, ?_⟩
     rw [he, back_congr he]
     exact hK'
   · exact h.elim
 | inv tbl x xs => exact (show False from h).elim
 | trc x hi sz => exact (show False from h).elim
 | ltr e sz xs =>
   simp only [qD, qC] at h
   split at h
   · rename_i vs hvs
     split at h
     · rename_i us hus
       obtain ⟨h1, h2, h3⟩ := h
       rw [lk_kill] at h3
       refine ⟨(σ.kill (qE vs)).h ++ [some (Ob.arr e sz us)], .ref (σ.kill (qE vs)).h.length us.length, fun h => absurd h (by simp [Act'.kind]), fun h => absurd h (by simp [Act'.kind]), h3, fun σ' K' ha hf hK' => ?_⟩
       simp only [Act'.rds] at ha
       have he := hf.heq (show 2 ≤ (Act'.ltr e sz xs).kind by simp [Act'.kind])
       have hk : (σ'.kill (qE vs)).h = (σ.kill (qE vs)).h := kill_congr2 _ he
       simp only [qD, qC, ha.evs, hvs, he, hus, hk, lk_kill]
       exact ⟨h1, h2, hK'⟩
     · exact h.elim
   · exact h.elim
 | mkp kt =>
   simp only [qD, qC] at h
   refine ⟨_, _, fun h => absurd h (by simp [Act'.kind]), fun _ id ob h => getElem?_snoc h, h, fun σ' K' ha hf hK' => ?_⟩
   simp only [qD, qC]
   rw [hf.heq (by simp [Act'.kind])]
   exact hK'
 | mup kt x k v =>
   simp only [qD, qC] at h
   split at h
   · rename_i id n kv u h1 h2 h3
     split at h
     · rename_i kt' l u' hm hp
       obtain ⟨g1, g2, g3, g4, g5⟩ := h
       refine ⟨_, _, fun h => absurd h (by simp [Act'.kind]), fun h => absurd h (by simp [Act'.kind]), g5, fun σ' K' hg hf hK' => ?_⟩
       simp only [Act'.rds] at hg
       have he := hf.heq (show 2 ≤ (Act'.mup kt x k v).kind by simp [Act'.kind])
       have hm' : σ'.mp? id = some (kt', l) := by simp only [St.mp?, he]; exact hm
       simp only [qD, qC, hg.l.ev, h1, hg.r.l.ev, h2, hg.r.r.ev, h3, hm']
       rw [he]
       simp only [hp]
       exact ⟨g1, g2, g3, g4, hK'⟩
     · exact h.elim
   · exact h.elim
 | _ =>
   simp only [qD, qC] at h
   split at h
   · rename_i v hv
     exact does_val (by simp only [Act'.kind]; decide) hv h
   · exact h.elim

theorem wopD_does {x : AOp} (h : qW Φ x K σ) : Does (qW Φ x) x.a.kind x.rds x.d σ K := by
 have sk : (∀ σ' (K' : St → Prop), Agr σ σ' x.rds → K' (σ'.put x.d (.tup [])) → qW Φ x K' σ') → K (σ.put x.d (.tup [])) → Does (qW Φ x) 0 x.rds x.d σ K :=
  fun h1 h2 => ⟨σ.h, .tup [], fun _ => rfl, fun _ _ _ h => h, h2, fun σ' K' ha _ hK' => h1 σ' K' ha hK'⟩
 have up : ∀ {T : (St → Prop) → St → Prop}, Does T 0 x.rds x.d σ K → Does T x.a.kind x.rds x.d σ K := by
  rintro T ⟨h', v, h1, _, h3, h4⟩
  have e := h1 (by decide)
  subst e
  refine ⟨σ.h, v, fun _ => rfl, fun _ _ _ h => h, h3, fun σ' K' ha hf hK' => h4 σ' K' ha (.inl rfl) ?_⟩
  simp only [post, Nat.zero_le, if_true] at hK' ⊢
  split at hK'
  · exact hK'
  · rw [hf.heq (by omega)]
    exact hK'
 have lift : ∀ {T : (St → Prop) → St → Prop} {rs : List Nat}, Does (qD Φ x.d x.a) x.a.kind rs x.d σ K → (∀ t, t ∈ rs → t ∈ x.rds) → (∀ σ' K', Agr σ σ' x.rds → qD Φ x.d x.a K' σ' → T K' σ') → Does T x.a.kind x.rds x.d σ K := by
  rintro T rs ⟨h', v, h1, h2, h3, h4⟩ hs hT
  exact ⟨h', v, h1, h2, h3, fun σ' K' ha hf hK' => hT _ _ ha (h4 σ' K' (ha.sub hs) hf hK')⟩
 have hsub : ∀ t, t ∈ x.a.rds → t ∈ x.rds := fun t ht => List.mem_append_left _ ht
 unfold qW at h
 cases hg : x.g with
 | none =>
   simp only [hg] at h
   refine lift (wactD_does h) hsub fun σ' K' _ h' => ?_
   unfold qW
   simp only [hg]; exact h'
 | some tb =>
   obtain ⟨t, b⟩ := tb
   have ht : t ∈ x.rds := by simp [AOp.rds, hg]
   simp only [hg] at h
   split at h
   · rename_i y hy
     have hgo : ∀ σ' (K' : St → Prop), Agr σ σ' x.rds → y = b → qD Φ x.d x.a K' σ' → qW Φ x K' σ' := by
      intro σ' K' ha hyb h'
      subst hyb
      unfold qW
      simp only [hg, ha t ht, hy]
      cases y <;> simp [Br, h']
     have hsk : ∀ σ' (K' : St → Prop), Agr σ σ' x.rds → y ≠ b → K' (σ'.put x.d (.tup [])) → qW Φ x K' σ' := by
      intro σ' K' ha hyb h'
      unfold qW
      simp only [hg, ha t ht, hy]
      cases y <;> cases b <;> first | exact absurd rfl hyb | simp [Br, h']
     by_cases hyb : y = b
     · have h' : qD Φ x.d x.a K σ := by subst hyb; cases y <;> simp [Br] at h <;> exact h
       exact lift (wactD_does h') hsub fun σ' K' ha h'' => hgo σ' K' ha hyb h''
     · have h' : K (σ.put x.d (.tup [])) := by cases y <;> cases b <;> first | exact absurd rfl hyb | (simp [Br] at h; exact h)
       exact up (sk (fun σ' K' ha h'' => hsk σ' K' ha hyb h'') h')
   · rename_i hy
     refine up (sk (fun σ' K' ha h'' => ?_) h)
     unfold qW
     simp only [hg, ha t ht, hy]
     exact h''
   · exact h.elim

def Eqv (σ τ : St) : Prop := τ.h = σ.h ∧ ∀ t, lk τ.r t = lk σ.r t
def Inv (R : St → Prop) : Prop := ∀ σ τ, Eqv σ τ → R σ → R τ

theorem lk_put (σ : St) (h' : List (Option Ob)) (d : Option Nat) (v : V) (t : Nat) : lk (St.put { σ with h := h' } d v).r t = if d = some t then some v else lk σ.r t := by
 cases d with
 | none => simp [St.put]
 | some k => simp only [St.put, lk, Option.some.injEq]
theorem h_put (σ : St) (d : Option Nat) (v : V) : (σ.put d v).h = σ.h := by cases d <;> rfl

theorem wopD_inv {x : AOp} {R : St → Prop} (hR : Inv R) : Inv (qW Φ x R) := by
 intro σ τ he h
 obtain ⟨h', v, h1, h2, h3, h4⟩ := wopD_does h
 refine h4 τ R (fun t _ => he.2 t) (.inr (.inr he.1)) (hR _ _ ⟨?_, fun t => ?_⟩ h3)
 · simp only [post, h_put]
   split
   · rename_i hk; rw [h1 hk]; exact he.1
   · rfl
 · simp only [post, lk_put, he.2]

def apartB (x y : AOp) : Bool :=
 (match x.d with
  | some d => !(memb d y.rds) && decide (y.d ≠ some d)
  | none => true) &&
 (match y.d with
  | some d => !(memb d x.rds)
  | none => true) &&
 (x.a.kind == 0 || y.a.kind == 0 || (x.a.kind == 1 && decide (y.a.kind ≤ 2)))

theorem apartB_spec {x y : AOp} (h : apartB x y = true) :
 (∀ d, x.d = some d → d ∉ y.rds ∧ y.d ≠ some d) ∧ (∀ d, y.d = some d → d ∉ x.rds) ∧ (x.a.kind = 0 ∨ y.a.kind = 0 ∨ (x.a.kind = 1 ∧ y.a.kind ≤ 2)) := by
 simp only [apartB, Bool.and_eq_true] at h
 obtain ⟨⟨h1, h2⟩, h3⟩ := h
 refine ⟨fun d hd => ?_, fun d hd => ?_, by simpa [or_assoc] using h3⟩
 · simp only [hd, Bool.and_eq_true, Bool.not_eq_true', decide_eq_true_eq] at h1
   exact ⟨fun hm => by rw [memb_iff.2 hm] at h1; simp at h1, h1.2⟩
 · simp only [hd, Bool.not_eq_true'] at h2
   exact fun hm => by rw [memb_iff.2 hm] at h2; simp at h2

theorem wopD_comm {x y : AOp} (hap : apartB x y = true) {R : St → Prop} (hR : Inv R) (h : qW Φ x (qW Φ y R) σ) : qW Φ y (qW Φ x R) σ := by
 obtain ⟨a1, a2, a3⟩ := apartB_spec hap
 obtain ⟨hx, vx, x1, x2, x3, x4⟩ := wopD_does h
 obtain ⟨hy, vy, y1, y2, y3, y4⟩ := wopD_does x3
 rw [h_put] at y1 y2
 have key : Eqv (St.put { (St.put { σ with h := hx } x.d vx) with h := hy } y.d vy) (post x.a.kind (post y.a.kind σ hy y.d vy) hx x.d vx) → qW Φ y (qW Φ x R) σ := by
  intro he
  refine y4 σ _ ?_ ?_ ?_
  · intro t ht
    rw [lk_put]
    split
    · rename_i hd; exact absurd ht (a1 t hd).1
    · rfl
  · rcases a3 with h | h | h
    · refine .inr (.inr ?_); rw [h_put]; exact (x1 (by omega)).symm
    · exact .inl h
    · refine .inr (.inr ?_); rw [h_put]; exact (x1 (by omega)).symm
  · refine x4 _ _ ?_ ?_ (hR _ _ he y3)
    · intro t ht
      simp only [post, lk_put]
      split
      · rename_i hd; exact absurd ht (a2 t hd)
      · rfl
    · rcases a3 with h | h | h
      · exact .inl h
      · refine .inr (.inr ?_)
        simp only [post, h_put, h, Nat.zero_le, if_true]
      · by_cases hk : y.a.kind ≤ 1
        · refine .inr (.inr ?_)
          simp only [post, h_put, if_pos hk]
        · refine .inr (.inl ⟨h.1, ?_⟩)
          intro id ob hid
          simp only [post, h_put, if_neg hk]
          exact y2 (by omega) id ob (by rw [x1 (by omega)]; exact hid)
 apply key
 constructor
 · simp only [post, h_put]
   rcases a3 with h | h | h
   · rw [if_pos (by omega)]
     split
     · rename_i hk; rw [y1 hk, x1 (by omega)]
     · rfl
   · simp only [h, Nat.zero_le, if_true]
     rw [y1 (by omega)]
     split
     · rename_i hk; rw [x1 hk]
     · rfl
   · rw [if_pos (by omega)]
     split
     · rename_i hk; rw [y1 hk, x1 (by omega)]
     · rfl
 · intro t
   simp only [post, lk_put]
   by_cases hxd : x.d = some t
   · rw [if_pos hxd, if_neg (a1 t hxd).2, if_pos hxd]
   · simp only [if_neg hxd]
end
end Go.Abs
end
section
namespace Go.Abs
open Go.RowKit
section
variable {P : Program} {N : Nat} {M0 : Mem} {B : Bas} {w0 : World} {Φ : Ctr}

theorem wopD_mono {x : AOp} {σ : St} {K K' : St → Prop} (h : qW Φ x K σ) (hk : ∀ τ, K τ → K' τ) : qW Φ x K' σ := by
 obtain ⟨h', v, h1, h2, h3, h4⟩ := wopD_does h
 refine h4 σ K' (fun _ _ => rfl) (.inr (.inr rfl)) (hk _ ?_)
 simp only [post]
 split
 · rename_i hle; rw [h1 hle] at h3; exact h3
 · exact h3

mutual
theorem pur_none : ∀ {v u : V}, pur [] v = some u → qM v = [] ∧ ∀ h, pur h v = some u
 | .nil sz, _, hv => ⟨rfl, fun h => by simpa only [pur] using hv⟩
 | .ref id n, _, hv => by simp [pur, pur1] at hv
 | .strct cs, _, hv => by
   simp only [pur, Option.map_eq_some_iff] at hv
   obtain ⟨us, h1, h2⟩ := hv
   obtain ⟨k1, k2⟩ := purs_none h1
   exact ⟨by simpa only [qM] using k1, fun h => by simp only [pur, k2 h, Option.map_some, h2]⟩
 | .tup cs, _, hv => by
   simp only [pur, Option.map_eq_some_iff] at hv
   obtain ⟨us, h1, h2⟩ := hv
   obtain ⟨k1, k2⟩ := purs_none h1
   exact ⟨by simpa only [qM] using k1, fun h => by simp only [pur, k2 h, Option.map_some, h2]⟩
 | .fn f a b, _, hv => by
   simp only [pur] at hv
   split at hv
   · rename_i a' b' h1 h2
     obtain ⟨k1, k2⟩ := purs_none h1
     obtain ⟨k3, k4⟩ := purs_none h2
     exact ⟨by simp only [qM, k1, k3, List.append_nil], fun h => by simp only [pur, k2 h, k4 h]; exact hv⟩
   · cases hv
 | .iface t x, _, hv => by
   simp only [pur, Option.map_eq_some_iff] at hv
   obtain ⟨us, h1, h2⟩ := hv
   obtain ⟨k1, k2⟩ := pur_none h1
   exact ⟨by simpa only [qM] using k1, fun h => by simp only [pur, k2 h, Option.map_some, h2]⟩
 | .ptr _ _, _, hv => by simp only [pur] at hv; cases hv
 | .eptr _ _ _ _, _, hv => by simp only [pur] at hv; cases hv
 | .int _ _, _, hv => ⟨rfl, fun h => by simpa only [pur] using hv⟩
 | .bool _, _, hv => ⟨rfl, fun h => by simpa only [pur] using hv⟩
 | .str _, _, hv => ⟨rfl, fun h => by simpa only [pur] using hv⟩
 | .seq _ _, _, hv => ⟨rfl, fun h => by simpa only [pur] using hv⟩
 | .fseq _ _, _, hv => ⟨rfl, fun h => by simpa only [pur] using hv⟩
 | .sptr _ _, _, hv => ⟨rfl, fun h => by simpa only [pur] using hv⟩
 | .nilptr, _, hv => ⟨rfl, fun h => by simpa only [pur] using hv⟩
 | .nilfn, _, hv => ⟨rfl, fun h => by simpa only [pur] using hv⟩
 | .niliface, _, hv => ⟨rfl, fun h => by simpa only [pur] using hv⟩
 | .junk, _, hv => ⟨rfl, fun h => by simpa only [pur] using hv⟩
theorem purs_none : ∀ {v u : List V}, purs [] v = some u → qE v = [] ∧ ∀ h, purs h v = some u
 | [], _, hv => ⟨rfl, fun h => by simpa only [purs] using hv⟩
 | v :: vs, _, hv => by
   simp only [purs] at hv
   split at hv
   · rename_i a' b' h1 h2
     obtain ⟨k1, k2⟩ := pur_none h1
     obtain ⟨k3, k4⟩ := purs_none h2
     exact ⟨by simp only [qE, k1, k3, List.append_nil], fun h => by simp only [purs, k2 h, k4 h]; exact hv⟩
   · cases hv
end

theorem wactD_wact {d : Option Nat} {a : Act'} {K : St → Prop} {σ : St} (h : qD Φ d a K σ) : qC Φ d a K σ := by
 cases a with
 | lit e0 sz xs =>
   simp only [qD] at h
   split at h
   · rename_i vs hvs
     split at h
     · rename_i us hus
       obtain ⟨k1, k2⟩ := purs_none hus
       simp only [qC, hvs, k2 σ.h, k1, St.kill]
       exact h
     · exact h.elim
   · exact h.elim
 | call f xs =>
   simp only [qD] at h
   split at h
   · rename_i vs hvs
     split at h
     · rename_i us hus
       obtain ⟨r, h1, h3⟩ := h
       simp only [qC, hvs, hus]
       exact ⟨r, .inl ⟨h1, fun _ => h3⟩⟩
     · exact h.elim
   · exact h.elim
 | callH f xs =>
   simp only [qD] at h
   split at h
   · rename_i vs hvs
     obtain ⟨ps, h1, r, H', h2, h3, h4⟩ := h
     simp only [qC, hvs]
     exact ⟨ps, h1, r, H', h2, h3, fun _ _ => h4⟩
   · exact h.elim
 | inv tbl x xs => exact (show False from h).elim
 | trc x hi sz => exact (show False from h).elim
 | callv g xs =>
   simp only [qD] at h
   split at h
   · rename_i f a b vs hg hvs
     split at h
     · rename_i us hus
       obtain ⟨r, h1, h3⟩ := h
       simp only [qC, hg, hvs, hus]
       exact ⟨r, .inl ⟨h1, fun _ => h3⟩⟩
     · exact h.elim
   · exact h.elim
 | _ => exact h

theorem wopD_wop {x : AOp} {K : St → Prop} {σ : St} (h : qW Φ x K σ) : wop Φ x K σ := by
 unfold qW at h
 unfold wop
 split at h
 · exact wactD_wact h
 · split at h
   · split
     · rename_i hb; rw [if_pos hb] at h; exact ⟨fun hy => wactD_wact (h.1 hy), h.2⟩
     · rename_i hb; rw [if_neg hb] at h; exact ⟨h.1, fun hy => wactD_wact (h.2 hy)⟩
   · exact h
   · exact h

def wanyA (Φ : Ctr) (ops : Array Oper) (xs : List AOp) (K : St → Prop) : Nat → Array Bool → St → Prop
 | 0, listed, σ => Region.ready .any ops listed = [] ∧ K σ
 | f + 1, listed, σ => (Region.ready .any ops listed = [] → K σ) ∧ ∀ i ∈ Region.ready .any ops listed, ∃ x, xs[i]? = some x ∧ qW Φ x (wanyA Φ ops xs K f (listed.setIfInBounds i true)) σ

def wanyB (Φ : Ctr) (ops : Array Oper) (xs : List AOp) (K : St → Prop) : Nat → Array Bool → St → Prop
 | 0, listed, σ => Region.ready .any ops listed = [] ∧ K σ
 | f + 1, listed, σ => (Region.ready .any ops listed = [] → K σ) ∧ ∀ i ∈ Region.ready .any ops listed, ∃ x, xs[i]? = some x ∧ wop Φ x (wanyB Φ ops xs K f (listed.setIfInBounds i true)) σ

variable {ops : Array Oper} {xs : List AOp} {K : St → Prop}
theorem wanyA_inv (hK : Inv K) : ∀ (f : Nat) (listed : Array Bool), Inv (wanyA Φ ops xs K f listed)
 | 0, listed => fun σ τ he h => ⟨h.1, hK σ τ he h.2⟩
 | f + 1, listed => fun σ τ he h => ⟨fun h0 => hK σ τ he (h.1 h0), fun i hi => by
   obtain ⟨x, hx, hw⟩ := h.2 i hi
   exact ⟨x, hx, wopD_inv (wanyA_inv hK f _) σ τ he hw⟩⟩

def Closed (ops : Array Oper) (listed : Array Bool) : Prop := ∀ j oj, ops[j]? = some oj → listed.getD j false = true → ∀ e ∈ oj.after, Region.binds .any e = true → listed.getD e.on false = true
def ancB (anc : List Nat) (j i : Nat) : Bool := decide (i < j) && Nat.testBit (anc.getD j 0) i
def AncOK (ops : Array Oper) (anc : List Nat) : Prop := ∀ j i oj, ops[j]? = some oj → ancB anc j i = true → ∃ e ∈ oj.after, Region.binds .any e = true ∧ e.on < j ∧ (e.on = i ∨ ancB anc e.on i = true)

theorem Closed.set {listed : Array Bool} {i : Nat} (h : Closed ops listed) (hi : i ∈ Region.ready .any ops listed) : Closed ops (listed.setIfInBounds i true) := by
 obtain ⟨_, oi, hoi, hall⟩ := mem_ready.1 hi
 intro j oj hj hl e he hb
 by_cases hij : i = j
 · subst hij
   have : oj = oi := Option.some.inj (hj.symm.trans hoi)
   subst this
   exact getD_set_true (hall e he hb)
 · rw [getD_set_ne false hij] at hl
   exact getD_set_true (h j oj hj hl e he hb)

theorem AncOK.listed {anc : List Nat} (ha : AncOK ops anc) {listed : Array Bool} (hc : Closed ops listed) {i : Nat} : ∀ (j : Nat) (oj : Oper), ops[j]? = some oj → (∀ e ∈ oj.after, Region.binds .any e = true → listed.getD e.on false = true) →
 ancB anc j i = true → (∀ e o', e < ops.size → ops[e]? = some o' → True) → (∀ e ∈ oj.after, Region.binds .any e = true → e.on < j → ∃ o', ops[e.on]? = some o') → listed.getD i false = true := by
 intro j
 induction j using Nat.strongRecOn with
 | _ j ih =>
   intro oj hj hp hanc _ hex
   obtain ⟨e, he, hb, hlt, h⟩ := ha j i oj hj hanc
   have hl := hp e he hb
   rcases h with h | h
   · rw [← h]; exact hl
   · obtain ⟨o', ho'⟩ := hex e he hb hlt
     refine ih e.on hlt o' ho' (fun e' he' hb' => hc e.on o' ho' hl e' he' hb') h (fun _ _ _ _ => trivial) (fun e' he' hb' hlt' => ?_)
     have hs : e'.on < ops.size := by
      have := (Array.getElem?_eq_some_iff.1 ho').1
      omega
     exact ⟨ops[e'.on], by simp [hs]⟩

theorem wanyA_first {anc : List Nat} (ha : AncOK ops anc) (hK : Inv K) {i : Nat} {x : AOp} (hi : xs[i]? = some x) :
 ∀ (f : Nat) (listed : Array Bool) (σ : St), Closed ops listed →
   (∀ j y, xs[j]? = some y → j ≠ i → listed.getD j true = false → ancB anc j i = false → apartB x y = true) →
   i ∈ Region.ready .any ops listed → qW Φ x (wanyA Φ ops xs K f (listed.setIfInBounds i true)) σ → wanyA Φ ops xs K (f + 1) listed σ := by
 intro f
 induction f with
 | zero =>
   intro listed σ _ _ hr H
   refine ⟨fun h => (by rw [h] at hr; cases hr), fun j hj => ?_⟩
   by_cases hji : j = i
   · subst hji; exact ⟨x, hi, H⟩
   · obtain ⟨h', v, _, _, h3, _⟩ := wopD_does H
     have := ready_mono hj hji
     rw [h3.1] at this
     cases this
 | succ f ih =>
   intro listed σ hc hfree hr H
   refine ⟨fun h => (by rw [h] at hr; cases hr), fun j hj => ?_⟩
   by_cases hji : j = i
   · subst hji; exact ⟨x, hi, H⟩
   · obtain ⟨h', v, _, _, h3, _⟩ := wopD_does H
     obtain ⟨y, hy, _⟩ := h3.2 j (ready_mono hj hji)
     obtain ⟨hjun, oj, hoj, hall⟩ := mem_ready.1 hj
     have hiun := (mem_ready.1 hr).1
     have hnot : ancB anc j i = false := by
      cases hb : ancB anc j i with
      | false => rfl
      | true =>
        have hs : j < ops.size := (Array.getElem?_eq_some_iff.1 hoj).1
        have := ha.listed hc j oj hoj hall hb (fun _ _ _ _ => trivial) (fun e _ _ hlt => ⟨ops[e.on]'(by omega), by simp⟩)
        rcases Nat.lt_or_ge i listed.size with h' | h'
        · simp [h'] at hiun this; rw [hiun] at this; cases this
        · simp [Array.getElem?_eq_none h'] at this
     have H' : qW Φ x (qW Φ y (wanyA Φ ops xs K f ((listed.setIfInBounds i true).setIfInBounds j true))) σ := wopD_mono H fun τ hτ => by
      obtain ⟨y', hy', hw⟩ := hτ.2 j (ready_mono hj hji)
      rw [hy] at hy'
      cases hy'
      exact hw
     have H2 := wopD_comm (hfree j y hy hji hjun hnot) (wanyA_inv hK f _) H'
     refine ⟨y, hy, wopD_mono H2 fun τ hτ => ih (listed.setIfInBounds j true) τ (hc.set hj) ?_ (ready_mono hr (Ne.symm hji)) ?_⟩
     · intro k z hz hki hun hno
       refine hfree k z hz hki ?_ hno
       by_cases hjk : j = k
       · subst hjk; exact hjun
       · rw [getD_set_ne true hjk] at hun; exact hun
     · rw [Array.setIfInBounds_comm _ _ hji]
       exact hτ

def permOK (ops : Array Oper) (xs : List AOp) (anc : List Nat) : List Nat → Bool
 | [] => true
 | i :: l => !(memb i l) &&
   (match ops[i]? with
    | some o => o.after.toList.all fun e => !(Region.binds .any e) || (decide (e.on < ops.size) && !(memb e.on (i :: l)))
    | none => false) &&
   (match xs[i]? with
    | some x => l.all fun j => ancB anc j i || (match xs[j]? with
      | some y => apartB x y
      | none => false)
    | none => false) && permOK ops xs anc l
def drawOK (ops : Array Oper) (xs : List AOp) (anc perm : List Nat) : Bool :=
 decide (ops.size = xs.length) && decide (perm.length = ops.size) &&
 ((List.range ops.size).all fun j => memb j perm) &&
 ((List.range ops.size).all fun j => match ops[j]? with
   | some o => o.after.toList.all fun e => !(Region.binds .any e) || decide (e.on < j)
   | none => true) &&
 ((List.range ops.size).all fun j => match ops[j]? with
   | some o => (List.range j).all fun i => !(Nat.testBit (anc.getD j 0) i) || o.after.toList.any fun e => Region.binds .any e && (decide (e.on = i) || ancB anc e.on i)
   | none => true) && permOK ops xs anc perm
def pickA (xs : List AOp) : List Nat → Option (List AOp)
 | [] => some []
 | i :: l => match xs[i]?, pickA xs l with
   | some x, some ys => some (x :: ys)
   | _, _ => none

theorem drawOK_anc {anc perm : List Nat} (hd : drawOK ops xs anc perm = true) : AncOK ops anc := by
 simp only [drawOK, Bool.and_eq_true, decide_eq_true_eq] at hd
 obtain ⟨⟨⟨⟨⟨hsz, hpl⟩, hall⟩, hed⟩, hanc⟩, hap⟩ := hd
 intro j i oj hj hb
 simp only [ancB, Bool.and_eq_true, decide_eq_true_eq] at hb
 have hs : j < ops.size := (Array.getElem?_eq_some_iff.1 hj).1
 have h1 := List.all_eq_true.1 hanc j (List.mem_range.2 hs)
 simp only [hj] at h1
 have h2 := List.all_eq_true.1 h1 i (List.mem_range.2 hb.1)
 simp only [hb.2, Bool.not_true, Bool.false_or] at h2
 obtain ⟨e, he, h3⟩ := List.any_eq_true.1 h2
 simp only [Bool.and_eq_true, Bool.or_eq_true, decide_eq_true_eq] at h3
 have h4 := List.all_eq_true.1 hed j (List.mem_range.2 hs)
 simp only [hj] at h4
 have h5 := List.all_eq_true.1 h4 e he
 simp only [h3.1, Bool.not_true, Bool.false_or, decide_eq_true_eq] at h5
 exact ⟨e, by simpa using he, h3.1, h5, h3.2⟩

theorem wanyA_lex {anc : List Nat} (ha : AncOK ops anc) (hK : Inv K) : ∀ (l : List Nat) (ys : List AOp) (listed : Array Bool) (σ : St), permOK ops xs anc l = true → pickA xs l = some ys →
 listed.size = ops.size → (∀ j, j < ops.size → listed.getD j false = !(memb j l)) → Closed ops listed → wopsD Φ ys K σ → wanyA Φ ops xs K l.length listed σ := by
 intro l
 induction l with
 | nil =>
   intro ys listed σ _ hys hls hl hc h
   simp only [pickA, Option.some.injEq] at hys
   subst hys
   refine ⟨?_, h⟩
   rw [List.eq_nil_iff_forall_not_mem]
   intro j hj
   obtain ⟨h1, o, ho, _⟩ := mem_ready.1 hj
   have hs : j < ops.size := (Array.getElem?_eq_some_iff.1 ho).1
   have h2 := hl j hs
   have hlt : j < listed.size := by omega
   simp [hlt, memb] at h1 h2
   rw [h1] at h2
   simp at h2
 | cons i l ih =>
   intro ys listed σ hp hys hls hl hc h
   simp only [permOK, Bool.and_eq_true, Bool.not_eq_true'] at hp
   obtain ⟨⟨⟨hnd, hpre⟩, hap⟩, hrest⟩ := hp
   simp only [pickA] at hys
   split at hys
   · rename_i x ys' hx hys'
     cases hys
     split at hpre
     · rename_i o ho
       have hks : i < ops.size := (Array.getElem?_eq_some_iff.1 ho).1
       have hr : i ∈ Region.ready .any ops listed := by
        refine mem_ready.2 ⟨?_, o, ho, fun e he hb => ?_⟩
        · have := hl i hks
          have hlt : i < listed.size := by omega
          simp [hlt, memb] at this ⊢
          exact this
        · have h5 := List.all_eq_true.1 hpre e (by simpa using he)
          simp only [hb, Bool.not_true, Bool.false_or, Bool.and_eq_true, decide_eq_true_eq] at h5
          rw [hl e.on h5.1]
          exact h5.2
       refine wanyA_first ha hK hx l.length listed σ hc ?_ hr ?_
       · intro j y hy hji hun hno
         simp only [hx] at hap
         by_cases hjs : j < ops.size
         · have h2 := hl j hjs
           have hlt : j < listed.size := by omega
           simp [hlt] at hun h2
           rw [hun] at h2
           have h3 : memb j (i :: l) = true := by
            cases hm : memb j (i :: l) with
            | true => rfl
            | false => rw [hm] at h2; cases h2
           simp only [memb, if_neg hji] at h3
           have h4 := List.all_eq_true.1 hap j (memb_iff.1 h3)
           simp only [hno, hy, Bool.false_or] at h4
           exact h4
         · have : ¬ j < listed.size := by omega
           simp [this] at hun
       · refine wopD_mono h fun τ hτ => ih ys' _ τ hrest hys' (by simp [hls]) ?_ (hc.set hr) hτ
         intro j hj
         by_cases hkj : i = j
         · subst hkj
           have hlt : i < listed.size := by omega
           simp [hlt, hnd]
         · rw [getD_set_ne false hkj, hl j hj]
           have : j ≠ i := fun h => hkj h.symm
           simp only [memb, if_neg this]
     · cases hpre
   · cases hys

theorem drawOK_wany {anc perm : List Nat} {ys : List AOp} {σ : St} (hd : drawOK ops xs anc perm = true) (hp : pickA xs perm = some ys) (hK : Inv K) (h : wopsD Φ ys K σ) :
 wanyA Φ ops xs K ops.size (Array.replicate ops.size false) σ := by
 have ha := drawOK_anc hd
 simp only [drawOK, Bool.and_eq_true, decide_eq_true_eq] at hd
 obtain ⟨⟨⟨⟨⟨hsz, hpl⟩, hall⟩, hed⟩, hanc⟩, hap⟩ := hd
 have := wanyA_lex ha hK perm ys (Array.replicate ops.size false) σ hap hp (by simp) (fun j hj => by
  have := List.all_eq_true.1 hall j (List.mem_range.2 hj)
  simp [hj, this]) (fun j oj hj hl => by
  have hs := (Array.getElem?_eq_some_iff.1 hj).1
  simp [hs] at hl) h
 rw [hpl] at this
 exact this

def linX (ops : Array Oper) : Nat → Array Bool → List (List Nat)
 | 0, listed => match Region.ready .any ops listed with
   | [] => [[]]
   | _ => [[ops.size]]
 | f + 1, listed => match Region.ready .any ops listed with
   | [] => [[]]
   | i :: r => (i :: r).flatMap fun i => (linX ops f (listed.setIfInBounds i true)).map (i :: ·)
def noCall : List AOp → Bool
 | [] => true
 | x :: xs => (match x.a with
   | .call _ _ => false
   | .callv _ _ => false
   | .callH _ _ => false
   | .inv _ _ _ => false
   | _ => true) && noCall xs
def pickAs (xs : List AOp) : List (List Nat) → Option (List (List AOp))
 | [] => some []
 | p :: ps => match pickA xs p, pickAs xs ps with
   | some y, some ys => some (y :: ys)
   | _, _ => none

theorem wact_det {d : Option Nat} {a : Act'} (hn : (match a with | .call _ _ => false | .callv _ _ => false | .callH _ _ => false | .inv _ _ _ => false | _ => true) = true) {σ : St} {K : St → Prop} (h : qC Φ d a K σ) : ∃ τ, ∀ K', qC Φ d a K' σ ↔ K' τ := by
 cases a with
 | call => cases hn
 | callv => cases hn
 | callH => cases hn
 | inv => cases hn
 | mkp kt => exact ⟨_, fun K' => Iff.rfl⟩
 | ltr e sz xs =>
   simp only [qC] at h ⊢
   split at h
   · split at h
     · exact ⟨_, fun K' => ⟨fun h => h.2.2, fun h' => ⟨h.1, h.2.1, h'⟩⟩⟩
     · exact h.elim
   · exact h.elim
 | trc x hi sz =>
   simp only [qC] at h ⊢
   split at h
   · split at h
     · exact ⟨_, fun K' => ⟨fun h => h.2.2.2.2, fun h' => ⟨h.1, h.2.1, h.2.2.1, h.2.2.2.1, h'⟩⟩⟩
     · exact h.elim
   · exact h.elim
 | mup kt x k v =>
   simp only [qC] at h ⊢
   split at h
   · split at h
     · exact ⟨_, fun K' => ⟨fun h => h.2.2.2.2, fun h' => ⟨h.1, h.2.1, h.2.2.1, h.2.2.2.1, h'⟩⟩⟩
     · exact h.elim
   · exact h.elim
 | alc z => exact ⟨_, fun K' => Iff.rfl⟩
 | box x =>
   simp only [qC] at h ⊢
   split at h
   · split at h
     · rename_i hc; simp only [if_pos hc]; exact ⟨_, fun K' => Iff.rfl⟩
     · exact h.elim
   · exact h.elim
 | st n p x =>
   simp only [qC] at h ⊢
   split at h
   · split at h
     · rename_i hc
       simp only [if_pos hc]
       split at h
       · exact ⟨_, fun K' => Iff.rfl⟩
       · exact h.elim
     · exact h.elim
   · exact h.elim
 | s2b x =>
   simp only [qC] at h ⊢
   split at h
   · exact ⟨_, fun K' => ⟨fun h => h.2, fun h' => ⟨h.1, h'⟩⟩⟩
   · exact h.elim
 | lit e0 sz xs =>
   simp only [qC] at h ⊢
   split at h
   · split at h
     · exact ⟨_, fun K' => ⟨fun h => h.2.2, fun h' => ⟨h.1, h.2.1, h'⟩⟩⟩
     · exact h.elim
   · exact h.elim
 | app x y e sz by' =>
   simp only [qC] at h ⊢
   split at h
   · split at h
     · obtain ⟨h0, h⟩ := h
       split at h
       · exact ⟨_, fun K' => ⟨fun h => h.2.2, fun h' => ⟨h0, h.1, h'⟩⟩⟩
       · split at h
         · exact ⟨_, fun K' => ⟨fun h => h.2.2.2.2.2, fun h' => ⟨h0, h.1, h.2.1, h.2.2.1, h.2.2.2.1, h'⟩⟩⟩
         · exact h.elim
       · split at h
         · split at h
           · exact ⟨_, fun K' => ⟨fun h => h.2.2.2.2.2, fun h' => ⟨h0, h.1, h.2.1, h.2.2.1, h.2.2.2.1, h'⟩⟩⟩
           · exact h.elim
         · exact h.elim
       · exact h.elim
     · exact h.elim
   · exact h.elim
 | mkm e by' e2 sz n =>
   simp only [qC] at h ⊢
   split at h
   · exact ⟨_, fun K' => ⟨fun h => h.2.2, fun h' => ⟨h.1, h.2.1, h'⟩⟩⟩
   · exact h.elim
 | mk0 e sz by' n =>
   simp only [qC] at h ⊢
   split at h
   · exact ⟨_, fun K' => ⟨fun h => h.2.2, fun h' => ⟨h.1, h.2.1, h'⟩⟩⟩
   · exact h.elim
 | mks e sz by' z n =>
   simp only [qC] at h ⊢
   split at h
   · exact ⟨_, fun K' => ⟨fun h => h.2.2, fun h' => ⟨h.1, h.2.1, h'⟩⟩⟩
   · exact h.elim
 | _ =>
   simp only [qC] at h ⊢
   split at h
   · exact ⟨_, fun K' => Iff.rfl⟩
   · exact h.elim

theorem wop_det {x : AOp} (hn : (match x.a with | .call _ _ => false | .callv _ _ => false | .callH _ _ => false | .inv _ _ _ => false | _ => true) = true) {σ : St} {K : St → Prop} (h : wop Φ x K σ) : ∃ τ, ∀ K', wop Φ x K' σ ↔ K' τ := by
 unfold wop at h ⊢
 split at h
 · exact wact_det hn h
 · split at h
   · rename_i t b _ _ y hy
     cases y <;> cases b <;> simp [Br] at h ⊢ <;> first | exact wact_det hn h | exact ⟨_, fun K' => Iff.rfl⟩
   · exact ⟨_, fun K' => Iff.rfl⟩
   · exact h.elim

theorem linX_ne (ops : Array Oper) : ∀ (f : Nat) (listed : Array Bool), linX ops f listed ≠ []
 | 0, listed => by unfold linX; split <;> simp
 | f + 1, listed => by
   unfold linX
   split
   · simp
   · rename_i i r _
     have := linX_ne ops f (listed.setIfInBounds i true)
     intro h
     rw [List.flatMap_cons] at h
     exact this (List.map_eq_nil_iff.1 (List.append_eq_nil_iff.1 h).1)

theorem noCall_get {i : Nat} {x : AOp} : ∀ {xs : List AOp}, noCall xs = true → xs[i]? = some x → (match x.a with | .call _ _ => false | .callv _ _ => false | .callH _ _ => false | .inv _ _ _ => false | _ => true) = true
 | [], _, h => by simp at h
 | y :: ys, hn, h => by
   simp only [noCall, Bool.and_eq_true] at hn
   revert h
   revert i
   intro i h
   cases i with
   | zero => simp at h; subst h; exact hn.1
   | succ i => simp at h; exact noCall_get hn.2 h

theorem linX_wany (hn : noCall xs = true) (hsz : ops.size = xs.length) : ∀ (f : Nat) (listed : Array Bool) (σ : St), (∀ p ∈ linX ops f listed, ∃ ys, pickA xs p = some ys ∧ wops Φ ys K σ) →
 wanyB Φ ops xs K f listed σ := by
 intro f
 induction f with
 | zero =>
   intro listed σ h
   unfold linX at h
   split at h
   · rename_i hr
     obtain ⟨ys, h1, h2⟩ := h [] (by simp)
     simp only [pickA, Option.some.injEq] at h1
     subst h1
     exact ⟨hr, h2⟩
   · obtain ⟨ys, h1, _⟩ := h [ops.size] (by simp)
     simp [pickA, hsz] at h1
 | succ f ih =>
   intro listed σ h
   unfold linX at h
   split at h
   · rename_i hr
     obtain ⟨ys, h1, h2⟩ := h [] (by simp)
     simp only [pickA, Option.some.injEq] at h1
     subst h1
     refine ⟨fun _ => h2, fun i hi => ?_⟩
     rw [hr] at hi
     cases hi
   · rename_i i0 r hr
     refine ⟨fun h0 => (by rw [hr] at h0; cases h0), fun i hi => ?_⟩
     rw [hr] at hi
     have hall : ∀ p ∈ linX ops f (listed.setIfInBounds i true), ∃ ys, pickA xs (i :: p) = some ys ∧ wops Φ ys K σ := fun p hp => h (i :: p) (List.mem_flatMap.2 ⟨i, hi, List.mem_map.2 ⟨p, hp, rfl⟩⟩)
     obtain ⟨p0, hp0⟩ := List.exists_mem_of_ne_nil _ (linX_ne ops f (listed.setIfInBounds i true))
     obtain ⟨ys0, h0, hw0⟩ := hall p0 hp0
     simp only [pickA] at h0
     split at h0
     · rename_i x ys1 hx hy1
       cases h0
       obtain ⟨τ, hτ⟩ := wop_det (noCall_get hn hx) hw0
       refine ⟨x, hx, (hτ _).2 (ih _ τ (fun p hp => ?_))⟩
       obtain ⟨ys, h2, hw⟩ := hall p hp
       simp only [pickA, hx] at h2
       split at h2
       · rename_i x' ys2 hx' hy2
         cases hx'
         cases h2
         exact ⟨ys2, hy2, (hτ _).1 hw⟩
       · cases h2
     · cases h0

theorem wop_mono {x : AOp} {σ : St} {K K' : St → Prop} (h : qW Φ x K σ) (hk : ∀ τ, K τ → K' τ) : wop Φ x K' σ := wopD_wop (wopD_mono h hk)
theorem wanyA_B : ∀ (f : Nat) (listed : Array Bool) {σ : St}, wanyA Φ ops xs K f listed σ → wanyB Φ ops xs K f listed σ
 | 0, _, _, h => h
 | f + 1, _, _, h => ⟨h.1, fun i hi => by
   obtain ⟨x, hx, hw⟩ := h.2 i hi
   exact ⟨x, hx, wop_mono hw fun τ hτ => wanyA_B f _ hτ⟩⟩

def freeOK (xs : List AOp) (anc : List Nat) (listed : Array Bool) (i : Nat) : Bool := match xs[i]? with
 | some x => (List.range xs.length).all fun j => decide (j = i) || listed.getD j true || ancB anc j i || (match xs[j]? with
   | some y => apartB x y
   | none => true)
 | none => false
def firstP (xs : List AOp) (anc : List Nat) (listed : Array Bool) : List Nat → Option Nat
 | [] => none
 | i :: l => if freeOK xs anc listed i = true then some i else firstP xs anc listed l
def joinT : List (Option OT) → Option OT
 | [] => none
 | [t] => t
 | t :: ts => match t, joinT ts with
   | some a, some b => some (.both a b)
   | _, _ => none
def opT : Option AOp → Option OT → Option OT
 | some x, some t => some (.op x t)
 | _, _ => none
def linY (ops : Array Oper) (xs : List AOp) (anc : List Nat) : Nat → Array Bool → Option OT
 | 0, listed => match Region.ready .any ops listed with
   | [] => some .nil
   | _ => none
 | f + 1, listed => match Region.ready .any ops listed with
   | [] => some .nil
   | i :: r => match firstP xs anc listed (i :: r) with
     | some k => opT xs[k]? (linY ops xs anc f (listed.setIfInBounds k true))
     | none => joinT ((i :: r).map fun k => opT xs[k]? (linY ops xs anc f (listed.setIfInBounds k true)))
theorem opT_some {x : Option AOp} {t : Option OT} {u : OT} (h : opT x t = some u) : ∃ y v, x = some y ∧ t = some v ∧ u = .op y v := by
 unfold opT at h
 split at h
 · cases h; exact ⟨_, _, rfl, rfl, rfl⟩
 · cases h
theorem joinT_all {K : St → Prop} {σ : St} : ∀ {ts : List (Option OT)} {t : OT}, joinT ts = some t → wtree Φ t K σ → ∀ u ∈ ts, ∃ v, u = some v ∧ wtree Φ v K σ
 | [], _, h, _, _, _ => by cases h
 | [t0], t, h, hW, u, hu => by
   simp only [joinT] at h
   simp only [List.mem_singleton] at hu
   subst hu
   exact ⟨t, h, hW⟩
 | t0 :: t1 :: ts, t, h, hW, u, hu => by
   simp only [joinT] at h
   cases t0 with
   | none => cases h
   | some a =>
     cases h2 : joinT (t1 :: ts) with
     | none => simp [h2] at h
     | some b =>
       simp only [h2, Option.some.injEq] at h
       subst h
       rcases List.mem_cons.1 hu with rfl | hu
       · exact ⟨a, rfl, hW.1⟩
       · exact joinT_all h2 hW.2 u hu
theorem firstP_mem {anc : List Nat} {listed : Array Bool} {l : List Nat} {k : Nat} (h : firstP xs anc listed l = some k) : k ∈ l ∧ freeOK xs anc listed k = true := by
 induction l with
 | nil => cases h
 | cons i l ih =>
   simp only [firstP] at h
   split at h
   · rename_i hf; cases h; exact ⟨by simp, hf⟩
   · exact ⟨List.mem_cons_of_mem _ (ih h).1, (ih h).2⟩
theorem linY_wany {anc : List Nat} (ha : AncOK ops anc) (hK : Inv K) : ∀ (f : Nat) (listed : Array Bool) (σ : St) (t : OT), Closed ops listed → linY ops xs anc f listed = some t → wtree Φ t K σ →
 wanyA Φ ops xs K f listed σ := by
 intro f
 induction f with
 | zero =>
   intro listed σ l hc h hW
   unfold linY at h
   split at h
   · rename_i hr
     cases h
     exact ⟨hr, hW⟩
   · cases h
 | succ f ih =>
   intro listed σ l hc h hW
   unfold linY at h
   split at h
   · rename_i hr
     cases h
     exact ⟨fun _ => hW, fun i hi => by rw [hr] at hi; cases hi⟩
   · rename_i i r hr
     split at h
     · rename_i k hk
       obtain ⟨x, l', hx, hl', rfl⟩ := opT_some h
       obtain ⟨hk1, hfree⟩ := firstP_mem hk
       have hkr : k ∈ Region.ready .any ops listed := by rw [hr]; exact hk1
       refine wanyA_first ha hK hx f listed σ hc ?_ hkr (wopD_mono hW fun τ hτ => ih _ τ l' (hc.set hkr) hl' hτ)
       intro j y hy hjk hun hno
       unfold freeOK at hfree
       rw [hx] at hfree
       have := List.all_eq_true.1 hfree j (List.mem_range.2 (List.getElem?_eq_some_iff.1 hy).1)
       simp only [hun, hno, hy, Bool.or_false, Bool.or_eq_true, decide_eq_true_eq, hjk, false_or] at this
       exact this
     · refine ⟨fun h0 => (by rw [hr] at h0; cases h0), fun k hk => ?_⟩
       obtain ⟨v, hv, hWv⟩ := joinT_all h hW _ (List.mem_map.2 ⟨k, by rw [hr] at hk; exact hk, rfl⟩)
       obtain ⟨x, l', hx, hl', rfl⟩ := opT_some hv
       exact ⟨x, hx, wopD_mono hWv fun τ hτ => ih _ τ l' (hc.set hk) hl' hτ⟩
def ancChk (ops : Array Oper) (anc : List Nat) : Bool :=
 ((List.range ops.size).all fun j => match ops[j]? with
   | some o => o.after.toList.all fun e => !(Region.binds .any e) || decide (e.on < j)
   | none => true) &&
 ((List.range ops.size).all fun j => match ops[j]? with
   | some o => (List.range j).all fun i => !(Nat.testBit (anc.getD j 0) i) || o.after.toList.any fun e => Region.binds .any e && (decide (e.on = i) || ancB anc e.on i)
   | none => true)
theorem ancChk_anc {anc : List Nat} (hd : ancChk ops anc = true) : AncOK ops anc := by
 simp only [ancChk, Bool.and_eq_true] at hd
 obtain ⟨hed, hanc⟩ := hd
 intro j i oj hj hb
 simp only [ancB, Bool.and_eq_true, decide_eq_true_eq] at hb
 have hs : j < ops.size := (Array.getElem?_eq_some_iff.1 hj).1
 have h1 := List.all_eq_true.1 hanc j (List.mem_range.2 hs)
 simp only [hj] at h1
 have h2 := List.all_eq_true.1 h1 i (List.mem_range.2 hb.1)
 simp only [hb.2, Bool.not_true, Bool.false_or] at h2
 obtain ⟨e, he, h3⟩ := List.any_eq_true.1 h2
 simp only [Bool.and_eq_true, Bool.or_eq_true, decide_eq_true_eq] at h3
 have h4 := List.all_eq_true.1 hed j (List.mem_range.2 hs)
 simp only [hj] at h4
 have h5 := List.all_eq_true.1 h4 e he
 simp only [h3.1, Bool.not_true, Bool.false_or, decide_eq_true_eq] at h5
 exact ⟨e, by simpa using he, h3.1, h5, h3.2⟩
theorem Closed.start {n : Nat} : Closed ops (Array.replicate n false) := by
 intro j oj hj hl
 by_cases hjn : j < n
 · simp [hjn] at hl
 · simp [hjn] at hl

theorem LOs_get {ps : List Nat} {os : List Oper} {ys : List AOp} (h : LOs P N ps ops os ys) : ∀ {i : Nat} {o : Oper} {y : AOp}, os[i]? = some o → ys[i]? = some y → LO P N ps ops o y := by
 induction h with
 | nil => intro i o y h; simp at h
 | cons hl hs ih =>
   intro i o y h1 h2
   cases i with
   | zero => simp at h1 h2; subst h1; subst h2; exact hl
   | succ i => simp at h1 h2; exact ih h1 h2

theorem any_sound {Q : Exit → Act → World → Prop} {K : St → Prop} (hL : LOs P N B.ps ops ops.toList xs) (hK : ∀ κ' M' σ' a' w', K σ' → Rel N M0 B w0 κ' M' σ' a' w' → Q .normal a' w') :
 ∀ (f : Nat) (listed : Array Bool) {κ : Kap} {M : Mem} {σ : St} {a : Act} {w : World}, Rel N M0 B w0 κ M σ a w → wanyB (Cn P) ops xs K f listed σ → wpAny P .any ops Q f listed a w
 | 0, _, _, _, _, _, _, H, hW => ⟨hW.1, hK _ _ _ _ _ hW.2 H⟩
 | f + 1, listed, _, _, _, _, _, H, hW => by
   refine ⟨fun h0 => hK _ _ _ _ _ (hW.1 h0) H, fun i hi => ?_⟩
   obtain ⟨x, hx, hw⟩ := hW.2 i hi
   obtain ⟨_, o, ho, _⟩ := mem_ready.1 hi
   have hl := LOs_get hL (by simpa using ho) hx
   have := op_sound H hl hw (Q := Q) (fun κ' M' σ' a' w' hk H' => any_sound hL hK f _ H' hk)
   unfold wpOp
   simp only [ho]
   split
   · rename_i hwd; rw [if_pos hwd] at this; exact .inl this
   · rename_i hwd; rw [if_neg hwd] at this; exact this

theorem Rel.draw {κ : Kap} {M : Mem} {σ : St} {a : Act} {w : World} (H : Rel N M0 B w0 κ M σ a w) (n : Nat) : Rel N M0 B w0 κ M σ a { w with drawn := n } :=
 { dfr := H.dfr, pin := H.pin, size := H.size, regs := H.regs, heap := fun id ob h => by
    have := H.heap id ob h
    cases ob <;> exact this
   inj := H.inj, snd := H.snd, sep := H.sep, sub := H.sub, new := H.new, base := H.base, blw := ⟨H.blw.os, H.blw.tape, H.blw.output, H.blw.size, H.blw.block, H.blw.siz⟩ }

inductive LC (P : Program) (N : Nat) (ps : List Nat) : Code → AC → Prop
 | skip : LC P N ps .skip .skip
 | reg {id ops xs ks} : LOs P N ps ops ops.toList xs → LC P N ps (.region id ops false) (.reg xs ks)
 | regD {id ops xs ys anc perm ks} : LOs P N ps ops ops.toList xs → drawOK ops xs anc perm = true → pickA xs perm = some ys → LC P N ps (.region id ops true) (.regD ys ks)
 | regE {id ops xs yss ks} : LOs P N ps ops ops.toList xs → noCall xs = true → ops.size = xs.length → pickAs xs (linX ops ops.size (Array.replicate ops.size false)) = some yss → LC P N ps (.region id ops true) (.regE yss ks)
 | regF {id ops xs yss anc ks} : LOs P N ps ops ops.toList xs → ancChk ops anc = true → linY ops xs anc ops.size (Array.replicate ops.size false) = some yss → LC P N ps (.region id ops true) (.regF yss ks)
 | scope {c rest a b l ks} : LC P N ps c a → findLabel c l = some rest → LC P N ps rest b → LC P N ps (.scope c) (.scope l ks a b)
 | label {l} : LC P N ps (.label l) (.label l)
 | goto {l} : LC P N ps (.goto l) (.goto l)
 | bad {x} : LC P N ps x .bad
 | seq {x y a b} : LC P N ps x a → LC P N ps y b → LC P N ps (.seq x y) (.seq a b)
 | cond {c c' x y a b t} : cO P t c = some c' → LC P N ps x a → LC P N ps y b → LC P N ps (.cond c x y) (.cond c' a b)
 | block {id x a} : LC P N ps x a → LC P N ps (.block id x) (.block id a)
 | loop {x a ks} : LC P N ps x a → LC P N ps (.loop x) (.loop ks a)
 | exit {id} : LC P N ps (.exit id) (.exit id)
 | ret : LC P N ps .ret .ret

def Ex.out : Ex → Exit
 | .norm => .normal
 | .exit id => .exit id
 | .goto l => .goto l
 | .ret => .ret

theorem cls_sound {κ : Kap} {M : Mem} {σ σ' : St} {a : Act} {w : World} (H : Rel N M0 B w0 κ M σ' a w) (ks : List Nat) : Rel N M0 B w0 κ M (σ.cls σ' ks) a w := H.forget _ fun t v h => lk_pk h

theorem pk_congr {r s : List (Nat × V)} (h : ∀ t, lk s t = lk r t) : ∀ ks, pk s ks = pk r ks
 | [] => rfl
 | k :: ks => by simp only [pk, h k, pk_congr h ks]

theorem nrm_inv {R : St → Prop} (ks : List Nat) : Inv (fun σ' => R (σ'.nrm ks)) := by
 intro σ1 τ he h1
 have : τ.nrm ks = σ1.nrm ks := by
  simp only [St.nrm, he.1, pk_congr he.2]
 show R (τ.nrm ks)
 rw [this]; exact h1
theorem least_of {p : Nat → Prop} (h : ∃ n, p n) : ∃ n, p n ∧ ∀ m, p m → n ≤ m := by
 obtain ⟨n, hn⟩ := h
 induction n using Nat.strongRecOn with
 | _ n ih =>
   by_cases hm : ∃ m, m < n ∧ p m
   · obtain ⟨m, h1, h2⟩ := hm
     exact ih m h1 h2
   · exact ⟨n, hn, fun m h => by
      rcases Nat.lt_or_ge m n with h1 | h1
      · exact (hm ⟨m, h1, h⟩).elim
      · exact h1⟩
open Classical in
noncomputable def leastN (p : Nat → Prop) : Nat := if h : ∃ n, p n then (least_of h).choose else 0
theorem leastN_spec {p : Nat → Prop} (h : ∃ n, p n) : p (leastN p) ∧ ∀ m, p m → leastN p ≤ m := by
 unfold leastN
 rw [dif_pos h]
 exact (least_of h).choose_spec
theorem W_sound (hm : P.follows .mixedOrders = true) {c : Code} {x : AC} (h : LC P N B.ps c x) : ∀ {Q : Exit → Act → World → Prop} {R : Ex → St → Prop},
 (∀ e κ M σ a w, R e σ → Rel N M0 B w0 κ M σ a w → Q e.out a w) → ∀ {κ : Kap} {M : Mem} {σ : St} {a : Act} {w : World}, Rel N M0 B w0 κ M σ a w → W (Cn P) x R σ → c.wp P Q a w := by
 induction h with
 | skip => intro Q R hQ κ M σ a w H hW; exact wp_skip (hQ .norm _ _ _ _ _ hW H)
 | reg hL =>
   intro Q R hQ κ M σ a w H hW
   refine wp_region_list (ops_sound (fun κ' M' σ' a' w' hk H' => ?_) hL H hW)
   exact hQ .norm _ _ _ _ _ hk (cls_sound H' _)
 | @regD id ops xs ys anc perm ks hL hd hp =>
   intro Q R hQ κ M σ a w H hW
   refine wp_region_any hm ?_
   have hinv : Inv (fun σ' => R .norm (σ.cls σ' ks)) := by
    intro σ1 τ he h1
    have : σ.cls τ ks = σ.cls σ1 ks := by
     simp only [St.cls, he.1, pk_congr he.2]
    rw [this]; exact h1
   refine any_sound hL (fun κ' M' σ' a' w' hk H' => ?_) _ _ (H.draw _) (wanyA_B _ _ (drawOK_wany hd hp hinv hW))
   exact hQ .norm _ _ _ _ _ hk (cls_sound H' _)
 | @regE id ops xs yss ks hL hn hsz hp =>
   intro Q R hQ κ M σ a w H hW
   refine wp_region_any hm ?_
   have key : ∀ (ps : List (List Nat)) (yss : List (List AOp)), pickAs xs ps = some yss → wall (Cn P) yss (fun σ' => R .norm (σ.cls σ' ks)) σ → ∀ p ∈ ps, ∃ ys, pickA xs p = some ys ∧ wops (Cn P) ys (fun σ' => R .norm (σ.cls σ' ks)) σ := by
    intro ps
    induction ps with
    | nil => intro _ _ _ p hp; cases hp
    | cons q ps ih =>
      intro yss h1 h2 p hp
      simp only [pickAs] at h1
      split at h1
      · rename_i y ys hy hys
        cases h1
        rcases List.mem_cons.1 hp with rfl | hp
        · exact ⟨y, hy, h2.1⟩
        · exact ih ys hys h2.2 p hp
      · cases h1
   refine any_sound hL (fun κ' M' σ' a' w' hk H' => ?_) _ _ (H.draw _) (linX_wany hn hsz _ _ σ (key _ _ hp hW))
   exact hQ .norm _ _ _ _ _ hk (cls_sound H' _)
 | @regF id ops xs yss anc ks hL hanc hp =>
   intro Q R hQ κ M σ a w H hW
   refine wp_region_any hm ?_
   refine any_sound hL (fun κ' M' σ' a' w' hk H' => ?_) _ _ (H.draw _) (wanyA_B _ _ (linY_wany (ancChk_anc hanc) (nrm_inv (R := R .norm) ks) _ _ σ _ Closed.start hp hW))
   obtain ⟨κ2, H2⟩ := H'.nrm ks
   exact hQ .norm _ _ _ _ _ hk H2
 | @scope c rest x y l ks _ hf _ iha ihb =>
   intro Q R hQ κ M σ a w H hW
   obtain ⟨I, h1, h2⟩ := hW
   have G : ∀ a w, (∃ n κ M τ, I n τ ∧ Rel N M0 B w0 κ M τ a w) → ∃ n, ∃ κ M τ, I n τ ∧ Rel N M0 B w0 κ M τ a w := fun _ _ h => h
   refine wp_scope_jumps l (fun a w => ∃ n κ M τ, I n τ ∧ Rel N M0 B w0 κ M τ a w) (fun a w => leastN fun n => ∃ κ M τ, I n τ ∧ Rel N M0 B w0 κ M τ a w) hf (iha ?_ H h1) ?_
   · intro e κ M σ a w hR H
     cases e with
     | norm => exact hQ .norm _ _ _ _ _ hR H
     | exit id => exact hQ (.exit id) _ _ _ _ _ hR H
     | ret => exact hQ .ret _ _ _ _ _ hR H
     | goto l' =>
       obtain ⟨rfl, n, ms, τ'', g1, g2⟩ := hR
       obtain ⟨κ', M', H'⟩ := H.mats g1
       obtain ⟨κ2, H2⟩ := H'.nrm ks
       exact ⟨rfl, n, _, _, _, g2, H2⟩
   · intro a w hJ
     obtain ⟨⟨κ, M, τ, hI, H⟩, hmin⟩ := leastN_spec hJ
     refine ihb ?_ H (h2 _ τ hI)
     intro e κ M σ a w hR H
     cases e with
     | norm => exact hQ .norm _ _ _ _ _ hR H
     | exit id => exact hQ (.exit id) _ _ _ _ _ hR H
     | ret => exact hQ .ret _ _ _ _ _ hR H
     | goto l' =>
       obtain ⟨rfl, m, ms, τ'', g1, g2, g3⟩ := hR
       obtain ⟨κ', M', H'⟩ := H.mats g1
       obtain ⟨κ2, H2⟩ := H'.nrm ks
       have hJ' : ∃ n, ∃ κ M τ, I n τ ∧ Rel N M0 B w0 κ M τ a w := ⟨m, _, _, _, g2, H2⟩
       exact ⟨rfl, hJ', Nat.lt_of_le_of_lt ((leastN_spec hJ').2 m ⟨_, _, _, g2, H2⟩) g3⟩
 | label => intro Q R hQ κ M σ a w H hW; exact wp_label (hQ .norm _ _ _ _ _ hW H)
 | goto => intro Q R hQ κ M σ a w H hW; exact wp_goto (hQ (.goto _) _ _ _ _ _ hW H)
 | bad =>
   intro Q R hQ κ M σ a w H hW
   exact hW.elim
 | seq _ _ iha ihb =>
   intro Q R hQ κ M σ a w H hW
   refine wp_seq (iha ?_ H hW)
   intro e κ M σ a w hR H
   cases e with
   | norm => exact ihb hQ H hR
   | exit id => exact hQ (.exit id) _ _ _ _ _ hR H
   | goto l => exact hQ (.goto l) _ _ _ _ _ hR H
   | ret => exact hQ .ret _ _ _ _ _ hR H
 | cond hc _ _ iha ihb =>
   intro Q R hQ κ M σ a w H hW
   simp only [W] at hW
   split at hW
   · rename_i t ht
     have hv := H.op hc ht
     exact wp_cond_split (rep_bool hv) (fun h => iha hQ H (hW.1 h)) (fun h => ihb hQ H (hW.2 h))
   · exact hW.elim
 | @block id x a _ ih =>
   intro Q R hQ κ M σ a w H hW
   refine wp_block (ih ?_ H hW)
   intro e κ M σ a w hR H
   cases e with
   | norm => exact hQ .norm _ _ _ _ _ hR H
   | exit id' =>
     simp only [Ex.inBlock] at hR
     simp only [Ex.out, Exit.inBlock]
     split
     · rename_i he; rw [if_pos he] at hR; exact hQ .norm _ _ _ _ _ hR H
     · rename_i he; rw [if_neg he] at hR; exact hQ (.exit id') _ _ _ _ _ hR H
   | goto l => exact hQ (.goto l) _ _ _ _ _ hR H
   | ret => exact hQ .ret _ _ _ _ _ hR H
 | @loop x a ks _ ih =>
   intro Q R hQ κ M σ a w H hW
   obtain ⟨I, ⟨n, ms, σ', hms, hI⟩, hr⟩ := hW
   obtain ⟨κ', M', H'⟩ := H.mats hms
   obtain ⟨κ2, H2⟩ := H'.nrm ks
   refine wp_loop_ghost (fun n a w => ∃ κ M τ, I n τ ∧ Rel N M0 B w0 κ M τ a w) n ⟨_, _, _, hI, H2⟩ ?_
   rintro n a w ⟨κ, M, τ, hI, H⟩
   refine ih ?_ H (hr n τ hI)
   intro e κ M σ a w hR H
   cases e with
   | norm =>
     obtain ⟨m, ms, τ', h1, h2, h3⟩ := hR
     obtain ⟨κ', M', H'⟩ := H.mats h1
     obtain ⟨κ2, H2⟩ := H'.nrm ks
     exact ⟨m, h3, _, _, _, h2, H2⟩
   | exit id => exact hQ (.exit id) _ _ _ _ _ hR H
   | goto l => exact hQ (.goto l) _ _ _ _ _ hR H
   | ret => exact hQ .ret _ _ _ _ _ hR H
 | exit => intro Q R hQ κ M σ a w H hW; exact wp_exit (hQ (.exit _) _ _ _ _ _ hW H)
 | ret => intro Q R hQ κ M σ a w H hW; exact wp_ret (hQ .ret _ _ _ _ _ hW H)
end
end Go.Abs
end
