/-
  Operations in any order: what an operation looks at and what it turns, and that two that are apart may change places. No condition.
  Regions whose order is drawn, and whole code: what 'W' says of the image holds of the code. No condition.
  The image of a function's code, reckoned; and a function's contract from what 'W' says of the image. No condition.
  What 'simp' is told of the abstract machine: it goes through code step by step, and looks at nothing that lies ahead. No condition.
  Short words for the abstract machine's code. No condition.
-/
import Derived.Test.YtkeanhihgfnkoaaGreatDoorXAbs6b
import Derived.Deep.LoopGhost
import Derived.ScopeJumps
set_option linter.unusedVariables false
set_option linter.unusedSimpArgs false
set_option linter.unusedSectionVars false
section
namespace Go.Abs

def AO.rd : AO → List Nat
 | .t n => [n]
 | .v _ => []
def rdo : Option AO → List Nat
 | none => []
 | some x => x.rd
def rdl : List AO → List Nat
 | [] => []
 | x :: xs => x.rd ++ rdl xs
def rdp : List (Nat × Nat × AO) → List Nat
 | [] => []
 | (_, _, x) :: ps => x.rd ++ rdp ps
def Act'.rds : Act' → List Nat
 | .mov x => x.rd
 | .pick c a b => c.rd ++ (a.rd ++ b.rd)
 | .fld x _ _ _ => x.rd
 | .fa x _ => x.rd
 | .ia x i _ => x.rd ++ i.rd
 | .iaa x i _ _ => x.rd ++ i.rd
 | .ld x _ _ => x.rd
 | .ixs x i => x.rd ++ i.rd
 | .ixa x i _ _ _ => x.rd ++ i.rd
 | .bin _ x y => x.rd ++ y.rd
 | .un _ x => x.rd
 | .cii _ x => x.rd
 | .s2b x => x.rd
 | .b2s x => x.rd
 | .sls x lo hi => x.rd ++ (rdo lo ++ rdo hi)
 | .slq x lo hi _ => x.rd ++ (rdo lo ++ rdo hi)
 | .lens x => x.rd
 | .lenq x => x.rd
 | .beq _ x y => x.rd ++ y.rd
 | .ext x _ => x.rd
 | .bld _ ps => rdp ps
 | .lit _ _ xs => rdl xs
 | .ltr _ _ xs => rdl xs
 | .mkf _ a b => rdl a ++ rdl b
 | .nlc x => x.rd
 | .alc _ => []
 | .box x => x.rd
 | .st _ a x => a.rd ++ x.rd
 | .app x y _ _ _ => x.rd ++ y.rd
 | .mks _ _ _ _ n => n.rd
 | .mkm _ _ _ _ n => n.rd
 | .mk0 _ _ _ n => n.rd
 | .call _ xs => rdl xs
 | .callv g xs => g.rd ++ rdl xs
 | .callH _ xs => rdl xs
 | .mki _ x => x.rd
 | .aeq _ _ x y => x.rd ++ y.rd
 | .mkp _ => []
 | .lkp _ _ _ x k => x.rd ++ k.rd
 | .mup _ x k v => x.rd ++ (k.rd ++ v.rd)
 | .inv _ x xs => x.rd ++ rdl xs
 | .mm _ x y => x.rd ++ y.rd
 | .trc x hi _ => x.rd ++ hi.rd
 | .nlq _ _ x => x.rd
 | .yld g xs => g.rd ++ rdl xs
 | .bad => []
def appKind : AO → Nat
 | .v (.nil _) => 2
 | _ => 3
theorem appKind_ge (x : AO) : 2 ≤ appKind x := by unfold appKind; split <;> decide
def Act'.kind : Act' → Nat
 | .fa _ _ => 1
 | .ia _ _ _ => 1
 | .iaa _ _ _ _ => 1
 | .ld _ _ _ => 1
 | .b2s _ => 1
 | .lenq _ => 1
 | .nlc _ => 1
 | .call _ _ => 1
 | .callv _ _ => 1
 | .alc _ => 2
 | .box _ => 2
 | .mks _ _ _ _ _ => 2
 | .mkm _ _ _ _ _ => 2
 | .mk0 _ _ _ _ => 2
 | .st _ _ _ => 3
 | .callH _ _ => 3
 | .lkp _ _ _ _ _ => 1
 | .mkp _ => 2
 | .mup _ _ _ _ => 3
 | .inv _ _ _ => 3
 | .trc _ _ _ => 3
 | .ltr _ _ _ => 3
 | .yld _ _ => 3
 | .nlq _ _ _ => 1
 | .app x _ _ _ _ => appKind x
 | _ => 0
def AOp.rds (o : AOp) : List Nat := o.a.rds ++ (match o.g with
 | none => []
 | some (t, _) => [t])

def Agr (σ σ' : St) (rs : List Nat) : Prop := ∀ t, t ∈ rs → lk σ'.r t = lk σ.r t
def Ext (σ σ' : St) : Prop := ∀ (id : Nat) (ob : Ob), σ.h[id]? = some (some ob) → σ'.h[id]? = some (some ob)

section
variable {σ σ' : St}
theorem Agr.sub {rs ss : List Nat} (h : Agr σ σ' rs) (hs : ∀ t, t ∈ ss → t ∈ rs) : Agr σ σ' ss := fun t ht => h t (hs t ht)
theorem Agr.l {rs ss : List Nat} (h : Agr σ σ' (rs ++ ss)) : Agr σ σ' rs := h.sub fun t ht => List.mem_append_left _ ht
theorem Agr.r {rs ss : List Nat} (h : Agr σ σ' (rs ++ ss)) : Agr σ σ' ss := h.sub fun t ht => List.mem_append_right _ ht
theorem Agr.ev {x : AO} (h : Agr σ σ' x.rd) : σ'.ev x = σ.ev x := by
 cases x with
 | t n => exact h n (by simp [AO.rd])
 | v x => rfl
theorem Agr.evo {d : V} {x : Option AO} (h : Agr σ σ' (rdo x)) : σ'.evo d x = σ.evo d x := by
 cases x with
 | none => rfl
 | some x => exact Agr.ev (x := x) h
theorem Agr.evs : ∀ {xs : List AO}, Agr σ σ' (rdl xs) → σ'.evs xs = σ.evs xs
 | [], _ => rfl
 | x :: xs, h => by simp only [St.evs, Agr.ev (Agr.l h), Agr.evs (Agr.r h)]
theorem Agr.bldV : ∀ {ps : List (Nat × Nat × AO)} {cs : List V}, Agr σ σ' (rdp ps) → bldV σ' cs ps = bldV σ cs ps
 | [], _, _ => rfl
 | (off, n, x) :: ps, cs, h => by
   simp only [Abs.bldV, Agr.ev (Agr.l h)]
   cases σ.ev x with
   | none => rfl
   | some v =>
     simp only
     split
     · cases splice cs off (cl v) with
       | none => rfl
       | some cs' => exact Agr.bldV (Agr.r h)
     · rfl

theorem Ext.refl : Ext σ σ := fun _ _ h => h
theorem Ext.box (h : Ext σ σ') {id cs} (hb : σ.box? id = some cs) : σ'.box? id = some cs := by
 simp only [St.box?, h _ _ (box?_eq hb)]
theorem Ext.arr (h : Ext σ σ') {id x} (hb : σ.arr? id = some x) : σ'.arr? id = some x := by
 simp only [St.arr?, h _ _ (arr?_eq hb)]
theorem Ext.mat (h : Ext σ σ') {id x} (hb : σ.rws? id = some x) : σ'.rws? id = some x ∧ σ'.arr? id = none := by
 constructor
 · simp only [St.rws?, h _ _ (rws?_eq hb)]
 · simp only [St.arr?, h _ _ (rws?_eq hb)]
theorem Ext.mp (h : Ext σ σ') {id x} (hb : σ.mp? id = some x) : σ'.mp? id = some x := by
 simp only [St.mp?, h _ _ (mp?_eq hb)]
theorem Ext.live (h : Ext σ σ') {v : V} (hv : σ.live v = true) : σ'.live v = true := by
 cases v <;> simp only [St.live] at hv ⊢ <;> try assumption
 case ptr id off =>
  obtain ⟨cs, hc⟩ := Option.isSome_iff_exists.1 hv
  rw [h.box hc]; rfl
 case eptr id n i off =>
  split at hv
  · rename_i e sz l hl
    rw [h.arr hl]; exact hv
  · cases hv
 case mptr id i n k off =>
  split at hv
  · rename_i e e2 sz l hl
    rw [(h.mat hl).1]; exact hv
  · cases hv
 case fn f a b => cases f <;> exact hv
theorem Ext.fetch (h : Ext σ σ') {p : V} {n : Nat} {us : List V} (hv : σ.fetch p n = some us) : σ'.fetch p n = some us := by
 cases p <;> simp only [St.fetch] at hv ⊢ <;> try assumption
 case ptr id off =>
  split at hv
  · rename_i cs hc; rw [h.box hc]; exact hv
  · cases hv
 case eptr id m i off =>
  split at hv
  · rename_i e sz l hl; rw [h.arr hl]; exact hv
  · split at hv
    · rename_i e e2 sz l hl; simp only [(h.mat hl).1, (h.mat hl).2]; exact hv
    · cases hv
 case mptr id i n k off =>
  split at hv
  · rename_i e e2 sz l hl
    rw [(h.mat hl).1]; exact hv
  · cases hv
theorem Ext.pur1 (h : Ext σ σ') {id n : Nat} {u : V} (hv : pur1 σ.h id n = some u) : pur1 σ'.h id n = some u := by
 unfold Abs.pur1 at hv ⊢
 split at hv
 · rename_i hb; rw [h _ _ hb]; exact hv
 · rename_i hb; rw [h _ _ hb]; exact hv
 · cases hv
theorem Ext.pur2 (h : Ext σ σ') {id i n : Nat} {u : V} (hv : pur2 σ.h id i n = some u) : pur2 σ'.h id i n = some u := by
 unfold Abs.pur2 at hv ⊢
 split at hv
 · rename_i hb; rw [h _ _ hb]; exact hv
 · cases hv
mutual
theorem Ext.pur (h : Ext σ σ') : ∀ {v u : V}, pur σ.h v = some u → pur σ'.h v = some u
 | .nil sz, _, hv => by simp only [Abs.pur] at hv ⊢; exact hv
 | .ref id n, _, hv => by simp only [Abs.pur] at hv ⊢; exact h.pur1 hv
 | .mref id i n, _, hv => by simp only [Abs.pur] at hv ⊢; exact h.pur2 hv
 | .fseq _ _, _, hv => by simp only [Abs.pur] at hv ⊢; exact hv
 | .mptr _ _ _ _ _, _, hv => by simp only [Abs.pur] at hv; cases hv
 | .strct cs, _, hv => by
   simp only [Abs.pur, Option.map_eq_some_iff] at hv ⊢
   obtain ⟨us, h1, h2⟩ := hv
   exact ⟨us, Ext.purs h h1, h2⟩
 | .tup cs, _, hv => by
   simp only [Abs.pur, Option.map_eq_some_iff] at hv ⊢
   obtain ⟨us, h1, h2⟩ := hv
   exact ⟨us, Ext.purs h h1, h2⟩
 | .fn f a b, _, hv => by
   simp only [Abs.pur] at hv ⊢
   split at hv
   · rename_i a' b' h1 h2; rw [Ext.purs h h1, Ext.purs h h2]; exact hv
   · cases hv
 | .iface t x, _, hv => by
   simp only [Abs.pur, Option.map_eq_some_iff] at hv ⊢
   obtain ⟨us, h1, h2⟩ := hv
   exact ⟨us, Ext.pur h h1, h2⟩
 | .ptr _ _, _, hv => by simp only [Abs.pur] at hv; cases hv
 | .eptr _ _ _ _, _, hv => by simp only [Abs.pur] at hv; cases hv
 | .int _ _, _, hv => by simp only [Abs.pur] at hv ⊢; exact hv
 | .bool _, _, hv => by simp only [Abs.pur] at hv ⊢; exact hv
 | .str _, _, hv => by simp only [Abs.pur] at hv ⊢; exact hv
 | .seq _ _, _, hv => by simp only [Abs.pur] at hv ⊢; exact hv
 | .sptr _ _, _, hv => by simp only [Abs.pur] at hv ⊢; exact hv
 | .nilptr, _, hv => by simp only [Abs.pur] at hv ⊢; exact hv
 | .nilfn, _, hv => by simp only [Abs.pur] at hv ⊢; exact hv
 | .niliface, _, hv => by simp only [Abs.pur] at hv ⊢; exact hv
 | .junk, _, hv => by simp only [Abs.pur] at hv ⊢; exact hv
theorem Ext.purs (h : Ext σ σ') : ∀ {v u : List V}, purs σ.h v = some u → purs σ'.h v = some u
 | [], _, hv => by simp only [Abs.purs] at hv ⊢; exact hv
 | v :: vs, _, hv => by
   simp only [Abs.purs] at hv ⊢
   split at hv
   · rename_i a' b' h1 h2; rw [Ext.pur h h1, Ext.purs h h2]; exact hv
   · cases hv
end

theorem val_eq0 {a : Act'} (hk : a.kind = 0) (h : Agr σ σ' a.rds) : σ'.val a = σ.val a := by
 cases a <;> simp only [Act'.kind] at hk <;> first | exact absurd hk (by decide) | skip
 all_goals simp only [Act'.rds] at h
 all_goals simp only [St.val]
 case mov x => exact h.ev
 case pick c a b => rw [h.l.ev, h.r.l.ev, h.r.r.ev]
 case fld => rw [h.ev]
 case ixs => rw [h.l.ev, h.r.ev]
 case ixa => rw [h.l.ev, h.r.ev]
 case bin => rw [h.l.ev, h.r.ev]
 case un => rw [h.ev]
 case cii => rw [h.ev]
 case sls => simp only [h.l.ev, h.r.l.evo, h.r.r.evo]
 case slq => simp only [h.l.ev, h.r.l.evo, h.r.r.evo]
 case lens => rw [h.ev]
 case beq => rw [h.l.ev, h.r.ev]
 case ext => rw [h.ev]
 case bld => rw [h.bldV]
 case mkf => rw [h.l.evs, h.r.evs]
 case mki => rw [h.ev]
 case aeq => rw [h.l.ev, h.r.ev]
 case mm => rw [h.l.ev, h.r.ev]

theorem Ext.isNil (h : Ext σ σ') {k : Nat} {v : V} {b : Bool} (hb : St.isNil k (σ.live v) v = some b) : St.isNil k (σ'.live v) v = some b := by
 cases hl : σ.live v with
 | true => rw [h.live hl]; rw [hl] at hb; exact hb
 | false =>
   rw [hl] at hb
   cases v <;> simp [St.isNil] at hb ⊢ <;> exact hb
theorem val_mono1 {a : Act'} (hk : a.kind = 1) (h : Agr σ σ' a.rds) (hx : Ext σ σ') {v : V} (hv : σ.val a = some v) : σ'.val a = some v := by
 cases a <;> simp only [Act'.kind] at hk <;> first | exact absurd hk (by decide) | skip
 all_goals simp only [Act'.rds] at h
 all_goals simp only [St.val] at hv ⊢
 case call => cases hv
 case callv => cases hv
 case app => cases hv
 case fa x off =>
  rw [h.ev]
  split at hv
  · rename_i u hu
    split at hv
    · rename_i hl; rw [if_pos (hx.live hl)]; exact hv
    · cases hv
  · cases hv
 case ia x i sz =>
  rw [h.l.ev, h.r.ev]
  split at hv
  · exact hv
  · exact hv
  · rename_i id m k n h1 h2
    split at hv
    · rename_i e sz' l hl; rw [hx.arr hl]; exact hv
    · split at hv
      · rename_i e e2 sz l hl; simp only [(hx.mat hl).1, (hx.mat hl).2]; exact hv
      · cases hv
  · split at hv
    · rename_i e e2 sz l hl; rw [(hx.mat hl).1]; exact hv
    · cases hv
  · cases hv
 case iaa x i len sz =>
  rw [h.l.ev, h.r.ev]
  split at hv
  · rename_i u k n h1 h2
    split at hv
    · rename_i hl; rw [if_pos ⟨hx.live hl.1, hl.2⟩]; exact hv
    · cases hv
  · cases hv
 case ld x n agg =>
  rw [h.ev]
  split at hv
  · rename_i p hp
    split at hv
    · rename_i us hus; simp only [hx.fetch hus]; exact hv
    · cases hv
  · cases hv
 case b2s x =>
  rw [h.ev]
  split at hv
  · rename_i u hu
    split at hv
    · rename_i l hl; simp only [hx.pur hl]; exact hv
    · cases hv
  · cases hv
 case lenq x =>
  rw [h.ev]
  split at hv
  · exact hv
  · exact hv
  · exact hv
  · rename_i id n hu
    split at hv
    · rename_i e sz l hl; simp only [hx.arr hl]; exact hv
    · split at hv
      · rename_i e e2 sz l hl; simp only [(hx.mat hl).1, (hx.mat hl).2]; exact hv
      · cases hv
  · split at hv
    · rename_i e e2 sz l hl; simp only [(hx.mat hl).1]; exact hv
    · cases hv
  · cases hv
 case nlc x =>
  rw [h.ev]
  split at hv
  · rename_i u hu
    split at hv
    · rename_i hl; rw [if_pos (hx.live hl)]; exact hv
    · cases hv
  · cases hv
 case nlq k neg x =>
  rw [h.ev]
  split at hv
  · rename_i u hu
    split at hv
    · rename_i b hb; simp only [hx.isNil hb]; exact hv
    · cases hv
  · cases hv
 case lkp kt z okk x k =>
  rw [h.l.ev, h.r.ev]
  split at hv
  · rename_i id n kv h1 h2
    split at hv
    · rename_i kt' l hm
      simp only [hx.mp hm]
      exact hv
    · cases hv
  · cases hv

def Fits (k : Nat) (σ σ' : St) : Prop := k = 0 ∨ (k = 1 ∧ Ext σ σ') ∨ σ'.h = σ.h
def post (k : Nat) (σ' : St) (h' : List (Option Ob)) (d : Option Nat) (v : V) : St := St.put { σ' with h := if k ≤ 1 then σ'.h else h' } d v

def Does (T : (St → Prop) → St → Prop) (k : Nat) (rs : List Nat) (d : Option Nat) (σ : St) (K : St → Prop) : Prop :=
 ∃ h' v, (k ≤ 1 → h' = σ.h) ∧ (k = 2 → ∀ (id : Nat) (ob : Ob), σ.h[id]? = some (some ob) → h'[id]? = some (some ob)) ∧ K (St.put { σ with h := h' } d v) ∧
   ∀ (σ' : St) (K' : St → Prop), Agr σ σ' rs → Fits k σ σ' → K' (post k σ' h' d v) → T K' σ'

theorem Fits.ext {k : Nat} (h : Fits k σ σ') (hk : k = 1) : Ext σ σ' := by
 rcases h with h | h | h
 · omega
 · exact h.2
 · intro i ob h'; rw [h]; exact h'
theorem Fits.heq {k : Nat} (h : Fits k σ σ') (hk : 2 ≤ k) : σ'.h = σ.h := by
 rcases h with h | h | h
 · omega
 · omega
 · exact h

variable {Φ : Ctr} {d : Option Nat} {K : St → Prop}

theorem wactD_val {a : Act'} {v : V} (h : σ.val a = some v) (hK : K (σ.put d v)) (hk : a.kind ≤ 1) : wactD Φ d a K σ := by
 cases a <;> simp only [wactD, wact] <;> simp only [Act'.kind] at hk <;> first | (simp only [h]; exact hK) | (exfalso; revert hk; decide) | (simp [St.val] at h)

theorem does_val {a : Act'} (hk : a.kind ≤ 1) {v : V} (h : σ.val a = some v) (hK : K (σ.put d v)) : Does (wactD Φ d a) a.kind a.rds d σ K := by
 refine ⟨σ.h, v, fun _ => rfl, fun _ _ _ h => h, hK, fun σ' K' ha hf hK' => ?_⟩
 simp only [post, if_pos hk] at hK'
 refine wactD_val (v := v) ?_ hK' hk
 rcases Nat.le_one_iff_eq_zero_or_eq_one.1 hk with h0 | h1
 · rw [val_eq0 h0 ha]; exact h
 · exact val_mono1 h1 ha (hf.ext h1) h

theorem getElem?_snoc {α : Type} {l : List α} {x y : α} {i : Nat} (h : l[i]? = some x) : (l ++ [y])[i]? = some x := by
 rw [List.getElem?_append_left (List.getElem?_eq_some_iff.1 h).1]; exact h

theorem kill_r (r : List (Nat × V)) : ∀ (ids : List Nat) (σ : St), ({ σ with r := r } : St).kill ids = { (σ.kill ids) with r := r }
 | [], σ => rfl
 | id :: ids, σ => by simp only [St.kill]; exact kill_r r ids { σ with h := σ.h.set id none }
theorem storM_r (r : List (Nat × V)) (σ : St) (n id m i off : Nat) (us : List V) : ({ σ with r := r } : St).storM n id m i off us = (σ.storM n id m i off us).map fun τ => { τ with r := r } := by
 have e1 : ∀ id, St.arr? { σ with r := r } id = σ.arr? id := fun _ => rfl
 have e2 : ∀ id, St.rws? { σ with r := r } id = σ.rws? id := fun _ => rfl
 unfold St.storM
 split
 · simp only [e1, e2]
   split
   · split
     · split <;> rfl
     · rfl
   · rfl
 · rfl
theorem stor_r (r : List (Nat × V)) (σ : St) (n : Nat) (p : V) (us : List V) : ({ σ with r := r } : St).stor n p us = (σ.stor n p us).map fun τ => { τ with r := r } := by
 have e1 : ∀ (τ : St) id, St.arr? { τ with r := r } id = τ.arr? id := fun _ _ => rfl
 have e2 : ∀ (τ : St) id, St.rws? { τ with r := r } id = τ.rws? id := fun _ _ => rfl
 have e3 : ∀ (τ : St) id, St.box? { τ with r := r } id = τ.box? id := fun _ _ => rfl
 cases p <;> simp only [St.stor, kill_r, e1, e2, e3, storM_r] <;> try rfl
 · split
   · split
     · split <;> rfl
     · rfl
   · rfl
 · split
   · split
     · split
       · split
         · split
           · split <;> rfl
           · rfl
         · rfl
       · rfl
     · rfl
   · rfl
 · split
   · split
     · split
       · split
         · split
           · split
             · split <;> rfl
             · rfl
           · rfl
         · rfl
       · rfl
     · rfl
   · rfl
theorem stor_rr (σ : St) (n : Nat) (p : V) (us : List V) {τ : St} (h : σ.stor n p us = some τ) : τ.r = σ.r := by
 have h1 := stor_r σ.r σ n p us
 have h2 : ({ σ with r := σ.r } : St) = σ := rfl
 rw [h2, h] at h1
 simp only [Option.map_some, Option.some.injEq] at h1
 rw [h1]

theorem cur0_congr {σ σ' : St} (he : σ'.h = σ.h) (v : V) : σ'.cur0 v = σ.cur0 v := by
 cases v <;> simp only [St.cur0, St.box?, St.arr?, St.gh?, he]
mutual
theorem cur_congr {σ σ' : St} (he : σ'.h = σ.h) : ∀ v : V, σ'.cur v = σ.cur v
 | .fn _ a b => by simp only [St.cur, curA_congr he a, curA_congr he b]
 | .strct a => by simp only [St.cur, curA_congr he a]
 | .tup a => by simp only [St.cur, curA_congr he a]
 | .iface _ x => by simp only [St.cur, cur_congr he x]
 | .int _ _ => by simp only [St.cur, cur0_congr he]
 | .bool _ => by simp only [St.cur, cur0_congr he]
 | .str _ => by simp only [St.cur, cur0_congr he]
 | .nil _ => by simp only [St.cur, cur0_congr he]
 | .seq _ _ => by simp only [St.cur, cur0_congr he]
 | .fseq _ _ => by simp only [St.cur, cur0_congr he]
 | .sptr _ _ => by simp only [St.cur, cur0_congr he]
 | .nilptr => by simp only [St.cur, cur0_congr he]
 | .nilfn => by simp only [St.cur, cur0_congr he]
 | .niliface => by simp only [St.cur, cur0_congr he]
 | .junk => by simp only [St.cur, cur0_congr he]
 | .mref _ _ _ => by simp only [St.cur, cur0_congr he]
 | .mptr _ _ _ _ _ => by simp only [St.cur, cur0_congr he]
 | .ref _ _ => by simp only [St.cur, cur0_congr he]
 | .ptr _ _ => by simp only [St.cur, cur0_congr he]
 | .eptr _ _ _ _ => by simp only [St.cur, cur0_congr he]
theorem curA_congr {σ σ' : St} (he : σ'.h = σ.h) : ∀ v : List V, σ'.curA v = σ.curA v
 | [] => rfl
 | v :: vs => by simp only [St.curA, cur_congr he v, curA_congr he vs]
end
theorem curs_congr {σ σ' : St} (he : σ'.h = σ.h) : ∀ l : List V, σ'.curs l = σ.curs l
 | [] => rfl
 | v :: l => by simp only [St.curs, cur_congr he, curs_congr he l]
theorem kill_congr : ∀ (l : List Nat) {σ σ' : St}, σ'.h = σ.h → (σ'.kill l).h = (σ.kill l).h
 | [], _, _, he => he
 | id :: l, σ, σ', he => by
   simp only [St.kill]
   exact kill_congr l (by simp only [he])
theorem back_congr {σ σ' : St} (he : σ'.h = σ.h) {q : Nat} {m : List Nat} {H' : List (Option Ob)} : σ'.back q m H' = σ.back q m H' := by
 simp only [St.back, kill_congr m he, he]
theorem kill_congr2 : ∀ (ids : List Nat) {σ σ' : St}, σ'.h = σ.h → (σ'.kill ids).h = (σ.kill ids).h
 | [], _, _, he => he
 | id :: ids, σ, σ', he => by
   simp only [St.kill]
   exact kill_congr2 ids (by simp only [he])
theorem wactD_does {a : Act'} (h : wactD Φ d a K σ) : Does (wactD Φ d a) a.kind a.rds d σ K := by
 cases a with
 | lit e0 sz xs =>
   simp only [wactD] at h
   split at h
   · rename_i vs hvs
     split at h
     · rename_i us hus
       refine ⟨σ.h, .seq sz us, fun _ => rfl, fun _ _ _ h => h, h.2.2, fun σ' K' ha hf hK' => ?_⟩
       simp only [Act'.rds] at ha
       simp only [wactD, ha.evs, hvs, hus]
       exact ⟨h.1, h.2.1, hK'⟩
     · exact h.elim
   · exact h.elim
 | call f xs =>
   simp only [wactD] at h
   split at h
   · rename_i vs hvs
     split at h
     · rename_i us hus
       obtain ⟨r, h1, h3⟩ := h
       refine ⟨σ.h, r, fun _ => rfl, fun _ _ _ h => h, h3, fun σ' K' ha hf hK' => ?_⟩
       simp only [Act'.rds] at ha
       simp only [wactD, ha.evs, hvs, (hf.ext rfl).purs hus]
       exact Exists.intro r ⟨h1, hK'⟩
     · exact h.elim
   · exact h.elim
 | callv g xs =>
   simp only [wactD] at h
   split at h
   · rename_i f a b vs hg hvs
     split at h
     · rename_i us hus
       obtain ⟨r, h1, h3⟩ := h
       refine ⟨σ.h, r, fun _ => rfl, fun _ _ _ h => h, h3, fun σ' K' ha hf hK' => ?_⟩
       simp only [Act'.rds] at ha
       simp only [wactD, ha.l.ev, hg, ha.r.evs, hvs, (hf.ext rfl).purs hus]
       exact Exists.intro r ⟨h1, hK'⟩
     · exact h.elim
   · exact h.elim
 | alc z =>
   simp only [wactD, wact] at h
   refine ⟨_, _, fun h => absurd h (by simp [Act'.kind]), fun _ id ob h => getElem?_snoc h, h, fun σ' K' ha hf hK' => ?_⟩
   simp only [wactD, wact]
   rw [hf.heq (by simp [Act'.kind])]
   exact hK'
 | box x =>
   simp only [wactD, wact] at h
   split at h
   · rename_i v hv
     split at h
     · rename_i hn
       refine ⟨_, _, fun h => absurd h (by simp [Act'.kind]), fun _ id ob h => getElem?_snoc h, h, fun σ' K' ha hf hK' => ?_⟩
       simp only [Act'.rds] at ha
       simp only [wactD, wact, ha.ev, hv, if_pos hn]
       rw [hf.heq (by simp [Act'.kind])]
       exact hK'
     · exact h.elim
   · exact h.elim
 | mkm e by' e2 sz n =>
   simp only [wactD, wact] at h
   split at h
   · rename_i k m hm
     obtain ⟨h1, h2, h3⟩ := h
     refine ⟨_, _, fun h => absurd h (by simp [Act'.kind]), fun _ id ob h => getElem?_snoc h, h3, fun σ' K' ha hf hK' => ?_⟩
     simp only [Act'.rds] at ha
     simp only [wactD, wact, ha.ev, hm]
     rw [hf.heq (by simp [Act'.kind])]
     exact ⟨h1, h2, hK'⟩
   · exact h.elim
 | mk0 e sz by' n =>
   simp only [wactD, wact] at h
   split at h
   · rename_i k m hm
     obtain ⟨h1, h2, h3⟩ := h
     refine ⟨_, _, fun h => absurd h (by simp [Act'.kind]), fun _ id ob h => getElem?_snoc h, h3, fun σ' K' ha hf hK' => ?_⟩
     simp only [Act'.rds] at ha
     simp only [wactD, wact, ha.ev, hm]
     rw [hf.heq (by simp [Act'.kind])]
     exact ⟨h1, h2, hK'⟩
   · exact h.elim
 | mks e sz by' z n =>
   simp only [wactD, wact] at h
   split at h
   · rename_i k m hm
     obtain ⟨h1, h2, h3⟩ := h
     refine ⟨_, _, fun h => absurd h (by simp [Act'.kind]), fun _ id ob h => getElem?_snoc h, h3, fun σ' K' ha hf hK' => ?_⟩
     simp only [Act'.rds] at ha
     simp only [wactD, wact, ha.ev, hm]
     rw [hf.heq (by simp [Act'.kind])]
     exact ⟨h1, h2, hK'⟩
   · exact h.elim
 | s2b x =>
   simp only [wactD, wact] at h
   split at h
   · rename_i s hs
     refine ⟨σ.h, _, fun _ => rfl, fun _ _ _ h => h, h.2, fun σ' K' ha hf hK' => ?_⟩
     simp only [Act'.rds] at ha
     simp only [wactD, wact, ha.ev, hs]
     exact ⟨h.1, hK'⟩
   · exact h.elim
 | st n p x =>
   simp only [wactD, wact] at h
   split at h
   · rename_i a v ha hv
     split at h
     · rename_i hn
       split at h
       · rename_i σ1 hs
         have hr : σ1.r = σ.r ∧ ∀ σ' : St, σ'.h = σ.h → σ'.stor n a (cl v) = some { σ' with h := σ1.h } := by
          refine ⟨stor_rr _ _ _ _ hs, fun σ' he => ?_⟩
          have h1 := stor_r σ'.r σ n a (cl v)
          have h2 : ({ σ with r := σ'.r } : St) = σ' := by rw [← he]
          rw [h2, hs] at h1
          rw [h1, Option.map_some]
         refine ⟨σ1.h, .tup [], fun h => absurd h (by simp [Act'.kind]), fun h => absurd h (by simp [Act'.kind]), ?_, fun σ' K' hg hf hK' => ?_⟩
         · have : ({ σ with h := σ1.h } : St) = σ1 := by rw [← hr.1]
           rw [this]; exact h
         · simp only [Act'.rds] at hg
           simp only [wactD, wact, hg.l.ev, ha, hg.r.ev, hv, if_pos hn, hr.2 σ' (hf.heq (by simp [Act'.kind]))]
           exact hK'
       · exact h.elim
     · exact h.elim
   · exact h.elim
 | app x y e sz by' =>
   simp only [wactD, wact] at h
   split at h
   · rename_i u v hu hv
     split at h
     · rename_i sz' l hl
       obtain ⟨h0, h⟩ := h
       have hk2 : ∀ y' e' sz' b', 2 ≤ (Act'.app x y' e' sz' b').kind := fun _ _ _ _ => appKind_ge x
       split at h
       · rename_i sz2
         refine ⟨_, _, fun h => absurd h (by have := hk2 y e sz by'; omega), fun _ id ob h => getElem?_snoc h, h.2, fun σ' K' hg hf hK' => ?_⟩
         have hne : ¬ (Act'.app x y e sz by').kind ≤ 1 := by have := hk2 y e sz by'; omega
         simp only [post, if_neg hne] at hK'
         simp only [Act'.rds] at hg
         have he := hf.heq (hk2 y e sz by')
         simp only [wactD, wact, hg.l.ev, hu, hg.r.ev, hv]
         rw [he]
         simp only [hl]
         exact ⟨h0, h.1, hK'⟩
       · rename_i id n
         split at h
         · rename_i e' sz2 l0 ha
           obtain ⟨h1, h2, h3, h4, h5⟩ := h
           have hne : ¬ (Act'.app x y e sz by').kind ≤ 1 := by have := hk2 y e sz by'; omega
           have hn2 : (Act'.app x y e sz by').kind ≠ 2 := by
            cases x with
            | t n => simp [Act'.kind, appKind]
            | v x =>
              simp only [St.ev, Option.some.injEq] at hu
              subst hu
              simp [Act'.kind, appKind]
           refine ⟨_, _, fun h => absurd h hne, fun h => absurd h hn2, h5, fun σ' K' hg hf hK' => ?_⟩
           simp only [post, if_neg hne] at hK'
           simp only [Act'.rds] at hg
           have he := hf.heq (hk2 y e sz by')
           have ha' : σ'.arr? id = some (e', sz2, l0) := by simp only [St.arr?, he]; exact ha
           simp only [wactD, wact, hg.l.ev, hu, hg.r.ev, hv, ha']
           rw [he]
           simp only [hl]
           exact ⟨h0, h1, h2, h3, h4, hK'⟩
         · exact h.elim
       · rename_i id i n
         split at h
         · rename_i e1 e2 sz2 rows ha
           split at h
           · rename_i r hr
             obtain ⟨h1, h2, h3, h4, h5⟩ := h
             have hne : ¬ (Act'.app x y e sz by').kind ≤ 1 := by have := hk2 y e sz by'; omega
             have hn2 : (Act'.app x y e sz by').kind ≠ 2 := by
              cases x with
              | t n => simp [Act'.kind, appKind]
              | v x =>
                simp only [St.ev, Option.some.injEq] at hu
                subst hu
                simp [Act'.kind, appKind]
             refine ⟨_, _, fun h => absurd h hne, fun h => absurd h hn2, h5, fun σ' K' hg hf hK' => ?_⟩
             simp only [post, if_neg hne] at hK'
             simp only [Act'.rds] at hg
             have he := hf.heq (hk2 y e sz by')
             have ha' : σ'.rws? id = some (e1, e2, sz2, rows) := by simp only [St.rws?, he]; exact ha
             simp only [wactD, wact, hg.l.ev, hu, hg.r.ev, hv, ha', hr]
             rw [he]
             simp only [hl]
             exact ⟨h0, h1, h2, h3, h4, hK'⟩
           · exact h.elim
         · exact h.elim
       · exact h.elim
     · exact h.elim
   · exact h.elim
 | callH f xs =>
   simp only [wactD] at h
   split at h
   · rename_i vs hvs
     obtain ⟨ps, h1, r, H', h2, h3, h4⟩ := h
     refine ⟨_, _, fun h => absurd h (by simp [Act'.kind]), fun h => absurd h (by simp [Act'.kind]), h4, fun σ' K' ha hf hK' => ?_⟩
     simp only [Act'.rds] at ha
     have he := hf.heq (show 2 ≤ (Act'.callH f xs).kind by simp [Act'.kind])
     simp only [wactD, ha.evs, hvs]
     refine ⟨ps, by rw [curs_congr he]; exact h1, r, H', by rw [he]; exact h2, by rw [he]; exact h3, ?_⟩
     rw [he, back_congr he]
     exact hK'
   · exact h.elim
 | inv tbl x xs => exact (show False from h).elim
 | yld g xs =>
   simp only [wactD, wact] at h
   split at h
   · rename_i id n vs hg hvs
     split at h
     · rename_i v b l us hgh hus
       obtain ⟨h1, h2, h3⟩ := h
       refine ⟨_, _, fun h => absurd h (by simp [Act'.kind]), fun h => absurd h (by simp [Act'.kind]), h3, fun σ' K' ha hf hK' => ?_⟩
       simp only [Act'.rds] at ha
       have he := hf.heq (show 2 ≤ (Act'.yld g xs).kind by simp [Act'.kind])
       have hgh' : σ'.gh? id = some ((v, b) :: l) := by simp only [St.gh?, he]; exact hgh
       simp only [wactD, wact, ha.l.ev, hg, ha.r.evs, hvs, hgh', he, hus]
       exact ⟨h1, h2, hK'⟩
     · exact h.elim
   · exact h.elim
 | trc x hi sz => exact (show False from h).elim
 | ltr e sz xs =>
   simp only [wactD, wact] at h
   split at h
   · rename_i vs hvs
     split at h
     · rename_i us hus
       obtain ⟨h1, h2, h3⟩ := h
       rw [lk_kill] at h3
       refine ⟨(σ.kill (vidss vs)).h ++ [some (Ob.arr e sz us)], .ref (σ.kill (vidss vs)).h.length us.length, fun h => absurd h (by simp [Act'.kind]), fun h => absurd h (by simp [Act'.kind]), h3, fun σ' K' ha hf hK' => ?_⟩
       simp only [Act'.rds] at ha
       have he := hf.heq (show 2 ≤ (Act'.ltr e sz xs).kind by simp [Act'.kind])
       have hk : (σ'.kill (vidss vs)).h = (σ.kill (vidss vs)).h := kill_congr2 _ he
       simp only [wactD, wact, ha.evs, hvs, he, hus, hk, lk_kill]
       exact ⟨h1, h2, hK'⟩
     · exact h.elim
   · exact h.elim
 | mkp kt =>
   simp only [wactD, wact] at h
   refine ⟨_, _, fun h => absurd h (by simp [Act'.kind]), fun _ id ob h => getElem?_snoc h, h, fun σ' K' ha hf hK' => ?_⟩
   simp only [wactD, wact]
   rw [hf.heq (by simp [Act'.kind])]
   exact hK'
 | mup kt x k v =>
   simp only [wactD, wact] at h
   split at h
   · rename_i id n kv u h1 h2 h3
     split at h
     · rename_i kt' l u' hm hp
       obtain ⟨g1, g2, g3, g4, g5⟩ := h
       refine ⟨_, _, fun h => absurd h (by simp [Act'.kind]), fun h => absurd h (by simp [Act'.kind]), g5, fun σ' K' hg hf hK' => ?_⟩
       simp only [Act'.rds] at hg
       have he := hf.heq (show 2 ≤ (Act'.mup kt x k v).kind by simp [Act'.kind])
       have hm' : σ'.mp? id = some (kt', l) := by simp only [St.mp?, he]; exact hm
       simp only [wactD, wact, hg.l.ev, h1, hg.r.l.ev, h2, hg.r.r.ev, h3, hm']
       rw [he]
       simp only [hp]
       exact ⟨g1, g2, g3, g4, hK'⟩
     · exact h.elim
   · exact h.elim
 | _ =>
   simp only [wactD, wact] at h
   split at h
   · rename_i v hv
     exact does_val (by simp only [Act'.kind]; decide) hv h
   · exact h.elim

theorem wopD_does {x : AOp} (h : wopD Φ x K σ) : Does (wopD Φ x) x.a.kind x.rds x.d σ K := by
 have sk : (∀ σ' (K' : St → Prop), Agr σ σ' x.rds → K' (σ'.put x.d (.tup [])) → wopD Φ x K' σ') → K (σ.put x.d (.tup [])) → Does (wopD Φ x) 0 x.rds x.d σ K :=
  fun h1 h2 => ⟨σ.h, .tup [], fun _ => rfl, fun _ _ _ h => h, h2, fun σ' K' ha _ hK' => h1 σ' K' ha hK'⟩
 have up : ∀ {T : (St → Prop) → St → Prop}, Does T 0 x.rds x.d σ K → Does T x.a.kind x.rds x.d σ K := by
  rintro T ⟨h', v, h1, _, h3, h4⟩
  have e := h1 (by decide)
  subst e
  refine ⟨σ.h, v, fun _ => rfl, fun _ _ _ h => h, h3, fun σ' K' ha hf hK' => h4 σ' K' ha (.inl rfl) ?_⟩
  simp only [post, Nat.zero_le, if_true] at hK' ⊢
  split at hK'
  · exact hK'
  · rw [hf.heq (by omega)]
    exact hK'
 have lift : ∀ {T : (St → Prop) → St → Prop} {rs : List Nat}, Does (wactD Φ x.d x.a) x.a.kind rs x.d σ K → (∀ t, t ∈ rs → t ∈ x.rds) → (∀ σ' K', Agr σ σ' x.rds → wactD Φ x.d x.a K' σ' → T K' σ') → Does T x.a.kind x.rds x.d σ K := by
  rintro T rs ⟨h', v, h1, h2, h3, h4⟩ hs hT
  exact ⟨h', v, h1, h2, h3, fun σ' K' ha hf hK' => hT _ _ ha (h4 σ' K' (ha.sub hs) hf hK')⟩
 have hsub : ∀ t, t ∈ x.a.rds → t ∈ x.rds := fun t ht => List.mem_append_left _ ht
 unfold wopD at h
 cases hg : x.g with
 | none =>
   simp only [hg] at h
   refine lift (wactD_does h) hsub fun σ' K' _ h' => ?_
   unfold wopD
   simp only [hg]; exact h'
 | some tb =>
   obtain ⟨t, b⟩ := tb
   have ht : t ∈ x.rds := by simp [AOp.rds, hg]
   simp only [hg] at h
   split at h
   · rename_i y hy
     have hgo : ∀ σ' (K' : St → Prop), Agr σ σ' x.rds → y = b → wactD Φ x.d x.a K' σ' → wopD Φ x K' σ' := by
      intro σ' K' ha hyb h'
      subst hyb
      unfold wopD
      simp only [hg, ha t ht, hy]
      cases y <;> simp [Br, h']
     have hsk : ∀ σ' (K' : St → Prop), Agr σ σ' x.rds → y ≠ b → K' (σ'.put x.d (.tup [])) → wopD Φ x K' σ' := by
      intro σ' K' ha hyb h'
      unfold wopD
      simp only [hg, ha t ht, hy]
      cases y <;> cases b <;> first | exact absurd rfl hyb | simp [Br, h']
     by_cases hyb : y = b
     · have h' : wactD Φ x.d x.a K σ := by subst hyb; cases y <;> simp [Br] at h <;> exact h
       exact lift (wactD_does h') hsub fun σ' K' ha h'' => hgo σ' K' ha hyb h''
     · have h' : K (σ.put x.d (.tup [])) := by cases y <;> cases b <;> first | exact absurd rfl hyb | (simp [Br] at h; exact h)
       exact up (sk (fun σ' K' ha h'' => hsk σ' K' ha hyb h'') h')
   · rename_i hy
     refine up (sk (fun σ' K' ha h'' => ?_) h)
     unfold wopD
     simp only [hg, ha t ht, hy]
     exact h''
   · exact h.elim

def Eqv (σ τ : St) : Prop := τ.h = σ.h ∧ ∀ t, lk τ.r t = lk σ.r t
def Inv (R : St → Prop) : Prop := ∀ σ τ, Eqv σ τ → R σ → R τ

theorem lk_put (σ : St) (h' : List (Option Ob)) (d : Option Nat) (v : V) (t : Nat) : lk (St.put { σ with h := h' } d v).r t = if d = some t then some v else lk σ.r t := by
 cases d with
 | none => simp [St.put]
 | some k => simp only [St.put, lk, Option.some.injEq]
theorem h_put (σ : St) (d : Option Nat) (v : V) : (σ.put d v).h = σ.h := by cases d <;> rfl

theorem wopD_inv {x : AOp} {R : St → Prop} (hR : Inv R) : Inv (wopD Φ x R) := by
 intro σ τ he h
 obtain ⟨h', v, h1, h2, h3, h4⟩ := wopD_does h
 refine h4 τ R (fun t _ => he.2 t) (.inr (.inr he.1)) (hR _ _ ⟨?_, fun t => ?_⟩ h3)
 · simp only [post, h_put]
   split
   · rename_i hk; rw [h1 hk]; exact he.1
   · rfl
 · simp only [post, lk_put, he.2]

def apartB (x y : AOp) : Bool :=
 (match x.d with
  | some d => !(memb d y.rds) && decide (y.d ≠ some d)
  | none => true) &&
 (match y.d with
  | some d => !(memb d x.rds)
  | none => true) &&
 (x.a.kind == 0 || y.a.kind == 0 || (x.a.kind == 1 && decide (y.a.kind ≤ 2)))

theorem apartB_spec {x y : AOp} (h : apartB x y = true) :
 (∀ d, x.d = some d → d ∉ y.rds ∧ y.d ≠ some d) ∧ (∀ d, y.d = some d → d ∉ x.rds) ∧ (x.a.kind = 0 ∨ y.a.kind = 0 ∨ (x.a.kind = 1 ∧ y.a.kind ≤ 2)) := by
 simp only [apartB, Bool.and_eq_true] at h
 obtain ⟨⟨h1, h2⟩, h3⟩ := h
 refine ⟨fun d hd => ?_, fun d hd => ?_, by simpa [or_assoc] using h3⟩
 · simp only [hd, Bool.and_eq_true, Bool.not_eq_true', decide_eq_true_eq] at h1
   exact ⟨fun hm => by rw [memb_iff.2 hm] at h1; simp at h1, h1.2⟩
 · simp only [hd, Bool.not_eq_true'] at h2
   exact fun hm => by rw [memb_iff.2 hm] at h2; simp at h2

theorem wopD_comm {x y : AOp} (hap : apartB x y = true) {R : St → Prop} (hR : Inv R) (h : wopD Φ x (wopD Φ y R) σ) : wopD Φ y (wopD Φ x R) σ := by
 obtain ⟨a1, a2, a3⟩ := apartB_spec hap
 obtain ⟨hx, vx, x1, x2, x3, x4⟩ := wopD_does h
 obtain ⟨hy, vy, y1, y2, y3, y4⟩ := wopD_does x3
 rw [h_put] at y1 y2
 have key : Eqv (St.put { (St.put { σ with h := hx } x.d vx) with h := hy } y.d vy) (post x.a.kind (post y.a.kind σ hy y.d vy) hx x.d vx) → wopD Φ y (wopD Φ x R) σ := by
  intro he
  refine y4 σ _ ?_ ?_ ?_
  · intro t ht
    rw [lk_put]
    split
    · rename_i hd; exact absurd ht (a1 t hd).1
    · rfl
  · rcases a3 with h | h | h
    · refine .inr (.inr ?_); rw [h_put]; exact (x1 (by omega)).symm
    · exact .inl h
    · refine .inr (.inr ?_); rw [h_put]; exact (x1 (by omega)).symm
  · refine x4 _ _ ?_ ?_ (hR _ _ he y3)
    · intro t ht
      simp only [post, lk_put]
      split
      · rename_i hd; exact absurd ht (a2 t hd)
      · rfl
    · rcases a3 with h | h | h
      · exact .inl h
      · refine .inr (.inr ?_)
        simp only [post, h_put, h, Nat.zero_le, if_true]
      · by_cases hk : y.a.kind ≤ 1
        · refine .inr (.inr ?_)
          simp only [post, h_put, if_pos hk]
        · refine .inr (.inl ⟨h.1, ?_⟩)
          intro id ob hid
          simp only [post, h_put, if_neg hk]
          exact y2 (by omega) id ob (by rw [x1 (by omega)]; exact hid)
 apply key
 constructor
 · simp only [post, h_put]
   rcases a3 with h | h | h
   · rw [if_pos (by omega)]
     split
     · rename_i hk; rw [y1 hk, x1 (by omega)]
     · rfl
   · simp only [h, Nat.zero_le, if_true]
     rw [y1 (by omega)]
     split
     · rename_i hk; rw [x1 hk]
     · rfl
   · rw [if_pos (by omega)]
     split
     · rename_i hk; rw [y1 hk, x1 (by omega)]
     · rfl
 · intro t
   simp only [post, lk_put]
   by_cases hxd : x.d = some t
   · rw [if_pos hxd, if_neg (a1 t hxd).2, if_pos hxd]
   · simp only [if_neg hxd]
end
end Go.Abs
end
section
namespace Go.Abs
open Go.RowKit

section
variable {P : Program} {N : Nat} {M0 : Mem} {B : Bas} {w0 : World} {Φ : Ctr}

theorem wopD_mono {x : AOp} {σ : St} {K K' : St → Prop} (h : wopD Φ x K σ) (hk : ∀ τ, K τ → K' τ) : wopD Φ x K' σ := by
 obtain ⟨h', v, h1, h2, h3, h4⟩ := wopD_does h
 refine h4 σ K' (fun _ _ => rfl) (.inr (.inr rfl)) (hk _ ?_)
 simp only [post]
 split
 · rename_i hle; rw [h1 hle] at h3; exact h3
 · exact h3

mutual
theorem pur_none : ∀ {v u : V}, pur [] v = some u → vids v = [] ∧ ∀ h, pur h v = some u
 | .nil sz, _, hv => ⟨rfl, fun h => by simpa only [pur] using hv⟩
 | .ref id n, _, hv => by simp [pur, pur1] at hv
 | .strct cs, _, hv => by
   simp only [pur, Option.map_eq_some_iff] at hv
   obtain ⟨us, h1, h2⟩ := hv
   obtain ⟨k1, k2⟩ := purs_none h1
   exact ⟨by simpa only [vids] using k1, fun h => by simp only [pur, k2 h, Option.map_some, h2]⟩
 | .tup cs, _, hv => by
   simp only [pur, Option.map_eq_some_iff] at hv
   obtain ⟨us, h1, h2⟩ := hv
   obtain ⟨k1, k2⟩ := purs_none h1
   exact ⟨by simpa only [vids] using k1, fun h => by simp only [pur, k2 h, Option.map_some, h2]⟩
 | .fn f a b, _, hv => by
   simp only [pur] at hv
   split at hv
   · rename_i a' b' h1 h2
     obtain ⟨k1, k2⟩ := purs_none h1
     obtain ⟨k3, k4⟩ := purs_none h2
     exact ⟨by simp only [vids, k1, k3, List.append_nil], fun h => by simp only [pur, k2 h, k4 h]; exact hv⟩
   · cases hv
 | .iface t x, _, hv => by
   simp only [pur, Option.map_eq_some_iff] at hv
   obtain ⟨us, h1, h2⟩ := hv
   obtain ⟨k1, k2⟩ := pur_none h1
   exact ⟨by simpa only [vids] using k1, fun h => by simp only [pur, k2 h, Option.map_some, h2]⟩
 | .ptr _ _, _, hv => by simp only [pur] at hv; cases hv
 | .eptr _ _ _ _, _, hv => by simp only [pur] at hv; cases hv
 | .int _ _, _, hv => ⟨rfl, fun h => by simpa only [pur] using hv⟩
 | .bool _, _, hv => ⟨rfl, fun h => by simpa only [pur] using hv⟩
 | .str _, _, hv => ⟨rfl, fun h => by simpa only [pur] using hv⟩
 | .seq _ _, _, hv => ⟨rfl, fun h => by simpa only [pur] using hv⟩
 | .fseq _ _, _, hv => ⟨rfl, fun h => by simpa only [pur] using hv⟩
 | .sptr _ _, _, hv => ⟨rfl, fun h => by simpa only [pur] using hv⟩
 | .nilptr, _, hv => ⟨rfl, fun h => by simpa only [pur] using hv⟩
 | .nilfn, _, hv => ⟨rfl, fun h => by simpa only [pur] using hv⟩
 | .niliface, _, hv => ⟨rfl, fun h => by simpa only [pur] using hv⟩
 | .junk, _, hv => ⟨rfl, fun h => by simpa only [pur] using hv⟩
theorem purs_none : ∀ {v u : List V}, purs [] v = some u → vidss v = [] ∧ ∀ h, purs h v = some u
 | [], _, hv => ⟨rfl, fun h => by simpa only [purs] using hv⟩
 | v :: vs, _, hv => by
   simp only [purs] at hv
   split at hv
   · rename_i a' b' h1 h2
     obtain ⟨k1, k2⟩ := pur_none h1
     obtain ⟨k3, k4⟩ := purs_none h2
     exact ⟨by simp only [vidss, k1, k3, List.append_nil], fun h => by simp only [purs, k2 h, k4 h]; exact hv⟩
   · cases hv
end

theorem wactD_wact {d : Option Nat} {a : Act'} {K : St → Prop} {σ : St} (h : wactD Φ d a K σ) : wact Φ d a K σ := by
 cases a with
 | lit e0 sz xs =>
   simp only [wactD] at h
   split at h
   · rename_i vs hvs
     split at h
     · rename_i us hus
       obtain ⟨k1, k2⟩ := purs_none hus
       simp only [wact, hvs, k2 σ.h, k1, St.kill]
       exact h
     · exact h.elim
   · exact h.elim
 | call f xs =>
   simp only [wactD] at h
   split at h
   · rename_i vs hvs
     split at h
     · rename_i us hus
       obtain ⟨r, h1, h3⟩ := h
       simp only [wact, hvs, hus]
       exact ⟨r, .inl ⟨h1, fun _ => h3⟩⟩
     · exact h.elim
   · exact h.elim
 | callH f xs =>
   simp only [wactD] at h
   split at h
   · rename_i vs hvs
     obtain ⟨ps, h1, r, H', h2, h3, h4⟩ := h
     simp only [wact, hvs]
     exact ⟨ps, h1, r, H', h2, h3, fun _ _ => h4⟩
   · exact h.elim
 | inv tbl x xs => exact (show False from h).elim
 | trc x hi sz => exact (show False from h).elim
 | callv g xs =>
   simp only [wactD] at h
   split at h
   · rename_i f a b vs hg hvs
     split at h
     · rename_i us hus
       obtain ⟨r, h1, h3⟩ := h
       simp only [wact, hg, hvs, hus]
       exact ⟨r, .inl ⟨h1, fun _ => h3⟩⟩
     · exact h.elim
   · exact h.elim
 | _ => exact h

theorem wopD_wop {x : AOp} {K : St → Prop} {σ : St} (h : wopD Φ x K σ) : wop Φ x K σ := by
 unfold wopD at h
 unfold wop
 split at h
 · exact wactD_wact h
 · split at h
   · split
     · rename_i hb; rw [if_pos hb] at h; exact ⟨fun hy => wactD_wact (h.1 hy), h.2⟩
     · rename_i hb; rw [if_neg hb] at h; exact ⟨h.1, fun hy => wactD_wact (h.2 hy)⟩
   · exact h
   · exact h

/-! ### Orders -/
def wanyA (Φ : Ctr) (ops : Array Oper) (xs : List AOp) (K : St → Prop) : Nat → Array Bool → St → Prop
 | 0, listed, σ => Region.ready .any ops listed = [] ∧ K σ
 | f + 1, listed, σ => (Region.ready .any ops listed = [] → K σ) ∧ ∀ i ∈ Region.ready .any ops listed, ∃ x, xs[i]? = some x ∧ wopD Φ x (wanyA Φ ops xs K f (listed.setIfInBounds i true)) σ

def wanyB (Φ : Ctr) (ops : Array Oper) (xs : List AOp) (K : St → Prop) : Nat → Array Bool → St → Prop
 | 0, listed, σ => Region.ready .any ops listed = [] ∧ K σ
 | f + 1, listed, σ => (Region.ready .any ops listed = [] → K σ) ∧ ∀ i ∈ Region.ready .any ops listed, ∃ x, xs[i]? = some x ∧ wop Φ x (wanyB Φ ops xs K f (listed.setIfInBounds i true)) σ

variable {ops : Array Oper} {xs : List AOp} {K : St → Prop}
theorem wanyA_inv (hK : Inv K) : ∀ (f : Nat) (listed : Array Bool), Inv (wanyA Φ ops xs K f listed)
 | 0, listed => fun σ τ he h => ⟨h.1, hK σ τ he h.2⟩
 | f + 1, listed => fun σ τ he h => ⟨fun h0 => hK σ τ he (h.1 h0), fun i hi => by
   obtain ⟨x, hx, hw⟩ := h.2 i hi
   exact ⟨x, hx, wopD_inv (wanyA_inv hK f _) σ τ he hw⟩⟩

def Closed (ops : Array Oper) (listed : Array Bool) : Prop := ∀ j oj, ops[j]? = some oj → listed.getD j false = true → ∀ e ∈ oj.after, Region.binds .any e = true → listed.getD e.on false = true
def ancB (anc : List Nat) (j i : Nat) : Bool := decide (i < j) && Nat.testBit (anc.getD j 0) i
def AncOK (ops : Array Oper) (anc : List Nat) : Prop := ∀ j i oj, ops[j]? = some oj → ancB anc j i = true → ∃ e ∈ oj.after, Region.binds .any e = true ∧ e.on < j ∧ (e.on = i ∨ ancB anc e.on i = true)

theorem Closed.set {listed : Array Bool} {i : Nat} (h : Closed ops listed) (hi : i ∈ Region.ready .any ops listed) : Closed ops (listed.setIfInBounds i true) := by
 obtain ⟨_, oi, hoi, hall⟩ := mem_ready.1 hi
 intro j oj hj hl e he hb
 by_cases hij : i = j
 · subst hij
   have : oj = oi := Option.some.inj (hj.symm.trans hoi)
   subst this
   exact getD_set_true (hall e he hb)
 · rw [getD_set_ne false hij] at hl
   exact getD_set_true (h j oj hj hl e he hb)

theorem AncOK.listed {anc : List Nat} (ha : AncOK ops anc) {listed : Array Bool} (hc : Closed ops listed) {i : Nat} : ∀ (j : Nat) (oj : Oper), ops[j]? = some oj → (∀ e ∈ oj.after, Region.binds .any e = true → listed.getD e.on false = true) →
 ancB anc j i = true → (∀ e o', e < ops.size → ops[e]? = some o' → True) → (∀ e ∈ oj.after, Region.binds .any e = true → e.on < j → ∃ o', ops[e.on]? = some o') → listed.getD i false = true := by
 intro j
 induction j using Nat.strongRecOn with
 | _ j ih =>
   intro oj hj hp hanc _ hex
   obtain ⟨e, he, hb, hlt, h⟩ := ha j i oj hj hanc
   have hl := hp e he hb
   rcases h with h | h
   · rw [← h]; exact hl
   · obtain ⟨o', ho'⟩ := hex e he hb hlt
     refine ih e.on hlt o' ho' (fun e' he' hb' => hc e.on o' ho' hl e' he' hb') h (fun _ _ _ _ => trivial) (fun e' he' hb' hlt' => ?_)
     have hs : e'.on < ops.size := by
      have := (Array.getElem?_eq_some_iff.1 ho').1
      omega
     exact ⟨ops[e'.on], by simp [hs]⟩

theorem wanyA_first {anc : List Nat} (ha : AncOK ops anc) (hK : Inv K) {i : Nat} {x : AOp} (hi : xs[i]? = some x) :
 ∀ (f : Nat) (listed : Array Bool) (σ : St), Closed ops listed →
   (∀ j y, xs[j]? = some y → j ≠ i → listed.getD j true = false → ancB anc j i = false → apartB x y = true) →
   i ∈ Region.ready .any ops listed → wopD Φ x (wanyA Φ ops xs K f (listed.setIfInBounds i true)) σ → wanyA Φ ops xs K (f + 1) listed σ := by
 intro f
 induction f with
 | zero =>
   intro listed σ _ _ hr H
   refine ⟨fun h => (by rw [h] at hr; cases hr), fun j hj => ?_⟩
   by_cases hji : j = i
   · subst hji; exact ⟨x, hi, H⟩
   · obtain ⟨h', v, _, _, h3, _⟩ := wopD_does H
     have := ready_mono hj hji
     rw [h3.1] at this
     cases this
 | succ f ih =>
   intro listed σ hc hfree hr H
   refine ⟨fun h => (by rw [h] at hr; cases hr), fun j hj => ?_⟩
   by_cases hji : j = i
   · subst hji; exact ⟨x, hi, H⟩
   · obtain ⟨h', v, _, _, h3, _⟩ := wopD_does H
     obtain ⟨y, hy, _⟩ := h3.2 j (ready_mono hj hji)
     obtain ⟨hjun, oj, hoj, hall⟩ := mem_ready.1 hj
     have hiun := (mem_ready.1 hr).1
     have hnot : ancB anc j i = false := by
      cases hb : ancB anc j i with
      | false => rfl
      | true =>
        have hs : j < ops.size := (Array.getElem?_eq_some_iff.1 hoj).1
        have := ha.listed hc j oj hoj hall hb (fun _ _ _ _ => trivial) (fun e _ _ hlt => ⟨ops[e.on]'(by omega), by simp⟩)
        rcases Nat.lt_or_ge i listed.size with h' | h'
        · simp [h'] at hiun this; rw [hiun] at this; cases this
        · simp [Array.getElem?_eq_none h'] at this
     have H' : wopD Φ x (wopD Φ y (wanyA Φ ops xs K f ((listed.setIfInBounds i true).setIfInBounds j true))) σ := wopD_mono H fun τ hτ => by
      obtain ⟨y', hy', hw⟩ := hτ.2 j (ready_mono hj hji)
      rw [hy] at hy'
      cases hy'
      exact hw
     have H2 := wopD_comm (hfree j y hy hji hjun hnot) (wanyA_inv hK f _) H'
     refine ⟨y, hy, wopD_mono H2 fun τ hτ => ih (listed.setIfInBounds j true) τ (hc.set hj) ?_ (ready_mono hr (Ne.symm hji)) ?_⟩
     · intro k z hz hki hun hno
       refine hfree k z hz hki ?_ hno
       by_cases hjk : j = k
       · subst hjk; exact hjun
       · rw [getD_set_ne true hjk] at hun; exact hun
     · rw [Array.setIfInBounds_comm _ _ hji]
       exact hτ

def permOK (ops : Array Oper) (xs : List AOp) (anc : List Nat) : List Nat → Bool
 | [] => true
 | i :: l => !(memb i l) &&
   (match ops[i]? with
    | some o => o.after.toList.all fun e => !(Region.binds .any e) || (decide (e.on < ops.size) && !(memb e.on (i :: l)))
    | none => false) &&
   (match xs[i]? with
    | some x => l.all fun j => ancB anc j i || (match xs[j]? with
      | some y => apartB x y
      | none => false)
    | none => false) && permOK ops xs anc l
def drawOK (ops : Array Oper) (xs : List AOp) (anc perm : List Nat) : Bool :=
 decide (ops.size = xs.length) && decide (perm.length = ops.size) &&
 ((List.range ops.size).all fun j => memb j perm) &&
 ((List.range ops.size).all fun j => match ops[j]? with
   | some o => o.after.toList.all fun e => !(Region.binds .any e) || decide (e.on < j)
   | none => true) &&
 ((List.range ops.size).all fun j => match ops[j]? with
   | some o => (List.range j).all fun i => !(Nat.testBit (anc.getD j 0) i) || o.after.toList.any fun e => Region.binds .any e && (decide (e.on = i) || ancB anc e.on i)
   | none => true) && permOK ops xs anc perm
def pickA (xs : List AOp) : List Nat → Option (List AOp)
 | [] => some []
 | i :: l => match xs[i]?, pickA xs l with
   | some x, some ys => some (x :: ys)
   | _, _ => none

theorem drawOK_anc {anc perm : List Nat} (hd : drawOK ops xs anc perm = true) : AncOK ops anc := by
 simp only [drawOK, Bool.and_eq_true, decide_eq_true_eq] at hd
 obtain ⟨⟨⟨⟨⟨hsz, hpl⟩, hall⟩, hed⟩, hanc⟩, hap⟩ := hd
 intro j i oj hj hb
 simp only [ancB, Bool.and_eq_true, decide_eq_true_eq] at hb
 have hs : j < ops.size := (Array.getElem?_eq_some_iff.1 hj).1
 have h1 := List.all_eq_true.1 hanc j (List.mem_range.2 hs)
 simp only [hj] at h1
 have h2 := List.all_eq_true.1 h1 i (List.mem_range.2 hb.1)
 simp only [hb.2, Bool.not_true, Bool.false_or] at h2
 obtain ⟨e, he, h3⟩ := List.any_eq_true.1 h2
 simp only [Bool.and_eq_true, Bool.or_eq_true, decide_eq_true_eq] at h3
 have h4 := List.all_eq_true.1 hed j (List.mem_range.2 hs)
 simp only [hj] at h4
 have h5 := List.all_eq_true.1 h4 e he
 simp only [h3.1, Bool.not_true, Bool.false_or, decide_eq_true_eq] at h5
 exact ⟨e, by simpa using he, h3.1, h5, h3.2⟩

theorem wanyA_lex {anc : List Nat} (ha : AncOK ops anc) (hK : Inv K) : ∀ (l : List Nat) (ys : List AOp) (listed : Array Bool) (σ : St), permOK ops xs anc l = true → pickA xs l = some ys →
 listed.size = ops.size → (∀ j, j < ops.size → listed.getD j false = !(memb j l)) → Closed ops listed → wopsD Φ ys K σ → wanyA Φ ops xs K l.length listed σ := by
 intro l
 induction l with
 | nil =>
   intro ys listed σ _ hys hls hl hc h
   simp only [pickA, Option.some.injEq] at hys
   subst hys
   refine ⟨?_, h⟩
   rw [List.eq_nil_iff_forall_not_mem]
   intro j hj
   obtain ⟨h1, o, ho, _⟩ := mem_ready.1 hj
   have hs : j < ops.size := (Array.getElem?_eq_some_iff.1 ho).1
   have h2 := hl j hs
   have hlt : j < listed.size := by omega
   simp [hlt, memb] at h1 h2
   rw [h1] at h2
   simp at h2
 | cons i l ih =>
   intro ys listed σ hp hys hls hl hc h
   simp only [permOK, Bool.and_eq_true, Bool.not_eq_true'] at hp
   obtain ⟨⟨⟨hnd, hpre⟩, hap⟩, hrest⟩ := hp
   simp only [pickA] at hys
   split at hys
   · rename_i x ys' hx hys'
     cases hys
     split at hpre
     · rename_i o ho
       have hks : i < ops.size := (Array.getElem?_eq_some_iff.1 ho).1
       have hr : i ∈ Region.ready .any ops listed := by
        refine mem_ready.2 ⟨?_, o, ho, fun e he hb => ?_⟩
        · have := hl i hks
          have hlt : i < listed.size := by omega
          simp [hlt, memb] at this ⊢
          exact this
        · have h5 := List.all_eq_true.1 hpre e (by simpa using he)
          simp only [hb, Bool.not_true, Bool.false_or, Bool.and_eq_true, decide_eq_true_eq] at h5
          rw [hl e.on h5.1]
          exact h5.2
       refine wanyA_first ha hK hx l.length listed σ hc ?_ hr ?_
       · intro j y hy hji hun hno
         simp only [hx] at hap
         by_cases hjs : j < ops.size
         · have h2 := hl j hjs
           have hlt : j < listed.size := by omega
           simp [hlt] at hun h2
           rw [hun] at h2
           have h3 : memb j (i :: l) = true := by
            cases hm : memb j (i :: l) with
            | true => rfl
            | false => rw [hm] at h2; cases h2
           simp only [memb, if_neg hji] at h3
           have h4 := List.all_eq_true.1 hap j (memb_iff.1 h3)
           simp only [hno, hy, Bool.false_or] at h4
           exact h4
         · have : ¬ j < listed.size := by omega
           simp [this] at hun
       · refine wopD_mono h fun τ hτ => ih ys' _ τ hrest hys' (by simp [hls]) ?_ (hc.set hr) hτ
         intro j hj
         by_cases hkj : i = j
         · subst hkj
           have hlt : i < listed.size := by omega
           simp [hlt, hnd]
         · rw [getD_set_ne false hkj, hl j hj]
           have : j ≠ i := fun h => hkj h.symm
           simp only [memb, if_neg this]
     · cases hpre
   · cases hys

theorem drawOK_wany {anc perm : List Nat} {ys : List AOp} {σ : St} (hd : drawOK ops xs anc perm = true) (hp : pickA xs perm = some ys) (hK : Inv K) (h : wopsD Φ ys K σ) :
 wanyA Φ ops xs K ops.size (Array.replicate ops.size false) σ := by
 have ha := drawOK_anc hd
 simp only [drawOK, Bool.and_eq_true, decide_eq_true_eq] at hd
 obtain ⟨⟨⟨⟨⟨hsz, hpl⟩, hall⟩, hed⟩, hanc⟩, hap⟩ := hd
 have := wanyA_lex ha hK perm ys (Array.replicate ops.size false) σ hap hp (by simp) (fun j hj => by
  have := List.all_eq_true.1 hall j (List.mem_range.2 hj)
  simp [hj, this]) (fun j oj hj hl => by
  have hs := (Array.getElem?_eq_some_iff.1 hj).1
  simp [hs] at hl) h
 rw [hpl] at this
 exact this

/-! ### All orders, one by one -/
def linX (ops : Array Oper) : Nat → Array Bool → List (List Nat)
 | 0, listed => match Region.ready .any ops listed with
   | [] => [[]]
   | _ => [[ops.size]]
 | f + 1, listed => match Region.ready .any ops listed with
   | [] => [[]]
   | i :: r => (i :: r).flatMap fun i => (linX ops f (listed.setIfInBounds i true)).map (i :: ·)
def noCall : List AOp → Bool
 | [] => true
 | x :: xs => (match x.a with
   | .call _ _ => false
   | .callv _ _ => false
   | .callH _ _ => false
   | .inv _ _ _ => false
   | _ => true) && noCall xs
def pickAs (xs : List AOp) : List (List Nat) → Option (List (List AOp))
 | [] => some []
 | p :: ps => match pickA xs p, pickAs xs ps with
   | some y, some ys => some (y :: ys)
   | _, _ => none

theorem wact_det {d : Option Nat} {a : Act'} (hn : (match a with | .call _ _ => false | .callv _ _ => false | .callH _ _ => false | .inv _ _ _ => false | _ => true) = true) {σ : St} {K : St → Prop} (h : wact Φ d a K σ) : ∃ τ, ∀ K', wact Φ d a K' σ ↔ K' τ := by
 cases a with
 | call => cases hn
 | callv => cases hn
 | callH => cases hn
 | inv => cases hn
 | mkp kt => exact ⟨_, fun K' => Iff.rfl⟩
 | ltr e sz xs =>
   simp only [wact] at h ⊢
   split at h
   · split at h
     · exact ⟨_, fun K' => ⟨fun h => h.2.2, fun h' => ⟨h.1, h.2.1, h'⟩⟩⟩
     · exact h.elim
   · exact h.elim
 | trc x hi sz =>
   simp only [wact] at h ⊢
   split at h
   · split at h
     · exact ⟨_, fun K' => ⟨fun h => h.2.2.2.2, fun h' => ⟨h.1, h.2.1, h.2.2.1, h.2.2.2.1, h'⟩⟩⟩
     · exact h.elim
   · exact h.elim
 | mup kt x k v =>
   simp only [wact] at h ⊢
   split at h
   · split at h
     · exact ⟨_, fun K' => ⟨fun h => h.2.2.2.2, fun h' => ⟨h.1, h.2.1, h.2.2.1, h.2.2.2.1, h'⟩⟩⟩
     · exact h.elim
   · exact h.elim
 | alc z => exact ⟨_, fun K' => Iff.rfl⟩
 | box x =>
   simp only [wact] at h ⊢
   split at h
   · split at h
     · rename_i hc; simp only [if_pos hc]; exact ⟨_, fun K' => Iff.rfl⟩
     · exact h.elim
   · exact h.elim
 | st n p x =>
   simp only [wact] at h ⊢
   split at h
   · split at h
     · rename_i hc
       simp only [if_pos hc]
       split at h
       · exact ⟨_, fun K' => Iff.rfl⟩
       · exact h.elim
     · exact h.elim
   · exact h.elim
 | s2b x =>
   simp only [wact] at h ⊢
   split at h
   · exact ⟨_, fun K' => ⟨fun h => h.2, fun h' => ⟨h.1, h'⟩⟩⟩
   · exact h.elim
 | lit e0 sz xs =>
   simp only [wact] at h ⊢
   split at h
   · split at h
     · exact ⟨_, fun K' => ⟨fun h => h.2.2, fun h' => ⟨h.1, h.2.1, h'⟩⟩⟩
     · exact h.elim
   · exact h.elim
 | app x y e sz by' =>
   simp only [wact] at h ⊢
   split at h
   · split at h
     · obtain ⟨h0, h⟩ := h
       split at h
       · exact ⟨_, fun K' => ⟨fun h => h.2.2, fun h' => ⟨h0, h.1, h'⟩⟩⟩
       · split at h
         · exact ⟨_, fun K' => ⟨fun h => h.2.2.2.2.2, fun h' => ⟨h0, h.1, h.2.1, h.2.2.1, h.2.2.2.1, h'⟩⟩⟩
         · exact h.elim
       · split at h
         · split at h
           · exact ⟨_, fun K' => ⟨fun h => h.2.2.2.2.2, fun h' => ⟨h0, h.1, h.2.1, h.2.2.1, h.2.2.2.1, h'⟩⟩⟩
           · exact h.elim
         · exact h.elim
       · exact h.elim
     · exact h.elim
   · exact h.elim
 | yld g xs =>
   simp only [wact] at h ⊢
   split at h
   · split at h
     · exact ⟨_, fun K' => ⟨fun h => h.2.2, fun h' => ⟨h.1, h.2.1, h'⟩⟩⟩
     · exact h.elim
   · exact h.elim
 | mkm e by' e2 sz n =>
   simp only [wact] at h ⊢
   split at h
   · exact ⟨_, fun K' => ⟨fun h => h.2.2, fun h' => ⟨h.1, h.2.1, h'⟩⟩⟩
   · exact h.elim
 | mk0 e sz by' n =>
   simp only [wact] at h ⊢
   split at h
   · exact ⟨_, fun K' => ⟨fun h => h.2.2, fun h' => ⟨h.1, h.2.1, h'⟩⟩⟩
   · exact h.elim
 | mks e sz by' z n =>
   simp only [wact] at h ⊢
   split at h
   · exact ⟨_, fun K' => ⟨fun h => h.2.2, fun h' => ⟨h.1, h.2.1, h'⟩⟩⟩
   · exact h.elim
 | _ =>
   simp only [wact] at h ⊢
   split at h
   · exact ⟨_, fun K' => Iff.rfl⟩
   · exact h.elim

theorem wop_det {x : AOp} (hn : (match x.a with | .call _ _ => false | .callv _ _ => false | .callH _ _ => false | .inv _ _ _ => false | _ => true) = true) {σ : St} {K : St → Prop} (h : wop Φ x K σ) : ∃ τ, ∀ K', wop Φ x K' σ ↔ K' τ := by
 unfold wop at h ⊢
 split at h
 · exact wact_det hn h
 · split at h
   · rename_i t b _ _ y hy
     cases y <;> cases b <;> simp [Br] at h ⊢ <;> first | exact wact_det hn h | exact ⟨_, fun K' => Iff.rfl⟩
   · exact ⟨_, fun K' => Iff.rfl⟩
   · exact h.elim

theorem linX_ne (ops : Array Oper) : ∀ (f : Nat) (listed : Array Bool), linX ops f listed ≠ []
 | 0, listed => by unfold linX; split <;> simp
 | f + 1, listed => by
   unfold linX
   split
   · simp
   · rename_i i r _
     have := linX_ne ops f (listed.setIfInBounds i true)
     intro h
     rw [List.flatMap_cons] at h
     exact this (List.map_eq_nil_iff.1 (List.append_eq_nil_iff.1 h).1)

theorem noCall_get {i : Nat} {x : AOp} : ∀ {xs : List AOp}, noCall xs = true → xs[i]? = some x → (match x.a with | .call _ _ => false | .callv _ _ => false | .callH _ _ => false | .inv _ _ _ => false | _ => true) = true
 | [], _, h => by simp at h
 | y :: ys, hn, h => by
   simp only [noCall, Bool.and_eq_true] at hn
   revert h
   revert i
   intro i h
   cases i with
   | zero => simp at h; subst h; exact hn.1
   | succ i => simp at h; exact noCall_get hn.2 h

theorem linX_wany (hn : noCall xs = true) (hsz : ops.size = xs.length) : ∀ (f : Nat) (listed : Array Bool) (σ : St), (∀ p ∈ linX ops f listed, ∃ ys, pickA xs p = some ys ∧ wops Φ ys K σ) →
 wanyB Φ ops xs K f listed σ := by
 intro f
 induction f with
 | zero =>
   intro listed σ h
   unfold linX at h
   split at h
   · rename_i hr
     obtain ⟨ys, h1, h2⟩ := h [] (by simp)
     simp only [pickA, Option.some.injEq] at h1
     subst h1
     exact ⟨hr, h2⟩
   · obtain ⟨ys, h1, _⟩ := h [ops.size] (by simp)
     simp [pickA, hsz] at h1
 | succ f ih =>
   intro listed σ h
   unfold linX at h
   split at h
   · rename_i hr
     obtain ⟨ys, h1, h2⟩ := h [] (by simp)
     simp only [pickA, Option.some.injEq] at h1
     subst h1
     refine ⟨fun _ => h2, fun i hi => ?_⟩
     rw [hr] at hi
     cases hi
   · rename_i i0 r hr
     refine ⟨fun h0 => (by rw [hr] at h0; cases h0), fun i hi => ?_⟩
     rw [hr] at hi
     have hall : ∀ p ∈ linX ops f (listed.setIfInBounds i true), ∃ ys, pickA xs (i :: p) = some ys ∧ wops Φ ys K σ := fun p hp => h (i :: p) (List.mem_flatMap.2 ⟨i, hi, List.mem_map.2 ⟨p, hp, rfl⟩⟩)
     obtain ⟨p0, hp0⟩ := List.exists_mem_of_ne_nil _ (linX_ne ops f (listed.setIfInBounds i true))
     obtain ⟨ys0, h0, hw0⟩ := hall p0 hp0
     simp only [pickA] at h0
     split at h0
     · rename_i x ys1 hx hy1
       cases h0
       obtain ⟨τ, hτ⟩ := wop_det (noCall_get hn hx) hw0
       refine ⟨x, hx, (hτ _).2 (ih _ τ (fun p hp => ?_))⟩
       obtain ⟨ys, h2, hw⟩ := hall p hp
       simp only [pickA, hx] at h2
       split at h2
       · rename_i x' ys2 hx' hy2
         cases hx'
         cases h2
         exact ⟨ys2, hy2, (hτ _).1 hw⟩
       · cases h2
     · cases h0

theorem wop_mono {x : AOp} {σ : St} {K K' : St → Prop} (h : wopD Φ x K σ) (hk : ∀ τ, K τ → K' τ) : wop Φ x K' σ := wopD_wop (wopD_mono h hk)
theorem wanyA_B : ∀ (f : Nat) (listed : Array Bool) {σ : St}, wanyA Φ ops xs K f listed σ → wanyB Φ ops xs K f listed σ
 | 0, _, _, h => h
 | f + 1, _, _, h => ⟨h.1, fun i hi => by
   obtain ⟨x, hx, hw⟩ := h.2 i hi
   exact ⟨x, hx, wop_mono hw fun τ hτ => wanyA_B f _ hτ⟩⟩

/-! ### Few orders: operations that add nothing go first, where they may -/
def freeOK (xs : List AOp) (anc : List Nat) (listed : Array Bool) (i : Nat) : Bool := match xs[i]? with
 | some x => (List.range xs.length).all fun j => decide (j = i) || listed.getD j true || ancB anc j i || (match xs[j]? with
   | some y => apartB x y
   | none => true)
 | none => false
def firstP (xs : List AOp) (anc : List Nat) (listed : Array Bool) : List Nat → Option Nat
 | [] => none
 | i :: l => if freeOK xs anc listed i = true then some i else firstP xs anc listed l
def joinT : List (Option OT) → Option OT
 | [] => none
 | [t] => t
 | t :: ts => match t, joinT ts with
   | some a, some b => some (.both a b)
   | _, _ => none
def opT : Option AOp → Option OT → Option OT
 | some x, some t => some (.op x t)
 | _, _ => none
def linY (ops : Array Oper) (xs : List AOp) (anc : List Nat) : Nat → Array Bool → Option OT
 | 0, listed => match Region.ready .any ops listed with
   | [] => some .nil
   | _ => none
 | f + 1, listed => match Region.ready .any ops listed with
   | [] => some .nil
   | i :: r => match firstP xs anc listed (i :: r) with
     | some k => opT xs[k]? (linY ops xs anc f (listed.setIfInBounds k true))
     | none => joinT ((i :: r).map fun k => opT xs[k]? (linY ops xs anc f (listed.setIfInBounds k true)))
theorem opT_some {x : Option AOp} {t : Option OT} {u : OT} (h : opT x t = some u) : ∃ y v, x = some y ∧ t = some v ∧ u = .op y v := by
 unfold opT at h
 split at h
 · cases h; exact ⟨_, _, rfl, rfl, rfl⟩
 · cases h
theorem joinT_all {K : St → Prop} {σ : St} : ∀ {ts : List (Option OT)} {t : OT}, joinT ts = some t → wtree Φ t K σ → ∀ u ∈ ts, ∃ v, u = some v ∧ wtree Φ v K σ
 | [], _, h, _, _, _ => by cases h
 | [t0], t, h, hW, u, hu => by
   simp only [joinT] at h
   simp only [List.mem_singleton] at hu
   subst hu
   exact ⟨t, h, hW⟩
 | t0 :: t1 :: ts, t, h, hW, u, hu => by
   simp only [joinT] at h
   cases t0 with
   | none => cases h
   | some a =>
     cases h2 : joinT (t1 :: ts) with
     | none => simp [h2] at h
     | some b =>
       simp only [h2, Option.some.injEq] at h
       subst h
       rcases List.mem_cons.1 hu with rfl | hu
       · exact ⟨a, rfl, hW.1⟩
       · exact joinT_all h2 hW.2 u hu
theorem firstP_mem {anc : List Nat} {listed : Array Bool} {l : List Nat} {k : Nat} (h : firstP xs anc listed l = some k) : k ∈ l ∧ freeOK xs anc listed k = true := by
 induction l with
 | nil => cases h
 | cons i l ih =>
   simp only [firstP] at h
   split at h
   · rename_i hf; cases h; exact ⟨by simp, hf⟩
   · exact ⟨List.mem_cons_of_mem _ (ih h).1, (ih h).2⟩
theorem linY_wany {anc : List Nat} (ha : AncOK ops anc) (hK : Inv K) : ∀ (f : Nat) (listed : Array Bool) (σ : St) (t : OT), Closed ops listed → linY ops xs anc f listed = some t → wtree Φ t K σ →
 wanyA Φ ops xs K f listed σ := by
 intro f
 induction f with
 | zero =>
   intro listed σ l hc h hW
   unfold linY at h
   split at h
   · rename_i hr
     cases h
     exact ⟨hr, hW⟩
   · cases h
 | succ f ih =>
   intro listed σ l hc h hW
   unfold linY at h
   split at h
   · rename_i hr
     cases h
     exact ⟨fun _ => hW, fun i hi => by rw [hr] at hi; cases hi⟩
   · rename_i i r hr
     split at h
     · rename_i k hk
       obtain ⟨x, l', hx, hl', rfl⟩ := opT_some h
       obtain ⟨hk1, hfree⟩ := firstP_mem hk
       have hkr : k ∈ Region.ready .any ops listed := by rw [hr]; exact hk1
       refine wanyA_first ha hK hx f listed σ hc ?_ hkr (wopD_mono hW fun τ hτ => ih _ τ l' (hc.set hkr) hl' hτ)
       intro j y hy hjk hun hno
       unfold freeOK at hfree
       rw [hx] at hfree
       have := List.all_eq_true.1 hfree j (List.mem_range.2 (List.getElem?_eq_some_iff.1 hy).1)
       simp only [hun, hno, hy, Bool.or_false, Bool.or_eq_true, decide_eq_true_eq, hjk, false_or] at this
       exact this
     · refine ⟨fun h0 => (by rw [hr] at h0; cases h0), fun k hk => ?_⟩
       obtain ⟨v, hv, hWv⟩ := joinT_all h hW _ (List.mem_map.2 ⟨k, by rw [hr] at hk; exact hk, rfl⟩)
       obtain ⟨x, l', hx, hl', rfl⟩ := opT_some hv
       exact ⟨x, hx, wopD_mono hWv fun τ hτ => ih _ τ l' (hc.set hk) hl' hτ⟩
def ancChk (ops : Array Oper) (anc : List Nat) : Bool :=
 ((List.range ops.size).all fun j => match ops[j]? with
   | some o => o.after.toList.all fun e => !(Region.binds .any e) || decide (e.on < j)
   | none => true) &&
 ((List.range ops.size).all fun j => match ops[j]? with
   | some o => (List.range j).all fun i => !(Nat.testBit (anc.getD j 0) i) || o.after.toList.any fun e => Region.binds .any e && (decide (e.on = i) || ancB anc e.on i)
   | none => true)
theorem ancChk_anc {anc : List Nat} (hd : ancChk ops anc = true) : AncOK ops anc := by
 simp only [ancChk, Bool.and_eq_true] at hd
 obtain ⟨hed, hanc⟩ := hd
 intro j i oj hj hb
 simp only [ancB, Bool.and_eq_true, decide_eq_true_eq] at hb
 have hs : j < ops.size := (Array.getElem?_eq_some_iff.1 hj).1
 have h1 := List.all_eq_true.1 hanc j (List.mem_range.2 hs)
 simp only [hj] at h1
 have h2 := List.all_eq_true.1 h1 i (List.mem_range.2 hb.1)
 simp only [hb.2, Bool.not_true, Bool.false_or] at h2
 obtain ⟨e, he, h3⟩ := List.any_eq_true.1 h2
 simp only [Bool.and_eq_true, Bool.or_eq_true, decide_eq_true_eq] at h3
 have h4 := List.all_eq_true.1 hed j (List.mem_range.2 hs)
 simp only [hj] at h4
 have h5 := List.all_eq_true.1 h4 e he
 simp only [h3.1, Bool.not_true, Bool.false_or, decide_eq_true_eq] at h5
 exact ⟨e, by simpa using he, h3.1, h5, h3.2⟩
theorem Closed.start {n : Nat} : Closed ops (Array.replicate n false) := by
 intro j oj hj hl
 by_cases hjn : j < n
 · simp [hjn] at hl
 · simp [hjn] at hl

theorem LOs_get {ps : List Nat} {os : List Oper} {ys : List AOp} (h : LOs P N ps ops os ys) : ∀ {i : Nat} {o : Oper} {y : AOp}, os[i]? = some o → ys[i]? = some y → LO P N ps ops o y := by
 induction h with
 | nil => intro i o y h; simp at h
 | cons hl hs ih =>
   intro i o y h1 h2
   cases i with
   | zero => simp at h1 h2; subst h1; subst h2; exact hl
   | succ i => simp at h1 h2; exact ih h1 h2

theorem any_sound (hJC : JCall P M0 B) {ρ : Option Nat} {Q : Exit → Act → World → Prop} {K : St → Prop} (hL : LOs P N B.ps ops ops.toList xs) (hK : ∀ κ' M' σ' a' w', K σ' → Rel N M0 B w0 κ' M' σ' a' w' → Q .normal a' w') :
 ∀ (f : Nat) (listed : Array Bool) {κ : Kap} {M : Mem} {σ : St} {a : Act} {w : World}, Rel N M0 B w0 κ M σ a w → wanyB (Cn P) ops xs K f listed σ → wpAnyIn (FR ρ) 0 P .any ops Q f listed a w
 | 0, _, _, _, _, _, _, H, hW => ⟨hW.1, hK _ _ _ _ _ hW.2 H⟩
 | f + 1, listed, _, _, _, _, _, H, hW => by
   refine ⟨fun h0 => hK _ _ _ _ _ (hW.1 h0) H, fun i hi => ?_⟩
   obtain ⟨x, hx, hw⟩ := hW.2 i hi
   obtain ⟨_, o, ho, _⟩ := mem_ready.1 hi
   have hl := LOs_get hL (by simpa using ho) hx
   have := op_sound hJC (ρ := ρ) H hl hw (Q := Q) (fun κ' M' σ' a' w' hk H' => any_sound (ρ := ρ) hJC hL hK f _ H' hk)
   unfold wpOpIn
   simp only [ho]
   split
   · rename_i hwd; rw [if_pos hwd] at this; exact this
   · rename_i hwd; rw [if_neg hwd] at this; exact ⟨fun _ _ => trivial, this⟩

theorem Rel.draw {κ : Kap} {M : Mem} {σ : St} {a : Act} {w : World} (H : Rel N M0 B w0 κ M σ a w) (n : Nat) : Rel N M0 B w0 κ M σ a { w with drawn := n } :=
 { dfr := H.dfr, jst := H.jst, pin := H.pin, size := H.size, regs := H.regs, heap := fun id ob h => by
    have := H.heap id ob h
    cases ob with
    | gh l =>
      simp only [obAt] at this ⊢
      obtain ⟨k, h1, h2, h3⟩ := this
      exact ⟨k, h1, H.jst _ _ _ _ _ _ _ h2 ⟨rfl, rfl, rfl, Nat.le_refl _, fun _ _ _ => rfl, fun _ cur T z h => ⟨cur, T, z, h, rfl⟩⟩ (fun _ _ => rfl) (fun _ _ h => h) H.snd, h3⟩
    | _ => exact this
   inj := H.inj, snd := H.snd, sep := H.sep, sub := H.sub, new := H.new, base := H.base, blw := ⟨H.blw.os, H.blw.tape, H.blw.output, H.blw.size, H.blw.block, H.blw.siz⟩ }

/-! ### Code -/
inductive LC (P : Program) (N : Nat) (ps : List Nat) : Code → AC → Prop
 | skip : LC P N ps .skip .skip
 | reg {id ops xs ks} : LOs P N ps ops ops.toList xs → LC P N ps (.region id ops false) (.reg xs ks)
 | regD {id ops xs ys anc perm ks} : LOs P N ps ops ops.toList xs → drawOK ops xs anc perm = true → pickA xs perm = some ys → LC P N ps (.region id ops true) (.regD ys ks)
 | regE {id ops xs yss ks} : LOs P N ps ops ops.toList xs → noCall xs = true → ops.size = xs.length → pickAs xs (linX ops ops.size (Array.replicate ops.size false)) = some yss → LC P N ps (.region id ops true) (.regE yss ks)
 | regF {id ops xs yss anc ks} : LOs P N ps ops ops.toList xs → ancChk ops anc = true → linY ops xs anc ops.size (Array.replicate ops.size false) = some yss → LC P N ps (.region id ops true) (.regF yss ks)
 | scope {c rest a b l ks} : LC P N ps c a → findLabel c l = some rest → LC P N ps rest b → LC P N ps (.scope c) (.scope l ks a b)
 | label {l} : LC P N ps (.label l) (.label l)
 | goto {l} : LC P N ps (.goto l) (.goto l)
 | bad {x} : LC P N ps x .bad
 | seq {x y a b} : LC P N ps x a → LC P N ps y b → LC P N ps (.seq x y) (.seq a b)
 | cond {c c' x y a b t} : cO P t c = some c' → LC P N ps x a → LC P N ps y b → LC P N ps (.cond c x y) (.cond c' a b)
 | block {id x a} : LC P N ps x a → LC P N ps (.block id x) (.block id a)
 | loop {x a ks} : LC P N ps x a → LC P N ps (.loop x) (.loop ks a)
 | exit {id} : LC P N ps (.exit id) (.exit id)
 | ret : LC P N ps .ret .ret

def Ex.out : Ex → Exit
 | .norm => .normal
 | .exit id => .exit id
 | .goto l => .goto l
 | .ret => .ret

theorem cls_sound {κ : Kap} {M : Mem} {σ σ' : St} {a : Act} {w : World} (H : Rel N M0 B w0 κ M σ' a w) (ks : List Nat) : Rel N M0 B w0 κ M (σ.cls σ' ks) a w := H.forget _ fun t v h => lk_pk h

theorem pk_congr {r s : List (Nat × V)} (h : ∀ t, lk s t = lk r t) : ∀ ks, pk s ks = pk r ks
 | [] => rfl
 | k :: ks => by simp only [pk, h k, pk_congr h ks]

theorem nrm_inv {R : St → Prop} (ks : List Nat) : Inv (fun σ' => R (σ'.nrm ks)) := by
 intro σ1 τ he h1
 have : τ.nrm ks = σ1.nrm ks := by
  simp only [St.nrm, he.1, pk_congr he.2]
 show R (τ.nrm ks)
 rw [this]; exact h1
theorem least_of {p : Nat → Prop} (h : ∃ n, p n) : ∃ n, p n ∧ ∀ m, p m → n ≤ m := by
 obtain ⟨n, hn⟩ := h
 induction n using Nat.strongRecOn with
 | _ n ih =>
   by_cases hm : ∃ m, m < n ∧ p m
   · obtain ⟨m, h1, h2⟩ := hm
     exact ih m h1 h2
   · exact ⟨n, hn, fun m h => by
      rcases Nat.lt_or_ge m n with h1 | h1
      · exact (hm ⟨m, h1, h⟩).elim
      · exact h1⟩
open Classical in
noncomputable def leastN (p : Nat → Prop) : Nat := if h : ∃ n, p n then (least_of h).choose else 0
theorem leastN_spec {p : Nat → Prop} (h : ∃ n, p n) : p (leastN p) ∧ ∀ m, p m → leastN p ≤ m := by
 unfold leastN
 rw [dif_pos h]
 exact (least_of h).choose_spec
theorem stepR_scope {b : Frame} {a : Act} {c : Code} {k : List Item} {cs : List Frame} {w : World} : step P (lone (b.atR a (.code (.scope c) :: k)) cs w) = .next (lone (b.atR a (.code c :: .inScope c :: k)) cs w) :=
 step_lone_go (by simp [stepG, stepG.exec, Frame.atR])
theorem stepR_inScope {b : Frame} {a : Act} {c : Code} {k : List Item} {cs : List Frame} {w : World} : step P (lone (b.atR a (.inScope c :: k)) cs w) = .next (lone (b.atR a k) cs w) :=
 step_lone_go (by simp [stepG, stepG.exec, Frame.atR])
theorem wpIn_scope_jumps {F : Fence} {n : Nat} {Q : Exit → Act → World → Prop} {a : Act} {w : World} {c rest : Code} (l : Nat) (J : Act → World → Prop) (μ : Act → World → Nat) (hf : findLabel c l = some rest)
 (first : c.wpIn F n P (Exit.jump l J Q) a w)
 (pass : ∀ a w, J a w → rest.wpIn F n P (Exit.jump l (fun a' w' => J a' w' ∧ μ a' w' < μ a w) Q) a w) : (Code.scope c).wpIn F n P Q a w := by
 intro b k cs hro hb hr
 have hg : gotoIn l (.inScope c :: k) = some (.code rest :: .inScope c :: k) := by simp [gotoIn, hf]
 have hS : ∀ {I : Machine → Prop} {m : Machine} {e : Exit} {a₁ : Act} {w₁ : World}, (∀ l', e ≠ .goto l') → e ≠ .normal → ArrivesIn I P m b (.inScope c :: k) cs e a₁ w₁ → ArrivesIn I P m b k cs e a₁ w₁ := by
  intro I m e a₁ w₁ hng hnn harr
  cases e with
  | normal => exact absurd rfl hnn
  | exit id => exact ⟨fun k' hk => harr.1 k' (by simp [exitTo, hk]), fun hr hk => harr.2 hr (by simp [exitTo, hk])⟩
  | goto l' => exact absurd rfl (hng l')
  | ret => exact harr
  | panic ch => exact harr
  | outgrown => exact harr
 have key : ∀ n a w, μ a w = n → J a w → ∃ e a' w', Q e a' w' ∧ ArrivesIn (Machine.fenced P F) P (lone (b.atR a (.code rest :: .inScope c :: k)) cs w) b k cs e a' w' := by
  intro n
  induction n using Nat.strongRecOn with
  | _ n ih =>
    intro a w hn hJ
    obtain ⟨e, a₁, w₁, hq, harr⟩ := pass a w hJ b (.inScope c :: k) cs hro hb hr
    cases e with
    | normal => exact ⟨.normal, a₁, w₁, hq, StepsIn.trans harr (.one (fenced_calm hb hr rfl) stepR_inScope)⟩
    | exit id => exact ⟨.exit id, a₁, w₁, hq, hS (fun _ h => by cases h) (fun h => by cases h) harr⟩
    | goto l' =>
      obtain ⟨rfl, hJ', hlt⟩ := hq
      obtain ⟨e₂, a₂, w₂, hq₂, harr₂⟩ := ih _ (by omega) a₁ w₁ rfl hJ'
      exact ⟨e₂, a₂, w₂, hq₂, .of_steps (harr.1 _ hg) harr₂⟩
    | ret => exact ⟨_, a₁, w₁, hq, hS (fun _ h => by cases h) (fun h => by cases h) harr⟩
    | panic ch => exact ⟨_, a₁, w₁, hq, hS (fun _ h => by cases h) (fun h => by cases h) harr⟩
    | outgrown => exact ⟨_, a₁, w₁, hq, hS (fun _ h => by cases h) (fun h => by cases h) harr⟩
 have h0 : StepsIn (Machine.fenced P F) P (lone (b.atR a (.code (.scope c) :: k)) cs w) (lone (b.atR a (.code c :: .inScope c :: k)) cs w) := .one (fenced_calm hb hr rfl) stepR_scope
 obtain ⟨e, a₁, w₁, hq, harr⟩ := first b (.inScope c :: k) cs hro hb hr
 cases e with
 | normal => exact ⟨.normal, a₁, w₁, hq, StepsIn.trans h0 (StepsIn.trans harr (.one (fenced_calm hb hr rfl) stepR_inScope))⟩
 | exit id => exact ⟨.exit id, a₁, w₁, hq, .of_steps h0 (hS (fun _ h => by cases h) (fun h => by cases h) harr)⟩
 | goto l' =>
   obtain ⟨rfl, hJ'⟩ := hq
   obtain ⟨e₂, a₂, w₂, hq₂, harr₂⟩ := key _ a₁ w₁ rfl hJ'
   exact ⟨e₂, a₂, w₂, hq₂, .of_steps (StepsIn.trans h0 (harr.1 _ hg)) harr₂⟩
 | ret => exact ⟨_, a₁, w₁, hq, .of_steps h0 (hS (fun _ h => by cases h) (fun h => by cases h) harr)⟩
 | panic ch => exact ⟨_, a₁, w₁, hq, .of_steps h0 (hS (fun _ h => by cases h) (fun h => by cases h) harr)⟩
 | outgrown => exact ⟨_, a₁, w₁, hq, .of_steps h0 (hS (fun _ h => by cases h) (fun h => by cases h) harr)⟩
theorem wpIn_loop_ghost {F : Fence} {n : Nat} {Q : Exit → Act → World → Prop} {a : Act} {w : World} {c : Code} (I : Nat → Act → World → Prop) (n₀ : Nat) (h₀ : I n₀ a w)
 (round : ∀ k a w, I k a w → c.wpIn F n P (Exit.then (fun a' w' => ∃ k', k' < k ∧ I k' a' w') Q) a w) : (Code.loop c).wpIn F n P Q a w := by
 refine wpIn_loop (fun a w => ∃ k, I k a w) (fun a w => leastN (fun k => I k a w)) ⟨n₀, h₀⟩ ?_
 intro a w hI
 refine wpIn_mono (round _ a w (leastN_spec hI).1) ?_
 intro e a' w' hq
 cases e with
 | normal =>
   obtain ⟨k', hlt, hI'⟩ := hq
   exact show (∃ k, I k a' w') ∧ leastN (fun k => I k a' w') < leastN (fun k => I k a w) from ⟨⟨k', hI'⟩, Nat.lt_of_le_of_lt ((leastN_spec ⟨k', hI'⟩).2 k' hI') hlt⟩
 | exit id => exact hq
 | goto l => exact hq
 | ret => exact hq
 | panic ch => exact hq
 | outgrown => exact hq
theorem W_sound (hm : P.follows .mixedOrders = true) (hJC : JCall P M0 B) {ρ : Option Nat} {c : Code} {x : AC} (h : LC P N B.ps c x) : ∀ {Q : Exit → Act → World → Prop} {R : Ex → St → Prop},
 (∀ e κ M σ a w, R e σ → Rel N M0 B w0 κ M σ a w → Q e.out a w) → ∀ {κ : Kap} {M : Mem} {σ : St} {a : Act} {w : World}, Rel N M0 B w0 κ M σ a w → W (Cn P) x R σ → c.wpIn (FR ρ) 0 P Q a w := by
 induction h with
 | skip => intro Q R hQ κ M σ a w H hW; exact wpIn_skip (hQ .norm _ _ _ _ _ hW H)
 | reg hL =>
   intro Q R hQ κ M σ a w H hW
   refine wpIn_region_list (ops_sound hJC (fun κ' M' σ' a' w' hk H' => ?_) hL H hW)
   exact hQ .norm _ _ _ _ _ hk (cls_sound H' _)
 | @regD id ops xs ys anc perm ks hL hd hp =>
   intro Q R hQ κ M σ a w H hW
   refine wpIn_region_any hm ?_
   have hinv : Inv (fun σ' => R .norm (σ.cls σ' ks)) := by
    intro σ1 τ he h1
    have : σ.cls τ ks = σ.cls σ1 ks := by
     simp only [St.cls, he.1, pk_congr he.2]
    rw [this]; exact h1
   refine any_sound hJC hL (fun κ' M' σ' a' w' hk H' => ?_) _ _ (H.draw _) (wanyA_B _ _ (drawOK_wany hd hp hinv hW))
   exact hQ .norm _ _ _ _ _ hk (cls_sound H' _)
 | @regE id ops xs yss ks hL hn hsz hp =>
   intro Q R hQ κ M σ a w H hW
   refine wpIn_region_any hm ?_
   have key : ∀ (ps : List (List Nat)) (yss : List (List AOp)), pickAs xs ps = some yss → wall (Cn P) yss (fun σ' => R .norm (σ.cls σ' ks)) σ → ∀ p ∈ ps, ∃ ys, pickA xs p = some ys ∧ wops (Cn P) ys (fun σ' => R .norm (σ.cls σ' ks)) σ := by
    intro ps
    induction ps with
    | nil => intro _ _ _ p hp; cases hp
    | cons q ps ih =>
      intro yss h1 h2 p hp
      simp only [pickAs] at h1
      split at h1
      · rename_i y ys hy hys
        cases h1
        rcases List.mem_cons.1 hp with rfl | hp
        · exact ⟨y, hy, h2.1⟩
        · exact ih ys hys h2.2 p hp
      · cases h1
   refine any_sound hJC hL (fun κ' M' σ' a' w' hk H' => ?_) _ _ (H.draw _) (linX_wany hn hsz _ _ σ (key _ _ hp hW))
   exact hQ .norm _ _ _ _ _ hk (cls_sound H' _)
 | @regF id ops xs yss anc ks hL hanc hp =>
   intro Q R hQ κ M σ a w H hW
   refine wpIn_region_any hm ?_
   refine any_sound hJC hL (fun κ' M' σ' a' w' hk H' => ?_) _ _ (H.draw _) (wanyA_B _ _ (linY_wany (ancChk_anc hanc) (nrm_inv (R := R .norm) ks) _ _ σ _ Closed.start hp hW))
   obtain ⟨κ2, H2⟩ := H'.nrm ks
   exact hQ .norm _ _ _ _ _ hk H2
 | @scope c rest x y l ks _ hf _ iha ihb =>
   intro Q R hQ κ M σ a w H hW
   obtain ⟨I, h1, h2⟩ := hW
   have G : ∀ a w, (∃ n κ M τ, I n τ ∧ Rel N M0 B w0 κ M τ a w) → ∃ n, ∃ κ M τ, I n τ ∧ Rel N M0 B w0 κ M τ a w := fun _ _ h => h
   refine wpIn_scope_jumps l (fun a w => ∃ n κ M τ, I n τ ∧ Rel N M0 B w0 κ M τ a w) (fun a w => leastN fun n => ∃ κ M τ, I n τ ∧ Rel N M0 B w0 κ M τ a w) hf (iha ?_ H h1) ?_
   · intro e κ M σ a w hR H
     cases e with
     | norm => exact hQ .norm _ _ _ _ _ hR H
     | exit id => exact hQ (.exit id) _ _ _ _ _ hR H
     | ret => exact hQ .ret _ _ _ _ _ hR H
     | goto l' =>
       obtain ⟨rfl, n, ms, τ'', g1, g2⟩ := hR
       obtain ⟨κ', M', H'⟩ := H.mats g1
       obtain ⟨κ2, H2⟩ := H'.nrm ks
       exact ⟨rfl, n, _, _, _, g2, H2⟩
   · intro a w hJ
     obtain ⟨⟨κ, M, τ, hI, H⟩, hmin⟩ := leastN_spec hJ
     refine ihb ?_ H (h2 _ τ hI)
     intro e κ M σ a w hR H
     cases e with
     | norm => exact hQ .norm _ _ _ _ _ hR H
     | exit id => exact hQ (.exit id) _ _ _ _ _ hR H
     | ret => exact hQ .ret _ _ _ _ _ hR H
     | goto l' =>
       obtain ⟨rfl, m, ms, τ'', g1, g2, g3⟩ := hR
       obtain ⟨κ', M', H'⟩ := H.mats g1
       obtain ⟨κ2, H2⟩ := H'.nrm ks
       have hJ' : ∃ n, ∃ κ M τ, I n τ ∧ Rel N M0 B w0 κ M τ a w := ⟨m, _, _, _, g2, H2⟩
       exact ⟨rfl, hJ', Nat.lt_of_le_of_lt ((leastN_spec hJ').2 m ⟨_, _, _, g2, H2⟩) g3⟩
 | label => intro Q R hQ κ M σ a w H hW; exact wpIn_label (hQ .norm _ _ _ _ _ hW H)
 | goto => intro Q R hQ κ M σ a w H hW; exact wpIn_goto (hQ (.goto _) _ _ _ _ _ hW H)
 | bad =>
   intro Q R hQ κ M σ a w H hW
   exact hW.elim
 | seq _ _ iha ihb =>
   intro Q R hQ κ M σ a w H hW
   refine wpIn_seq (iha ?_ H hW)
   intro e κ M σ a w hR H
   cases e with
   | norm => exact ihb hQ H hR
   | exit id => exact hQ (.exit id) _ _ _ _ _ hR H
   | goto l => exact hQ (.goto l) _ _ _ _ _ hR H
   | ret => exact hQ .ret _ _ _ _ _ hR H
 | cond hc _ _ iha ihb =>
   intro Q R hQ κ M σ a w H hW
   simp only [W] at hW
   split at hW
   · rename_i t ht
     have hv := H.op hc ht
     exact wpIn_cond_split (rep_bool hv) (fun h => iha hQ H (hW.1 h)) (fun h => ihb hQ H (hW.2 h))
   · exact hW.elim
 | @block id x a _ ih =>
   intro Q R hQ κ M σ a w H hW
   refine wpIn_block (ih ?_ H hW)
   intro e κ M σ a w hR H
   cases e with
   | norm => exact hQ .norm _ _ _ _ _ hR H
   | exit id' =>
     simp only [Ex.inBlock] at hR
     simp only [Ex.out, Exit.inBlock]
     split
     · rename_i he; rw [if_pos he] at hR; exact hQ .norm _ _ _ _ _ hR H
     · rename_i he; rw [if_neg he] at hR; exact hQ (.exit id') _ _ _ _ _ hR H
   | goto l => exact hQ (.goto l) _ _ _ _ _ hR H
   | ret => exact hQ .ret _ _ _ _ _ hR H
 | @loop x a ks _ ih =>
   intro Q R hQ κ M σ a w H hW
   obtain ⟨I, ⟨n, ms, σ', hms, hI⟩, hr⟩ := hW
   obtain ⟨κ', M', H'⟩ := H.mats hms
   obtain ⟨κ2, H2⟩ := H'.nrm ks
   refine wpIn_loop_ghost (fun n a w => ∃ κ M τ, I n τ ∧ Rel N M0 B w0 κ M τ a w) n ⟨_, _, _, hI, H2⟩ ?_
   rintro n a w ⟨κ, M, τ, hI, H⟩
   refine ih ?_ H (hr n τ hI)
   intro e κ M σ a w hR H
   cases e with
   | norm =>
     obtain ⟨m, ms, τ', h1, h2, h3⟩ := hR
     obtain ⟨κ', M', H'⟩ := H.mats h1
     obtain ⟨κ2, H2⟩ := H'.nrm ks
     exact ⟨m, h3, _, _, _, h2, H2⟩
   | exit id => exact hQ (.exit id) _ _ _ _ _ hR H
   | goto l => exact hQ (.goto l) _ _ _ _ _ hR H
   | ret => exact hQ .ret _ _ _ _ _ hR H
 | exit => intro Q R hQ κ M σ a w H hW; exact wpIn_exit (hQ (.exit _) _ _ _ _ _ hW H)
 | ret => intro Q R hQ κ M σ a w H hW; exact wpIn_ret (hQ .ret _ _ _ _ _ hW H)
end
end Go.Abs
end
section
namespace Go.Abs
open Go.RowKit

/-! ### The image, reckoned -/
def cBin (P : Program) (op : BinOp) (xt : TypeId) (u v : AO) : Act' :=
 match P.underlying xt, op with
 | some .bool, .eql => .beq false u v
 | some .bool, .neq => .beq true u v
 | some (.struct _), .eql => match ktT P xt with
   | some kt => if kt.agg = true then .aeq false kt u v else .bin op u v
   | none => .bin op u v
 | some (.struct _), .neq => match ktT P xt with
   | some kt => if kt.agg = true then .aeq true kt u v else .bin op u v
   | none => .bin op u v
 | some (.array _ _), .eql => match ktT P xt with
   | some kt => if kt.agg = true then .aeq false kt u v else .bin op u v
   | none => .bin op u v
 | some (.array _ _), .neq => match ktT P xt with
   | some kt => if kt.agg = true then .aeq true kt u v else .bin op u v
   | none => .bin op u v
 | _, _ => .bin op u v
def szAgg (P : Program) (t : TypeId) : Option (Nat × Bool) :=
 match szOf P t, aggOf P t with
 | some n, some g => if g = true ∨ n = 1 then some (n, g) else none
 | _, _ => none
def cSlot (P : Program) (t : TypeId) (i : Nat) : Option (Nat × TypeId) :=
 match P.underlying t with
 | some (.struct fs) => match fs[i]? with
   | some f => some (f.offset, f.type)
   | none => none
 | _ => none
def cCall (P : Program) (c : Call) : Option Act' :=
 match c with
 | { callee := .builtin .len, args := args, argTypes := ts } => match args.toList, ts.toList with
   | [x], [t] => match cO P t x, P.underlying t with
     | some u, some .string => some (.lens u)
     | some u, some (.slice _) => some (.lenq u)
     | _, _ => none
   | _, _ => none
 | { callee := .builtin .append, args := args, argTypes := ts } => match args.toList, ts.toList with
   | [x, y], [t, t'] => if t = t' then (match P.underlying t with
     | some (.slice e) => match P.info? e with
       | some i => match i.zero, cO P t x, cO P t y with
         | some z, some x', some y' => if 0 < i.bytes ∧ z.cells.size = i.size ∧ 0 < i.size then some (.app x' y' e i.size i.bytes) else none
         | _, _, _ => none
       | none => none
     | _ => none) else none
   | _, _ => none
 | { callee := .builtin .max, args := args, argTypes := ts } => match args.toList, ts.toList with
   | [x, y], [t, t'] => match cO P t x, cO P t' y with
     | some u, some v => some (.mm true u v)
     | _, _ => none
   | _, _ => none
 | { callee := .builtin .min, args := args, argTypes := ts } => match args.toList, ts.toList with
   | [x, y], [t, t'] => match cO P t x, cO P t' y with
     | some u, some v => some (.mm false u v)
     | _, _ => none
   | _, _ => none
 | { callee := .invoke r name, args := args, argTypes := ts } => match cO P 0 r, cOs P ts.toList args.toList with
   | some x, some xs => some (.inv (invT P name) x xs)
   | _, _ => none
 | { callee := .value (.func f), args := args, argTypes := ts } => match cOs P ts.toList args.toList with
   | some xs => some (.call f xs)
   | none => none
 | { callee := .value (.tmp g), args := args, argTypes := ts } => match cOs P ts.toList args.toList with
   | some xs => some (.callv (.t g) xs)
   | none => none
 | _ => none
def sameO : Operand → Operand → Bool
 | .tmp a, .tmp b => decide (a = b)
 | .const (.int k n), .const (.int k' n') => decide (k = k' ∧ n = n')
 | _, _ => false
theorem sameO_spec {x y : Operand} (h : sameO x y = true) : x = y := by
 unfold sameO at h
 split at h
 · simp at h; rw [h]
 · simp at h; rw [h.1, h.2]
 · cases h
def cNil (P : Program) (op : BinOp) (xt : TypeId) (y : Operand) : Option (Nat × Bool) := match y, op with
 | .const c, .eql => match nilK P xt c with
   | some k => some (k, false)
   | none => none
 | .const c, .neq => match nilK P xt c with
   | some k => some (k, true)
   | none => none
 | _, _ => none
theorem cNil_spec {P : Program} {op : BinOp} {xt : TypeId} {y : Operand} {k : Nat} {neg : Bool} (h : cNil P op xt y = some (k, neg)) : ∃ c, y = .const c ∧ nilK P xt c = some k ∧ ((op = .eql ∧ neg = false) ∨ (op = .neq ∧ neg = true)) := by
 unfold cNil at h
 split at h
 · split at h
   · cases h; exact ⟨_, rfl, ‹_›, .inl ⟨rfl, rfl⟩⟩
   · cases h
 · split at h
   · cases h; exact ⟨_, rfl, ‹_›, .inr ⟨rfl, rfl⟩⟩
   · cases h
 · cases h
def cAct (P : Program) (ty : TypeId) : Op → Option Act'
 | .move x => (cO P ty x).map .mov
 | .assign x => (cO P ty x).map .mov
 | .pick c a b => match cO P ty c, cO P ty a, cO P ty b with
   | some c', some a', some b' => some (.pick c' a' b')
   | _, _, _ => none
 | .field t x i => match cO P t x, cSlot P t i with
   | some y, some (off, ft) => match szAgg P ft with
     | some (n, g) => some (.fld y off n g)
     | none => none
   | _, _ => none
 | .fieldAddr t x i => match cO P 0 x, cSlot P t i with
   | some y, some (off, ft) => match szOf P ft with
     | some n => if n ≠ 0 then some (.fa y off) else none
     | none => none
   | _, _ => none
 | .indexAddr t x i => match cO P 0 i, P.underlying t with
   | some j, some (.slice e) => match cO P t x, szOf P e with
     | some y, some n => some (.ia y j n)
     | _, _ => none
   | some j, some (.array m e) => match cO P 0 x, szOf P e with
     | some y, some n => some (.iaa y j m n)
     | _, _ => none
   | _, _ => none
 | .load t x => match cO P 0 x, szAgg P t with
   | some y, some (n, g) => some (.ld y n g)
   | _, _ => none
 | .index t x i => match cO P t x, cO P 0 i, P.underlying t with
   | some y, some j, some .string => some (.ixs y j)
   | some y, some j, some (.array m e) => match szAgg P e with
     | some (n, g) => some (.ixa y j m n g)
     | none => none
   | _, _, _ => none
 | .binOp op xt x y yt => match cO P xt x, cNil P op xt y with
   | some u, some (k, neg) => some (.nlq k neg u)
   | some u, none => match cO P yt y with
     | some v => some (cBin P op xt u v)
     | none => none
   | none, _ => none
 | .unOp op t x => (cO P t x).map (.un op)
 | .convert s d x => match cO P s x, P.underlying s, P.underlying d with
   | some u, some (.slice e), some .string => match P.underlying e with
     | some (.int .u8) => some (.b2s u)
     | _ => none
   | some u, some _, some (.int k) => some (.cii k u)
   | some u, some .string, some (.slice e) => match P.underlying e with
     | some (.int .u8) => some (.s2b u)
     | _ => none
   | _, _, _ => none
 | .slice t x lo hi none => match cO P t x, cOo P 0 lo, cOo P 0 hi with
   | some u, some lo', some hi' => match P.underlying t with
     | some .string => some (.sls u lo' hi')
     | some (.slice e) => match szOf P e with
       | some n => some (.slq u lo' hi' n)
       | none => none
     | _ => none
   | _, _, _ => none
 | .extract x i => (cO P 0 x).map fun u => .ext u i
 | .build t parts => match P.built t [], P.info? t with
   | some _, some i => match i.zero with
     | some (.agg z) => match flatT P 20 t with
       | some zc => match cSs P zc z.toList, cParts P t parts.toList with
         | some zs, some ps => some (.bld zs ps)
         | _, _ => none
       | none => none
     | _ => none
   | _, _ => none
 | .makeFunc f a b => match cOs P (List.replicate a.size 0) a.toList, cOs P (List.replicate b.size 0) b.toList with
   | some a', some b' => some (.mkf f a' b')
   | _, _ => none
 | .nilCheck x => (cO P 0 x).map .nlc
 | .alloc e => match P.info? e with
   | some i => match i.zero with
     | some z => match cV P e z with
       | some v => if nt v = true then some (.alc (cl v)) else none
       | none => none
     | none => none
   | none => none
 | .box e x => (cO P e x).map .box
 | .store t p x => match cO P 0 p, cO P t x, szOf P t with
   | some p', some x', some n => some (.st n p' x')
   | _, _, _ => none
 | .buildSlice t len parts => match P.underlying t with
   | some (.slice e) => match P.info? e with
     | some i => match i.zero with
       | some z => match cOs P (List.replicate len e) (parts.toList.map (·.2)) with
         | some xs => if 0 < i.size ∧ z.cells.size = i.size ∧ len * i.size ≤ 16777216 ∧ parts.toList.map (·.1) = List.range len then some (.lit e i.size xs) else none
         | none => none
       | none => none
     | none => none
   | _ => none
 | .makeSlice t l l' => if sameO l l' = true then (match P.underlying t with
    | some (.slice e) => match P.info? e with
      | some i => match i.zero with
        | some (.slice none 0 0) => match P.underlying e with
          | some (.slice e2) => match P.info? e2, cO P 0 l with
            | some i2, some u => if 0 < i.bytes ∧ i.size = 1 ∧ 0 < i2.size then some (.mkm e i.bytes e2 i2.size u) else none
            | _, _ => none
          | _ => none
        | some z => match cV P e z, cO P 0 l with
          | some v, some u => match pur [] v with
            | some v' => if nt v = true ∧ 0 < i.bytes ∧ 0 < i.size ∧ z.cells.size = i.size then some (.mks e i.size i.bytes v' u) else none
            | none => none
          | _, _ => none
        | none => none
      | none => none
    | _ => none) else (match l with
      | .const (.int _ 0) => (match P.underlying t with
        | some (.slice e) => match P.info? e with
          | some i => match i.zero, cO P 0 l' with
            | some _, some u => if 0 < i.bytes ∧ 0 < i.size then some (.mk0 e i.size i.bytes u) else none
            | _, _ => none
          | none => none
        | _ => none)
      | _ => none)
 | .makeInterface t x => match cO P t x, P.underlying t with
   | some u, some ds => match ds with
     | .interface _ => none
     | _ => some (.mki t u)
   | _, _ => none
 | .makeMap t none => match P.underlying t with
   | some (.map K _) => match ktT P K with
     | some kt => some (.mkp kt)
     | none => none
   | _ => none
 | .lookup t x k okk => match P.underlying t with
   | some (.map K E) => match ktT P K, cO P t x, cO P K k, P.info? E with
     | some kt, some u, some v, some i => match i.zero with
       | some z => match cV P E z with
         | some zv => some (.lkp kt zv okk u v)
         | none => none
       | none => none
     | _, _, _, _ => none
   | _ => none
 | .mapUpdate t x k v => match P.underlying t with
   | some (.map K E) => match ktT P K, cO P t x, cO P K k, cO P E v with
     | some kt, some u, some b, some c => some (.mup kt u b c)
     | _, _, _, _ => none
   | _ => none
 | .insert t x k v => match P.underlying t with
   | some (.map K E) => match ktT P K, cO P t x, cO P K k, cO P E v with
     | some kt, some u, some b, some c => some (.mup kt u b c)
     | _, _, _, _ => none
   | _ => none
 | .call c => cCall P c
 | _ => none

theorem szAgg_spec {P : Program} {t : TypeId} {n : Nat} {g : Bool} (h : szAgg P t = some (n, g)) : szOf P t = some n ∧ aggOf P t = some g ∧ (g = false → n = 1) := by
 unfold szAgg at h
 split at h
 · rename_i n' g' h1 h2
   split at h
   · rename_i hc
     cases h
     exact ⟨h1, h2, fun hg => by rcases hc with h | h; · rw [hg] at h; cases h
                                 · exact h⟩
   · cases h
 · cases h
theorem cSlot_spec {P : Program} {t : TypeId} {i off : Nat} {ft : TypeId} (h : cSlot P t i = some (off, ft)) : ∃ fs f, P.underlying t = some (.struct fs) ∧ fs[i]? = some f ∧ off = f.offset ∧ ft = f.type := by
 unfold cSlot at h
 split at h
 · rename_i fs h1
   split at h
   · rename_i f h2; cases h; exact ⟨fs, f, h1, h2, rfl, rfl⟩
   · cases h
 · cases h

theorem cBin_spec {P : Program} {ty xt yt : TypeId} {op : BinOp} {x y : Operand} {u v : AO} (hu : cO P xt x = some u) (hv : cO P yt y = some v) : LV P ty (.binOp op xt x y yt) (cBin P op xt u v) := by
 unfold cBin
 split
 · exact .beq ‹_› hu hv
 · exact .bne ‹_› hu hv
 all_goals
  first
   | exact .bin hu hv
   | (split
      · split
        · first | exact .aeq ‹_› ‹_› hu hv | exact .ane ‹_› ‹_› hu hv
        · exact .bin hu hv
      · exact .bin hu hv)

theorem cCall_spec {P : Program} {ty : TypeId} {c : Call} {x : Act'} (h : cCall P c = some x) : LV P ty (.call c) x ∨ LE P ty (.call c) x := by
 unfold cCall at h
 split at h
 · rename_i args ts
   split at h
   · rename_i x t hx ht
     have e1 : args = #[x] := by apply Array.ext'; simpa using hx
     have e2 : ts = #[t] := by apply Array.ext'; simpa using ht
     subst e1; subst e2
     split at h
     · cases h; exact .inl (.lens ‹_› ‹_›)
     · cases h; exact .inl (.lenq ‹_› ‹_›)
     · cases h
   · cases h
 · rename_i args ts
   split at h
   · rename_i x y t t' hx ht
     have e1 : args = #[x, y] := by apply Array.ext'; simpa using hx
     have e2 : ts = #[t, t'] := by apply Array.ext'; simpa using ht
     subst e1; subst e2
     split at h
     · rename_i ett
       subst ett
       split at h
       · split at h
         · split at h
           · split at h
             · rename_i hc; cases h; exact .inr (.app ‹_› ‹_› ‹_› rfl rfl hc.1 hc.2.1 hc.2.2 ‹_› ‹_›)
             · cases h
           · cases h
         · cases h
       · cases h
     · cases h
   · cases h
 · rename_i args ts
   split at h
   · rename_i x y t t' hx ht
     have e1 : args = #[x, y] := by apply Array.ext'; simpa using hx
     have e2 : ts = #[t, t'] := by apply Array.ext'; simpa using ht
     subst e1; subst e2
     split at h
     · cases h; exact .inl (.mmx ‹_› ‹_›)
     · cases h
   · cases h
 · rename_i args ts
   split at h
   · rename_i x y t t' hx ht
     have e1 : args = #[x, y] := by apply Array.ext'; simpa using hx
     have e2 : ts = #[t, t'] := by apply Array.ext'; simpa using ht
     subst e1; subst e2
     split at h
     · cases h; exact .inl (.mmn ‹_› ‹_›)
     · cases h
   · cases h
 · split at h
   · cases h; exact .inr (.inv ‹_› rfl ‹_›)
   · cases h
 · split at h
   · cases h; exact .inr (.call ‹_›)
   · cases h
 · split at h
   · cases h; exact .inr (.callv ‹_›)
   · cases h
 · cases h

theorem cAct_spec {P : Program} {ty : TypeId} {o : Op} {x : Act'} (h : cAct P ty o = some x) : LV P ty o x ∨ LE P ty o x := by
 cases o with
 | move x => simp only [cAct, Option.map_eq_some_iff] at h; obtain ⟨y, hy, rfl⟩ := h; exact .inl (.move hy)
 | assign x => simp only [cAct, Option.map_eq_some_iff] at h; obtain ⟨y, hy, rfl⟩ := h; exact .inl (.assign hy)
 | pick c a b =>
   simp only [cAct] at h
   split at h
   · cases h; exact .inl (.pick ‹_› ‹_› ‹_›)
   · cases h
 | field t x i =>
   simp only [cAct] at h
   split at h
   · rename_i y off ft hy hs
     obtain ⟨fs, f, h1, h2, rfl, rfl⟩ := cSlot_spec hs
     split at h
     · rename_i n g hn
       obtain ⟨k1, k2, k3⟩ := szAgg_spec hn
       cases h; exact .inl (.field hy h1 h2 k1 k2 k3)
     · cases h
   · cases h
 | fieldAddr t x i =>
   simp only [cAct] at h
   split at h
   · rename_i y off ft hy hs
     obtain ⟨fs, f, h1, h2, rfl, rfl⟩ := cSlot_spec hs
     split at h
     · split at h
       · cases h; exact .inl (.fieldAddr hy h1 h2 ‹_› ‹_›)
       · cases h
     · cases h
   · cases h
 | indexAddr t x i =>
   simp only [cAct] at h
   split at h
   · split at h
     · cases h; exact .inl (.indexAddr ‹_› ‹_› ‹_› ‹_›)
     · cases h
   · split at h
     · cases h; exact .inl (.indexAddrA ‹_› ‹_› ‹_› ‹_›)
     · cases h
   · cases h
 | load t x =>
   simp only [cAct] at h
   split at h
   · rename_i y n g hy hs
     obtain ⟨k1, k2, k3⟩ := szAgg_spec hs
     cases h; exact .inl (.load hy k1 k2 k3)
   · cases h
 | index t x i =>
   simp only [cAct] at h
   split at h
   · cases h; exact .inl (.indexS ‹_› ‹_› ‹_›)
   · split at h
     · rename_i n g hs
       obtain ⟨k1, k2, k3⟩ := szAgg_spec hs
       cases h; exact .inl (.indexA ‹_› ‹_› ‹_› k1 k2 k3)
     · cases h
   · cases h
 | binOp op xt x y yt =>
   simp only [cAct] at h
   split at h
   · rename_i hn
     cases h
     obtain ⟨c, rfl, h1, h2⟩ := cNil_spec hn
     exact .inl (.nlq h1 h2 ‹_›)
   · split at h
     · cases h; exact .inl (cBin_spec ‹_› ‹_›)
     · cases h
   · cases h
 | unOp op t x => simp only [cAct, Option.map_eq_some_iff] at h; obtain ⟨y, hy, rfl⟩ := h; exact .inl (.un hy)
 | convert s d x =>
   simp only [cAct] at h
   split at h
   · split at h
     · cases h; exact .inr (.b2s ‹_› ‹_› ‹_› ‹_›)
     · cases h
   · cases h; exact .inl (.cii ‹_› ‹_› ‹_›)
   · split at h
     · cases h; exact .inr (.s2b ‹_› ‹_› ‹_› ‹_›)
     · cases h
   · cases h
 | slice t x lo hi m =>
   cases m with
   | some m => simp only [cAct] at h; cases h
   | none =>
     simp only [cAct] at h
     split at h
     · split at h
       · cases h; exact .inl (.sls ‹_› ‹_› ‹_› ‹_›)
       · split at h
         · cases h; exact .inl (.slq ‹_› ‹_› ‹_› ‹_› ‹_›)
         · cases h
       · cases h
     · cases h
 | extract x i => simp only [cAct, Option.map_eq_some_iff] at h; obtain ⟨y, hy, rfl⟩ := h; exact .inl (.ext hy)
 | build t parts =>
   simp only [cAct] at h
   split at h
   · split at h
     · split at h
       · split at h
         · cases h; exact .inl (.bld ‹_› ‹_› ‹_› ‹_› ‹_› ‹_›)
         · cases h
       · cases h
     · cases h
   · cases h
 | makeFunc f a b =>
   simp only [cAct] at h
   split at h
   · cases h; exact .inl (.mkf ‹_› ‹_›)
   · cases h
 | nilCheck x => simp only [cAct, Option.map_eq_some_iff] at h; obtain ⟨y, hy, rfl⟩ := h; exact .inl (.nlc hy)
 | alloc e =>
   simp only [cAct] at h
   split at h
   · split at h
     · split at h
       · split at h
         · cases h; exact .inr (.alloc ‹_› ‹_› ‹_› ‹_›)
         · cases h
       · cases h
     · cases h
   · cases h
 | box e x => simp only [cAct, Option.map_eq_some_iff] at h; obtain ⟨y, hy, rfl⟩ := h; exact .inr (.box hy)
 | store t p x =>
   simp only [cAct] at h
   split at h
   · cases h; exact .inr (.store ‹_› ‹_› ‹_›)
   · cases h
 | buildSlice t len parts =>
   simp only [cAct] at h
   split at h
   · split at h
     · split at h
       · split at h
         · split at h
           · rename_i hc; cases h; exact .inr (.lit ‹_› ‹_› rfl hc.1 ‹_› hc.2.1 hc.2.2.1 hc.2.2.2 ‹_›)
           · cases h
         · cases h
       · cases h
     · cases h
   · cases h
 | makeSlice t l l' =>
   simp only [cAct] at h
   split at h
   · rename_i hab
     have hab := sameO_spec hab
     subst hab
     split at h
     · split at h
       · split at h
         · split at h
           · split at h
             · split at h
               · rename_i hc; cases h; exact .inr (.mkm ‹_› ‹_› ‹_› hc.2.1 rfl hc.1 ‹_› ‹_› rfl hc.2.2 ‹_›)
               · cases h
             · cases h
           · cases h
         · split at h
           · split at h
             · split at h
               · rename_i hc; cases h; exact .inr (.mks ‹_› ‹_› ‹_› ‹_› hc.1 ‹_› rfl rfl hc.2.1 hc.2.2.1 ‹_› hc.2.2.2)
               · cases h
             · cases h
           · cases h
         · cases h
       · cases h
     · cases h
   · split at h
     · split at h
       · split at h
         · split at h
           · split at h
             · rename_i hc; cases h; exact .inr (.mk0 ‹_› ‹_› ‹_› rfl rfl hc.1 hc.2 ‹_›)
             · cases h
           · cases h
         · cases h
       · cases h
     · cases h
 | makeInterface t x =>
   simp only [cAct] at h
   split at h
   · rename_i u ds hu hds
     split at h
     · cases h
     · rename_i hne
       cases h; exact .inl (.mki hu hds (fun ms e => hne ms e))
   · cases h
 | makeMap t r =>
   cases r with
   | some r => simp only [cAct] at h; cases h
   | none =>
     simp only [cAct] at h
     split at h
     · split at h
       · cases h; exact .inr (.mkp ‹_› ‹_›)
       · cases h
     · cases h
 | lookup t x k okk =>
   simp only [cAct] at h
   split at h
   · split at h
     · split at h
       · split at h
         · cases h; exact .inl (.lkp ‹_› ‹_› ‹_› ‹_› ‹_› ‹_› ‹_›)
         · cases h
       · cases h
     · cases h
   · cases h
 | mapUpdate t x k v =>
   simp only [cAct] at h
   split at h
   · split at h
     · cases h; exact .inr (.mup ‹_› ‹_› ‹_› ‹_› ‹_›)
     · cases h
   · cases h
 | insert t x k v =>
   simp only [cAct] at h
   split at h
   · split at h
     · cases h; exact .inr (.mui ‹_› ‹_› ‹_› ‹_› ‹_›)
     · cases h
   · cases h
 | call c => simp only [cAct] at h; exact cCall_spec h
 | _ => simp only [cAct] at h; cases h

def cOper (P : Program) (N : Nat) (ps : List Nat) (ops : Array Oper) (o : Oper) : Option AOp :=
 match (cAct P o.type o.op).getD .bad, (match o.dst with
  | some t => decide (t < N) && !memb t ps
  | none => true) with
 | a, true => match o.guard with
   | none => some ⟨o.dst, a, none⟩
   | some (j, b) => match ops[j]? with
     | some oj => match oj.dst with
       | some t => some ⟨o.dst, a, some (t, b)⟩
       | none => none
     | none => none
 | _, _ => none
def cOpers (P : Program) (N : Nat) (ps : List Nat) (ops : Array Oper) : List Oper → Option (List AOp)
 | [] => some []
 | o :: os => match cOper P N ps ops o, cOpers P N ps ops os with
   | some x, some xs => some (x :: xs)
   | _, _ => none
def fHop (E : List Nat) (x : AOp) : AOp := match x.a with
 | .call f xs => if memb f E = true then ⟨x.d, .callH f xs, x.g⟩ else x
 | .slq y none (some hi) sz => if memb 1000000 E = true then ⟨x.d, .trc y hi sz, x.g⟩ else x
 | .callv g xs => if memb 1000002 E = true then ⟨x.d, .yld g xs, x.g⟩ else x
 | .lit e sz ys => if (memb 1000001 E || memb (2000000 + e) E) = true then ⟨x.d, .ltr e sz ys, x.g⟩ else x
 | _ => x
def fHs (E : List Nat) : List AOp → List AOp
 | [] => []
 | x :: xs => fHop E x :: fHs E xs
section
variable {P : Program}
theorem LV_call {ty : TypeId} {op : Op} {f : FuncId} {xs : List AO} (h : LV P ty op (.call f xs)) : False := by cases h
theorem LE_callH {ty : TypeId} {op : Op} {f : FuncId} {xs : List AO} (h : LE P ty op (.call f xs)) : LE P ty op (.callH f xs) := by
 cases h; exact .callH ‹_›
theorem LV_callv {ty : TypeId} {op : Op} {f : AO} {xs : List AO} (h : LV P ty op (.callv f xs)) : False := by cases h
theorem LE_yld {ty : TypeId} {op : Op} {f : AO} {xs : List AO} (h : LE P ty op (.callv f xs)) : LE P ty op (.yld f xs) := by
 cases h; exact .yld ‹_›
theorem LV_lit {ty : TypeId} {op : Op} {e sz : Nat} {xs : List AO} (h : LV P ty op (.lit e sz xs)) : False := by cases h
theorem LE_ltr {ty : TypeId} {op : Op} {e sz : Nat} {xs : List AO} (h : LE P ty op (.lit e sz xs)) : LE P ty op (.ltr e sz xs) := by
 cases h with
 | lit h1 h2 h3 h4 h5 h6 h7 h8 h9 => exact .ltr h1 h2 h3 h4 h5 h6 h7 h8 h9
theorem LE_slq {ty : TypeId} {op : Op} {y : AO} {lo hi : Option AO} {sz : Nat} (h : LE P ty op (.slq y lo hi sz)) : False := by cases h
theorem cOo_none {t : TypeId} {o : Option Operand} (h : cOo P t o = some none) : o = none := by
 cases o with
 | none => rfl
 | some o => simp only [cOo, Option.map_eq_some_iff] at h; obtain ⟨_, _, h⟩ := h; cases h
theorem cOo_some {t : TypeId} {o : Option Operand} {y : AO} (h : cOo P t o = some (some y)) : ∃ o', o = some o' ∧ cO P t o' = some y := by
 cases o with
 | none => simp only [cOo, Option.some.injEq] at h; cases h
 | some o => simp only [cOo, Option.map_eq_some_iff] at h; obtain ⟨z, h, e⟩ := h; cases e; exact ⟨o, rfl, h⟩
theorem LV_trc {ty : TypeId} {op : Op} {y hi : AO} {sz : Nat} (h : LV P ty op (.slq y none (some hi) sz)) : LE P ty op (.trc y hi sz) := by
 cases h with
 | slq h1 h2 h3 h4 h5 =>
   have e1 := cOo_none h2
   obtain ⟨o', e2, h6⟩ := cOo_some h3
   subst e1; subst e2
   exact .trc h1 h6 h4 h5
theorem fHop_spec {E ps : List Nat} {N : Nat} {ops : Array Oper} {o : Oper} {x : AOp} (h : LO P N ps ops o x) : LO P N ps ops o (fHop E x) := by
 unfold fHop
 split
 · rename_i f xs hx
   split
   · refine ⟨h.dst, h.lt, .inr (.inl ?_), h.grd⟩
     rcases h.act with h1 | h1 | h1
     · rw [hx] at h1; exact (LV_call h1).elim
     · rw [hx] at h1; exact LE_callH h1
     · rw [hx] at h1; cases h1
   · exact h
 · rename_i y hi sz hx
   split
   · refine ⟨h.dst, h.lt, .inr (.inl ?_), h.grd⟩
     rcases h.act with h1 | h1 | h1
     · rw [hx] at h1; exact LV_trc h1
     · rw [hx] at h1; exact (LE_slq h1).elim
     · rw [hx] at h1; cases h1
   · exact h
 · rename_i g xs hx
   split
   · refine ⟨h.dst, h.lt, .inr (.inl ?_), h.grd⟩
     rcases h.act with h1 | h1 | h1
     · rw [hx] at h1; exact (LV_callv h1).elim
     · rw [hx] at h1; exact LE_yld h1
     · rw [hx] at h1; cases h1
   · exact h
 · rename_i e sz ys hx
   split
   · refine ⟨h.dst, h.lt, .inr (.inl ?_), h.grd⟩
     rcases h.act with h1 | h1 | h1
     · rw [hx] at h1; exact (LV_lit h1).elim
     · rw [hx] at h1; exact LE_ltr h1
     · rw [hx] at h1; cases h1
   · exact h
 · exact h
theorem fHs_spec {E ps : List Nat} {N : Nat} {ops : Array Oper} {os : List Oper} {xs : List AOp} (h : LOs P N ps ops os xs) : LOs P N ps ops os (fHs E xs) := by
 induction h with
 | nil => exact .nil
 | cons h1 _ ih => exact .cons (fHop_spec h1) ih
end
def noLab : AC → Bool
 | .seq a b => noLab a && noLab b
 | .label _ => false
 | .bad => false
 | _ => true
def findAC (l : Nat) : AC → Option AC
 | .seq a b => match findAC l a with
   | some r => some (.seq r b)
   | none => if noLab a = true then findAC l b else none
 | .label l' => if (l' == l) = true then some .skip else none
 | _ => none
theorem noLab_spec {P : Program} {N : Nat} {ps : List Nat} {c : Code} {a : AC} (h : LC P N ps c a) (l : Nat) : noLab a = true → findLabel c l = none := by
 induction h with
 | seq _ _ ih1 ih2 =>
   intro hn
   simp only [noLab, Bool.and_eq_true] at hn
   simp only [findLabel, ih1 hn.1, ih2 hn.2]
 | label => intro hn; simp [noLab] at hn
 | bad => intro hn; simp [noLab] at hn
 | _ => intro _; rfl
theorem findAC_spec {P : Program} {N : Nat} {ps : List Nat} {c : Code} {a : AC} (h : LC P N ps c a) {l : Nat} : ∀ {b : AC}, findAC l a = some b → ∃ rest, findLabel c l = some rest ∧ LC P N ps rest b := by
 induction h with
 | seq h1 h2 ih1 ih2 =>
   intro b hb
   simp only [findAC] at hb
   split at hb
   · cases hb
     obtain ⟨r, g1, g2⟩ := ih1 ‹_›
     exact ⟨_, by simp only [findLabel, g1], .seq g2 h2⟩
   · split at hb
     · rename_i hn
       obtain ⟨r, g1, g2⟩ := ih2 hb
       exact ⟨r, by simp only [findLabel, noLab_spec h1 l hn, g1], g2⟩
     · cases hb
 | @label l' =>
   intro b hb
   simp only [findAC] at hb
   split at hb
   · rename_i he
     cases hb
     exact ⟨.skip, by simp only [findLabel, he, if_true], .skip⟩
   · cases hb
 | _ => intro b hb; simp [findAC] at hb
def cCode (P : Program) (N : Nat) (ps E : List Nat) : Code → List (List Nat) → Option (AC × List (List Nat))
 | .skip, K => some (.skip, K)
 | .region _ ops false, ks :: K => match (cOpers P N ps ops ops.toList).map (fHs E) with
   | some xs => some (.reg xs ks, K)
   | none => none
 | .region _ ops true, [] :: ks :: K => match (cOpers P N ps ops ops.toList).map (fHs E) with
   | some xs => if noCall xs = true ∧ ops.size = xs.length then (match pickAs xs (linX ops ops.size (Array.replicate ops.size false)) with
     | some yss => some (.regE yss ks, K)
     | none => none) else some (.bad, K)
   | none => none
 | .region _ ops true, (1 :: anc) :: ks :: K => match (cOpers P N ps ops ops.toList).map (fHs E) with
   | some xs => if ancChk ops anc = true then (match linY ops xs anc ops.size (Array.replicate ops.size false) with
     | some yss => some (.regF yss ks, K)
     | none => none) else none
   | none => none
 | .region _ ops true, (0 :: anc) :: perm :: ks :: K => match (cOpers P N ps ops ops.toList).map (fHs E) with
   | some xs => if drawOK ops xs anc perm = true then (match pickA xs perm with
     | some ys => some (.regD ys ks, K)
     | none => none) else none
   | none => none
 | .seq x y, K => match cCode P N ps E x K with
   | some (a, K') => match cCode P N ps E y K' with
     | some (b, K'') => some (.seq a b, K'')
     | none => none
   | none => none
 | .cond c x y, K => match cO P 0 c, cCode P N ps E x K with
   | some c', some (a, K') => match cCode P N ps E y K' with
     | some (b, K'') => some (.cond c' a b, K'')
     | none => none
   | _, _ => none
 | .block id x, K => match cCode P N ps E x K with
   | some (a, K') => some (.block id a, K')
   | none => none
 | .loop x, ks :: K => match cCode P N ps E x K with
   | some (a, K') => some (.loop ks a, K')
   | none => none
 | .exit id, K => some (.exit id, K)
 | .ret, K => some (.ret, K)
 | .rangeFunc _ _ _ _, K => some (.bad, K)
 | .scope x, (l :: ks) :: K => match cCode P N ps E x K with
   | some (a, K') => match findAC l a with
     | some b => some (.scope l ks a b, K')
     | none => some (.bad, K')
   | none => none
 | .scope _, [] :: K => some (.bad, K)
 | .label l, K => some (.label l, K)
 | .goto l, K => some (.goto l, K)
 | .refuse _, K => some (.bad, K)
 | .region _ _ _, _ => none
 | .loop _, _ => none
 | .scope _, _ => none

section
variable {P : Program} {N : Nat} {ps : List Nat}
theorem cOper_spec {ops : Array Oper} {o : Oper} {x : AOp} (h : cOper P N ps ops o = some x) : LO P N ps ops o x := by
 unfold cOper at h
 split at h
 · rename_i a hd
   have ha : LV P o.type o.op ((cAct P o.type o.op).getD .bad) ∨ LE P o.type o.op ((cAct P o.type o.op).getD .bad) ∨ (cAct P o.type o.op).getD .bad = .bad := by
    cases hc : cAct P o.type o.op with
    | none => exact .inr (.inr rfl)
    | some y => exact (cAct_spec hc).elim .inl (fun h => .inr (.inl h))
   have hlt : ∀ t, o.dst = some t → t < N ∧ t ∉ ps := by
    intro t ht
    rw [ht] at hd
    simp only [Bool.and_eq_true, decide_eq_true_eq, Bool.not_eq_true'] at hd
    exact ⟨hd.1, fun hm => by rw [memb_iff.2 hm] at hd; cases hd.2⟩
   split at h
   · rename_i hg
     cases h
     exact ⟨rfl, hlt, ha, .inl ⟨hg, rfl⟩⟩
   · rename_i j b hg
     split at h
     · rename_i oj hj
       split at h
       · rename_i t ht
         cases h
         exact ⟨rfl, hlt, ha, .inr ⟨j, b, oj, t, hg, hj, ht, rfl⟩⟩
       · cases h
     · cases h
 · cases h
theorem cOpers_spec {ops : Array Oper} : ∀ {os : List Oper} {xs : List AOp}, cOpers P N ps ops os = some xs → LOs P N ps ops os xs
 | [], xs, h => by simp only [cOpers, Option.some.injEq] at h; subst h; exact .nil
 | o :: os, xs, h => by
   simp only [cOpers] at h
   split at h
   · rename_i x ys hx hy; cases h; exact .cons (cOper_spec hx) (cOpers_spec hy)
   · cases h
theorem map_spec {E : List Nat} {ops : Array Oper} {xs : List AOp} (h : (cOpers P N ps ops ops.toList).map (fHs E) = some xs) : LOs P N ps ops ops.toList xs := by
 obtain ⟨ys, h1, rfl⟩ := Option.map_eq_some_iff.1 h
 exact fHs_spec (cOpers_spec h1)
theorem cCode_spec {E : List Nat} : ∀ {c : Code} {K K' : List (List Nat)} {a : AC}, cCode P N ps E c K = some (a, K') → LC P N ps c a := by
 intro c
 induction c with
 | skip => intro K K' a h; simp only [cCode, Option.some.injEq, Prod.mk.injEq] at h; rw [← h.1]; exact .skip
 | region id ops d =>
   intro K K' a h
   cases d with
   | false =>
     cases K with
     | nil => simp only [cCode] at h; cases h
     | cons ks K =>
       simp only [cCode] at h
       split at h
       · cases h; exact .reg (map_spec ‹_›)
       · cases h
   | true =>
     match K, h with
     | [], h => simp only [cCode] at h; cases h
     | [[]], h => simp only [cCode] at h; cases h
     | [_ :: _], h => simp only [cCode] at h; cases h
     | [] :: ks :: K, h =>
       simp only [cCode] at h
       split at h
       · split at h
         · rename_i hc
           split at h
           · cases h; exact .regE (map_spec ‹_›) hc.1 hc.2 ‹_›
           · cases h
         · cases h; exact .bad
       · cases h
     | [0 :: anc, perm], h => simp only [cCode] at h; cases h
     | (1 :: anc) :: ks :: K, h =>
       simp only [cCode] at h
       split at h
       · split at h
         · rename_i hc
           split at h
           · cases h; exact .regF (map_spec ‹_›) hc ‹_›
           · cases h
         · cases h
       · cases h
     | ((n + 2) :: l) :: k :: K, h => simp only [cCode] at h; cases h
     | (0 :: anc) :: perm :: ks :: K, h =>
       simp only [cCode] at h
       split at h
       · split at h
         · rename_i hc
           split at h
           · cases h; exact .regD (map_spec ‹_›) hc ‹_›
           · cases h
         · cases h
       · cases h
 | seq x y ihx ihy =>
   intro K K' a h
   simp only [cCode] at h
   split at h
   · split at h
     · cases h; exact .seq (ihx ‹_›) (ihy ‹_›)
     · cases h
   · cases h
 | cond c x y ihx ihy =>
   intro K K' a h
   simp only [cCode] at h
   split at h
   · split at h
     · cases h; exact .cond (t := 0) ‹_› (ihx ‹_›) (ihy ‹_›)
     · cases h
   · cases h
 | block id x ih =>
   intro K K' a h
   simp only [cCode] at h
   split at h
   · cases h; exact .block (ih ‹_›)
   · cases h
 | loop x ih =>
   intro K K' a h
   cases K with
   | nil => simp only [cCode] at h; cases h
   | cons ks K =>
     simp only [cCode] at h
     split at h
     · cases h; exact .loop (ih ‹_›)
     · cases h
 | scope x ih =>
   intro K K' a h
   match K, h with
   | [], h => simp only [cCode] at h; cases h
   | [] :: K, h => simp only [cCode, Option.some.injEq, Prod.mk.injEq] at h; rw [← h.1]; exact .bad
   | (l :: ks) :: K, h =>
     simp only [cCode] at h
     split at h
     · split at h
       · cases h
         have hx := ih ‹_›
         obtain ⟨rest, g1, g2⟩ := findAC_spec hx ‹_›
         exact .scope hx g1 g2
       · cases h; exact .bad
     · cases h
 | label l => intro K K' a h; simp only [cCode, Option.some.injEq, Prod.mk.injEq] at h; rw [← h.1]; exact .label
 | goto l => intro K K' a h; simp only [cCode, Option.some.injEq, Prod.mk.injEq] at h; rw [← h.1]; exact .goto
 | exit id => intro K K' a h; simp only [cCode, Option.some.injEq, Prod.mk.injEq] at h; rw [← h.1]; exact .exit
 | ret => intro K K' a h; simp only [cCode, Option.some.injEq, Prod.mk.injEq] at h; rw [← h.1]; exact .ret
 | _ => intro K K' a h; simp only [cCode, Option.some.injEq, Prod.mk.injEq] at h; rw [← h.1]; exact .bad

/-! ### Functions -/
inductive RV where
 | t (n : Nat)
 | c (a n : Nat) (agg : Bool)
def cRes (P : Program) : List ResultVar → Option (List RV)
 | [] => some []
 | .tmp t :: rs => (cRes P rs).map (.t t :: ·)
 | .cell a t :: rs => match szAgg P t, cRes P rs with
   | some (n, g), some xs => some (.c a n g :: xs)
   | _, _ => none
def St.rv (σ : St) : RV → Option V
 | .t n => match lk σ.r n with
   | some v => if nt v = true then some v else none
   | none => none
 | .c a n g => match lk σ.r a with
   | some p => match σ.fetch p n with
     | some us => mkc g us
     | none => none
   | none => none
def St.rvs (σ : St) : List RV → Option (List V)
 | [] => some []
 | x :: xs => match σ.rv x, σ.rvs xs with
   | some v, some vs => some (v :: vs)
   | _, _ => none
def tupV : List V → V
 | [v] => v
 | vs => .tup vs
def Res (rs : List RV) (post : V → Prop) : Ex → St → Prop := fun e σ => (match e with
    | .exit _ => False
    | .goto _ => False
    | _ => True) ∧ match σ.rvs rs with
    | some vs => match purs σ.h vs with
      | some us => post (tupV us)
      | none => False
    | none => False
def ent : Nat → List V → List (Nat × V)
 | _, [] => []
 | k, v :: vs => (k, v) :: ent (k + 1) vs

theorem lk_ent : ∀ {vs : List V} {k t : Nat} {v : V}, lk (ent k vs) t = some v → k ≤ t ∧ vs[t - k]? = some v
 | [], k, t, v, h => by simp [ent, lk] at h
 | u :: us, k, t, v, h => by
   simp only [ent, lk] at h
   split at h
   · rename_i he; subst he; cases h; exact ⟨Nat.le_refl _, by simp⟩
   · rename_i he
     obtain ⟨h1, h2⟩ := lk_ent h
     refine ⟨by omega, ?_⟩
     rw [show t - k = (t - (k + 1)) + 1 by omega]
     simpa using h2

variable {M0 : Mem} {B : Bas} {w0 : World} {κ : Kap} {M : Mem} {σ : St} {a : Act} {w : World}

def resF (a : Act) : ResultVar → Sem Value
 | .tmp t => pure (a.tmps.getD t undef)
 | .cell x t => do loadVar t (← asAddr (a.tmps.getD x undef))

theorem run_results {fn : Func} {rs : List RV} (hr : cRes P fn.results.toList = some rs) (H : Rel N M0 B w0 κ M σ a w) {vs : List V} (hv : σ.rvs rs = some vs) :
 ∃ cs : List Value, repAll M (XX κ σ.h) vs cs ∧ (results fn a.tmps).run P w = .ok (if h : cs.length = 1 then cs[0] else .tuple cs.toArray) w := by
 have key : ∀ (l : List ResultVar) (rs : List RV) (vs : List V), cRes P l = some rs → σ.rvs rs = some vs →
  ∃ cs : List Value, repAll M (XX κ σ.h) vs cs ∧ (l.mapM (resF a)).run P w = .ok cs w := by
  intro l
  induction l with
  | nil =>
    intro rs vs h1 h2
    simp only [cRes, Option.some.injEq] at h1
    subst h1
    simp only [St.rvs, Option.some.injEq] at h2
    subst h2
    exact ⟨[], by simp [repAll], by simp⟩
  | cons x l ih =>
    intro rs vs h1 h2
    cases x with
    | tmp t =>
      simp only [cRes, Option.map_eq_some_iff] at h1
      obtain ⟨rs', h1, rfl⟩ := h1
      simp only [St.rvs] at h2
      split at h2
      · rename_i v us g1 g2
        cases h2
        obtain ⟨cs, k1, k2⟩ := ih rs' us h1 g2
        simp only [St.rv] at g1
        split at g1
        · rename_i u hu
          split at g1
          · cases g1
            obtain ⟨_, c, e1, e2⟩ := H.regs _ _ hu
            refine ⟨c :: cs, by simp only [repAll]; exact ⟨c, cs, rfl, e2, k1⟩, ?_⟩
            have hF : (resF a (.tmp t)).run P w = .ok c w := by simp [resF, e1]
            rw [List.mapM_cons, Sem.run_bind, hF, Result.andThen_ok, Sem.run_bind, k2, Result.andThen_ok, Sem.run_pure]
          · cases g1
        · cases g1
      · cases h2
    | cell t ty =>
      simp only [cRes] at h1
      split at h1
      · rename_i n g xs hs hx
        cases h1
        simp only [St.rvs] at h2
        split at h2
        · rename_i v us g1 g2
          cases h2
          obtain ⟨cs, k1, k2⟩ := ih _ us hx g2
          simp only [St.rv] at g1
          split at g1
          · rename_i p hp
            split at g1
            · rename_i vs' hf
              obtain ⟨s1, s2, s3⟩ := szAgg_spec hs
              obtain ⟨_, c, e1, e2⟩ := H.regs _ _ hp
              obtain ⟨b, o', ds, e, f1, f2, f3, f4⟩ := fetch_sound H e2 hf
              subst e
              rcases mkc_rep g1 f1 f2 with ⟨rfl, hk⟩ | ⟨rfl, c, hk1, hk2⟩
              · refine ⟨.agg ds.toArray :: cs, by simp only [repAll]; exact ⟨_, cs, rfl, hk, k1⟩, ?_⟩
                have := run_loadCells_list (P := P) w ⟨b, o', none⟩ ds f4
                rw [f3] at this
                have hF : (resF a (.cell t ty)).run P w = .ok (.agg ds.toArray) w := by simp [resF, e1, asAddr, loadVar, run_isAgg s2, run_sizeOf s1, this]
                rw [List.mapM_cons, Sem.run_bind, hF, Result.andThen_ok, Sem.run_bind, k2, Result.andThen_ok, Sem.run_pure]
              · refine ⟨c :: cs, by simp only [repAll]; exact ⟨c, cs, rfl, hk2, k1⟩, ?_⟩
                have := f4 0 c (by simp [hk1])
                rw [Addr.add_lit] at this
                simp at this
                have hF : (resF a (.cell t ty)).run P w = .ok c w := by simp [resF, e1, asAddr, loadVar, run_isAgg s2, this]
                rw [List.mapM_cons, Sem.run_bind, hF, Result.andThen_ok, Sem.run_bind, k2, Result.andThen_ok, Sem.run_pure]
            · cases g1
          · cases g1
        · cases h2
      · cases h1
 obtain ⟨cs, k1, k2⟩ := key _ _ _ hr hv
 refine ⟨cs, k1, ?_⟩
 have e : results fn a.tmps = (do
  let vs ← fn.results.mapM (resF a)
  pure (if h : vs.size = 1 then vs[0] else .tuple vs)) := by
  unfold results
  congr 2
 rw [e, Array.mapM_eq_mapM_toList]
 simp [Sem.run_bind, k2]

theorem wp_of_FR {c : Code} {Q : Exit → Act → World → Prop} {a : Act} {w : World} (h : c.wpIn (FR none) 0 P Q a w) : c.wp P Q a w := wpIn_wide.1 h
theorem FnE.of_W {f : FuncId} {fn : Func} {c : Code} {us : List V} {r : V} {x : AC} {rs : List RV} (hm : P.follows .mixedOrders = true) (hf : P.funcs[f]? = some fn) (hb : fn.body = some c)
 (hn : (fn.name == "runtime.NumGoroutine") = false) (hc : LC P fn.ntmps [] c x) (hr : cRes P fn.results.toList = some rs) (hs : us.length ≤ fn.ntmps)
 (hW : oks us → W (Cn P) x (Res rs (· = r)) ⟨ent 0 us, []⟩) : FnE P f us r where
 call := fun args w => by
  unfold callFunc
  simp only [beq_eq_false_iff_ne, ne_eq] at hn
  simp [Sem.run_bind, hf, hb, hn]
 does := fun M w cs hM hus => by
  have hl : cs.size = us.length := by have := repAll_length hus; simpa using this
  refine calls_of_wp hf hb ?_
  have H : Rel fn.ntmps M ⟨w.heap.size, fun _ => False, [], #[], w.heap.size, noJ, []⟩ w ⟨fun _ => undef, fun _ _ => undef, fun _ _ => False, fun _ => none⟩ M ⟨ent 0 us, []⟩ { tmps := cs ++ Array.replicate (fn.ntmps - cs.size) undef, defers := [] } w :=
   { dfr := rfl, jst := noJ_stab rfl, pin := fun i hi => by cases hi
     size := by simp; omega
     regs := fun t v ht => by
      obtain ⟨_, h2⟩ := lk_ent ht
      simp only [Nat.sub_zero] at h2
      have hlt : t < us.length := (List.getElem?_eq_some_iff.1 h2).1
      obtain ⟨c, h3, h4⟩ := repAll_get hus h2
      refine ⟨by omega, c, ?_, rep_mono (fun _ _ h => h) (fun _ _ h => h.elim) _ _ h4⟩
      rw [Array.getElem?_append_left (by omega)]
      simpa using h3
     heap := fun id ob h => by simp at h
     inj := fun i j oi oj g h => by simp at h
     snd := hM.snd
     sep := fun p v _ id ob h => by simp at h
     sub := ⟨fun _ _ h => h, fun _ _ h => (by cases h), fun _ _ h => (by cases h), Nat.le_refl _, hM.gl⟩
     new := fun _ _ h => .inl h
     base := rfl
     blw := Und.refl _ _ }
  refine wp_of_FR (W_sound hm (noJ_call rfl) (B := ⟨w.heap.size, fun _ => False, [], #[], w.heap.size, noJ, []⟩) hc ?_ H (hW (repAll_ok hus)))
  intro e κ M1 σ a w1 hR H1
  simp only [Res] at hR
  obtain ⟨he, hR⟩ := hR
  split at hR
  · rename_i vs hvs
    split at hR
    · rename_i ws hws
      obtain ⟨ds, k1, k2⟩ := run_results hr H1 hvs
      obtain ⟨H2, hM1⟩ := H1.kill (vidss vs) (purs_in hws)
      have k3 : repAll (ext M1 w1 (blks κ (vidss vs))) NX ws ds := by
       refine purs_rep H1 hM1 (fun id hid g hg p hpb => ?_) k1 hws
       unfold ext
       rw [if_pos (mem_blks.2 ⟨id, hid, by rw [hpb]; exact hg⟩)]
      have fin : bodyPost P fn (fun e w' => ∃ (c : Value) (M' : Mem), e = .returned c ∧ rep M' NX r c ∧ Below w.heap.size w w' ∧ (∀ p v, M' p = some v → w'.cell? p = some v) ∧
       (∀ p v, M p = some v → M' p = some v) ∧ ∀ p v, M' p = some v → M p = some v ∨ w.heap.size ≤ p.block) .normal a w1 := by
       refine ⟨H1.dfr, _, k2, _, _, rfl, ?_, ⟨H1.blw.os, H1.blw.tape, H1.blw.output, H1.blw.size, fun k hk => H1.blw.block k hk id⟩, H2.snd, H2.sub.sub, fun p v h => (H2.new p v h).imp_right fun h => h.elim id False.elim⟩
       subst hR
       match ws, ds, k3 with
       | [], [], k3 => simp only [tupV, rep]; exact ⟨#[], rfl, by simp [repAll]⟩
       | [v], [d], k3 =>
         simp only [repAll] at k3
         obtain ⟨_, _, h1, h2, _⟩ := k3
         cases h1
         simpa [tupV] using h2
       | v :: v' :: vs', d :: d' :: ds', k3 =>
         have e : (if h : (d :: d' :: ds').length = 1 then (d :: d' :: ds')[0] else .tuple (d :: d' :: ds').toArray) = .tuple (d :: d' :: ds').toArray := dif_neg (by simp)
         rw [e]
         simp only [tupV, rep]
         exact ⟨_, rfl, by simpa using k3⟩
       | [], d :: ds, k3 => simp [repAll] at k3
       | v :: vs, [], k3 => simp [repAll] at k3
       | [v], d :: d' :: ds, k3 => simp [repAll] at k3
       | v :: v' :: vs, [d], k3 =>
         simp only [repAll] at k3
         obtain ⟨c, cs', h1, _, c2, cs2, h2, _⟩ := k3
         cases h1
         cases h2
      cases e with
      | norm => exact fin
      | ret => exact fin
      | exit id => exact he.elim
      | goto l => exact he.elim
    · exact hR.elim
  · exact hR.elim

def ResN (rs : List RV) (r : V) : Ex → St → Prop := fun e σ => (match e with
    | .exit _ => False
    | .goto _ => False
    | _ => True) ∧ match σ.rvs rs with
    | some vs => fres σ.h vs = true ∧ (match purs σ.h vs with
      | some us => tupV us = r
      | none => False)
    | none => False
theorem tupV_rep {M : Mem} {X : V → Value → Prop} : ∀ {ws : List V} {ds : List Value}, repAll M X ws ds → rep M X (tupV ws) (if h : ds.length = 1 then ds[0] else .tuple ds.toArray)
 | [], [], k3 => by simp only [tupV, rep]; exact ⟨#[], rfl, by simp [repAll]⟩
 | [v], [d], k3 => by
   simp only [repAll] at k3
   obtain ⟨_, _, h1, h2, _⟩ := k3
   cases h1
   simpa [tupV] using h2
 | v :: v' :: vs', d :: d' :: ds', k3 => by
   have e : (if h : (d :: d' :: ds').length = 1 then (d :: d' :: ds')[0] else .tuple (d :: d' :: ds').toArray) = .tuple (d :: d' :: ds').toArray := dif_neg (by simp)
   rw [e]
   simp only [tupV, rep]
   exact ⟨_, rfl, by simpa using k3⟩
 | [], d :: ds, k3 => by simp [repAll] at k3
 | v :: vs, [], k3 => by simp [repAll] at k3
 | [v], d :: d' :: ds, k3 => by simp [repAll] at k3
 | v :: v' :: vs, [d], k3 => by
   simp only [repAll] at k3
   obtain ⟨c, cs', h1, _, c2, cs2, h2, _⟩ := k3
   cases h1
   cases h2
theorem FnN.of_W {f : FuncId} {fn : Func} {c : Code} {us : List V} {r : V} {x : AC} {rs : List RV} (hm : P.follows .mixedOrders = true) (hf : P.funcs[f]? = some fn) (hb : fn.body = some c)
 (hn : (fn.name == "runtime.NumGoroutine") = false) (hc : LC P fn.ntmps [] c x) (hr : cRes P fn.results.toList = some rs) (hs : us.length ≤ fn.ntmps)
 (hW : oks us → W (Cn P) x (ResN rs r) ⟨ent 0 us, []⟩) : FnN P f us r := by
 intro M w cs hM hus o a Nx Q hN
 have hcall : (callFunc f cs).run P w = .ok (.enter f cs) w := by
  unfold callFunc
  simp only [beq_eq_false_iff_ne, ne_eq] at hn
  simp [Sem.run_bind, hf, hb, hn]
 have hl : cs.size = us.length := by have := repAll_length hus; simpa using this
 rw [hcall, Oper.upon_enter]
 have key : Calls P f cs w fun e w' => ∃ (c : Value) (M' : Mem), e = .returned c ∧ rep (newM w M') NX r c ∧ Below w.heap.size w w' ∧ ∀ p v, M' p = some v → w'.cell? p = some v := by
  refine calls_of_wp hf hb ?_
  have H : Rel fn.ntmps M ⟨w.heap.size, fun _ => False, [], #[], w.heap.size, noJ, []⟩ w ⟨fun _ => undef, fun _ _ => undef, fun _ _ => False, fun _ => none⟩ M ⟨ent 0 us, []⟩ { tmps := cs ++ Array.replicate (fn.ntmps - cs.size) undef, defers := [] } w :=
   { dfr := rfl, jst := noJ_stab rfl, pin := fun i hi => by cases hi
     size := by simp; omega
     regs := fun t v ht => by
      obtain ⟨_, h2⟩ := lk_ent ht
      simp only [Nat.sub_zero] at h2
      have hlt : t < us.length := (List.getElem?_eq_some_iff.1 h2).1
      obtain ⟨c, h3, h4⟩ := repAll_get hus h2
      refine ⟨by omega, c, ?_, rep_mono (fun _ _ h => h) (fun _ _ h => h.elim) _ _ h4⟩
      rw [Array.getElem?_append_left (by omega)]
      simpa using h3
     heap := fun id ob h => by simp at h
     inj := fun i j oi oj g h => by simp at h
     snd := hM.snd
     sep := fun p v _ id ob h => by simp at h
     sub := ⟨fun _ _ h => h, fun _ _ h => (by cases h), fun _ _ h => (by cases h), Nat.le_refl _, hM.gl⟩
     new := fun _ _ h => .inl h
     base := rfl
     blw := Und.refl _ _ }
  refine wp_of_FR (W_sound hm (noJ_call rfl) (B := ⟨w.heap.size, fun _ => False, [], #[], w.heap.size, noJ, []⟩) hc ?_ H (hW (repAll_ok hus)))
  intro e κ M1 σ a w1 hR H1
  simp only [ResN] at hR
  obtain ⟨he, hR⟩ := hR
  split at hR
  · rename_i vs hvs
    obtain ⟨hfr, hR⟩ := hR
    split at hR
    · rename_i ws hws
      obtain ⟨ds, k1, k2⟩ := run_results hr H1 hvs
      obtain ⟨H2, hM1⟩ := H1.kill (vidss vs) (purs_in hws)
      have k3 : repAll (newM w (ext M1 w1 (blks κ (vidss vs)))) NX ws ds := by
       refine fres_rep H1 (fun p v hp => by unfold newM; rw [if_pos (H1.sub.fmN p v hp)]; exact hM1 p v (H1.sub.fmS p v hp)) (fun id hid g hg p hpb => ?_) hfr k1 hws
       obtain ⟨ob, hob⟩ := purs_in hws id hid
       have hgw : w.heap.size ≤ g := by
        rcases (H1.blk_lt hob hg).1 with h | h
        · exact h
        · exact h.elim
       unfold newM
       rw [if_pos (by omega)]
       unfold ext
       rw [if_pos (mem_blks.2 ⟨id, hid, by rw [hpb]; exact hg⟩)]
      have fin : bodyPost P fn (fun e w' => ∃ (c : Value) (M' : Mem), e = .returned c ∧ rep (newM w M') NX r c ∧ Below w.heap.size w w' ∧ ∀ p v, M' p = some v → w'.cell? p = some v) .normal a w1 := by
       refine ⟨H1.dfr, _, k2, _, _, rfl, ?_, ⟨H1.blw.os, H1.blw.tape, H1.blw.output, H1.blw.size, fun k hk => H1.blw.block k hk id⟩, H2.snd⟩
       subst hR
       exact tupV_rep k3
      cases e with
      | norm => exact fin
      | ret => exact fin
      | exit id => exact he.elim
      | goto l => exact he.elim
    · exact hR.elim
  · exact hR.elim
 refine key.mono ?_
 rintro e w' ⟨c, M', rfl, h1, h2, h3⟩
 exact hN c M' w' h1 h2 h3

mutual
def jk : V → V
 | .seq sz l => if l.isEmpty = true then .seq sz l else .junk
 | .strct cs => .strct (jks cs)
 | .tup cs => .tup (jks cs)
 | .sptr _ _ => .junk
 | v => v
def jks : List V → List V
 | [] => []
 | v :: vs => jk v :: jks vs
end
mutual
theorem jk_rep {M : Mem} {X : V → Value → Prop} : ∀ {v : V} {c : Value}, rep M X v c → rep M X (jk v) c
 | .seq sz l, c, h => by
   simp only [jk]
   split
   · exact h
   · simp only [rep] at h ⊢
     obtain ⟨a, cap, rfl, _⟩ := h
     rfl
 | .strct cs, c, h => by
   simp only [rep, jk] at h ⊢
   obtain ⟨arr, h1, h2, h3⟩ := h
   exact ⟨arr, h1, jks_rep h2, h3⟩
 | .tup cs, c, h => by
   simp only [rep, jk] at h ⊢
   obtain ⟨arr, h1, h2⟩ := h
   exact ⟨arr, h1, jks_rep h2⟩
 | .sptr _ _, c, h => by
   simp only [rep, jk] at h ⊢
   obtain ⟨b, o, y, rfl, _⟩ := h
   rfl
 | .int _ _, _, h => h
 | .bool _, _, h => h
 | .str _, _, h => h
 | .nil _, _, h => h
 | .ref _ _, _, h => h
 | .ptr _ _, _, h => h
 | .eptr _ _ _ _, _, h => h
 | .mref _ _ _, _, h => h
 | .fseq _ _, _, h => h
 | .mptr _ _ _ _ _, _, h => h
 | .nilptr, _, h => h
 | .fn _ _ _, _, h => h
 | .nilfn, _, h => h
 | .iface _ _, _, h => h
 | .niliface, _, h => h
 | .junk, _, h => h
theorem jks_rep {M : Mem} {X : V → Value → Prop} : ∀ {vs : List V} {cs : List Value}, repAll M X vs cs → repAll M X (jks vs) cs
 | [], _, h => h
 | v :: vs, cs, h => by
   simp only [repAll, jks] at h ⊢
   obtain ⟨c, cs', h1, h2, h3⟩ := h
   exact ⟨c, cs', h1, jk_rep h2, jks_rep h3⟩
end
theorem Fn.weak {f : FuncId} {us : List V} {r r' : V} (h : Fn P f us r) (hr : ∀ M c, rep M NX r c → rep M NX r' c) : Fn P f us r' :=
 fun M w cs hM hus o a Nx Q hN => h M w cs hM hus o a Nx Q fun c M' w' h1 => hN c M' w' (hr M' c h1)
theorem Fn.jk {f : FuncId} {us : List V} {r : V} (h : Fn P f us r) : Fn P f us (jk r) := h.weak fun _ _ => jk_rep
def image (P : Program) (fn : Func) (K : List (List Nat)) (n : Nat) : Option (AC × List RV) :=
 match fn.body with
 | some c => match cCode P fn.ntmps [] [] c K, cRes P fn.results.toList with
   | some (x, []), some rs => if (fn.name == "runtime.NumGoroutine") = false ∧ n ≤ fn.ntmps then some (x, rs) else none
   | _, _ => none
 | none => none

theorem FnE.of_image {f : FuncId} {fn : Func} {us : List V} {r : V} {x : AC} {K : List (List Nat)} {rs : List RV} {n : Nat} (hm : P.follows .mixedOrders = true) (hf : P.funcs[f]? = some fn)
 (hi : image P fn K n = some (x, rs)) (hn : us.length = n) (hW : oks us → W (Cn P) x (Res rs (· = r)) ⟨ent 0 us, []⟩) : FnE P f us r := by
 unfold image at hi
 split at hi
 · split at hi
   · split at hi
     · rename_i hc
       cases hi
       exact FnE.of_W hm hf ‹_› hc.1 (cCode_spec ‹_›) ‹_› (by rw [hn]; exact hc.2) hW
     · cases hi
   · cases hi
 · cases hi
theorem Fn.of_image {f : FuncId} {fn : Func} {us : List V} {r : V} {x : AC} {K : List (List Nat)} {rs : List RV} {n : Nat} (hm : P.follows .mixedOrders = true) (hf : P.funcs[f]? = some fn)
 (hi : image P fn K n = some (x, rs)) (hn : us.length = n) (hW : oks us → W (Cn P) x (Res rs (· = r)) ⟨ent 0 us, []⟩) : Fn P f us r := (FnE.of_image hm hf hi hn hW).fn

theorem FnN.of_image {f : FuncId} {fn : Func} {us : List V} {r : V} {x : AC} {K : List (List Nat)} {rs : List RV} {n : Nat} (hm : P.follows .mixedOrders = true) (hf : P.funcs[f]? = some fn)
 (hi : image P fn K n = some (x, rs)) (hn : us.length = n) (hW : oks us → W (Cn P) x (ResN rs r) ⟨ent 0 us, []⟩) : FnN P f us r := by
 unfold image at hi
 split at hi
 · split at hi
   · split at hi
     · rename_i hc
       cases hi
       exact FnN.of_W hm hf ‹_› hc.1 (cCode_spec ‹_›) ‹_› (by rw [hn]; exact hc.2) hW
     · cases hi
   · cases hi
 · cases hi

/-! ### Functions that turn what is lent to them -/
def pvals : List (Nat × V) → List V
 | [] => []
 | (_, v) :: r => v :: pvals r
def pinEq (m : List Nat) (r : List (Nat × V)) (us : List V) : List Nat → Prop
 | [] => True
 | i :: is => (match lk r i, us[i]? with
   | some v, some u => ren m v = u
   | _, _ => False) ∧ pinEq m r us is
def resHM (σ : St) (ps : List Nat) (us : List V) (r : V) (H' : List (Option Ob)) (vs : List V) (m : List Nat) : Prop :=
 pinEq m σ.r us ps ∧ tupV (rens m vs) = r ∧ renH σ.h m m = H'
def ResH (rs : List RV) (ps : List Nat) (us : List V) (r : V) (H' : List (Option Ob)) : Ex → St → Prop := fun e σ => (match e with
    | .exit _ => False
    | .goto _ => False
    | _ => True) ∧ match σ.rvs rs with
    | some vs => resHM σ ps us r H' vs (lent σ.h (pvals (pk σ.r ps)) vs).2
    | none => False
theorem pinEq_get {m : List Nat} {r : List (Nat × V)} {us : List V} : ∀ {is : List Nat}, pinEq m r us is → ∀ i, i ∈ is → ∃ v u, lk r i = some v ∧ us[i]? = some u ∧ ren m v = u
 | [], _, i, hi => by cases hi
 | j :: is, h, i, hi => by
   simp only [pinEq] at h
   rcases List.mem_cons.1 hi with rfl | hi
   · have h1 := h.1
     split at h1
     · exact ⟨_, _, by assumption, by assumption, h1⟩
     · exact h1.elim
   · exact pinEq_get h.2 i hi

theorem FnH.of_W {f : FuncId} {fn : Func} {c : Code} {ps : List Nat} {us : List V} {H H' : List (Option Ob)} {r : V} {x : AC} {rs : List RV} (hm : P.follows .mixedOrders = true) (hf : P.funcs[f]? = some fn) (hb : fn.body = some c)
 (hn : (fn.name == "runtime.NumGoroutine") = false) (hc : LC P fn.ntmps ps c x) (hr : cRes P fn.results.toList = some rs) (hs : us.length ≤ fn.ntmps) (hps : ∀ i ∈ ps, i < us.length)
 (hW : oks us → okH H → W (Cn P) x (ResH rs ps us r H') ⟨ent 0 us, H⟩) : FnH P f ps us H r H' := by
 intro M w κ cs J hJC hp hus o a Nx Q hN
 have hcall : (callFunc f cs).run P w = .ok (.enter f cs) w := by
  unfold callFunc
  simp only [beq_eq_false_iff_ne, ne_eq] at hn
  simp [Sem.run_bind, hf, hb, hn]
 have hl : cs.size = us.length := by have := repAll_length hus; simpa using this
 rw [hcall, Oper.upon_enter]
 have key : Calls P f cs w fun e w' => ∃ (c : Value) (M' : Mem) (κ' : Kap), e = .returned c ∧ rep M' (XX κ' H') r c ∧ Und (lentB κ H w ps cs J) w w' ∧ Heap κ' M' (lentB κ H w ps cs J) w' H' ∧
  (∀ p v, M p = some v → M' p = some v) ∧ (∀ p v, M' p = some v → M p = some v ∨ (lentB κ H w ps cs J).own p.block) ∧
  (∀ i, i ∈ ps → ∀ u d, us[i]? = some u → cs[i]? = some d → rep M' (XX κ' H') u d) := by
  refine calls_of_wp hf hb ?_
  have H0 : Rel fn.ntmps M (lentB κ H w ps cs J) w κ M ⟨ent 0 us, H⟩ { tmps := cs ++ Array.replicate (fn.ntmps - cs.size) undef, defers := [] } w :=
   { dfr := rfl
     jst := hp.jst
     pin := fun i hi => by
      have hi : i ∈ ps := hi
      have := hps i hi
      show (cs ++ Array.replicate (fn.ntmps - cs.size) undef)[i]? = cs[i]?
      rw [Array.getElem?_append_left (by omega)]
     size := by simp; omega
     regs := fun t v ht => by
      obtain ⟨_, h2⟩ := lk_ent ht
      simp only [Nat.sub_zero] at h2
      have hlt : t < us.length := (List.getElem?_eq_some_iff.1 h2).1
      obtain ⟨c, h3, h4⟩ := repAll_get hus h2
      refine ⟨by omega, c, ?_, h4⟩
      rw [Array.getElem?_append_left (by omega)]
      simpa using h3
     heap := hp.heap
     inj := hp.inj
     snd := hp.snd
     sep := hp.sep
     sub := ⟨fun _ _ h => h, hp.fmS, fun _ _ _ => Nat.zero_le _, Nat.zero_le _, hp.gl⟩
     new := fun _ _ h => .inl h
     base := rfl
     blw := Und.refl _ _ }
  refine wp_of_FR (W_sound hm hJC (B := lentB κ H w ps cs J) hc ?_ H0 (hW (repAll_ok hus) (heap_ok hp.heap)))
  intro e κ1 M1 σ a w1 hR H1
  simp only [ResH] at hR
  obtain ⟨he, hR⟩ := hR
  split at hR
  · rename_i vs hvs
    obtain ⟨ds, k1, k2⟩ := run_results hr H1 hvs
    obtain ⟨hmn, _, _⟩ := lent_spec (h := σ.h) (pvs := pvals (pk σ.r ps)) (vs := vs)
    generalize (lent σ.h (pvals (pk σ.r ps)) vs).2 = m at *
    obtain ⟨hR1, hR2, hR3⟩ := hR
    have H2 := H1.ren hmn [] (fun t v h => by simp [lk] at h)
    have k3 := rens_rep (XX_ren (M := M1) (κ := κ1) (h := σ.h) hmn) k1
    simp only [renR] at H2
    rw [hR3] at H2 k3
    have hpin : ∀ i, i ∈ ps → ∀ u d, us[i]? = some u → cs[i]? = some d → rep M1 (XX (κ1.ren m) H') u d := by
     intro i hi u d hu hd
     obtain ⟨v, u', e1, e2, e3⟩ := pinEq_get hR1 i hi
     rw [hu] at e2
     cases e2
     obtain ⟨_, c, g2, g3⟩ := H1.regs i v e1
     rw [H1.pin i hi] at g2
     have g2 : cs[i]? = some c := g2
     rw [hd] at g2
     cases g2
     rw [← e3, ← hR3]
     exact ren_rep (XX_ren hmn) g3
    generalize hk' : κ1.ren m = κ' at *
    have fin : bodyPost P fn (fun e w' => ∃ (c : Value) (M' : Mem) (κ' : Kap), e = .returned c ∧ rep M' (XX κ' H') r c ∧ Und (lentB κ H w ps cs J) w w' ∧ Heap κ' M' (lentB κ H w ps cs J) w' H' ∧
     (∀ p v, M p = some v → M' p = some v) ∧ (∀ p v, M' p = some v → M p = some v ∨ (lentB κ H w ps cs J).own p.block) ∧
     (∀ i, i ∈ ps → ∀ u d, us[i]? = some u → cs[i]? = some d → rep M' (XX κ' H') u d)) .normal a w1 := by
     refine ⟨H1.dfr, _, k2, _, M1, κ', rfl, ?_, H1.blw, ⟨H2.heap, H2.inj, H2.snd, H2.sep, H2.sub.fmS, H2.sub.gl.mono H2.sub.sub, H2.jst⟩, H1.sub.sub, H1.new, hpin⟩
     subst hR2
     generalize rens m vs = ws at *
     match ws, ds, k3 with
     | [], [], k3 => simp only [tupV, rep]; exact ⟨#[], rfl, by simp [repAll]⟩
     | [v], [d], k3 =>
       simp only [repAll] at k3
       obtain ⟨_, _, h1, h2, _⟩ := k3
       cases h1
       simpa [tupV] using h2
     | v :: v' :: vs', d :: d' :: ds', k3 =>
       have e : (if h : (d :: d' :: ds').length = 1 then (d :: d' :: ds')[0] else .tuple (d :: d' :: ds').toArray) = .tuple (d :: d' :: ds').toArray := dif_neg (by simp)
       rw [e]
       simp only [tupV, rep]
       exact ⟨_, rfl, by simpa using k3⟩
     | [], d :: ds, k3 => simp [repAll] at k3
     | v :: vs, [], k3 => simp [repAll] at k3
     | [v], d :: d' :: ds, k3 => simp [repAll] at k3
     | v :: v' :: vs, [d], k3 =>
       simp only [repAll] at k3
       obtain ⟨c, cs', h1, _, c2, cs2, h2, _⟩ := k3
       cases h1
       cases h2
    cases e with
    | norm => exact fin
    | ret => exact fin
    | exit id => exact he.elim
    | goto l => exact he.elim
  · exact hR.elim
 refine key.mono ?_
 rintro e w' ⟨c, M', κ', rfl, h1, h2, h3, h4, h5, h6⟩
 exact hN c M' w' κ' h1 h2 h3 h4 h5 h6

def imageE (P : Program) (fn : Func) (ps E : List Nat) (K : List (List Nat)) (n : Nat) : Option (AC × List RV) :=
 match fn.body with
 | some c => match cCode P fn.ntmps ps E c K, cRes P fn.results.toList with
   | some (x, []), some rs => if (fn.name == "runtime.NumGoroutine") = false ∧ n ≤ fn.ntmps ∧ ps.all (fun i => decide (i < n)) = true then some (x, rs) else none
   | _, _ => none
 | none => none
theorem FnH.of_image {f : FuncId} {fn : Func} {ps E : List Nat} {us : List V} {H H' : List (Option Ob)} {r : V} {x : AC} {K : List (List Nat)} {rs : List RV} {n : Nat} (hm : P.follows .mixedOrders = true) (hf : P.funcs[f]? = some fn)
 (hi : imageE P fn ps E K n = some (x, rs)) (hn : us.length = n) (hW : oks us → okH H → W (Cn P) x (ResH rs ps us r H') ⟨ent 0 us, H⟩) : FnH P f ps us H r H' := by
 unfold imageE at hi
 split at hi
 · split at hi
   · split at hi
     · rename_i hc
       cases hi
       exact FnH.of_W hm hf ‹_› hc.1 (cCode_spec ‹_›) ‹_› (by rw [hn]; exact hc.2.1) (fun i hi => by have := List.all_eq_true.1 hc.2.2 i hi; simp at this; omega) hW
     · cases hi
   · cases hi
 · cases hi
theorem Fn.of_imageE {f : FuncId} {fn : Func} {E : List Nat} {us : List V} {r : V} {x : AC} {K : List (List Nat)} {rs : List RV} {n : Nat} (hm : P.follows .mixedOrders = true) (hf : P.funcs[f]? = some fn)
 (hi : imageE P fn [] E K n = some (x, rs)) (hn : us.length = n) (hW : oks us → W (Cn P) x (Res rs (· = r)) ⟨ent 0 us, []⟩) : Fn P f us r := by
 unfold imageE at hi
 split at hi
 · split at hi
   · split at hi
     · rename_i hc
       cases hi
       exact (FnE.of_W hm hf ‹_› hc.1 (cCode_spec ‹_›) ‹_› (by rw [hn]; exact hc.2.1) hW).fn
     · cases hi
   · cases hi
 · cases hi
end
end Go.Abs
end
section
namespace Go.Abs

def oM {α : Type} (x : Option α) (k : α → Prop) : Prop := match x with
 | some v => k v
 | none => False
def oN {α : Type} (x : Option α) (k : α → Prop) (e : Prop) : Prop := match x with
 | some v => k v
 | none => e
theorem oN_some {α : Type} {v : α} {k : α → Prop} {e : Prop} : oN (some v) k e = k v := propext Iff.rfl
theorem oN_none {α : Type} {k : α → Prop} {e : Prop} : oN none k e = e := propext Iff.rfl
def BrK (t : Bool) (A B : St → Prop) (σ : St) : Prop := Br t (A σ) (B σ)
def rqK (p : Prop) (K : St → Prop) (σ : St) : Prop := p ∧ K σ
def cM (x : Option V) (A B : St → Prop) (σ : St) : Prop := match x with
 | some (.bool t) => Br t (A σ) (B σ)
 | _ => False
def gM (x : Option V) (b : Bool) (A B : St → Prop) (σ : St) : Prop := match x with
 | some (.bool y) => if b = true then Br y (A σ) (B σ) else Br y (B σ) (A σ)
 | some (.tup []) => B σ
 | _ => False
def clsK (Q : Ex → St → Prop) (ks : List Nat) (σ : St) : Prop := Q .norm { σ with r := pk σ.r ks }
def skK (d : Option Nat) (K : St → Prop) (σ : St) : Prop := K (σ.put d (.tup []))
def putK (σ : St) (d : Option Nat) (K : St → Prop) (v : V) : Prop := K (σ.put d v)
theorem BrK.mk {t : Bool} {A B : St → Prop} {σ : St} (h : t = true → A σ) (h' : t = false → B σ) : BrK t A B σ := ⟨h, h'⟩
theorem BrK_true {A B : St → Prop} {σ : St} : BrK true A B σ = A σ := by simp [BrK, Br]
theorem BrK_false {A B : St → Prop} {σ : St} : BrK false A B σ = B σ := by simp [BrK, Br]
theorem BrKd.mk {p : Prop} [Decidable p] {A B : St → Prop} {σ : St} (h : p → A σ) (h' : ¬p → B σ) : BrK (decide p) A B σ := ⟨fun e => h (of_decide_eq_true e), fun e => h' (of_decide_eq_false e)⟩
theorem BrKe.mk {p : Prop} [Decidable p] {A B : St → Prop} {σ : St} (h : p → A σ) (h' : ¬p → B σ) : BrK (!decide p) B A σ := ⟨fun e => h' (by simpa using e), fun e => h (by simpa using e)⟩
theorem BrK_t {p : Prop} [Decidable p] {A B : St → Prop} {σ : St} (h : p) : BrK (decide p) A B σ = A σ := by rw [decide_eq_true h]; exact BrK_true
theorem BrK_f {p : Prop} [Decidable p] {A B : St → Prop} {σ : St} (h : ¬p) : BrK (decide p) A B σ = B σ := by rw [decide_eq_false h]; exact BrK_false
theorem BrK_n {b : Bool} {A B : St → Prop} {σ : St} : BrK (!b) A B σ = BrK b B A σ := by cases b <;> simp [BrK, Br]
theorem rqK_t {p : Prop} {K : St → Prop} {σ : St} (h : p) : rqK p K σ = K σ := by simp [rqK, h]
theorem rqK.mk {p : Prop} {K : St → Prop} {σ : St} (h : p) (h' : K σ) : rqK p K σ := ⟨h, h'⟩
theorem rqK_true {K : St → Prop} {σ : St} : rqK True K σ = K σ := by simp [rqK]
theorem oM_some {α : Type} {v : α} {k : α → Prop} : oM (some v) k = k v := propext Iff.rfl
theorem oM_none {α : Type} {k : α → Prop} : oM none k = False := propext Iff.rfl
theorem cM_bool {t : Bool} {A B : St → Prop} {σ : St} : cM (some (.bool t)) A B σ = BrK t A B σ := propext Iff.rfl
theorem gM_true {y : Bool} {A B : St → Prop} {σ : St} : gM (some (.bool y)) true A B σ = BrK y A B σ := propext Iff.rfl
theorem gM_false {y : Bool} {A B : St → Prop} {σ : St} : gM (some (.bool y)) false A B σ = BrK y B A σ := propext Iff.rfl
theorem gM_tup {b : Bool} {A B : St → Prop} {σ : St} : gM (some (.tup [])) b A B σ = B σ := by cases b <;> rfl
section
variable {Φ : Ctr} {Q : Ex → St → Prop} {σ : St} {K : St → Prop} {d : Option Nat}
theorem clsK_app {ks : List Nat} : clsK Q ks σ = Q .norm { σ with r := pk σ.r ks } := propext Iff.rfl
theorem skK_app : skK d K σ = K (σ.put d (.tup [])) := propext Iff.rfl
theorem putK_app {v : V} : putK σ d K v = K (σ.put d v) := propext Iff.rfl
theorem W_reg' {ops ks} : W Φ (.reg ops ks) Q σ = wops Φ ops (clsK Q ks) σ := propext Iff.rfl
theorem W_regD' {ops ks} : W Φ (.regD ops ks) Q σ = wopsD Φ ops (clsK Q ks) σ := propext Iff.rfl
theorem W_regE' {alts ks} : W Φ (.regE alts ks) Q σ = wall Φ alts (clsK Q ks) σ := propext Iff.rfl
theorem W_cond' {c : AO} {a b : AC} : W Φ (.cond c a b) Q σ = cM (σ.ev c) (W Φ a Q) (W Φ b Q) σ := propext Iff.rfl
theorem W_seq' {a b : AC} : W Φ (.seq a b) Q σ = W Φ a (Ex.then (W Φ b Q) Q) σ := propext Iff.rfl
theorem wops_nil : wops Φ [] K σ = K σ := propext Iff.rfl
theorem wops_cons {o : AOp} {os : List AOp} : wops Φ (o :: os) K σ = wop Φ o (wops Φ os K) σ := propext Iff.rfl
theorem wop_n {d : Option Nat} {a : Act'} : wop Φ ⟨d, a, none⟩ K σ = wact Φ d a K σ := propext Iff.rfl
theorem wop_g {d : Option Nat} {a : Act'} {t : Nat} {b : Bool} : wop Φ ⟨d, a, some (t, b)⟩ K σ = gM (lk σ.r t) b (wact Φ d a K) (skK d K) σ := by
 simp only [wop, gM]
 split <;> rename_i heq <;> simp only [heq] <;> rfl
theorem wopsD_nil : wopsD Φ [] K σ = K σ := propext Iff.rfl
theorem wopsD_cons {o : AOp} {os : List AOp} : wopsD Φ (o :: os) K σ = wopD Φ o (wopsD Φ os K) σ := propext Iff.rfl
theorem wopD_n {d : Option Nat} {a : Act'} : wopD Φ ⟨d, a, none⟩ K σ = wactD Φ d a K σ := propext Iff.rfl
theorem wopD_g {d : Option Nat} {a : Act'} {t : Nat} {b : Bool} : wopD Φ ⟨d, a, some (t, b)⟩ K σ = gM (lk σ.r t) b (wactD Φ d a K) (skK d K) σ := by
 simp only [wopD, gM]
 split <;> rename_i heq <;> simp only [heq] <;> rfl
theorem wtree_nil : wtree Φ .nil K σ = K σ := propext Iff.rfl
theorem wtree_op {x : AOp} {t : OT} : wtree Φ (.op x t) K σ = wopD Φ x (wtree Φ t K) σ := propext Iff.rfl
def wbothK (Φ : Ctr) (a b : OT) (K : St → Prop) (σ : St) : Prop := wtree Φ a K σ ∧ wtree Φ b K σ
theorem wtree_both {a b : OT} : wtree Φ (.both a b) K σ = wbothK Φ a b K σ := propext Iff.rfl
theorem wbothK.mk {a b : OT} (h : wtree Φ a K σ) (h' : wtree Φ b K σ) : wbothK Φ a b K σ := ⟨h, h'⟩
def nrmK (Q : Ex → St → Prop) (ks : List Nat) (σ : St) : Prop := Q .norm (σ.nrm ks)
theorem nrmK_app {ks : List Nat} : nrmK Q ks σ = Q .norm (σ.nrm ks) := propext Iff.rfl
theorem W_regF' {t ks} : W Φ (.regF t ks) Q σ = wtree Φ t (nrmK Q ks) σ := propext Iff.rfl
theorem wall_nil : wall Φ [] K σ = True := propext Iff.rfl
def wallK (Φ : Ctr) (o : List AOp) (os : List (List AOp)) (K : St → Prop) (σ : St) : Prop := wops Φ o K σ ∧ wall Φ os K σ
theorem wall_cons {o : List AOp} {os : List (List AOp)} : wall Φ (o :: os) K σ = wallK Φ o os K σ := propext Iff.rfl
theorem wallK.mk {o : List AOp} {os : List (List AOp)} (h : wops Φ o K σ) (h' : wall Φ os K σ) : wallK Φ o os K σ := ⟨h, h'⟩

def isVal : Act' → Bool
 | .s2b _ => false
 | .lit _ _ _ => false
 | .ltr _ _ _ => false
 | .alc _ => false
 | .box _ => false
 | .st _ _ _ => false
 | .app _ _ _ _ _ => false
 | .mks _ _ _ _ _ => false
 | .mk0 _ _ _ _ => false
 | .mkm _ _ _ _ _ => false
 | .call _ _ => false
 | .callv _ _ => false
 | .callH _ _ => false
 | .mkp _ => false
 | .mup _ _ _ _ => false
 | .inv _ _ _ => false
 | .trc _ _ _ => false
 | .yld _ _ => false
 | _ => true
theorem a_val {a : Act'} (h : isVal a = true) : wact Φ d a K σ = oM (σ.val a) (putK σ d K) := by
 cases a <;> first | (exfalso; revert h; simp only [isVal]; decide) | skip
 all_goals
  simp only [wact, oM]
  split <;> rename_i heq <;> simp only [heq] <;> rfl
theorem a_mov {x} : wact Φ d (.mov x) K σ = oM (σ.val (.mov x)) (putK σ d K) := a_val rfl
theorem aD_mov {x} : wactD Φ d (.mov x) K σ = wact Φ d (.mov x) K σ := propext Iff.rfl
theorem a_pick {x y z} : wact Φ d (.pick x y z) K σ = oM (σ.val (.pick x y z)) (putK σ d K) := a_val rfl
theorem aD_pick {x y z} : wactD Φ d (.pick x y z) K σ = wact Φ d (.pick x y z) K σ := propext Iff.rfl
theorem a_fld {x y z w} : wact Φ d (.fld x y z w) K σ = oM (σ.val (.fld x y z w)) (putK σ d K) := a_val rfl
theorem aD_fld {x y z w} : wactD Φ d (.fld x y z w) K σ = wact Φ d (.fld x y z w) K σ := propext Iff.rfl
theorem a_fa {x y} : wact Φ d (.fa x y) K σ = oM (σ.val (.fa x y)) (putK σ d K) := a_val rfl
theorem aD_fa {x y} : wactD Φ d (.fa x y) K σ = wact Φ d (.fa x y) K σ := propext Iff.rfl
theorem a_ia {x y z} : wact Φ d (.ia x y z) K σ = oM (σ.val (.ia x y z)) (putK σ d K) := a_val rfl
theorem aD_ia {x y z} : wactD Φ d (.ia x y z) K σ = wact Φ d (.ia x y z) K σ := propext Iff.rfl
theorem a_iaa {x y z w} : wact Φ d (.iaa x y z w) K σ = oM (σ.val (.iaa x y z w)) (putK σ d K) := a_val rfl
theorem aD_iaa {x y z w} : wactD Φ d (.iaa x y z w) K σ = wact Φ d (.iaa x y z w) K σ := propext Iff.rfl
theorem a_ld {x y z} : wact Φ d (.ld x y z) K σ = oM (σ.val (.ld x y z)) (putK σ d K) := a_val rfl
theorem aD_ld {x y z} : wactD Φ d (.ld x y z) K σ = wact Φ d (.ld x y z) K σ := propext Iff.rfl
theorem a_ixs {x y} : wact Φ d (.ixs x y) K σ = oM (σ.val (.ixs x y)) (putK σ d K) := a_val rfl
theorem aD_ixs {x y} : wactD Φ d (.ixs x y) K σ = wact Φ d (.ixs x y) K σ := propext Iff.rfl
theorem a_ixa {x y z w u} : wact Φ d (.ixa x y z w u) K σ = oM (σ.val (.ixa x y z w u)) (putK σ d K) := a_val rfl
theorem aD_ixa {x y z w u} : wactD Φ d (.ixa x y z w u) K σ = wact Φ d (.ixa x y z w u) K σ := propext Iff.rfl
theorem a_bin {x y z} : wact Φ d (.bin x y z) K σ = oM (σ.val (.bin x y z)) (putK σ d K) := a_val rfl
theorem aD_bin {x y z} : wactD Φ d (.bin x y z) K σ = wact Φ d (.bin x y z) K σ := propext Iff.rfl
theorem a_un {x y} : wact Φ d (.un x y) K σ = oM (σ.val (.un x y)) (putK σ d K) := a_val rfl
theorem aD_un {x y} : wactD Φ d (.un x y) K σ = wact Φ d (.un x y) K σ := propext Iff.rfl
theorem a_cii {x y} : wact Φ d (.cii x y) K σ = oM (σ.val (.cii x y)) (putK σ d K) := a_val rfl
theorem aD_cii {x y} : wactD Φ d (.cii x y) K σ = wact Φ d (.cii x y) K σ := propext Iff.rfl
theorem a_b2s {x} : wact Φ d (.b2s x) K σ = oM (σ.val (.b2s x)) (putK σ d K) := a_val rfl
theorem aD_b2s {x} : wactD Φ d (.b2s x) K σ = wact Φ d (.b2s x) K σ := propext Iff.rfl
theorem a_sls {x y z} : wact Φ d (.sls x y z) K σ = oM (σ.val (.sls x y z)) (putK σ d K) := a_val rfl
theorem aD_sls {x y z} : wactD Φ d (.sls x y z) K σ = wact Φ d (.sls x y z) K σ := propext Iff.rfl
theorem a_slq {x y z w} : wact Φ d (.slq x y z w) K σ = oM (σ.val (.slq x y z w)) (putK σ d K) := a_val rfl
theorem aD_slq {x y z w} : wactD Φ d (.slq x y z w) K σ = wact Φ d (.slq x y z w) K σ := propext Iff.rfl
theorem a_lens {x} : wact Φ d (.lens x) K σ = oM (σ.val (.lens x)) (putK σ d K) := a_val rfl
theorem aD_lens {x} : wactD Φ d (.lens x) K σ = wact Φ d (.lens x) K σ := propext Iff.rfl
theorem a_lenq {x} : wact Φ d (.lenq x) K σ = oM (σ.val (.lenq x)) (putK σ d K) := a_val rfl
theorem aD_lenq {x} : wactD Φ d (.lenq x) K σ = wact Φ d (.lenq x) K σ := propext Iff.rfl
theorem a_beq {x y z} : wact Φ d (.beq x y z) K σ = oM (σ.val (.beq x y z)) (putK σ d K) := a_val rfl
theorem aD_beq {x y z} : wactD Φ d (.beq x y z) K σ = wact Φ d (.beq x y z) K σ := propext Iff.rfl
theorem a_ext {x y} : wact Φ d (.ext x y) K σ = oM (σ.val (.ext x y)) (putK σ d K) := a_val rfl
theorem aD_ext {x y} : wactD Φ d (.ext x y) K σ = wact Φ d (.ext x y) K σ := propext Iff.rfl
theorem a_bld {x y} : wact Φ d (.bld x y) K σ = oM (σ.val (.bld x y)) (putK σ d K) := a_val rfl
theorem aD_bld {x y} : wactD Φ d (.bld x y) K σ = wact Φ d (.bld x y) K σ := propext Iff.rfl
theorem a_mkf {x y z} : wact Φ d (.mkf x y z) K σ = oM (σ.val (.mkf x y z)) (putK σ d K) := a_val rfl
theorem aD_mkf {x y z} : wactD Φ d (.mkf x y z) K σ = wact Φ d (.mkf x y z) K σ := propext Iff.rfl
theorem a_nlc {x} : wact Φ d (.nlc x) K σ = oM (σ.val (.nlc x)) (putK σ d K) := a_val rfl
theorem aD_nlc {x} : wactD Φ d (.nlc x) K σ = wact Φ d (.nlc x) K σ := propext Iff.rfl
theorem a_mki {x y} : wact Φ d (.mki x y) K σ = oM (σ.val (.mki x y)) (putK σ d K) := a_val rfl
theorem aD_mki {x y} : wactD Φ d (.mki x y) K σ = wact Φ d (.mki x y) K σ := propext Iff.rfl
theorem a_aeq {x y z w} : wact Φ d (.aeq x y z w) K σ = oM (σ.val (.aeq x y z w)) (putK σ d K) := a_val rfl
theorem aD_aeq {x y z w} : wactD Φ d (.aeq x y z w) K σ = wact Φ d (.aeq x y z w) K σ := propext Iff.rfl
theorem a_lkp {x y z w u} : wact Φ d (.lkp x y z w u) K σ = oM (σ.val (.lkp x y z w u)) (putK σ d K) := a_val rfl
theorem aD_lkp {x y z w u} : wactD Φ d (.lkp x y z w u) K σ = wact Φ d (.lkp x y z w u) K σ := propext Iff.rfl
theorem a_mm {x y z} : wact Φ d (.mm x y z) K σ = oM (σ.val (.mm x y z)) (putK σ d K) := a_val rfl
theorem aD_mm {x y z} : wactD Φ d (.mm x y z) K σ = wact Φ d (.mm x y z) K σ := propext Iff.rfl
theorem a_nlq {x y z} : wact Φ d (.nlq x y z) K σ = oM (σ.val (.nlq x y z)) (putK σ d K) := a_val rfl
theorem aD_nlq {x y z} : wactD Φ d (.nlq x y z) K σ = wact Φ d (.nlq x y z) K σ := propext Iff.rfl
theorem aD_alc {x} : wactD Φ d (.alc x) K σ = wact Φ d (.alc x) K σ := propext Iff.rfl
theorem aD_box {x} : wactD Φ d (.box x) K σ = wact Φ d (.box x) K σ := propext Iff.rfl
theorem aD_st {x y z} : wactD Φ d (.st x y z) K σ = wact Φ d (.st x y z) K σ := propext Iff.rfl
theorem aD_app {x y z w u} : wactD Φ d (.app x y z w u) K σ = wact Φ d (.app x y z w u) K σ := propext Iff.rfl
theorem aD_mks {x y z w u} : wactD Φ d (.mks x y z w u) K σ = wact Φ d (.mks x y z w u) K σ := propext Iff.rfl
theorem aD_mk0 {x y z w} : wactD Φ d (.mk0 x y z w) K σ = wact Φ d (.mk0 x y z w) K σ := propext Iff.rfl
theorem aD_mkm {x y z w u} : wactD Φ d (.mkm x y z w u) K σ = wact Φ d (.mkm x y z w u) K σ := propext Iff.rfl
theorem aD_s2b {x} : wactD Φ d (.s2b x) K σ = wact Φ d (.s2b x) K σ := propext Iff.rfl
theorem a_alc {z} : wact Φ d (.alc z) K σ = K ({ σ with h := σ.h ++ [some (Ob.box z)] }.put d (.ptr σ.h.length 0)) := propext Iff.rfl
def boxV (σ : St) (x : AO) : Option (List V) := match σ.ev x with
 | some v => if nt v = true then some (cl v) else none
 | none => none
def boxK (σ : St) (d : Option Nat) (K : St → Prop) (cs : List V) : Prop := K ({ σ with h := σ.h ++ [some (Ob.box cs)] }.put d (.ptr σ.h.length 0))
theorem boxK_app {cs : List V} : boxK σ d K cs = K ({ σ with h := σ.h ++ [some (Ob.box cs)] }.put d (.ptr σ.h.length 0)) := propext Iff.rfl
theorem a_box {x} : wact Φ d (.box x) K σ = oM (boxV σ x) (boxK σ d K) := by
 simp only [wact, boxV]
 cases σ.ev x with
 | none => rfl
 | some v => simp only; split <;> rfl
def stV (σ : St) (n : Nat) (p x : AO) : Option St := match σ.ev p, σ.ev x with
 | some a, some v => if nt v = true then σ.stor n a (cl v) else none
 | _, _ => none
theorem a_st {n p x} : wact Φ d (.st n p x) K σ = oM (stV σ n p x) (skK d K) := by
 simp only [wact, stV]
 cases σ.ev p with
 | none => rfl
 | some a => cases σ.ev x with
   | none => rfl
   | some v =>
     simp only
     split
     · cases σ.stor n a (cl v) <;> rfl
     · rfl
def strV (σ : St) (x : AO) : Option (List UInt8) := match σ.ev x with
 | some (.str s) => some s
 | _ => none
def s2bK (σ : St) (d : Option Nat) (K : St → Prop) (s : List UInt8) : Prop := rqK (s.length ≤ 140737488355328) K (σ.put d (.seq 1 (bytesV s)))
theorem s2bK_app {s : List UInt8} : s2bK σ d K s = rqK (s.length ≤ 140737488355328) K (σ.put d (.seq 1 (bytesV s))) := propext Iff.rfl
theorem a_s2b {x} : wact Φ d (.s2b x) K σ = oM (strV σ x) (s2bK σ d K) := by
 simp only [wact, strV, oM]
 cases σ.ev x with
 | none => rfl
 | some v => cases v <;> rfl
def litK (σ : St) (d : Option Nat) (sz : Nat) (K : St → Prop) (vs us : List V) : Prop := rqK (sameLen sz us = true ∧ us.length ≤ 16777216) K ((σ.kill (vidss vs)).put d (.seq sz us))
theorem litK_app {sz : Nat} {vs us : List V} : litK σ d sz K vs us = rqK (sameLen sz us = true ∧ us.length ≤ 16777216) K ((σ.kill (vidss vs)).put d (.seq sz us)) := propext Iff.rfl
def litKK (σ : St) (d : Option Nat) (sz : Nat) (K : St → Prop) (vs : List V) : Prop := oM (purs σ.h vs) (litK σ d sz K vs)
theorem litKK_app {sz : Nat} {vs : List V} : litKK σ d sz K vs = oM (purs σ.h vs) (litK σ d sz K vs) := propext Iff.rfl
theorem a_lit {e sz xs} : wact Φ d (.lit e sz xs) K σ = oM (σ.evs xs) (litKK σ d sz K) := by
 simp only [wact, oM]
 cases σ.evs xs with
 | none => rfl
 | some vs =>
   simp only [litKK, oM]
   cases purs σ.h vs with
   | none => rfl
   | some us => simp only [litK, rqK, and_assoc]
def litDK (σ : St) (d : Option Nat) (sz : Nat) (K : St → Prop) (us : List V) : Prop := rqK (sameLen sz us = true ∧ us.length ≤ 16777216) K (σ.put d (.seq sz us))
theorem litDK_app {sz : Nat} {us : List V} : litDK σ d sz K us = rqK (sameLen sz us = true ∧ us.length ≤ 16777216) K (σ.put d (.seq sz us)) := propext Iff.rfl
def litDKK (σ : St) (d : Option Nat) (sz : Nat) (K : St → Prop) (vs : List V) : Prop := oM (purs [] vs) (litDK σ d sz K)
theorem litDKK_app {sz : Nat} {vs : List V} : litDKK σ d sz K vs = oM (purs [] vs) (litDK σ d sz K) := propext Iff.rfl
theorem aD_lit {e sz xs} : wactD Φ d (.lit e sz xs) K σ = oM (σ.evs xs) (litDKK σ d sz K) := by
 simp only [wactD, oM]
 cases σ.evs xs with
 | none => rfl
 | some vs =>
   simp only [litDKK, oM]
   cases purs [] vs with
   | none => rfl
   | some us => simp only [litDK, rqK, and_assoc]
def appV (σ : St) (x y : AO) (e sz by' : Nat) : Option (St × V × Nat) := match σ.ev x, σ.ev y with
    | some u, some v => match src σ.h v with
      | some (.seq sz' l) => if sz' = sz then
        (match u with
        | .nil _ => some ({ σ with h := σ.h ++ [some (Ob.arr e sz l)] }, .ref σ.h.length l.length, l.length * by')
        | .ref id n => match σ.arr? id with
          | some (e', sz', l0) => if e' = e ∧ sz' = sz ∧ n = l0.length then
            some ({ σ with h := σ.h.set id (some (Ob.arr e sz (l0 ++ l))) }, .ref id (n + l.length), (n + l.length) * by') else none
          | none => none
        | .mref id i n => match σ.rws? id with
          | some (e1, e2, sz2, rows) => match rowAt rows i with
            | some r => if e2 = e ∧ sz2 = sz ∧ n = r.length then
              some ({ σ with h := σ.h.set id (some (Ob.mat e1 e2 sz2 (rows.set i (.g r.length)))) ++ [some (Ob.arr e sz (r ++ l))] }, .ref σ.h.length (n + l.length), (n + l.length) * by') else none
            | none => none
          | none => none
        | _ => none) else none
      | _ => none
    | _, _ => none
def appK (d : Option Nat) (K : St → Prop) (p : St × V × Nat) : Prop := rqK (p.2.2 ≤ 140737488355328) K (p.1.put d p.2.1)
theorem appK_app {τ : St} {v : V} {n : Nat} : appK d K (τ, v, n) = rqK (n ≤ 140737488355328) K (τ.put d v) := propext Iff.rfl
theorem a_app1 {x y e sz by'} (h : oM (appV σ x y e sz by') (appK d K)) : wact Φ d (.app x y e sz by') K σ := by
 simp only [wact, appV] at h ⊢
 cases hx : σ.ev x with
 | none => simp only [hx] at h; exact h
 | some u => cases hy : σ.ev y with
   | none => simp only [hx, hy] at h; exact h
   | some v =>
     simp only [hx, hy] at h ⊢
     cases hp : src σ.h v with
     | none => simp only [hp] at h; exact h
     | some w =>
       cases w <;> simp only [hp] at h <;> try exact h
       rename_i sz' l
       split at h
       · rename_i hs
         refine ⟨hs, ?_⟩
         cases u <;> simp only at h <;> try exact h
         · rename_i id n
           cases ha : σ.arr? id with
           | none => simp only [ha] at h; exact False.elim h
           | some p =>
             obtain ⟨e', sz2, l0⟩ := p
             simp only [ha] at h ⊢
             split at h
             · rename_i hc; exact ⟨hc.1, hc.2.1, hc.2.2, h.1, h.2⟩
             · exact h.elim
         · rename_i id i n
           cases ha : σ.rws? id with
           | none => simp only [ha] at h; exact False.elim h
           | some p =>
             obtain ⟨e', e2', sz2, rows⟩ := p
             simp only [ha] at h ⊢
             cases hr : rowAt rows i with
             | none => simp only [hr] at h; exact False.elim h
             | some r =>
               simp only [hr] at h ⊢
               split at h
               · rename_i hc; exact ⟨hc.1, hc.2.1, hc.2.2, h.1, h.2⟩
               · exact h.elim
       · exact h.elim
theorem a_app {x y e sz by'} : wact Φ d (.app x y e sz by') K σ = oM (appV σ x y e sz by') (appK d K) := by
 refine propext ⟨fun h => ?_, a_app1⟩
 simp only [wact] at h
 split at h
 · rename_i u v hu hv
   split at h
   · rename_i sz' l hl
     obtain ⟨h0, h⟩ := h
     subst h0
     split at h
     · simp only [appV, hu, hv, hl]; exact h
     · rename_i id n
       split at h
       · rename_i e' sz2 l0 ha
         obtain ⟨h1, h2, h3, h4, h5⟩ := h
         simp only [appV, hu, hv, hl, ha, h1, h2, h3, and_self, if_true]
         exact ⟨by rw [h3] at h4; exact h4, by rw [h3] at h5; exact h5⟩
       · exact h.elim
     · rename_i id i n
       split at h
       · rename_i e1 e2 sz2 rows ha
         split at h
         · rename_i r hr
           obtain ⟨rfl, rfl, rfl, h4, h5⟩ := h
           simp only [appV, hu, hv, hl, ha, hr, and_self, if_true]
           exact ⟨h4, h5⟩
         · exact h.elim
       · exact h.elim
     · exact h.elim
   · exact h.elim
 · exact h.elim
def mksV (σ : St) (n : AO) : Option Int := match σ.ev n with
 | some (.int _ m) => some m
 | _ => none
def mksK (σ : St) (d : Option Nat) (e sz by' : Nat) (z : V) (K : St → Prop) (m : Int) : Prop :=
 rqK (0 ≤ m ∧ m * by' ≤ 140737488355328) K ({ σ with h := σ.h ++ [some (Ob.arr e sz (List.replicate m.toNat z))] }.put d (.ref σ.h.length m.toNat))
theorem mksK_app {e sz by' z} {m : Int} : mksK σ d e sz by' z K m =
 rqK (0 ≤ m ∧ m * by' ≤ 140737488355328) K ({ σ with h := σ.h ++ [some (Ob.arr e sz (List.replicate m.toNat z))] }.put d (.ref σ.h.length m.toNat)) := propext Iff.rfl
theorem a_mks {e sz by' z n} : wact Φ d (.mks e sz by' z n) K σ = oM (mksV σ n) (mksK σ d e sz by' z K) := by
 simp only [wact, mksV, oM]
 cases σ.ev n with
 | none => rfl
 | some v => cases v <;> first | rfl | simp only [mksK, rqK, and_assoc]
def sm (l : List (List V)) : List Rw := l.map .a
theorem sm_len {l : List (List V)} : (sm l).length = l.length := by simp [sm]
theorem sm_rowAt {l : List (List V)} {i : Nat} : rowAt (sm l) i = l[i]? := by
 unfold rowAt sm
 rw [List.getElem?_map]
 cases l[i]? <;> rfl
theorem sm_allRows {sz : Nat} : ∀ {l : List (List V)}, allRows sz (sm l) = some (l.map (.seq sz))
 | [] => rfl
 | r :: l => by
   have := sm_allRows (sz := sz) (l := l)
   simp only [sm] at this
   simp [sm, allRows, this]
theorem sm_set {l : List (List V)} {i : Nat} {r : List V} : (sm l).set i (.a r) = sm (l.set i r) := by simp [sm]
theorem sm_rowLen {l : List (List V)} {i : Nat} : rowLen (sm l) i = (l[i]?).map List.length := by
 unfold rowLen sm
 rw [List.getElem?_map]
 cases l[i]? <;> rfl
theorem sm_took {l : List (List V)} {i k : Nat} (h : i < l.length) : rowLen ((sm l).set i (.g k)) i = some k := by
 unfold rowLen
 rw [List.getElem?_set_self (by simpa [sm] using h)]
theorem sm_back {l : List (List V)} {i k : Nat} {r : List V} : ((sm l).set i (.g k)).set i (.a r) = sm (l.set i r) := by rw [List.set_set, sm_set]
theorem sm_flat : ∀ {l : List (List V)}, flatR (sm l) = l.all fun r => flats r
 | [] => rfl
 | r :: l => by
   have := sm_flat (l := l)
   simp only [sm] at this
   simp [sm, flatR, this]
def mkmK (σ : St) (d : Option Nat) (e by' e2 sz : Nat) (K : St → Prop) (m : Int) : Prop :=
 rqK (0 ≤ m ∧ m * by' ≤ 140737488355328) K ({ σ with h := σ.h ++ [some (Ob.mat e e2 sz (List.replicate m.toNat (.a [])))] }.put d (.ref σ.h.length m.toNat))
theorem mkmK_app {e by' e2 sz} {m : Int} : mkmK σ d e by' e2 sz K m =
 rqK (0 ≤ m ∧ m * by' ≤ 140737488355328) K ({ σ with h := σ.h ++ [some (Ob.mat e e2 sz (sm (List.replicate m.toNat [])))] }.put d (.ref σ.h.length m.toNat)) := by simp [mkmK, sm]
def mk0K (σ : St) (d : Option Nat) (e sz by' : Nat) (K : St → Prop) (m : Int) : Prop :=
 rqK (0 ≤ m ∧ m * by' ≤ 140737488355328) K ({ σ with h := σ.h ++ [some (Ob.arr e sz [])] }.put d (.ref σ.h.length 0))
theorem mk0K_app {e sz by'} {m : Int} : mk0K σ d e sz by' K m =
 rqK (0 ≤ m ∧ m * by' ≤ 140737488355328) K ({ σ with h := σ.h ++ [some (Ob.arr e sz [])] }.put d (.ref σ.h.length 0)) := propext Iff.rfl
theorem a_mk0 {e sz by' n} : wact Φ d (.mk0 e sz by' n) K σ = oM (mksV σ n) (mk0K σ d e sz by' K) := by
 simp only [wact, mksV, oM]
 cases σ.ev n with
 | none => rfl
 | some v => cases v <;> first | rfl | simp only [mk0K, rqK, and_assoc]
theorem a_mkm {e by' e2 sz n} : wact Φ d (.mkm e by' e2 sz n) K σ = oM (mksV σ n) (mkmK σ d e by' e2 sz K) := by
 simp only [wact, mksV, oM]
 cases σ.ev n with
 | none => rfl
 | some v => cases v <;> first | rfl | simp only [mkmK, rqK, and_assoc]
theorem a_mkp {kt} : wact Φ d (.mkp kt) K σ = K ({ σ with h := σ.h ++ [some (Ob.mp kt [])] }.put d (.ref σ.h.length 0)) := propext Iff.rfl
theorem aD_mkp {kt} : wactD Φ d (.mkp kt) K σ = wact Φ d (.mkp kt) K σ := propext Iff.rfl
theorem aD_mup {x y z w} : wactD Φ d (.mup x y z w) K σ = wact Φ d (.mup x y z w) K σ := propext Iff.rfl
def mupV (σ : St) (kt : KT) (x k v : AO) : Option St := match σ.ev x, σ.ev k, σ.ev v with
 | some (.ref id _), some kv, some u => match σ.mp? id, pur σ.h u with
   | some (kt', l), some u' => if kt' = kt ∧ fitsK kt kv = true ∧ vids u = [] ∧ nt u' = true then some { σ with h := σ.h.set id (some (Ob.mp kt (mput kv u' l))) } else none
   | _, _ => none
 | _, _, _ => none
theorem a_mup {kt x k v} : wact Φ d (.mup kt x k v) K σ = oM (mupV σ kt x k v) (skK d K) := by
 simp only [wact, mupV]
 cases σ.ev x with
 | none => rfl
 | some a =>
   cases σ.ev k with
   | none => cases a <;> rfl
   | some b =>
     cases σ.ev v with
     | none => cases a <;> rfl
     | some c =>
       cases a <;> try rfl
       rename_i id n
       simp only
       cases σ.mp? id with
       | none => rfl
       | some p =>
         obtain ⟨kt', l⟩ := p
         cases pur σ.h c with
         | none => rfl
         | some u' =>
           simp only
           by_cases hc : kt' = kt ∧ fitsK kt b = true ∧ vids c = [] ∧ nt u' = true
           · rw [if_pos hc]
             exact propext ⟨fun h => h.2.2.2.2, fun h => ⟨hc.1, hc.2.1, hc.2.2.1, hc.2.2.2, h⟩⟩
           · rw [if_neg hc]
             exact propext ⟨fun h => (hc ⟨h.1, h.2.1, h.2.2.1, h.2.2.2.1⟩).elim, fun h => h.elim⟩
theorem fitsK_int {k : IntKind} {n : Int} : fitsK ⟨false, [.i k]⟩ (.int k n) = true := by simp [fitsK, aggV, cl, kOfs, kOf, somes]
theorem fitsK_str {s : List UInt8} : fitsK ⟨false, [.s]⟩ (.str s) = true := by simp [fitsK, aggV, cl, kOfs, kOf, somes]
def clK (Φ : Ctr) (d : Option Nat) (f : FuncId) (vs : List V) (σ : St) (K : St → Prop) (us : List V) : Prop := wcall Φ d f vs us K σ
def clKK (Φ : Ctr) (d : Option Nat) (f : FuncId) (σ : St) (K : St → Prop) (vs : List V) : Prop := oN (purs σ.h vs) (clK Φ d f vs σ K) (wcallH Φ d f vs K σ)
theorem clK_app {f vs us} : clK Φ d f vs σ K us = wcall Φ d f vs us K σ := propext Iff.rfl
theorem clKK_app {f vs} : clKK Φ d f σ K vs = oN (purs σ.h vs) (clK Φ d f vs σ K) (wcallH Φ d f vs K σ) := propext Iff.rfl
theorem a_call {f xs} : wact Φ d (.call f xs) K σ = oM (σ.evs xs) (clKK Φ d f σ K) := by
 simp only [wact, oM]
 cases σ.evs xs with
 | none => rfl
 | some vs => simp only [clKK, oN]; cases purs σ.h vs <;> rfl
def chK (Φ : Ctr) (d : Option Nat) (f : FuncId) (σ : St) (K : St → Prop) (vs : List V) : Prop := wcallH Φ d f vs K σ
theorem chK_app {f vs} : chK Φ d f σ K vs = wcallH Φ d f vs K σ := propext Iff.rfl
theorem a_callH {f xs} : wact Φ d (.callH f xs) K σ = oM (σ.evs xs) (chK Φ d f σ K) := by
 simp only [wact, oM]
 cases σ.evs xs <;> rfl
def yldV (σ : St) (g : AO) (xs : List AO) : Option (V × List V × List V × St × Bool) := match σ.ev g, σ.evs xs with
 | some (.ref id _), some vs => match σ.gh? id, purs σ.h vs with
   | some ((v, b) :: l), some us => some (v, us, vs, { σ with h := σ.h.set id (some (Ob.gh l)) }, b)
   | _, _ => none
 | _, _ => none
def yldK (d : Option Nat) (K : St → Prop) (p : V × List V × List V × St × Bool) : Prop := p.1 = .tup p.2.1 ∧ vidss p.2.2.1 = [] ∧ K (p.2.2.2.1.put d (.bool p.2.2.2.2))
theorem yldK_app {v : V} {us vs : List V} {τ : St} {b : Bool} : yldK d K (v, us, vs, τ, b) = (v = .tup us ∧ vidss vs = [] ∧ K (τ.put d (.bool b))) := propext Iff.rfl
theorem a_yld {g xs} : wact Φ d (.yld g xs) K σ = oM (yldV σ g xs) (yldK d K) := by
 simp only [wact, yldV]
 cases σ.ev g with
 | none => rfl
 | some u =>
   cases σ.evs xs with
   | none => cases u <;> rfl
   | some vs =>
     cases u <;> try rfl
     rename_i id n
     simp only
     cases σ.gh? id with
     | none => rfl
     | some l =>
       cases l with
       | nil => rfl
       | cons x l =>
         obtain ⟨v, b⟩ := x
         cases purs σ.h vs <;> rfl
theorem aD_yld {g xs} : wactD Φ d (.yld g xs) K σ = wact Φ d (.yld g xs) K σ := propext Iff.rfl
def clDK (Φ : Ctr) (d : Option Nat) (f : FuncId) (vs : List V) (σ : St) (K : St → Prop) (us : List V) : Prop := wcallD Φ d f vs us K σ
def clDKK (Φ : Ctr) (d : Option Nat) (f : FuncId) (σ : St) (K : St → Prop) (vs : List V) : Prop := oM (purs σ.h vs) (clDK Φ d f vs σ K)
theorem clDK_app {f vs us} : clDK Φ d f vs σ K us = wcallD Φ d f vs us K σ := propext Iff.rfl
theorem clDKK_app {f vs} : clDKK Φ d f σ K vs = oM (purs σ.h vs) (clDK Φ d f vs σ K) := propext Iff.rfl
theorem aD_call {f xs} : wactD Φ d (.call f xs) K σ = oM (σ.evs xs) (clDKK Φ d f σ K) := by
 simp only [wactD, oM]
 cases σ.evs xs with
 | none => rfl
 | some vs => simp only [clDKK, oM]; cases purs σ.h vs <;> rfl
def fnV (σ : St) (g : AO) (xs : List AO) : Option (FuncId × List V) := match σ.ev g, σ.evs xs with
 | some (.fn (.func f) a b), some vs => some (f, a ++ vs ++ b)
 | _, _ => none
def cvK (Φ : Ctr) (d : Option Nat) (σ : St) (K : St → Prop) (p : FuncId × List V) : Prop := oN (purs σ.h p.2) (clK Φ d p.1 p.2 σ K) (wcallH Φ d p.1 p.2 K σ)
def invV (σ : St) (tbl : List (Nat × FuncId)) (x : AO) (xs : List AO) : Option (FuncId × List V) := match σ.ev x, σ.evs xs with
 | some (.iface t v), some vs => match lkF tbl t with
   | some f => some (f, v :: vs)
   | none => none
 | _, _ => none
theorem a_inv {tbl x xs} : wact Φ d (.inv tbl x xs) K σ = oM (invV σ tbl x xs) (cvK Φ d σ K) := by
 simp only [wact, invV]
 cases σ.ev x with
 | none => rfl
 | some a =>
   cases σ.evs xs with
   | none => cases a <;> rfl
   | some vs =>
     cases a <;> try rfl
     rename_i t v
     simp only
     cases lkF tbl t with
     | none => rfl
     | some f => simp only [oM, cvK, oN]; cases purs σ.h (v :: vs) <;> rfl
theorem cvK_app {f vs} : cvK Φ d σ K (f, vs) = oN (purs σ.h vs) (clK Φ d f vs σ K) (wcallH Φ d f vs K σ) := propext Iff.rfl
theorem a_callv {g xs} : wact Φ d (.callv g xs) K σ = oM (fnV σ g xs) (cvK Φ d σ K) := by
 simp only [wact, fnV, oM]
 cases σ.ev g with
 | none => rfl
 | some v =>
   cases v with
   | fn f a b =>
     cases f <;> cases σ.evs xs <;> try rfl
     rename_i vs
     simp only [cvK, oN]
     cases purs σ.h (a ++ vs ++ b) <;> rfl
   | _ => rfl
def cvDK (Φ : Ctr) (d : Option Nat) (σ : St) (K : St → Prop) (p : FuncId × List V) : Prop := oM (purs σ.h p.2) (clDK Φ d p.1 p.2 σ K)
theorem cvDK_app {f vs} : cvDK Φ d σ K (f, vs) = oM (purs σ.h vs) (clDK Φ d f vs σ K) := propext Iff.rfl
theorem aD_callv {g xs} : wactD Φ d (.callv g xs) K σ = oM (fnV σ g xs) (cvDK Φ d σ K) := by
 simp only [wactD, fnV, oM]
 cases σ.ev g with
 | none => rfl
 | some v =>
   cases v with
   | fn f a b =>
     cases f <;> cases σ.evs xs <;> try rfl
     rename_i vs
     simp only [cvDK, oM]
     cases purs σ.h (a ++ vs ++ b) <;> rfl
   | _ => rfl
end
def resK (post : V → Prop) (us : List V) : Prop := post (tupV us)
theorem resK_app {post : V → Prop} {us : List V} : resK post us = post (tupV us) := propext Iff.rfl
def resKK (post : V → Prop) (σ : St) (vs : List V) : Prop := oM (purs σ.h vs) (resK post)
theorem resKK_app {post : V → Prop} {σ : St} {vs : List V} : resKK post σ vs = oM (purs σ.h vs) (resK post) := propext Iff.rfl
theorem Res_norm {rs : List RV} {post : V → Prop} {σ : St} : Res rs post .norm σ = oM (σ.rvs rs) (resKK post σ) := by
 unfold Res resKK oM
 cases σ.rvs rs with
 | none => simp
 | some vs => simp only; cases purs σ.h vs <;> simp [resK]
theorem Res_ret {rs : List RV} {post : V → Prop} {σ : St} : Res rs post .ret σ = oM (σ.rvs rs) (resKK post σ) := by
 unfold Res resKK oM
 cases σ.rvs rs with
 | none => simp
 | some vs => simp only; cases purs σ.h vs <;> simp [resK]
def resHK (σ : St) (ps : List Nat) (us : List V) (r : V) (H' : List (Option Ob)) (vs : List V) : Prop := resHM σ ps us r H' vs (lent σ.h (pvals (pk σ.r ps)) vs).2
theorem resHK_app {σ : St} {ps : List Nat} {us : List V} {r : V} {H' : List (Option Ob)} {vs : List V} : resHK σ ps us r H' vs = resHM σ ps us r H' vs (lent σ.h (pvals (pk σ.r ps)) vs).2 := propext Iff.rfl
theorem ResH_norm {rs : List RV} {σ : St} {ps : List Nat} {us : List V} {r : V} {H' : List (Option Ob)} : ResH rs ps us r H' .norm σ = oM (σ.rvs rs) (resHK σ ps us r H') := by
 unfold ResH oM
 cases σ.rvs rs <;> simp [resHK]
theorem ResH_ret {rs : List RV} {σ : St} {ps : List Nat} {us : List V} {r : V} {H' : List (Option Ob)} : ResH rs ps us r H' .ret σ = oM (σ.rvs rs) (resHK σ ps us r H') := by
 unfold ResH oM
 cases σ.rvs rs <;> simp [resHK]
section
variable {Φ : Ctr} {σ : St} {K : St → Prop} {d : Option Nat}
def hEnd (σ : St) (d : Option Nat) (K : St → Prop) (q : Nat) (m : List Nat) (r : V) (H' : List (Option Ob)) : Prop := K (St.put ⟨σ.r, σ.back q m H'⟩ d (bck (dest q m σ.h.length H'.length) r))
theorem hEnd_app {q : Nat} {m : List Nat} {r : V} {H' : List (Option Ob)} : hEnd σ d K q m r H' = K (St.put ⟨σ.r, σ.back q m H'⟩ d (bck (dest q m σ.h.length H'.length) r)) := propext Iff.rfl
theorem wcallH_mk (ps : List Nat) (q : Nat) (m : List Nat) {f : FuncId} {vs us : List V} {H H' : List (Option Ob)} {r : V} (hc : σ.curs (pickV vs ps) = true) (hl : lent σ.h (pickV vs ps) vs = (q, m)) (hu : rens m vs = us) (hH : renH σ.h m m = H)
 (h : Φ.e f ps us H r H') (hk : kin q H H' = true) (k : ok r → okH H' → hEnd σ d K q m r H') : wcallH Φ d f vs K σ := by
 refine ⟨ps, hc, r, H', ?_, ?_, ?_⟩
 · rw [hl, hH]; exact hk
 · rw [hl, hu, hH]; exact h
 · rw [hl]; exact k
end
def resNK (r : V) (us : List V) : Prop := tupV us = r
theorem resNK_app {r : V} {us : List V} : resNK r us = (tupV us = r) := propext Iff.rfl
def resNKK (r : V) (σ : St) (vs : List V) : Prop := fres σ.h vs = true ∧ oM (purs σ.h vs) (resNK r)
theorem resNKK_app {r : V} {σ : St} {vs : List V} : resNKK r σ vs = (fres σ.h vs = true ∧ oM (purs σ.h vs) (resNK r)) := propext Iff.rfl
theorem ResN_norm {rs : List RV} {r : V} {σ : St} : ResN rs r .norm σ = oM (σ.rvs rs) (resNKK r σ) := by
 unfold ResN resNKK oM
 cases σ.rvs rs with
 | none => simp
 | some vs => simp only; cases purs σ.h vs <;> simp [resNK]
theorem ResN_ret {rs : List RV} {r : V} {σ : St} : ResN rs r .ret σ = oM (σ.rvs rs) (resNKK r σ) := by
 unfold ResN resNKK oM
 cases σ.rvs rs with
 | none => simp
 | some vs => simp only; cases purs σ.h vs <;> simp [resNK]
theorem tupV0 : tupV [] = .tup [] := rfl
theorem tupV1 {v : V} : tupV [v] = v := rfl
theorem tupV2 {v w : V} {l : List V} : tupV (v :: w :: l) = .tup (v :: w :: l) := rfl

attribute [simp] wtree_nil wtree_op wtree_both nrmK_app W_regF' W_label W_goto then_goto inBlock_goto jump_norm jump_ret jump_exit jump_goto W_skip W_reg' W_regD' W_regE' W_seq' W_block W_exit W_ret W_cond' then_norm then_exit then_ret inBlock_norm inBlock_ret inBlock_exit
 BrK_true BrK_false BrK_t BrK_f BrK_n rqK_t rqK_true oM_some oM_none cM_bool gM_true gM_false gM_tup clsK_app skK_app putK_app wops_nil wops_cons wop_n wop_g wopsD_nil wopsD_cons wopD_n wopD_g wall_nil wall_cons
 boxK_app s2bK_app litK_app litKK_app litDK_app litDKK_app appK_app mksK_app mk0K_app mkmK_app sm_len sm_rowAt sm_rowLen sm_took sm_back sm_allRows sm_set sm_flat a_mkm a_yld aD_yld yldK_app a_mkp aD_mkp aD_mup a_mup a_inv fitsK_int fitsK_str clK_app clKK_app clDK_app clDKK_app cvK_app cvDK_app resK_app resKK_app oN_some oN_none chK_app fz fzs a_callH resHK_app ResH_norm ResH_ret hEnd_app resNK_app resNKK_app ResN_norm ResN_ret jk jks fre fres
 a_mov a_pick a_fld a_fa a_ia a_iaa a_ld a_ixs a_ixa a_bin a_un a_cii a_b2s a_sls a_slq a_lens a_lenq a_beq a_ext a_bld a_mkf a_nlc a_mki a_aeq a_lkp a_mm a_nlq aD_mov aD_pick aD_fld aD_fa aD_ia aD_iaa aD_ld aD_ixs aD_ixa aD_bin aD_un aD_cii aD_b2s aD_sls aD_slq aD_lens aD_lenq aD_beq aD_ext aD_bld aD_mkf aD_nlc aD_mki aD_aeq aD_lkp aD_mm aD_nlq aD_alc aD_box aD_st aD_app aD_mks aD_mk0 aD_mkm aD_s2b
 a_alc a_box a_st a_s2b a_lit a_app a_mks a_mk0 a_call a_callv aD_lit aD_call aD_callv
 boxV stV strV appV mksV fnV mupV invV yldV St.gh? lkF Res_norm Res_ret tupV0 tupV1 tupV2
 St.ev St.evs St.evo St.val St.put lk pk St.fetch St.box? St.arr? St.rws? St.mp? cut splice cl mkc vbin vstr
 St.live St.fwd St.stor St.storM St.kill bldV isS nt flat flats vids vidss pur purs pur1 pur2 src flatR sliceV sameLen ofBytesV memb
 St.nrm rids hids renR ren rens renH renO uniq idx St.mats St.mat ent St.rv St.rvs ok oks okH pickV St.cur St.curA St.cur0 St.curs lent bck bcks bckO bckH wr dest St.back resHM pvals pinEq kin
theorem wrap64 (n : Int) (h1 : -9223372036854775808 ≤ n) (h2 : n ≤ 9223372036854775807) : IntKind.i64.wrap n = n := by
 rw [Go.IntKind.wrap_i64]; omega
theorem max64 : IntKind.i64.max = 9223372036854775807 := by decide
theorem min64 : IntKind.i64.min = -9223372036854775808 := by decide
theorem maxU8 : IntKind.u8.max = 255 := by decide
theorem minU8 : IntKind.u8.min = 0 := by decide
theorem wrapU8 (n : Int) (h1 : 0 ≤ n) (h2 : n ≤ 255) : IntKind.u8.wrap n = n := by
 rw [Go.IntKind.wrap_u8]; omega
theorem wrapI32 (n : Int) (h1 : -2147483648 ≤ n) (h2 : n ≤ 2147483647) : IntKind.i32.wrap n = n := by
 rw [Go.IntKind.wrap_i32]; omega
theorem vadd64 {a b : Int} (h1 : -9223372036854775808 ≤ a + b) (h2 : a + b ≤ 9223372036854775807) : vint .add .i64 a b = some (.int .i64 (a + b)) := by simp only [vint, wrap64 _ h1 h2]
theorem vsub64 {a b : Int} (h1 : -9223372036854775808 ≤ a - b) (h2 : a - b ≤ 9223372036854775807) : vint .sub .i64 a b = some (.int .i64 (a - b)) := by simp only [vint, wrap64 _ h1 h2]
theorem vmul64 {a b : Int} (h1 : -9223372036854775808 ≤ a * b) (h2 : a * b ≤ 9223372036854775807) : vint .mul .i64 a b = some (.int .i64 (a * b)) := by simp only [vint, wrap64 _ h1 h2]
theorem vadd8 {a b : Int} (h1 : 0 ≤ a + b) (h2 : a + b ≤ 255) : vint .add .u8 a b = some (.int .u8 (a + b)) := by simp only [vint, wrapU8 _ h1 h2]
theorem vsub8 {a b : Int} (h1 : 0 ≤ a - b) (h2 : a - b ≤ 255) : vint .sub .u8 a b = some (.int .u8 (a - b)) := by simp only [vint, wrapU8 _ h1 h2]
theorem vadd32 {a b : Int} (h1 : -2147483648 ≤ a + b) (h2 : a + b ≤ 2147483647) : vint .add .i32 a b = some (.int .i32 (a + b)) := by simp only [vint, wrapI32 _ h1 h2]
theorem vsub32 {a b : Int} (h1 : -2147483648 ≤ a - b) (h2 : a - b ≤ 2147483647) : vint .sub .i32 a b = some (.int .i32 (a - b)) := by simp only [vint, wrapI32 _ h1 h2]
theorem vmul32 {a b : Int} (h1 : -2147483648 ≤ a * b) (h2 : a * b ≤ 2147483647) : vint .mul .i32 a b = some (.int .i32 (a * b)) := by simp only [vint, wrapI32 _ h1 h2]
theorem vcii64 {n : Int} (h1 : -9223372036854775808 ≤ n) (h2 : n ≤ 9223372036854775807) : vcii .i64 n = some (.int .i64 n) := by simp only [vcii, wrap64 _ h1 h2]
theorem vcii8 {n : Int} (h1 : 0 ≤ n) (h2 : n ≤ 255) : vcii .u8 n = some (.int .u8 n) := by simp only [vcii, wrapU8 _ h1 h2]
theorem vcii32 {n : Int} (h1 : -2147483648 ≤ n) (h2 : n ≤ 2147483647) : vcii .i32 n = some (.int .i32 n) := by simp only [vcii, wrapI32 _ h1 h2]
theorem vneg64 {n : Int} (h1 : -9223372036854775808 ≤ 0 - n) (h2 : 0 - n ≤ 9223372036854775807) : vun .neg (.int .i64 n) = some (.int .i64 (0 - n)) := by simp only [vun, wrap64 _ h1 h2]
attribute [simp high] vadd64 vsub64 vmul64 vadd8 vsub8 vadd32 vsub32 vmul32 vcii64 vcii8 vcii32 vneg64
theorem vquo64 {a b : Int} (h0 : 0 ≤ a) (h1 : 0 < b) (h2 : a ≤ 9223372036854775807) : vint .quo .i64 a b = some (.int .i64 (a / b)) := by
 have h3 : 0 ≤ a / b := Int.ediv_nonneg h0 (by omega)
 have h4 : a / b ≤ a := Int.ediv_le_self _ h0
 simp only [vint]
 rw [if_neg (by omega), Int.tdiv_eq_ediv_of_nonneg h0, wrap64 _ (by omega) (by omega)]
theorem vrem64 {k : IntKind} {a b : Int} (h0 : 0 ≤ a) (h1 : 0 < b) : vint .rem k a b = some (.int k (a % b)) := by
 simp only [vint]
 rw [if_neg (by omega), Int.tmod_eq_emod_of_nonneg h0]
theorem vremt {k : IntKind} {a b : Int} (h1 : b ≠ 0) : vint .rem k a b = some (.int k (a.tmod b)) := by
 simp only [vint]
 rw [if_neg h1]
theorem veql {k : IntKind} {a b : Int} : vint .eql k a b = some (.bool (decide (a = b))) := rfl
theorem vneq {k : IntKind} {a b : Int} : vint .neq k a b = some (.bool (!decide (a = b))) := rfl
theorem vlss {k : IntKind} {a b : Int} : vint .lss k a b = some (.bool (decide (a < b))) := rfl
theorem vleq {k : IntKind} {a b : Int} : vint .leq k a b = some (.bool (decide (a ≤ b))) := rfl
theorem vgtr {k : IntKind} {a b : Int} : vint .gtr k a b = some (.bool (decide (b < a))) := rfl
theorem vgeq {k : IntKind} {a b : Int} : vint .geq k a b = some (.bool (decide (b ≤ a))) := rfl
theorem vnot {b : Bool} : vun .not (.bool b) = some (.bool !b) := rfl
attribute [simp high] vquo64 vrem64
attribute [simp] veql vneq vlss vleq vgtr vgeq vnot vremt wrap64 wrapU8 wrapI32 max64 min64 maxU8 minU8

theorem num_le (m n : Nat) : ((no_index (@OfNat.ofNat Int m instOfNat)) ≤ (n : Int)) ↔ (@OfNat.ofNat Nat m (instOfNatNat m)) ≤ n := Int.ofNat_le
theorem le_num (m n : Nat) : ((n : Int) ≤ (no_index (@OfNat.ofNat Int m instOfNat))) ↔ n ≤ (@OfNat.ofNat Nat m (instOfNatNat m)) := Int.ofNat_le
theorem num_lt (m n : Nat) : ((no_index (@OfNat.ofNat Int m instOfNat)) < (n : Int)) ↔ (@OfNat.ofNat Nat m (instOfNatNat m)) < n := Int.ofNat_lt
theorem lt_num (m n : Nat) : ((n : Int) < (no_index (@OfNat.ofNat Int m instOfNat))) ↔ n < (@OfNat.ofNat Nat m (instOfNatNat m)) := Int.ofNat_lt
theorem num_eq (m n : Nat) : ((no_index (@OfNat.ofNat Int m instOfNat)) = (n : Int)) ↔ (@OfNat.ofNat Nat m (instOfNatNat m)) = n := Int.ofNat_inj
theorem eq_num (m n : Nat) : ((n : Int) = (no_index (@OfNat.ofNat Int m instOfNat))) ↔ n = (@OfNat.ofNat Nat m (instOfNatNat m)) := Int.ofNat_inj
attribute [simp] num_le le_num num_lt lt_num num_eq eq_num

theorem get0 {α : Type} {x : α} {l : List α} : (x :: l)[0]? = some x := rfl
attribute [simp] get0

theorem ite_t {p : Prop} [Decidable p] {α : Sort _} {a b : α} (h : p) : (if p then a else b) = a := if_pos h
theorem ite_f {p : Prop} [Decidable p] {α : Sort _} {a b : α} (h : ¬p) : (if p then a else b) = b := if_neg h
attribute [simp] ite_t ite_f

theorem drop_cons {α : Type} {l : List α} {k : Nat} {x : α} (h : l[k]? = some x) : l.drop k = x :: l.drop (k + 1) := by
 obtain ⟨h1, h2⟩ := List.getElem?_eq_some_iff.1 h
 rw [List.drop_eq_getElem_cons h1, h2]
theorem get_lt {α : Type} {l : List α} {k : Nat} (h : k < l.length) : ∃ x, l[k]? = some x := ⟨_, List.getElem?_eq_getElem h⟩
theorem place {α : Type} (l : List α) (k : Nat) (h : k ≤ l.length) : (k = l.length ∧ l.drop k = []) ∨ (k < l.length ∧ ∃ x, l[k]? = some x ∧ l.drop k = x :: l.drop (k + 1)) := by
 rcases Nat.lt_or_ge k l.length with h' | h'
 · obtain ⟨x, hx⟩ := get_lt h'
   exact .inr ⟨h', x, hx, drop_cons hx⟩
 · have : k = l.length := by omega
   exact .inl ⟨this, by simp [this]⟩
def Hid (p : Prop) : Prop := p
theorem Hid.out {p : Prop} (h : Hid p) : p := h
theorem hid {p : Prop} (h : p) : Hid p := h
end Go.Abs
end
section
namespace Go.Abs
theorem Cn_p {P : Program} : (Cn P).p = Fn P := rfl
theorem Cn_n {P : Program} : (Cn P).n = FnN P := rfl
theorem Cn_e {P : Program} : (Cn P).e = FnH P := rfl
def o1 (d : Nat) (a : Act') : AOp := ⟨some d, a, none⟩
def o0 (a : Act') : AOp := ⟨none, a, none⟩
def gt (t : Nat) (o : AOp) : AOp := ⟨o.d, o.a, some (t, true)⟩
def gf (t : Nat) (o : AOp) : AOp := ⟨o.d, o.a, some (t, false)⟩
def ts : List Nat → List AO
 | [] => []
 | t :: l => .t t :: ts l
def m (d x : Nat) : AOp := ⟨some d, .mov (.t x), none⟩
def mv (d : Nat) (v : V) : AOp := ⟨some d, .mov (.v v), none⟩
def mi (d : Nat) (n : Int) : AOp := ⟨some d, .mov (.v (.int .i64 n)), none⟩
def mb (d : Nat) (b : Bool) : AOp := ⟨some d, .mov (.v (.bool b)), none⟩
def bt (d : Nat) (op : BinOp) (x y : Nat) : AOp := ⟨some d, .bin op (.t x) (.t y), none⟩
def bi (d : Nat) (op : BinOp) (x : Nat) (n : Int) : AOp := ⟨some d, .bin op (.t x) (.v (.int .i64 n)), none⟩
def bu (d : Nat) (op : BinOp) (x : Nat) (n : Int) : AOp := ⟨some d, .bin op (.t x) (.v (.int .u8 n)), none⟩
def bs (d : Nat) (op : BinOp) (x : Nat) (s : List UInt8) : AOp := ⟨some d, .bin op (.t x) (.v (.str s)), none⟩
def nt' (d x : Nat) : AOp := ⟨some d, .un .not (.t x), none⟩
def ls (d x : Nat) : AOp := ⟨some d, .lens (.t x), none⟩
def lq (d x : Nat) : AOp := ⟨some d, .lenq (.t x), none⟩
def fa (d x o : Nat) : AOp := ⟨some d, .fa (.t x) o, none⟩
def fl (d x o : Nat) : AOp := ⟨some d, .fld (.t x) o 1 false, none⟩
def l1 (d x : Nat) : AOp := ⟨some d, .ld (.t x) 1 false, none⟩
def la (d x n : Nat) : AOp := ⟨some d, .ld (.t x) n true, none⟩
def ia (d x i s : Nat) : AOp := ⟨some d, .ia (.t x) (.t i) s, none⟩
def ix (d x i : Nat) : AOp := ⟨some d, .ixs (.t x) (.t i), none⟩
def pa (d x y : Nat) : AOp := ⟨some d, .pick (.t x) (.t y) (.v (.bool false)), none⟩
def po (d x y : Nat) : AOp := ⟨some d, .pick (.t x) (.v (.bool true)) (.t y), none⟩
def ex (d x i : Nat) : AOp := ⟨some d, .ext (.t x) i, none⟩
def bx (d x : Nat) : AOp := ⟨some d, .box (.t x), none⟩
def st (n x y : Nat) : AOp := ⟨none, .st n (.t x) (.t y), none⟩
def ca (d f : Nat) (l : List Nat) : AOp := ⟨some d, .call f (ts l), none⟩
def ch (d f : Nat) (l : List Nat) : AOp := ⟨some d, .callH f (ts l), none⟩
def cv (d g : Nat) (l : List Nat) : AOp := ⟨some d, .callv (.t g) (ts l), none⟩
def Q : List AC → AC
 | [] => .skip
 | [a] => a
 | a :: l => .seq a (Q l)
def OQ : List AOp → OT → OT
 | [], t => t
 | x :: xs, t => .op x (OQ xs t)
def C (c : Nat) (a b : AC) : AC := .cond (.t c) a b
theorem OQ0 {t : OT} : OQ [] t = t := rfl
theorem OQ1 {x : AOp} {xs : List AOp} {t : OT} : OQ (x :: xs) t = .op x (OQ xs t) := rfl
attribute [simp] OQ0 OQ1
section
variable {Φ : Ctr} {K : St → Prop} {σ : St} {Q' : Ex → St → Prop}
theorem wop_o1 {d : Nat} {a : Act'} : wop Φ (o1 d a) K σ = wact Φ (some d) (a) K σ := propext Iff.rfl
theorem wopD_o1 {d : Nat} {a : Act'} : wopD Φ (o1 d a) K σ = wactD Φ (some d) (a) K σ := propext Iff.rfl
theorem wop_o0 {a : Act'} : wop Φ (o0 a) K σ = wact Φ (none) (a) K σ := propext Iff.rfl
theorem wopD_o0 {a : Act'} : wopD Φ (o0 a) K σ = wactD Φ (none) (a) K σ := propext Iff.rfl
theorem wop_m {d x : Nat} : wop Φ (m d x) K σ = wact Φ (some d) (.mov (.t x)) K σ := propext Iff.rfl
theorem wopD_m {d x : Nat} : wopD Φ (m d x) K σ = wactD Φ (some d) (.mov (.t x)) K σ := propext Iff.rfl
theorem wop_mv {d : Nat} {v : V} : wop Φ (mv d v) K σ = wact Φ (some d) (.mov (.v v)) K σ := propext Iff.rfl
theorem wopD_mv {d : Nat} {v : V} : wopD Φ (mv d v) K σ = wactD Φ (some d) (.mov (.v v)) K σ := propext Iff.rfl
theorem wop_mi {d : Nat} {n : Int} : wop Φ (mi d n) K σ = wact Φ (some d) (.mov (.v (.int .i64 n))) K σ := propext Iff.rfl
theorem wopD_mi {d : Nat} {n : Int} : wopD Φ (mi d n) K σ = wactD Φ (some d) (.mov (.v (.int .i64 n))) K σ := propext Iff.rfl
theorem wop_mb {d : Nat} {b : Bool} : wop Φ (mb d b) K σ = wact Φ (some d) (.mov (.v (.bool b))) K σ := propext Iff.rfl
theorem wopD_mb {d : Nat} {b : Bool} : wopD Φ (mb d b) K σ = wactD Φ (some d) (.mov (.v (.bool b))) K σ := propext Iff.rfl
theorem wop_bt {d : Nat} {op : BinOp} {x y : Nat} : wop Φ (bt d op x y) K σ = wact Φ (some d) (.bin op (.t x) (.t y)) K σ := propext Iff.rfl
theorem wopD_bt {d : Nat} {op : BinOp} {x y : Nat} : wopD Φ (bt d op x y) K σ = wactD Φ (some d) (.bin op (.t x) (.t y)) K σ := propext Iff.rfl
theorem wop_bi {d : Nat} {op : BinOp} {x : Nat} {n : Int} : wop Φ (bi d op x n) K σ = wact Φ (some d) (.bin op (.t x) (.v (.int .i64 n))) K σ := propext Iff.rfl
theorem wopD_bi {d : Nat} {op : BinOp} {x : Nat} {n : Int} : wopD Φ (bi d op x n) K σ = wactD Φ (some d) (.bin op (.t x) (.v (.int .i64 n))) K σ := propext Iff.rfl
theorem wop_bu {d : Nat} {op : BinOp} {x : Nat} {n : Int} : wop Φ (bu d op x n) K σ = wact Φ (some d) (.bin op (.t x) (.v (.int .u8 n))) K σ := propext Iff.rfl
theorem wopD_bu {d : Nat} {op : BinOp} {x : Nat} {n : Int} : wopD Φ (bu d op x n) K σ = wactD Φ (some d) (.bin op (.t x) (.v (.int .u8 n))) K σ := propext Iff.rfl
theorem wop_bs {d : Nat} {op : BinOp} {x : Nat} {s : List UInt8} : wop Φ (bs d op x s) K σ = wact Φ (some d) (.bin op (.t x) (.v (.str s))) K σ := propext Iff.rfl
theorem wopD_bs {d : Nat} {op : BinOp} {x : Nat} {s : List UInt8} : wopD Φ (bs d op x s) K σ = wactD Φ (some d) (.bin op (.t x) (.v (.str s))) K σ := propext Iff.rfl
theorem wop_ntp {d x : Nat} : wop Φ (nt' d x) K σ = wact Φ (some d) (.un .not (.t x)) K σ := propext Iff.rfl
theorem wopD_ntp {d x : Nat} : wopD Φ (nt' d x) K σ = wactD Φ (some d) (.un .not (.t x)) K σ := propext Iff.rfl
theorem wop_ls {d x : Nat} : wop Φ (ls d x) K σ = wact Φ (some d) (.lens (.t x)) K σ := propext Iff.rfl
theorem wopD_ls {d x : Nat} : wopD Φ (ls d x) K σ = wactD Φ (some d) (.lens (.t x)) K σ := propext Iff.rfl
theorem wop_lq {d x : Nat} : wop Φ (lq d x) K σ = wact Φ (some d) (.lenq (.t x)) K σ := propext Iff.rfl
theorem wopD_lq {d x : Nat} : wopD Φ (lq d x) K σ = wactD Φ (some d) (.lenq (.t x)) K σ := propext Iff.rfl
theorem wop_fa {d x o : Nat} : wop Φ (fa d x o) K σ = wact Φ (some d) (.fa (.t x) o) K σ := propext Iff.rfl
theorem wopD_fa {d x o : Nat} : wopD Φ (fa d x o) K σ = wactD Φ (some d) (.fa (.t x) o) K σ := propext Iff.rfl
theorem wop_fl {d x o : Nat} : wop Φ (fl d x o) K σ = wact Φ (some d) (.fld (.t x) o 1 false) K σ := propext Iff.rfl
theorem wopD_fl {d x o : Nat} : wopD Φ (fl d x o) K σ = wactD Φ (some d) (.fld (.t x) o 1 false) K σ := propext Iff.rfl
theorem wop_l1 {d x : Nat} : wop Φ (l1 d x) K σ = wact Φ (some d) (.ld (.t x) 1 false) K σ := propext Iff.rfl
theorem wopD_l1 {d x : Nat} : wopD Φ (l1 d x) K σ = wactD Φ (some d) (.ld (.t x) 1 false) K σ := propext Iff.rfl
theorem wop_la {d x n : Nat} : wop Φ (la d x n) K σ = wact Φ (some d) (.ld (.t x) n true) K σ := propext Iff.rfl
theorem wopD_la {d x n : Nat} : wopD Φ (la d x n) K σ = wactD Φ (some d) (.ld (.t x) n true) K σ := propext Iff.rfl
theorem wop_ia {d x i s : Nat} : wop Φ (ia d x i s) K σ = wact Φ (some d) (.ia (.t x) (.t i) s) K σ := propext Iff.rfl
theorem wopD_ia {d x i s : Nat} : wopD Φ (ia d x i s) K σ = wactD Φ (some d) (.ia (.t x) (.t i) s) K σ := propext Iff.rfl
theorem wop_ix {d x i : Nat} : wop Φ (ix d x i) K σ = wact Φ (some d) (.ixs (.t x) (.t i)) K σ := propext Iff.rfl
theorem wopD_ix {d x i : Nat} : wopD Φ (ix d x i) K σ = wactD Φ (some d) (.ixs (.t x) (.t i)) K σ := propext Iff.rfl
theorem wop_pa {d x y : Nat} : wop Φ (pa d x y) K σ = wact Φ (some d) (.pick (.t x) (.t y) (.v (.bool false))) K σ := propext Iff.rfl
theorem wopD_pa {d x y : Nat} : wopD Φ (pa d x y) K σ = wactD Φ (some d) (.pick (.t x) (.t y) (.v (.bool false))) K σ := propext Iff.rfl
theorem wop_po {d x y : Nat} : wop Φ (po d x y) K σ = wact Φ (some d) (.pick (.t x) (.v (.bool true)) (.t y)) K σ := propext Iff.rfl
theorem wopD_po {d x y : Nat} : wopD Φ (po d x y) K σ = wactD Φ (some d) (.pick (.t x) (.v (.bool true)) (.t y)) K σ := propext Iff.rfl
theorem wop_ex {d x i : Nat} : wop Φ (ex d x i) K σ = wact Φ (some d) (.ext (.t x) i) K σ := propext Iff.rfl
theorem wopD_ex {d x i : Nat} : wopD Φ (ex d x i) K σ = wactD Φ (some d) (.ext (.t x) i) K σ := propext Iff.rfl
theorem wop_bx {d x : Nat} : wop Φ (bx d x) K σ = wact Φ (some d) (.box (.t x)) K σ := propext Iff.rfl
theorem wopD_bx {d x : Nat} : wopD Φ (bx d x) K σ = wactD Φ (some d) (.box (.t x)) K σ := propext Iff.rfl
theorem wop_st {n x y : Nat} : wop Φ (st n x y) K σ = wact Φ (none) (.st n (.t x) (.t y)) K σ := propext Iff.rfl
theorem wopD_st {n x y : Nat} : wopD Φ (st n x y) K σ = wactD Φ (none) (.st n (.t x) (.t y)) K σ := propext Iff.rfl
theorem wop_ca {d f : Nat} {l : List Nat} : wop Φ (ca d f l) K σ = wact Φ (some d) (.call f (ts l)) K σ := propext Iff.rfl
theorem wopD_ca {d f : Nat} {l : List Nat} : wopD Φ (ca d f l) K σ = wactD Φ (some d) (.call f (ts l)) K σ := propext Iff.rfl
theorem wop_ch {d f : Nat} {l : List Nat} : wop Φ (ch d f l) K σ = wact Φ (some d) (.callH f (ts l)) K σ := propext Iff.rfl
theorem wopD_ch {d f : Nat} {l : List Nat} : wopD Φ (ch d f l) K σ = wactD Φ (some d) (.callH f (ts l)) K σ := propext Iff.rfl
theorem wop_cv {d g : Nat} {l : List Nat} : wop Φ (cv d g l) K σ = wact Φ (some d) (.callv (.t g) (ts l)) K σ := propext Iff.rfl
theorem wopD_cv {d g : Nat} {l : List Nat} : wopD Φ (cv d g l) K σ = wactD Φ (some d) (.callv (.t g) (ts l)) K σ := propext Iff.rfl
def skO (o : AOp) (K : St → Prop) (σ : St) : Prop := K (σ.put o.d (.tup []))
theorem skO_app {o : AOp} : skO o K σ = K (σ.put o.d (.tup [])) := propext Iff.rfl
def un (o : AOp) : AOp := ⟨o.d, o.a, none⟩
theorem wop_gt {t : Nat} {o : AOp} : wop Φ (gt t o) K σ = gM (lk σ.r t) true (wop Φ (un o) K) (skO o K) σ := by
 simp only [gt, wop_g]; rfl
theorem wop_gf {t : Nat} {o : AOp} : wop Φ (gf t o) K σ = gM (lk σ.r t) false (wop Φ (un o) K) (skO o K) σ := by
 simp only [gf, wop_g]; rfl
theorem wopD_gt {t : Nat} {o : AOp} : wopD Φ (gt t o) K σ = gM (lk σ.r t) true (wopD Φ (un o) K) (skO o K) σ := by
 simp only [gt, wopD_g]; rfl
theorem wopD_gf {t : Nat} {o : AOp} : wopD Φ (gf t o) K σ = gM (lk σ.r t) false (wopD Φ (un o) K) (skO o K) σ := by
 simp only [gf, wopD_g]; rfl
theorem wopu_o1 {d : Nat} {a : Act'} : wop Φ (un (o1 d a)) K σ = wact Φ (some d) (a) K σ := propext Iff.rfl
theorem wopuD_o1 {d : Nat} {a : Act'} : wopD Φ (un (o1 d a)) K σ = wactD Φ (some d) (a) K σ := propext Iff.rfl
theorem wopu_o0 {a : Act'} : wop Φ (un (o0 a)) K σ = wact Φ (none) (a) K σ := propext Iff.rfl
theorem wopuD_o0 {a : Act'} : wopD Φ (un (o0 a)) K σ = wactD Φ (none) (a) K σ := propext Iff.rfl
theorem wopu_m {d x : Nat} : wop Φ (un (m d x)) K σ = wact Φ (some d) (.mov (.t x)) K σ := propext Iff.rfl
theorem wopuD_m {d x : Nat} : wopD Φ (un (m d x)) K σ = wactD Φ (some d) (.mov (.t x)) K σ := propext Iff.rfl
theorem wopu_mv {d : Nat} {v : V} : wop Φ (un (mv d v)) K σ = wact Φ (some d) (.mov (.v v)) K σ := propext Iff.rfl
theorem wopuD_mv {d : Nat} {v : V} : wopD Φ (un (mv d v)) K σ = wactD Φ (some d) (.mov (.v v)) K σ := propext Iff.rfl
theorem wopu_mi {d : Nat} {n : Int} : wop Φ (un (mi d n)) K σ = wact Φ (some d) (.mov (.v (.int .i64 n))) K σ := propext Iff.rfl
theorem wopuD_mi {d : Nat} {n : Int} : wopD Φ (un (mi d n)) K σ = wactD Φ (some d) (.mov (.v (.int .i64 n))) K σ := propext Iff.rfl
theorem wopu_mb {d : Nat} {b : Bool} : wop Φ (un (mb d b)) K σ = wact Φ (some d) (.mov (.v (.bool b))) K σ := propext Iff.rfl
theorem wopuD_mb {d : Nat} {b : Bool} : wopD Φ (un (mb d b)) K σ = wactD Φ (some d) (.mov (.v (.bool b))) K σ := propext Iff.rfl
theorem wopu_bt {d : Nat} {op : BinOp} {x y : Nat} : wop Φ (un (bt d op x y)) K σ = wact Φ (some d) (.bin op (.t x) (.t y)) K σ := propext Iff.rfl
theorem wopuD_bt {d : Nat} {op : BinOp} {x y : Nat} : wopD Φ (un (bt d op x y)) K σ = wactD Φ (some d) (.bin op (.t x) (.t y)) K σ := propext Iff.rfl
theorem wopu_bi {d : Nat} {op : BinOp} {x : Nat} {n : Int} : wop Φ (un (bi d op x n)) K σ = wact Φ (some d) (.bin op (.t x) (.v (.int .i64 n))) K σ := propext Iff.rfl
theorem wopuD_bi {d : Nat} {op : BinOp} {x : Nat} {n : Int} : wopD Φ (un (bi d op x n)) K σ = wactD Φ (some d) (.bin op (.t x) (.v (.int .i64 n))) K σ := propext Iff.rfl
theorem wopu_bu {d : Nat} {op : BinOp} {x : Nat} {n : Int} : wop Φ (un (bu d op x n)) K σ = wact Φ (some d) (.bin op (.t x) (.v (.int .u8 n))) K σ := propext Iff.rfl
theorem wopuD_bu {d : Nat} {op : BinOp} {x : Nat} {n : Int} : wopD Φ (un (bu d op x n)) K σ = wactD Φ (some d) (.bin op (.t x) (.v (.int .u8 n))) K σ := propext Iff.rfl
theorem wopu_bs {d : Nat} {op : BinOp} {x : Nat} {s : List UInt8} : wop Φ (un (bs d op x s)) K σ = wact Φ (some d) (.bin op (.t x) (.v (.str s))) K σ := propext Iff.rfl
theorem wopuD_bs {d : Nat} {op : BinOp} {x : Nat} {s : List UInt8} : wopD Φ (un (bs d op x s)) K σ = wactD Φ (some d) (.bin op (.t x) (.v (.str s))) K σ := propext Iff.rfl
theorem wopu_ntp {d x : Nat} : wop Φ (un (nt' d x)) K σ = wact Φ (some d) (.un .not (.t x)) K σ := propext Iff.rfl
theorem wopuD_ntp {d x : Nat} : wopD Φ (un (nt' d x)) K σ = wactD Φ (some d) (.un .not (.t x)) K σ := propext Iff.rfl
theorem wopu_ls {d x : Nat} : wop Φ (un (ls d x)) K σ = wact Φ (some d) (.lens (.t x)) K σ := propext Iff.rfl
theorem wopuD_ls {d x : Nat} : wopD Φ (un (ls d x)) K σ = wactD Φ (some d) (.lens (.t x)) K σ := propext Iff.rfl
theorem wopu_lq {d x : Nat} : wop Φ (un (lq d x)) K σ = wact Φ (some d) (.lenq (.t x)) K σ := propext Iff.rfl
theorem wopuD_lq {d x : Nat} : wopD Φ (un (lq d x)) K σ = wactD Φ (some d) (.lenq (.t x)) K σ := propext Iff.rfl
theorem wopu_fa {d x o : Nat} : wop Φ (un (fa d x o)) K σ = wact Φ (some d) (.fa (.t x) o) K σ := propext Iff.rfl
theorem wopuD_fa {d x o : Nat} : wopD Φ (un (fa d x o)) K σ = wactD Φ (some d) (.fa (.t x) o) K σ := propext Iff.rfl
theorem wopu_fl {d x o : Nat} : wop Φ (un (fl d x o)) K σ = wact Φ (some d) (.fld (.t x) o 1 false) K σ := propext Iff.rfl
theorem wopuD_fl {d x o : Nat} : wopD Φ (un (fl d x o)) K σ = wactD Φ (some d) (.fld (.t x) o 1 false) K σ := propext Iff.rfl
theorem wopu_l1 {d x : Nat} : wop Φ (un (l1 d x)) K σ = wact Φ (some d) (.ld (.t x) 1 false) K σ := propext Iff.rfl
theorem wopuD_l1 {d x : Nat} : wopD Φ (un (l1 d x)) K σ = wactD Φ (some d) (.ld (.t x) 1 false) K σ := propext Iff.rfl
theorem wopu_la {d x n : Nat} : wop Φ (un (la d x n)) K σ = wact Φ (some d) (.ld (.t x) n true) K σ := propext Iff.rfl
theorem wopuD_la {d x n : Nat} : wopD Φ (un (la d x n)) K σ = wactD Φ (some d) (.ld (.t x) n true) K σ := propext Iff.rfl
theorem wopu_ia {d x i s : Nat} : wop Φ (un (ia d x i s)) K σ = wact Φ (some d) (.ia (.t x) (.t i) s) K σ := propext Iff.rfl
theorem wopuD_ia {d x i s : Nat} : wopD Φ (un (ia d x i s)) K σ = wactD Φ (some d) (.ia (.t x) (.t i) s) K σ := propext Iff.rfl
theorem wopu_ix {d x i : Nat} : wop Φ (un (ix d x i)) K σ = wact Φ (some d) (.ixs (.t x) (.t i)) K σ := propext Iff.rfl
theorem wopuD_ix {d x i : Nat} : wopD Φ (un (ix d x i)) K σ = wactD Φ (some d) (.ixs (.t x) (.t i)) K σ := propext Iff.rfl
theorem wopu_pa {d x y : Nat} : wop Φ (un (pa d x y)) K σ = wact Φ (some d) (.pick (.t x) (.t y) (.v (.bool false))) K σ := propext Iff.rfl
theorem wopuD_pa {d x y : Nat} : wopD Φ (un (pa d x y)) K σ = wactD Φ (some d) (.pick (.t x) (.t y) (.v (.bool false))) K σ := propext Iff.rfl
theorem wopu_po {d x y : Nat} : wop Φ (un (po d x y)) K σ = wact Φ (some d) (.pick (.t x) (.v (.bool true)) (.t y)) K σ := propext Iff.rfl
theorem wopuD_po {d x y : Nat} : wopD Φ (un (po d x y)) K σ = wactD Φ (some d) (.pick (.t x) (.v (.bool true)) (.t y)) K σ := propext Iff.rfl
theorem wopu_ex {d x i : Nat} : wop Φ (un (ex d x i)) K σ = wact Φ (some d) (.ext (.t x) i) K σ := propext Iff.rfl
theorem wopuD_ex {d x i : Nat} : wopD Φ (un (ex d x i)) K σ = wactD Φ (some d) (.ext (.t x) i) K σ := propext Iff.rfl
theorem wopu_bx {d x : Nat} : wop Φ (un (bx d x)) K σ = wact Φ (some d) (.box (.t x)) K σ := propext Iff.rfl
theorem wopuD_bx {d x : Nat} : wopD Φ (un (bx d x)) K σ = wactD Φ (some d) (.box (.t x)) K σ := propext Iff.rfl
theorem wopu_st {n x y : Nat} : wop Φ (un (st n x y)) K σ = wact Φ (none) (.st n (.t x) (.t y)) K σ := propext Iff.rfl
theorem wopuD_st {n x y : Nat} : wopD Φ (un (st n x y)) K σ = wactD Φ (none) (.st n (.t x) (.t y)) K σ := propext Iff.rfl
theorem wopu_ca {d f : Nat} {l : List Nat} : wop Φ (un (ca d f l)) K σ = wact Φ (some d) (.call f (ts l)) K σ := propext Iff.rfl
theorem wopuD_ca {d f : Nat} {l : List Nat} : wopD Φ (un (ca d f l)) K σ = wactD Φ (some d) (.call f (ts l)) K σ := propext Iff.rfl
theorem wopu_ch {d f : Nat} {l : List Nat} : wop Φ (un (ch d f l)) K σ = wact Φ (some d) (.callH f (ts l)) K σ := propext Iff.rfl
theorem wopuD_ch {d f : Nat} {l : List Nat} : wopD Φ (un (ch d f l)) K σ = wactD Φ (some d) (.callH f (ts l)) K σ := propext Iff.rfl
theorem wopu_cv {d g : Nat} {l : List Nat} : wop Φ (un (cv d g l)) K σ = wact Φ (some d) (.callv (.t g) (ts l)) K σ := propext Iff.rfl
theorem wopuD_cv {d g : Nat} {l : List Nat} : wopD Φ (un (cv d g l)) K σ = wactD Φ (some d) (.callv (.t g) (ts l)) K σ := propext Iff.rfl
theorem d_o1 {d : Nat} {a : Act'} : (o1 d a).d = some d := rfl
theorem d_o0 {a : Act'} : (o0 a).d = none := rfl
theorem d_m {d x : Nat} : (m d x).d = some d := rfl
theorem d_mv {d : Nat} {v : V} : (mv d v).d = some d := rfl
theorem d_mi {d : Nat} {n : Int} : (mi d n).d = some d := rfl
theorem d_mb {d : Nat} {b : Bool} : (mb d b).d = some d := rfl
theorem d_bt {d : Nat} {op : BinOp} {x y : Nat} : (bt d op x y).d = some d := rfl
theorem d_bi {d : Nat} {op : BinOp} {x : Nat} {n : Int} : (bi d op x n).d = some d := rfl
theorem d_bu {d : Nat} {op : BinOp} {x : Nat} {n : Int} : (bu d op x n).d = some d := rfl
theorem d_bs {d : Nat} {op : BinOp} {x : Nat} {s : List UInt8} : (bs d op x s).d = some d := rfl
theorem d_ntp {d x : Nat} : (nt' d x).d = some d := rfl
theorem d_ls {d x : Nat} : (ls d x).d = some d := rfl
theorem d_lq {d x : Nat} : (lq d x).d = some d := rfl
theorem d_fa {d x o : Nat} : (fa d x o).d = some d := rfl
theorem d_fl {d x o : Nat} : (fl d x o).d = some d := rfl
theorem d_l1 {d x : Nat} : (l1 d x).d = some d := rfl
theorem d_la {d x n : Nat} : (la d x n).d = some d := rfl
theorem d_ia {d x i s : Nat} : (ia d x i s).d = some d := rfl
theorem d_ix {d x i : Nat} : (ix d x i).d = some d := rfl
theorem d_pa {d x y : Nat} : (pa d x y).d = some d := rfl
theorem d_po {d x y : Nat} : (po d x y).d = some d := rfl
theorem d_ex {d x i : Nat} : (ex d x i).d = some d := rfl
theorem d_bx {d x : Nat} : (bx d x).d = some d := rfl
theorem d_st {n x y : Nat} : (st n x y).d = none := rfl
theorem d_ca {d f : Nat} {l : List Nat} : (ca d f l).d = some d := rfl
theorem d_ch {d f : Nat} {l : List Nat} : (ch d f l).d = some d := rfl
theorem d_cv {d g : Nat} {l : List Nat} : (cv d g l).d = some d := rfl
theorem d_un {o : AOp} : (un o).d = o.d := rfl
theorem W_Q1 {a : AC} : W Φ (Q [a]) Q' σ = W Φ a Q' σ := propext Iff.rfl
theorem W_Q2 {a b : AC} {l : List AC} : W Φ (Q (a :: b :: l)) Q' σ = W Φ a (Ex.then (W Φ (Q (b :: l)) Q') Q') σ := propext Iff.rfl
theorem W_C {c : Nat} {a b : AC} : W Φ (C c a b) Q' σ = cM (lk σ.r c) (W Φ a Q') (W Φ b Q') σ := propext Iff.rfl
end
attribute [simp] skO_app wop_gt wop_gf wopD_gt wopD_gf W_Q1 W_Q2 W_C wop_o1 wopD_o1 wopu_o1 wopuD_o1 wop_o0 wopD_o0 wopu_o0 wopuD_o0 wop_m wopD_m wopu_m wopuD_m wop_mv wopD_mv wopu_mv wopuD_mv wop_mi wopD_mi wopu_mi wopuD_mi wop_mb wopD_mb wopu_mb wopuD_mb wop_bt wopD_bt wopu_bt wopuD_bt wop_bi wopD_bi wopu_bi wopuD_bi wop_bu wopD_bu wopu_bu wopuD_bu wop_bs wopD_bs wopu_bs wopuD_bs wop_ntp wopD_ntp wopu_ntp wopuD_ntp wop_ls wopD_ls wopu_ls wopuD_ls wop_lq wopD_lq wopu_lq wopuD_lq wop_fa wopD_fa wopu_fa wopuD_fa wop_fl wopD_fl wopu_fl wopuD_fl wop_l1 wopD_l1 wopu_l1 wopuD_l1 wop_la wopD_la wopu_la wopuD_la wop_ia wopD_ia wopu_ia wopuD_ia wop_ix wopD_ix wopu_ix wopuD_ix wop_pa wopD_pa wopu_pa wopuD_pa wop_po wopD_po wopu_po wopuD_po wop_ex wopD_ex wopu_ex wopuD_ex wop_bx wopD_bx wopu_bx wopuD_bx wop_st wopD_st wopu_st wopuD_st wop_ca wopD_ca wopu_ca wopuD_ca wop_ch wopD_ch wopu_ch wopuD_ch wop_cv wopD_cv wopu_cv wopuD_cv
attribute [simp] Cn_p Cn_n Cn_e ts d_o1 d_o0 d_m d_mv d_mi d_mb d_bt d_bi d_bu d_bs d_ntp d_ls d_lq d_fa d_fl d_l1 d_la d_ia d_ix d_pa d_po d_ex d_bx d_st d_ca d_ch d_cv d_un
end Go.Abs
end
