/-
  Operations in any order: what an operation looks at and what it turns, and that two that are apart may change places. No condition.
-/
import Derived.Test.YtpblinccnkidfaaDoorAbs9
set_option linter.unusedVariables false
set_option linter.unusedSimpArgs false
namespace Go.Abs

def AO.rd : AO → List Nat
  | .t n => [n]
  | .v _ => []
def rdo : Option AO → List Nat
  | none => []
  | some x => x.rd
def rdl : List AO → List Nat
  | [] => []
  | x :: xs => x.rd ++ rdl xs
def rdp : List (Nat × Nat × AO) → List Nat
  | [] => []
  | (_, _, x) :: ps => x.rd ++ rdp ps
def Act'.rds : Act' → List Nat
  | .mov x => x.rd
  | .pick c a b => c.rd ++ (a.rd ++ b.rd)
  | .fld x _ _ _ => x.rd
  | .fa x _ => x.rd
  | .ia x i _ => x.rd ++ i.rd
  | .iaa x i _ _ => x.rd ++ i.rd
  | .ld x _ _ => x.rd
  | .ixs x i => x.rd ++ i.rd
  | .ixa x i _ _ _ => x.rd ++ i.rd
  | .bin _ x y => x.rd ++ y.rd
  | .un _ x => x.rd
  | .cii _ x => x.rd
  | .s2b x => x.rd
  | .b2s x => x.rd
  | .sls x lo hi => x.rd ++ (rdo lo ++ rdo hi)
  | .slq x lo hi _ => x.rd ++ (rdo lo ++ rdo hi)
  | .lens x => x.rd
  | .lenq x => x.rd
  | .beq _ x y => x.rd ++ y.rd
  | .ext x _ => x.rd
  | .bld _ ps => rdp ps
  | .lit _ _ xs => rdl xs
  | .ltr _ _ xs => rdl xs
  | .mkf _ a b => rdl a ++ rdl b
  | .nlc x => x.rd
  | .alc _ => []
  | .box x => x.rd
  | .st _ a x => a.rd ++ x.rd
  | .app x y _ _ _ => x.rd ++ y.rd
  | .mks _ _ _ _ n => n.rd
  | .mkm _ _ _ _ n => n.rd
  | .call _ xs => rdl xs
  | .callv g xs => g.rd ++ rdl xs
  | .callH _ xs => rdl xs
  | .mki _ x => x.rd
  | .aeq _ _ x y => x.rd ++ y.rd
  | .mkp _ => []
  | .lkp _ _ _ x k => x.rd ++ k.rd
  | .mup _ x k v => x.rd ++ (k.rd ++ v.rd)
  | .inv _ x xs => x.rd ++ rdl xs
  | .mm _ x y => x.rd ++ y.rd
  | .trc x hi _ => x.rd ++ hi.rd
  | .nlq _ _ x => x.rd
  | .bad => []
def appKind : AO → Nat
  | .v (.nil _) => 2
  | _ => 3
theorem appKind_ge (x : AO) : 2 ≤ appKind x := by unfold appKind; split <;> decide
/-- 0: looks at no memory; 1: looks at it; 2: adds to it; 3: turns it. -/
def Act'.kind : Act' → Nat
  | .fa _ _ => 1
  | .ia _ _ _ => 1
  | .iaa _ _ _ _ => 1
  | .ld _ _ _ => 1
  | .b2s _ => 1
  | .lenq _ => 1
  | .nlc _ => 1
  | .call _ _ => 1
  | .callv _ _ => 1
  | .alc _ => 2
  | .box _ => 2
  | .mks _ _ _ _ _ => 2
  | .mkm _ _ _ _ _ => 2
  | .st _ _ _ => 3
  | .callH _ _ => 3
  | .lkp _ _ _ _ _ => 1
  | .mkp _ => 2
  | .mup _ _ _ _ => 3
  | .inv _ _ _ => 3
  | .trc _ _ _ => 3
  | .ltr _ _ _ => 3
  | .nlq _ _ _ => 1
  | .app x _ _ _ _ => appKind x
  | _ => 0
def AOp.rds (o : AOp) : List Nat := o.a.rds ++ (match o.g with
  | none => []
  | some (t, _) => [t])

def Agr (σ σ' : St) (rs : List Nat) : Prop := ∀ t, t ∈ rs → lk σ'.r t = lk σ.r t
def Ext (σ σ' : St) : Prop := ∀ (id : Nat) (ob : Ob), σ.h[id]? = some (some ob) → σ'.h[id]? = some (some ob)

section
variable {σ σ' : St}
theorem Agr.sub {rs ss : List Nat} (h : Agr σ σ' rs) (hs : ∀ t, t ∈ ss → t ∈ rs) : Agr σ σ' ss := fun t ht => h t (hs t ht)
theorem Agr.l {rs ss : List Nat} (h : Agr σ σ' (rs ++ ss)) : Agr σ σ' rs := h.sub fun t ht => List.mem_append_left _ ht
theorem Agr.r {rs ss : List Nat} (h : Agr σ σ' (rs ++ ss)) : Agr σ σ' ss := h.sub fun t ht => List.mem_append_right _ ht
theorem Agr.ev {x : AO} (h : Agr σ σ' x.rd) : σ'.ev x = σ.ev x := by
  cases x with
  | t n => exact h n (by simp [AO.rd])
  | v x => rfl
theorem Agr.evo {d : V} {x : Option AO} (h : Agr σ σ' (rdo x)) : σ'.evo d x = σ.evo d x := by
  cases x with
  | none => rfl
  | some x => exact Agr.ev (x := x) h
theorem Agr.evs : ∀ {xs : List AO}, Agr σ σ' (rdl xs) → σ'.evs xs = σ.evs xs
  | [], _ => rfl
  | x :: xs, h => by simp only [St.evs, Agr.ev (Agr.l h), Agr.evs (Agr.r h)]
theorem Agr.bldV : ∀ {ps : List (Nat × Nat × AO)} {cs : List V}, Agr σ σ' (rdp ps) → bldV σ' cs ps = bldV σ cs ps
  | [], _, _ => rfl
  | (off, n, x) :: ps, cs, h => by
    simp only [Abs.bldV, Agr.ev (Agr.l h)]
    cases σ.ev x with
    | none => rfl
    | some v =>
      simp only
      split
      · cases splice cs off (cl v) with
        | none => rfl
        | some cs' => exact Agr.bldV (Agr.r h)
      · rfl

theorem Ext.refl : Ext σ σ := fun _ _ h => h
theorem Ext.box (h : Ext σ σ') {id cs} (hb : σ.box? id = some cs) : σ'.box? id = some cs := by
  simp only [St.box?, h _ _ (box?_eq hb)]
theorem Ext.arr (h : Ext σ σ') {id x} (hb : σ.arr? id = some x) : σ'.arr? id = some x := by
  simp only [St.arr?, h _ _ (arr?_eq hb)]
theorem Ext.mat (h : Ext σ σ') {id x} (hb : σ.rws? id = some x) : σ'.rws? id = some x ∧ σ'.arr? id = none := by
  constructor
  · simp only [St.rws?, h _ _ (rws?_eq hb)]
  · simp only [St.arr?, h _ _ (rws?_eq hb)]
theorem Ext.mp (h : Ext σ σ') {id x} (hb : σ.mp? id = some x) : σ'.mp? id = some x := by
  simp only [St.mp?, h _ _ (mp?_eq hb)]
theorem Ext.live (h : Ext σ σ') {v : V} (hv : σ.live v = true) : σ'.live v = true := by
  cases v <;> simp only [St.live] at hv ⊢ <;> try assumption
  case ptr id off =>
    obtain ⟨cs, hc⟩ := Option.isSome_iff_exists.1 hv
    rw [h.box hc]; rfl
  case eptr id n i off =>
    split at hv
    · rename_i e sz l hl
      rw [h.arr hl]; exact hv
    · cases hv
  case mptr id i n k off =>
    split at hv
    · rename_i e e2 sz l hl
      rw [(h.mat hl).1]; exact hv
    · cases hv
  case fn f a b => cases f <;> exact hv
theorem Ext.fetch (h : Ext σ σ') {p : V} {n : Nat} {us : List V} (hv : σ.fetch p n = some us) : σ'.fetch p n = some us := by
  cases p <;> simp only [St.fetch] at hv ⊢ <;> try assumption
  case ptr id off =>
    split at hv
    · rename_i cs hc; rw [h.box hc]; exact hv
    · cases hv
  case eptr id m i off =>
    split at hv
    · rename_i e sz l hl; rw [h.arr hl]; exact hv
    · split at hv
      · rename_i e e2 sz l hl; simp only [(h.mat hl).1, (h.mat hl).2]; exact hv
      · cases hv
  case mptr id i n k off =>
    split at hv
    · rename_i e e2 sz l hl
      rw [(h.mat hl).1]; exact hv
    · cases hv
theorem Ext.pur1 (h : Ext σ σ') {id n : Nat} {u : V} (hv : pur1 σ.h id n = some u) : pur1 σ'.h id n = some u := by
  unfold Abs.pur1 at hv ⊢
  split at hv
  · rename_i hb; rw [h _ _ hb]; exact hv
  · rename_i hb; rw [h _ _ hb]; exact hv
  · cases hv
theorem Ext.pur2 (h : Ext σ σ') {id i n : Nat} {u : V} (hv : pur2 σ.h id i n = some u) : pur2 σ'.h id i n = some u := by
  unfold Abs.pur2 at hv ⊢
  split at hv
  · rename_i hb; rw [h _ _ hb]; exact hv
  · cases hv
mutual
theorem Ext.pur (h : Ext σ σ') : ∀ {v u : V}, pur σ.h v = some u → pur σ'.h v = some u
  | .nil sz, _, hv => by simp only [Abs.pur] at hv ⊢; exact hv
  | .ref id n, _, hv => by simp only [Abs.pur] at hv ⊢; exact h.pur1 hv
  | .mref id i n, _, hv => by simp only [Abs.pur] at hv ⊢; exact h.pur2 hv
  | .fseq _ _, _, hv => by simp only [Abs.pur] at hv ⊢; exact hv
  | .mptr _ _ _ _ _, _, hv => by simp only [Abs.pur] at hv; cases hv
  | .strct cs, _, hv => by
    simp only [Abs.pur, Option.map_eq_some_iff] at hv ⊢
    obtain ⟨us, h1, h2⟩ := hv
    exact ⟨us, Ext.purs h h1, h2⟩
  | .tup cs, _, hv => by
    simp only [Abs.pur, Option.map_eq_some_iff] at hv ⊢
    obtain ⟨us, h1, h2⟩ := hv
    exact ⟨us, Ext.purs h h1, h2⟩
  | .fn f a b, _, hv => by
    simp only [Abs.pur] at hv ⊢
    split at hv
    · rename_i a' b' h1 h2; rw [Ext.purs h h1, Ext.purs h h2]; exact hv
    · cases hv
  | .iface t x, _, hv => by
    simp only [Abs.pur, Option.map_eq_some_iff] at hv ⊢
    obtain ⟨us, h1, h2⟩ := hv
    exact ⟨us, Ext.pur h h1, h2⟩
  | .ptr _ _, _, hv => by simp only [Abs.pur] at hv; cases hv
  | .eptr _ _ _ _, _, hv => by simp only [Abs.pur] at hv; cases hv
  | .int _ _, _, hv => by simp only [Abs.pur] at hv ⊢; exact hv
  | .bool _, _, hv => by simp only [Abs.pur] at hv ⊢; exact hv
  | .str _, _, hv => by simp only [Abs.pur] at hv ⊢; exact hv
  | .seq _ _, _, hv => by simp only [Abs.pur] at hv ⊢; exact hv
  | .sptr _ _, _, hv => by simp only [Abs.pur] at hv ⊢; exact hv
  | .nilptr, _, hv => by simp only [Abs.pur] at hv ⊢; exact hv
  | .nilfn, _, hv => by simp only [Abs.pur] at hv ⊢; exact hv
  | .niliface, _, hv => by simp only [Abs.pur] at hv ⊢; exact hv
  | .junk, _, hv => by simp only [Abs.pur] at hv ⊢; exact hv
theorem Ext.purs (h : Ext σ σ') : ∀ {v u : List V}, purs σ.h v = some u → purs σ'.h v = some u
  | [], _, hv => by simp only [Abs.purs] at hv ⊢; exact hv
  | v :: vs, _, hv => by
    simp only [Abs.purs] at hv ⊢
    split at hv
    · rename_i a' b' h1 h2; rw [Ext.pur h h1, Ext.purs h h2]; exact hv
    · cases hv
end

theorem val_eq0 {a : Act'} (hk : a.kind = 0) (h : Agr σ σ' a.rds) : σ'.val a = σ.val a := by
  cases a <;> simp only [Act'.kind] at hk <;> first | exact absurd hk (by decide) | skip
  all_goals simp only [Act'.rds] at h
  all_goals simp only [St.val]
  case mov x => exact h.ev
  case pick c a b => rw [h.l.ev, h.r.l.ev, h.r.r.ev]
  case fld => rw [h.ev]
  case ixs => rw [h.l.ev, h.r.ev]
  case ixa => rw [h.l.ev, h.r.ev]
  case bin => rw [h.l.ev, h.r.ev]
  case un => rw [h.ev]
  case cii => rw [h.ev]
  case sls => simp only [h.l.ev, h.r.l.evo, h.r.r.evo]
  case slq => simp only [h.l.ev, h.r.l.evo, h.r.r.evo]
  case lens => rw [h.ev]
  case beq => rw [h.l.ev, h.r.ev]
  case ext => rw [h.ev]
  case bld => rw [h.bldV]
  case mkf => rw [h.l.evs, h.r.evs]
  case mki => rw [h.ev]
  case aeq => rw [h.l.ev, h.r.ev]
  case mm => rw [h.l.ev, h.r.ev]

theorem Ext.isNil (h : Ext σ σ') {k : Nat} {v : V} {b : Bool} (hb : St.isNil k (σ.live v) v = some b) : St.isNil k (σ'.live v) v = some b := by
  cases hl : σ.live v with
  | true => rw [h.live hl]; rw [hl] at hb; exact hb
  | false =>
    rw [hl] at hb
    cases v <;> simp [St.isNil] at hb ⊢ <;> exact hb
theorem val_mono1 {a : Act'} (hk : a.kind = 1) (h : Agr σ σ' a.rds) (hx : Ext σ σ') {v : V} (hv : σ.val a = some v) : σ'.val a = some v := by
  cases a <;> simp only [Act'.kind] at hk <;> first | exact absurd hk (by decide) | skip
  all_goals simp only [Act'.rds] at h
  all_goals simp only [St.val] at hv ⊢
  case call => cases hv
  case callv => cases hv
  case app => cases hv
  case fa x off =>
    rw [h.ev]
    split at hv
    · rename_i u hu
      split at hv
      · rename_i hl; rw [if_pos (hx.live hl)]; exact hv
      · cases hv
    · cases hv
  case ia x i sz =>
    rw [h.l.ev, h.r.ev]
    split at hv
    · exact hv
    · exact hv
    · rename_i id m k n h1 h2
      split at hv
      · rename_i e sz' l hl; rw [hx.arr hl]; exact hv
      · split at hv
        · rename_i e e2 sz l hl; simp only [(hx.mat hl).1, (hx.mat hl).2]; exact hv
        · cases hv
    · split at hv
      · rename_i e e2 sz l hl; rw [(hx.mat hl).1]; exact hv
      · cases hv
    · cases hv
  case iaa x i len sz =>
    rw [h.l.ev, h.r.ev]
    split at hv
    · rename_i u k n h1 h2
      split at hv
      · rename_i hl; rw [if_pos ⟨hx.live hl.1, hl.2⟩]; exact hv
      · cases hv
    · cases hv
  case ld x n agg =>
    rw [h.ev]
    split at hv
    · rename_i p hp
      split at hv
      · rename_i us hus; simp only [hx.fetch hus]; exact hv
      · cases hv
    · cases hv
  case b2s x =>
    rw [h.ev]
    split at hv
    · rename_i u hu
      split at hv
      · rename_i l hl; simp only [hx.pur hl]; exact hv
      · cases hv
    · cases hv
  case lenq x =>
    rw [h.ev]
    split at hv
    · exact hv
    · exact hv
    · exact hv
    · rename_i id n hu
      split at hv
      · rename_i e sz l hl; simp only [hx.arr hl]; exact hv
      · split at hv
        · rename_i e e2 sz l hl; simp only [(hx.mat hl).1, (hx.mat hl).2]; exact hv
        · cases hv
    · split at hv
      · rename_i e e2 sz l hl; simp only [(hx.mat hl).1]; exact hv
      · cases hv
    · cases hv
  case nlc x =>
    rw [h.ev]
    split at hv
    · rename_i u hu
      split at hv
      · rename_i hl; rw [if_pos (hx.live hl)]; exact hv
      · cases hv
    · cases hv
  case nlq k neg x =>
    rw [h.ev]
    split at hv
    · rename_i u hu
      split at hv
      · rename_i b hb; simp only [hx.isNil hb]; exact hv
      · cases hv
    · cases hv
  case lkp kt z okk x k =>
    rw [h.l.ev, h.r.ev]
    split at hv
    · rename_i id n kv h1 h2
      split at hv
      · rename_i kt' l hm
        simp only [hx.mp hm]
        exact hv
      · cases hv
    · cases hv

/-- What an operation needs of another state to do there what it did here. -/
def Fits (k : Nat) (σ σ' : St) : Prop := k = 0 ∨ (k = 1 ∧ Ext σ σ') ∨ σ'.h = σ.h
def post (k : Nat) (σ' : St) (h' : List (Option Ob)) (d : Option Nat) (v : V) : St := St.put { σ' with h := if k ≤ 1 then σ'.h else h' } d v

/-- What an operation does. -/
def Does (T : (St → Prop) → St → Prop) (k : Nat) (rs : List Nat) (d : Option Nat) (σ : St) (K : St → Prop) : Prop :=
  ∃ h' v, (k ≤ 1 → h' = σ.h) ∧ (k = 2 → ∀ (id : Nat) (ob : Ob), σ.h[id]? = some (some ob) → h'[id]? = some (some ob)) ∧ K (St.put { σ with h := h' } d v) ∧
    ∀ (σ' : St) (K' : St → Prop), Agr σ σ' rs → Fits k σ σ' → K' (post k σ' h' d v) → T K' σ'

theorem Fits.ext {k : Nat} (h : Fits k σ σ') (hk : k = 1) : Ext σ σ' := by
  rcases h with h | h | h
  · omega
  · exact h.2
  · intro i ob h'; rw [h]; exact h'
theorem Fits.heq {k : Nat} (h : Fits k σ σ') (hk : 2 ≤ k) : σ'.h = σ.h := by
  rcases h with h | h | h
  · omega
  · omega
  · exact h

variable {Φ : Ctr} {d : Option Nat} {K : St → Prop}

theorem wactD_val {a : Act'} {v : V} (h : σ.val a = some v) (hK : K (σ.put d v)) (hk : a.kind ≤ 1) : wactD Φ d a K σ := by
  cases a <;> simp only [wactD, wact] <;> simp only [Act'.kind] at hk <;> first | (simp only [h]; exact hK) | (exfalso; revert hk; decide) | (simp [St.val] at h)

theorem does_val {a : Act'} (hk : a.kind ≤ 1) {v : V} (h : σ.val a = some v) (hK : K (σ.put d v)) : Does (wactD Φ d a) a.kind a.rds d σ K := by
  refine ⟨σ.h, v, fun _ => rfl, fun _ _ _ h => h, hK, fun σ' K' ha hf hK' => ?_⟩
  simp only [post, if_pos hk] at hK'
  refine wactD_val (v := v) ?_ hK' hk
  rcases Nat.le_one_iff_eq_zero_or_eq_one.1 hk with h0 | h1
  · rw [val_eq0 h0 ha]; exact h
  · exact val_mono1 h1 ha (hf.ext h1) h

theorem getElem?_snoc {α : Type} {l : List α} {x y : α} {i : Nat} (h : l[i]? = some x) : (l ++ [y])[i]? = some x := by
  rw [List.getElem?_append_left (List.getElem?_eq_some_iff.1 h).1]; exact h

theorem kill_r (r : List (Nat × V)) : ∀ (ids : List Nat) (σ : St), ({ σ with r := r } : St).kill ids = { (σ.kill ids) with r := r }
  | [], σ => rfl
  | id :: ids, σ => by simp only [St.kill]; exact kill_r r ids { σ with h := σ.h.set id none }
theorem storM_r (r : List (Nat × V)) (σ : St) (n id m i off : Nat) (us : List V) : ({ σ with r := r } : St).storM n id m i off us = (σ.storM n id m i off us).map fun τ => { τ with r := r } := by
  have e1 : ∀ id, St.arr? { σ with r := r } id = σ.arr? id := fun _ => rfl
  have e2 : ∀ id, St.rws? { σ with r := r } id = σ.rws? id := fun _ => rfl
  unfold St.storM
  split
  · simp only [e1, e2]
    split
    · split
      · split <;> rfl
      · rfl
    · rfl
  · rfl
theorem stor_r (r : List (Nat × V)) (σ : St) (n : Nat) (p : V) (us : List V) : ({ σ with r := r } : St).stor n p us = (σ.stor n p us).map fun τ => { τ with r := r } := by
  have e1 : ∀ (τ : St) id, St.arr? { τ with r := r } id = τ.arr? id := fun _ _ => rfl
  have e2 : ∀ (τ : St) id, St.rws? { τ with r := r } id = τ.rws? id := fun _ _ => rfl
  have e3 : ∀ (τ : St) id, St.box? { τ with r := r } id = τ.box? id := fun _ _ => rfl
  cases p <;> simp only [St.stor, kill_r, e1, e2, e3, storM_r] <;> try rfl
  · split
    · split
      · split <;> rfl
      · rfl
    · rfl
  · split
    · split
      · split
        · split
          · split
            · split <;> rfl
            · rfl
          · rfl
        · rfl
      · rfl
    · rfl
  · split
    · split
      · split
        · split
          · split
            · split
              · split <;> rfl
              · rfl
            · rfl
          · rfl
        · rfl
      · rfl
    · rfl
theorem storM_rr (σ : St) (n id m i off : Nat) (us : List V) {τ : St} (h : σ.storM n id m i off us = some τ) : τ.r = σ.r := by
  unfold St.storM at h
  split at h
  · split at h
    · split at h
      · split at h
        · cases h; rfl
        · cases h
      · cases h
    · cases h
  · cases h
theorem stor_rr (σ : St) (n : Nat) (p : V) (us : List V) {τ : St} (h : σ.stor n p us = some τ) : τ.r = σ.r := by
  have h1 := stor_r σ.r σ n p us
  have h2 : ({ σ with r := σ.r } : St) = σ := rfl
  rw [h2, h] at h1
  simp only [Option.map_some, Option.some.injEq] at h1
  rw [h1]

theorem cur0_congr {σ σ' : St} (he : σ'.h = σ.h) (v : V) : σ'.cur0 v = σ.cur0 v := by
  cases v <;> simp only [St.cur0, St.box?, St.arr?, he]
mutual
theorem cur_congr {σ σ' : St} (he : σ'.h = σ.h) : ∀ v : V, σ'.cur v = σ.cur v
  | .fn _ a b => by simp only [St.cur, curA_congr he a, curA_congr he b]
  | .strct a => by simp only [St.cur, curA_congr he a]
  | .tup a => by simp only [St.cur, curA_congr he a]
  | .iface _ x => by simp only [St.cur, cur_congr he x]
  | .int _ _ => by simp only [St.cur, cur0_congr he]
  | .bool _ => by simp only [St.cur, cur0_congr he]
  | .str _ => by simp only [St.cur, cur0_congr he]
  | .nil _ => by simp only [St.cur, cur0_congr he]
  | .seq _ _ => by simp only [St.cur, cur0_congr he]
  | .fseq _ _ => by simp only [St.cur, cur0_congr he]
  | .sptr _ _ => by simp only [St.cur, cur0_congr he]
  | .nilptr => by simp only [St.cur, cur0_congr he]
  | .nilfn => by simp only [St.cur, cur0_congr he]
  | .niliface => by simp only [St.cur, cur0_congr he]
  | .junk => by simp only [St.cur, cur0_congr he]
  | .mref _ _ _ => by simp only [St.cur, cur0_congr he]
  | .mptr _ _ _ _ _ => by simp only [St.cur, cur0_congr he]
  | .ref _ _ => by simp only [St.cur, cur0_congr he]
  | .ptr _ _ => by simp only [St.cur, cur0_congr he]
  | .eptr _ _ _ _ => by simp only [St.cur, cur0_congr he]
theorem curA_congr {σ σ' : St} (he : σ'.h = σ.h) : ∀ v : List V, σ'.curA v = σ.curA v
  | [] => rfl
  | v :: vs => by simp only [St.curA, cur_congr he v, curA_congr he vs]
end
theorem curs_congr {σ σ' : St} (he : σ'.h = σ.h) : ∀ l : List V, σ'.curs l = σ.curs l
  | [] => rfl
  | v :: l => by simp only [St.curs, cur_congr he, curs_congr he l]
theorem kill_congr : ∀ (l : List Nat) {σ σ' : St}, σ'.h = σ.h → (σ'.kill l).h = (σ.kill l).h
  | [], _, _, he => he
  | id :: l, σ, σ', he => by
    simp only [St.kill]
    exact kill_congr l (by simp only [he])
theorem back_congr {σ σ' : St} (he : σ'.h = σ.h) {q : Nat} {m : List Nat} {H' : List (Option Ob)} : σ'.back q m H' = σ.back q m H' := by
  simp only [St.back, kill_congr m he, he]
theorem kill_congr2 : ∀ (ids : List Nat) {σ σ' : St}, σ'.h = σ.h → (σ'.kill ids).h = (σ.kill ids).h
  | [], _, _, he => he
  | id :: ids, σ, σ', he => by
    simp only [St.kill]
    exact kill_congr2 ids (by simp only [he])
theorem wactD_does {a : Act'} (h : wactD Φ d a K σ) : Does (wactD Φ d a) a.kind a.rds d σ K := by
  cases a with
  | lit e0 sz xs =>
    simp only [wactD] at h
    split at h
    · rename_i vs hvs
      split at h
      · rename_i us hus
        refine ⟨σ.h, .seq sz us, fun _ => rfl, fun _ _ _ h => h, h.2.2, fun σ' K' ha hf hK' => ?_⟩
        simp only [Act'.rds] at ha
        simp only [wactD, ha.evs, hvs, hus]
        exact ⟨h.1, h.2.1, hK'⟩
      · exact h.elim
    · exact h.elim
  | call f xs =>
    simp only [wactD] at h
    split at h
    · rename_i vs hvs
      split at h
      · rename_i us hus
        obtain ⟨r, h1, h3⟩ := h
        refine ⟨σ.h, r, fun _ => rfl, fun _ _ _ h => h, h3, fun σ' K' ha hf hK' => ?_⟩
        simp only [Act'.rds] at ha
        simp only [wactD, ha.evs, hvs, (hf.ext rfl).purs hus]
        exact Exists.intro r ⟨h1, hK'⟩
      · exact h.elim
    · exact h.elim
  | callv g xs =>
    simp only [wactD] at h
    split at h
    · rename_i f a b vs hg hvs
      split at h
      · rename_i us hus
        obtain ⟨r, h1, h3⟩ := h
        refine ⟨σ.h, r, fun _ => rfl, fun _ _ _ h => h, h3, fun σ' K' ha hf hK' => ?_⟩
        simp only [Act'.rds] at ha
        simp only [wactD, ha.l.ev, hg, ha.r.evs, hvs, (hf.ext rfl).purs hus]
        exact Exists.intro r ⟨h1, hK'⟩
      · exact h.elim
    · exact h.elim
  | alc z =>
    simp only [wactD, wact] at h
    refine ⟨_, _, fun h => absurd h (by simp [Act'.kind]), fun _ id ob h => getElem?_snoc h, h, fun σ' K' ha hf hK' => ?_⟩
    simp only [wactD, wact]
    rw [hf.heq (by simp [Act'.kind])]
    exact hK'
  | box x =>
    simp only [wactD, wact] at h
    split at h
    · rename_i v hv
      split at h
      · rename_i hn
        refine ⟨_, _, fun h => absurd h (by simp [Act'.kind]), fun _ id ob h => getElem?_snoc h, h, fun σ' K' ha hf hK' => ?_⟩
        simp only [Act'.rds] at ha
        simp only [wactD, wact, ha.ev, hv, if_pos hn]
        rw [hf.heq (by simp [Act'.kind])]
        exact hK'
      · exact h.elim
    · exact h.elim
  | mkm e by' e2 sz n =>
    simp only [wactD, wact] at h
    split at h
    · rename_i k m hm
      obtain ⟨h1, h2, h3⟩ := h
      refine ⟨_, _, fun h => absurd h (by simp [Act'.kind]), fun _ id ob h => getElem?_snoc h, h3, fun σ' K' ha hf hK' => ?_⟩
      simp only [Act'.rds] at ha
      simp only [wactD, wact, ha.ev, hm]
      rw [hf.heq (by simp [Act'.kind])]
      exact ⟨h1, h2, hK'⟩
    · exact h.elim
  | mks e sz by' z n =>
    simp only [wactD, wact] at h
    split at h
    · rename_i k m hm
      obtain ⟨h1, h2, h3⟩ := h
      refine ⟨_, _, fun h => absurd h (by simp [Act'.kind]), fun _ id ob h => getElem?_snoc h, h3, fun σ' K' ha hf hK' => ?_⟩
      simp only [Act'.rds] at ha
      simp only [wactD, wact, ha.ev, hm]
      rw [hf.heq (by simp [Act'.kind])]
      exact ⟨h1, h2, hK'⟩
    · exact h.elim
  | s2b x =>
    simp only [wactD, wact] at h
    split at h
    · rename_i s hs
      refine ⟨σ.h, _, fun _ => rfl, fun _ _ _ h => h, h.2, fun σ' K' ha hf hK' => ?_⟩
      simp only [Act'.rds] at ha
      simp only [wactD, wact, ha.ev, hs]
      exact ⟨h.1, hK'⟩
    · exact h.elim
  | st n p x =>
    simp only [wactD, wact] at h
    split at h
    · rename_i a v ha hv
      split at h
      · rename_i hn
        split at h
        · rename_i σ1 hs
          have hr : σ1.r = σ.r ∧ ∀ σ' : St, σ'.h = σ.h → σ'.stor n a (cl v) = some { σ' with h := σ1.h } := by
            refine ⟨stor_rr _ _ _ _ hs, fun σ' he => ?_⟩
            have h1 := stor_r σ'.r σ n a (cl v)
            have h2 : ({ σ with r := σ'.r } : St) = σ' := by rw [← he]
            rw [h2, hs] at h1
            rw [h1, Option.map_some]
          refine ⟨σ1.h, .tup [], fun h => absurd h (by simp [Act'.kind]), fun h => absurd h (by simp [Act'.kind]), ?_, fun σ' K' hg hf hK' => ?_⟩
          · have : ({ σ with h := σ1.h } : St) = σ1 := by rw [← hr.1]
            rw [this]; exact h
          · simp only [Act'.rds] at hg
            simp only [wactD, wact, hg.l.ev, ha, hg.r.ev, hv, if_pos hn, hr.2 σ' (hf.heq (by simp [Act'.kind]))]
            exact hK'
        · exact h.elim
      · exact h.elim
    · exact h.elim
  | app x y e sz by' =>
    simp only [wactD, wact] at h
    split at h
    · rename_i u v hu hv
      split at h
      · rename_i sz' l hl
        obtain ⟨h0, h⟩ := h
        have hk2 : ∀ y' e' sz' b', 2 ≤ (Act'.app x y' e' sz' b').kind := fun _ _ _ _ => appKind_ge x
        split at h
        · rename_i sz2
          refine ⟨_, _, fun h => absurd h (by have := hk2 y e sz by'; omega), fun _ id ob h => getElem?_snoc h, h.2, fun σ' K' hg hf hK' => ?_⟩
          have hne : ¬ (Act'.app x y e sz by').kind ≤ 1 := by have := hk2 y e sz by'; omega
          simp only [post, if_neg hne] at hK'
          simp only [Act'.rds] at hg
          have he := hf.heq (hk2 y e sz by')
          simp only [wactD, wact, hg.l.ev, hu, hg.r.ev, hv]
          rw [he]
          simp only [hl]
          exact ⟨h0, h.1, hK'⟩
        · rename_i id n
          split at h
          · rename_i e' sz2 l0 ha
            obtain ⟨h1, h2, h3, h4, h5⟩ := h
            have hne : ¬ (Act'.app x y e sz by').kind ≤ 1 := by have := hk2 y e sz by'; omega
            have hn2 : (Act'.app x y e sz by').kind ≠ 2 := by
              cases x with
              | t n => simp [Act'.kind, appKind]
              | v x =>
                simp only [St.ev, Option.some.injEq] at hu
                subst hu
                simp [Act'.kind, appKind]
            refine ⟨_, _, fun h => absurd h hne, fun h => absurd h hn2, h5, fun σ' K' hg hf hK' => ?_⟩
            simp only [post, if_neg hne] at hK'
            simp only [Act'.rds] at hg
            have he := hf.heq (hk2 y e sz by')
            have ha' : σ'.arr? id = some (e', sz2, l0) := by simp only [St.arr?, he]; exact ha
            simp only [wactD, wact, hg.l.ev, hu, hg.r.ev, hv, ha']
            rw [he]
            simp only [hl]
            exact ⟨h0, h1, h2, h3, h4, hK'⟩
          · exact h.elim
        · rename_i id i n
          split at h
          · rename_i e1 e2 sz2 rows ha
            split at h
            · rename_i r hr
              obtain ⟨h1, h2, h3, h4, h5⟩ := h
              have hne : ¬ (Act'.app x y e sz by').kind ≤ 1 := by have := hk2 y e sz by'; omega
              have hn2 : (Act'.app x y e sz by').kind ≠ 2 := by
                cases x with
                | t n => simp [Act'.kind, appKind]
                | v x =>
                  simp only [St.ev, Option.some.injEq] at hu
                  subst hu
                  simp [Act'.kind, appKind]
              refine ⟨_, _, fun h => absurd h hne, fun h => absurd h hn2, h5, fun σ' K' hg hf hK' => ?_⟩
              simp only [post, if_neg hne] at hK'
              simp only [Act'.rds] at hg
              have he := hf.heq (hk2 y e sz by')
              have ha' : σ'.rws? id = some (e1, e2, sz2, rows) := by simp only [St.rws?, he]; exact ha
              simp only [wactD, wact, hg.l.ev, hu, hg.r.ev, hv, ha', hr]
              rw [he]
              simp only [hl]
              exact ⟨h0, h1, h2, h3, h4, hK'⟩
            · exact h.elim
          · exact h.elim
        · exact h.elim
      · exact h.elim
    · exact h.elim
  | callH f xs =>
    simp only [wactD] at h
    split at h
    · rename_i vs hvs
      obtain ⟨ps, h1, r, H', h2, h3, h4⟩ := h
      refine ⟨_, _, fun h => absurd h (by simp [Act'.kind]), fun h => absurd h (by simp [Act'.kind]), h4, fun σ' K' ha hf hK' => ?_⟩
      simp only [Act'.rds] at ha
      have he := hf.heq (show 2 ≤ (Act'.callH f xs).kind by simp [Act'.kind])
      simp only [wactD, ha.evs, hvs]
      refine ⟨ps, by rw [curs_congr he]; exact h1, r, H', by rw [he]; exact h2, by rw [he]; exact h3, ?_⟩
      rw [he, back_congr he]
      exact hK'
    · exact h.elim
  | inv tbl x xs => exact (show False from h).elim
  | trc x hi sz => exact (show False from h).elim
  | ltr e sz xs =>
    simp only [wactD, wact] at h
    split at h
    · rename_i vs hvs
      split at h
      · rename_i us hus
        obtain ⟨h1, h2, h3⟩ := h
        rw [lk_kill] at h3
        refine ⟨(σ.kill (vidss vs)).h ++ [some (Ob.arr e sz us)], .ref (σ.kill (vidss vs)).h.length us.length, fun h => absurd h (by simp [Act'.kind]), fun h => absurd h (by simp [Act'.kind]), h3, fun σ' K' ha hf hK' => ?_⟩
        simp only [Act'.rds] at ha
        have he := hf.heq (show 2 ≤ (Act'.ltr e sz xs).kind by simp [Act'.kind])
        have hk : (σ'.kill (vidss vs)).h = (σ.kill (vidss vs)).h := kill_congr2 _ he
        simp only [wactD, wact, ha.evs, hvs, he, hus, hk, lk_kill]
        exact ⟨h1, h2, hK'⟩
      · exact h.elim
    · exact h.elim
  | mkp kt =>
    simp only [wactD, wact] at h
    refine ⟨_, _, fun h => absurd h (by simp [Act'.kind]), fun _ id ob h => getElem?_snoc h, h, fun σ' K' ha hf hK' => ?_⟩
    simp only [wactD, wact]
    rw [hf.heq (by simp [Act'.kind])]
    exact hK'
  | mup kt x k v =>
    simp only [wactD, wact] at h
    split at h
    · rename_i id n kv u h1 h2 h3
      split at h
      · rename_i kt' l u' hm hp
        obtain ⟨g1, g2, g3, g4, g5⟩ := h
        refine ⟨_, _, fun h => absurd h (by simp [Act'.kind]), fun h => absurd h (by simp [Act'.kind]), g5, fun σ' K' hg hf hK' => ?_⟩
        simp only [Act'.rds] at hg
        have he := hf.heq (show 2 ≤ (Act'.mup kt x k v).kind by simp [Act'.kind])
        have hm' : σ'.mp? id = some (kt', l) := by simp only [St.mp?, he]; exact hm
        simp only [wactD, wact, hg.l.ev, h1, hg.r.l.ev, h2, hg.r.r.ev, h3, hm']
        rw [he]
        simp only [hp]
        exact ⟨g1, g2, g3, g4, hK'⟩
      · exact h.elim
    · exact h.elim
  | _ =>
    simp only [wactD, wact] at h
    split at h
    · rename_i v hv
      exact does_val (by simp only [Act'.kind]; decide) hv h
    · exact h.elim

/-- An operation and where it is done. -/
theorem wopD_does {x : AOp} (h : wopD Φ x K σ) : Does (wopD Φ x) x.a.kind x.rds x.d σ K := by
  have sk : (∀ σ' (K' : St → Prop), Agr σ σ' x.rds → K' (σ'.put x.d (.tup [])) → wopD Φ x K' σ') → K (σ.put x.d (.tup [])) → Does (wopD Φ x) 0 x.rds x.d σ K :=
    fun h1 h2 => ⟨σ.h, .tup [], fun _ => rfl, fun _ _ _ h => h, h2, fun σ' K' ha _ hK' => h1 σ' K' ha hK'⟩
  have up : ∀ {T : (St → Prop) → St → Prop}, Does T 0 x.rds x.d σ K → Does T x.a.kind x.rds x.d σ K := by
    rintro T ⟨h', v, h1, _, h3, h4⟩
    have e := h1 (by decide)
    subst e
    refine ⟨σ.h, v, fun _ => rfl, fun _ _ _ h => h, h3, fun σ' K' ha hf hK' => h4 σ' K' ha (.inl rfl) ?_⟩
    simp only [post, Nat.zero_le, if_true] at hK' ⊢
    split at hK'
    · exact hK'
    · rw [hf.heq (by omega)]
      exact hK'
  have lift : ∀ {T : (St → Prop) → St → Prop} {rs : List Nat}, Does (wactD Φ x.d x.a) x.a.kind rs x.d σ K → (∀ t, t ∈ rs → t ∈ x.rds) → (∀ σ' K', Agr σ σ' x.rds → wactD Φ x.d x.a K' σ' → T K' σ') → Does T x.a.kind x.rds x.d σ K := by
    rintro T rs ⟨h', v, h1, h2, h3, h4⟩ hs hT
    exact ⟨h', v, h1, h2, h3, fun σ' K' ha hf hK' => hT _ _ ha (h4 σ' K' (ha.sub hs) hf hK')⟩
  have hsub : ∀ t, t ∈ x.a.rds → t ∈ x.rds := fun t ht => List.mem_append_left _ ht
  unfold wopD at h
  cases hg : x.g with
  | none =>
    simp only [hg] at h
    refine lift (wactD_does h) hsub fun σ' K' _ h' => ?_
    unfold wopD
    simp only [hg]; exact h'
  | some tb =>
    obtain ⟨t, b⟩ := tb
    have ht : t ∈ x.rds := by simp [AOp.rds, hg]
    simp only [hg] at h
    split at h
    · rename_i y hy
      have hgo : ∀ σ' (K' : St → Prop), Agr σ σ' x.rds → y = b → wactD Φ x.d x.a K' σ' → wopD Φ x K' σ' := by
        intro σ' K' ha hyb h'
        subst hyb
        unfold wopD
        simp only [hg, ha t ht, hy]
        cases y <;> simp [Br, h']
      have hsk : ∀ σ' (K' : St → Prop), Agr σ σ' x.rds → y ≠ b → K' (σ'.put x.d (.tup [])) → wopD Φ x K' σ' := by
        intro σ' K' ha hyb h'
        unfold wopD
        simp only [hg, ha t ht, hy]
        cases y <;> cases b <;> first | exact absurd rfl hyb | simp [Br, h']
      by_cases hyb : y = b
      · have h' : wactD Φ x.d x.a K σ := by subst hyb; cases y <;> simp [Br] at h <;> exact h
        exact lift (wactD_does h') hsub fun σ' K' ha h'' => hgo σ' K' ha hyb h''
      · have h' : K (σ.put x.d (.tup [])) := by cases y <;> cases b <;> first | exact absurd rfl hyb | (simp [Br] at h; exact h)
        exact up (sk (fun σ' K' ha h'' => hsk σ' K' ha hyb h'') h')
    · rename_i hy
      refine up (sk (fun σ' K' ha h'' => ?_) h)
      unfold wopD
      simp only [hg, ha t ht, hy]
      exact h''
    · exact h.elim

/-- States that differ in nothing that is looked up. -/
def Eqv (σ τ : St) : Prop := τ.h = σ.h ∧ ∀ t, lk τ.r t = lk σ.r t
def Inv (R : St → Prop) : Prop := ∀ σ τ, Eqv σ τ → R σ → R τ

theorem lk_put (σ : St) (h' : List (Option Ob)) (d : Option Nat) (v : V) (t : Nat) : lk (St.put { σ with h := h' } d v).r t = if d = some t then some v else lk σ.r t := by
  cases d with
  | none => simp [St.put]
  | some k => simp only [St.put, lk, Option.some.injEq]
theorem h_put (σ : St) (d : Option Nat) (v : V) : (σ.put d v).h = σ.h := by cases d <;> rfl

theorem wopD_inv {x : AOp} {R : St → Prop} (hR : Inv R) : Inv (wopD Φ x R) := by
  intro σ τ he h
  obtain ⟨h', v, h1, h2, h3, h4⟩ := wopD_does h
  refine h4 τ R (fun t _ => he.2 t) (.inr (.inr he.1)) (hR _ _ ⟨?_, fun t => ?_⟩ h3)
  · simp only [post, h_put]
    split
    · rename_i hk; rw [h1 hk]; exact he.1
    · rfl
  · simp only [post, lk_put, he.2]

/-- May an operation go behind a later one? -/
def apartB (x y : AOp) : Bool :=
  (match x.d with
   | some d => !(memb d y.rds) && decide (y.d ≠ some d)
   | none => true) &&
  (match y.d with
   | some d => !(memb d x.rds)
   | none => true) &&
  (x.a.kind == 0 || y.a.kind == 0 || (x.a.kind == 1 && decide (y.a.kind ≤ 2)))

theorem apartB_spec {x y : AOp} (h : apartB x y = true) :
    (∀ d, x.d = some d → d ∉ y.rds ∧ y.d ≠ some d) ∧ (∀ d, y.d = some d → d ∉ x.rds) ∧ (x.a.kind = 0 ∨ y.a.kind = 0 ∨ (x.a.kind = 1 ∧ y.a.kind ≤ 2)) := by
  simp only [apartB, Bool.and_eq_true] at h
  obtain ⟨⟨h1, h2⟩, h3⟩ := h
  refine ⟨fun d hd => ?_, fun d hd => ?_, by simpa [or_assoc] using h3⟩
  · simp only [hd, Bool.and_eq_true, Bool.not_eq_true', decide_eq_true_eq] at h1
    exact ⟨fun hm => by rw [memb_iff.2 hm] at h1; simp at h1, h1.2⟩
  · simp only [hd, Bool.not_eq_true'] at h2
    exact fun hm => by rw [memb_iff.2 hm] at h2; simp at h2

theorem wopD_comm {x y : AOp} (hap : apartB x y = true) {R : St → Prop} (hR : Inv R) (h : wopD Φ x (wopD Φ y R) σ) : wopD Φ y (wopD Φ x R) σ := by
  obtain ⟨a1, a2, a3⟩ := apartB_spec hap
  obtain ⟨hx, vx, x1, x2, x3, x4⟩ := wopD_does h
  obtain ⟨hy, vy, y1, y2, y3, y4⟩ := wopD_does x3
  rw [h_put] at y1 y2
  have key : Eqv (St.put { (St.put { σ with h := hx } x.d vx) with h := hy } y.d vy) (post x.a.kind (post y.a.kind σ hy y.d vy) hx x.d vx) → wopD Φ y (wopD Φ x R) σ := by
    intro he
    refine y4 σ _ ?_ ?_ ?_
    · intro t ht
      rw [lk_put]
      split
      · rename_i hd; exact absurd ht (a1 t hd).1
      · rfl
    · rcases a3 with h | h | h
      · refine .inr (.inr ?_); rw [h_put]; exact (x1 (by omega)).symm
      · exact .inl h
      · refine .inr (.inr ?_); rw [h_put]; exact (x1 (by omega)).symm
    · refine x4 _ _ ?_ ?_ (hR _ _ he y3)
      · intro t ht
        simp only [post, lk_put]
        split
        · rename_i hd; exact absurd ht (a2 t hd)
        · rfl
      · rcases a3 with h | h | h
        · exact .inl h
        · refine .inr (.inr ?_)
          simp only [post, h_put, h, Nat.zero_le, if_true]
        · by_cases hk : y.a.kind ≤ 1
          · refine .inr (.inr ?_)
            simp only [post, h_put, if_pos hk]
          · refine .inr (.inl ⟨h.1, ?_⟩)
            intro id ob hid
            simp only [post, h_put, if_neg hk]
            exact y2 (by omega) id ob (by rw [x1 (by omega)]; exact hid)
  apply key
  constructor
  · simp only [post, h_put]
    rcases a3 with h | h | h
    · rw [if_pos (by omega)]
      split
      · rename_i hk; rw [y1 hk, x1 (by omega)]
      · rfl
    · simp only [h, Nat.zero_le, if_true]
      rw [y1 (by omega)]
      split
      · rename_i hk; rw [x1 hk]
      · rfl
    · rw [if_pos (by omega)]
      split
      · rename_i hk; rw [y1 hk, x1 (by omega)]
      · rfl
  · intro t
    simp only [post, lk_put]
    by_cases hxd : x.d = some t
    · rw [if_pos hxd, if_neg (a1 t hxd).2, if_pos hxd]
    · simp only [if_neg hxd]
end
end Go.Abs
