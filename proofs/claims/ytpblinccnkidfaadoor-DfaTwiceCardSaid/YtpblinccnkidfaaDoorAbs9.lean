/-
  From the model's code to that of the abstract machine: what 'W' says of the image holds of the code. No condition.
-/
import Derived.Test.YtpblinccnkidfaaDoorAbs8
set_option linter.unusedVariables false
set_option linter.unusedSimpArgs false
namespace Go.Abs
open Go.RowKit

section
variable {P : Program} {N : Nat} {M0 : Mem} {B : Bas} {w0 : World} {κ : Kap} {M : Mem} {σ : St} {a : Act} {w w' : World}

/-! ### Normal forms -/
theorem Rel.mat (H : Rel N M0 B w0 κ M σ a w) {m : Mat} {σ' : St} (h : σ.mat m = some σ') : ∃ κ', Rel N M0 B w0 κ' M σ' a w := by
  cases m with
  | r t e sz =>
    simp only [St.mat] at h
    split at h
    · rename_i sz0 hlk
      split at h
      · rename_i hsz
        cases h
        have ho : obAt (upd κ σ.h.length (.slice none 0 0)) M (XX (upd κ σ.h.length (.slice none 0 0)) (σ.h ++ [some (Ob.arr e sz [])])) B w σ.h.length (.arr e sz []) := by
          simp only [obAt]
          exact ⟨hsz, by simp, [], by rw [upd_self]; exact World.ownsRow_nil w 0 e sz, by simp [repRow], fun g hg => (by rw [updK_bl] at hg; cases hg), fun g => by rw [updK_bl, updK_v]⟩
        have H' := H.newOb (Below.refl _ _) (kv := .slice none 0 0) (fun g hg => by cases hg) ho
        refine ⟨_, { dfr := H'.dfr, pin := H'.pin, size := H'.size, regs := ?_, heap := H'.heap, inj := H'.inj, snd := H'.snd, sep := H'.sep, sub := H'.sub, new := H'.new, base := H'.base, blw := H'.blw }⟩
        intro t' v hv
        simp only [lk] at hv
        split at hv
        · rename_i he
          subst he
          cases hv
          obtain ⟨h1, c, h2, h3⟩ := H.regs _ _ hlk
          simp only [rep] at h3
          refine ⟨h1, c, h2, ?_⟩
          simp only [rep, XX]
          rw [h3.1]
          refine ⟨rfl, by simp, fun e2 sz2 l2 h2 => ?_, fun e2 sz2 l2 l3 h2 => by simp at h2, fun e2 l3 h2 => by simp at h2⟩
          simp at h2
          obtain ⟨rfl, rfl, rfl⟩ := h2
          exact ⟨by simp, fun _ => upd_self.symm⟩
        · exact H'.regs t' v hv
      · cases h
    · cases h
  | b id off e sz =>
    simp only [St.mat] at h
    split at h
    · rename_i cs hcs
      split at h
      · rename_i sz0 hoff
        split at h
        · rename_i hsz
          cases h
          have ho : obAt (upd κ σ.h.length (.slice none 0 0)) M (XX (upd κ σ.h.length (.slice none 0 0)) (σ.h ++ [some (Ob.arr e sz [])])) B w σ.h.length (.arr e sz []) := by
            simp only [obAt]
            exact ⟨hsz, by simp, [], by rw [upd_self]; exact World.ownsRow_nil w 0 e sz, by simp [repRow], fun g hg => (by rw [updK_bl] at hg; cases hg), fun g => by rw [updK_bl, updK_v]⟩
          have H' := H.newOb (Below.refl _ _) (kv := .slice none 0 0) (fun g hg => by cases hg) ho
          have hb := box?_eq hcs
          have hlt : id < σ.h.length := (List.getElem?_eq_some_iff.1 hb).1
          have hb' : (σ.h ++ [some (Ob.arr e sz [])])[id]? = some (some (.box cs)) := by rw [List.getElem?_append_left hlt]; exact hb
          obtain ⟨b, arr, T, h1, h2, h3, h4, h5, h6⟩ := H'.heap id _ hb'
          let κ1 := upd κ σ.h.length (.slice none 0 0)
          have hX : ∀ u c, XX κ1 (σ.h ++ [some (Ob.arr e sz [])]) u c → XX (upd κ1 id (κ1 id)) ((σ.h ++ [some (Ob.arr e sz [])]).set id (some (Ob.box (cs.set off (.ref σ.h.length 0))))) u c := fun u c hx => XX_set hb' hx (fun _ _ => ⟨⟨cs, rfl⟩, rfl⟩) (fun _ _ _ h => by cases h) (fun _ _ _ _ h => by cases h)
          have H2 := H'.setOb hb' (ob := .box (cs.set off (.ref σ.h.length 0))) (kv := κ1 id) (Und.refl _ _) (fun _ _ _ => rfl) (fun g hg => .inl ((h6 g).2 (by rw [h1] at hg; cases hg; rfl))) hX (by
            simp only [obAt]
            refine ⟨b, arr, T, by rw [upd_self]; exact h1, h2, h3, ?_, h5, fun g => by rw [updK_bl, h1]; simp only [blk, Option.some.injEq]; exact eq_comm⟩
            obtain ⟨c, g1, g2⟩ := repAll_get (repAll_mono (fun _ _ h => h) hX _ _ h4) hoff
            simp only [rep] at g2
            have hs := repAll_set off (repAll_mono (fun _ _ h => h) hX _ _ h4) (v := .ref σ.h.length 0) (c := c) (by
              simp only [rep, XX]
              rw [g2.1]
              refine ⟨rfl, by simp, fun e2 sz2 l2 h2 => ?_, fun e2 sz2 l2 l3 h2 => by rw [List.getElem?_set_ne (by omega)] at h2; simp at h2, fun e2 l3 h2 => by rw [List.getElem?_set_ne (by omega)] at h2; simp at h2⟩
              rw [List.getElem?_set_ne (by omega)] at h2
              simp at h2
              obtain ⟨rfl, rfl, rfl⟩ := h2
              refine ⟨by simp, fun _ => ?_⟩
              rw [upd_ne (by omega)]
              exact upd_self.symm)
            have : arr.toList.set off c = arr.toList := by
              apply List.ext_getElem?
              intro j
              rw [List.getElem?_set]
              split
              · rename_i he; subst he
                split
                · exact g1.symm
                · rename_i hn; rw [List.getElem?_eq_none (by omega)]
              · rfl
            rwa [this] at hs)
          refine ⟨upd κ1 id (κ1 id), ?_⟩
          have e1 : (σ.h ++ [some (Ob.arr e sz [])]).set id (some (Ob.box (cs.set off (.ref σ.h.length 0)))) = σ.h.set id (some (Ob.box (cs.set off (.ref σ.h.length 0)))) ++ [some (Ob.arr e sz [])] := by
            rw [List.set_append_left _ _ hlt]
          rw [← e1]
          exact H2
        · cases h
      · cases h
    · cases h

theorem Rel.mats : ∀ {ms : List Mat} {σ σ' : St} {κ : Kap}, Rel N M0 B w0 κ M σ a w → σ.mats ms = some σ' → ∃ κ', Rel N M0 B w0 κ' M σ' a w
  | [], σ, σ', κ, H, h => by simp only [St.mats] at h; cases h; exact ⟨κ, H⟩
  | m :: ms, σ, σ', κ, H, h => by
    simp only [St.mats] at h
    split at h
    · rename_i σ1 h1
      obtain ⟨κ1, H1⟩ := H.mat h1
      exact Rel.mats H1 h
    · cases h

theorem Rel.nrm (H : Rel N M0 B w0 κ M σ a w) (ks : List Nat) : ∃ κ', Rel N M0 B w0 κ' M (σ.nrm ks) a w := by
  unfold St.nrm
  exact ⟨_, H.ren (uniq_nodup _ _ (uniq_nodup _ _ (uniq_nodup _ _ List.nodup_nil))) _ (fun t v h => lk_pk h)⟩

/-! ### Regions -/
/-- An operation of a region, and its image. -/
structure LO (P : Program) (N : Nat) (ps : List Nat) (ops : Array Oper) (o : Oper) (x : AOp) : Prop where
  dst : x.d = o.dst
  lt : ∀ t, o.dst = some t → t < N ∧ t ∉ ps
  act : LV P o.type o.op x.a ∨ LE P o.type o.op x.a ∨ x.a = .bad
  grd : (o.guard = none ∧ x.g = none) ∨ ∃ j b oj t, o.guard = some (j, b) ∧ ops[j]? = some oj ∧ oj.dst = some t ∧ x.g = some (t, b)

theorem LV_val {ty : TypeId} {op : Op} {act : Act'} (h : LV P ty op act) (Φ : Ctr) (d : Option Nat) (K : St → Prop) (σ : St) : wact Φ d act K σ = match σ.val act with
    | some v => K (σ.put d v)
    | none => False := by cases h <;> rfl

theorem act_sound (H : Rel N M0 B w0 κ M σ a w) {ops : Array Oper} {o : Oper} {x : AOp} (hl : LO P N B.ps ops o x) {K : St → Prop} (hW : wact (Cn P) x.d x.a K σ)
    {Nx : Act → World → Prop} (hK : ∀ κ' M' σ' a' w', K σ' → Rel N M0 B w0 κ' M' σ' a' w' → Nx a' w') {Q : Exit → Act → World → Prop} : o.wp P a w Nx Q := by
  have hd : ∀ t, x.d = some t → t < N ∧ t ∉ B.ps := by rw [hl.dst]; exact hl.lt
  rcases hl.act with h | h | h
  · rw [LV_val h] at hW
    split at hW
    · rename_i v hv
      obtain ⟨c, hr, hc⟩ := val_sound H h hv o rfl rfl
      unfold Oper.wp
      rw [hr, Oper.upon_value, ← hl.dst]
      exact hK _ _ _ _ _ hW (H.put' hd hc)
    · exact hW.elim
  · exact eff_sound H h hd hW hK o rfl rfl hl.dst.symm
  · rw [h] at hW
    simp only [wact, St.val] at hW

/-- An operation that may be guarded. -/
theorem op_sound (H : Rel N M0 B w0 κ M σ a w) {ops : Array Oper} {o : Oper} {x : AOp} (hl : LO P N B.ps ops o x) {K : St → Prop} (hW : wop (Cn P) x K σ)
    {Nx : Act → World → Prop} (hK : ∀ κ' M' σ' a' w', K σ' → Rel N M0 B w0 κ' M' σ' a' w' → Nx a' w') {Q : Exit → Act → World → Prop} :
    if Region.wanted o (yielded ops a.tmps) then o.wp P a w Nx Q else Nx (a.put o.dst undef) w := by
  have hd : ∀ t, x.d = some t → t < N ∧ t ∉ B.ps := by rw [hl.dst]; exact hl.lt
  have hu : K (σ.put x.d (.tup [])) → Nx (a.put o.dst undef) w := fun h => by
    rw [← hl.dst]
    exact hK _ _ _ _ _ h (H.undef hd)
  unfold wop at hW
  rcases hl.grd with ⟨h1, h2⟩ | ⟨j, b, oj, t, h1, h2, h3, h4⟩
  · rw [h2] at hW
    have : Region.wanted o (yielded ops a.tmps) = true := by simp [Region.wanted, h1]
    rw [if_pos this]
    exact act_sound H hl hW hK
  · rw [h4] at hW
    simp only at hW
    split at hW
    · rename_i y hy
      obtain ⟨_, c, g1, g2⟩ := H.regs t _ hy
      have hc := rep_bool g2
      subst hc
      have hyl : yielded ops a.tmps j = some y := by simp [yielded, h2, h3, g1]
      have hw : Region.wanted o (yielded ops a.tmps) = decide (y = b) := by
        cases y <;> cases b <;> simp [Region.wanted, h1, hyl]
      rw [hw]
      cases y <;> cases b <;> simp [Br] at hW ⊢
      · exact act_sound H hl hW hK
      · exact hu hW
      · exact hu hW
      · exact act_sound H hl hW hK
    · rename_i hy
      obtain ⟨_, c, g1, g2⟩ := H.regs t _ hy
      simp only [rep, repAll] at g2
      obtain ⟨arr, rfl, g3⟩ := g2
      have hyl : yielded ops a.tmps j = none := by simp [yielded, h2, h3, g1]
      have hw : ¬ Region.wanted o (yielded ops a.tmps) = true := by simp [Region.wanted, h1, hyl]
      rw [if_neg hw]
      exact hu hW
    · exact hW.elim

inductive LOs (P : Program) (N : Nat) (ps : List Nat) (ops : Array Oper) : List Oper → List AOp → Prop
  | nil : LOs P N ps ops [] []
  | cons {o os x xs} : LO P N ps ops o x → LOs P N ps ops os xs → LOs P N ps ops (o :: os) (x :: xs)

theorem ops_sound {ops : Array Oper} {Q : Exit → Act → World → Prop} {K : St → Prop} (hK : ∀ κ' M' σ' a' w', K σ' → Rel N M0 B w0 κ' M' σ' a' w' → Q .normal a' w') :
    ∀ {os : List Oper} {xs : List AOp}, LOs P N B.ps ops os xs → ∀ {κ : Kap} {M : Mem} {σ : St} {a : Act} {w : World}, Rel N M0 B w0 κ M σ a w → wops (Cn P) xs K σ → wpList P ops Q os a w
  | _, _, .nil, _, _, _, _, _, H, hW => hK _ _ _ _ _ hW H
  | _, _, .cons hl hs, _, _, _, _, _, H, hW => by
    refine wpList_step fun K' hK' => ?_
    exact op_sound H hl hW (fun κ' M' σ' a' w' hk H' => hK' _ _ (ops_sound hK hs H' hk))
end
end Go.Abs
