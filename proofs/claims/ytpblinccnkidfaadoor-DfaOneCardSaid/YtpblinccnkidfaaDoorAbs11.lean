/-
  Regions whose order is drawn, and whole code: what 'W' says of the image holds of the code. No condition.
-/
import Derived.Test.YtpblinccnkidfaaDoorAbs10
import Derived.Deep.LoopGhost
import Derived.ScopeJumps
set_option linter.unusedVariables false
set_option linter.unusedSimpArgs false
namespace Go.Abs
open Go.RowKit

section
variable {P : Program} {N : Nat} {M0 : Mem} {B : Bas} {w0 : World} {Φ : Ctr}

theorem wopD_mono {x : AOp} {σ : St} {K K' : St → Prop} (h : wopD Φ x K σ) (hk : ∀ τ, K τ → K' τ) : wopD Φ x K' σ := by
  obtain ⟨h', v, h1, h2, h3, h4⟩ := wopD_does h
  refine h4 σ K' (fun _ _ => rfl) (.inr (.inr rfl)) (hk _ ?_)
  simp only [post]
  split
  · rename_i hle; rw [h1 hle] at h3; exact h3
  · exact h3

mutual
theorem pur_none : ∀ {v u : V}, pur [] v = some u → vids v = [] ∧ ∀ h, pur h v = some u
  | .nil sz, _, hv => ⟨rfl, fun h => by simpa only [pur] using hv⟩
  | .ref id n, _, hv => by simp [pur, pur1] at hv
  | .strct cs, _, hv => by
    simp only [pur, Option.map_eq_some_iff] at hv
    obtain ⟨us, h1, h2⟩ := hv
    obtain ⟨k1, k2⟩ := purs_none h1
    exact ⟨by simpa only [vids] using k1, fun h => by simp only [pur, k2 h, Option.map_some, h2]⟩
  | .tup cs, _, hv => by
    simp only [pur, Option.map_eq_some_iff] at hv
    obtain ⟨us, h1, h2⟩ := hv
    obtain ⟨k1, k2⟩ := purs_none h1
    exact ⟨by simpa only [vids] using k1, fun h => by simp only [pur, k2 h, Option.map_some, h2]⟩
  | .fn f a b, _, hv => by
    simp only [pur] at hv
    split at hv
    · rename_i a' b' h1 h2
      obtain ⟨k1, k2⟩ := purs_none h1
      obtain ⟨k3, k4⟩ := purs_none h2
      exact ⟨by simp only [vids, k1, k3, List.append_nil], fun h => by simp only [pur, k2 h, k4 h]; exact hv⟩
    · cases hv
  | .iface t x, _, hv => by
    simp only [pur, Option.map_eq_some_iff] at hv
    obtain ⟨us, h1, h2⟩ := hv
    obtain ⟨k1, k2⟩ := pur_none h1
    exact ⟨by simpa only [vids] using k1, fun h => by simp only [pur, k2 h, Option.map_some, h2]⟩
  | .ptr _ _, _, hv => by simp only [pur] at hv; cases hv
  | .eptr _ _ _ _, _, hv => by simp only [pur] at hv; cases hv
  | .int _ _, _, hv => ⟨rfl, fun h => by simpa only [pur] using hv⟩
  | .bool _, _, hv => ⟨rfl, fun h => by simpa only [pur] using hv⟩
  | .str _, _, hv => ⟨rfl, fun h => by simpa only [pur] using hv⟩
  | .seq _ _, _, hv => ⟨rfl, fun h => by simpa only [pur] using hv⟩
  | .fseq _ _, _, hv => ⟨rfl, fun h => by simpa only [pur] using hv⟩
  | .sptr _ _, _, hv => ⟨rfl, fun h => by simpa only [pur] using hv⟩
  | .nilptr, _, hv => ⟨rfl, fun h => by simpa only [pur] using hv⟩
  | .nilfn, _, hv => ⟨rfl, fun h => by simpa only [pur] using hv⟩
  | .niliface, _, hv => ⟨rfl, fun h => by simpa only [pur] using hv⟩
  | .junk, _, hv => ⟨rfl, fun h => by simpa only [pur] using hv⟩
theorem purs_none : ∀ {v u : List V}, purs [] v = some u → vidss v = [] ∧ ∀ h, purs h v = some u
  | [], _, hv => ⟨rfl, fun h => by simpa only [purs] using hv⟩
  | v :: vs, _, hv => by
    simp only [purs] at hv
    split at hv
    · rename_i a' b' h1 h2
      obtain ⟨k1, k2⟩ := pur_none h1
      obtain ⟨k3, k4⟩ := purs_none h2
      exact ⟨by simp only [vidss, k1, k3, List.append_nil], fun h => by simp only [purs, k2 h, k4 h]; exact hv⟩
    · cases hv
end

theorem wactD_wact {d : Option Nat} {a : Act'} {K : St → Prop} {σ : St} (h : wactD Φ d a K σ) : wact Φ d a K σ := by
  cases a with
  | lit e0 sz xs =>
    simp only [wactD] at h
    split at h
    · rename_i vs hvs
      split at h
      · rename_i us hus
        obtain ⟨k1, k2⟩ := purs_none hus
        simp only [wact, hvs, k2 σ.h, k1, St.kill]
        exact h
      · exact h.elim
    · exact h.elim
  | call f xs =>
    simp only [wactD] at h
    split at h
    · rename_i vs hvs
      split at h
      · rename_i us hus
        obtain ⟨r, h1, h3⟩ := h
        simp only [wact, hvs, hus]
        exact ⟨r, .inl ⟨h1, fun _ => h3⟩⟩
      · exact h.elim
    · exact h.elim
  | callH f xs =>
    simp only [wactD] at h
    split at h
    · rename_i vs hvs
      obtain ⟨ps, h1, r, H', h2, h3, h4⟩ := h
      simp only [wact, hvs]
      exact ⟨ps, h1, r, H', h2, h3, fun _ _ => h4⟩
    · exact h.elim
  | inv tbl x xs => exact (show False from h).elim
  | trc x hi sz => exact (show False from h).elim
  | callv g xs =>
    simp only [wactD] at h
    split at h
    · rename_i f a b vs hg hvs
      split at h
      · rename_i us hus
        obtain ⟨r, h1, h3⟩ := h
        simp only [wact, hg, hvs, hus]
        exact ⟨r, .inl ⟨h1, fun _ => h3⟩⟩
      · exact h.elim
    · exact h.elim
  | _ => exact h

theorem wopD_wop {x : AOp} {K : St → Prop} {σ : St} (h : wopD Φ x K σ) : wop Φ x K σ := by
  unfold wopD at h
  unfold wop
  split at h
  · exact wactD_wact h
  · split at h
    · split
      · rename_i hb; rw [if_pos hb] at h; exact ⟨fun hy => wactD_wact (h.1 hy), h.2⟩
      · rename_i hb; rw [if_neg hb] at h; exact ⟨h.1, fun hy => wactD_wact (h.2 hy)⟩
    · exact h
    · exact h

/-! ### Orders -/
def wanyA (Φ : Ctr) (ops : Array Oper) (xs : List AOp) (K : St → Prop) : Nat → Array Bool → St → Prop
  | 0, listed, σ => Region.ready .any ops listed = [] ∧ K σ
  | f + 1, listed, σ => (Region.ready .any ops listed = [] → K σ) ∧ ∀ i ∈ Region.ready .any ops listed, ∃ x, xs[i]? = some x ∧ wopD Φ x (wanyA Φ ops xs K f (listed.setIfInBounds i true)) σ

def wanyB (Φ : Ctr) (ops : Array Oper) (xs : List AOp) (K : St → Prop) : Nat → Array Bool → St → Prop
  | 0, listed, σ => Region.ready .any ops listed = [] ∧ K σ
  | f + 1, listed, σ => (Region.ready .any ops listed = [] → K σ) ∧ ∀ i ∈ Region.ready .any ops listed, ∃ x, xs[i]? = some x ∧ wop Φ x (wanyB Φ ops xs K f (listed.setIfInBounds i true)) σ

variable {ops : Array Oper} {xs : List AOp} {K : St → Prop}
theorem wanyA_inv (hK : Inv K) : ∀ (f : Nat) (listed : Array Bool), Inv (wanyA Φ ops xs K f listed)
  | 0, listed => fun σ τ he h => ⟨h.1, hK σ τ he h.2⟩
  | f + 1, listed => fun σ τ he h => ⟨fun h0 => hK σ τ he (h.1 h0), fun i hi => by
    obtain ⟨x, hx, hw⟩ := h.2 i hi
    exact ⟨x, hx, wopD_inv (wanyA_inv hK f _) σ τ he hw⟩⟩

def Closed (ops : Array Oper) (listed : Array Bool) : Prop := ∀ j oj, ops[j]? = some oj → listed.getD j false = true → ∀ e ∈ oj.after, Region.binds .any e = true → listed.getD e.on false = true
def ancB (anc : List Nat) (j i : Nat) : Bool := decide (i < j) && Nat.testBit (anc.getD j 0) i
def AncOK (ops : Array Oper) (anc : List Nat) : Prop := ∀ j i oj, ops[j]? = some oj → ancB anc j i = true → ∃ e ∈ oj.after, Region.binds .any e = true ∧ e.on < j ∧ (e.on = i ∨ ancB anc e.on i = true)

theorem Closed.set {listed : Array Bool} {i : Nat} (h : Closed ops listed) (hi : i ∈ Region.ready .any ops listed) : Closed ops (listed.setIfInBounds i true) := by
  obtain ⟨_, oi, hoi, hall⟩ := mem_ready.1 hi
  intro j oj hj hl e he hb
  by_cases hij : i = j
  · subst hij
    have : oj = oi := Option.some.inj (hj.symm.trans hoi)
    subst this
    exact getD_set_true (hall e he hb)
  · rw [getD_set_ne false hij] at hl
    exact getD_set_true (h j oj hj hl e he hb)

theorem AncOK.listed {anc : List Nat} (ha : AncOK ops anc) {listed : Array Bool} (hc : Closed ops listed) {i : Nat} : ∀ (j : Nat) (oj : Oper), ops[j]? = some oj → (∀ e ∈ oj.after, Region.binds .any e = true → listed.getD e.on false = true) →
    ancB anc j i = true → (∀ e o', e < ops.size → ops[e]? = some o' → True) → (∀ e ∈ oj.after, Region.binds .any e = true → e.on < j → ∃ o', ops[e.on]? = some o') → listed.getD i false = true := by
  intro j
  induction j using Nat.strongRecOn with
  | _ j ih =>
    intro oj hj hp hanc _ hex
    obtain ⟨e, he, hb, hlt, h⟩ := ha j i oj hj hanc
    have hl := hp e he hb
    rcases h with h | h
    · rw [← h]; exact hl
    · obtain ⟨o', ho'⟩ := hex e he hb hlt
      refine ih e.on hlt o' ho' (fun e' he' hb' => hc e.on o' ho' hl e' he' hb') h (fun _ _ _ _ => trivial) (fun e' he' hb' hlt' => ?_)
      have hs : e'.on < ops.size := by
        have := (Array.getElem?_eq_some_iff.1 ho').1
        omega
      exact ⟨ops[e'.on], by simp [hs]⟩

theorem wanyA_first {anc : List Nat} (ha : AncOK ops anc) (hK : Inv K) {i : Nat} {x : AOp} (hi : xs[i]? = some x) :
    ∀ (f : Nat) (listed : Array Bool) (σ : St), Closed ops listed →
      (∀ j y, xs[j]? = some y → j ≠ i → listed.getD j true = false → ancB anc j i = false → apartB x y = true) →
      i ∈ Region.ready .any ops listed → wopD Φ x (wanyA Φ ops xs K f (listed.setIfInBounds i true)) σ → wanyA Φ ops xs K (f + 1) listed σ := by
  intro f
  induction f with
  | zero =>
    intro listed σ _ _ hr H
    refine ⟨fun h => (by rw [h] at hr; cases hr), fun j hj => ?_⟩
    by_cases hji : j = i
    · subst hji; exact ⟨x, hi, H⟩
    · obtain ⟨h', v, _, _, h3, _⟩ := wopD_does H
      have := ready_mono hj hji
      rw [h3.1] at this
      cases this
  | succ f ih =>
    intro listed σ hc hfree hr H
    refine ⟨fun h => (by rw [h] at hr; cases hr), fun j hj => ?_⟩
    by_cases hji : j = i
    · subst hji; exact ⟨x, hi, H⟩
    · obtain ⟨h', v, _, _, h3, _⟩ := wopD_does H
      obtain ⟨y, hy, _⟩ := h3.2 j (ready_mono hj hji)
      obtain ⟨hjun, oj, hoj, hall⟩ := mem_ready.1 hj
      have hiun := (mem_ready.1 hr).1
      have hnot : ancB anc j i = false := by
        cases hb : ancB anc j i with
        | false => rfl
        | true =>
          have hs : j < ops.size := (Array.getElem?_eq_some_iff.1 hoj).1
          have := ha.listed hc j oj hoj hall hb (fun _ _ _ _ => trivial) (fun e _ _ hlt => ⟨ops[e.on]'(by omega), by simp⟩)
          rcases Nat.lt_or_ge i listed.size with h' | h'
          · simp [h'] at hiun this; rw [hiun] at this; cases this
          · simp [Array.getElem?_eq_none h'] at this
      have H' : wopD Φ x (wopD Φ y (wanyA Φ ops xs K f ((listed.setIfInBounds i true).setIfInBounds j true))) σ := wopD_mono H fun τ hτ => by
        obtain ⟨y', hy', hw⟩ := hτ.2 j (ready_mono hj hji)
        rw [hy] at hy'
        cases hy'
        exact hw
      have H2 := wopD_comm (hfree j y hy hji hjun hnot) (wanyA_inv hK f _) H'
      refine ⟨y, hy, wopD_mono H2 fun τ hτ => ih (listed.setIfInBounds j true) τ (hc.set hj) ?_ (ready_mono hr (Ne.symm hji)) ?_⟩
      · intro k z hz hki hun hno
        refine hfree k z hz hki ?_ hno
        by_cases hjk : j = k
        · subst hjk; exact hjun
        · rw [getD_set_ne true hjk] at hun; exact hun
      · rw [Array.setIfInBounds_comm _ _ hji]
        exact hτ

/-- A region whose order is drawn: one of its orders ('perm'), and what its operations stand apart from. -/
def permOK (ops : Array Oper) (xs : List AOp) (anc : List Nat) : List Nat → Bool
  | [] => true
  | i :: l => !(memb i l) &&
    (match ops[i]? with
     | some o => o.after.toList.all fun e => !(Region.binds .any e) || (decide (e.on < ops.size) && !(memb e.on (i :: l)))
     | none => false) &&
    (match xs[i]? with
     | some x => l.all fun j => ancB anc j i || (match xs[j]? with
       | some y => apartB x y
       | none => false)
     | none => false) && permOK ops xs anc l
def drawOK (ops : Array Oper) (xs : List AOp) (anc perm : List Nat) : Bool :=
  decide (ops.size = xs.length) && decide (perm.length = ops.size) &&
  ((List.range ops.size).all fun j => memb j perm) &&
  ((List.range ops.size).all fun j => match ops[j]? with
    | some o => o.after.toList.all fun e => !(Region.binds .any e) || decide (e.on < j)
    | none => true) &&
  ((List.range ops.size).all fun j => match ops[j]? with
    | some o => (List.range j).all fun i => !(Nat.testBit (anc.getD j 0) i) || o.after.toList.any fun e => Region.binds .any e && (decide (e.on = i) || ancB anc e.on i)
    | none => true) && permOK ops xs anc perm
def pickA (xs : List AOp) : List Nat → Option (List AOp)
  | [] => some []
  | i :: l => match xs[i]?, pickA xs l with
    | some x, some ys => some (x :: ys)
    | _, _ => none

theorem drawOK_anc {anc perm : List Nat} (hd : drawOK ops xs anc perm = true) : AncOK ops anc := by
  simp only [drawOK, Bool.and_eq_true, decide_eq_true_eq] at hd
  obtain ⟨⟨⟨⟨⟨hsz, hpl⟩, hall⟩, hed⟩, hanc⟩, hap⟩ := hd
  intro j i oj hj hb
  simp only [ancB, Bool.and_eq_true, decide_eq_true_eq] at hb
  have hs : j < ops.size := (Array.getElem?_eq_some_iff.1 hj).1
  have h1 := List.all_eq_true.1 hanc j (List.mem_range.2 hs)
  simp only [hj] at h1
  have h2 := List.all_eq_true.1 h1 i (List.mem_range.2 hb.1)
  simp only [hb.2, Bool.not_true, Bool.false_or] at h2
  obtain ⟨e, he, h3⟩ := List.any_eq_true.1 h2
  simp only [Bool.and_eq_true, Bool.or_eq_true, decide_eq_true_eq] at h3
  have h4 := List.all_eq_true.1 hed j (List.mem_range.2 hs)
  simp only [hj] at h4
  have h5 := List.all_eq_true.1 h4 e he
  simp only [h3.1, Bool.not_true, Bool.false_or, decide_eq_true_eq] at h5
  exact ⟨e, by simpa using he, h3.1, h5, h3.2⟩

theorem wanyA_lex {anc : List Nat} (ha : AncOK ops anc) (hK : Inv K) : ∀ (l : List Nat) (ys : List AOp) (listed : Array Bool) (σ : St), permOK ops xs anc l = true → pickA xs l = some ys →
    listed.size = ops.size → (∀ j, j < ops.size → listed.getD j false = !(memb j l)) → Closed ops listed → wopsD Φ ys K σ → wanyA Φ ops xs K l.length listed σ := by
  intro l
  induction l with
  | nil =>
    intro ys listed σ _ hys hls hl hc h
    simp only [pickA, Option.some.injEq] at hys
    subst hys
    refine ⟨?_, h⟩
    rw [List.eq_nil_iff_forall_not_mem]
    intro j hj
    obtain ⟨h1, o, ho, _⟩ := mem_ready.1 hj
    have hs : j < ops.size := (Array.getElem?_eq_some_iff.1 ho).1
    have h2 := hl j hs
    have hlt : j < listed.size := by omega
    simp [hlt, memb] at h1 h2
    rw [h1] at h2
    simp at h2
  | cons i l ih =>
    intro ys listed σ hp hys hls hl hc h
    simp only [permOK, Bool.and_eq_true, Bool.not_eq_true'] at hp
    obtain ⟨⟨⟨hnd, hpre⟩, hap⟩, hrest⟩ := hp
    simp only [pickA] at hys
    split at hys
    · rename_i x ys' hx hys'
      cases hys
      split at hpre
      · rename_i o ho
        have hks : i < ops.size := (Array.getElem?_eq_some_iff.1 ho).1
        have hr : i ∈ Region.ready .any ops listed := by
          refine mem_ready.2 ⟨?_, o, ho, fun e he hb => ?_⟩
          · have := hl i hks
            have hlt : i < listed.size := by omega
            simp [hlt, memb] at this ⊢
            exact this
          · have h5 := List.all_eq_true.1 hpre e (by simpa using he)
            simp only [hb, Bool.not_true, Bool.false_or, Bool.and_eq_true, decide_eq_true_eq] at h5
            rw [hl e.on h5.1]
            exact h5.2
        refine wanyA_first ha hK hx l.length listed σ hc ?_ hr ?_
        · intro j y hy hji hun hno
          simp only [hx] at hap
          by_cases hjs : j < ops.size
          · have h2 := hl j hjs
            have hlt : j < listed.size := by omega
            simp [hlt] at hun h2
            rw [hun] at h2
            have h3 : memb j (i :: l) = true := by
              cases hm : memb j (i :: l) with
              | true => rfl
              | false => rw [hm] at h2; cases h2
            simp only [memb, if_neg hji] at h3
            have h4 := List.all_eq_true.1 hap j (memb_iff.1 h3)
            simp only [hno, hy, Bool.false_or] at h4
            exact h4
          · have : ¬ j < listed.size := by omega
            simp [this] at hun
        · refine wopD_mono h fun τ hτ => ih ys' _ τ hrest hys' (by simp [hls]) ?_ (hc.set hr) hτ
          intro j hj
          by_cases hkj : i = j
          · subst hkj
            have hlt : i < listed.size := by omega
            simp [hlt, hnd]
          · rw [getD_set_ne false hkj, hl j hj]
            have : j ≠ i := fun h => hkj h.symm
            simp only [memb, if_neg this]
      · cases hpre
    · cases hys

theorem drawOK_wany {anc perm : List Nat} {ys : List AOp} {σ : St} (hd : drawOK ops xs anc perm = true) (hp : pickA xs perm = some ys) (hK : Inv K) (h : wopsD Φ ys K σ) :
    wanyA Φ ops xs K ops.size (Array.replicate ops.size false) σ := by
  have ha := drawOK_anc hd
  simp only [drawOK, Bool.and_eq_true, decide_eq_true_eq] at hd
  obtain ⟨⟨⟨⟨⟨hsz, hpl⟩, hall⟩, hed⟩, hanc⟩, hap⟩ := hd
  have := wanyA_lex ha hK perm ys (Array.replicate ops.size false) σ hap hp (by simp) (fun j hj => by
    have := List.all_eq_true.1 hall j (List.mem_range.2 hj)
    simp [hj, this]) (fun j oj hj hl => by
    have hs := (Array.getElem?_eq_some_iff.1 hj).1
    simp [hs] at hl) h
  rw [hpl] at this
  exact this

/-! ### All orders, one by one -/
def linX (ops : Array Oper) : Nat → Array Bool → List (List Nat)
  | 0, listed => match Region.ready .any ops listed with
    | [] => [[]]
    | _ => [[ops.size]]
  | f + 1, listed => match Region.ready .any ops listed with
    | [] => [[]]
    | i :: r => (i :: r).flatMap fun i => (linX ops f (listed.setIfInBounds i true)).map (i :: ·)
def noCall : List AOp → Bool
  | [] => true
  | x :: xs => (match x.a with
    | .call _ _ => false
    | .callv _ _ => false
    | .callH _ _ => false
    | .inv _ _ _ => false
    | _ => true) && noCall xs
def pickAs (xs : List AOp) : List (List Nat) → Option (List (List AOp))
  | [] => some []
  | p :: ps => match pickA xs p, pickAs xs ps with
    | some y, some ys => some (y :: ys)
    | _, _ => none

/-- What an operation that calls nobody does is one thing. -/
theorem wact_det {d : Option Nat} {a : Act'} (hn : (match a with | .call _ _ => false | .callv _ _ => false | .callH _ _ => false | .inv _ _ _ => false | _ => true) = true) {σ : St} {K : St → Prop} (h : wact Φ d a K σ) : ∃ τ, ∀ K', wact Φ d a K' σ ↔ K' τ := by
  cases a with
  | call => cases hn
  | callv => cases hn
  | callH => cases hn
  | inv => cases hn
  | mkp kt => exact ⟨_, fun K' => Iff.rfl⟩
  | ltr e sz xs =>
    simp only [wact] at h ⊢
    split at h
    · split at h
      · exact ⟨_, fun K' => ⟨fun h => h.2.2, fun h' => ⟨h.1, h.2.1, h'⟩⟩⟩
      · exact h.elim
    · exact h.elim
  | trc x hi sz =>
    simp only [wact] at h ⊢
    split at h
    · split at h
      · exact ⟨_, fun K' => ⟨fun h => h.2.2.2.2, fun h' => ⟨h.1, h.2.1, h.2.2.1, h.2.2.2.1, h'⟩⟩⟩
      · exact h.elim
    · exact h.elim
  | mup kt x k v =>
    simp only [wact] at h ⊢
    split at h
    · split at h
      · exact ⟨_, fun K' => ⟨fun h => h.2.2.2.2, fun h' => ⟨h.1, h.2.1, h.2.2.1, h.2.2.2.1, h'⟩⟩⟩
      · exact h.elim
    · exact h.elim
  | alc z => exact ⟨_, fun K' => Iff.rfl⟩
  | box x =>
    simp only [wact] at h ⊢
    split at h
    · split at h
      · rename_i hc; simp only [if_pos hc]; exact ⟨_, fun K' => Iff.rfl⟩
      · exact h.elim
    · exact h.elim
  | st n p x =>
    simp only [wact] at h ⊢
    split at h
    · split at h
      · rename_i hc
        simp only [if_pos hc]
        split at h
        · exact ⟨_, fun K' => Iff.rfl⟩
        · exact h.elim
      · exact h.elim
    · exact h.elim
  | s2b x =>
    simp only [wact] at h ⊢
    split at h
    · exact ⟨_, fun K' => ⟨fun h => h.2, fun h' => ⟨h.1, h'⟩⟩⟩
    · exact h.elim
  | lit e0 sz xs =>
    simp only [wact] at h ⊢
    split at h
    · split at h
      · exact ⟨_, fun K' => ⟨fun h => h.2.2, fun h' => ⟨h.1, h.2.1, h'⟩⟩⟩
      · exact h.elim
    · exact h.elim
  | app x y e sz by' =>
    simp only [wact] at h ⊢
    split at h
    · split at h
      · obtain ⟨h0, h⟩ := h
        split at h
        · exact ⟨_, fun K' => ⟨fun h => h.2.2, fun h' => ⟨h0, h.1, h'⟩⟩⟩
        · split at h
          · exact ⟨_, fun K' => ⟨fun h => h.2.2.2.2.2, fun h' => ⟨h0, h.1, h.2.1, h.2.2.1, h.2.2.2.1, h'⟩⟩⟩
          · exact h.elim
        · split at h
          · split at h
            · exact ⟨_, fun K' => ⟨fun h => h.2.2.2.2.2, fun h' => ⟨h0, h.1, h.2.1, h.2.2.1, h.2.2.2.1, h'⟩⟩⟩
            · exact h.elim
          · exact h.elim
        · exact h.elim
      · exact h.elim
    · exact h.elim
  | mkm e by' e2 sz n =>
    simp only [wact] at h ⊢
    split at h
    · exact ⟨_, fun K' => ⟨fun h => h.2.2, fun h' => ⟨h.1, h.2.1, h'⟩⟩⟩
    · exact h.elim
  | mks e sz by' z n =>
    simp only [wact] at h ⊢
    split at h
    · exact ⟨_, fun K' => ⟨fun h => h.2.2, fun h' => ⟨h.1, h.2.1, h'⟩⟩⟩
    · exact h.elim
  | _ =>
    simp only [wact] at h ⊢
    split at h
    · exact ⟨_, fun K' => Iff.rfl⟩
    · exact h.elim

theorem wop_det {x : AOp} (hn : (match x.a with | .call _ _ => false | .callv _ _ => false | .callH _ _ => false | .inv _ _ _ => false | _ => true) = true) {σ : St} {K : St → Prop} (h : wop Φ x K σ) : ∃ τ, ∀ K', wop Φ x K' σ ↔ K' τ := by
  unfold wop at h ⊢
  split at h
  · exact wact_det hn h
  · split at h
    · rename_i t b _ _ y hy
      cases y <;> cases b <;> simp [Br] at h ⊢ <;> first | exact wact_det hn h | exact ⟨_, fun K' => Iff.rfl⟩
    · exact ⟨_, fun K' => Iff.rfl⟩
    · exact h.elim

theorem linX_ne (ops : Array Oper) : ∀ (f : Nat) (listed : Array Bool), linX ops f listed ≠ []
  | 0, listed => by unfold linX; split <;> simp
  | f + 1, listed => by
    unfold linX
    split
    · simp
    · rename_i i r _
      have := linX_ne ops f (listed.setIfInBounds i true)
      intro h
      rw [List.flatMap_cons] at h
      exact this (List.map_eq_nil_iff.1 (List.append_eq_nil_iff.1 h).1)

theorem noCall_get {i : Nat} {x : AOp} : ∀ {xs : List AOp}, noCall xs = true → xs[i]? = some x → (match x.a with | .call _ _ => false | .callv _ _ => false | .callH _ _ => false | .inv _ _ _ => false | _ => true) = true
  | [], _, h => by simp at h
  | y :: ys, hn, h => by
    simp only [noCall, Bool.and_eq_true] at hn
    revert h
    revert i
    intro i h
    cases i with
    | zero => simp at h; subst h; exact hn.1
    | succ i => simp at h; exact noCall_get hn.2 h

theorem linX_wany (hn : noCall xs = true) (hsz : ops.size = xs.length) : ∀ (f : Nat) (listed : Array Bool) (σ : St), (∀ p ∈ linX ops f listed, ∃ ys, pickA xs p = some ys ∧ wops Φ ys K σ) →
    wanyB Φ ops xs K f listed σ := by
  intro f
  induction f with
  | zero =>
    intro listed σ h
    unfold linX at h
    split at h
    · rename_i hr
      obtain ⟨ys, h1, h2⟩ := h [] (by simp)
      simp only [pickA, Option.some.injEq] at h1
      subst h1
      exact ⟨hr, h2⟩
    · obtain ⟨ys, h1, _⟩ := h [ops.size] (by simp)
      simp [pickA, hsz] at h1
  | succ f ih =>
    intro listed σ h
    unfold linX at h
    split at h
    · rename_i hr
      obtain ⟨ys, h1, h2⟩ := h [] (by simp)
      simp only [pickA, Option.some.injEq] at h1
      subst h1
      refine ⟨fun _ => h2, fun i hi => ?_⟩
      rw [hr] at hi
      cases hi
    · rename_i i0 r hr
      refine ⟨fun h0 => (by rw [hr] at h0; cases h0), fun i hi => ?_⟩
      rw [hr] at hi
      have hall : ∀ p ∈ linX ops f (listed.setIfInBounds i true), ∃ ys, pickA xs (i :: p) = some ys ∧ wops Φ ys K σ := fun p hp => h (i :: p) (List.mem_flatMap.2 ⟨i, hi, List.mem_map.2 ⟨p, hp, rfl⟩⟩)
      obtain ⟨p0, hp0⟩ := List.exists_mem_of_ne_nil _ (linX_ne ops f (listed.setIfInBounds i true))
      obtain ⟨ys0, h0, hw0⟩ := hall p0 hp0
      simp only [pickA] at h0
      split at h0
      · rename_i x ys1 hx hy1
        cases h0
        obtain ⟨τ, hτ⟩ := wop_det (noCall_get hn hx) hw0
        refine ⟨x, hx, (hτ _).2 (ih _ τ (fun p hp => ?_))⟩
        obtain ⟨ys, h2, hw⟩ := hall p hp
        simp only [pickA, hx] at h2
        split at h2
        · rename_i x' ys2 hx' hy2
          cases hx'
          cases h2
          exact ⟨ys2, hy2, (hτ _).1 hw⟩
        · cases h2
      · cases h0

theorem wop_mono {x : AOp} {σ : St} {K K' : St → Prop} (h : wopD Φ x K σ) (hk : ∀ τ, K τ → K' τ) : wop Φ x K' σ := wopD_wop (wopD_mono h hk)
theorem wanyA_B : ∀ (f : Nat) (listed : Array Bool) {σ : St}, wanyA Φ ops xs K f listed σ → wanyB Φ ops xs K f listed σ
  | 0, _, _, h => h
  | f + 1, _, _, h => ⟨h.1, fun i hi => by
    obtain ⟨x, hx, hw⟩ := h.2 i hi
    exact ⟨x, hx, wop_mono hw fun τ hτ => wanyA_B f _ hτ⟩⟩

/-! ### Few orders: operations that add nothing go first, where they may -/
def freeOK (xs : List AOp) (anc : List Nat) (listed : Array Bool) (i : Nat) : Bool := match xs[i]? with
  | some x => (List.range xs.length).all fun j => decide (j = i) || listed.getD j true || ancB anc j i || (match xs[j]? with
    | some y => apartB x y
    | none => true)
  | none => false
/-- One that may go first. -/
def firstP (xs : List AOp) (anc : List Nat) (listed : Array Bool) : List Nat → Option Nat
  | [] => none
  | i :: l => if freeOK xs anc listed i = true then some i else firstP xs anc listed l
def joinT : List (Option OT) → Option OT
  | [] => none
  | [t] => t
  | t :: ts => match t, joinT ts with
    | some a, some b => some (.both a b)
    | _, _ => none
def opT : Option AOp → Option OT → Option OT
  | some x, some t => some (.op x t)
  | _, _ => none
def linY (ops : Array Oper) (xs : List AOp) (anc : List Nat) : Nat → Array Bool → Option OT
  | 0, listed => match Region.ready .any ops listed with
    | [] => some .nil
    | _ => none
  | f + 1, listed => match Region.ready .any ops listed with
    | [] => some .nil
    | i :: r => match firstP xs anc listed (i :: r) with
      | some k => opT xs[k]? (linY ops xs anc f (listed.setIfInBounds k true))
      | none => joinT ((i :: r).map fun k => opT xs[k]? (linY ops xs anc f (listed.setIfInBounds k true)))
theorem opT_some {x : Option AOp} {t : Option OT} {u : OT} (h : opT x t = some u) : ∃ y v, x = some y ∧ t = some v ∧ u = .op y v := by
  unfold opT at h
  split at h
  · cases h; exact ⟨_, _, rfl, rfl, rfl⟩
  · cases h
theorem joinT_all {K : St → Prop} {σ : St} : ∀ {ts : List (Option OT)} {t : OT}, joinT ts = some t → wtree Φ t K σ → ∀ u ∈ ts, ∃ v, u = some v ∧ wtree Φ v K σ
  | [], _, h, _, _, _ => by cases h
  | [t0], t, h, hW, u, hu => by
    simp only [joinT] at h
    simp only [List.mem_singleton] at hu
    subst hu
    exact ⟨t, h, hW⟩
  | t0 :: t1 :: ts, t, h, hW, u, hu => by
    simp only [joinT] at h
    cases t0 with
    | none => cases h
    | some a =>
      cases h2 : joinT (t1 :: ts) with
      | none => simp [h2] at h
      | some b =>
        simp only [h2, Option.some.injEq] at h
        subst h
        rcases List.mem_cons.1 hu with rfl | hu
        · exact ⟨a, rfl, hW.1⟩
        · exact joinT_all h2 hW.2 u hu
theorem firstP_mem {anc : List Nat} {listed : Array Bool} {l : List Nat} {k : Nat} (h : firstP xs anc listed l = some k) : k ∈ l ∧ freeOK xs anc listed k = true := by
  induction l with
  | nil => cases h
  | cons i l ih =>
    simp only [firstP] at h
    split at h
    · rename_i hf; cases h; exact ⟨by simp, hf⟩
    · exact ⟨List.mem_cons_of_mem _ (ih h).1, (ih h).2⟩
theorem linY_wany {anc : List Nat} (ha : AncOK ops anc) (hK : Inv K) : ∀ (f : Nat) (listed : Array Bool) (σ : St) (t : OT), Closed ops listed → linY ops xs anc f listed = some t → wtree Φ t K σ →
    wanyA Φ ops xs K f listed σ := by
  intro f
  induction f with
  | zero =>
    intro listed σ l hc h hW
    unfold linY at h
    split at h
    · rename_i hr
      cases h
      exact ⟨hr, hW⟩
    · cases h
  | succ f ih =>
    intro listed σ l hc h hW
    unfold linY at h
    split at h
    · rename_i hr
      cases h
      exact ⟨fun _ => hW, fun i hi => by rw [hr] at hi; cases hi⟩
    · rename_i i r hr
      split at h
      · rename_i k hk
        obtain ⟨x, l', hx, hl', rfl⟩ := opT_some h
        obtain ⟨hk1, hfree⟩ := firstP_mem hk
        have hkr : k ∈ Region.ready .any ops listed := by rw [hr]; exact hk1
        refine wanyA_first ha hK hx f listed σ hc ?_ hkr (wopD_mono hW fun τ hτ => ih _ τ l' (hc.set hkr) hl' hτ)
        intro j y hy hjk hun hno
        unfold freeOK at hfree
        rw [hx] at hfree
        have := List.all_eq_true.1 hfree j (List.mem_range.2 (List.getElem?_eq_some_iff.1 hy).1)
        simp only [hun, hno, hy, Bool.or_false, Bool.or_eq_true, decide_eq_true_eq, hjk, false_or] at this
        exact this
      · refine ⟨fun h0 => (by rw [hr] at h0; cases h0), fun k hk => ?_⟩
        obtain ⟨v, hv, hWv⟩ := joinT_all h hW _ (List.mem_map.2 ⟨k, by rw [hr] at hk; exact hk, rfl⟩)
        obtain ⟨x, l', hx, hl', rfl⟩ := opT_some hv
        exact ⟨x, hx, wopD_mono hWv fun τ hτ => ih _ τ l' (hc.set hk) hl' hτ⟩
def ancChk (ops : Array Oper) (anc : List Nat) : Bool :=
  ((List.range ops.size).all fun j => match ops[j]? with
    | some o => o.after.toList.all fun e => !(Region.binds .any e) || decide (e.on < j)
    | none => true) &&
  ((List.range ops.size).all fun j => match ops[j]? with
    | some o => (List.range j).all fun i => !(Nat.testBit (anc.getD j 0) i) || o.after.toList.any fun e => Region.binds .any e && (decide (e.on = i) || ancB anc e.on i)
    | none => true)
theorem ancChk_anc {anc : List Nat} (hd : ancChk ops anc = true) : AncOK ops anc := by
  simp only [ancChk, Bool.and_eq_true] at hd
  obtain ⟨hed, hanc⟩ := hd
  intro j i oj hj hb
  simp only [ancB, Bool.and_eq_true, decide_eq_true_eq] at hb
  have hs : j < ops.size := (Array.getElem?_eq_some_iff.1 hj).1
  have h1 := List.all_eq_true.1 hanc j (List.mem_range.2 hs)
  simp only [hj] at h1
  have h2 := List.all_eq_true.1 h1 i (List.mem_range.2 hb.1)
  simp only [hb.2, Bool.not_true, Bool.false_or] at h2
  obtain ⟨e, he, h3⟩ := List.any_eq_true.1 h2
  simp only [Bool.and_eq_true, Bool.or_eq_true, decide_eq_true_eq] at h3
  have h4 := List.all_eq_true.1 hed j (List.mem_range.2 hs)
  simp only [hj] at h4
  have h5 := List.all_eq_true.1 h4 e he
  simp only [h3.1, Bool.not_true, Bool.false_or, decide_eq_true_eq] at h5
  exact ⟨e, by simpa using he, h3.1, h5, h3.2⟩
theorem Closed.start {n : Nat} : Closed ops (Array.replicate n false) := by
  intro j oj hj hl
  by_cases hjn : j < n
  · simp [hjn] at hl
  · simp [hjn] at hl

theorem LOs_get {ps : List Nat} {os : List Oper} {ys : List AOp} (h : LOs P N ps ops os ys) : ∀ {i : Nat} {o : Oper} {y : AOp}, os[i]? = some o → ys[i]? = some y → LO P N ps ops o y := by
  induction h with
  | nil => intro i o y h; simp at h
  | cons hl hs ih =>
    intro i o y h1 h2
    cases i with
    | zero => simp at h1 h2; subst h1; subst h2; exact hl
    | succ i => simp at h1 h2; exact ih h1 h2

theorem any_sound {Q : Exit → Act → World → Prop} {K : St → Prop} (hL : LOs P N B.ps ops ops.toList xs) (hK : ∀ κ' M' σ' a' w', K σ' → Rel N M0 B w0 κ' M' σ' a' w' → Q .normal a' w') :
    ∀ (f : Nat) (listed : Array Bool) {κ : Kap} {M : Mem} {σ : St} {a : Act} {w : World}, Rel N M0 B w0 κ M σ a w → wanyB (Cn P) ops xs K f listed σ → wpAny P .any ops Q f listed a w
  | 0, _, _, _, _, _, _, H, hW => ⟨hW.1, hK _ _ _ _ _ hW.2 H⟩
  | f + 1, listed, _, _, _, _, _, H, hW => by
    refine ⟨fun h0 => hK _ _ _ _ _ (hW.1 h0) H, fun i hi => ?_⟩
    obtain ⟨x, hx, hw⟩ := hW.2 i hi
    obtain ⟨_, o, ho, _⟩ := mem_ready.1 hi
    have hl := LOs_get hL (by simpa using ho) hx
    have := op_sound H hl hw (Q := Q) (fun κ' M' σ' a' w' hk H' => any_sound hL hK f _ H' hk)
    unfold wpOp
    simp only [ho]
    split
    · rename_i hwd; rw [if_pos hwd] at this; exact .inl this
    · rename_i hwd; rw [if_neg hwd] at this; exact this

theorem Rel.draw {κ : Kap} {M : Mem} {σ : St} {a : Act} {w : World} (H : Rel N M0 B w0 κ M σ a w) (n : Nat) : Rel N M0 B w0 κ M σ a { w with drawn := n } :=
  { dfr := H.dfr, pin := H.pin, size := H.size, regs := H.regs, heap := fun id ob h => by
      have := H.heap id ob h
      cases ob <;> exact this
    inj := H.inj, snd := H.snd, sep := H.sep, sub := H.sub, new := H.new, base := H.base, blw := ⟨H.blw.os, H.blw.tape, H.blw.output, H.blw.size, H.blw.block, H.blw.siz⟩ }

/-! ### Code -/
/-- A piece of code and its image. -/
inductive LC (P : Program) (N : Nat) (ps : List Nat) : Code → AC → Prop
  | skip : LC P N ps .skip .skip
  | reg {id ops xs ks} : LOs P N ps ops ops.toList xs → LC P N ps (.region id ops false) (.reg xs ks)
  | regD {id ops xs ys anc perm ks} : LOs P N ps ops ops.toList xs → drawOK ops xs anc perm = true → pickA xs perm = some ys → LC P N ps (.region id ops true) (.regD ys ks)
  | regE {id ops xs yss ks} : LOs P N ps ops ops.toList xs → noCall xs = true → ops.size = xs.length → pickAs xs (linX ops ops.size (Array.replicate ops.size false)) = some yss → LC P N ps (.region id ops true) (.regE yss ks)
  | regF {id ops xs yss anc ks} : LOs P N ps ops ops.toList xs → ancChk ops anc = true → linY ops xs anc ops.size (Array.replicate ops.size false) = some yss → LC P N ps (.region id ops true) (.regF yss ks)
  | scope {c rest a b l ks} : LC P N ps c a → findLabel c l = some rest → LC P N ps rest b → LC P N ps (.scope c) (.scope l ks a b)
  | label {l} : LC P N ps (.label l) (.label l)
  | goto {l} : LC P N ps (.goto l) (.goto l)
  | bad {x} : LC P N ps x .bad
  | seq {x y a b} : LC P N ps x a → LC P N ps y b → LC P N ps (.seq x y) (.seq a b)
  | cond {c c' x y a b t} : cO P t c = some c' → LC P N ps x a → LC P N ps y b → LC P N ps (.cond c x y) (.cond c' a b)
  | block {id x a} : LC P N ps x a → LC P N ps (.block id x) (.block id a)
  | loop {x a ks} : LC P N ps x a → LC P N ps (.loop x) (.loop ks a)
  | exit {id} : LC P N ps (.exit id) (.exit id)
  | ret : LC P N ps .ret .ret

def Ex.out : Ex → Exit
  | .norm => .normal
  | .exit id => .exit id
  | .goto l => .goto l
  | .ret => .ret

theorem cls_sound {κ : Kap} {M : Mem} {σ σ' : St} {a : Act} {w : World} (H : Rel N M0 B w0 κ M σ' a w) (ks : List Nat) : Rel N M0 B w0 κ M (σ.cls σ' ks) a w := H.forget _ fun t v h => lk_pk h

theorem pk_congr {r s : List (Nat × V)} (h : ∀ t, lk s t = lk r t) : ∀ ks, pk s ks = pk r ks
  | [] => rfl
  | k :: ks => by simp only [pk, h k, pk_congr h ks]

theorem nrm_inv {R : St → Prop} (ks : List Nat) : Inv (fun σ' => R (σ'.nrm ks)) := by
  intro σ1 τ he h1
  have : τ.nrm ks = σ1.nrm ks := by
    simp only [St.nrm, he.1, pk_congr he.2]
  show R (τ.nrm ks)
  rw [this]; exact h1
theorem least_of {p : Nat → Prop} (h : ∃ n, p n) : ∃ n, p n ∧ ∀ m, p m → n ≤ m := by
  obtain ⟨n, hn⟩ := h
  induction n using Nat.strongRecOn with
  | _ n ih =>
    by_cases hm : ∃ m, m < n ∧ p m
    · obtain ⟨m, h1, h2⟩ := hm
      exact ih m h1 h2
    · exact ⟨n, hn, fun m h => by
        rcases Nat.lt_or_ge m n with h1 | h1
        · exact (hm ⟨m, h1, h⟩).elim
        · exact h1⟩
open Classical in
noncomputable def leastN (p : Nat → Prop) : Nat := if h : ∃ n, p n then (least_of h).choose else 0
theorem leastN_spec {p : Nat → Prop} (h : ∃ n, p n) : p (leastN p) ∧ ∀ m, p m → leastN p ≤ m := by
  unfold leastN
  rw [dif_pos h]
  exact (least_of h).choose_spec
theorem W_sound (hm : P.follows .mixedOrders = true) {c : Code} {x : AC} (h : LC P N B.ps c x) : ∀ {Q : Exit → Act → World → Prop} {R : Ex → St → Prop},
    (∀ e κ M σ a w, R e σ → Rel N M0 B w0 κ M σ a w → Q e.out a w) → ∀ {κ : Kap} {M : Mem} {σ : St} {a : Act} {w : World}, Rel N M0 B w0 κ M σ a w → W (Cn P) x R σ → c.wp P Q a w := by
  induction h with
  | skip => intro Q R hQ κ M σ a w H hW; exact wp_skip (hQ .norm _ _ _ _ _ hW H)
  | reg hL =>
    intro Q R hQ κ M σ a w H hW
    refine wp_region_list (ops_sound (fun κ' M' σ' a' w' hk H' => ?_) hL H hW)
    exact hQ .norm _ _ _ _ _ hk (cls_sound H' _)
  | @regD id ops xs ys anc perm ks hL hd hp =>
    intro Q R hQ κ M σ a w H hW
    refine wp_region_any hm ?_
    have hinv : Inv (fun σ' => R .norm (σ.cls σ' ks)) := by
      intro σ1 τ he h1
      have : σ.cls τ ks = σ.cls σ1 ks := by
        simp only [St.cls, he.1, pk_congr he.2]
      rw [this]; exact h1
    refine any_sound hL (fun κ' M' σ' a' w' hk H' => ?_) _ _ (H.draw _) (wanyA_B _ _ (drawOK_wany hd hp hinv hW))
    exact hQ .norm _ _ _ _ _ hk (cls_sound H' _)
  | @regE id ops xs yss ks hL hn hsz hp =>
    intro Q R hQ κ M σ a w H hW
    refine wp_region_any hm ?_
    have key : ∀ (ps : List (List Nat)) (yss : List (List AOp)), pickAs xs ps = some yss → wall (Cn P) yss (fun σ' => R .norm (σ.cls σ' ks)) σ → ∀ p ∈ ps, ∃ ys, pickA xs p = some ys ∧ wops (Cn P) ys (fun σ' => R .norm (σ.cls σ' ks)) σ := by
      intro ps
      induction ps with
      | nil => intro _ _ _ p hp; cases hp
      | cons q ps ih =>
        intro yss h1 h2 p hp
        simp only [pickAs] at h1
        split at h1
        · rename_i y ys hy hys
          cases h1
          rcases List.mem_cons.1 hp with rfl | hp
          · exact ⟨y, hy, h2.1⟩
          · exact ih ys hys h2.2 p hp
        · cases h1
    refine any_sound hL (fun κ' M' σ' a' w' hk H' => ?_) _ _ (H.draw _) (linX_wany hn hsz _ _ σ (key _ _ hp hW))
    exact hQ .norm _ _ _ _ _ hk (cls_sound H' _)
  | @regF id ops xs yss anc ks hL hanc hp =>
    intro Q R hQ κ M σ a w H hW
    refine wp_region_any hm ?_
    refine any_sound hL (fun κ' M' σ' a' w' hk H' => ?_) _ _ (H.draw _) (wanyA_B _ _ (linY_wany (ancChk_anc hanc) (nrm_inv (R := R .norm) ks) _ _ σ _ Closed.start hp hW))
    obtain ⟨κ2, H2⟩ := H'.nrm ks
    exact hQ .norm _ _ _ _ _ hk H2
  | @scope c rest x y l ks _ hf _ iha ihb =>
    intro Q R hQ κ M σ a w H hW
    obtain ⟨I, h1, h2⟩ := hW
    have G : ∀ a w, (∃ n κ M τ, I n τ ∧ Rel N M0 B w0 κ M τ a w) → ∃ n, ∃ κ M τ, I n τ ∧ Rel N M0 B w0 κ M τ a w := fun _ _ h => h
    refine wp_scope_jumps l (fun a w => ∃ n κ M τ, I n τ ∧ Rel N M0 B w0 κ M τ a w) (fun a w => leastN fun n => ∃ κ M τ, I n τ ∧ Rel N M0 B w0 κ M τ a w) hf (iha ?_ H h1) ?_
    · intro e κ M σ a w hR H
      cases e with
      | norm => exact hQ .norm _ _ _ _ _ hR H
      | exit id => exact hQ (.exit id) _ _ _ _ _ hR H
      | ret => exact hQ .ret _ _ _ _ _ hR H
      | goto l' =>
        obtain ⟨rfl, n, ms, τ'', g1, g2⟩ := hR
        obtain ⟨κ', H'⟩ := H.mats g1
        obtain ⟨κ2, H2⟩ := H'.nrm ks
        exact ⟨rfl, n, _, _, _, g2, H2⟩
    · intro a w hJ
      obtain ⟨⟨κ, M, τ, hI, H⟩, hmin⟩ := leastN_spec hJ
      refine ihb ?_ H (h2 _ τ hI)
      intro e κ M σ a w hR H
      cases e with
      | norm => exact hQ .norm _ _ _ _ _ hR H
      | exit id => exact hQ (.exit id) _ _ _ _ _ hR H
      | ret => exact hQ .ret _ _ _ _ _ hR H
      | goto l' =>
        obtain ⟨rfl, m, ms, τ'', g1, g2, g3⟩ := hR
        obtain ⟨κ', H'⟩ := H.mats g1
        obtain ⟨κ2, H2⟩ := H'.nrm ks
        have hJ' : ∃ n, ∃ κ M τ, I n τ ∧ Rel N M0 B w0 κ M τ a w := ⟨m, _, _, _, g2, H2⟩
        exact ⟨rfl, hJ', Nat.lt_of_le_of_lt ((leastN_spec hJ').2 m ⟨_, _, _, g2, H2⟩) g3⟩
  | label => intro Q R hQ κ M σ a w H hW; exact wp_label (hQ .norm _ _ _ _ _ hW H)
  | goto => intro Q R hQ κ M σ a w H hW; exact wp_goto (hQ (.goto _) _ _ _ _ _ hW H)
  | bad =>
    intro Q R hQ κ M σ a w H hW
    exact hW.elim
  | seq _ _ iha ihb =>
    intro Q R hQ κ M σ a w H hW
    refine wp_seq (iha ?_ H hW)
    intro e κ M σ a w hR H
    cases e with
    | norm => exact ihb hQ H hR
    | exit id => exact hQ (.exit id) _ _ _ _ _ hR H
    | goto l => exact hQ (.goto l) _ _ _ _ _ hR H
    | ret => exact hQ .ret _ _ _ _ _ hR H
  | cond hc _ _ iha ihb =>
    intro Q R hQ κ M σ a w H hW
    simp only [W] at hW
    split at hW
    · rename_i t ht
      have hv := H.op hc ht
      exact wp_cond_split (rep_bool hv) (fun h => iha hQ H (hW.1 h)) (fun h => ihb hQ H (hW.2 h))
    · exact hW.elim
  | @block id x a _ ih =>
    intro Q R hQ κ M σ a w H hW
    refine wp_block (ih ?_ H hW)
    intro e κ M σ a w hR H
    cases e with
    | norm => exact hQ .norm _ _ _ _ _ hR H
    | exit id' =>
      simp only [Ex.inBlock] at hR
      simp only [Ex.out, Exit.inBlock]
      split
      · rename_i he; rw [if_pos he] at hR; exact hQ .norm _ _ _ _ _ hR H
      · rename_i he; rw [if_neg he] at hR; exact hQ (.exit id') _ _ _ _ _ hR H
    | goto l => exact hQ (.goto l) _ _ _ _ _ hR H
    | ret => exact hQ .ret _ _ _ _ _ hR H
  | @loop x a ks _ ih =>
    intro Q R hQ κ M σ a w H hW
    obtain ⟨I, ⟨n, ms, σ', hms, hI⟩, hr⟩ := hW
    obtain ⟨κ', H'⟩ := H.mats hms
    obtain ⟨κ2, H2⟩ := H'.nrm ks
    refine wp_loop_ghost (fun n a w => ∃ κ M τ, I n τ ∧ Rel N M0 B w0 κ M τ a w) n ⟨_, _, _, hI, H2⟩ ?_
    rintro n a w ⟨κ, M, τ, hI, H⟩
    refine ih ?_ H (hr n τ hI)
    intro e κ M σ a w hR H
    cases e with
    | norm =>
      obtain ⟨m, ms, τ', h1, h2, h3⟩ := hR
      obtain ⟨κ', H'⟩ := H.mats h1
      obtain ⟨κ2, H2⟩ := H'.nrm ks
      exact ⟨m, h3, _, _, _, h2, H2⟩
    | exit id => exact hQ (.exit id) _ _ _ _ _ hR H
    | goto l => exact hQ (.goto l) _ _ _ _ _ hR H
    | ret => exact hQ .ret _ _ _ _ _ hR H
  | exit => intro Q R hQ κ M σ a w H hW; exact wp_exit (hQ (.exit _) _ _ _ _ _ hW H)
  | ret => intro Q R hQ κ M σ a w H hW; exact wp_ret (hQ .ret _ _ _ _ _ hW H)
end
end Go.Abs
