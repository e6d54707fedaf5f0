/-
  The abstract machine's numbers for what is the call's own, numbered anew; contracts of calls that turn what is lent to them. No condition.
-/
import Derived.Test.YtpblinccnkidfaaDoorAbs6
set_option linter.unusedVariables false
set_option linter.unusedSimpArgs false
namespace Go.Abs
open Go.RowKit
section
variable {P : Program} {N : Nat} {M0 : Mem} {B : Bas} {w0 : World} {κ : Kap} {M : Mem} {σ : St} {a : Act} {w w' : World}
theorem uniq_nodup : ∀ (l acc : List Nat), acc.Nodup → (uniq acc l).Nodup
  | [], acc, h => h
  | k :: ks, acc, h => by
    simp only [uniq]
    split
    · exact uniq_nodup ks acc h
    · rename_i hk
      refine uniq_nodup ks _ ?_
      rw [List.nodup_append]
      exact ⟨h, by simp, fun x hx y hy => by simp at hy; subst hy; rintro rfl; exact hk (memb_iff.2 hx)⟩

theorem idx_some {id : Nat} : ∀ {m : List Nat} {j : Nat}, idx id m = some j → m[j]? = some id
  | [], j, h => by simp [idx] at h
  | k :: ks, j, h => by
    simp only [idx] at h
    split at h
    · rename_i he; cases h; simp [he]
    · obtain ⟨j', h1, rfl⟩ := Option.map_eq_some_iff.1 h
      simpa using idx_some h1

theorem lk_renR {m : List Nat} : ∀ {r : List (Nat × V)} {t : Nat} {v : V}, lk (renR m r) t = some v → ∃ u, lk r t = some u ∧ v = ren m u
  | [], t, v, h => by simp [renR, lk] at h
  | (k, u) :: r, t, v, h => by
    simp only [renR, lk] at h ⊢
    split at h
    · rename_i he; rw [if_pos he]; cases h; exact ⟨u, rfl, rfl⟩
    · rename_i he; rw [if_neg he]; exact lk_renR h

theorem renH_get {h : List (Option Ob)} {m : List Nat} : ∀ {ids : List Nat} {j : Nat} {ob : Ob}, (renH h m ids)[j]? = some (some ob) → ∃ id ob', ids[j]? = some id ∧ h[id]? = some (some ob') ∧ renO m (some ob') = some ob
  | [], j, ob, hj => by simp [renH] at hj
  | id :: ids, 0, ob, hj => by
    simp only [renH, List.getElem?_cons_zero, Option.some.injEq] at hj
    cases hg : h[id]? with
    | none => simp [List.getD, hg, renO] at hj
    | some o =>
      cases o with
      | none => simp [List.getD, hg, renO] at hj
      | some ob' => exact ⟨id, ob', by simp, hg, by simpa [List.getD, hg] using hj⟩
  | id :: ids, j + 1, ob, hj => by
    simp only [renH, List.getElem?_cons_succ] at hj ⊢
    exact renH_get hj
theorem renH_length {h : List (Option Ob)} {m : List Nat} : ∀ {ids : List Nat}, (renH h m ids).length = ids.length
  | [] => rfl
  | id :: ids => by simp [renH, renH_length]

mutual
theorem ren_rep {m : List Nat} {X X' : V → Value → Prop} (hX : ∀ v c, X v c → rep M X' (ren m v) c) : ∀ {v : V} {c : Value}, rep M X v c → rep M X' (ren m v) c
  | .int _ _, _, h => h
  | .bool _, _, h => h
  | .str _, _, h => h
  | .nil _, _, h => h
  | .seq _ _, _, h => h
  | .sptr _ _, _, h => h
  | .nilptr, _, h => h
  | .nilfn, _, h => h
  | .niliface, _, h => h
  | .junk, _, h => h
  | .ref _ _, _, h => hX _ _ h
  | .ptr _ _, _, h => hX _ _ h
  | .eptr _ _ _ _, _, h => hX _ _ h
  | .mref _ _ _, _, h => hX _ _ h
  | .fseq _ _, _, h => hX _ _ h
  | .mptr _ _ _ _ _, _, h => hX _ _ h
  | .strct cs, c, h => by
    simp only [rep, ren] at h ⊢
    obtain ⟨arr, h1, h2, h3⟩ := h
    exact ⟨arr, h1, rens_rep hX h2, h3⟩
  | .tup cs, c, h => by
    simp only [rep, ren] at h ⊢
    obtain ⟨arr, h1, h2⟩ := h
    exact ⟨arr, h1, rens_rep hX h2⟩
  | .fn f x y, c, h => by
    simp only [rep, ren] at h ⊢
    obtain ⟨a1, a2, h1, h2, h3⟩ := h
    exact ⟨a1, a2, h1, rens_rep hX h2, rens_rep hX h3⟩
  | .iface t x, c, h => by
    simp only [rep, ren] at h ⊢
    obtain ⟨y, h1, h2⟩ := h
    exact ⟨y, h1, ren_rep hX h2⟩
theorem rens_rep {m : List Nat} {X X' : V → Value → Prop} (hX : ∀ v c, X v c → rep M X' (ren m v) c) : ∀ {vs : List V} {cs : List Value}, repAll M X vs cs → repAll M X' (rens m vs) cs
  | [], _, h => h
  | v :: vs, cs, h => by
    simp only [repAll, rens] at h ⊢
    obtain ⟨c, cs', h1, h2, h3⟩ := h
    exact ⟨c, cs', h1, ren_rep hX h2, rens_rep hX h3⟩
end

def Kap.ren (κ : Kap) (m : List Nat) : Kap := ⟨fun j => κ (m.getD j 0), fun j => κ.row (m.getD j 0), fun j => κ.bl (m.getD j 0), κ.fm⟩
theorem renO_arr {m : List Nat} {o : Ob} {e sz : Nat} {l : List V} (h : renO m (some o) = some (.arr e sz l)) : o = .arr e sz l := by
  cases o <;> simp only [renO, Option.some.injEq] at h <;> first | exact h | cases h
theorem renO_mat {m : List Nat} {o : Ob} {e e2 sz : Nat} {l : List (Option (List V))} (h : renO m (some o) = some (.mat e e2 sz l)) : o = .mat e e2 sz l := by
  cases o <;> simp only [renO, Option.some.injEq] at h <;> first | exact h | cases h
theorem renO_box {m : List Nat} {o : Ob} {l : List V} (h : renO m (some o) = some (.box l)) : ∃ l', o = .box l' ∧ l = rens m l' := by
  cases o <;> simp only [renO, Option.some.injEq] at h
  · cases h; exact ⟨_, rfl, rfl⟩
  · cases h
  · cases h
  · cases h
theorem renO_mp {m : List Nat} {o : Ob} {kt : KT} {l : List (V × V)} (h : renO m (some o) = some (.mp kt l)) : o = .mp kt l := by
  cases o <;> simp only [renO, Option.some.injEq] at h <;> first | exact h | cases h
theorem XX_ren {h : List (Option Ob)} {m : List Nat} (hm : m.Nodup) : ∀ v c, XX κ h v c → rep M (XX (κ.ren m) (renH h m m)) (ren m v) c := by
  intro v c hx
  have key : ∀ {id j : Nat}, m[j]? = some id → (κ.ren m) j = κ id ∧ (κ.ren m).row j = κ.row id := fun {id j} h => by simp [Kap.ren, List.getD, h]
  have back : ∀ {id j : Nat} {ob : Ob}, m[j]? = some id → (renH h m m)[j]? = some (some ob) → ∃ ob', h[id]? = some (some ob') ∧ renO m (some ob') = some ob := by
    intro id j ob hj hl
    obtain ⟨id', ob', h1, h2, h3⟩ := renH_get hl
    rw [hj] at h1
    cases h1
    exact ⟨ob', h2, h3⟩
  cases v <;> simp only [XX] at hx
  case ref id n =>
    simp only [ren]
    split
    · rename_i j hj
      have hmj := idx_some hj
      simp only [rep, XX]
      rw [(key hmj).1]
      refine ⟨hx.1, by rw [renH_length]; exact (List.getElem?_eq_some_iff.1 hmj).1, fun e sz l hl => ?_, fun e e2 sz l hl => ?_, fun kt l hl => ?_⟩
      · obtain ⟨ob', h2, h3⟩ := back hmj hl
        rw [renO_arr h3] at h2
        exact hx.2.2.1 e sz l h2
      · obtain ⟨ob', h2, h3⟩ := back hmj hl
        rw [renO_mat h3] at h2
        exact hx.2.2.2.1 e e2 sz l h2
      · obtain ⟨ob', h2, h3⟩ := back hmj hl
        rw [renO_mp h3] at h2
        exact hx.2.2.2.2 kt l h2
    · exact hx.1
  case ptr id off =>
    simp only [ren]
    split
    · rename_i j hj
      have hmj := idx_some hj
      simp only [rep, XX]
      rw [(key hmj).1]
      refine ⟨hx.1, by rw [renH_length]; exact (List.getElem?_eq_some_iff.1 hmj).1, fun cs hl => ?_⟩
      obtain ⟨ob', h2, h3⟩ := back hmj hl
      obtain ⟨l', rfl, rfl⟩ := renO_box h3
      exact hx.2.2 _ h2
    · exact hx.1
  case eptr id n i off =>
    simp only [ren]
    split
    · rename_i j hj
      have hmj := idx_some hj
      simp only [rep, XX]
      rw [(key hmj).1]
      refine ⟨hx.1, by rw [renH_length]; exact (List.getElem?_eq_some_iff.1 hmj).1, fun e sz l hl => ?_, fun e e2 sz l hl => ?_⟩
      · obtain ⟨ob', h2, h3⟩ := back hmj hl
        rw [renO_arr h3] at h2
        exact hx.2.2.1 e sz l h2
      · obtain ⟨ob', h2, h3⟩ := back hmj hl
        rw [renO_mat h3] at h2
        exact hx.2.2.2 e e2 sz l h2
    · exact hx.1
  case fseq sz l =>
    simp only [ren, rep, XX]; exact hx
  case mref id i n =>
    simp only [ren]
    split
    · rename_i j hj
      have hmj := idx_some hj
      simp only [rep, XX]
      rw [(key hmj).2]
      refine ⟨hx.1, by rw [renH_length]; exact (List.getElem?_eq_some_iff.1 hmj).1, fun e e2 sz l hl => ?_⟩
      obtain ⟨ob', h2, h3⟩ := back hmj hl
      rw [renO_mat h3] at h2
      exact hx.2.2 e e2 sz l h2
    · exact hx.1
  case mptr id i n k off =>
    simp only [ren]
    split
    · rename_i j hj
      have hmj := idx_some hj
      simp only [rep, XX]
      rw [(key hmj).2]
      refine ⟨hx.1, by rw [renH_length]; exact (List.getElem?_eq_some_iff.1 hmj).1, fun e e2 sz l hl => ?_⟩
      obtain ⟨ob', h2, h3⟩ := back hmj hl
      rw [renO_mat h3] at h2
      exact hx.2.2 e e2 sz l h2
    · exact hx.1

theorem Rel.ren (H : Rel N M0 B w0 κ M σ a w) {m : List Nat} (hm : m.Nodup) (r : List (Nat × V)) (hr : ∀ t v, lk r t = some v → lk σ.r t = some v) :
    Rel N M0 B w0 (κ.ren m) M { r := renR m r, h := renH σ.h m m } a w where
  dfr := H.dfr
  pin := H.pin
  size := H.size
  regs := fun t v ht => by
    obtain ⟨u, h1, rfl⟩ := lk_renR ht
    obtain ⟨g1, c, g2, g3⟩ := H.regs t u (hr t u h1)
    exact ⟨g1, c, g2, ren_rep (XX_ren hm) g3⟩
  heap := fun j ob hj => by
    obtain ⟨id, ob', h1, h2, h3⟩ := renH_get hj
    have ho := H.heap id ob' h2
    have hk : (κ.ren m) j = κ id ∧ (κ.ren m).row j = κ.row id ∧ (κ.ren m).bl j = κ.bl id := by simp [Kap.ren, List.getD, h1]
    cases ob' with
    | box cs =>
      simp only [renO, Option.some.injEq] at h3
      subst h3
      simp only [obAt] at ho ⊢
      rw [hk.1, hk.2.2]
      obtain ⟨b, arr, T, g1, g2, g3, g4, g5⟩ := ho
      exact ⟨b, arr, T, g1, g2, g3, rens_rep (XX_ren hm) g4, g5⟩
    | arr e sz l =>
      simp only [renO, Option.some.injEq] at h3
      subst h3
      simp only [obAt] at ho ⊢
      rw [hk.1, hk.2.2]
      exact ho
    | mat e e2 sz l =>
      simp only [renO, Option.some.injEq] at h3
      subst h3
      simp only [obAt] at ho ⊢
      rw [hk.1, hk.2.1, hk.2.2]
      exact ho
    | mp kt l =>
      simp only [renO, Option.some.injEq] at h3
      subst h3
      simp only [obAt] at ho ⊢
      rw [hk.1, hk.2.2]
      exact ho
  inj := fun i j oi oj g hi hj gi gj => by
    obtain ⟨i', oi', h1, h2, _⟩ := renH_get hi
    obtain ⟨j', oj', h3, h4, _⟩ := renH_get hj
    have e1 : (κ.ren m).bl i = κ.bl i' := by simp [Kap.ren, List.getD, h1]
    have e2 : (κ.ren m).bl j = κ.bl j' := by simp [Kap.ren, List.getD, h3]
    rw [e1] at gi
    rw [e2] at gj
    have := H.inj i' j' oi' oj' g h2 h4 gi gj
    subst this
    exact (List.getElem?_inj (List.getElem?_eq_some_iff.1 h1).1 hm).1 (h1.trans h3.symm)
  snd := H.snd
  sep := fun p v hp j ob hj => by
    obtain ⟨id, ob', h1, h2, _⟩ := renH_get hj
    have e1 : (κ.ren m).bl j = κ.bl id := by simp [Kap.ren, List.getD, h1]
    rw [e1]
    exact H.sep p v hp id ob' h2
  sub := H.sub
  new := H.new
  base := H.base
  blw := H.blw

end
end Go.Abs
