/-
  From the model's operations to those of the abstract machine: memory that is made, written, handed on. No condition.
-/
import Derived.Test.YtpblinccnkidfaaDoorAbs5
set_option linter.unusedVariables false
set_option linter.unusedSimpArgs false
namespace Go.Abs
open Go.RowKit

/-- The call's own number 'id' stands for something else. -/
def updK (κ : Kap) (id : Nat) (v : Value) (rw' : Nat → Value) (bl : Nat → Prop) : Kap := ⟨fun i => if i = id then v else κ i, fun i => if i = id then rw' else κ.row i, fun i => if i = id then bl else κ.bl i, κ.fm⟩
abbrev upd (κ : Kap) (id : Nat) (v : Value) : Kap := updK κ id v (fun _ => undef) (fun g => blk v = some g)
section
variable {κ : Kap} {id : Nat} {v : Value} {rw' : Nat → Value} {bl : Nat → Prop}
theorem updK_v : (updK κ id v rw' bl) id = v := by simp [updK]
theorem updK_row : (updK κ id v rw' bl).row id = rw' := by simp [updK]
theorem updK_bl : (updK κ id v rw' bl).bl id = bl := by simp [updK]
theorem updK_ne {i : Nat} (h : i ≠ id) : (updK κ id v rw' bl) i = κ i ∧ (updK κ id v rw' bl).row i = κ.row i ∧ (updK κ id v rw' bl).bl i = κ.bl i := by simp [updK, h]
theorem upd_self : upd κ id v id = v := updK_v
theorem upd_ne {i : Nat} (h : i ≠ id) : upd κ id v i = κ i := (updK_ne h).1
end

theorem XX_lt {κ h v c} (hx : XX κ h v c) {κ' : Kap} {h' : List (Option Ob)} (hl : h.length ≤ h'.length) (hk : ∀ i, i < h.length → κ' i = κ i) (hr : ∀ i, i < h.length → κ'.row i = κ.row i) (hh : ∀ i ob, i < h.length → h'[i]? = some (some ob) → h[i]? = some (some ob)) (hf : κ'.fm = κ.fm := by rfl) : XX κ' h' v c := by
  cases v <;> simp only [XX] at hx ⊢
  case ref id n => exact ⟨hx.1, by omega, fun e sz l hl' => by rw [hk id hx.2.1]; exact hx.2.2.1 e sz l (hh id _ hx.2.1 hl'), fun e e2 sz l hl' => by rw [hk id hx.2.1]; exact hx.2.2.2.1 e e2 sz l (hh id _ hx.2.1 hl'), fun kt l hl' => by rw [hk id hx.2.1]; exact hx.2.2.2.2 kt l (hh id _ hx.2.1 hl')⟩
  case ptr id off => exact ⟨hx.1, by omega, fun cs hl' => by rw [hk id hx.2.1]; exact hx.2.2 cs (hh id _ hx.2.1 hl')⟩
  case eptr id n i off => exact ⟨hx.1, by omega, fun e sz l hl' => by rw [hk id hx.2.1]; exact hx.2.2.1 e sz l (hh id _ hx.2.1 hl'), fun e e2 sz l hl' => by rw [hk id hx.2.1]; exact hx.2.2.2 e e2 sz l (hh id _ hx.2.1 hl')⟩
  case fseq sz l => rw [hf]; exact hx
  case mref id i n => exact ⟨hx.1, by omega, fun e e2 sz l hl' => by rw [hr id hx.2.1]; exact hx.2.2 e e2 sz l (hh id _ hx.2.1 hl')⟩
  case mptr id i n k off => exact ⟨hx.1, by omega, fun e e2 sz l hl' => by rw [hr id hx.2.1]; exact hx.2.2 e e2 sz l (hh id _ hx.2.1 hl')⟩

theorem repRow_mono {M M' : Mem} (hM : ∀ p v, M p = some v → M' p = some v) {sz : Nat} : ∀ {l : List V} {xs : List Value}, repRow M sz l xs → repRow M' sz l xs
  | [], _, h => h
  | v :: vs, xs, h => by
    simp only [repRow] at h ⊢
    obtain ⟨y, rest, g1, g2, g3, g4, g5⟩ := h
    exact ⟨y, rest, g1, rep_mono hM (fun _ _ h => h) _ _ g2, g3, g4, repRow_mono hM g5⟩
theorem ownsRow_mono {w w' : World} {n e sz len : Nat} {v : Value} {xs : List Value} (h : w.ownsRow n e sz v len xs) (hw : ∀ g, blk v = some g → w'.heap[g]? = w.heap[g]?) : w'.ownsRow n e sz v len xs := by
  refine ⟨h.1, ?_⟩
  rcases h.2 with h4 | ⟨g, cap, cur, h4, h5, h6, h7⟩
  · exact .inl h4
  · exact .inr ⟨g, cap, cur, h4, h5, by rw [hw g (by rw [h4]; rfl), h6], h7⟩
theorem ownsRow_blk {w : World} {n e sz len : Nat} {v : Value} {xs : List Value} (h : w.ownsRow n e sz v len xs) {g : Nat} (hg : blk v = some g) : g < w.heap.size := by
  rcases h.2 with ⟨h4, _⟩ | ⟨g', cap, cur, h4, h5, h6, _⟩
  · rw [h4] at hg; cases hg
  · rw [h4] at hg
    cases hg
    exact (Array.getElem?_eq_some_iff.1 h6).1

section
variable {P : Program} {N : Nat} {M0 : Mem} {B : Bas} {w0 : World} {κ : Kap} {M : Mem} {σ : St} {a : Act} {w w' : World}

theorem mpAt_mono {M M' : Mem} (hM : ∀ p v, M p = some v → M' p = some v) {kt : KT} : ∀ {l : List (V × V)} {es : List MapEntry}, mpAt M kt l es → mpAt M' kt l es
  | [], _, h => h
  | (k, v) :: l, _, h => by
    simp only [mpAt] at h ⊢
    obtain ⟨e, rest, h1, h2, h3, h4, h5⟩ := h
    exact ⟨e, rest, h1, h2, rep_mono hM (fun _ _ h => h) _ _ h3, rep_mono hM (fun _ _ h => h) _ _ h4, mpAt_mono hM h5⟩
theorem obAt_mono {X X' : V → Value → Prop} {M' : Mem} (hM : ∀ p v, M p = some v → M' p = some v) (hX : ∀ v c, X v c → X' v c) {κ' : Kap} {id : Nat} (hk : κ' id = κ id ∧ κ'.row id = κ.row id ∧ κ'.bl id = κ.bl id) (hw : ∀ g, κ.bl id g → w'.heap[g]? = w.heap[g]?) : ∀ {ob : Ob}, obAt κ M X B w id ob → obAt κ' M' X' B w' id ob
  | .box cs, h => by
    simp only [obAt] at h ⊢
    obtain ⟨b, arr, T, h1, h2, h3, h4, h5, h6⟩ := h
    exact ⟨b, arr, T, by rw [hk.1, h1], h2, by rw [hw b ((h6 b).2 rfl), h3], repAll_mono hM hX _ _ h4, h5, by rw [hk.2.2]; exact h6⟩
  | .arr e sz l, h => by
    simp only [obAt] at h ⊢
    obtain ⟨h0, h1, xs, h2, h3, hown, hbl⟩ := h
    rw [hk.1, hk.2.2]
    exact ⟨h0, h1, xs, ownsRow_mono h2 fun g hg => hw g ((hbl g).2 hg), repRow_mono hM h3, hown, hbl⟩
  | .mat e e2 sz rows, h => by
    simp only [obAt] at h ⊢
    obtain ⟨h0, h1, ⟨xs, h2, h3, h4⟩, h5, h6, h7, hown, hbl⟩ := h
    rw [hk.1, hk.2.1, hk.2.2]
    exact ⟨h0, h1, ⟨xs, ownsRow_mono h2 fun g hg => hw g ((hbl g).2 (.inl hg)), h3, h4⟩, fun i r hr => let ⟨k1, ys, k2, k3⟩ := h5 i r hr; ⟨k1, ys, ownsRow_mono k2 fun g hg => hw g ((hbl g).2 (.inr ⟨i, r, hr, hg⟩)), repRow_mono hM k3⟩, h6, h7, hown, hbl⟩
  | .mp kt l, h => by
    simp only [obAt] at h ⊢
    obtain ⟨b, es, clock, h1, h2, h3, h4, h5⟩ := h
    exact ⟨b, es, clock, by rw [hk.1, h1], h2, by rw [hw b ((h5 b).2 rfl), h3], mpAt_mono hM h4, by rw [hk.2.2]; exact h5⟩

theorem obAt_blk {X : V → Value → Prop} {id : Nat} : ∀ {ob : Ob}, obAt κ M X B w id ob → ∀ g, κ.bl id g → B.own g ∧ g < w.heap.size
  | .box cs, h, g, hg => by
    simp only [obAt] at h
    obtain ⟨b, arr, T, h1, h2, h3, _, _, h6⟩ := h
    have := (h6 g).1 hg
    subst this
    exact ⟨h2, (Array.getElem?_eq_some_iff.1 h3).1⟩
  | .arr e sz l, h, g, hg => by
    simp only [obAt] at h
    obtain ⟨_, _, xs, h2, _, hown, hbl⟩ := h
    exact ⟨hown g hg, ownsRow_blk h2 ((hbl g).1 hg)⟩
  | .mat e e2 sz rows, h, g, hg => by
    simp only [obAt] at h
    obtain ⟨_, _, ⟨xs, h2, _⟩, h5, _, _, hown, hbl⟩ := h
    refine ⟨hown g hg, ?_⟩
    rcases (hbl g).1 hg with h | ⟨i, r, hr, h⟩
    · exact ownsRow_blk h2 h
    · obtain ⟨_, ys, k2, _⟩ := h5 i r hr
      exact ownsRow_blk k2 h
  | .mp kt l, h, g, hg => by
    simp only [obAt] at h
    obtain ⟨b, es, clock, h1, h2, h3, _, h5⟩ := h
    have := (h5 g).1 hg
    subst this
    exact ⟨h2, (Array.getElem?_eq_some_iff.1 h3).1⟩

theorem Rel.blk_lt (H : Rel N M0 B w0 κ M σ a w) {id : Nat} {ob : Ob} (h : σ.h[id]? = some (some ob)) {g : Nat} (hg : κ.bl id g) : B.own g ∧ g < w.heap.size := obAt_blk (H.heap id ob h) g hg
theorem Rel.mem_lt (H : Rel N M0 B w0 κ M σ a w) {p : Addr} {v : Value} (h : M p = some v) : p.block < w.heap.size := World.block_lt_of_cell? w p (H.snd p v h)

theorem cell_below {n : Nat} (hb : Below n w w') {p : Addr} (hp : p.block < n) : w'.cell? p = w.cell? p := hb.cell hp

/-- What others made: more memory that nobody writes. -/
theorem Rel.grow (H : Rel N M0 B w0 κ M σ a w) (hb : Below w.heap.size w w') {M' : Mem} (hM : ∀ p v, M p = some v → M' p = some v) (hs : ∀ p v, M' p = some v → w'.cell? p = some v)
    (hn : ∀ p v, M' p = some v → M p = some v ∨ w.heap.size ≤ p.block) : Rel N M0 B w0 κ M' σ a w' where
  dfr := H.dfr
  pin := H.pin
  size := H.size
  regs := fun t v ht => let ⟨h1, c, h2, h3⟩ := H.regs t v ht; ⟨h1, c, h2, rep_mono hM (fun _ _ h => h) _ _ h3⟩
  heap := fun id ob h => obAt_mono hM (fun _ _ h => h) ⟨rfl, rfl, rfl⟩ (fun g hg => hb.block g (H.blk_lt h hg).2) (H.heap id ob h)
  inj := H.inj
  snd := hs
  sep := fun p v hp id ob h => by
    rcases hn p v hp with h1 | h1
    · exact H.sep p v h1 id ob h
    · intro hg
      have := (H.blk_lt h hg).2
      omega
  sub := ⟨fun p v h => hM p v (H.sub.sub p v h), fun p v h => hM p v (H.sub.fmS p v h), H.sub.fmN, H.sub.fbn, H.sub.gl⟩
  new := fun p v h => by
    rcases hn p v h with h1 | h1
    · exact H.new p v h1
    · have := H.blw.size
      exact .inr (.inl (by rw [H.base]; omega))
  base := H.base
  blw := H.blw.trans (.of_below hb (by rw [H.base]; exact H.blw.size))

theorem Rel.grow0 (H : Rel N M0 B w0 κ M σ a w) (hb : Below w.heap.size w w') : Rel N M0 B w0 κ M σ a w' :=
  H.grow hb (fun _ _ h => h) (fun p v h => by rw [hb.cell (H.mem_lt h)]; exact H.snd p v h) (fun _ _ h => .inl h)

theorem getElem?_append_one {α} {l : List α} {x y : α} {i : Nat} (h : (l ++ [x])[i]? = some y) : (i < l.length ∧ l[i]? = some y) ∨ (i = l.length ∧ x = y) := by
  by_cases hi : i < l.length
  · rw [List.getElem?_append_left hi] at h; exact .inl ⟨hi, h⟩
  · rw [List.getElem?_append_right (by omega)] at h
    have : i - l.length = 0 := by
      rcases Nat.eq_zero_or_pos (i - l.length) with h0 | h0
      · exact h0
      · rw [List.getElem?_eq_none (by simp; omega)] at h; cases h
    rw [this] at h
    simp at h
    exact .inr ⟨by omega, h⟩

/-- Something new of the call's own. -/
theorem Rel.newOb' (H : Rel N M0 B w0 κ M σ a w) (hb : Below w.heap.size w w') {ob : Ob} {kv : Value} {kr : Nat → Value} {kb : Nat → Prop} (hkI : ∀ g, kb g → ∀ j oj, σ.h[j]? = some (some oj) → ¬ κ.bl j g) (hkS : ∀ p v, M p = some v → ¬ kb p.block)
    (ho : obAt (updK κ σ.h.length kv kr kb) M (XX (updK κ σ.h.length kv kr kb) (σ.h ++ [some ob])) B w' σ.h.length ob) : Rel N M0 B w0 (updK κ σ.h.length kv kr kb) M { σ with h := σ.h ++ [some ob] } a w' := by
  have H' := H.grow0 hb
  have hX : ∀ v c, XX κ σ.h v c → XX (updK κ σ.h.length kv kr kb) (σ.h ++ [some ob]) v c := fun v c hx => XX_lt hx (by simp) (fun i hi => (updK_ne (by omega)).1) (fun i hi => (updK_ne (by omega)).2.1) (fun i ob' hi h => by rwa [List.getElem?_append_left hi] at h)
  have hne : ∀ {i}, i < σ.h.length → (updK κ σ.h.length kv kr kb).bl i = κ.bl i := fun hi => (updK_ne (by omega)).2.2
  have hse : (updK κ σ.h.length kv kr kb).bl σ.h.length = kb := updK_bl
  refine { dfr := H'.dfr, pin := H'.pin, size := H'.size, regs := ?_, heap := ?_, inj := ?_, snd := H'.snd, sep := ?_, sub := H'.sub, new := H'.new, base := H'.base, blw := H'.blw }
  · intro t v ht
    obtain ⟨h1, c, h2, h3⟩ := H'.regs t v ht
    exact ⟨h1, c, h2, rep_X hX h3⟩
  · intro id ob' h
    rcases getElem?_append_one h with ⟨hi, h⟩ | ⟨rfl, h⟩
    · exact obAt_mono (fun _ _ h => h) hX (updK_ne (by omega)) (fun _ _ => rfl) (H'.heap id ob' h)
    · rename_i h'
      simp only [Option.some.injEq] at h'
      rw [← h']; exact ho
  · intro i j oi oj g hi hj gi gj
    rcases getElem?_append_one hi with ⟨hi', hi⟩ | ⟨rfl, hi⟩ <;> rcases getElem?_append_one hj with ⟨hj', hj⟩ | ⟨rfl, hj⟩
    · rw [hne hi'] at gi; rw [hne hj'] at gj; exact H.inj i j oi oj g hi hj gi gj
    · rw [hne hi'] at gi; rw [hse] at gj
      exact (hkI g gj _ _ hi gi).elim
    · rw [hne hj'] at gj; rw [hse] at gi
      exact (hkI g gi _ _ hj gj).elim
    · rfl
  · intro p v hp id ob' h
    rcases getElem?_append_one h with ⟨hi, h⟩ | ⟨rfl, h⟩
    · rw [hne hi]; exact H'.sep p v hp id ob' h
    · rw [hse]
      exact hkS p v hp

theorem Rel.newOb (H : Rel N M0 B w0 κ M σ a w) (hb : Below w.heap.size w w') {ob : Ob} {kv : Value} {kr : Nat → Value} {kb : Nat → Prop} (hk : ∀ g, kb g → w.heap.size ≤ g)
    (ho : obAt (updK κ σ.h.length kv kr kb) M (XX (updK κ σ.h.length kv kr kb) (σ.h ++ [some ob])) B w' σ.h.length ob) : Rel N M0 B w0 (updK κ σ.h.length kv kr kb) M { σ with h := σ.h ++ [some ob] } a w' :=
  H.newOb' hb (fun g hg j oj hj hg' => by have := (H.blk_lt hj hg').2; have := hk g hg; omega) (fun p v hp hg => by have := H.mem_lt hp; have := hk _ hg; omega) ho

/-- What is the call's own turns. -/
theorem Rel.setOb' (H : Rel N M0 B w0 κ M σ a w) {id : Nat} {old ob : Ob} (hid : σ.h[id]? = some (some old)) {kv : Value} {kr : Nat → Value} {kb : Nat → Prop} (hb : Und B w w')
    (hother : ∀ k, k < w.heap.size → ¬ κ.bl id k → w'.heap[k]? = w.heap[k]?) (hkI : ∀ g, kb g → ∀ j oj, σ.h[j]? = some (some oj) → κ.bl j g → id = j) (hkS : ∀ p v, M p = some v → ¬ kb p.block)
    (hX : ∀ v c, XX κ σ.h v c → XX (updK κ id kv kr kb) (σ.h.set id (some ob)) v c)
    (ho : obAt (updK κ id kv kr kb) M (XX (updK κ id kv kr kb) (σ.h.set id (some ob))) B w' id ob) : Rel N M0 B w0 (updK κ id kv kr kb) M { σ with h := σ.h.set id (some ob) } a w' := by
  have hlt : id < σ.h.length := (List.getElem?_eq_some_iff.1 hid).1
  have hne : ∀ {i}, ¬ id = i → (updK κ id kv kr kb).bl i = κ.bl i := fun hi => (updK_ne (fun e => hi e.symm)).2.2
  have hse : (updK κ id kv kr kb).bl id = kb := updK_bl
  refine { dfr := H.dfr, pin := H.pin, size := H.size, regs := ?_, heap := ?_, inj := ?_, snd := ?_, sep := ?_, sub := H.sub, new := H.new, base := H.base, blw := H.blw.trans hb }
  · intro t v ht
    obtain ⟨h1, c, h2, h3⟩ := H.regs t v ht
    exact ⟨h1, c, h2, rep_X hX h3⟩
  · intro i ob' h
    rw [List.getElem?_set] at h
    split at h
    · rename_i he
      subst he
      simp only [hlt, if_true, Option.some.injEq] at h
      rw [← h]
      exact ho
    · rename_i he
      refine obAt_mono (fun _ _ h => h) hX (updK_ne (fun e => he e.symm)) (fun g hg => ?_) (H.heap i ob' h)
      exact hother g (H.blk_lt h hg).2 (fun hg' => he (H.inj id i old ob' g hid h hg' hg))
  · intro i j oi oj g hi hj gi gj
    rw [List.getElem?_set] at hi hj
    split at hi <;> split at hj
    · rename_i h1 h2; rw [← h1, ← h2]
    · rename_i h1 h2
      subst h1
      rw [hse] at gi
      rw [hne h2] at gj
      exact hkI g gi j oj hj gj
    · rename_i h1 h2
      subst h2
      rw [hse] at gj
      rw [hne h1] at gi
      exact (hkI g gj i oi hi gi).symm
    · rename_i h1 h2
      rw [hne h1] at gi
      rw [hne h2] at gj
      exact H.inj i j oi oj g hi hj gi gj
  · intro p v hp
    have h1 := H.snd p v hp
    have h2 := hother p.block (H.mem_lt hp) (H.sep p v hp id old hid)
    rw [World.cell?_of_block h2]; exact h1
  · intro p v hp i ob' h
    rw [List.getElem?_set] at h
    split at h
    · rename_i he
      subst he
      rw [hse]
      exact hkS p v hp
    · rename_i he
      rw [hne he]
      exact H.sep p v hp i ob' h

theorem Rel.setOb (H : Rel N M0 B w0 κ M σ a w) {id : Nat} {old ob : Ob} (hid : σ.h[id]? = some (some old)) {kv : Value} {kr : Nat → Value} {kb : Nat → Prop} (hb : Und B w w')
    (hother : ∀ k, k < w.heap.size → ¬ κ.bl id k → w'.heap[k]? = w.heap[k]?) (hk : ∀ g, kb g → κ.bl id g ∨ w.heap.size ≤ g)
    (hX : ∀ v c, XX κ σ.h v c → XX (updK κ id kv kr kb) (σ.h.set id (some ob)) v c)
    (ho : obAt (updK κ id kv kr kb) M (XX (updK κ id kv kr kb) (σ.h.set id (some ob))) B w' id ob) : Rel N M0 B w0 (updK κ id kv kr kb) M { σ with h := σ.h.set id (some ob) } a w' :=
  H.setOb' hid hb hother (fun g hg j oj hj gj => by
    rcases hk g hg with h3 | h3
    · exact H.inj id j old oj g hid hj h3 gj
    · have := (H.blk_lt hj gj).2; omega) (fun p v hp hg => by
    rcases hk _ hg with h3 | h3
    · exact H.sep p v hp id old hid h3
    · have := H.mem_lt hp; omega) hX ho

/-- What is the call's own is not looked at any more. -/
theorem Rel.drop (H : Rel N M0 B w0 κ M σ a w) (id : Nat) : Rel N M0 B w0 κ M { σ with h := σ.h.set id none } a w := by
  have k3 : ∀ {i : Nat} {ob : Ob}, (σ.h.set id none)[i]? = some (some ob) → σ.h[i]? = some (some ob) := by
    intro i ob h
    rw [List.getElem?_set] at h
    split at h
    · split at h <;> cases h
    · exact h
  have hX : ∀ v c, XX κ σ.h v c → XX κ (σ.h.set id none) v c := fun v c hx => XX_lt hx (by simp) (fun _ _ => rfl) (fun _ _ => rfl) (fun i ob hi h => k3 h)
  exact { dfr := H.dfr, pin := H.pin, size := H.size
          regs := fun t v ht => let ⟨h1, c, h2, h3⟩ := H.regs t v ht; ⟨h1, c, h2, rep_X hX h3⟩
          heap := fun i ob h => obAt_mono (fun _ _ h => h) hX ⟨rfl, rfl, rfl⟩ (fun _ _ => rfl) (H.heap i ob (k3 h))
          inj := fun i j oi oj g hi hj => H.inj i j oi oj g (k3 hi) (k3 hj)
          snd := H.snd
          sep := fun p v hp i ob h => H.sep p v hp i ob (k3 h)
          sub := H.sub, new := H.new, base := H.base, blw := H.blw }

/-- More of what was made since the call began. -/
def Kap.add (κ : Kap) (F : Mem) : Kap := ⟨κ.v, κ.row, κ.bl, fun p => (κ.fm p).or (F p)⟩
theorem XX_add {κ : Kap} {F : Mem} {h : List (Option Ob)} : ∀ v c, XX κ h v c → XX (κ.add F) h v c := by
  intro v c hx
  cases v <;> simp only [XX] at hx ⊢ <;> try exact hx
  exact ⟨hx.1, rep_mono (M' := (κ.add F).fm) (fun p v hp => by simp [Kap.add, hp]) (X := NX) (fun _ _ h => h) _ _ hx.2⟩
theorem Rel.addF (H : Rel N M0 B w0 κ M σ a w) {F : Mem} (hF : ∀ p v, F p = some v → M p = some v ∧ B.fb ≤ p.block) : Rel N M0 B w0 (κ.add F) M σ a w :=
  { dfr := H.dfr, pin := H.pin, size := H.size
    regs := fun t v ht => let ⟨h1, c, h2, h3⟩ := H.regs t v ht; ⟨h1, c, h2, rep_X XX_add h3⟩
    heap := fun i ob h => obAt_mono (κ' := κ.add F) (fun _ _ h => h) XX_add ⟨rfl, rfl, rfl⟩ (fun _ _ => rfl) (H.heap i ob h)
    inj := H.inj, snd := H.snd, sep := H.sep
    sub := ⟨H.sub.sub, fun p v hp => by
        simp only [Kap.add, Option.or_eq_some_iff] at hp
        rcases hp with hp | hp
        · exact H.sub.fmS p v hp
        · exact (hF p v hp.2).1, fun p v hp => by
        simp only [Kap.add, Option.or_eq_some_iff] at hp
        rcases hp with hp | hp
        · exact H.sub.fmN p v hp
        · exact (hF p v hp.2).2, H.sub.fbn, H.sub.gl⟩
    new := H.new, base := H.base, blw := H.blw }
mutual
theorem fz_rep {Mn M : Mem} {X : V → Value → Prop} (hM : ∀ p v, Mn p = some v → M p = some v) (hX : ∀ sz l c, isCell c → rep Mn NX (.seq sz l) c → X (.fseq sz l) c) : ∀ {v : V} {c : Value}, rep Mn NX v c → rep M X (fz v) c
  | .seq sz l, c, h => by
    simp only [fz, rep]
    refine hX sz l c ?_ h
    simp only [rep] at h
    obtain ⟨a, cap, rfl, _⟩ := h
    rfl
  | .strct cs, c, h => by
    simp only [rep, fz] at h ⊢
    obtain ⟨arr, h1, h2, h3⟩ := h
    exact ⟨arr, h1, fzs_rep hM hX h2, h3⟩
  | .tup cs, c, h => by
    simp only [rep, fz] at h ⊢
    obtain ⟨arr, h1, h2⟩ := h
    exact ⟨arr, h1, fzs_rep hM hX h2⟩
  | .int k n, c, h => rep_of_pure (rep_mono hM (fun _ _ h => h) (.int k n) c h)
  | .bool b, c, h => rep_of_pure (rep_mono hM (fun _ _ h => h) (.bool b) c h)
  | .str s, c, h => rep_of_pure (rep_mono hM (fun _ _ h => h) (.str s) c h)
  | .nil sz, c, h => rep_of_pure (rep_mono hM (fun _ _ h => h) (.nil sz) c h)
  | .sptr x o, c, h => rep_of_pure (rep_mono hM (fun _ _ h => h) (.sptr x o) c h)
  | .nilptr, c, h => rep_of_pure (rep_mono hM (fun _ _ h => h) .nilptr c h)
  | .fn f x y, c, h => rep_of_pure (rep_mono hM (fun _ _ h => h) (.fn f x y) c h)
  | .nilfn, c, h => rep_of_pure (rep_mono hM (fun _ _ h => h) .nilfn c h)
  | .iface t x, c, h => rep_of_pure (rep_mono hM (fun _ _ h => h) (.iface t x) c h)
  | .niliface, c, h => rep_of_pure (rep_mono hM (fun _ _ h => h) .niliface c h)
  | .junk, c, h => rep_of_pure (rep_mono hM (fun _ _ h => h) .junk c h)
  | .ref _ _, _, h => h.elim
  | .ptr _ _, _, h => h.elim
  | .eptr _ _ _ _, _, h => h.elim
  | .mref _ _ _, _, h => h.elim
  | .mptr _ _ _ _ _, _, h => h.elim
  | .fseq _ _, _, h => h.elim
theorem fzs_rep {Mn M : Mem} {X : V → Value → Prop} (hM : ∀ p v, Mn p = some v → M p = some v) (hX : ∀ sz l c, isCell c → rep Mn NX (.seq sz l) c → X (.fseq sz l) c) : ∀ {vs : List V} {cs : List Value}, repAll Mn NX vs cs → repAll M X (fzs vs) cs
  | [], cs, h => h
  | v :: vs, cs, h => by
    simp only [repAll, fzs] at h ⊢
    obtain ⟨c, cs', h1, h2, h3⟩ := h
    exact ⟨c, cs', h1, fz_rep hM hX h2, fzs_rep hM hX h3⟩
end
/-! ### Handing on -/
open Classical in
noncomputable def ext (M : Mem) (w : World) (bs : Nat → Prop) : Mem := fun p => if bs p.block then w.cell? p else M p

theorem repRow_mem {M' : Mem} {sz g : Nat} (hM : ∀ p v, M p = some v → M' p = some v) : ∀ {l : List V} {xs : List Value} (off : Nat), repRow M sz l xs → (∀ j u, xs[j]? = some u → M' ⟨g, off + j, none⟩ = some u) → repMem M' sz l g off
  | [], _, _, _, _ => by simp [repMem]
  | v :: vs, xs, off, h, hx => by
    simp only [repRow] at h
    obtain ⟨y, rest, rfl, g1, g2, g3, g4⟩ := h
    simp only [repMem]
    refine ⟨⟨y, rep_mono hM (fun _ _ h => h) _ _ g1, g2, g3, fun j hj => ?_⟩, repRow_mem hM (off + sz) g4 fun j u hu => ?_⟩
    · have h1 : (y.cells.toList ++ rest)[j]? = y.cells[j]? := by
        rw [List.getElem?_append_left (by simp; omega)]; simp
      rw [Array.getElem?_eq_getElem (by omega)] at h1 ⊢
      exact hx j _ h1
    · have := hx (sz + j) u (by rw [List.getElem?_append_right (by simp; omega)]; simp [g2, hu])
      rw [← this]; congr 2; omega

/-- A row, once nobody writes it. -/
theorem row_rep {Mr Mn : Mem} (hM : ∀ p v, Mr p = some v → Mn p = some v) {e sz : Nat} {val : Value} {l : List V} {xs : List Value} (h2 : w.ownsRow 0 e sz val l.length xs) (h3 : repRow Mr sz l xs) (h0 : 0 < sz) (h1 : l.length ≤ 140737488355328)
    (hown : ∀ g, blk val = some g → ∀ p : Addr, p.block = g → Mn p = w.cell? p) {X : V → Value → Prop} : rep Mn X (.seq sz l) val := by
  simp only [rep]
  rcases h2.2 with ⟨h4, h5⟩ | ⟨g, cap, cur, h4, h5, h6, h7, h8, h9⟩
  · have : l = [] := List.eq_nil_of_length_eq_zero h5
    subst this
    exact ⟨none, 0, by rw [h4]; rfl, by simp, by simp, h0, by simp⟩
  · refine ⟨some ⟨g, 0, none⟩, cap, by rw [h4], h7, h1, h0, .inr ⟨g, 0, rfl, ?_⟩⟩
    refine repRow_mem hM 0 h3 fun j u hu => ?_
    rw [hown g (by rw [h4]; rfl) _ rfl]
    have := h2.cells (g := g) (by rw [h4]; rfl) j u hu
    rwa [Addr.add_lit] at this
theorem allRows_get {sz : Nat} : ∀ {rows : List (Option (List V))} {vs : List V}, allRows sz rows = some vs → vs.length = rows.length ∧ ∀ (i : Nat) (v : V), vs[i]? = some v → ∃ r, rowAt rows i = some r ∧ v = .seq sz r
  | [], vs, h => by simp only [allRows] at h; cases h; simp
  | some r :: rows, vs, h => by
    simp only [allRows] at h
    split at h
    · rename_i us hus
      cases h
      obtain ⟨k1, k2⟩ := allRows_get hus
      refine ⟨by simp [k1], fun i v hi => ?_⟩
      cases i with
      | zero => simp at hi; exact ⟨r, by simp [rowAt], hi.symm⟩
      | succ i =>
        simp at hi
        obtain ⟨r', k3, k4⟩ := k2 i v hi
        exact ⟨r', by simpa [rowAt] using k3, k4⟩
    · cases h
  | none :: rows, vs, h => by simp [allRows] at h
theorem repRow_of {Mr : Mem} : ∀ {vs : List V} {xs : List Value}, vs.length = xs.length → (∀ (i : Nat) (v : V), vs[i]? = some v → ∃ c : Value, xs[i]? = some c ∧ isCell c ∧ rep Mr NX v c) → repRow Mr 1 vs xs
  | [], xs, h, _ => by
    simp only [repRow]
    exact List.eq_nil_of_length_eq_zero (by simpa using h.symm)
  | v :: vs, [], h, _ => by simp at h
  | v :: vs, x :: xs, h, hx => by
    simp only [repRow]
    obtain ⟨c, h1, h2, h3⟩ := hx 0 v (by simp)
    simp at h1
    subst h1
    exact ⟨x, xs, by simp [cells_of_isCell h2], h3, by simp [cells_of_isCell h2], by simp [cells_of_isCell h2, h2], repRow_of (by simpa using h) fun i u hi => hx (i + 1) u (by simpa using hi)⟩
/-- A row of rows, once nobody writes it. -/
theorem mat_rep {Mr Mn : Mem} (hM : ∀ p v, Mr p = some v → Mn p = some v) {id e e2 sz : Nat} {rows : List (Option (List V))} {X Y : V → Value → Prop} (h : obAt κ M Y B w id (.mat e e2 sz rows)) (hr : ∀ i r xs, rowAt rows i = some r → repRow M sz r xs → repRow Mr sz r xs)
    {vs : List V} (hv : allRows sz rows = some vs) (hown : ∀ g, κ.bl id g → ∀ p : Addr, p.block = g → Mn p = w.cell? p) : rep Mn X (.seq 1 vs) (κ id) := by
  obtain ⟨h0, h1, ⟨xs, h2, h3, h4⟩, h5, h6, h7, _, hbl⟩ := h
  obtain ⟨k1, k2⟩ := allRows_get hv
  have hxl : xs.length = rows.length := by have := h2.1; simpa using this
  rw [← k1] at h2 h1
  refine row_rep (Mr := Mn) (fun _ _ h => h) h2 (repRow_of (by omega) fun i v hi => ?_) (by omega) h1 (fun g hg => hown g ((hbl g).2 (.inl hg)))
  obtain ⟨r, k3, rfl⟩ := k2 i v hi
  obtain ⟨k4, ys, k5, k6⟩ := h5 i r k3
  exact ⟨_, h4 i r k3, h3 _ (List.mem_of_getElem? (h4 i r k3)), row_rep hM k5 (hr i r ys k3 k6) h0 k4 fun g hg => hown g ((hbl g).2 (.inr ⟨i, r, k3, hg⟩))⟩
theorem mrow_rep {Mr Mn : Mem} (hM : ∀ p v, Mr p = some v → Mn p = some v) {id e e2 sz i : Nat} {rows : List (Option (List V))} {r : List V} {X Y : V → Value → Prop} (h : obAt κ M Y B w id (.mat e e2 sz rows)) (k3 : rowAt rows i = some r) (hr : ∀ xs, repRow M sz r xs → repRow Mr sz r xs)
    (hown : ∀ g, κ.bl id g → ∀ p : Addr, p.block = g → Mn p = w.cell? p) : rep Mn X (.seq sz r) (κ.row id i) := by
  obtain ⟨h0, h1, ⟨xs, h2, h3, h4⟩, h5, h6, h7, _, hbl⟩ := h
  obtain ⟨k4, ys, k5, k6⟩ := h5 i r k3
  exact row_rep hM k5 (hr ys k6) h0 k4 fun g hg => hown g ((hbl g).2 (.inr ⟨i, r, k3, hg⟩))

mutual
theorem pur_rep (H : Rel N M0 B w0 κ M σ a w) {M' : Mem} (hM : ∀ p v, M p = some v → M' p = some v) : ∀ {v u : V} {c : Value} (hown : ∀ id ∈ vids v, ∀ g, κ.bl id g → ∀ p, p.block = g → M' p = w.cell? p), rep M (XX κ σ.h) v c → pur σ.h v = some u → rep M' NX u c
  | .int _ _, u, c, _, h, hp => by simp only [pur] at hp; cases hp; exact h
  | .bool _, u, c, _, h, hp => by simp only [pur] at hp; cases hp; exact h
  | .str _, u, c, _, h, hp => by simp only [pur] at hp; cases hp; exact h
  | .nil sz, u, c, _, h, hp => by
    simp only [pur] at hp; cases hp
    simp only [rep] at h ⊢
    exact ⟨none, 0, by simpa using h.1, by simp, by simp, h.2, by simp⟩
  | .seq sz l, u, c, _, h, hp => by simp only [pur] at hp; cases hp; exact rep_mono hM (X := NX) (fun _ _ h => h) (.seq sz l) c h
  | .ref id n, u, c, hown, h, hp => by
    simp only [pur, pur1] at hp
    split at hp
    · rename_i e sz l hh
      split at hp
      · rename_i hn
        cases hp
        simp only [rep, XX] at h
        have hc := (h.2.2.1 e sz l hh).2 hn
        obtain ⟨h0, h1, xs, h2, h3, _, hbl⟩ := H.heap id _ hh
        rw [hc]
        exact row_rep hM h2 h3 h0 h1 fun g hg => hown id (by simp [vids]) g ((hbl g).2 hg)
      · cases hp
    · rename_i e e2 sz rows hh
      split at hp
      · rename_i hn
        obtain ⟨vs, hvs, rfl⟩ := Option.map_eq_some_iff.1 hp
        simp only [rep, XX] at h
        have hc := (h.2.2.2.1 e e2 sz rows hh).2 hn
        rw [hc]
        exact mat_rep hM (H.heap id _ hh) (fun _ _ _ _ h => h) hvs (hown id (by simp [vids]))
      · cases hp
    · cases hp
  | .fseq sz l, u, c, _, h, hp => by
    simp only [pur] at hp; cases hp
    simp only [rep, XX] at h
    exact rep_mono (fun p v hp => hM p v (H.sub.fmS p v hp)) (X := NX) (fun _ _ h => h) (.seq sz l) c (by simp only [rep]; exact h.2)
  | .mref id i n, u, c, hown, h, hp => by
    simp only [pur, pur2] at hp
    split at hp
    · rename_i e e2 sz rows hh
      split at hp
      · rename_i r hr
        split at hp
        · rename_i hn
          cases hp
          simp only [rep, XX] at h
          have hc := (h.2.2 e e2 sz rows hh r hr).2 hn
          rw [hc]
          exact mrow_rep hM (H.heap id _ hh) hr (fun _ h => h) (hown id (by simp [vids]))
        · cases hp
      · cases hp
    · cases hp
  | .mptr _ _ _ _ _, u, c, _, h, hp => by simp [pur] at hp
  | .strct cs, u, c, hown, h, hp => by
    simp only [pur] at hp
    obtain ⟨us, hus, rfl⟩ := Option.map_eq_some_iff.1 hp
    simp only [rep] at h ⊢
    obtain ⟨arr, h1, h2, h3⟩ := h
    exact ⟨arr, h1, purs_rep H hM (by simpa only [vids] using hown) h2 hus, h3⟩
  | .ptr _ _, u, c, _, h, hp => by simp [pur] at hp
  | .eptr _ _ _ _, u, c, _, h, hp => by simp [pur] at hp
  | .sptr x off, u, c, _, h, hp => by simp only [pur] at hp; cases hp; exact rep_mono hM (X := NX) (fun _ _ h => h) (.sptr x off) c h
  | .nilptr, u, c, _, h, hp => by simp only [pur] at hp; cases hp; exact h
  | .fn f x y, u, c, hown, h, hp => by
    simp only [pur] at hp
    split at hp
    · rename_i x' y' hx hy
      cases hp
      simp only [rep] at h ⊢
      obtain ⟨a1, a2, h1, h2, h3⟩ := h
      simp only [vids, List.mem_append] at hown
      exact ⟨a1, a2, h1, purs_rep H hM (fun id hi => hown id (.inl hi)) h2 hx, purs_rep H hM (fun id hi => hown id (.inr hi)) h3 hy⟩
    · cases hp
  | .nilfn, u, c, _, h, hp => by simp only [pur] at hp; cases hp; exact h
  | .iface t x, u, c, hown, h, hp => by
    simp only [pur] at hp
    obtain ⟨x', hx, rfl⟩ := Option.map_eq_some_iff.1 hp
    simp only [rep] at h ⊢
    obtain ⟨y, h1, h2⟩ := h
    exact ⟨y, h1, pur_rep H hM (by simpa only [vids] using hown) h2 hx⟩
  | .niliface, u, c, _, h, hp => by simp only [pur] at hp; cases hp; exact h
  | .tup vs, u, c, hown, h, hp => by
    simp only [pur] at hp
    obtain ⟨us, hus, rfl⟩ := Option.map_eq_some_iff.1 hp
    simp only [rep] at h ⊢
    obtain ⟨arr, h1, h2⟩ := h
    exact ⟨arr, h1, purs_rep H hM (by simpa only [vids] using hown) h2 hus⟩
  | .junk, u, c, _, h, hp => by simp only [pur] at hp; cases hp; exact h
theorem purs_rep (H : Rel N M0 B w0 κ M σ a w) {M' : Mem} (hM : ∀ p v, M p = some v → M' p = some v) : ∀ {vs us : List V} {cs : List Value} (hown : ∀ id ∈ vidss vs, ∀ g, κ.bl id g → ∀ p, p.block = g → M' p = w.cell? p), repAll M (XX κ σ.h) vs cs → purs σ.h vs = some us → repAll M' NX us cs
  | [], us, cs, _, h, hp => by simp only [purs] at hp; cases hp; exact h
  | v :: vs, us, cs, hown, h, hp => by
    simp only [purs] at hp
    split at hp
    · rename_i u us' hu hus
      cases hp
      simp only [repAll] at h ⊢
      obtain ⟨c, cs', h1, h2, h3⟩ := h
      simp only [vidss, List.mem_append] at hown
      exact ⟨c, cs', h1, pur_rep H hM (fun id hi => hown id (.inl hi)) h2 hu, purs_rep H hM (fun id hi => hown id (.inr hi)) h3 hus⟩
    · cases hp
end

mutual
theorem rep_flat {M M' : Mem} {X X' : V → Value → Prop} : ∀ {v : V} {c : Value}, flat v = true → rep M X v c → rep M' X' v c
  | .int _ _, _, _, h => h
  | .bool _, _, _, h => h
  | .str _, _, _, h => h
  | .nil _, _, _, h => h
  | .seq sz l, _, hf, h => by
    simp only [flat] at hf
    have : l = [] := by simpa using hf
    subst this
    simp only [rep] at h ⊢
    obtain ⟨a, cap, h1, h1', h2, h3, _⟩ := h
    exact ⟨a, cap, h1, h1', h2, h3, by simp⟩
  | .strct cs, c, hf, h => by
    simp only [flat] at hf
    simp only [rep] at h ⊢
    obtain ⟨arr, h1, h2, h3⟩ := h
    exact ⟨arr, h1, repAll_flat hf h2, h3⟩
  | .ref _ _, _, hf, _ => by simp [flat] at hf
  | .ptr _ _, _, hf, _ => by simp [flat] at hf
  | .eptr _ _ _ _, _, hf, _ => by simp [flat] at hf
  | .mref _ _ _, _, hf, _ => by simp [flat] at hf
  | .fseq _ _, _, hf, _ => by simp [flat] at hf
  | .mptr _ _ _ _ _, _, hf, _ => by simp [flat] at hf
  | .sptr _ _, _, hf, _ => by simp [flat] at hf
  | .nilptr, _, _, h => h
  | .fn f x y, c, hf, h => by
    simp only [flat, Bool.and_eq_true] at hf
    simp only [rep] at h ⊢
    obtain ⟨a1, a2, h1, h2, h3⟩ := h
    exact ⟨a1, a2, h1, repAll_flat hf.1 h2, repAll_flat hf.2 h3⟩
  | .nilfn, _, _, h => h
  | .iface t x, c, hf, h => by
    simp only [flat] at hf
    simp only [rep] at h ⊢
    obtain ⟨y, h1, h2⟩ := h
    exact ⟨y, h1, rep_flat hf h2⟩
  | .niliface, _, _, h => h
  | .tup vs, c, hf, h => by
    simp only [flat] at hf
    simp only [rep] at h ⊢
    obtain ⟨arr, h1, h2⟩ := h
    exact ⟨arr, h1, repAll_flat hf h2⟩
  | .junk, _, _, h => h
theorem repAll_flat {M M' : Mem} {X X' : V → Value → Prop} : ∀ {vs : List V} {cs : List Value}, flats vs = true → repAll M X vs cs → repAll M' X' vs cs
  | [], _, _, h => h
  | v :: vs, cs, hf, h => by
    simp only [flats, Bool.and_eq_true] at hf
    simp only [repAll] at h ⊢
    obtain ⟨c, cs', h1, h2, h3⟩ := h
    exact ⟨c, cs', h1, rep_flat hf.1 h2, repAll_flat hf.2 h3⟩
end

mutual
theorem rep_ok {M : Mem} {X : V → Value → Prop} : ∀ {v : V} {c : Value}, rep M X v c → ok v
  | .int _ _, _, h => by simp only [rep] at h; exact h.2
  | .bool _, _, _ => trivial
  | .str _, _, h => by simp only [rep] at h; obtain ⟨_, _, _, h⟩ := h; exact h
  | .nil _, _, _ => trivial
  | .seq sz l, _, h => by
    simp only [rep] at h
    obtain ⟨a, cap, _, _, h2, _, h3⟩ := h
    simp only [ok]
    refine ⟨h2, ?_⟩
    rcases h3 with rfl | ⟨b, off, _, h4⟩
    · trivial
    · exact repMem_ok h4
  | .strct cs, c, h => by
    simp only [rep] at h
    obtain ⟨arr, _, h2, _⟩ := h
    simp only [ok]
    exact repAll_ok h2
  | .ref _ _, _, _ => trivial
  | .ptr _ _, _, _ => trivial
  | .eptr _ _ _ _, _, _ => trivial
  | .mref _ _ _, _, _ => trivial
  | .fseq _ _, _, _ => trivial
  | .mptr _ _ _ _ _, _, _ => trivial
  | .sptr x _, _, h => by
    simp only [rep] at h
    obtain ⟨_, _, y, _, h2, _⟩ := h
    simp only [ok]
    exact rep_ok h2
  | .nilptr, _, _ => trivial
  | .fn f x y, c, h => by
    simp only [rep] at h
    obtain ⟨a1, a2, h1, h2, h3⟩ := h
    exact ⟨repAll_ok h2, repAll_ok h3⟩
  | .nilfn, _, _ => trivial
  | .iface t x, c, h => by
    simp only [rep] at h
    obtain ⟨y, h1, h2⟩ := h
    simp only [ok]
    exact rep_ok h2
  | .niliface, _, _ => trivial
  | .tup vs, c, h => by
    simp only [rep] at h
    obtain ⟨arr, h1, h2⟩ := h
    simp only [ok]
    exact repAll_ok h2
  | .junk, _, _ => trivial
theorem repAll_ok {M : Mem} {X : V → Value → Prop} : ∀ {vs : List V} {cs : List Value}, repAll M X vs cs → oks vs
  | [], _, _ => trivial
  | v :: vs, cs, h => by
    simp only [repAll] at h
    obtain ⟨c, cs', h1, h2, h3⟩ := h
    exact ⟨rep_ok h2, repAll_ok h3⟩
theorem repMem_ok {M : Mem} : ∀ {sz : Nat} {l : List V} {b off : Nat}, repMem M sz l b off → oks l
  | _, [], _, _, _ => trivial
  | sz, v :: vs, b, off, h => by
    simp only [repMem] at h
    obtain ⟨⟨y, h1, _⟩, h2⟩ := h
    exact ⟨rep_ok h1, repMem_ok h2⟩
end

def blks (κ : Kap) (ids : List Nat) : Nat → Prop := fun g => ∃ id ∈ ids, κ.bl id g
theorem mem_blks {g : Nat} {ids : List Nat} : blks κ ids g ↔ ∃ id ∈ ids, κ.bl id g := Iff.rfl

theorem kill_h : ∀ (ids : List Nat) (σ : St), (σ.kill ids).r = σ.r ∧ (σ.kill ids).h.length = σ.h.length ∧ ∀ i ob, (σ.kill ids).h[i]? = some (some ob) → σ.h[i]? = some (some ob) ∧ i ∉ ids
  | [], σ => ⟨rfl, rfl, fun i ob h => ⟨h, by simp⟩⟩
  | id :: ids, σ => by
    simp only [St.kill]
    obtain ⟨h1, h2, h3⟩ := kill_h ids { σ with h := σ.h.set id none }
    refine ⟨h1, by simpa using h2, fun i ob h => ?_⟩
    obtain ⟨h4, h5⟩ := h3 i ob h
    simp only [List.getElem?_set] at h4
    split at h4
    · rename_i he
      split at h4 <;> cases h4
    · rename_i he
      exact ⟨h4, by simp; exact ⟨fun e => he e.symm, h5⟩⟩

/-- What was the call's own is so no more: nobody writes it from here on. Only rows are handed on so. -/
theorem Rel.kill (H : Rel N M0 B w0 κ M σ a w) (ids : List Nat) (hin : ∀ id ∈ ids, ∃ ob, σ.h[id]? = some (some ob)) :
    Rel N M0 B w0 κ (ext M w (blks κ ids)) (σ.kill ids) a w ∧ (∀ p v, M p = some v → ext M w (blks κ ids) p = some v) := by
  obtain ⟨k1, k2, k3⟩ := kill_h ids σ
  have hM : ∀ p v, M p = some v → ext M w (blks κ ids) p = some v := by
    intro p v h
    unfold ext
    split
    · exact H.snd p v h
    · exact h
  have hs : ∀ p v, ext M w (blks κ ids) p = some v → w.cell? p = some v := by
    intro p v h
    unfold ext at h
    split at h
    · exact h
    · exact H.snd p v h
  have hX : ∀ v c, XX κ σ.h v c → XX κ (σ.kill ids).h v c := fun v c hx => XX_lt hx (by omega) (fun _ _ => rfl) (fun _ _ => rfl) (fun i ob hi h => (k3 i ob h).1)
  refine ⟨{ dfr := H.dfr, pin := H.pin, size := H.size, regs := ?_, heap := ?_, inj := ?_, snd := hs, sep := ?_, sub := ⟨fun p v h => hM p v (H.sub.sub p v h), fun p v h => hM p v (H.sub.fmS p v h), H.sub.fmN, H.sub.fbn, H.sub.gl⟩, new := ?_, base := H.base, blw := H.blw }, hM⟩
  · intro t v ht
    rw [k1] at ht
    obtain ⟨h1, c, h2, h3⟩ := H.regs t v ht
    exact ⟨h1, c, h2, rep_mono hM hX _ _ h3⟩
  · intro id ob h
    exact obAt_mono hM hX ⟨rfl, rfl, rfl⟩ (fun _ _ => rfl) (H.heap id ob (k3 id ob h).1)
  · intro i j oi oj g hi hj
    exact H.inj i j oi oj g (k3 i oi hi).1 (k3 j oj hj).1
  · intro p v hp id ob h
    obtain ⟨h1, h2⟩ := k3 id ob h
    unfold ext at hp
    split at hp
    · rename_i hm
      obtain ⟨id', h3, h4⟩ := mem_blks.1 hm
      obtain ⟨ob', h5⟩ := hin id' h3
      intro hg
      have := H.inj id' id ob' ob p.block h5 h1 h4 hg
      subst this
      exact h2 h3
    · exact H.sep p v hp id ob h1
  · intro p v hp
    unfold ext at hp
    split at hp
    · rename_i hm
      obtain ⟨id', h3, h4⟩ := mem_blks.1 hm
      obtain ⟨ob', h5⟩ := hin id' h3
      exact .inr (H.blk_lt h5 h4).1
    · exact H.new p v hp

mutual
theorem pur_in {h : List (Option Ob)} : ∀ {v u : V}, pur h v = some u → ∀ id ∈ vids v, ∃ ob, h[id]? = some (some ob)
  | .int _ _, _, _, _, hi => by simp [vids] at hi
  | .bool _, _, _, _, hi => by simp [vids] at hi
  | .str _, _, _, _, hi => by simp [vids] at hi
  | .nil _, _, _, _, hi => by simp [vids] at hi
  | .seq _ _, _, _, _, hi => by simp [vids] at hi
  | .sptr _ _, _, _, _, hi => by simp [vids] at hi
  | .nilptr, _, _, _, hi => by simp [vids] at hi
  | .nilfn, _, _, _, hi => by simp [vids] at hi
  | .niliface, _, _, _, hi => by simp [vids] at hi
  | .junk, _, _, _, hi => by simp [vids] at hi
  | .ref i n, u, hp, id, hi => by
    simp only [vids, List.mem_singleton] at hi
    subst hi
    simp only [pur, pur1] at hp
    split at hp
    · exact ⟨_, by assumption⟩
    · exact ⟨_, by assumption⟩
    · cases hp
  | .fseq _ _, _, _, _, hi => by simp [vids] at hi
  | .mref j i n, u, hp, id, hi => by
    simp only [vids, List.mem_singleton] at hi
    subst hi
    simp only [pur, pur2] at hp
    split at hp
    · exact ⟨_, by assumption⟩
    · cases hp
  | .mptr _ _ _ _ _, _, hp, _, _ => by simp [pur] at hp
  | .ptr _ _, _, hp, _, _ => by simp [pur] at hp
  | .eptr _ _ _ _, _, hp, _, _ => by simp [pur] at hp
  | .strct cs, u, hp, id, hi => by
    simp only [pur] at hp
    obtain ⟨us, hus, _⟩ := Option.map_eq_some_iff.1 hp
    exact purs_in hus id (by simpa only [vids] using hi)
  | .tup cs, u, hp, id, hi => by
    simp only [pur] at hp
    obtain ⟨us, hus, _⟩ := Option.map_eq_some_iff.1 hp
    exact purs_in hus id (by simpa only [vids] using hi)
  | .fn f x y, u, hp, id, hi => by
    simp only [pur] at hp
    split at hp
    · rename_i x' y' hx hy
      simp only [vids, List.mem_append] at hi
      rcases hi with hi | hi
      · exact purs_in hx id hi
      · exact purs_in hy id hi
    · cases hp
  | .iface t x, u, hp, id, hi => by
    simp only [pur] at hp
    obtain ⟨x', hx, _⟩ := Option.map_eq_some_iff.1 hp
    exact pur_in hx id (by simpa only [vids] using hi)
theorem purs_in {h : List (Option Ob)} : ∀ {vs us : List V}, purs h vs = some us → ∀ id ∈ vidss vs, ∃ ob, h[id]? = some (some ob)
  | [], _, _, _, hi => by simp [vidss] at hi
  | v :: vs, us, hp, id, hi => by
    simp only [purs] at hp
    split at hp
    · rename_i u us' hu hus
      simp only [vidss, List.mem_append] at hi
      rcases hi with hi | hi
      · exact pur_in hu id hi
      · exact purs_in hus id hi
    · cases hp
end

/-! ### What lies in what the call made itself -/
def flatR : List (Option (List V)) → Bool
  | [] => true
  | some r :: l => flats r && flatR l
  | none :: _ => false
theorem flatR_at : ∀ {rows : List (Option (List V))} {i : Nat} {r : List V}, flatR rows = true → rowAt rows i = some r → flats r = true
  | [], i, r, _, h => by simp [rowAt] at h
  | some x :: rows, i, r, hf, h => by
    simp only [flatR, Bool.and_eq_true] at hf
    cases i with
    | zero => simp [rowAt] at h; rw [← h]; exact hf.1
    | succ i => exact flatR_at (i := i) hf.2 (by simpa [rowAt] using h)
  | none :: rows, i, r, hf, h => by simp [flatR] at hf
mutual
def fre (h : List (Option Ob)) : V → Bool
  | .ref id _ => match h[id]? with
    | some (some (.arr _ _ l)) => flats l
    | some (some (.mat _ _ _ rows)) => flatR rows
    | _ => false
  | .nil _ => true
  | .strct cs => fres h cs
  | .tup cs => fres h cs
  | .int _ _ => true
  | .bool _ => true
  | .str _ => true
  | .nilptr => true
  | .nilfn => true
  | .niliface => true
  | .seq _ l => l.isEmpty
  | .fseq _ _ => true
  | _ => false
def fres (h : List (Option Ob)) : List V → Bool
  | [] => true
  | v :: vs => fre h v && fres h vs
end
theorem repRow_flat {M M' : Mem} {sz : Nat} : ∀ {l : List V} {xs : List Value}, flats l = true → repRow M sz l xs → repRow M' sz l xs
  | [], _, _, h => h
  | v :: vs, xs, hf, h => by
    simp only [flats, Bool.and_eq_true] at hf
    simp only [repRow] at h ⊢
    obtain ⟨y, rest, h1, h2, h3, h4, h5⟩ := h
    exact ⟨y, rest, h1, rep_flat hf.1 h2, h3, h4, repRow_flat hf.2 h5⟩
mutual
theorem fre_rep (H : Rel N M0 B w0 κ M σ a w) {Mn : Mem} (hfm : ∀ p v, κ.fm p = some v → Mn p = some v) : ∀ {v u : V} {c : Value} (hown : ∀ id ∈ vids v, ∀ g, κ.bl id g → ∀ p, p.block = g → Mn p = w.cell? p), fre σ.h v = true → rep M (XX κ σ.h) v c → pur σ.h v = some u → rep Mn NX u c
  | .ref id n, u, c, hown, hf, h, hp => by
    simp only [pur, pur1] at hp
    split at hp
    · rename_i e sz l hh
      split at hp
      · rename_i hn
        cases hp
        simp only [fre, hh] at hf
        simp only [rep, XX] at h
        have hc := (h.2.2.1 e sz l hh).2 hn
        obtain ⟨h0, h1, xs, h2, h3, _, hbl⟩ := H.heap id _ hh
        rw [hc]
        exact row_rep (Mr := Mn) (fun _ _ h => h) h2 (repRow_flat hf h3) h0 h1 fun g hg => hown id (by simp [vids]) g ((hbl g).2 hg)
      · cases hp
    · rename_i e e2 sz rows hh
      split at hp
      · rename_i hn
        obtain ⟨vs, hvs, rfl⟩ := Option.map_eq_some_iff.1 hp
        simp only [fre, hh] at hf
        simp only [rep, XX] at h
        have hc := (h.2.2.2.1 e e2 sz rows hh).2 hn
        rw [hc]
        exact mat_rep (Mr := Mn) (fun _ _ h => h) (H.heap id _ hh) (fun i r xs hi h => repRow_flat (flatR_at hf hi) h) hvs (hown id (by simp [vids]))
      · cases hp
    · cases hp
  | .nil sz, u, c, _, _, h, hp => by
    simp only [pur] at hp; cases hp
    simp only [rep] at h ⊢
    exact ⟨none, 0, by simpa using h.1, by simp, by simp, h.2, by simp⟩
  | .strct cs, u, c, hown, hf, h, hp => by
    simp only [pur] at hp
    obtain ⟨us, hus, rfl⟩ := Option.map_eq_some_iff.1 hp
    simp only [rep] at h ⊢
    obtain ⟨arr, h1, h2, h3⟩ := h
    exact ⟨arr, h1, fres_rep H hfm (by simpa only [vids] using hown) (by simpa only [fre] using hf) h2 hus, h3⟩
  | .tup cs, u, c, hown, hf, h, hp => by
    simp only [pur] at hp
    obtain ⟨us, hus, rfl⟩ := Option.map_eq_some_iff.1 hp
    simp only [rep] at h ⊢
    obtain ⟨arr, h1, h2⟩ := h
    exact ⟨arr, h1, fres_rep H hfm (by simpa only [vids] using hown) (by simpa only [fre] using hf) h2 hus⟩
  | .int _ _, _, _, _, _, h, hp => by simp only [pur] at hp; cases hp; exact h
  | .bool _, _, _, _, _, h, hp => by simp only [pur] at hp; cases hp; exact h
  | .str _, _, _, _, _, h, hp => by simp only [pur] at hp; cases hp; exact h
  | .nilptr, _, _, _, _, h, hp => by simp only [pur] at hp; cases hp; exact h
  | .nilfn, _, _, _, _, h, hp => by simp only [pur] at hp; cases hp; exact h
  | .niliface, _, _, _, _, h, hp => by simp only [pur] at hp; cases hp; exact h
  | .seq sz l, _, _, _, hf, h, hp => by
    simp only [pur] at hp; cases hp
    exact rep_flat (v := .seq sz l) (by simpa only [flat, fre] using hf) h
  | .ptr _ _, _, _, _, hf, _, _ => by simp [fre] at hf
  | .eptr _ _ _ _, _, _, _, hf, _, _ => by simp [fre] at hf
  | .mref _ _ _, _, _, _, hf, _, _ => by simp [fre] at hf
  | .fseq sz l, _, c, _, _, h, hp => by
    simp only [pur] at hp; cases hp
    simp only [rep, XX] at h
    exact rep_mono hfm (X := NX) (fun _ _ h => h) (.seq sz l) c (by simp only [rep]; exact h.2)
  | .mptr _ _ _ _ _, _, _, _, hf, _, _ => by simp [fre] at hf
  | .sptr _ _, _, _, _, hf, _, _ => by simp [fre] at hf
  | .fn _ _ _, _, _, _, hf, _, _ => by simp [fre] at hf
  | .iface _ _, _, _, _, hf, _, _ => by simp [fre] at hf
  | .junk, _, _, _, hf, _, _ => by simp [fre] at hf
theorem fres_rep (H : Rel N M0 B w0 κ M σ a w) {Mn : Mem} (hfm : ∀ p v, κ.fm p = some v → Mn p = some v) : ∀ {vs us : List V} {cs : List Value} (hown : ∀ id ∈ vidss vs, ∀ g, κ.bl id g → ∀ p, p.block = g → Mn p = w.cell? p), fres σ.h vs = true → repAll M (XX κ σ.h) vs cs → purs σ.h vs = some us → repAll Mn NX us cs
  | [], us, cs, _, _, h, hp => by simp only [purs] at hp; cases hp; exact h
  | v :: vs, us, cs, hown, hf, h, hp => by
    simp only [purs] at hp
    split at hp
    · rename_i u us' hu hus
      cases hp
      simp only [fres, Bool.and_eq_true] at hf
      simp only [repAll] at h ⊢
      obtain ⟨c, cs', h1, h2, h3⟩ := h
      exact ⟨c, cs', h1, fre_rep H hfm (fun id hid => hown id (by simp only [vidss, List.mem_append]; exact .inl hid)) hf.1 h2 hu, fres_rep H hfm (fun id hid => hown id (by simp only [vidss, List.mem_append]; exact .inr hid)) hf.2 h3 hus⟩
    · cases hp
end
end
end Go.Abs
