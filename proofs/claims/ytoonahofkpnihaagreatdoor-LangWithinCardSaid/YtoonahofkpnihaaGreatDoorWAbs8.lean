/-
  From the model's operations to those of the abstract machine: what holds behind an operation's qK holds behind the operation. No condition.
  From the model's code to that of the abstract machine: what 'W' says of the qK holds of the code. No condition.
-/
import Derived.Test.YtoonahofkpnihaaGreatDoorWAbs7
import Derived.Laws.IdiomStrings
set_option linter.unusedVariables false
set_option linter.unusedSimpArgs false
set_option linter.unusedSectionVars false
set_option maxHeartbeats 4000000
set_option maxRecDepth 100000
section
namespace Go.Abs
open Go.RowKit
section
variable {P : Program} {N : Nat} {M0 : Mem} {B : Bas} {w0 : World} {κ : Kap} {M : Mem} {σ : St} {a : Act} {w w' : World}

theorem XX_set {id : Nat} {old ob : Ob} {h : List (Option Ob)} (hid : h[id]? = some (some old)) {kv : Value} {kr : Nat → Value} {kb : Nat → Prop} {v : V} {c : Value} (hx : XX κ h v c)
 (hbox : ∀ cs, ob = .box cs → (∃ cs', old = .box cs') ∧ kv = κ id)
 (harr : ∀ e sz l, ob = .arr e sz l → ∃ e' l', old = .arr e' sz l' ∧ l'.length ≤ l.length ∧ (l'.length = l.length → kv = κ id))
 (hmat : ∀ e e2 sz rows, ob = .mat e e2 sz rows → ∃ e' e2' rows', old = .mat e' e2' sz rows' ∧ rows'.length = rows.length ∧ kv = κ id ∧ ∀ j r, zC rows j = some r → ∃ r', zC rows' j = some r' ∧ r'.length ≤ r.length ∧ (r'.length = r.length → kr j = κ.row id j))
 (hmp : ∀ kt l, ob = .mp kt l → ∃ kt' l', old = .mp kt' l' ∧ kv = κ id := by intro _ _ h; cases h) :
 XX (updK κ id kv kr kb) (h.set id (some ob)) v c := by
 have hlt : id < h.length := (List.getElem?_eq_some_iff.1 hid).1
 have key : ∀ {i : Nat} {o : Ob}, (h.set id (some ob))[i]? = some (some o) → (i = id ∧ ob = o) ∨ (i ≠ id ∧ h[i]? = some (some o)) := by
  intro i o hl
  rw [List.getElem?_set] at hl
  split at hl
  · rename_i he
    subst he
    simp only [hlt, if_true, Option.some.injEq] at hl
    exact .inl ⟨rfl, hl⟩
  · rename_i he
    exact .inr ⟨fun e => he e.symm, hl⟩
 cases v <;> simp only [XX] at hx ⊢
 case ref i n =>
  refine ⟨hx.1, by simpa using hx.2.1, fun e sz l hl => ?_, fun e e2 sz l hl => ?_, fun kt l hl => by
   rcases key hl with ⟨rfl, ho⟩ | ⟨he, hl⟩
   · obtain ⟨kt', l', h1, h2⟩ := hmp kt l ho
     subst h1
     rw [updK_v, h2]
     exact hx.2.2.2.2 _ _ hid
   · rw [(updK_ne he).1]
     exact hx.2.2.2.2 _ _ hl⟩
  · rcases key hl with ⟨rfl, ho⟩ | ⟨he, hl⟩
    · obtain ⟨e', l', h1, h2, h3⟩ := harr e sz l ho
      subst h1
      obtain ⟨g1, g2⟩ := hx.2.2.1 e' sz l' hid
      refine ⟨by omega, fun hn => ?_⟩
      rw [updK_v, h3 (by omega)]
      exact g2 (by omega)
    · rw [(updK_ne he).1]
      exact hx.2.2.1 e sz l hl
  · rcases key hl with ⟨rfl, ho⟩ | ⟨he, hl⟩
    · obtain ⟨e', e2', l', h1, h2, h3, h4⟩ := hmat e e2 sz l ho
      subst h1
      obtain ⟨g1, g2⟩ := hx.2.2.2.1 e' e2' sz l' hid
      refine ⟨by omega, fun hn => ?_⟩
      rw [updK_v, h3]
      exact g2 (by omega)
    · rw [(updK_ne he).1]
      exact hx.2.2.2.1 e e2 sz l hl
 case ptr i off =>
  refine ⟨hx.1, by simpa using hx.2.1, fun cs hl => ?_⟩
  rcases key hl with ⟨rfl, ho⟩ | ⟨he, hl⟩
  · obtain ⟨⟨cs', h1⟩, h2⟩ := hbox cs ho
    subst h1
    rw [updK_v, h2]
    exact hx.2.2 cs' hid
  · rw [(updK_ne he).1]
    exact hx.2.2 cs hl
 case eptr i n j off =>
  refine ⟨hx.1, by simpa using hx.2.1, fun e sz l hl => ?_, fun e e2 sz l hl => ?_⟩
  · rcases key hl with ⟨rfl, ho⟩ | ⟨he, hl⟩
    · obtain ⟨e', l', h1, h2, h3⟩ := harr e sz l ho
      subst h1
      obtain ⟨g1, g2⟩ := hx.2.2.1 e' sz l' hid
      refine ⟨by omega, fun hn hj => ?_⟩
      rw [updK_v, h3 (by omega)]
      exact g2 (by omega) hj
    · rw [(updK_ne he).1]
      exact hx.2.2.1 e sz l hl
  · rcases key hl with ⟨rfl, ho⟩ | ⟨he, hl⟩
    · obtain ⟨e', e2', l', h1, h2, h3, h4⟩ := hmat e e2 sz l ho
      subst h1
      obtain ⟨g1, g2⟩ := hx.2.2.2 e' e2' sz l' hid
      refine ⟨by omega, fun hn hj => ?_⟩
      rw [updK_v, h3]
      exact g2 (by omega) hj
    · rw [(updK_ne he).1]
      exact hx.2.2.2 e e2 sz l hl
 case fseq sz l => exact hx
 case mref i j n =>
  refine ⟨hx.1, by simpa using hx.2.1, fun e e2 sz l hl r hr => ?_⟩
  rcases key hl with ⟨rfl, ho⟩ | ⟨he, hl⟩
  · obtain ⟨e', e2', l', h1, h2, h3, h4⟩ := hmat e e2 sz l ho
    subst h1
    obtain ⟨r', h5, h6, h7⟩ := h4 j r hr
    obtain ⟨g1, g2⟩ := hx.2.2 e' e2' sz l' hid r' h5
    refine ⟨by omega, fun hn => ?_⟩
    rw [updK_row, h7 (by omega)]
    exact g2 (by omega)
  · rw [(updK_ne he).2.1]
    exact hx.2.2 e e2 sz l hl r hr
 case mptr i j n k off =>
  refine ⟨hx.1, by simpa using hx.2.1, fun e e2 sz l hl r hr => ?_⟩
  rcases key hl with ⟨rfl, ho⟩ | ⟨he, hl⟩
  · obtain ⟨e', e2', l', h1, h2, h3, h4⟩ := hmat e e2 sz l ho
    subst h1
    obtain ⟨r', h5, h6, h7⟩ := h4 j r hr
    obtain ⟨g1, g2⟩ := hx.2.2 e' e2' sz l' hid r' h5
    refine ⟨by omega, fun hn hk => ?_⟩
    rw [updK_row, h7 (by omega)]
    exact g2 (by omega) hk
  · rw [(updK_ne he).2.1]
    exact hx.2.2 e e2 sz l hl r hr

theorem below_setRow {g : Nat} (hg : B.own g) (cs : Array Value) (hsz : ∀ cur T z, w.heap[g]? = some (.cells cur T z) → cs.size = cur.size) : Und B w (w.setRow g cs) :=
 ⟨rfl, rfl, rfl, by simp, fun k hk hs => setRow_other w g k cs (fun e => by subst e; rcases hg with h | h; omega; exact hs h), fun k cur T z hc => by
   by_cases hk : k = g
   · subst hk
     exact ⟨cs, T, z, setRow_heap w k cur cs T z hc, hsz cur T z hc⟩
   · exact ⟨cur, T, z, by rw [setRow_other w g k cs hk]; exact hc, rfl⟩⟩

theorem grown_below {n : Nat} {row : Option Nat} (hg : w.grownBy w' row) (hr : ∀ g, row = some g → n ≤ g) (hB : n ≤ w.heap.size) : Below n w w' :=
 ⟨hg.os, hg.tape, hg.output, hg.size, fun k hk => hg.block k (by omega) (fun e => by have := hr k e.symm; omega)⟩
theorem setRow_size {e sz n n' b : Nat} {v : Value} {row : Array Value} {xs ys : List Value} (h1 : w.ownsRow 0 e sz v n xs) (h2 : (w.setRow b row).ownsRow 0 e sz v n' ys) (hb : blk v = some b) (cur : Array Value) (T : TypeId) (z : Nat × Nat) (hc : w.heap[b]? = some (Obj.cells cur T z)) : row.size = cur.size := by
 rcases h1.2 with ⟨h3, _⟩ | ⟨g, cap, cur1, h3, _, h4, _, _, h5, _⟩
 · rw [h3] at hb; cases hb
 · rcases h2.2 with ⟨h6, _⟩ | ⟨g', cap', cur2, h6, _, h7, _, _, h8, _⟩
   · rw [h6] at hb; cases hb
   · rw [h3] at hb h6
     simp only [blk, Option.some.injEq] at hb
     subst hb
     simp only [Value.slice.injEq, Option.some.injEq, Addr.mk.injEq, and_true] at h6
     obtain ⟨rfl, _, rfl⟩ := h6
     rw [hc] at h4
     simp only [Option.some.injEq, Obj.cells.injEq] at h4
     obtain ⟨rfl, _, _⟩ := h4
     rw [setRow_heap w g cur row T z hc] at h7
     simp only [Option.some.injEq, Obj.cells.injEq] at h7
     obtain ⟨rfl, _, _⟩ := h7
     rw [h5, h8]
theorem grown_und {row : Option Nat} (hg : w.grownBy w' row) (hr : ∀ g, row = some g → B.own g) (hB : B.n ≤ w.heap.size) (hs : Siz w w') : Und B w w' :=
 ⟨hg.os, hg.tape, hg.output, hg.size, fun k hk hs => hg.block k (by omega) (fun e => by rcases hr k e.symm with h | h; omega; exact hs h), hs⟩

theorem src_row {e sz : Nat} {val : Value} {l : List V} {xs : List Value} (h2 : w.ownsRow 0 e sz val l.length xs) (h3 : qJ M sz l xs) (h0 : 0 < sz) (h1 : l.length ≤ 140737488355328) :
 ∃ (ad : Option Addr) (cap : Nat), val = .slice ad l.length cap ∧ l.length ≤ 140737488355328 ∧ 0 < sz ∧ (l = [] ∨ ∃ (b off : Nat) (xs : List Value), ad = some ⟨b, off, none⟩ ∧ qJ M sz l xs ∧ ∀ j u, xs[j]? = some u → w.cell? ((⟨b, off, none⟩ : Addr).add j) = some u) := by
 rcases h2.2 with ⟨h4, h5⟩ | ⟨g, cap, cur, h4, h5, h6, h7, h8, h9⟩
 · exact ⟨none, 0, by rw [h4, h5], h1, h0, .inl (List.eq_nil_of_length_eq_zero h5)⟩
 · exact ⟨some ⟨g, 0, none⟩, cap, by rw [h4], h1, h0, .inr ⟨g, 0, xs, rfl, h3, fun j u hu => h2.cells (g := g) (by rw [h4]; rfl) j u hu⟩⟩
theorem seq_src (H : Rel N M0 B w0 κ M σ a w) {v : V} {c : Value} {sz : Nat} {l : List V} (hr : rep M (XX κ σ.h) v c) (hp : src σ.h v = some (.seq sz l)) :
 ∃ (ad : Option Addr) (cap : Nat), c = .slice ad l.length cap ∧ l.length ≤ 140737488355328 ∧ 0 < sz ∧ (l = [] ∨ ∃ (b off : Nat) (xs : List Value), ad = some ⟨b, off, none⟩ ∧ qJ M sz l xs ∧ ∀ j u, xs[j]? = some u → w.cell? ((⟨b, off, none⟩ : Addr).add j) = some u) := by
 cases v <;> simp only [src, pur] at hp <;> try (cases hp; done)
 case nil sz' =>
  cases hp
  simp only [rep] at hr
  exact ⟨none, 0, hr.1, by simp, hr.2, .inl rfl⟩
 case seq sz' l' =>
  cases hp
  simp only [rep] at hr
  obtain ⟨ad, cap, h1, _, h2', h2, h3⟩ := hr
  refine ⟨ad, cap, h1, h2', h2, ?_⟩
  rcases h3 with h3 | ⟨b, off, h4, h5⟩
  · exact .inl h3
  · obtain ⟨xs, g1, g2⟩ := repMem_row h5
    exact .inr ⟨b, off, xs, h4, g1, fun j u hu => by rw [Addr.add_lit]; exact H.snd _ _ (g2 j u hu)⟩
 case fseq sz' l' =>
  cases hp
  simp only [rep, XX] at hr
  obtain ⟨_, ad, cap, h1, _, h2', h2, h3⟩ := hr
  refine ⟨ad, cap, h1, h2', h2, ?_⟩
  rcases h3 with h3 | ⟨b, off, h4, h5⟩
  · exact .inl h3
  · obtain ⟨xs, g1, g2⟩ := repMem_row (repMem_mono H.sub.fmS _ _ _ _ h5)
    exact .inr ⟨b, off, xs, h4, g1, fun j u hu => by rw [Addr.add_lit]; exact H.snd _ _ (g2 j u hu)⟩
 case ref id n =>
  split at hp
  · rename_i e sz' l' hh
    split at hp
    · rename_i hn
      cases hp
      simp only [rep, XX] at hr
      have hc := (hr.2.2.1 e _ _ hh).2 hn
      obtain ⟨h0, h1, xs, h2, h3, _⟩ := H.heap id _ hh
      rw [hc]
      exact src_row h2 h3 h0 h1
    · cases hp
  · cases hp
 case mref id i n =>
  simp only [pur2] at hp
  split at hp
  · rename_i e e2 sz' rows hh
    split at hp
    · rename_i r hrr
      split at hp
      · rename_i hn
        cases hp
        simp only [rep, XX] at hr
        have hc := (hr.2.2 _ _ _ _ hh _ hrr).2 hn
        obtain ⟨h0, _, _, h5, _⟩ := H.heap id _ hh
        obtain ⟨h1, ys, h2, h3⟩ := h5 i _ hrr
        rw [hc]
        exact src_row h2 h3 h0 h1
      · cases hp
    · cases hp
  · cases hp
 all_goals first
  | (obtain ⟨_, _, h⟩ := Option.map_eq_some_iff.1 hp; cases h; done)
  | (split at hp <;> cases hp; done)

theorem len_pos {l : List V} (h : ¬ l = []) : 0 < l.length := by
 cases l with
 | nil => exact (h rfl).elim
 | cons _ _ => simp

theorem owns_slice {base e size n : Nat} {v : Value} {xs : List Value} (h : w.ownsRow base e size v n xs) : (v = .slice none 0 0 ∧ n = 0) ∨ ∃ g cap, v = .slice (some ⟨g, 0, none⟩) n cap := by
 rcases h.2 with h | ⟨g, cap, cur, h, _⟩
 · exact .inl h
 · exact .inr ⟨g, cap, h⟩

theorem app_ref (H : Rel N M0 B w0 κ M σ a w) {ty t e' : TypeId} {i : TypeInfo} {z : Value} {sz' by' : Nat} (ht : P.underlying t = some (.slice e')) (hi : P.info? e' = some i) (hz : i.zero = some z)
 (hs : i.size = sz') (hby : i.bytes = by') (hb0 : 0 < by') (hzs : z.cells.size = sz') (hn : 0 < sz') {d : Option Nat} (hd : ∀ t, d = some t → t < N ∧ t ∉ B.ps) {id : Nat} {l0 l : List V} (ha : σ.h[id]? = some (some (.arr e' sz' l0))) {cy : Value} {ad : Option Addr} {cap : Nat}
 (hcy : cy = .slice ad l.length cap) (hll : l.length ≤ 140737488355328) (hrow : l = [] ∨ ∃ (b off : Nat) (xs : List Value), ad = some ⟨b, off, none⟩ ∧ qJ M sz' l xs ∧ ∀ j u, xs[j]? = some u → w.cell? ((⟨b, off, none⟩ : Addr).add j) = some u)
 (hb : (l0.length + l.length) * by' ≤ 140737488355328) {Nx : Act → World → Prop} (hK : ∀ κ' M' a' w', Rel N M0 B w0 κ' M' ({ σ with h := σ.h.set id (some (.arr e' sz' (l0 ++ l))) }.put d (.ref id (l0.length + l.length))) a' w' → Nx a' w') :
 ∃ c w1, (Builtin.append_ #[t, t] ty #[κ id, cy]).run P w = .ok c w1 ∧ Nx (a.put d c) w1 := by
 have hBw : B.n ≤ w.heap.size := by rw [H.base]; exact H.blw.size
 obtain ⟨h0, h1, xs0, ho0, hrow0, hown0, hbl0⟩ := H.heap id _ ha
 rw [hcy]
 have fin : ∀ (v' : Value) (w' : World) (xs : List Value), w'.ownsRow 0 e' sz' v' (l0.length + l.length) (xs0 ++ xs) → qJ M sz' l xs → (l = [] → v' = κ id) → l0.length + l.length ≤ 140737488355328 → Und B w w' →
  (∀ k, k < w.heap.size → ¬ κ.bl id k → w'.heap[k]? = w.heap[k]?) → (∀ g, blk v' = some g → κ.bl id g ∨ w.heap.size ≤ g) → Nx (a.put d v') w' := by
  intro v' w' xs g1 hrow g0 hle hBl hoth g3
  have hX : ∀ v c, XX κ σ.h v c → XX (upd κ id v') (σ.h.set id (some (Ob.arr e' sz' (l0 ++ l)))) v c := fun v c hx => XX_set ha hx (fun cs h => by cases h) (fun e2 sz2 l2 h => by
   cases h
   refine ⟨e', l0, rfl, by simp, fun hlen => g0 ?_⟩
   simp at hlen
   exact hlen) (fun _ _ _ _ h => by cases h)
  have hlt : id < σ.h.length := (List.getElem?_eq_some_iff.1 ha).1
  have H' := H.setOb ha hBl hoth g3 hX (by
   simp only [zU]
   exact ⟨hn, by simpa using hle, xs0 ++ xs, by rw [upd_self]; simpa using g1, repRow_append hrow0 hrow, fun g hg => by
    rw [zF] at hg
    rcases g3 g hg with h | h
    · exact hown0 g h
    · exact .inl (by omega), fun g => by rw [zF, updK_v]⟩)
  refine hK _ _ _ _ (H'.put' hd ?_)
  simp only [rep, XX]
  refine ⟨?_, by simpa using hlt, fun e2 sz2 l2 h2 => ?_, fun e2 sz2 l2 l3 h2 => by simp [List.getElem?_set, hlt] at h2, fun e2 l3 h2 => by simp [List.getElem?_set, hlt] at h2⟩
  · rcases owns_slice g1 with ⟨h, _⟩ | ⟨g, cap, h⟩ <;> rw [h] <;> rfl
  · simp only [List.getElem?_set, if_true, hlt, Option.some.injEq, Ob.arr.injEq] at h2
    obtain ⟨rfl, rfl, rfl⟩ := h2
    exact ⟨by simp, fun _ => upd_self.symm⟩
 by_cases hz0 : l = []
 · subst hz0
   rcases owns_slice ho0 with ⟨hv0, hl0⟩ | ⟨g, cp, hv0⟩
   · have hr := run_append_zero (P := P) (ty := ty) ht hi none ad 0 0 cap (Nat.le_refl _) w
     rw [hv0]
     refine ⟨_, _, hr, fin _ w [] ?_ (by simp [qJ]) (fun _ => hv0.symm) (by simpa using h1) (Und.refl _ _) (fun _ _ _ => rfl) (fun g hg => .inl ((hbl0 g).2 (by rw [hv0]; exact hg)))⟩
     simpa [← hv0] using ho0
   · have hcp : l0.length ≤ cp := by
      rcases ho0.2 with ⟨h, _⟩ | ⟨g', cap', cur, h, _, _, h7, _⟩
      · rw [h] at hv0; cases hv0
      · rw [h] at hv0; cases hv0; exact h7
     have hr := run_append_zero (P := P) (ty := ty) ht hi (some ⟨g, 0, none⟩) ad l0.length cp cap hcp w
     rw [hv0]
     refine ⟨_, _, hr, fin _ w [] ?_ (by simp [qJ]) (fun _ => hv0.symm) (by simpa using h1) (Und.refl _ _) (fun _ _ _ => rfl) (fun g hg => .inl ((hbl0 g).2 (by rw [hv0]; exact hg)))⟩
     simpa [← hv0] using ho0
 · rcases hrow with hrow | ⟨b, off, xs, had, hrow, hcells⟩
   · exact (hz0 hrow).elim
   · have hlen := repRow_length hrow
     have hbytes : l0.length + l.length ≤ (l0.length + l.length) * by' := Nat.le_mul_of_pos_right _ hb0
     obtain ⟨v', w', hr, g1, g2, g3, g4⟩ := run_append_own' (P := P) (ty := ty) (base := 0) ht hi hz hs hby hzs hn ho0 ⟨b, off, none⟩ l.length cap xs hlen hcells (repRow_cells hrow) (len_pos hz0)
      hb (by simp only [maxLen]; omega) (Nat.zero_le _)
     rw [had]
     have hown : (κ id).ownBlock = blk (κ id) := by
      rcases owns_slice ho0 with ⟨hv0, _⟩ | ⟨g, cp, hv0⟩ <;> rw [hv0] <;> rfl
     rw [hown] at g2
     refine ⟨v', w', hr, fin v' w' xs g1 hrow (fun h => (hz0 h).elim) ?_ (grown_und g2 (fun g hg => (H.blk_lt ha ((hbl0 g).2 hg)).1) hBw g4) (fun k hk hne => g2.block k hk (fun e => hne ((hbl0 k).2 e.symm))) (fun g hg => (g3 g hg).imp (fun h => (hbl0 g).2 h) (fun h => h))⟩
     omega

theorem rowAt_set {rows : List (Option (List V))} {i j : Nat} {x : Option (List V)} {r : List V} (h : zC (rows.set i x) j = some r) : (j = i ∧ i < rows.length ∧ x = some r) ∨ (j ≠ i ∧ zC rows j = some r) := by
 have h' := (rowAt_lt h).1
 rw [List.getElem?_set] at h'
 split at h'
 · rename_i he
   subst he
   split at h'
   · rename_i hl
     simp only [Option.some.injEq] at h'
     exact .inl ⟨rfl, hl, h'⟩
   · cases h'
 · rename_i he
   exact .inr ⟨fun e => he e.symm, by unfold zC; rw [h']⟩
theorem Rel.detach (H : Rel N M0 B w0 κ M σ a w) {id : Nat} {e e2 sz i : Nat} {rows : List (Option (List V))} {r : List V} (hm : σ.h[id]? = some (some (.mat e e2 sz rows))) (hr : zC rows i = some r) :
 ∃ κ', Rel N M0 B w0 κ' M { σ with h := σ.h.set id (some (.mat e e2 sz (rows.set i none))) ++ [some (.arr e2 sz r)] } a w ∧ κ' σ.h.length = κ.row id i := by
 obtain ⟨h0, h1, ⟨xs, h2, h3, h4⟩, h5, h6, h7, hown, hbl⟩ := H.heap id _ hm
 obtain ⟨q1, ys, q2, q3⟩ := h5 i r hr
 have hlt : id < σ.h.length := (List.getElem?_eq_some_iff.1 hm).1
 have hX : ∀ v c, XX κ σ.h v c → XX (updK κ id (κ id) (κ.row id) (fun g => blk (κ id) = some g ∨ ∃ j s, zC (rows.set i none) j = some s ∧ blk (κ.row id j) = some g)) (σ.h.set id (some (Ob.mat e e2 sz (rows.set i none)))) v c := fun v c hx =>
  XX_set hm hx (fun _ h => by cases h) (fun _ _ _ h => by cases h) (fun e' e2' sz' rows' h => by
   cases h
   refine ⟨e, e2, rows, rfl, by simp, rfl, fun j s hs => ?_⟩
   rcases rowAt_set hs with ⟨_, _, h⟩ | ⟨_, h⟩
   · cases h
   · exact ⟨s, h, Nat.le_refl _, fun _ => rfl⟩)
 have rs : ∀ {j : Nat} {s : List V}, zC (rows.set i none) j = some s → j ≠ i ∧ zC rows j = some s := by
  intro j s hs
  rcases rowAt_set hs with ⟨_, _, h⟩ | h
  · cases h
  · exact h
 have H1 := H.setOb (ob := .mat e e2 sz (rows.set i none)) hm (Und.refl _ w) (fun _ _ _ => rfl) (kv := κ id) (kr := κ.row id) (kb := fun g => blk (κ id) = some g ∨ ∃ j s, zC (rows.set i none) j = some s ∧ blk (κ.row id j) = some g) (fun g hg => .inl ((hbl g).2 (hg.imp (fun h => h) fun ⟨j, s, k1, k2⟩ => ⟨j, s, (rs k1).2, k2⟩))) hX (by
  simp only [zU]
  rw [updK_v, updK_row, zF]
  refine ⟨h0, by simpa using h1, ⟨xs, by simpa using h2, h3, fun j s hs => h4 j s (rs hs).2⟩, fun j s hs => h5 j s (rs hs).2, fun j k s s' g hs hs' => h6 j k s s' g (rs hs).2 (rs hs').2, fun j s g hs => h7 j s g (rs hs).2, fun g hg => ?_, fun g => Iff.rfl⟩
  exact hown g ((hbl g).2 (hg.imp (fun h => h) fun ⟨j, s, k1, k2⟩ => ⟨j, s, (rs k1).2, k2⟩)))
 have hnb : ∀ g, blk (κ.row id i) = some g → κ.bl id g := fun g hg => (hbl g).2 (.inr ⟨i, r, hr, hg⟩)
 have hlen : (σ.h.set id (some (Ob.mat e e2 sz (rows.set i none)))).length = σ.h.length := by simp
 have H2 := H1.newOb' (w' := w) (ob := .arr e2 sz r) (Below.refl _ _) (kv := κ.row id i) (kr := fun _ => Go.undef) (kb := fun g => blk (κ.row id i) = some g) (fun g hg j oj hj hj' => by
  simp only at hj
  rw [List.getElem?_set] at hj
  split at hj
  · rename_i he
    subst he
    rw [zF] at hj'
    rcases hj' with h | ⟨k, s, k1, k2⟩
    · exact h7 i r g hr hg h
    · exact (rs k1).1 (h6 k i s r g (rs k1).2 hr k2 hg)
  · rename_i he
    rw [(updK_ne (fun e => he e.symm)).2.2] at hj'
    exact he (H.inj id j _ oj g hm hj (hnb g hg) hj')) (fun p v hp hg => H.sep p v hp id _ hm (hnb _ hg)) (by
  simp only [zU]
  rw [updK_v, zF]
  exact ⟨h0, q1, ys, q2, q3, fun g hg => hown g (hnb g hg), fun g => Iff.rfl⟩)
 rw [hlen] at H2
 exact ⟨_, H2, updK_v⟩

theorem repRow_take {sz : Nat} : ∀ (b : Nat) {l : List V} {xs : List Value}, qJ M sz l xs → qJ M sz (l.take b) (xs.take (b * sz))
 | 0, l, xs, h => by simp [qJ]
 | b + 1, [], xs, h => by simp only [qJ] at h; simp [h, qJ]
 | b + 1, v :: vs, xs, h => by
   simp only [qJ] at h
   obtain ⟨y, rest, rfl, h1, h2, h3, h4⟩ := h
   simp only [List.take_succ_cons, qJ]
   refine ⟨y, rest.take (b * sz), ?_, h1, h2, h3, repRow_take b h4⟩
   have hl : y.cells.toList.length = sz := by simpa using h2
   rw [List.take_append, hl, List.take_of_length_le (by rw [Nat.add_mul]; omega)]
   congr 2
   rw [Nat.add_mul]; omega
theorem lkF_mem {t : Nat} {f : FuncId} : ∀ {l : List (Nat × FuncId)}, lkF l t = some f → (t, f) ∈ l
 | [], h => by simp [lkF] at h
 | (u, g) :: l, h => by
   simp only [lkF] at h
   split at h
   · rename_i he; subst he; cases h; simp
   · exact List.mem_cons_of_mem _ (lkF_mem h)
theorem invF_fst {name : String} {t : TypeId} {x : Nat × FuncId} (h : invF P name t = some x) : x.1 = t := by
 unfold invF at h
 split at h
 · split at h
   · split at h <;> first | (cases h; done) | (cases h; rfl)
   · cases h
 · cases h
theorem run_method {name : String} {t : TypeId} {f : FuncId} (h : lkF (invT P name) t = some f) (n : Nat) (v : Value) (w : World) : (method (n + 1) t v name).run P w = .ok (f, v) w := by
 obtain ⟨i, _, hi⟩ := List.mem_filterMap.1 (lkF_mem h)
 have := invF_fst hi
 simp only at this
 subst this
 unfold invF at hi
 split at hi
 · rename_i ti hti
   split at hi
   · rename_i m hm
     split at hi
     · cases hi
     · rename_i hp hf hu
       cases hi
       simp [method, typeInfo, hti, hm, hp, follow, hf, receiverAt, run_underlying hu, Place.get]
     · rename_i d hne hp hf hu
       cases hi
       cases d <;> first | exact (hne _ rfl).elim | simp [method, typeInfo, hti, hm, hp, follow, hf, receiverAt, run_underlying hu, Place.get]
     · cases hi
   · cases hi
 · cases hi
theorem Rel.trunc (H : Rel N M0 B w0 κ M σ a w) {id : Nat} {e sz b : Nat} {l : List V} (hm : σ.h[id]? = some (some (.arr e sz l))) (hb : b ≤ l.length) {ad : Option Addr} {n cap : Nat} (hc : κ id = .slice ad n cap) :
 ∃ κ', Rel N M0 B w0 κ' M { σ with h := σ.h.set id none ++ [some (.arr e sz (l.take b))] } a w ∧ κ' σ.h.length = .slice ad b cap := by
 obtain ⟨h0, h1, xs, h2, h3, hown, hbl⟩ := H.heap id _ hm
 have hlt : id < σ.h.length := (List.getElem?_eq_some_iff.1 hm).1
 have hlen : (σ.h.set id none).length = σ.h.length := by simp
 have H1 := H.drop id
 have hbk : ∀ g, blk (.slice ad b cap) = some g → κ.bl id g := fun g hg => (hbl g).2 (by rw [hc]; cases ad <;> exact hg)
 have H2 := H1.newOb' (w' := w) (ob := .arr e sz (l.take b)) (Below.refl _ _) (kv := .slice ad b cap) (kr := fun _ => Go.undef) (kb := fun g => blk (.slice ad b cap) = some g) (fun g hg j oj hj hj' => by
  simp only at hj
  rw [List.getElem?_set] at hj
  split at hj
  · first | (cases hj; done) | (split at hj <;> cases hj)
  · rename_i he
    exact he (H.inj id j _ oj g hm hj (hbk g hg) hj')) (fun p v hp hg => H.sep p v hp id _ hm (hbk _ hg)) (by
  simp only [zU]
  rw [updK_v, zF]
  refine ⟨h0, by simp; omega, xs.take (b * sz), ?_, repRow_take b h3, fun g hg => hown g (hbk g hg), fun g => Iff.rfl⟩
  have hxl := repRow_length h3
  refine ⟨by simp only [List.length_take, hxl]; rw [Nat.min_eq_left hb, Nat.min_eq_left (Nat.mul_le_mul_right _ hb)], ?_⟩
  rcases h2.2 with ⟨h4, h5⟩ | ⟨g, cap', cur, h4, h5, h6, h7, h8, h9, h10⟩
  · rw [hc] at h4
    cases h4
    exact .inl ⟨by rw [show b = 0 by omega], by simp [show b = 0 by omega]⟩
  · rw [hc] at h4
    cases h4
    refine .inr ⟨g, _, cur, by rw [List.length_take, Nat.min_eq_left hb], h5, h6, by rw [List.length_take, Nat.min_eq_left hb]; omega, h8, h9, ?_⟩
    · rw [List.length_take, Nat.min_eq_left hb, ← h10]
      simp [List.take_take, Nat.min_eq_left (Nat.mul_le_mul_right sz hb)])
 rw [hlen] at H2
 exact ⟨_, H2, updK_v⟩

theorem app_sound (H : Rel N M0 B w0 κ M σ a w) {ty t e : TypeId} {x y : Operand} {x' y' : AO} {i : TypeInfo} {z : Value} {n by' : Nat} (ht : P.underlying t = some (.slice e)) (hi : P.info? e = some i) (hz : i.zero = some z)
 (hs : i.size = n) (hby : i.bytes = by') (hb0 : 0 < by') (hzs : z.cells.size = n) (hn : 0 < n) (hx : cO P t x = some x') (hy : cO P t y = some y') {d : Option Nat} (hd : ∀ t, d = some t → t < N ∧ t ∉ B.ps) {Φ : Ctr} {K : St → Prop}
 (hW : qC Φ d (.app x' y' e n by') K σ) {Nx : Act → World → Prop} (hK : ∀ κ' M' σ' a' w', K σ' → Rel N M0 B w0 κ' M' σ' a' w' → Nx a' w') :
 ∃ c w1, (Builtin.append_ #[t, t] ty #[a.eval x, a.eval y]).run P w = .ok c w1 ∧ Nx (a.put d c) w1 := by
 have hBw : B.n ≤ w.heap.size := by rw [H.base]; exact H.blw.size
 simp only [qC] at hW
 split at hW
 · rename_i u v hu hv
   split at hW
   · rename_i sz l hl
     obtain ⟨rfl, hW⟩ := hW
     have hrx := H.op hx hu
     obtain ⟨ad, cap, hcy, hll, _, hrow⟩ := seq_src H (H.op hy hv) hl
     split at hW
     · -- nil
       rename_i sz0
       obtain ⟨hb, hW⟩ := hW
       simp only [rep] at hrx
       rw [hrx.1, hcy]
       have fin : ∀ (v' : Value) (w' : World) (xs : List Value), w'.ownsRow 0 e sz v' l.length xs → qJ M sz l xs → Below w.heap.size w w' → (∀ g, blk v' = some g → w.heap.size ≤ g) → Nx (a.put d v') w' := by
        intro v' w' xs g1 hrow hBl g3
        have ho : zU (upd κ σ.h.length v') M (XX (upd κ σ.h.length v') (σ.h ++ [some (Ob.arr e sz l)])) B w' σ.h.length (.arr e sz l) := by
         simp only [zU]
         exact ⟨hn, hll, xs, by rw [upd_self]; exact g1, hrow, fun g hg => .inl (by rw [zF] at hg; have := g3 g hg; omega), fun g => by rw [zF, updK_v]⟩
        have H' := H.newOb hBl g3 ho
        refine hK _ _ _ _ _ hW (H'.put' hd ?_)
        simp only [rep, XX]
        refine ⟨?_, by simp, fun e2 sz2 l2 h2 => ?_, fun e2 sz2 l2 l3 h2 => by simp at h2, fun e2 l3 h2 => by simp at h2⟩
        · rcases owns_slice g1 with ⟨h, _⟩ | ⟨g, cap, h⟩ <;> rw [h] <;> rfl
        · simp at h2
          obtain ⟨rfl, rfl, rfl⟩ := h2
          exact ⟨Nat.le_refl _, fun _ => upd_self.symm⟩
       by_cases h0 : l = []
       · subst h0
         have hr := run_append_zero (P := P) (ty := ty) ht hi none ad 0 0 cap (Nat.le_refl _) w
         exact ⟨_, _, hr, fin _ w [] (World.ownsRow_nil w 0 e sz) (by simp [qJ]) (Below.refl _ _) (fun g hg => by cases hg)⟩
       · rcases hrow with hrow | ⟨b, off, xs, had, hrow, hcells⟩
         · exact (h0 hrow).elim
         · have hlen := repRow_length hrow
           obtain ⟨v', w', hr, g1, g2, g3, g4⟩ := run_append_own' (P := P) (ty := ty) (base := 0) ht hi hz hs hby hzs hn (World.ownsRow_nil w 0 e sz) ⟨b, off, none⟩ l.length cap xs hlen hcells (repRow_cells hrow) (len_pos h0)
            (by simpa using hb) (by simp only [maxLen]; omega) (Nat.zero_le _)
           rw [had]
           refine ⟨v', w', hr, fin v' w' xs (by simpa using g1) hrow (grown_below g2 (fun g hg => by simp [Value.ownBlock] at hg) (Nat.le_refl _)) (fun g hg => ?_)⟩
           rcases g3 g hg with h | h
           · cases h
           · exact h
     · -- a row of its own
       rename_i id m
       split at hW
       · rename_i e' sz' l0 hal
         obtain ⟨rfl, rfl, rfl, hb, hW⟩ := hW
         have ha := arr?_eq hal
         simp only at ha
         simp only [rep, XX] at hrx
         have hck := (hrx.2.2.1 _ _ _ ha).2 rfl
         rw [hck]
         exact app_ref H ht hi hz hs hby hb0 hzs hn hd ha hcy hll hrow hb fun κ' M' a' w' h => hK _ _ _ _ _ hW h
       · exact hW.elim
     · -- a row of rows of its own
       rename_i id j m
       split at hW
       · rename_i e1 e2 sz2 rows hal
         split at hW
         · rename_i r hr
           obtain ⟨rfl, rfl, rfl, hb, hW⟩ := hW
           have ha := rws?_eq hal
           simp only at ha
           simp only [rep, XX] at hrx
           have hck := (hrx.2.2 _ _ _ _ ha _ hr).2 rfl
           obtain ⟨κ', H', hk'⟩ := H.detach ha hr
           have hlen : (σ.h.set id (some (Ob.mat e1 e2 sz2 (rows.set j none)))).length = σ.h.length := by simp
           rw [hck, ← hk']
           refine app_ref H' ht hi hz hs hby hb0 hzs hn hd (id := σ.h.length) (l0 := r) (by simp only; rw [← hlen, List.getElem?_append_right (Nat.le_refl _)]; simp) hcy hll hrow hb fun κ' M' a' w' h => hK κ' M' _ a' w' hW ?_
           have e1 : (σ.h.set id (some (Ob.mat e1 e2 sz2 (rows.set j none))) ++ [some (Ob.arr e2 sz2 r)]).set σ.h.length (some (Ob.arr e2 sz2 (r ++ l))) = σ.h.set id (some (Ob.mat e1 e2 sz2 (rows.set j none))) ++ [some (Ob.arr e2 sz2 (r ++ l))] := by
            rw [← hlen, List.set_append_right _ _ (Nat.le_refl _)]; simp
           simp only [e1] at h
           exact h
         · exact hW.elim
       · exact hW.elim
     · exact hW.elim
   · exact hW.elim
 · exact hW.elim

theorem pur_nt {h : List (Option Ob)} {v u : V} (hp : pur h v = some u) (hn : nt v = true) : nt u = true := by
 cases v <;> simp only [pur] at hp <;> first
  | (cases hp; done)
  | (cases hp; rfl)
  | (simp [nt] at hn; done)
  | (obtain ⟨_, _, rfl⟩ := Option.map_eq_some_iff.1 hp; rfl)
  | (unfold pur1 at hp; split at hp <;> (try split at hp) <;> first | (cases hp; rfl) | (cases hp; done) | (obtain ⟨_, _, rfl⟩ := Option.map_eq_some_iff.1 hp; rfl))
  | (unfold pur2 at hp; split at hp <;> (try split at hp) <;> (try split at hp) <;> first | (cases hp; rfl) | cases hp)
  | (split at hp <;> first | (cases hp; rfl) | cases hp)

theorem purs_length {h : List (Option Ob)} : ∀ {vs us : List V}, purs h vs = some us → us.length = vs.length
 | [], us, hp => by simp only [purs] at hp; cases hp; rfl
 | v :: vs, us, hp => by
   simp only [purs] at hp
   split at hp
   · rename_i u us' hu hus
     cases hp
     simp [purs_length hus]
   · cases hp

theorem splice_mid {α : Type} (c d : List α) (p off s t : Nat) (h1 : off + d.length ≤ s) (h2 : p + s ≤ t) (h3 : t ≤ c.length) :
 (c.take (p + off) ++ d ++ c.drop (p + off + d.length)).take t = (c.take t).take p ++ (((c.drop p).take s).take off ++ d ++ ((c.drop p).take s).drop (off + d.length)) ++ (c.take t).drop (p + s) := by
 obtain ⟨k, rfl⟩ : ∃ k, t = p + (off + (d.length + k)) := ⟨t - p - off - d.length, by omega⟩
 have e1 : (c.take (p + (off + (d.length + k)))).take p = c.take p := by rw [List.take_take, Nat.min_eq_left (by omega)]
 have e2 : ((c.drop p).take s).take off = (c.drop p).take off := by rw [List.take_take, Nat.min_eq_left (by omega)]
 have e3 : c.take (p + off) = c.take p ++ (c.drop p).take off := by rw [List.take_add]
 have l1 : (c.take p).length = p := by simp; omega
 have l2 : ((c.drop p).take off).length = off := by simp; omega
 rw [e1, e2, e3]
 simp only [List.append_assoc]
 rw [List.take_append, l1, List.take_of_length_le (l := c.take p) (by rw [l1]; omega), Nat.add_sub_cancel_left]
 rw [List.take_append, l2, List.take_of_length_le (l := (c.drop p).take off) (by rw [l2]; omega), Nat.add_sub_cancel_left]
 rw [List.take_append, List.take_of_length_le (l := d) (by omega), Nat.add_sub_cancel_left]
 congr 3
 apply List.ext_getElem?
 intro j
 by_cases hj : j < s - (off + d.length)
 · rw [List.getElem?_append_left (by simp; omega), List.getElem?_take, if_pos (by omega), List.getElem?_drop, List.getElem?_drop, List.getElem?_take, if_pos (by omega), List.getElem?_drop]
   congr 1; omega
 · rw [List.getElem?_append_right (by simp; omega)]
   simp only [List.getElem?_take, List.getElem?_drop, List.length_drop, List.length_take]
   split
   · rw [if_pos (by omega)]; congr 1; omega
   · rw [if_neg (by omega)]

theorem splice_take {α : Type} (c d : List α) (p t : Nat) (h2 : p + d.length ≤ t) (h3 : t ≤ c.length) :
 (c.take p ++ d ++ c.drop (p + d.length)).take t = (c.take t).take p ++ d ++ (c.take t).drop (p + d.length) := by
 have h := splice_mid c d p 0 d.length t (by omega) h2 h3
 simp only [Nat.add_zero, Nat.zero_add, List.take_zero, List.nil_append] at h
 rw [h]
 congr 2
 simp

theorem owns_store {t : TypeId} {n : Nat} (hs : szOf P t = some n) {e sz len : Nat} {val : Value} {xs : List Value} (ho : w.ownsRow 0 e sz val len xs) {b cap p : Nat} (g1 : val = .slice (some ⟨b, 0, none⟩) len cap) {d : Value} (hd : d.cells.size = n) (h1 : ∀ u ∈ d.cells.toList, qN u) (hle : p + n ≤ len * sz) :
 ∃ row : Array Value, (Instr.storeAt t (.pointer (some ⟨b, p, none⟩)) d).run P w = .ok () (w.setRow b row) ∧ (w.setRow b row).ownsRow 0 e sz val len (xs.take p ++ d.cells.toList ++ xs.drop (p + n)) := by
 rcases ho.2 with ⟨h, h0⟩ | ⟨g, cap', cur, h4, h5, h6, h7, h8, h9, h10⟩
 · rw [h] at g1; cases g1
 · rw [g1] at h4
   cases h4
   have hcl : len * sz ≤ cur.size := by rw [h9]; exact Nat.mul_le_mul_right _ h7
   have hdl : d.cells.toList.length = n := by simpa using hd
   refine ⟨_, run_storeVar hs (off := p) h6 hd h1 (by omega), ?_, .inr ⟨b, cap, _, g1, h5, setRow_heap w b cur _ e (0, 0) h6, h7, h8, ?_, ?_⟩⟩
   · have := ho.1
     simp only [List.length_append, List.length_take, List.length_drop, hdl]; omega
   · simp only [List.size_toArray, List.length_append, List.length_take, List.length_drop, Array.length_toList]; omega
   · rw [← h10, ← hdl]
     exact splice_take cur.toList d.cells.toList p (len * sz) (by omega) (by simpa using hcl)

theorem row_store {Mx : Mem} {t : TypeId} {n : Nat} (hs : szOf P t = some n) {e sz : Nat} {val : Value} {l : List V} {xs : List Value} (ho : w.ownsRow 0 e sz val l.length xs) (hrow : qJ Mx sz l xs) {b cap i off : Nat} (g1 : val = .slice (some ⟨b, 0, none⟩) l.length cap) {d : Value} (hd : d.cells.size = n)
 (h1 : ∀ u ∈ d.cells.toList, qN u) {vo v' : V} (hvo : l[i]? = some vo) {us cs' : List V} (hcs' : splice (cl vo) off us = some cs') (hv' : mkc (isS vo) cs' = some v') (hpu : qA Mx NX us d.cells.toList) :
 ∃ row : Array Value, (Instr.storeAt t (.pointer (some ⟨b, i * sz + off, none⟩)) d).run P w = .ok () (w.setRow b row) ∧ ∃ xs', (w.setRow b row).ownsRow 0 e sz val (l.set i v').length xs' ∧ qJ Mx sz (l.set i v') xs' := by
 have hil : i < l.length := (List.getElem?_eq_some_iff.1 hvo).1
 obtain ⟨y, y1, y2, y3, y4⟩ := repRow_get hrow hvo
 have hnto : ∀ vs, vo ≠ .tup vs := by
  rintro vs rfl
  simp only [rep] at y1
  obtain ⟨arr, rfl, _⟩ := y1
  have := y3 (.tuple arr) (by simp [Value.cells])
  simp [qN, Value.oneCell'] at this
 have yk := rep_cellsC y1 NX_cell hnto
 have hsp := splice_rep hcs' yk.1 hpu
 have hoff : off + n ≤ sz := by have := hsp.1; simp at this; omega
 have hcells : ∀ u ∈ y.cells.toList.take off ++ d.cells.toList ++ y.cells.toList.drop (off + d.cells.toList.length), qN u := by
  intro u hu
  simp only [List.mem_append] at hu
  rcases hu with (hu | hu) | hu
  · exact y3 u (List.mem_of_mem_take hu)
  · exact h1 u hu
  · exact y3 u (List.mem_of_mem_drop hu)
 have hclen : (y.cells.toList.take off ++ d.cells.toList ++ y.cells.toList.drop (off + d.cells.toList.length)).length = sz := by
  simp only [List.length_append, List.length_take, List.length_drop, Array.length_toList]; omega
 obtain ⟨y', y1', y2', _⟩ : ∃ y' : Value, rep Mx NX v' y' ∧ y'.cells.toList = y.cells.toList.take off ++ d.cells.toList ++ y.cells.toList.drop (off + d.cells.toList.length) ∧ True := by
  rcases mkc_rep hv' hsp.2 hcells with ⟨_, h⟩ | ⟨_, c', h, h'⟩
  · exact ⟨_, h, by simp [Value.cells], trivial⟩
  · refine ⟨c', h', ?_, trivial⟩
    rw [h]
    have := cells_of_isCell (hcells c' (by rw [h]; simp))
    rw [this]
 have hys : y'.cells.size = sz := by rw [← Array.length_toList, y2', hclen]
 have hle : (i + 1) * sz ≤ l.length * sz := Nat.mul_le_mul_right _ (by omega)
 simp only [Nat.add_mul, Nat.one_mul] at hle
 obtain ⟨row, r1, r2⟩ := owns_store hs ho g1 (p := i * sz + off) hd h1 (by omega)
 refine ⟨row, r1, _, ?_, repRow_set hrow hil y1' hys (by rw [y2']; exact hcells)⟩
 have hdl : d.cells.toList.length = n := by simpa using hd
 have hxl := repRow_length hrow
 have hy4 : y.cells.toList = (xs.drop (i * sz)).take sz := by
  apply List.ext_getElem?
  intro j
  by_cases hj : j < sz
  · have := y4 j hj
    rw [List.getElem?_take, if_pos hj, List.getElem?_drop, this]
    simp
  · rw [List.getElem?_eq_none (by simp; omega), List.getElem?_eq_none (by simp; omega)]
 have hsm := splice_mid xs d.cells.toList (i * sz) off sz xs.length (by omega) (by omega) (Nat.le_refl _)
 rw [List.take_of_length_le (l := xs) (Nat.le_refl _)] at hsm
 rw [List.length_set, y2', hy4, ← hsm, hdl]
 rw [List.take_of_length_le (by simp only [List.length_append, List.length_take, List.length_drop, hdl]; omega)]
 exact r2

theorem stor_sound (H : Rel N M0 B w0 κ M σ a w) {t : TypeId} {n : Nat} (hs : szOf P t = some n) {p v : V} {c d : Value} (hp : rep M (XX κ σ.h) p c) (hv : rep M (XX κ σ.h) v d) (hnt : nt v = true) {σ' : St} (hst : σ.stor n p (cl v) = some σ') :
 ∃ w', (Instr.storeAt t c d).run P w = .ok () w' ∧ ∃ κ' M', Rel N M0 B w0 κ' M' σ' a w' := by
 have hk := rep_cellsC hv XX_cell (nt_spec hnt)
 have hlen := qZ hk.1
 cases p <;> simp only [St.stor] at hst <;> try (cases hst; done)
 case ptr id off =>
  split at hst
  · rename_i cs hcs
    split at hst
    · rename_i hn
      split at hst
      · rename_i cs' hcs'
        cases hst
        have hb := box?_eq hcs
        obtain ⟨b, arr, T, h1, h2, h3, h4, h5, hbl⟩ := H.heap id _ hb
        simp only [rep, XX] at hp
        obtain ⟨b', g1, g2⟩ := hp.2.2 cs hb
        rw [h1] at g1
        cases g1
        subst g2
        have hsp := splice_rep hcs' h4 hk.1
        have hd : d.cells.size = n := by simp at hlen; omega
        refine ⟨_, run_storeVar hs h3 hd hk.2 (by have := hsp.1; simp at this; omega), upd κ id (κ id), M, ?_⟩
        have hX : ∀ u c, XX κ σ.h u c → XX (upd κ id (κ id)) (σ.h.set id (some (Ob.box cs'))) u c := fun u c hx => XX_set hb hx (fun _ _ => ⟨⟨cs, rfl⟩, rfl⟩) (fun _ _ _ h => by cases h) (fun _ _ _ _ h => by cases h)
        refine H.setOb hb (below_setRow h2 _ fun cur T z hc => by rw [h3] at hc; cases hc; have := hsp.1; simp at this ⊢; omega) (fun k _ hne => setRow_other w b k _ (fun e => hne ((hbl k).2 e))) (fun g hg => .inl ((hbl g).2 (by rw [h1] at hg; cases hg; rfl))) hX ?_
        simp only [zU]
        refine ⟨b, _, T, by rw [upd_self, h1], h2, setRow_heap w b arr _ T (0, 0) h3, zK (fun _ _ h => h) hX _ _ (by simpa using hsp.2), ?_, fun g => by rw [zF, h1]; simp only [blk, Option.some.injEq]; exact eq_comm⟩
        intro u hu
        simp only [List.mem_append] at hu
        rcases hu with (hu | hu) | hu
        · exact h5 u (List.mem_of_mem_take hu)
        · exact hk.2 u hu
        · exact h5 u (List.mem_of_mem_drop hu)
      · cases hst
    · cases hst
  · cases hst
 case eptr id m i off =>
  split at hst
  · rename_i us' hus'
    split at hst
    · rename_i e sz l hal
      split at hst
      · rename_i hn
        split at hst
        · rename_i vo hvo
          split at hst
          · rename_i cs' hcs'
            split at hst
            · rename_i v' hv'
              cases hst
              obtain ⟨H1, hM1⟩ := H.kill (qE (cl v)) (purs_in hus')
              have ha := arr?_eq hal
              simp only at ha
              obtain ⟨k1, k2, k3⟩ := kill_h (qE (cl v)) σ
              have ha0 := (k3 id _ ha).1
              have hil : i < l.length := (List.getElem?_eq_some_iff.1 hvo).1
              simp only [rep, XX] at hp
              obtain ⟨b, cap, g1, g2⟩ := (hp.2.2.1 e sz l ha0).2 hn.2 (by omega)
              subst g2
              have hpu : qA (ext M w (blks κ (qE (cl v)))) NX us' d.cells.toList := by
               refine purs_rep H hM1 (fun id hid g hg p hpb => ?_) hk.1 hus'
               unfold ext
               rw [if_pos (mem_blks.2 ⟨id, hid, by rw [hpb]; exact hg⟩)]
              obtain ⟨hsz, hll, xs, ho, hrow, hown, hbl⟩ := H1.heap id _ ha
              have hd : d.cells.size = n := by simp at hlen; omega
              rw [hn.2] at g1
              obtain ⟨row, r1, xs', r2, r3⟩ := row_store hs ho hrow g1 hd hk.2 hvo hcs' hv' hpu
              have hb : κ.bl id b := (hbl b).2 (by rw [g1]; rfl)
              refine ⟨_, r1, upd κ id (κ id), ext M w (blks κ (qE (cl v))), ?_⟩
              have hX : ∀ u c, XX κ (σ.kill (qE (cl v))).h u c → XX (upd κ id (κ id)) ((σ.kill (qE (cl v))).h.set id (some (Ob.arr e sz (l.set i v')))) u c := fun u c hx => XX_set ha hx (fun _ h => by cases h) (fun e2 sz2 l2 h => by
               cases h
               exact ⟨e, l, rfl, by simp, fun _ => rfl⟩) (fun _ _ _ _ h => by cases h)
              refine H1.setOb ha (below_setRow (hown b hb) _ (setRow_size ho r2 (by rw [g1]; rfl))) (fun k _ hne => setRow_other w b k _ (fun e => hne (e ▸ hb))) (fun g hg => .inl ((hbl g).2 hg)) hX ?_
              simp only [zU]
              rw [updK_v, zF]
              exact ⟨hsz, by simpa using hll, xs', r2, r3, fun g hg => hown g ((hbl g).2 hg), fun g => Iff.rfl⟩
            · cases hst
          · cases hst
        · cases hst
      · cases hst
    · unfold St.storM at hst
      split at hst
      · rename_i id2 n2 hcl
        split at hst
        · rename_i e e2 sz rows e2' sz' l hrm har
          split at hst
          · rename_i r hri
            split at hst
            · rename_i hc
              cases hst
              obtain ⟨rfl, rfl, rfl, rfl, rfl, rfl, hlt⟩ := hc
              have hm := rws?_eq hrm
              have ha := arr?_eq har
              simp only at hm ha
              have hne : id2 ≠ id := by rintro rfl; rw [hm] at ha; cases ha
              have hm' : (σ.h.set id2 none)[id]? = some (some (.mat e e2' sz' rows)) := by rw [List.getElem?_set, if_neg hne]; exact hm
              have H0 := H.drop id2
              obtain ⟨h0, h1, ⟨xs, h2, h3, h4⟩, h5, h6, h7, hown, hbl⟩ := H.heap id _ hm
              obtain ⟨a0, a1, ys, a2, a3, aown, abl⟩ := H.heap id2 _ ha
              simp only [rep, XX] at hp
              have hil := rowAt_lt hri
              obtain ⟨b, cap, g1, g2⟩ := (hp.2.2.2 _ _ _ _ hm).2 rfl hil.2
              subst g2
              -- the value that is stored
              rw [hcl] at hk hlen
              have hdc : d.cells.toList = [κ id2] := by
               have h := hk.1
               simp only [qA, rep, XX] at h
               obtain ⟨c, cs', k1, k2, k3⟩ := h
               rw [k1, k3, (k2.2.2.1 _ _ _ ha).2 rfl]
              have hd : d.cells.size = 1 := by rw [← Array.length_toList, hdc]; rfl
              have hle : i * 1 + 1 ≤ rows.length * 1 := by omega
              obtain ⟨row, r1, r2⟩ := owns_store hs h2 g1 (p := i + 0) hd hk.2 (by omega)
              have hb : blk (κ id) = some b := by rw [g1]; rfl
              have hbB : κ.bl id b := (hbl b).2 (.inl hb)
              have hoth : ∀ k, k ≠ b → (w.setRow b row).heap[k]? = w.heap[k]? := fun k hk => setRow_other w b k _ hk
              have kid2 : ∀ g, blk (κ id2) = some g → ¬ κ.bl id g := fun g hg hg' => hne (H.inj id2 id _ _ g ha hm ((abl g).2 hg) hg')
              let kr : Nat → Value := fun j => if j = i then κ id2 else κ.row id j
              have kri : kr i = κ id2 := by simp [kr]
              have krn : ∀ {j}, j ≠ i → kr j = κ.row id j := fun h => by simp [kr, h]
              let kb : Nat → Prop := fun g => blk (κ id) = some g ∨ ∃ j s, zC (rows.set i (some l)) j = some s ∧ blk (kr j) = some g
              have rs : ∀ {j : Nat} {s : List V}, zC (rows.set i (some l)) j = some s → (j = i ∧ s = l ∧ kr j = κ id2) ∨ (j ≠ i ∧ zC rows j = some s ∧ kr j = κ.row id j) := by
               intro j s hs
               rcases rowAt_set hs with ⟨h, _, h'⟩ | ⟨h, h'⟩
               · cases h'; exact .inl ⟨h, rfl, by rw [h, kri]⟩
               · exact .inr ⟨h, h', krn h⟩
              have kbs : ∀ {g}, kb g → κ.bl id g ∨ blk (κ id2) = some g := by
               rintro g (h | ⟨j, s, hj, h⟩)
               · exact .inl ((hbl g).2 (.inl h))
               · rcases rs hj with ⟨_, _, e⟩ | ⟨_, h', e⟩
                 · exact .inr (by rw [← e]; exact h)
                 · exact .inl ((hbl g).2 (.inr ⟨j, s, h', by rw [← e]; exact h⟩))
              have hrl : ∀ (j : Nat) (s : List V), zC rows j = some s → ∀ g, blk (κ.row id j) = some g → g ≠ b := fun j s hj g hg e => h7 j s g hj hg (by rw [e]; exact hb)
              have hX : ∀ u c, XX κ (σ.h.set id2 none) u c → XX (updK κ id (κ id) kr kb) ((σ.h.set id2 none).set id (some (Ob.mat e e2' sz' (rows.set i (some l))))) u c := fun u c hx => XX_set hm' hx (fun _ h => by cases h) (fun _ _ _ h => by cases h) (fun e' e2'' sz'' rows' h => by
               cases h
               refine ⟨e, e2', rows, rfl, by simp, rfl, fun j s hs => ?_⟩
               rcases rs hs with ⟨rfl, rfl, _⟩ | ⟨_, h', e⟩
               · exact ⟨r, hri, by omega, fun h => by omega⟩
               · exact ⟨s, h', Nat.le_refl _, fun _ => e⟩)
              refine ⟨_, r1, updK κ id (κ id) kr kb, M, ?_⟩
              refine H0.setOb' hm' (below_setRow (hown b hbB) _ (setRow_size h2 r2 hb)) (fun k _ hne => hoth k (fun e => hne (e ▸ hbB))) (fun g hg j oj hj hj' => ?_) (fun p v hp hg => ?_) hX ?_
              · simp only at hj
                rw [List.getElem?_set] at hj
                split at hj
                · split at hj <;> cases hj
                · rename_i hne2
                  rcases kbs hg with h | h
                  · exact H.inj id j _ oj g hm hj h hj'
                  · exact (hne2 (H.inj id2 j _ oj g ha hj ((abl g).2 h) hj')).elim
              · rcases kbs hg with h | h
                · exact H.sep p v hp id _ hm h
                · exact H.sep p v hp id2 _ ha ((abl _).2 h)
              · simp only [zU]
                rw [updK_v, updK_row, zF]
                have hxl : i < xs.length := (List.getElem?_eq_some_iff.1 (h4 i r hri)).1
                have hxs : xs.take (i + 0) ++ d.cells.toList ++ xs.drop (i + 0 + 1) = xs.set i (κ id2) := by
                 rw [hdc, List.set_eq_take_append_cons_drop, if_pos hxl]; simp
                rw [hxs] at r2
                refine ⟨h0, by simpa using h1, ⟨xs.set i (κ id2), by simpa using r2, ?_, ?_⟩, ?_, ?_, ?_, ?_, fun g => Iff.rfl⟩
                · intro u hu
                  rcases List.mem_or_eq_of_mem_set hu with hu | hu
                  · exact h3 u hu
                  · rw [hu]; exact hk.2 _ (by rw [hdc]; simp)
                · intro j s hs
                  rw [List.getElem?_set]
                  rcases rs hs with ⟨rfl, _, e⟩ | ⟨hji, h', e⟩
                  · simp [hxl, e]
                  · rw [if_neg (fun h => hji h.symm), e]; exact h4 j s h'
                · intro j s hs
                  rcases rs hs with ⟨rfl, rfl, e⟩ | ⟨_, h', e⟩
                  · rw [e]
                    exact ⟨a1, ys, ownsRow_mono a2 (fun g hg => hoth g (fun h => kid2 g hg (h ▸ hbB))), a3⟩
                  · rw [e]
                    obtain ⟨q1, zs, q2, q3⟩ := h5 j s h'
                    exact ⟨q1, zs, ownsRow_mono q2 (fun g hg => hoth g (hrl j s h' g hg)), q3⟩
                · intro j k s s' g hs hs' hg hg'
                  rcases rs hs with ⟨rfl, _, e⟩ | ⟨hj, h', e⟩ <;> rcases rs hs' with ⟨rfl, _, e'⟩ | ⟨hj', h'', e'⟩
                  · rfl
                  · rw [e] at hg; rw [e'] at hg'
                    exact (kid2 g hg ((hbl g).2 (.inr ⟨k, s', h'', hg'⟩))).elim
                  · rw [e] at hg; rw [e'] at hg'
                    exact (kid2 g hg' ((hbl g).2 (.inr ⟨j, s, h', hg⟩))).elim
                  · rw [e] at hg; rw [e'] at hg'
                    exact h6 j k s s' g h' h'' hg hg'
                · intro j s g hs hg hg'
                  rcases rs hs with ⟨rfl, _, e⟩ | ⟨hj, h', e⟩
                  · rw [e] at hg
                    exact kid2 g hg ((hbl g).2 (.inl hg'))
                  · rw [e] at hg
                    exact h7 j s g h' hg hg'
                · intro g hg
                  rcases kbs hg with h | h
                  · exact hown g h
                  · exact aown g ((abl g).2 h)
            · cases hst
          · cases hst
        · cases hst
      · cases hst
  · cases hst
 case mptr id i m k off =>
  split at hst
  · rename_i us' hus'
    split at hst
    · rename_i e e2 sz rows hal
      split at hst
      · rename_i r hri
        split at hst
        · rename_i hn
          split at hst
          · rename_i vo hvo
            split at hst
            · rename_i cs' hcs'
              split at hst
              · rename_i v' hv'
                cases hst
                obtain ⟨H1, hM1⟩ := H.kill (qE (cl v)) (purs_in hus')
                have ha := rws?_eq hal
                simp only at ha
                obtain ⟨k1, k2, k3⟩ := kill_h (qE (cl v)) σ
                have ha0 := (k3 id _ ha).1
                have hil : k < r.length := (List.getElem?_eq_some_iff.1 hvo).1
                simp only [rep, XX] at hp
                obtain ⟨b, cap, g1, g2⟩ := (hp.2.2 _ _ _ _ ha0 r hri).2 hn.2 (by omega)
                subst g2
                have hpu : qA (ext M w (blks κ (qE (cl v)))) NX us' d.cells.toList := by
                 refine purs_rep H hM1 (fun id hid g hg p hpb => ?_) hk.1 hus'
                 unfold ext
                 rw [if_pos (mem_blks.2 ⟨id, hid, by rw [hpb]; exact hg⟩)]
                obtain ⟨h0, h1, ⟨xs, h2, h3, h4⟩, h5, h6, h7, hown, hbl⟩ := H1.heap id _ ha
                obtain ⟨q1, ys, q2, q3⟩ := h5 i r hri
                have hd : d.cells.size = n := by simp at hlen; omega
                rw [hn.2] at g1
                obtain ⟨row, r1, xs', r2, r3⟩ := row_store hs q2 q3 g1 hd hk.2 hvo hcs' hv' hpu
                have hbi : blk (κ.row id i) = some b := by rw [g1]; rfl
                have hb : κ.bl id b := (hbl b).2 (.inr ⟨i, r, hri, hbi⟩)
                have hoth : ∀ k, k ≠ b → (w.setRow b row).heap[k]? = w.heap[k]? := fun k hk => setRow_other w b k _ hk
                have hir := rowAt_lt hri
                have rs : ∀ {j : Nat} {s : List V}, zC (rows.set i (some (r.set k v'))) j = some s → (j = i ∧ s = r.set k v') ∨ (j ≠ i ∧ zC rows j = some s) := by
                 intro j s hs
                 rcases rowAt_set hs with ⟨h, _, h'⟩ | h
                 · cases h'; exact .inl ⟨h, rfl⟩
                 · exact .inr h
                have rr : ∀ {j : Nat} {s : List V}, zC (rows.set i (some (r.set k v'))) j = some s → ∃ s', zC rows j = some s' ∧ s'.length = s.length := by
                 intro j s hs
                 rcases rs hs with ⟨rfl, rfl⟩ | ⟨_, h⟩
                 · exact ⟨r, hri, by simp⟩
                 · exact ⟨s, h, rfl⟩
                have hX : ∀ u c, XX κ (σ.kill (qE (cl v))).h u c → XX (updK κ id (κ id) (κ.row id) (κ.bl id)) ((σ.kill (qE (cl v))).h.set id (some (Ob.mat e e2 sz (rows.set i (some (r.set k v')))))) u c := fun u c hx => XX_set ha hx (fun _ h => by cases h) (fun _ _ _ h => by cases h) (fun e' e2'' sz'' rows' h => by
                 cases h
                 refine ⟨e, e2, rows, rfl, by simp, rfl, fun j s hs => ?_⟩
                 obtain ⟨s', h', hl⟩ := rr hs
                 exact ⟨s', h', by omega, fun _ => rfl⟩)
                refine ⟨_, r1, updK κ id (κ id) (κ.row id) (κ.bl id), ext M w (blks κ (qE (cl v))), ?_⟩
                refine H1.setOb ha (below_setRow (hown b hb) _ (setRow_size q2 r2 hbi)) (fun k _ hne => hoth k (fun e => hne (e ▸ hb))) (fun g hg => .inl hg) hX ?_
                simp only [zU]
                rw [updK_v, updK_row, zF]
                refine ⟨h0, by simpa using h1, ⟨xs, ?_, h3, fun j s hs => by obtain ⟨s', h', _⟩ := rr hs; exact h4 j s' h'⟩, ?_, ?_, ?_, hown, fun g => (hbl g).trans ?_⟩
                · rw [List.length_set]
                  exact ownsRow_mono h2 fun g hg => hoth g (fun e => h7 i r b hri hbi (by rw [← e]; exact hg))
                · intro j s hs
                  rcases rs hs with ⟨rfl, rfl⟩ | ⟨hji, h⟩
                  · exact ⟨by simpa using q1, xs', r2, r3⟩
                  · obtain ⟨q4, zs, q5, q6⟩ := h5 j s h
                    exact ⟨q4, zs, ownsRow_mono q5 (fun g hg => hoth g (fun e => hji (h6 j i s r g h hri hg (by rw [e]; exact hbi)))), q6⟩
                · intro j k s s' g hs hs' hg hg'
                  obtain ⟨s1, h1', _⟩ := rr hs
                  obtain ⟨s2, h2', _⟩ := rr hs'
                  exact h6 j k s1 s2 g h1' h2' hg hg'
                · intro j s g hs
                  obtain ⟨s1, h1', _⟩ := rr hs
                  exact h7 j s1 g h1'
                · refine or_congr Iff.rfl ⟨?_, ?_⟩
                  · rintro ⟨j, s, hj, hg⟩
                    by_cases hji : j = i
                    · subst hji
                      exact ⟨j, r.set k v', by unfold zC; simp [hir.2], hg⟩
                    · exact ⟨j, s, by unfold zC at hj ⊢; rw [List.getElem?_set, if_neg (fun e => hji e.symm)]; exact hj, hg⟩
                  · rintro ⟨j, s, hj, hg⟩
                    obtain ⟨s', h', _⟩ := rr hj
                    exact ⟨j, s', h', hg⟩
              · cases hst
            · cases hst
          · cases hst
        · cases hst
      · cases hst
    · cases hst
  · cases hst

theorem bytesV_eq (l : List UInt8) : bytesV l = l.map fun b => .int .u8 b.toNat := by
 induction l with
 | nil => rfl
 | cons b l ih => simp [bytesV, ih]
theorem byte_rep {M : Mem} {X : V → Value → Prop} (b : UInt8) : rep M X (.int .u8 b.toNat) (.int .u8 b.toNat) := by
 simp only [rep]
 have := b.toNat_lt
 exact ⟨trivial, by simp [IntKind.min, IntKind.signed], by simp [IntKind.max, IntKind.signed, IntKind.bits]; omega⟩
theorem bytes_mem {M : Mem} {g : Nat} : ∀ (l : List UInt8) (off : Nat), (∀ j b, l[j]? = some b → M ⟨g, off + j, none⟩ = some (.int .u8 b.toNat)) → jF M 1 (bytesV l) g off
 | [], _, _ => by simp [bytesV, jF]
 | b :: l, off, h => by
   simp only [bytesV, jF]
   refine ⟨⟨.int .u8 b.toNat, byte_rep b, rfl, by simp [Value.cells, qN, Value.oneCell'], fun j hj => ?_⟩, bytes_mem l (off + 1) fun j c hc => ?_⟩
   · obtain rfl : j = 0 := by omega
     simpa [Value.cells] using h 0 b (by simp)
   · have := h (j + 1) c (by simpa using hc)
     rw [← this]; congr 2; omega

theorem s2b_sound (H : Rel N M0 B w0 κ M σ a w) (bs : ByteArray) (hlen : bs.data.toList.length ≤ 140737488355328) {s d e : TypeId} (hs : P.underlying s = some .string) (hd : P.underlying d = some (.slice e)) (he : P.underlying e = some (.int .u8)) :
 ∃ c w', (convert s d (.string bs)).run P w = .ok c w' ∧ ∃ M', Rel N M0 B w0 κ M' σ a w' ∧ rep M' NX (.seq 1 (bytesV bs.data.toList)) c := by
 have hrun := run_bytes_of_string (P := P) w s d e bs hs hd he
 have hcap := grownCap_ge w bs.size 0 e
 generalize grownCap w bs.size 0 e = cap at *
 refine ⟨_, _, hrun, ext M (w.drew.alloc (.cells (bytesRow bs cap) e ((bytesRow bs cap).size, (bytesRow bs cap).size + 1))) (fun g => g = w.heap.size), ?_, ?_⟩
 · have hb : Below w.heap.size w (w.drew.alloc (.cells (bytesRow bs cap) e ((bytesRow bs cap).size, (bytesRow bs cap).size + 1))) := ((Below.refl _ w).drew).alloc (Nat.le_refl _) _
   refine H.grow hb ?_ ?_ ?_
   · intro p v h
     unfold ext
     rw [if_neg (by have := H.mem_lt h; show ¬ p.block = _; omega)]
     exact h
   · intro p v h
     unfold ext at h
     split at h
     · exact h
     · rw [hb.cell (H.mem_lt h)]; exact H.snd p v h
   · intro p v h
     unfold ext at h
     split at h
     · rename_i hm; have hm : p.block = _ := hm; exact .inr (by omega)
     · exact .inl h
 · simp only [rep]
   have hl : (bytesV bs.data.toList).length = bs.size := by rw [bytesV_eq, List.length_map, ← size_eq]
   refine ⟨some ⟨w.heap.size, 0, none⟩, cap, by rw [hl], by rw [hl]; exact hcap, by rw [hl, size_eq]; exact hlen, by decide, .inr ⟨_, _, rfl, ?_⟩⟩
   refine bytes_mem _ 0 fun j b hj => ?_
   unfold ext
   rw [if_pos (by simp)]
   have hg : (w.drew.alloc (.cells (bytesRow bs cap) e ((bytesRow bs cap).size, (bytesRow bs cap).size + 1))).heap[w.heap.size]? = some (.cells (bytesRow bs cap) e ((bytesRow bs cap).size, (bytesRow bs cap).size + 1)) := heap_alloc_new w.drew _
   rw [cell_of_row _ _ _ _ _ _ hg]
   unfold bytesRow
   have hlt := (List.getElem?_eq_some_iff.1 hj).1
   rw [Nat.zero_add, Array.getElem?_append_left (by simpa using hlt)]
   simp at hj
   simp [hj]

theorem lit_run (H : Rel N M0 B w0 κ M σ a w) {t e : TypeId} {i : TypeInfo} {n len : Nat} {z : Value} {parts : Array (Nat × Operand)} (ht : P.underlying t = some (.slice e)) (hi : P.info? e = some i) (hs : i.size = n) (h0 : 0 < n) (hz : i.zero = some z) (hzs : z.cells.size = n)
 (hle : len * n ≤ 16777216) (hpi : parts.toList.map (·.1) = List.range len) {vs us : List V} (hvs : qA M (XX κ σ.h) vs ((parts.toList.map (·.2)).map a.eval)) (hus : purs σ.h vs = some us) (hsl : jD n us = true) (hul : us.length ≤ 16777216) :
 ∃ (M1 : Mem) (xs : List Value), Rel N M0 B w0 κ M1 (σ.kill (qE vs)) a w ∧ qJ M1 n us xs ∧ us.length = len ∧
   (Instr.buildSlice t len (parts.map fun x => (x.1, a.eval x.2))).run P w = .ok (.slice (some ⟨w.heap.size, 0, none⟩) len len) (w.alloc (.cells xs.toArray e)) := by
 obtain ⟨H1, hM1⟩ := H.kill (qE vs) (purs_in hus)
 generalize hcs : (parts.toList.map (·.2)).map a.eval = cs at *
 have hpu : qA (ext M w (blks κ (qE vs))) NX us cs := by
  refine purs_rep H hM1 (fun id hid g hg p hpb => ?_) hvs hus
  unfold ext
  rw [if_pos (mem_blks.2 ⟨id, hid, by rw [hpb]; exact hg⟩)]
 have hcl : cs.length = len := by
  rw [← hcs, List.length_map, List.length_map]
  have := congrArg List.length hpi
  simpa using this
 have hul' : us.length = len := by rw [← hcl]; exact (qZ hpu).symm
 have hc1 : ∀ c ∈ cs, c.cells.size = n := by
  intro c hc
  obtain ⟨j, hj, hj'⟩ := List.getElem_of_mem hc
  exact (sameLen_rep hsl hpu j c (by rw [List.getElem?_eq_getElem hj, hj'])).1
 have hz0 : 0 < z.cells.size := by omega
 have hbase : ((Array.range (len * n)).map (fun x => z.cells[x % z.cells.size]!)).size = len * n := by simp
 have hfill := fill_row n cs 0 ((Array.range (len * n)).map (fun x => z.cells[x % z.cells.size]!)) hc1 (by rw [hbase, hcl]; simp)
 have hparts : (parts.map fun x => (x.1, a.eval x.2)).toList = (List.range' 0 cs.length).zip cs := by
  rw [hcl, ← List.range_eq_range', ← hpi, ← hcs]
  simp only [Array.toList_map, List.map_map]
  generalize parts.toList = ps
  induction ps with
  | nil => rfl
  | cons p ps ih => simp [ih]
 rw [← hparts] at hfill
 have hrow0 := rowOf_rep hsl hpu
 have hrl := repRow_length hrow0
 have hres : (List.take (0 * n) ((Array.range (len * n)).map (fun x => z.cells[x % z.cells.size]!)).toList ++ rowOf cs ++ List.drop ((0 + cs.length) * n) ((Array.range (len * n)).map (fun x => z.cells[x % z.cells.size]!)).toList).toArray = (rowOf cs).toArray := by
  rw [List.drop_eq_nil_of_le (by rw [Array.length_toList, hbase, hcl]; simp)]
  simp
 rw [hres] at hfill
 have hrun : (Instr.buildSlice t len (parts.map fun x => (x.1, a.eval x.2))).run P w = .ok (.slice (some ⟨w.heap.size, 0, none⟩) len len) (w.alloc (.cells (rowOf cs).toArray e)) := by
  have hsz : szOf P e = some n := by simp [szOf, hi, hs]
  have hn2 : ¬ len * n > 2 ^ 24 := by omega
  unfold Instr.buildSlice
  simp only [Sem.run_bind, run_underlying ht, Result.andThen_ok, zM hsz, hn2, if_false]
  by_cases hln : len * n = 0
  · have hl0 : len = 0 := by
     rcases Nat.eq_zero_or_pos len with h | h
     · exact h
     · have := Nat.mul_pos h h0; omega
    have hcs0 : cs = [] := List.eq_nil_of_length_eq_zero (by omega)
    subst hcs0
    simp only [hln, if_true, Sem.run_pure, Result.andThen_ok] at hfill ⊢
    have e0 : ∀ (f : Nat → Value), Array.map f (Array.range 0) = #[] := fun f => by simp [Array.range_zero']
    simp only [e0] at hfill ⊢
    simp only [Sem.run_bind, Sem.run_pure, Result.andThen_ok, e0, hfill]
    simp [newRow]
  · simp only [hln, if_false, Sem.run_bind, zeroValue, typeInfo, run_program, Result.andThen_ok, hi, hz, Sem.run_pure, hfill]
    simp [newRow]
 exact ⟨_, _, H1, hrow0, hul', hrun⟩
theorem ltr_sound (H : Rel N M0 B w0 κ M σ a w) {t e : TypeId} {i : TypeInfo} {n len : Nat} {z : Value} {parts : Array (Nat × Operand)} (ht : P.underlying t = some (.slice e)) (hi : P.info? e = some i) (hs : i.size = n) (h0 : 0 < n) (hz : i.zero = some z) (hzs : z.cells.size = n)
 (hle : len * n ≤ 16777216) (hpi : parts.toList.map (·.1) = List.range len) {vs us : List V} (hvs : qA M (XX κ σ.h) vs ((parts.toList.map (·.2)).map a.eval)) (hus : purs σ.h vs = some us) (hsl : jD n us = true) (hul : us.length ≤ 16777216) :
 ∃ c w', (Instr.buildSlice t len (parts.map fun x => (x.1, a.eval x.2))).run P w = .ok c w' ∧ ∃ κ' M', Rel N M0 B w0 κ' M' ⟨(σ.kill (qE vs)).r, (σ.kill (qE vs)).h ++ [some (Ob.arr e n us)]⟩ a w' ∧
   rep M' (XX κ' ((σ.kill (qE vs)).h ++ [some (Ob.arr e n us)])) (.ref (σ.kill (qE vs)).h.length us.length) c := by
 obtain ⟨M1, xs, H1, hrow, hl, hrun⟩ := lit_run H ht hi hs h0 hz hzs hle hpi hvs hus hsl hul
 have hxl := repRow_length hrow
 refine ⟨_, _, hrun, upd κ (σ.kill (qE vs)).h.length (.slice (some ⟨w.heap.size, 0, none⟩) len len), M1, ?_, ?_⟩
 · have hBw : B.n ≤ w.heap.size := by rw [H1.base]; exact H1.blw.size
   refine H1.newOb (below_alloc w _) (fun g hg => by cases hg; exact Nat.le_refl _) ?_
   simp only [zU]
   refine ⟨h0, by omega, xs, ?_, hrow, fun g hg => .inl (by rw [zF] at hg; cases hg; exact hBw), fun g => by rw [zF, updK_v]⟩
   rw [upd_self]
   refine ⟨hxl, .inr ⟨w.heap.size, len, _, by rw [hl], Nat.zero_le _, heap_alloc_new w _, by omega, by simp only [maxLen]; omega, by simp [hxl, hl], ?_⟩⟩
   rw [List.take_of_length_le (by simp [hxl])]
 · simp only [rep, XX]
   refine ⟨rfl, by simp, fun e2 sz2 l2 h2 => ?_, fun e2 sz2 l2 l3 h2 => by simp at h2, fun e2 l3 h2 => by simp at h2⟩
   simp at h2
   obtain ⟨rfl, rfl, rfl⟩ := h2
   exact ⟨by simp, fun _ => upd_self.symm⟩
theorem lit_sound (H : Rel N M0 B w0 κ M σ a w) {t e : TypeId} {i : TypeInfo} {n len : Nat} {z : Value} {parts : Array (Nat × Operand)} (ht : P.underlying t = some (.slice e)) (hi : P.info? e = some i) (hs : i.size = n) (h0 : 0 < n) (hz : i.zero = some z) (hzs : z.cells.size = n)
 (hle : len * n ≤ 16777216) (hpi : parts.toList.map (·.1) = List.range len) {vs us : List V} (hvs : qA M (XX κ σ.h) vs ((parts.toList.map (·.2)).map a.eval)) (hus : purs σ.h vs = some us) (hsl : jD n us = true) (hul : us.length ≤ 16777216) :
 ∃ c w', (Instr.buildSlice t len (parts.map fun x => (x.1, a.eval x.2))).run P w = .ok c w' ∧ ∃ κ' M', Rel N M0 B w0 κ' M' (σ.kill (qE vs)) a w' ∧ rep M' NX (.seq n us) c := by
 obtain ⟨H1, hM1⟩ := H.kill (qE vs) (purs_in hus)
 generalize hcs : (parts.toList.map (·.2)).map a.eval = cs at *
 have hpu : qA (ext M w (blks κ (qE vs))) NX us cs := by
  refine purs_rep H hM1 (fun id hid g hg p hpb => ?_) hvs hus
  unfold ext
  rw [if_pos (mem_blks.2 ⟨id, hid, by rw [hpb]; exact hg⟩)]
 have hcl : cs.length = len := by
  rw [← hcs, List.length_map, List.length_map]
  have := congrArg List.length hpi
  simpa using this
 have hul' : us.length = len := by rw [← hcl]; exact (qZ hpu).symm
 have hc1 : ∀ c ∈ cs, c.cells.size = n := by
  intro c hc
  obtain ⟨j, hj, hj'⟩ := List.getElem_of_mem hc
  exact (sameLen_rep hsl hpu j c (by rw [List.getElem?_eq_getElem hj, hj'])).1
 have hz0 : 0 < z.cells.size := by omega
 have hbase : ((Array.range (len * n)).map (fun x => z.cells[x % z.cells.size]!)).size = len * n := by simp
 have hfill := fill_row n cs 0 ((Array.range (len * n)).map (fun x => z.cells[x % z.cells.size]!)) hc1 (by rw [hbase, hcl]; simp)
 have hparts : (parts.map fun x => (x.1, a.eval x.2)).toList = (List.range' 0 cs.length).zip cs := by
  rw [hcl, ← List.range_eq_range', ← hpi, ← hcs]
  simp only [Array.toList_map, List.map_map]
  generalize parts.toList = ps
  induction ps with
  | nil => rfl
  | cons p ps ih => simp [ih]
 rw [← hparts] at hfill
 have hrow0 := rowOf_rep hsl hpu
 have hrl := repRow_length hrow0
 have hres : (List.take (0 * n) ((Array.range (len * n)).map (fun x => z.cells[x % z.cells.size]!)).toList ++ rowOf cs ++ List.drop ((0 + cs.length) * n) ((Array.range (len * n)).map (fun x => z.cells[x % z.cells.size]!)).toList).toArray = (rowOf cs).toArray := by
  rw [List.drop_eq_nil_of_le (by rw [Array.length_toList, hbase, hcl]; simp)]
  simp
 rw [hres] at hfill
 have hrun : (Instr.buildSlice t len (parts.map fun x => (x.1, a.eval x.2))).run P w = .ok (.slice (some ⟨w.heap.size, 0, none⟩) len len) (w.alloc (.cells (rowOf cs).toArray e)) := by
  have hsz : szOf P e = some n := by simp [szOf, hi, hs]
  have hn2 : ¬ len * n > 2 ^ 24 := by omega
  unfold Instr.buildSlice
  simp only [Sem.run_bind, run_underlying ht, Result.andThen_ok, zM hsz, hn2, if_false]
  by_cases hln : len * n = 0
  · have hl0 : len = 0 := by
     rcases Nat.eq_zero_or_pos len with h | h
     · exact h
     · have := Nat.mul_pos h h0; omega
    have hcs0 : cs = [] := List.eq_nil_of_length_eq_zero (by omega)
    subst hcs0
    simp only [hln, if_true, Sem.run_pure, Result.andThen_ok] at hfill ⊢
    have e0 : ∀ (f : Nat → Value), Array.map f (Array.range 0) = #[] := fun f => by simp [Array.range_zero']
    simp only [e0] at hfill ⊢
    simp only [Sem.run_bind, Sem.run_pure, Result.andThen_ok, e0, hfill]
    simp [newRow]
  · simp only [hln, if_false, Sem.run_bind, zeroValue, typeInfo, run_program, Result.andThen_ok, hi, hz, Sem.run_pure, hfill]
    simp [newRow]
 refine ⟨_, _, hrun, κ, ext (ext M w (blks κ (qE vs))) (w.alloc (.cells (rowOf cs).toArray e)) (fun g => g = w.heap.size), ?_, ?_⟩
 · refine H1.grow (below_alloc w _) ?_ ?_ ?_
   · intro p v h
     have := H1.mem_lt h
     unfold ext at h ⊢
     rw [if_neg (by show ¬ p.block = _; omega)]
     exact h
   · intro p v h
     have h' := h
     unfold ext at h
     split at h
     · exact h
     · rw [(below_alloc w _).cell (H1.mem_lt h)]; exact H1.snd p v h
   · intro p v h
     have h' := h
     unfold ext at h
     split at h
     · rename_i hm; have hm : p.block = _ := hm; exact .inr (by omega)
     · exact .inl h
 · simp only [rep]
   refine ⟨some ⟨w.heap.size, 0, none⟩, len, by rw [hul'], by rw [hul']; exact Nat.le_refl _, by omega, h0, .inr ⟨_, _, rfl, ?_⟩⟩
   refine repRow_mem (fun p v h => ?_) 0 hrow0 fun j u hu => ?_
   · have := H1.mem_lt h
     unfold ext at h ⊢
     rw [if_neg (by show ¬ p.block = _; omega)]
     exact h
   · unfold ext
     rw [if_pos (by simp)]
     rw [cell_of_row _ _ _ _ _ _ (heap_alloc_new w _)]
     simpa using hu

mutual
theorem pur_NX {M : Mem} {h : List (Option Ob)} : ∀ {v u : V} {c : Value}, rep M NX v c → pur h v = some u → rep M NX u c
 | .int _ _, u, c, h, hp => by simp only [pur] at hp; cases hp; exact h
 | .bool _, u, c, h, hp => by simp only [pur] at hp; cases hp; exact h
 | .str _, u, c, h, hp => by simp only [pur] at hp; cases hp; exact h
 | .nil sz, u, c, h, hp => by
   simp only [pur] at hp; cases hp
   simp only [rep] at h ⊢
   exact ⟨none, 0, by simpa using h.1, by simp, by simp, h.2, by simp⟩
 | .seq sz l, u, c, h, hp => by simp only [pur] at hp; cases hp; exact h
 | .ref id n, u, c, h, hp => h.elim
 | .strct cs, u, c, h, hp => by
   simp only [pur] at hp
   obtain ⟨us, hus, rfl⟩ := Option.map_eq_some_iff.1 hp
   simp only [rep] at h ⊢
   obtain ⟨arr, h1, h2, h3⟩ := h
   exact ⟨arr, h1, purs_NX h2 hus, h3⟩
 | .ptr _ _, u, c, h, hp => h.elim
 | .eptr _ _ _ _, u, c, h, hp => h.elim
 | .mref _ _ _, u, c, h, hp => h.elim
 | .fseq _ _, u, c, h, hp => h.elim
 | .mptr _ _ _ _ _, u, c, h, hp => h.elim
 | .sptr x off, u, c, h, hp => by simp only [pur] at hp; cases hp; exact h
 | .nilptr, u, c, h, hp => by simp only [pur] at hp; cases hp; exact h
 | .fn f x y, u, c, h, hp => by
   simp only [pur] at hp
   split at hp
   · rename_i x' y' hx hy
     cases hp
     simp only [rep] at h ⊢
     obtain ⟨a1, a2, h1, h2, h3⟩ := h
     exact ⟨a1, a2, h1, purs_NX h2 hx, purs_NX h3 hy⟩
   · cases hp
 | .nilfn, u, c, h, hp => by simp only [pur] at hp; cases hp; exact h
 | .iface t x, u, c, h, hp => by
   simp only [pur] at hp
   obtain ⟨x', hx, rfl⟩ := Option.map_eq_some_iff.1 hp
   simp only [rep] at h ⊢
   obtain ⟨y, h1, h2⟩ := h
   exact ⟨y, h1, pur_NX h2 hx⟩
 | .niliface, u, c, h, hp => by simp only [pur] at hp; cases hp; exact h
 | .tup vs, u, c, h, hp => by
   simp only [pur] at hp
   obtain ⟨us, hus, rfl⟩ := Option.map_eq_some_iff.1 hp
   simp only [rep] at h ⊢
   obtain ⟨arr, h1, h2⟩ := h
   exact ⟨arr, h1, purs_NX h2 hus⟩
 | .junk, u, c, h, hp => by simp only [pur] at hp; cases hp; exact h
theorem purs_NX {M : Mem} {h : List (Option Ob)} : ∀ {vs us : List V} {cs : List Value}, qA M NX vs cs → purs h vs = some us → qA M NX us cs
 | [], us, cs, h, hp => by simp only [purs] at hp; cases hp; exact h
 | v :: vs, us, cs, h, hp => by
   simp only [purs] at hp
   split at hp
   · rename_i u us' hu hus
     cases hp
     simp only [qA] at h ⊢
     obtain ⟨c, cs', h1, h2, h3⟩ := h
     exact ⟨c, cs', h1, pur_NX h2 hu, purs_NX h3 hus⟩
   · cases hp
end

theorem mks_sound (H : Rel N M0 B w0 κ M σ a w) {t e : TypeId} {i : TypeInfo} {n by' : Nat} {z : Value} {v v' : V} (ht : P.underlying t = some (.slice e)) (hi : P.info? e = some i) (hz : i.zero = some z) (hv : cV P e z = some v) (hnt : nt v = true) (hpv : pur [] v = some v')
 (hs : i.size = n) (hby : i.bytes = by') (hb0 : 0 < by') (hn : 0 < n) (hzs : z.cells.size = n) {m : Int} (hm0 : 0 ≤ m) (hmb : m * by' ≤ 140737488355328) {k : IntKind} :
 ∃ c w', (Instr.makeSlice t (.int k m) (.int k m)).run P w = .ok c w' ∧ ∃ κ', Rel N M0 B w0 κ' M { σ with h := σ.h ++ [some (Ob.arr e n (List.replicate m.toNat v'))] } a w' ∧ rep M (XX κ' (σ.h ++ [some (Ob.arr e n (List.replicate m.toNat v'))])) (.ref σ.h.length m.toNat) c := by
 obtain ⟨q, rfl⟩ := Int.eq_ofNat_of_zero_le hm0
 have hqb : q * by' ≤ 140737488355328 := by
  have : ((q * by' : Nat) : Int) ≤ 140737488355328 := by rw [Int.natCast_mul]; exact hmb
  omega
 have hq : q ≤ q * by' := Nat.le_mul_of_pos_right _ hb0
 have hqb' : (by' : Int) * (q : Int) ≤ 281474976710656 := by
  have : ((by' * q : Nat) : Int) ≤ 281474976710656 := by rw [Nat.mul_comm]; omega
  rwa [Int.natCast_mul] at this
 have hr := run_make (P := P) w t e i z ht hi hz k k (q : Int) (q : Int) hm0 (Int.le_refl _) (by rw [hby]; exact hqb') (by omega)
 simp only [Int.toNat_natCast] at hr ⊢
 refine ⟨_, _, hr, upd κ σ.h.length (.slice (some ⟨w.heap.size, 0, none⟩) q q), ?_, ?_⟩
 · have hBw : B.n ≤ w.heap.size := by rw [H.base]; exact H.blw.size
   refine H.newOb (below_alloc w _) (fun g hg => by cases hg; exact Nat.le_refl _) ?_
   simp only [zU]
   have hrp : rep M NX v' z := pur_NX (cV_rep hv) hpv
   have hk := rep_cellsC hrp NX_cell (nt_spec (pur_nt hpv hnt))
   refine ⟨hn, by simp; omega, (madeCells z.cells (q * i.size)).toList, ?_, ?_, fun g hg => .inl (by rw [zF] at hg; cases hg; exact hBw), fun g => by rw [zF, updK_v]⟩
   · rw [upd_self]
     have hsz := size_madeCells z.cells (q * n)
     rw [hs]
     refine ⟨by simp [hsz], .inr ⟨w.heap.size, q, _, by simp, Nat.zero_le _, heap_alloc_new w _, by simp, by simp only [maxLen]; omega, hsz, ?_⟩⟩
     rw [List.take_of_length_le (by simp [hsz])]
   · rw [hs, ← hzs, madeCells_flat _ _ (by omega)]
     exact repRow_replicate hrp rfl hk.2 q
 · simp only [rep, XX]
   refine ⟨rfl, by simp, fun e2 sz2 l2 h2 => ?_, fun e2 sz2 l2 l3 h2 => by simp at h2, fun e2 l3 h2 => by simp at h2⟩
   simp at h2
   obtain ⟨rfl, rfl, rfl⟩ := h2
   exact ⟨by simp, fun _ => upd_self.symm⟩

theorem mk0_sound (H : Rel N M0 B w0 κ M σ a w) {t e : TypeId} {i : TypeInfo} {n by' : Nat} {z : Value} (ht : P.underlying t = some (.slice e)) (hi : P.info? e = some i) (hz : i.zero = some z)
 (hs : i.size = n) (hby : i.bytes = by') (hb0 : 0 < by') (hn : 0 < n) {m : Int} (hm0 : 0 ≤ m) (hmb : m * by' ≤ 140737488355328) {k k' : IntKind} :
 ∃ c w', (Instr.makeSlice t (.int k' 0) (.int k m)).run P w = .ok c w' ∧ ∃ κ', Rel N M0 B w0 κ' M { σ with h := σ.h ++ [some (Ob.arr e n [])] } a w' ∧ rep M (XX κ' (σ.h ++ [some (Ob.arr e n [])])) (.ref σ.h.length 0) c := by
 obtain ⟨q, rfl⟩ := Int.eq_ofNat_of_zero_le hm0
 have hqb : q * by' ≤ 140737488355328 := by
  have : ((q * by' : Nat) : Int) ≤ 140737488355328 := by rw [Int.natCast_mul]; exact hmb
  omega
 have hq : q ≤ q * by' := Nat.le_mul_of_pos_right _ hb0
 have hqb' : (by' : Int) * (q : Int) ≤ 281474976710656 := by
  have : ((by' * q : Nat) : Int) ≤ 281474976710656 := by rw [Nat.mul_comm]; omega
  rwa [Int.natCast_mul] at this
 have hr := run_make (P := P) w t e i z ht hi hz k' k 0 (q : Int) (Int.le_refl _) hm0 (by rw [hby]; exact hqb') (by omega)
 simp only [Int.toNat_natCast, Int.toNat_zero] at hr
 refine ⟨_, _, hr, upd κ σ.h.length (.slice (some ⟨w.heap.size, 0, none⟩) 0 q), ?_, ?_⟩
 · have hBw : B.n ≤ w.heap.size := by rw [H.base]; exact H.blw.size
   refine H.newOb (below_alloc w _) (fun g hg => by cases hg; exact Nat.le_refl _) ?_
   simp only [zU]
   refine ⟨hn, by simp, [], ?_, by simp [qJ], fun g hg => .inl (by rw [zF] at hg; cases hg; exact hBw), fun g => by rw [zF, updK_v]⟩
   rw [upd_self]
   have hsz := size_madeCells z.cells (q * n)
   rw [hs]
   exact ⟨by simp, .inr ⟨w.heap.size, q, _, by simp, Nat.zero_le _, heap_alloc_new w _, by simp, by simp only [maxLen]; omega, hsz, by simp⟩⟩
 · simp only [rep, XX]
   refine ⟨rfl, by simp, fun e2 sz2 l2 h2 => ?_, fun e2 sz2 l2 l3 h2 => by simp at h2, fun e2 l3 h2 => by simp at h2⟩
   simp at h2
   obtain ⟨rfl, rfl, rfl⟩ := h2
   exact ⟨by simp, fun _ => upd_self.symm⟩

theorem mkm_sound (H : Rel N M0 B w0 κ M σ a w) {t e e2 : TypeId} {i : TypeInfo} {n by' : Nat} (ht : P.underlying t = some (.slice e)) (hi : P.info? e = some i) (hz : i.zero = some (.slice none 0 0))
 (hs : i.size = 1) (hby : i.bytes = by') (hb0 : 0 < by') (hn : 0 < n) {m : Int} (hm0 : 0 ≤ m) (hmb : m * by' ≤ 140737488355328) {k : IntKind} :
 ∃ c w', (Instr.makeSlice t (.int k m) (.int k m)).run P w = .ok c w' ∧ ∃ κ', Rel N M0 B w0 κ' M { σ with h := σ.h ++ [some (Ob.mat e e2 n (List.replicate m.toNat (some [])))] } a w' ∧ rep M (XX κ' (σ.h ++ [some (Ob.mat e e2 n (List.replicate m.toNat (some [])))])) (.ref σ.h.length m.toNat) c := by
 obtain ⟨q, rfl⟩ := Int.eq_ofNat_of_zero_le hm0
 have hqb : q * by' ≤ 140737488355328 := by
  have : ((q * by' : Nat) : Int) ≤ 140737488355328 := by rw [Int.natCast_mul]; exact hmb
  omega
 have hq : q ≤ q * by' := Nat.le_mul_of_pos_right _ hb0
 have hqb' : (by' : Int) * (q : Int) ≤ 281474976710656 := by
  have : ((by' * q : Nat) : Int) ≤ 281474976710656 := by rw [Nat.mul_comm]; omega
  rwa [Int.natCast_mul] at this
 have hr := run_make (P := P) w t e i _ ht hi hz k k (q : Int) (q : Int) hm0 (Int.le_refl _) (by rw [hby]; exact hqb') (by omega)
 simp only [Int.toNat_natCast] at hr ⊢
 refine ⟨_, _, hr, updK κ σ.h.length (.slice (some ⟨w.heap.size, 0, none⟩) q q) (fun _ => .slice none 0 0) (fun g => g = w.heap.size), ?_, ?_⟩
 · have hBw : B.n ≤ w.heap.size := by rw [H.base]; exact H.blw.size
   have rs : ∀ {j : Nat} {s : List V}, zC (List.replicate q (some [])) j = some s → s = [] ∧ j < q := by
    intro j s h
    obtain ⟨h1, h2⟩ := rowAt_lt h
    simp at h2
    rw [List.getElem?_replicate, if_pos h2] at h1
    cases h1
    exact ⟨rfl, h2⟩
   refine H.newOb (below_alloc w _) (fun g hg => by rw [hg]; exact Nat.le_refl _) ?_
   simp only [zU]
   rw [updK_v, updK_row, zF]
   have hc : (Value.slice none 0 0).cells = #[Value.slice none 0 0] := rfl
   have hcells : (madeCells (Value.slice none 0 0).cells (q * i.size)).toList = List.replicate q (.slice none 0 0) := by
    rw [hs, Nat.mul_one]
    apply List.ext_getElem?
    intro j
    simp [madeCells, hc, List.getElem?_replicate]
    by_cases hj : j < q
    · simp [hj, Nat.mod_one]
    · simp [hj]
   refine ⟨hn, by simp; omega, ⟨(madeCells (Value.slice none 0 0).cells (q * i.size)).toList, ?_, ?_, ?_⟩, ?_, ?_, ?_, fun g hg => .inl (by rw [hg]; exact hBw), fun g => ?_⟩
   · have hsz := size_madeCells (Value.slice none 0 0).cells (q * 1)
     rw [hs, List.length_replicate]
     refine ⟨by rw [Array.length_toList, hsz], .inr ⟨w.heap.size, q, _, rfl, Nat.zero_le _, heap_alloc_new w _, Nat.le_refl _, by simp only [maxLen]; omega, hsz, ?_⟩⟩
     rw [List.take_of_length_le (by rw [Array.length_toList, hsz]; exact Nat.le_refl _)]
   · intro u hu
     rw [hcells] at hu
     rw [(List.mem_replicate.1 hu).2]
     rfl
   · intro j r hj
     rw [hcells, List.getElem?_replicate, if_pos (rs hj).2]
   · intro j r hj
     rw [(rs hj).1]
     exact ⟨by simp, [], World.ownsRow_nil _ 0 e2 n, by simp [qJ]⟩
   · intro j k r s g _ _ h
     cases h
   · intro j r g _ h
     cases h
   · constructor
     · intro h; exact .inl (by rw [h]; rfl)
     · rintro (h | ⟨_, _, _, h⟩)
       · cases h; rfl
       · cases h
 · simp only [rep, XX]
   refine ⟨rfl, by simp, fun e3 sz2 l2 h2 => by simp at h2, fun e3 sz2 l2 l3 h2 => ?_, fun e3 l3 h2 => by simp at h2⟩
   simp at h2
   obtain ⟨rfl, rfl, rfl, rfl⟩ := h2
   exact ⟨by simp, fun _ => updK_v.symm⟩

theorem ofBytesV_get : ∀ {l : List V} {s : List UInt8}, ofBytesV l = some s → s.length = l.length ∧ ∀ (j : Nat) (b : UInt8), s[j]? = some b → ∃ n, l[j]? = some (.int .u8 n) ∧ b = UInt8.ofNat n.toNat
 | [], s, h => by simp only [ofBytesV, Option.some.injEq] at h; subst h; simp
 | v :: l, s, h => by
   cases v <;> try (simp only [ofBytesV] at h; cases h; done)
   rename_i k n
   cases k <;> try (simp only [ofBytesV] at h; cases h; done)
   simp only [ofBytesV, Option.map_eq_some_iff] at h
   obtain ⟨t, h1, rfl⟩ := h
   obtain ⟨h2, h3⟩ := ofBytesV_get h1
   refine ⟨by simp [h2], fun j b hj => ?_⟩
   cases j with
   | zero => simp at hj; exact ⟨n, by simp, hj.symm⟩
   | succ j => simp at hj; simpa using h3 j b hj

theorem b2s_sound (H : Rel N M0 B w0 κ M σ a w) {s d e : TypeId} {x : Operand} {u : AO} (hx : cO P s x = some u) (hs : P.underlying s = some (.slice e)) (he : P.underlying e = some (.int .u8)) (hd : P.underlying d = some .string)
 {v : V} (hv : σ.val (.b2s u) = some v) : ∃ c, (convert s d (a.eval x)).run P w = .ok c w ∧ rep M (XX κ σ.h) v c := by
 simp only [St.val] at hv
 split at hv
 · rename_i v0 hv0
   split at hv
   · rename_i l hl
     simp only [Option.map_eq_some_iff] at hv
     obtain ⟨t, ht, rfl⟩ := hv
     have hr := pur_rep H H.snd (fun _ _ _ _ _ _ => rfl) (H.op hx hv0) hl
     simp only [rep] at hr
     obtain ⟨p, cap, e1, _, hlen, _, hmem⟩ := hr
     obtain ⟨hlt, hget⟩ := ofBytesV_get ht
     rcases hmem with rfl | ⟨b, off, rfl, hm⟩
     · have : t = [] := by simpa using hlt
       subst this
       refine ⟨.string .empty, ?_, by simp only [rep]; exact ⟨_, rfl, rfl, by simp⟩⟩
       rw [e1]
       cases p with
       | none => exact run_convert_bytes_nil w s e hs he _ _ d hd
       | some p => exact run_convert_bytes_back w s d e p cap [] hs he hd (fun j hj => by simp at hj)
     · refine ⟨.string ⟨t.toArray⟩, ?_, by simp only [rep]; exact ⟨_, rfl, rfl, by omega⟩⟩
       rw [e1, ← hlt]
       refine run_convert_bytes_back w s d e _ cap t hs he hd fun j hj => ?_
       obtain ⟨n, h1, h2⟩ := hget j t[j] (by simp)
       obtain ⟨y, g1, g2, g3, g4⟩ := repMem_get hm h1
       simp only [rep] at g1
       obtain ⟨rfl, hn1, hn2⟩ := g1
       have := g4 0 (by omega)
       rw [Addr.add_lit]
       simp only [Nat.mul_one, Nat.add_zero] at this
       rw [this, h2]
       have hmin : IntKind.u8.min = 0 := by decide
       have hmax : IntKind.u8.max = 255 := by decide
       rw [hmin] at hn1
       rw [hmax] at hn2
       have hn : n.toNat < 256 := by omega
       simp only [Value.cells, List.getElem?_toArray, List.getElem?_cons_zero]
       congr 2
       simp [UInt8.toNat_ofNat, Nat.mod_eq_of_lt hn, Int.toNat_of_nonneg hn1]
   · cases hv
 · cases hv

theorem mkp_sound (H : Rel N M0 B w0 κ M σ a w) {t : TypeId} {kt : KT} : ∃ c w', (Instr.makeMap t none).run P w = .ok c w' ∧ ∃ κ', Rel N M0 B w0 κ' M { σ with h := σ.h ++ [some (Ob.mp kt [])] } a w' ∧ rep M (XX κ' (σ.h ++ [some (Ob.mp kt [])])) (.ref σ.h.length 0) c := by
 refine ⟨_, _, run_makeMap (P := P) t w, updK κ σ.h.length (.map (some w.heap.size)) (fun _ => .nilFunc) (fun g => g = w.heap.size), ?_, ?_⟩
 · have hBw : B.n ≤ w.heap.size := by rw [H.base]; exact H.blw.size
   refine H.newOb (below_alloc w _) (fun g hg => by rw [hg]; exact Nat.le_refl _) ?_
   simp only [zU]
   rw [updK_v, zF]
   refine ⟨w.heap.size, #[], 0, rfl, .inl hBw, ?_, rfl, fun g => Iff.rfl⟩
   show (w.heap.push _)[w.heap.size]? = _
   simp
 · simp only [rep, XX]
   refine ⟨rfl, by simp, fun e2 sz2 l2 h2 => by simp at h2, fun e2 sz2 l2 l3 h2 => by simp at h2, fun e2 l3 h2 => ?_⟩
   rw [updK_v]
theorem mup_sound (H : Rel N M0 B w0 κ M σ a w) {t K E : TypeId} {kt : KT} (ht : P.underlying t = some (.map K E)) (hk : ktT P K = some kt) {id : Nat} {l : List (V × V)} (hm : σ.h[id]? = some (some (.mp kt l))) {kv u' : V} {c d : Value}
 (hf : zL kt kv = true) (hc : rep M (XX κ σ.h) kv c) (hd : rep M NX u' d) : ∃ w', (Instr.mapUpdate t (κ id) c d).run P w = .ok () w' ∧ ∃ κ', Rel N M0 B w0 κ' M { σ with h := σ.h.set id (some (Ob.mp kt (mput kv u' l))) } a w' := by
 obtain ⟨b, es, clock, e1, e2, e3, e4, e5⟩ := H.heap id _ hm
 obtain ⟨r, g1, g2⟩ := run_find hk hf hc w l es.toList e4
 have gc := run_check hk hf hc false w
 have hobj := Go.MapKept.run_getObj_map (P := P) e3
 have hkN : rep M NX kv c := by
  have := key_val hk hf hc
  refine key_NX hf hc
 have fin : ∀ (es' : Array MapEntry) (clock' : Nat), mpAt M kt (mput kv u' l) es'.toList → ∃ κ', Rel N M0 B w0 κ' M { σ with h := σ.h.set id (some (Ob.mp kt (mput kv u' l))) } a { w with heap := w.heap.setIfInBounds b (.map es' clock') } := by
  intro es' clock' hes
  have hlt : b < w.heap.size := (Array.getElem?_eq_some_iff.1 e3).1
  refine ⟨updK κ id (κ id) (κ.row id) (κ.bl id), H.setOb hm ⟨rfl, rfl, rfl, by simp, fun k hk1 hk2 => ?_, fun k cur T z hc => ⟨cur, T, z, by
   have : b ≠ k := fun e => by subst e; rw [e3] at hc; cases hc
   simp [Array.getElem?_setIfInBounds, this, hc], rfl⟩⟩ (fun k hk1 hk2 => ?_) (fun g hg => .inl hg) (fun v c hx => XX_set hm hx (fun _ h => by cases h) (fun _ _ _ h => by cases h) (fun _ _ _ _ h => by cases h) (fun kt2 l2 h => ⟨_, _, rfl, rfl⟩)) ?_⟩
  · have : b ≠ k := fun e => by
     subst e
     rcases e2 with h | h
     · omega
     · exact hk2 h
    simp [Array.getElem?_setIfInBounds, this]
  · have : b ≠ k := fun e => hk2 (by subst e; exact (e5 b).2 rfl)
    simp [Array.getElem?_setIfInBounds, this]
  · simp only [zU]
    rw [updK_v, zF]
    exact ⟨b, es', clock', e1, e2, by simp [Array.getElem?_setIfInBounds, hlt], hes, e5⟩
 rcases g2 with ⟨rfl, g3, g4⟩ | ⟨j, e, k', v2, rfl, hj, g3, _, hfk, hke, heq, g4⟩
 · refine ⟨_, ?_, fin (es.push { key := c, val := d, born := clock }) (clock + 1) (by simpa using g4 { key := c, val := d, born := clock } u' hf hkN hd)⟩
   unfold Instr.mapUpdate
   simp [run_underlying ht, e1, hobj, gc, g1, Go.MapKept.run_setObj_map _ e3]
 · have hcc : e.key = c := (key_same hf hfk heq hc hke).symm
   have hjs : es[j]? = some e := by simpa using hj
   have hst : (Instr.keyThatStays (((es[j]?).map (·.key)).getD c) c).run P w = .ok c w := by
    rw [hjs]
    simp only [Option.map_some, Option.getD_some, hcc, Instr.keyThatStays, bits_same hf hc, if_true]
    rfl
   refine ⟨_, ?_, fin (es.modify j fun e => { e with key := c, val := d }) clock (by simpa using g4 (fun e => { e with key := c, val := d }) u' hf (fun _ => ⟨hkN, hd⟩))⟩
   unfold Instr.mapUpdate
   simp [run_underlying ht, e1, hobj, gc, g1, hst, Go.MapKept.run_setObj_map _ e3]

theorem eff_sound (H : Rel N M0 B w0 κ M σ a w) {ty : TypeId} {op : Op} {act : Act'} (hl : LE P ty op act) {d : Option Nat} (hd : ∀ t, d = some t → t < N ∧ t ∉ B.ps) {K : St → Prop} (hW : qC (Cn P) d act K σ)
 {Nx : Act → World → Prop} (hK : ∀ κ' M' σ' a' w', K σ' → Rel N M0 B w0 κ' M' σ' a' w' → Nx a' w') {Q : Exit → Act → World → Prop} (o : Oper) (ho : o.op = op) (hty : o.type = ty) (hod : o.dst = d) : o.wp P a w Nx Q := by
 unfold Oper.wp execOp
 subst hod
 cases hl <;> rw [ho] <;> dsimp only
 case alloc e i z v hi hz hv hnt =>
  simp only [qC] at hW
  have hr := cV_rep hv (M := M) (X := NX)
  have hk := rep_cellsC hr NX_cell (nt_spec hnt)
  have ho' : zU (upd κ σ.h.length (.pointer (some ⟨w.heap.size, 0, none⟩))) M (XX (upd κ σ.h.length (.pointer (some ⟨w.heap.size, 0, none⟩))) (σ.h ++ [some (Ob.box (cl v))])) B (w.alloc (.cells z.cells e)) σ.h.length (.box (cl v)) := by
   simp only [zU]
   refine ⟨w.heap.size, z.cells, e, upd_self, .inl (by rw [H.base]; exact H.blw.size), heap_alloc_new w _, zK (fun _ _ h => h) (fun _ _ h => h.elim) _ _ hk.1, hk.2, fun g => by rw [zF]; simp only [blk, Option.some.injEq]; exact eq_comm⟩
  have H' := H.newOb (below_alloc w _) (kv := .pointer (some ⟨w.heap.size, 0, none⟩)) (fun g hg => by cases hg; exact Nat.le_refl _) ho'
  have hfin := hK _ _ _ _ _ hW (H'.put' (c := .pointer (some ⟨w.heap.size, 0, none⟩)) hd (by
   simp only [rep, XX]
   exact ⟨rfl, by simp, fun cs _ => ⟨w.heap.size, upd_self, rfl⟩⟩))
  simp [Instr.alloc, zeroValue, typeInfo, hi, hz, newVar, newRow, Oper.upon]
  exact hfin
 case box e x y hx =>
  simp only [qC] at hW
  split at hW
  · rename_i v hv
    split at hW
    · rename_i hnt
      have hr := H.op hx hv
      have hk := rep_cellsC hr XX_cell (nt_spec hnt)
      have hX : ∀ u c, XX κ σ.h u c → XX (upd κ σ.h.length (.pointer (some ⟨w.heap.size, 0, none⟩))) (σ.h ++ [some (Ob.box (cl v))]) u c := fun u c hx => XX_lt hx (by simp) (fun i hi => upd_ne (by omega)) (fun i hi => (updK_ne (by omega)).2.1) (fun i ob' hi h => by rwa [List.getElem?_append_left hi] at h)
      have ho' : zU (upd κ σ.h.length (.pointer (some ⟨w.heap.size, 0, none⟩))) M (XX (upd κ σ.h.length (.pointer (some ⟨w.heap.size, 0, none⟩))) (σ.h ++ [some (Ob.box (cl v))])) B (w.alloc (.cells (a.eval x).cells e)) σ.h.length (.box (cl v)) := by
       simp only [zU]
       exact ⟨w.heap.size, (a.eval x).cells, e, upd_self, .inl (by rw [H.base]; exact H.blw.size), heap_alloc_new w _, zK (fun _ _ h => h) hX _ _ hk.1, hk.2, fun g => by rw [zF]; simp only [blk, Option.some.injEq]; exact eq_comm⟩
      have H' := H.newOb (below_alloc w _) (kv := .pointer (some ⟨w.heap.size, 0, none⟩)) (fun g hg => by cases hg; exact Nat.le_refl _) ho'
      have hfin := hK _ _ _ _ _ hW (H'.put' (c := .pointer (some ⟨w.heap.size, 0, none⟩)) hd (by
       simp only [rep, XX]
       exact ⟨rfl, by simp, fun cs _ => ⟨w.heap.size, upd_self, rfl⟩⟩))
      simp [Instr.box, newVar, newRow, Oper.upon]
      exact hfin
    · exact hW.elim
  · exact hW.elim
 case store t p x p' x' n hp hx hs =>
  simp only [qC] at hW
  split at hW
  · rename_i pv v hpv hv
    split at hW
    · rename_i hnt
      split at hW
      · rename_i σ' hst
        obtain ⟨w', hrun, κ', M', H'⟩ := stor_sound H hs (H.op hp hpv) (H.op hx hv) hnt hst
        have hfin := hK _ _ _ _ _ hW (H'.undef hd)
        simp [hrun, Oper.upon]
        exact hfin
      · exact hW.elim
    · exact hW.elim
  · exact hW.elim
 case s2b s d x y e hx hs hd' he =>
  simp only [qC] at hW
  split at hW
  · rename_i l hv
    obtain ⟨hlen, hW⟩ := hW
    obtain ⟨bs, hc, rfl, _⟩ := rep_str (H.op hx hv)
    obtain ⟨c, w', hrun, M', H', hr⟩ := s2b_sound H bs hlen hs hd' he
    have hfin := hK _ _ _ _ _ hW (H'.put' hd (qU hr))
    simp [hc, hrun, Oper.upon]
    exact hfin
  · exact hW.elim
 case lit t len parts xs e n i z ht hi hs h0 hz hzs hle hpi hps =>
  simp only [qC] at hW
  split at hW
  · rename_i vs hvs
    split at hW
    · rename_i us hus
      obtain ⟨hsl, hul, hW⟩ := hW
      obtain ⟨c, w', hrun, κ', M', H', hr⟩ := lit_sound H ht hi hs h0 hz hzs hle hpi (H.ops hps hvs) hus hsl hul
      have hfin := hK _ _ _ _ _ hW (H'.put' hd (qU hr))
      simp [hrun, Oper.upon]
      exact hfin
    · exact hW.elim
  · exact hW.elim
 case ltr t len parts xs e n i z ht hi hs h0 hz hzs hle hpi hps =>
  simp only [qC] at hW
  split at hW
  · rename_i vs hvs
    split at hW
    · rename_i us hus
      obtain ⟨hsl, hul, hW⟩ := hW
      obtain ⟨c, w', hrun, κ', M', H', hr⟩ := ltr_sound H ht hi hs h0 hz hzs hle hpi (H.ops hps hvs) hus hsl hul
      have hfin := hK _ _ _ _ _ hW (H'.put' hd hr)
      simp [hrun, Oper.upon]
      exact hfin
    · exact hW.elim
  · exact hW.elim
 case app t x y x' y' e i z n by' ht hi hz hs hby hb0 hzs hn hx hy =>
  obtain ⟨c, w1, hr, hfin⟩ := app_sound (ty := o.type) H ht hi hz hs hby hb0 hzs hn hx hy hd hW hK
  simp [resolve, invoke, builtin, hr, Oper.upon]
  exact hfin
 case mks t l l' e i z v v' n by' ht hi hz hv hnt hpv hs hby hb0 hn hl' hzs =>
  simp only [qC] at hW
  split at hW
  · rename_i k m hm
    obtain ⟨hm0, hmb, hW⟩ := hW
    obtain ⟨c, w', hrun, κ', H', hr⟩ := mks_sound H ht hi hz hv hnt hpv hs hby hb0 hn hzs hm0 hmb (k := k)
    obtain ⟨em, _⟩ := jE (H.op hl' hm)
    have hfin := hK _ _ _ _ _ hW (H'.put' hd hr)
    simp [em, hrun, Oper.upon]
    exact hfin
  · exact hW.elim
 case mk0 t k0 l l' e i z n by' ht hi hz hs hby hb0 hn hl' =>
  simp only [qC] at hW
  split at hW
  · rename_i k m hm
    obtain ⟨hm0, hmb, hW⟩ := hW
    obtain ⟨c, w', hrun, κ', H', hr⟩ := mk0_sound H ht hi hz hs hby hb0 hn hm0 hmb (k := k) (k' := k0)
    obtain ⟨em, _⟩ := jE (H.op hl' hm)
    have hfin := hK _ _ _ _ _ hW (H'.put' hd hr)
    have ec : a.eval (.const (.int k0 0)) = .int k0 0 := rfl
    simp [em, ec, hrun, Oper.upon]
    exact hfin
  · exact hW.elim
 case mkm t l l' e i n by' e2 i2 ht hi hz hs hby hb0 ht2 hi2 hs2 hn hl' =>
  simp only [qC] at hW
  split at hW
  · rename_i k m hm
    obtain ⟨hm0, hmb, hW⟩ := hW
    obtain ⟨c, w', hrun, κ', H', hr⟩ := mkm_sound (e2 := e2) H ht hi hz hs hby hb0 hn hm0 hmb (k := k)
    obtain ⟨em, _⟩ := jE (H.op hl' hm)
    have hfin := hK _ _ _ _ _ hW (H'.put' hd hr)
    simp [em, hrun, Oper.upon]
    exact hfin
  · exact hW.elim
 case mkp t K E kt ht hk =>
  simp only [qC] at hW
  obtain ⟨c, w', hrun, κ', H', hr⟩ := mkp_sound (P := P) (t := t) (kt := kt) H
  have hfin := hK _ _ _ _ _ hW (H'.put' hd hr)
  simp [hrun, Oper.upon]
  exact hfin
 case mup t K E x k v u b c kt ht hk hx hkk hvv =>
  simp only [qC] at hW
  split at hW
  · rename_i id n kv u1 h1 h2 h3
    split at hW
    · rename_i kt' l u' hm hp
      obtain ⟨rfl, hf, hvi, hnt, hW⟩ := hW
      have hmp := mp?_eq hm
      have r1 := H.op hx h1
      simp only [rep, XX] at r1
      have ex := r1.2.2.2.2 _ _ hmp
      have hd' := pur_rep H (fun _ _ h => h) (fun id hid => by rw [hvi] at hid; cases hid) (H.op hvv h3) hp
      obtain ⟨w', hrun, κ', H'⟩ := mup_sound (P := P) H ht hk hmp hf (H.op hkk h2) hd'
      have hfin := hK _ _ _ _ _ hW (H'.undef hd)
      simp [ex, hrun, Oper.upon]
      exact hfin
    · exact hW.elim
  · exact hW.elim
 case mui t K E x k v u b c kt ht hk hx hkk hvv =>
  simp only [qC] at hW
  split at hW
  · rename_i id n kv u1 h1 h2 h3
    split at hW
    · rename_i kt' l u' hm hp
      obtain ⟨rfl, hf, hvi, hnt, hW⟩ := hW
      have hmp := mp?_eq hm
      have r1 := H.op hx h1
      simp only [rep, XX] at r1
      have ex := r1.2.2.2.2 _ _ hmp
      have hd' := pur_rep H (fun _ _ h => h) (fun id hid => by rw [hvi] at hid; cases hid) (H.op hvv h3) hp
      obtain ⟨w', hrun, κ', H'⟩ := mup_sound (P := P) H ht hk hmp hf (H.op hkk h2) hd'
      have hfin := hK _ _ _ _ _ hW (H'.undef hd)
      simp [ex, hrun, Oper.upon]
      exact hfin
    · exact hW.elim
  · exact hW.elim
 case call f args ts xs hx =>
  simp only [qC] at hW
  split at hW
  · rename_i vs hvs
    split at hW
    · rename_i us hus
      have hcs := H.ops hx hvs
      have := call_sound H hd hW hus (cs := args.map a.eval) (by simpa using hcs) hK (Q := Q) o rfl
      simpa [resolve, Deferred.ofValue, invoke, Act.eval] using this
    · have := callH_sound H hd hW (cs := args.map a.eval) (by simpa using H.ops hx hvs) hK (Q := Q) o rfl
      simpa [resolve, Deferred.ofValue, invoke, Act.eval] using this
  · exact hW.elim
 case inv r x name args ts xs tbl hx ht hxs =>
  simp only [qC] at hW
  split at hW
  · rename_i t v vs he hvs
    split at hW
    · rename_i f hf
      subst ht
      have hr := H.op hx he
      simp only [rep] at hr
      obtain ⟨y, ey, hy⟩ := hr
      have hcs : qA M (XX κ σ.h) (v :: vs) (#[y] ++ args.map a.eval).toList := by
       have := H.ops hxs hvs
       simp only [Array.toList_append, List.cons_append, List.nil_append, qA]
       exact ⟨y, _, rfl, hy, by simpa using this⟩
      have hrun : ((do let d ← resolve a.eval { callee := .invoke r name, args := args, argTypes := ts } o.type; invoke d.target d.args : Sem Next)).run P w = (callFunc f (#[y] ++ args.map a.eval)).run P w := by
       have e0 : ∀ l : Array Value, (#[Value.iface t y] ++ l)[0]? = some (.iface t y) := fun l => by simp [Array.getElem?_append]
       have e1 : (args.map a.eval).extract 0 args.size = args.map a.eval := by simp
       simp [resolve, invoke, callMethod, ey, Made.depth, run_method hf, e0, e1]
      rw [hrun]
      split at hW
      · rename_i us hus
        exact call_sound H hd hW hus hcs hK (Q := Q) o rfl
      · exact callH_sound H hd hW hcs hK (Q := Q) o rfl
    · exact hW.elim
  · exact hW.elim
 case trc t x hi u hi' e n hx hh ht hs =>
  simp only [qC] at hW
  split at hW
  · rename_i id m k b he hb
    split at hW
    · rename_i e' sz' l hal
      obtain ⟨rfl, hn, hb0, hbn, hW⟩ := hW
      have ha := arr?_eq hal
      simp only at ha
      have hr := H.op hx he
      simp only [rep, XX] at hr
      have hck := (hr.2.2.1 _ _ _ ha).2 hn
      obtain ⟨ei, _⟩ := jE (H.op hh hb)
      obtain ⟨h0, hll, xs, ho, hrow, _⟩ := H.heap id _ ha
      have hsl : ∃ (ad : Option Addr) (cap : Nat), κ id = .slice ad l.length cap ∧ l.length ≤ cap ∧ ∀ q, ad.map (·.add (0 * q)) = ad := by
       rcases ho.2 with ⟨h4, h5⟩ | ⟨g, cap, cur, h4, h5, h6, h7, _⟩
       · exact ⟨none, 0, by rw [h4, h5], by omega, fun q => rfl⟩
       · exact ⟨some ⟨g, 0, none⟩, cap, h4, h7, fun q => by simp [Addr.add_lit]⟩
      obtain ⟨ad, cap, hκ, hcap, hadd⟩ := hsl
      obtain ⟨κ', H', hk'⟩ := H.trunc ha (b := b.toNat) (by omega) hκ
      have b3 : (Instr.sliceBounds true l.length cap none (some (.int k b)) none).run P w = .ok (0, b.toNat, cap) w :=
       run_bounds (p := 0) (q := b.toNat) (.inr ⟨k, b, rfl, by omega, by omega, rfl⟩) (.inl ⟨rfl, rfl⟩) w
      have hfin := hK _ _ _ _ _ hW (H'.put' hd (c := .slice ad b.toNat cap) (by
       simp only [rep, XX]
       refine ⟨rfl, by simp, fun e2 sz2 l2 h2 => ?_, fun e2 sz2 l2 l3 h2 => by simp at h2, fun e2 l3 h2 => by simp at h2⟩
       simp at h2
       obtain ⟨rfl, rfl, rfl⟩ := h2
       exact ⟨by simp; omega, fun _ => hk'.symm⟩))
      have hrun : (Instr.sliceAt t (a.eval x) none (some (a.eval hi)) none).run P w = .ok (.slice ad b.toNat cap) w := by
       rw [hck] at *
       simp [Instr.sliceAt, run_underlying ht, Instr.slice, hκ, ei, b3, zM hs]
       intro hc0
       simpa using hadd sz'
      simp only [Option.map_none, Option.map_some]
      simp [hrun, Oper.upon]
      exact hfin
    · exact hW.elim
  · exact hW.elim
 case callH f args ts xs hx =>
  simp only [qC] at hW
  split at hW
  · rename_i vs hvs
    have := callH_sound H hd hW (cs := args.map a.eval) (by simpa using H.ops hx hvs) hK (Q := Q) o rfl
    simpa [resolve, Deferred.ofValue, invoke, Act.eval] using this
  · exact hW.elim
 case b2s s d x u e hx hs he hd' =>
  simp only [qC] at hW
  split at hW
  · rename_i v hv
    obtain ⟨c, hrun, hc⟩ := b2s_sound H hx hs he hd' hv
    have hfin := hK _ _ _ _ _ hW (H.put' hd hc)
    simp [hrun, Oper.upon]
    exact hfin
  · exact hW.elim
 case callv g args ts xs hx =>
  simp only [qC] at hW
  split at hW
  · rename_i f x y vs hg hvs
    split at hW
    · rename_i us hus
      have hcs := H.ops hx hvs
      simp only [St.ev] at hg
      have hrg := H.ev hg
      simp only [rep] at hrg
      obtain ⟨a1, a2, e1, h1, h2⟩ := hrg
      have := call_sound H hd hW hus (cs := a1 ++ args.map a.eval ++ a2) (by simpa using repAll_append h1 (repAll_append hcs h2)) hK (Q := Q) o rfl
      simpa [resolve, Deferred.ofValue, invoke, e1] using this
    · have hcs := H.ops hx hvs
      simp only [St.ev] at hg
      have hrg := H.ev hg
      simp only [rep] at hrg
      obtain ⟨a1, a2, e1, h1, h2⟩ := hrg
      have := callH_sound H hd hW (cs := a1 ++ args.map a.eval ++ a2) (by simpa using repAll_append h1 (repAll_append hcs h2)) hK (Q := Q) o rfl
      simpa [resolve, Deferred.ofValue, invoke, e1] using this
  · exact hW.elim
end
end Go.Abs
end
section
namespace Go.Abs
open Go.RowKit
section
variable {P : Program} {N : Nat} {M0 : Mem} {B : Bas} {w0 : World} {κ : Kap} {M : Mem} {σ : St} {a : Act} {w w' : World}

theorem Rel.mat (H : Rel N M0 B w0 κ M σ a w) {m : Mat} {σ' : St} (h : σ.mat m = some σ') : ∃ κ' M', Rel N M0 B w0 κ' M' σ' a w := by
 cases m with
 | r t e sz =>
   simp only [St.mat] at h
   split at h
   · rename_i sz0 hlk
     split at h
     · rename_i hsz
       cases h
       have ho : zU (upd κ σ.h.length (.slice none 0 0)) M (XX (upd κ σ.h.length (.slice none 0 0)) (σ.h ++ [some (Ob.arr e sz [])])) B w σ.h.length (.arr e sz []) := by
        simp only [zU]
        exact ⟨hsz, by simp, [], by rw [upd_self]; exact World.ownsRow_nil w 0 e sz, by simp [qJ], fun g hg => (by rw [zF] at hg; cases hg), fun g => by rw [zF, updK_v]⟩
       have H' := H.newOb (Below.refl _ _) (kv := .slice none 0 0) (fun g hg => by cases hg) ho
       refine ⟨_, _, { dfr := H'.dfr, pin := H'.pin, size := H'.size, regs := ?_, heap := H'.heap, inj := H'.inj, snd := H'.snd, sep := H'.sep, sub := H'.sub, new := H'.new, base := H'.base, blw := H'.blw }⟩
       intro t' v hv
       simp only [lk] at hv
       split at hv
       · rename_i he
         subst he
         cases hv
         obtain ⟨h1, c, h2, h3⟩ := H.regs _ _ hlk
         simp only [rep] at h3
         refine ⟨h1, c, h2, ?_⟩
         simp only [rep, XX]
         rw [h3.1]
         refine ⟨rfl, by simp, fun e2 sz2 l2 h2 => ?_, fun e2 sz2 l2 l3 h2 => by simp at h2, fun e2 l3 h2 => by simp at h2⟩
         simp at h2
         obtain ⟨rfl, rfl, rfl⟩ := h2
         exact ⟨by simp, fun _ => upd_self.symm⟩
       · exact H'.regs t' v hv
     · cases h
   · cases h
 | b id off e sz =>
   simp only [St.mat] at h
   split at h
   · rename_i cs hcs
     split at h
     · rename_i sz0 hoff
       split at h
       · rename_i hsz
         cases h
         have ho : zU (upd κ σ.h.length (.slice none 0 0)) M (XX (upd κ σ.h.length (.slice none 0 0)) (σ.h ++ [some (Ob.arr e sz [])])) B w σ.h.length (.arr e sz []) := by
          simp only [zU]
          exact ⟨hsz, by simp, [], by rw [upd_self]; exact World.ownsRow_nil w 0 e sz, by simp [qJ], fun g hg => (by rw [zF] at hg; cases hg), fun g => by rw [zF, updK_v]⟩
         have H' := H.newOb (Below.refl _ _) (kv := .slice none 0 0) (fun g hg => by cases hg) ho
         have hb := box?_eq hcs
         have hlt : id < σ.h.length := (List.getElem?_eq_some_iff.1 hb).1
         have hb' : (σ.h ++ [some (Ob.arr e sz [])])[id]? = some (some (.box cs)) := by rw [List.getElem?_append_left hlt]; exact hb
         obtain ⟨b, arr, T, h1, h2, h3, h4, h5, h6⟩ := H'.heap id _ hb'
         let κ1 := upd κ σ.h.length (.slice none 0 0)
         have hX : ∀ u c, XX κ1 (σ.h ++ [some (Ob.arr e sz [])]) u c → XX (upd κ1 id (κ1 id)) ((σ.h ++ [some (Ob.arr e sz [])]).set id (some (Ob.box (cs.set off (.ref σ.h.length 0))))) u c := fun u c hx => XX_set hb' hx (fun _ _ => ⟨⟨cs, rfl⟩, rfl⟩) (fun _ _ _ h => by cases h) (fun _ _ _ _ h => by cases h)
         have H2 := H'.setOb hb' (ob := .box (cs.set off (.ref σ.h.length 0))) (kv := κ1 id) (Und.refl _ _) (fun _ _ _ => rfl) (fun g hg => .inl ((h6 g).2 (by rw [h1] at hg; cases hg; rfl))) hX (by
          simp only [zU]
          refine ⟨b, arr, T, by rw [upd_self]; exact h1, h2, h3, ?_, h5, fun g => by rw [zF, h1]; simp only [blk, Option.some.injEq]; exact eq_comm⟩
          obtain ⟨c, g1, g2⟩ := repAll_get (zK (fun _ _ h => h) hX _ _ h4) hoff
          simp only [rep] at g2
          have hs := repAll_set off (zK (fun _ _ h => h) hX _ _ h4) (v := .ref σ.h.length 0) (c := c) (by
           simp only [rep, XX]
           rw [g2.1]
           refine ⟨rfl, by simp, fun e2 sz2 l2 h2 => ?_, fun e2 sz2 l2 l3 h2 => by rw [List.getElem?_set_ne (by omega)] at h2; simp at h2, fun e2 l3 h2 => by rw [List.getElem?_set_ne (by omega)] at h2; simp at h2⟩
           rw [List.getElem?_set_ne (by omega)] at h2
           simp at h2
           obtain ⟨rfl, rfl, rfl⟩ := h2
           refine ⟨by simp, fun _ => ?_⟩
           rw [upd_ne (by omega)]
           exact upd_self.symm)
          have : arr.toList.set off c = arr.toList := by
           apply List.ext_getElem?
           intro j
           rw [List.getElem?_set]
           split
           · rename_i he; subst he
             split
             · exact g1.symm
             · rename_i hn; rw [List.getElem?_eq_none (by omega)]
           · rfl
          rwa [this] at hs)
         refine ⟨upd κ1 id (κ1 id), M, ?_⟩
         have e1 : (σ.h ++ [some (Ob.arr e sz [])]).set id (some (Ob.box (cs.set off (.ref σ.h.length 0)))) = σ.h.set id (some (Ob.box (cs.set off (.ref σ.h.length 0)))) ++ [some (Ob.arr e sz [])] := by
          rw [List.set_append_left _ _ hlt]
         rw [← e1]
         exact H2
       · cases h
     · cases h
   · cases h
 | z t =>
   simp only [St.mat] at h
   split at h
   · rename_i v hv
     split at h
     · rename_i u hu
       cases h
       obtain ⟨H2, hM1⟩ := H.kill (qM v) (pur_in hu)
       obtain ⟨h1, c, h2, h3⟩ := H.regs t v hv
       have k3 : rep (ext M w (blks κ (qM v))) NX u c := by
        refine pur_rep H hM1 (fun id hid g hg p hpb => ?_) h3 hu
        unfold ext
        rw [if_pos (mem_blks.2 ⟨id, hid, by rw [hpb]; exact hg⟩)]
       refine ⟨κ, _, { dfr := H2.dfr, pin := H2.pin, size := H2.size, regs := ?_, heap := H2.heap, inj := H2.inj, snd := H2.snd, sep := H2.sep, sub := H2.sub, new := H2.new, base := H2.base, blw := H2.blw }⟩
       intro t' v' hv'
       simp only [lk] at hv'
       split at hv'
       · rename_i he
         subst he
         cases hv'
         exact ⟨h1, c, h2, qU k3⟩
       · exact H2.regs t' v' (by rw [(kill_h _ _).1]; exact hv')
     · cases h
   · cases h

theorem Rel.mats : ∀ {ms : List Mat} {σ σ' : St} {κ : Kap} {M : Mem}, Rel N M0 B w0 κ M σ a w → σ.mats ms = some σ' → ∃ κ' M', Rel N M0 B w0 κ' M' σ' a w
 | [], σ, σ', κ, M, H, h => by simp only [St.mats] at h; cases h; exact ⟨κ, M, H⟩
 | m :: ms, σ, σ', κ, M, H, h => by
   simp only [St.mats] at h
   split at h
   · rename_i σ1 h1
     obtain ⟨κ1, M1, H1⟩ := H.mat h1
     exact Rel.mats H1 h
   · cases h

theorem Rel.nrm (H : Rel N M0 B w0 κ M σ a w) (ks : List Nat) : ∃ κ', Rel N M0 B w0 κ' M (σ.nrm ks) a w := by
 unfold St.nrm
 exact ⟨_, H.ren (uniq_nodup _ _ (uniq_nodup _ _ (uniq_nodup _ _ List.nodup_nil))) _ (fun t v h => lk_pk h)⟩

structure LO (P : Program) (N : Nat) (ps : List Nat) (ops : Array Oper) (o : Oper) (x : AOp) : Prop where
 dst : x.d = o.dst
 lt : ∀ t, o.dst = some t → t < N ∧ t ∉ ps
 act : LV P o.type o.op x.a ∨ LE P o.type o.op x.a ∨ x.a = .bad
 grd : (o.guard = none ∧ x.g = none) ∨ ∃ j b oj t, o.guard = some (j, b) ∧ ops[j]? = some oj ∧ oj.dst = some t ∧ x.g = some (t, b)

theorem LV_val {ty : TypeId} {op : Op} {act : Act'} (h : LV P ty op act) (Φ : Ctr) (d : Option Nat) (K : St → Prop) (σ : St) : qC Φ d act K σ = match σ.val act with
 | some v => K (σ.put d v)
 | none => False := by cases h <;> rfl

theorem act_sound (H : Rel N M0 B w0 κ M σ a w) {ops : Array Oper} {o : Oper} {x : AOp} (hl : LO P N B.ps ops o x) {K : St → Prop} (hW : qC (Cn P) x.d x.a K σ)
 {Nx : Act → World → Prop} (hK : ∀ κ' M' σ' a' w', K σ' → Rel N M0 B w0 κ' M' σ' a' w' → Nx a' w') {Q : Exit → Act → World → Prop} : o.wp P a w Nx Q := by
 have hd : ∀ t, x.d = some t → t < N ∧ t ∉ B.ps := by rw [hl.dst]; exact hl.lt
 rcases hl.act with h | h | h
 · rw [LV_val h] at hW
   split at hW
   · rename_i v hv
     obtain ⟨c, hr, hc⟩ := val_sound H h hv o rfl rfl
     unfold Oper.wp
     rw [hr, Oper.upon_value, ← hl.dst]
     exact hK _ _ _ _ _ hW (H.put' hd hc)
   · exact hW.elim
 · exact eff_sound H h hd hW hK o rfl rfl hl.dst.symm
 · rw [h] at hW
   simp only [qC, St.val] at hW

theorem op_sound (H : Rel N M0 B w0 κ M σ a w) {ops : Array Oper} {o : Oper} {x : AOp} (hl : LO P N B.ps ops o x) {K : St → Prop} (hW : wop (Cn P) x K σ)
 {Nx : Act → World → Prop} (hK : ∀ κ' M' σ' a' w', K σ' → Rel N M0 B w0 κ' M' σ' a' w' → Nx a' w') {Q : Exit → Act → World → Prop} :
 if Region.wanted o (yielded ops a.tmps) then o.wp P a w Nx Q else Nx (a.put o.dst undef) w := by
 have hd : ∀ t, x.d = some t → t < N ∧ t ∉ B.ps := by rw [hl.dst]; exact hl.lt
 have hu : K (σ.put x.d (.tup [])) → Nx (a.put o.dst undef) w := fun h => by
  rw [← hl.dst]
  exact hK _ _ _ _ _ h (H.undef hd)
 unfold wop at hW
 rcases hl.grd with ⟨h1, h2⟩ | ⟨j, b, oj, t, h1, h2, h3, h4⟩
 · rw [h2] at hW
   have : Region.wanted o (yielded ops a.tmps) = true := by simp [Region.wanted, h1]
   rw [if_pos this]
   exact act_sound H hl hW hK
 · rw [h4] at hW
   simp only at hW
   split at hW
   · rename_i y hy
     obtain ⟨_, c, g1, g2⟩ := H.regs t _ hy
     have hc := rep_bool g2
     subst hc
     have hyl : yielded ops a.tmps j = some y := by simp [yielded, h2, h3, g1]
     have hw : Region.wanted o (yielded ops a.tmps) = decide (y = b) := by
      cases y <;> cases b <;> simp [Region.wanted, h1, hyl]
     rw [hw]
     cases y <;> cases b <;> simp [Br] at hW ⊢
     · exact act_sound H hl hW hK
     · exact hu hW
     · exact hu hW
     · exact act_sound H hl hW hK
   · rename_i hy
     obtain ⟨_, c, g1, g2⟩ := H.regs t _ hy
     simp only [rep, qA] at g2
     obtain ⟨arr, rfl, g3⟩ := g2
     have hyl : yielded ops a.tmps j = none := by simp [yielded, h2, h3, g1]
     have hw : ¬ Region.wanted o (yielded ops a.tmps) = true := by simp [Region.wanted, h1, hyl]
     rw [if_neg hw]
     exact hu hW
   · exact hW.elim

inductive LOs (P : Program) (N : Nat) (ps : List Nat) (ops : Array Oper) : List Oper → List AOp → Prop
 | nil : LOs P N ps ops [] []
 | cons {o os x xs} : LO P N ps ops o x → LOs P N ps ops os xs → LOs P N ps ops (o :: os) (x :: xs)

theorem ops_sound {ops : Array Oper} {Q : Exit → Act → World → Prop} {K : St → Prop} (hK : ∀ κ' M' σ' a' w', K σ' → Rel N M0 B w0 κ' M' σ' a' w' → Q .normal a' w') :
 ∀ {os : List Oper} {xs : List AOp}, LOs P N B.ps ops os xs → ∀ {κ : Kap} {M : Mem} {σ : St} {a : Act} {w : World}, Rel N M0 B w0 κ M σ a w → wops (Cn P) xs K σ → wpList P ops Q os a w
 | _, _, .nil, _, _, _, _, _, H, hW => hK _ _ _ _ _ hW H
 | _, _, .cons hl hs, _, _, _, _, _, H, hW => by
   refine wpList_step fun K' hK' => ?_
   exact op_sound H hl hW (fun κ' M' σ' a' w' hk H' => hK' _ _ (ops_sound hK hs H' hk))
end
end Go.Abs
end
