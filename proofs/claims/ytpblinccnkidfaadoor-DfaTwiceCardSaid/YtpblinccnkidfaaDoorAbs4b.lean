/-
  Keys: values of plain cells, told apart as the model's machine tells them apart. No condition.
-/
import Derived.Test.YtpblinccnkidfaaDoorAbs4
import Derived.DeepKeys3
import Derived.MapKept
import Derived.Laws.StructEq
set_option linter.unusedVariables false
set_option linter.unusedSimpArgs false
namespace Go.Abs
open Go.RowKit Go.WideShapes

section
variable {P : Program}
/-- Of which cells a key's type is. -/
def ktPieces (f : TypeId → Option (List KK)) : Nat → List (Nat × TypeId) → Option (List KK)
  | _, [] => some []
  | o, (off, t) :: ps => match f t with
    | some ks => if off = o ∧ P.cellsOf t = ks.length then (match ktPieces f (o + ks.length) ps with
      | some r => some (ks ++ r)
      | none => none) else none
    | none => none
def ktOf (P : Program) : Nat → TypeId → Option (List KK)
  | 0, _ => none
  | d + 1, t => match P.underlying t with
    | some .bool => some [.b]
    | some (.int k) => some [.i k]
    | some .string => some [.s]
    | some (.array n e) => match ktPieces (P := P) (ktOf P d) 0 ((List.range n).map fun i => (i * P.cellsOf e, e)) with
      | some ks => if P.cellsOf t = ks.length then some ks else none
      | none => none
    | some (.struct fs) => match ktPieces (P := P) (ktOf P d) 0 (fs.toList.map fun f => (f.offset, f.type)) with
      | some ks => if P.cellsOf t = ks.length ∧ fs.all (·.name != "_") = true then some ks else none
      | none => none
    | _ => none
def litV : V → Lit
  | .int k n => .int k n
  | .bool b => .bool b
  | .str s => .string s
  | _ => .bool false
def litVs : List V → List Lit
  | [] => []
  | v :: vs => litV v :: litVs vs
theorem litVs_append : ∀ {a b : List V}, litVs (a ++ b) = litVs a ++ litVs b
  | [], b => rfl
  | v :: a, b => by simp [litVs, litVs_append (a := a)]
theorem kOfs_length : ∀ {us : List V} {ks : List KK}, kOfs us = somes ks → us.length = ks.length
  | [], [], _ => rfl
  | [], _ :: _, h => by simp [kOfs, somes] at h
  | _ :: _, [], h => by simp [kOfs, somes] at h
  | u :: us, k :: ks, h => by
    simp only [kOfs, somes, List.cons.injEq] at h
    simp [kOfs_length h.2]
theorem kOfs_append : ∀ {a b : List V}, kOfs (a ++ b) = kOfs a ++ kOfs b
  | [], b => rfl
  | v :: a, b => by simp [kOfs, kOfs_append (a := a)]
theorem somes_append : ∀ {a b : List KK}, somes (a ++ b) = somes a ++ somes b
  | [], b => rfl
  | v :: a, b => by simp [somes, somes_append (a := a)]
theorem kOfs_split {us : List V} {a b : List KK} (h : kOfs us = somes (a ++ b)) : kOfs (us.take a.length) = somes a ∧ kOfs (us.drop a.length) = somes b := by
  have hl := kOfs_length h
  rw [List.length_append] at hl
  have h2 : us = us.take a.length ++ us.drop a.length := (List.take_append_drop _ _).symm
  rw [h2, kOfs_append, somes_append] at h
  have hlen : (kOfs (us.take a.length)).length = (somes a).length := by
    have l1 : ∀ (l : List V), (kOfs l).length = l.length := fun l => by induction l <;> simp [kOfs, *]
    have l2 : ∀ (l : List KK), (somes l).length = l.length := fun l => by induction l <;> simp [somes, *]
    rw [l1, l2, List.length_take]; omega
  exact List.append_inj h hlen
theorem lits_pieces {f : TypeId → Option (List KK)} {d : Nat} {M : Mem} {X : V → Value → Prop} (hf : ∀ (t : TypeId) (ks : List KK) (us : List V) (cs : List Value), f t = some ks → repAll M X us cs → kOfs us = somes ks → P.keyLits d t cs = some (litVs us)) :
    ∀ (ps : List (Nat × TypeId)) (o : Nat) (ks : List KK) (us : List V) (cs : List Value), ktPieces (P := P) f o ps = some ks → repAll M X us (cs.drop o) → kOfs us = somes ks →
      ∃ ls, ps.mapM (fun p => P.keyLits d p.2 ((cs.drop p.1).take (P.cellsOf p.2))) = some ls ∧ ls.flatten = litVs us
  | [], o, ks, us, cs, h, hr, hk => by
    simp only [ktPieces, Option.some.injEq] at h
    subst h
    have := kOfs_length hk
    have : us = [] := List.eq_nil_of_length_eq_zero (by simpa using this)
    subst this
    exact ⟨[], rfl, rfl⟩
  | (off, t) :: ps, o, ks, us, cs, h, hr, hk => by
    simp only [ktPieces] at h
    split at h
    · rename_i k1 h1
      split at h
      · rename_i hc
        obtain ⟨rfl, hcell⟩ := hc
        split at h
        · rename_i k2 h2
          simp only [Option.some.injEq] at h
          subst h
          obtain ⟨g1, g2⟩ := kOfs_split hk
          have r1 := repAll_take k1.length hr
          have r2 := repAll_drop k1.length hr
          rw [List.drop_drop] at r2
          have e1 := hf t k1 _ _ h1 r1 g1
          obtain ⟨ls, e2, e3⟩ := lits_pieces hf ps (off + k1.length) k2 _ cs h2 r2 g2
          refine ⟨litVs (us.take k1.length) :: ls, ?_, ?_⟩
          · rw [List.mapM_cons, e2]
            simp only [hcell]
            rw [e1]
            rfl
          · rw [List.flatten_cons, e3, ← litVs_append, List.take_append_drop]
        · cases h
      · cases h
    · cases h
theorem mapM_map {α β γ : Type} (f : β → Option γ) (g : α → β) : ∀ l : List α, (l.map g).mapM f = l.mapM (fun x => f (g x))
  | [] => rfl
  | x :: l => by rw [List.map_cons, List.mapM_cons, List.mapM_cons, mapM_map f g l]
theorem lits_of : ∀ (d : Nat) (t : TypeId) (ks : List KK) {M : Mem} {X : V → Value → Prop} (us : List V) (cs : List Value), ktOf P d t = some ks → repAll M X us cs → kOfs us = somes ks → P.keyLits d t cs = some (litVs us) := by
  intro d
  induction d with
  | zero => intro t ks M X us cs h; simp [ktOf] at h
  | succ d ih =>
    intro t ks M X us cs h hr hk
    have hlen := kOfs_length hk
    have hlc := repAll_length hr
    unfold ktOf at h
    have one : ∀ k : KK, ks = [k] → ∃ u, us = [u] ∧ kOf u = some k := by
      intro k hks
      subst hks
      match us, hk with
      | [u], hk => simp only [kOfs, somes, List.cons.injEq, and_true] at hk; exact ⟨u, rfl, hk⟩
      | [], hk => simp [kOfs, somes] at hk
      | _ :: _ :: _, hk => simp [kOfs, somes] at hk
    split at h
    · rename_i hu
      simp only [Option.some.injEq] at h
      obtain ⟨u, rfl, h2⟩ := one _ h.symm
      cases u <;> simp [kOf] at h2
      simp only [repAll, rep] at hr
      obtain ⟨c, cs', rfl, rfl, rfl⟩ := hr
      simp [Program.keyLits, hu, litVs, litV]
    · rename_i k hu
      simp only [Option.some.injEq] at h
      obtain ⟨u, rfl, h2⟩ := one _ h.symm
      cases u <;> simp [kOf] at h2
      subst h2
      simp only [repAll, rep] at hr
      obtain ⟨c, cs', rfl, ⟨rfl, h3, h4⟩, rfl⟩ := hr
      simp [Program.keyLits, hu, litVs, litV, Lit.wf, h3, h4]
    · rename_i hu
      simp only [Option.some.injEq] at h
      obtain ⟨u, rfl, h2⟩ := one _ h.symm
      cases u <;> simp [kOf] at h2
      simp only [repAll, rep] at hr
      obtain ⟨c, cs', rfl, ⟨bs, rfl, rfl, h3⟩, rfl⟩ := hr
      have : bs.size ≤ maxLen := by
        have e : bs.data.toList.length = bs.size := Array.length_toList
        rw [e] at h3
        exact Nat.le_trans h3 (by decide)
      unfold Program.keyLits
      rw [hu]
      simp only [this, if_true, litVs, litV]
    · rename_i n e hu
      split at h
      · rename_i k1 h1
        split at h
        · rename_i hc
          cases h
          obtain ⟨ls, e1, e2⟩ := lits_pieces (fun t ks us cs h1 h2 h3 => ih t ks us cs h1 h2 h3) _ 0 ks us cs h1 (by simpa using hr) hk
          rw [mapM_map] at e1
          unfold Program.keyLits
          rw [hu]
          simp only
          rw [if_pos (by omega), e1]
          simp [e2]
        · cases h
      · cases h
    · rename_i fs hu
      split at h
      · rename_i k1 h1
        split at h
        · rename_i hc
          cases h
          obtain ⟨ls, e1, e2⟩ := lits_pieces (fun t ks us cs h1 h2 h3 => ih t ks us cs h1 h2 h3) _ 0 ks us cs h1 (by simpa using hr) hk
          rw [mapM_map] at e1
          unfold Program.keyLits
          rw [hu]
          simp only
          rw [if_pos ⟨by omega, hc.2⟩, e1]
          simp [e2]
        · cases h
      · cases h
    · cases h
theorem lit_eqC : ∀ {u v : V} {k : KK}, kOf u = some k → kOf v = some k → (litV u = litV v ↔ eqC u v = true) := by
  intro u v k h1 h2
  cases u <;> simp [kOf] at h1 <;> cases v <;> simp [kOf] at h2 <;> subst h1 <;> simp_all [litV, eqC]
theorem lits_eqCs : ∀ {us vs : List V} {ks : List KK}, kOfs us = somes ks → kOfs vs = somes ks → (litVs us = litVs vs ↔ eqCs us vs = true)
  | [], [], _, _, _ => by simp [litVs, eqCs]
  | u :: us, v :: vs, k :: ks, h1, h2 => by
    simp only [kOfs, somes, List.cons.injEq] at h1 h2
    simp only [litVs, eqCs, List.cons.injEq, Bool.and_eq_true, lit_eqC h1.1 h2.1, lits_eqCs h1.2 h2.2]
  | [], _ :: _, [], _, h2 => by simp [kOfs, somes] at h2
  | [], _ :: _, _ :: _, h1, _ => by simp [kOfs, somes] at h1
  | _ :: _, [], [], h1, _ => by simp [kOfs, somes] at h1
  | _ :: _, [], _ :: _, _, h2 => by simp [kOfs, somes] at h2
  | _ :: _, _ :: _, [], h1, _ => by simp [kOfs, somes] at h1
/-- The key's form of a type, where keys may be of it. -/
def ktT (P : Program) (t : TypeId) : Option KT :=
  match P.underlying t, ktOf P 20 t with
  | some (.struct _), some ks => if P.keyTypeAt 20 t = true ∧ P.eqGuardType P.depth t = false then some ⟨true, ks⟩ else none
  | some (.array _ _), some ks => if P.keyTypeAt 20 t = true ∧ P.eqGuardType P.depth t = false then some ⟨true, ks⟩ else none
  | some .bool, some ks => if P.keyTypeAt 20 t = true then some ⟨false, ks⟩ else none
  | some (.int _), some ks => if P.keyTypeAt 20 t = true then some ⟨false, ks⟩ else none
  | some .string, some ks => if P.keyTypeAt 20 t = true then some ⟨false, ks⟩ else none
  | _, _ => none
theorem ktOf_cells {d : Nat} {t : TypeId} {ks : List KK} (h : ktOf P d t = some ks) (hagg : (∃ fs, P.underlying t = some (.struct fs)) ∨ ∃ n e, P.underlying t = some (.array n e)) : P.cellsOf t = ks.length := by
  cases d with
  | zero => simp [ktOf] at h
  | succ d =>
    unfold ktOf at h
    rcases hagg with ⟨fs, hu⟩ | ⟨n, e, hu⟩
    · rw [hu] at h
      simp only at h
      split at h
      · split at h
        · rename_i hc; cases h; exact hc.1
        · cases h
      · cases h
    · rw [hu] at h
      simp only at h
      split at h
      · split at h
        · rename_i hc; cases h; exact hc
        · cases h
      · cases h
/-- A key's value, as the machine sees it. -/
theorem key_val {t : TypeId} {kt : KT} (hk : ktT P t = some kt) {M : Mem} {X : V → Value → Prop} {u : V} {c : Value} (hf : fitsK kt u = true) (hr : rep M X u c) :
    c.formed P t = true ∧ P.keyLits 20 t c.cells.toList = some (litVs (cl u)) ∧ P.keyTypeAt 20 t = true ∧ kOfs (cl u) = somes kt.ks ∧
      ((kt.agg = true ∧ (∃ cs, c = .agg cs) ∧ P.eqGuardType P.depth t = false ∧ ∀ k, P.underlying t ≠ some (.int k)) ∨ (kt.agg = false ∧ (P.plainKey t = true) ∧ ∀ cs, c ≠ .agg cs)) := by
  simp only [fitsK, Bool.and_eq_true, decide_eq_true_eq] at hf
  obtain ⟨ha, hks⟩ := hf
  have scal : kt.agg = false → P.plainKey t = true → ktOf P 20 t = some kt.ks → P.keyTypeAt 20 t = true → c.formed P t = true ∧ P.keyLits 20 t c.cells.toList = some (litVs (cl u)) ∧ (∀ cs, c ≠ .agg cs) := by
    intro hg hp ho _
    have hu : c.cells = #[c] ∧ (∀ cs, c ≠ .agg cs) ∧ cl u = [u] ∧ (∀ x, c ≠ .tuple x) := by
      rw [hg] at ha
      cases u <;> simp [aggV] at ha <;> simp [cl, kOfs, kOf] at hks <;> simp only [rep] at hr <;> (try (cases hq : kt.ks <;> simp [hq, somes] at hks; done))
      · obtain ⟨rfl, _⟩ := hr; simp [Value.cells, cl]
      · subst hr; simp [Value.cells, cl]
      · obtain ⟨bs, rfl, _⟩ := hr; simp [Value.cells, cl]
    refine ⟨?_, ?_, hu.2.1⟩
    · have h2 := hu.2.1
      have h3 := hu.2.2.2
      unfold Value.formed
      unfold Program.plainKey at hp
      cases c <;> simp_all <;> split at hp <;> simp_all
    · refine lits_of 20 t kt.ks (M := M) (X := X) (cl u) _ ho ?_ hks
      rw [hu.1, hu.2.2.1]
      simp only [repAll]
      exact ⟨c, [], by simp, hr, rfl⟩
  have agg : kt.agg = true → ((∃ fs, P.underlying t = some (.struct fs)) ∨ ∃ n e, P.underlying t = some (.array n e)) → ktOf P 20 t = some kt.ks → c.formed P t = true ∧ P.keyLits 20 t c.cells.toList = some (litVs (cl u)) ∧ ∃ cs, c = .agg cs := by
    intro hg hu ho
    rw [hg] at ha
    cases u <;> simp [aggV] at ha
    rename_i us
    simp only [rep] at hr
    obtain ⟨arr, rfl, h2, _⟩ := hr
    have hlen := kOfs_length hks
    have hl2 := repAll_length h2
    simp only [cl] at hlen hks ⊢
    refine ⟨?_, ?_, ⟨arr, rfl⟩⟩
    · have hc := ktOf_cells ho hu
      have : arr.size = P.cellsOf t := by rw [hc, ← hlen]; simpa using hl2
      unfold Value.formed
      rcases hu with ⟨fs, hu⟩ | ⟨n, e, hu⟩ <;> simp [hu, this]
    · exact lits_of 20 t kt.ks (M := M) (X := X) us _ ho (by simpa [Value.cells] using h2) hks
  unfold ktT at hk
  split at hk
  · rename_i fs ks hu ho
    split at hk
    · rename_i hc; cases hk
      obtain ⟨g1, g2, g3⟩ := agg rfl (.inl ⟨fs, hu⟩) ho
      exact ⟨g1, g2, hc.1, hks, .inl ⟨rfl, g3, hc.2, by simp [hu]⟩⟩
    · cases hk
  · rename_i n e ks hu ho
    split at hk
    · rename_i hc; cases hk
      obtain ⟨g1, g2, g3⟩ := agg rfl (.inr ⟨n, e, hu⟩) ho
      exact ⟨g1, g2, hc.1, hks, .inl ⟨rfl, g3, hc.2, by simp [hu]⟩⟩
    · cases hk
  · rename_i ks hu ho
    split at hk
    · rename_i hc; cases hk
      have hp : P.plainKey t = true := by simp [Program.plainKey, hu]
      obtain ⟨g1, g2, g3⟩ := scal rfl hp ho hc
      exact ⟨g1, g2, hc, hks, .inr ⟨rfl, hp, g3⟩⟩
    · cases hk
  · rename_i ks hu ho
    split at hk
    · rename_i hc; cases hk
      have hp : P.plainKey t = true := by simp [Program.plainKey, hu]
      obtain ⟨g1, g2, g3⟩ := scal rfl hp ho hc
      exact ⟨g1, g2, hc, hks, .inr ⟨rfl, hp, g3⟩⟩
    · cases hk
  · rename_i ks hu ho
    split at hk
    · rename_i hc; cases hk
      have hp : P.plainKey t = true := by simp [Program.plainKey, hu]
      obtain ⟨g1, g2, g3⟩ := scal rfl hp ho hc
      exact ⟨g1, g2, hc, hks, .inr ⟨rfl, hp, g3⟩⟩
    · cases hk
  · cases hk
/-- Two keys, told apart. -/
theorem run_keyEq {t : TypeId} {kt : KT} (hk : ktT P t = some kt) {M M' : Mem} {X X' : V → Value → Prop} {u v : V} {c d : Value} (hu : fitsK kt u = true) (hv : fitsK kt v = true) (hc : rep M X u c) (hd : rep M' X' v d) (w : World) :
    (Op.equalIn 10000 t c d).run P w = .ok (eqK u v) w := by
  obtain ⟨f1, l1, k1, s1, _⟩ := key_val hk hu hc
  obtain ⟨f2, l2, _, s2, _⟩ := key_val hk hv hd
  obtain ⟨r, hr, hiff⟩ := run_equalIn_deep 9980 20 t k1 w 20 20 c d _ _ f1 f2 l1 l2
  rw [lits_eqCs s1 s2] at hiff
  have : r = eqK u v := by
    unfold eqK
    cases r <;> cases h : eqCs (cl u) (cl v) <;> simp_all
  rw [← this]
  exact hr
end
end Go.Abs
namespace Go.Abs
open Go.RowKit Go.WideShapes
section
variable {P : Program}
theorem ba_beq (a b : ByteArray) : (a == b) = decide (a.data.toList = b.data.toList) := by
  have e : (a == b) = (a.data == b.data) := rfl
  rw [e, Bool.eq_iff_iff, beq_iff_eq, decide_eq_true_eq]
  exact ⟨fun h => by rw [h], fun h => Array.ext' h⟩
/-- What a search among a map's entries found. -/
def FindR (M : Mem) (kt : KT) (u : V) (l : List (V × V)) (es : List MapEntry) (i : Nat) (r : Option (Nat × Value)) : Prop :=
  (r = none ∧ mget u l = none ∧ ∀ (ne : MapEntry) (x : V), fitsK kt u = true → rep M NX u ne.key → rep M NX x ne.val → mpAt M kt (mput u x l) (es ++ [ne])) ∨
  ∃ (j : Nat) (e : MapEntry) (k v : V), r = some (i + j, e.val) ∧ es[j]? = some e ∧ mget u l = some v ∧ rep M NX v e.val ∧ fitsK kt k = true ∧ rep M NX k e.key ∧ eqK u k = true ∧
    ∀ (f : MapEntry → MapEntry) (x : V), fitsK kt u = true → (∀ e, rep M NX u (f e).key ∧ rep M NX x (f e).val) → mpAt M kt (mput u x l) (es.modify j f)
theorem FindR.nil {M : Mem} {kt : KT} {u : V} {i : Nat} : FindR M kt u [] [] i none :=
  .inl ⟨rfl, rfl, fun ne x hf h1 h2 => by simp only [mput, List.nil_append, mpAt]; exact ⟨ne, [], rfl, hf, h1, h2, rfl⟩⟩
theorem FindR.hit {M : Mem} {kt : KT} {u k v : V} {l : List (V × V)} {e : MapEntry} {es : List MapEntry} {i : Nat} (h1 : fitsK kt k = true) (h2 : rep M NX k e.key) (h3 : rep M NX v e.val) (h4 : mpAt M kt l es) (h : eqK u k = true) :
    FindR M kt u ((k, v) :: l) (e :: es) i (some (i, e.val)) :=
  .inr ⟨0, e, k, v, rfl, rfl, by simp [mget, h], h3, h1, h2, h, fun f x hf hx => by
    simp only [mput, h, if_true, List.modify_zero_cons, mpAt]
    exact ⟨f e, es, rfl, hf, (hx e).1, (hx e).2, h4⟩⟩
theorem FindR.miss {M : Mem} {kt : KT} {u k v : V} {l : List (V × V)} {e : MapEntry} {es : List MapEntry} {i : Nat} {r : Option (Nat × Value)} (h1 : fitsK kt k = true) (h2 : rep M NX k e.key) (h3 : rep M NX v e.val) (h : eqK u k = false)
    (hr : FindR M kt u l es (i + 1) r) : FindR M kt u ((k, v) :: l) (e :: es) i r := by
  rcases hr with ⟨rfl, g1, g2⟩ | ⟨j, e', k', v', rfl, g1, g2, g3, g4, g5, g6, g7⟩
  · refine .inl ⟨rfl, by simp [mget, h, g1], fun ne x hf n1 n2 => ?_⟩
    simp only [mput, h, Bool.false_eq_true, if_false, List.cons_append, mpAt]
    exact ⟨e, _, rfl, h1, h2, h3, g2 ne x hf n1 n2⟩
  · refine .inr ⟨j + 1, e', k', v', by simp; omega, by simpa using g1, by simp [mget, h, g2], g3, g4, g5, g6, fun f x hf hx => ?_⟩
    simp only [mput, h, Bool.false_eq_true, if_false, List.modify_succ_cons, mpAt]
    exact ⟨e, _, rfl, h1, h2, h3, g7 f x hf hx⟩
theorem run_asking {t : TypeId} {kt : KT} (hk : ktT P t = some kt) {M M' : Mem} {X : V → Value → Prop} {u : V} {c : Value} (hu : fitsK kt u = true) (hc : rep M X u c) (w : World) :
    ∀ (l : List (V × V)) (es : List MapEntry) (i : Nat), mpAt M' kt l es → ∃ r, (Instr.findAsking t c es i).run P w = .ok r w ∧ FindR M' kt u l es i r
  | [], es, i, h => by
    simp only [mpAt] at h
    subst h
    exact ⟨none, rfl, .nil⟩
  | (k, v) :: l, es, i, h => by
    simp only [mpAt] at h
    obtain ⟨e, rest, rfl, h1, h2, h3, h4⟩ := h
    have he := run_keyEq (P := P) hk hu h1 hc h2 w
    have heq : (Op.equal t c e.key).run P w = .ok (eqK u k) w := he
    cases hq : eqK u k
    · obtain ⟨r, g1, g2⟩ := run_asking hk hu hc w l rest (i + 1) h4
      refine ⟨r, ?_, .miss h1 h2 h3 hq g2⟩
      simp only [Instr.findAsking, Sem.run_bind, heq, hq, Result.andThen_ok, Bool.false_eq_true, if_false]
      exact g1
    · refine ⟨_, ?_, .hit h1 h2 h3 h4 hq⟩
      simp only [Instr.findAsking, Sem.run_bind, heq, hq, Result.andThen_ok, if_true]
      rfl
theorem now_eq {t : TypeId} {kt : KT} (hk : ktT P t = some kt) (hg : kt.agg = false) {d : TypeDesc} (hd : P.underlying t = some d) {M M' : Mem} {X X' : V → Value → Prop} {u k : V} {c e : Value} (hu : fitsK kt u = true) (hc : rep M X u c) (hv : fitsK kt k = true) (he : rep M' X' k e) :
    Instr.sameNow d c e = some (eqK u k) := by
  simp only [fitsK, Bool.and_eq_true, decide_eq_true_eq] at hu hv
  obtain ⟨a1, b1⟩ := hu
  obtain ⟨a2, b2⟩ := hv
  have one : ∀ kk : KK, kt.ks = [kk] → (∃ x, cl u = [x] ∧ x = u ∧ kOf u = some kk) ∧ ∃ x, cl k = [x] ∧ x = k ∧ kOf k = some kk := by
    intro kk hq
    rw [hq] at b1 b2
    rw [hg] at a1 a2
    constructor
    · cases u <;> simp [aggV] at a1 <;> simp [cl, kOfs, somes] at b1 ⊢ <;> exact b1
    · cases k <;> simp [aggV] at a2 <;> simp [cl, kOfs, somes] at b2 ⊢ <;> exact b2
  have hks : (d = .bool ∧ kt.ks = [.b]) ∨ (∃ q, d = .int q ∧ kt.ks = [.i q]) ∨ (d = .string ∧ kt.ks = [.s]) := by
    unfold ktT at hk
    rw [hd] at hk
    cases ho : ktOf P 20 t with
    | none => rw [ho] at hk; cases d <;> simp at hk
    | some ks =>
      rw [ho] at hk
      have ho' := ho
      rw [ktOf, hd] at ho'
      cases d <;> simp only at hk <;> first | (cases hk; done) | (split at hk <;> cases hk)
      all_goals first | (simp at hg; done) | skip
      all_goals (simp only [Option.some.injEq] at ho'; subst ho'; simp)
  rcases hks with ⟨rfl, hq⟩ | ⟨q, rfl, hq⟩ | ⟨rfl, hq⟩ <;> obtain ⟨⟨_, _, _, k1⟩, ⟨_, _, _, k2⟩⟩ := one _ hq
  · cases u <;> simp [kOf] at k1
    cases k <;> simp [kOf] at k2
    simp only [rep] at hc he
    subst hc; subst he
    simp [Instr.sameNow, eqK, cl, eqCs, eqC]
  · cases u <;> simp [kOf] at k1
    cases k <;> simp [kOf] at k2
    subst k1; subst k2
    simp only [rep] at hc he
    rw [hc.1, he.1]
    simp [Instr.sameNow, eqK, cl, eqCs, eqC]
    rw [Bool.eq_iff_iff]; simp
  · cases u <;> simp [kOf] at k1
    cases k <;> simp [kOf] at k2
    simp only [rep] at hc he
    obtain ⟨bs, rfl, rfl, _⟩ := hc
    obtain ⟨bs', rfl, rfl, _⟩ := he
    simp only [Instr.sameNow, eqK, cl, eqCs, eqC, Bool.and_true, ba_beq]
theorem run_now {t : TypeId} {kt : KT} (hk : ktT P t = some kt) (hg : kt.agg = false) {d : TypeDesc} (hd : P.underlying t = some d) {M M' : Mem} {X : V → Value → Prop} {u : V} {c : Value} (hu : fitsK kt u = true) (hc : rep M X u c) :
    ∀ (l : List (V × V)) (es : List MapEntry) (i : Nat), mpAt M' kt l es → ∃ r, Instr.findNow d c es i = some r ∧ FindR M' kt u l es i r
  | [], es, i, h => by
    simp only [mpAt] at h
    subst h
    exact ⟨none, rfl, .nil⟩
  | (k, v) :: l, es, i, h => by
    simp only [mpAt] at h
    obtain ⟨e, rest, rfl, h1, h2, h3, h4⟩ := h
    have he := now_eq hk hg hd hu hc h1 h2
    cases hq : eqK u k
    · obtain ⟨r, g1, g2⟩ := run_now hk hg hd hu hc l rest (i + 1) h4
      refine ⟨r, ?_, .miss h1 h2 h3 hq g2⟩
      simp only [Instr.findNow, he, hq]
      exact g1
    · refine ⟨_, ?_, .hit h1 h2 h3 h4 hq⟩
      simp only [Instr.findNow, he, hq]
/-- The search for a key. -/
theorem run_find {t : TypeId} {kt : KT} (hk : ktT P t = some kt) {M M' : Mem} {X : V → Value → Prop} {u : V} {c : Value} (hu : fitsK kt u = true) (hc : rep M X u c) (w : World) (l : List (V × V)) (es : List MapEntry) (h : mpAt M' kt l es) :
    ∃ r, (Instr.findKey t c es).run P w = .ok r w ∧ FindR M' kt u l es 0 r := by
  obtain ⟨f1, l1, k1, s1, hcase⟩ := key_val hk hu hc
  have hd : ∃ d, P.underlying t = some d := by
    unfold ktT at hk
    split at hk <;> first | (rename_i h _; exact ⟨_, h⟩) | cases hk
  obtain ⟨d, hd⟩ := hd
  rcases hcase with ⟨hg, ⟨cs, rfl⟩, _, hni⟩ | ⟨hg, _, _⟩
  · cases es with
    | nil =>
      cases l with
      | nil => exact ⟨none, by simp only [Instr.findKey, Sem.run_bind, run_underlying hd w, Result.andThen_ok, Instr.findNow]; rfl, .nil⟩
      | cons p l => obtain ⟨k, v⟩ := p; simp [mpAt] at h
    | cons e es =>
      obtain ⟨r, g1, g2⟩ := run_asking hk hu hc w l (e :: es) 0 h
      refine ⟨r, ?_, g2⟩
      have hn : Instr.sameNow d (.agg cs) e.key = none := by
        cases d <;> simp [Instr.sameNow]
      simp only [Instr.findKey, Sem.run_bind, run_underlying hd w, Result.andThen_ok, Instr.findNow, hn]
      exact g1
  · obtain ⟨r, g1, g2⟩ := run_now hk hg hd hu hc l es 0 h
    refine ⟨r, ?_, g2⟩
    simp only [Instr.findKey, Sem.run_bind, run_underlying hd w, Result.andThen_ok, g1]
    rfl
theorem run_check {t : TypeId} {kt : KT} (hk : ktT P t = some kt) {M : Mem} {X : V → Value → Prop} {u : V} {c : Value} (hu : fitsK kt u = true) (hc : rep M X u c) (em : Bool) (w : World) : (Instr.checkKey em 10000 t c).run P w = .ok () w := by
  obtain ⟨f1, l1, k1, s1, _⟩ := key_val hk hu hc
  exact run_checkKey_deep em 9980 20 t k1 w 20 c _ f1 l1
/-- Keys that are the same are one value. -/
theorem cells_same {M M' : Mem} {X X' : V → Value → Prop} : ∀ {us vs : List V} {ks : List KK} {cs ds : List Value}, kOfs us = somes ks → kOfs vs = somes ks → eqCs us vs = true → repAll M X us cs → repAll M' X' vs ds → cs = ds
  | [], [], _, cs, ds, _, _, _, h1, h2 => by simp only [repAll] at h1 h2; rw [h1, h2]
  | u :: us, v :: vs, k :: ks, cs, ds, h1, h2, he, r1, r2 => by
    simp only [kOfs, somes, List.cons.injEq] at h1 h2
    simp only [eqCs, Bool.and_eq_true] at he
    simp only [repAll] at r1 r2
    obtain ⟨c, cs', rfl, q1, q2⟩ := r1
    obtain ⟨d, ds', rfl, q3, q4⟩ := r2
    rw [cells_same h1.2 h2.2 he.2 q2 q4]
    congr 1
    have e1 := h1.1
    have e2 := h2.1
    have e3 := he.1
    cases u <;> simp [kOf] at e1 <;> cases v <;> simp [kOf] at e2 <;> subst e1 <;> simp [eqC] at e3 <;> simp only [rep] at q1 q3
    · obtain ⟨rfl, _⟩ := q1; obtain ⟨rfl, _⟩ := q3; simp_all
    · subst q1; subst q3; simp_all
    · obtain ⟨bs, rfl, h0, _⟩ := q1
      obtain ⟨bs', rfl, h, _⟩ := q3
      rw [← e3, ← h0] at h
      congr 1
      cases bs; cases bs'
      simp only at h
      rw [Array.ext' h]
  | [], _ :: _, [], _, _, _, h2, _, _, _ => by simp [kOfs, somes] at h2
  | [], _ :: _, _ :: _, _, _, h1, _, _, _, _ => by simp [kOfs, somes] at h1
  | _ :: _, [], [], _, _, h1, _, _, _, _ => by simp [kOfs, somes] at h1
  | _ :: _, [], _ :: _, _, _, _, h2, _, _, _ => by simp [kOfs, somes] at h2
  | _ :: _, _ :: _, [], _, _, h1, _, _, _, _ => by simp [kOfs, somes] at h1
theorem key_same {kt : KT} {M M' : Mem} {X X' : V → Value → Prop} {u v : V} {c d : Value} (hu : fitsK kt u = true) (hv : fitsK kt v = true) (he : eqK u v = true) (hc : rep M X u c) (hd : rep M' X' v d) : c = d := by
  simp only [fitsK, Bool.and_eq_true, decide_eq_true_eq] at hu hv
  have r1 : repAll M X (cl u) c.cells.toList ∧ (aggV u = true → ∃ cs, c = .agg cs) ∧ (aggV u = false → c.cells = #[c]) := by
    cases hg : aggV u
    · refine ⟨?_, by simp, ?_⟩
      all_goals
        cases u <;> simp [aggV] at hg <;> simp [cl, kOfs, kOf] at hu <;> simp only [rep] at hc <;> (try (cases h : kt.ks <;> simp [h, somes] at hu; done))
      · obtain ⟨rfl, h⟩ := hc; simp [Value.cells, cl, repAll, rep, h]
      · subst hc; simp [Value.cells, cl, repAll, rep]
      · obtain ⟨bs, rfl, h⟩ := hc; simp only [Value.cells, cl, repAll, rep]; exact ⟨_, [], rfl, ⟨bs, rfl, h⟩, rfl⟩
      · obtain ⟨rfl, h⟩ := hc; exact fun _ => rfl
      · subst hc; exact fun _ => rfl
      · obtain ⟨bs, rfl, h⟩ := hc; exact fun _ => rfl
    · cases u <;> simp [aggV] at hg
      simp only [rep] at hc
      obtain ⟨arr, rfl, h, _⟩ := hc
      exact ⟨by simpa [Value.cells, cl] using h, fun _ => ⟨arr, rfl⟩, by simp [aggV]⟩
  have r2 : repAll M' X' (cl v) d.cells.toList ∧ (aggV v = true → ∃ cs, d = .agg cs) ∧ (aggV v = false → d.cells = #[d]) := by
    cases hg : aggV v
    · refine ⟨?_, by simp, ?_⟩
      all_goals
        cases v <;> simp [aggV] at hg <;> simp [cl, kOfs, kOf] at hv <;> simp only [rep] at hd <;> (try (cases h : kt.ks <;> simp [h, somes] at hv; done))
      · obtain ⟨rfl, h⟩ := hd; simp [Value.cells, cl, repAll, rep, h]
      · subst hd; simp [Value.cells, cl, repAll, rep]
      · obtain ⟨bs, rfl, h⟩ := hd; simp only [Value.cells, cl, repAll, rep]; exact ⟨_, [], rfl, ⟨bs, rfl, h⟩, rfl⟩
      · obtain ⟨rfl, h⟩ := hd; exact fun _ => rfl
      · subst hd; exact fun _ => rfl
      · obtain ⟨bs, rfl, h⟩ := hd; exact fun _ => rfl
    · cases v <;> simp [aggV] at hg
      simp only [rep] at hd
      obtain ⟨arr, rfl, h, _⟩ := hd
      exact ⟨by simpa [Value.cells, cl] using h, fun _ => ⟨arr, rfl⟩, by simp [aggV]⟩
  have hcs := cells_same hu.2 hv.2 he r1.1 r2.1
  cases hg : kt.agg
  · have e1 := r1.2.2 (by rw [hu.1, hg])
    have e2 := r2.2.2 (by rw [hv.1, hg])
    rw [e1, e2] at hcs
    simpa using hcs
  · obtain ⟨a1, rfl⟩ := r1.2.1 (by rw [hu.1, hg])
    obtain ⟨a2, rfl⟩ := r2.2.1 (by rw [hv.1, hg])
    simp only [Value.cells] at hcs
    congr 1
    cases a1; cases a2; simpa using hcs
theorem bits_cells {M : Mem} {X : V → Value → Prop} : ∀ {us : List V} {ks : List KK} {cs : List Value}, kOfs us = somes ks → repAll M X us cs → ∀ n, ∀ c ∈ cs, Instr.sameBits n c c = true
  | [], _, cs, _, h, n, c, hc => by simp only [repAll] at h; subst h; cases hc
  | u :: us, k :: ks, cs, h1, h, n, c, hc => by
    simp only [kOfs, somes, List.cons.injEq] at h1
    simp only [repAll] at h
    obtain ⟨c0, cs', rfl, q1, q2⟩ := h
    rcases List.mem_cons.1 hc with rfl | hc
    · have e1 := h1.1
      cases u <;> simp [kOf] at e1 <;> simp only [rep] at q1
      · obtain ⟨rfl, _⟩ := q1; cases n <;> simp [Instr.sameBits]
      · subst q1; cases n <;> simp [Instr.sameBits]
      · obtain ⟨bs, rfl, _⟩ := q1; cases n <;> simp [Instr.sameBits, ba_beq]
    · exact bits_cells h1.2 q2 n c hc
  | _ :: _, [], _, h1, _, _, _, _ => by simp [kOfs, somes] at h1
theorem bits_same {kt : KT} {M : Mem} {X : V → Value → Prop} {u : V} {c : Value} (hu : fitsK kt u = true) (hc : rep M X u c) : Instr.sameBits 10000 c c = true := by
  simp only [fitsK, Bool.and_eq_true, decide_eq_true_eq] at hu
  cases hg : aggV u
  · cases u <;> simp [aggV] at hg <;> simp [cl, kOfs, kOf] at hu <;> simp only [rep] at hc <;> (try (cases h : kt.ks <;> simp [h, somes] at hu; done))
    · obtain ⟨rfl, _⟩ := hc; simp [Instr.sameBits]
    · subst hc; simp [Instr.sameBits]
    · obtain ⟨bs, rfl, _⟩ := hc; simp [Instr.sameBits, ba_beq]
  · cases u <;> simp [aggV] at hg
    simp only [rep] at hc
    obtain ⟨arr, rfl, h, _⟩ := hc
    have hb := bits_cells hu.2 h 9999
    simp only [Instr.sameBits, beq_self_eq_true, Bool.true_and, List.all_eq_true]
    intro p hp
    have : p.1 = p.2 ∧ p.1 ∈ arr.toList := by
      obtain ⟨a, b⟩ := p
      have := List.of_mem_zip hp
      obtain ⟨i, hi⟩ := List.mem_iff_getElem?.1 hp
      rw [List.getElem?_zip_eq_some] at hi
      have : a = b := Option.some.inj (hi.1.symm.trans hi.2)
      exact ⟨this, List.mem_of_getElem? hi.1⟩
    rw [← this.1]
    exact hb _ this.2
/-- A key lies in no memory. -/
theorem keys_NX {M : Mem} {X : V → Value → Prop} : ∀ {us : List V} {ks : List KK} {cs : List Value}, kOfs us = somes ks → repAll M X us cs → repAll M NX us cs
  | [], _, _, _, h => h
  | u :: us, k :: ks, cs, h1, h => by
    simp only [kOfs, somes, List.cons.injEq] at h1
    simp only [repAll] at h ⊢
    obtain ⟨c, cs', rfl, q1, q2⟩ := h
    refine ⟨c, cs', rfl, ?_, keys_NX h1.2 q2⟩
    have e1 := h1.1
    cases u <;> simp [kOf] at e1 <;> exact q1
  | _ :: _, [], _, h1, _ => by simp [kOfs, somes] at h1
theorem key_NX {kt : KT} {M : Mem} {X : V → Value → Prop} {u : V} {c : Value} (hu : fitsK kt u = true) (hc : rep M X u c) : rep M NX u c := by
  simp only [fitsK, Bool.and_eq_true, decide_eq_true_eq] at hu
  cases hg : aggV u
  · cases u <;> simp [aggV] at hg <;> simp [cl, kOfs, kOf] at hu <;> first | exact hc | (cases h : kt.ks <;> simp [h, somes] at hu)
  · cases u <;> simp [aggV] at hg
    simp only [rep] at hc ⊢
    obtain ⟨arr, rfl, h, h2⟩ := hc
    exact ⟨arr, rfl, keys_NX hu.2 h, h2⟩
end
end Go.Abs
