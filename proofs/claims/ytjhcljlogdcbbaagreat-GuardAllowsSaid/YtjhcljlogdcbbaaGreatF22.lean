/-
  What strainerref09's parser makes: atoms, pieces, branches. No condition.
-/
import Derived.Test.YtjhcljlogdcbbaaGreatF21
set_option linter.unusedVariables false
set_option linter.unusedSimpArgs false
set_option maxHeartbeats 4000000
set_option maxRecDepth 100000
namespace Go.Abs
open Go.Proofs
attribute [-simp] getElem?_pos Option.not_isSome
def oddA : Str := [92, 40, 41, 91, 93, 124, 42, 43, 63, 46]
/-- Does one more piece begin? -/
def goes (p : PS) : Bool := !p.bad && (match p.s[p.at']? with
  | some b => !amongS b.toNat [124, 41]
  | none => false)
def pieceGo : Nat → PS → Nat → Option (PS × Nat)
  | 0, _, _ => none
  | f + 1, q, k => if lim q then (if q.bad || (!isP q 42 && (!isP q 43 && !isP q 63)) then some (q, k)
      else if isP q 63 then pieceGo f (addP (addP (stepP q) ⟨116, [], []⟩) ⟨111, [], [k, q.n.length]⟩) (q.n.length + 1)
      else if isP q 43 then pieceGo f (addP (addP (stepP q) ⟨109, [], [k]⟩) ⟨116, [], [k, q.n.length]⟩) (q.n.length + 1)
      else pieceGo f (addP (stepP q) ⟨109, [], [k]⟩) q.n.length) else none
mutual
def atomF : Nat → PS → Option (PS × Nat)
  | 0, _ => none
  | f + 1, p => if lim p then (if isP p 40 then (match branchesF f (stepP p) with
        | some (q, k) => if lim q then some (stepP (if isP q 41 then q else badP q), k) else none
        | none => none)
      else if isP p 46 then some (addP (stepP p) ⟨115, tab 95 (signF [] 32 126), []⟩, p.n.length)
      else if isP p 91 then classF f (stepP p)
      else some (addP (plainP p oddA).1 ⟨115, tab 95 (signF [] (plainP p oddA).2 (plainP p oddA).2), []⟩, p.n.length)) else none
def pieceF : Nat → PS → Option (PS × Nat)
  | 0, _ => none
  | f + 1, p => match atomF f p with
    | some (q, k) => pieceGo f q k
    | none => none
def ownGo : Nat → PS → List Nat → Option (PS × List Nat)
  | 0, _, _ => none
  | f + 1, p, own => if lim p && decide (own.length ≤ 900) then (if goes p then (match pieceF f p with
      | some (q, k) => ownGo f q (own ++ [k])
      | none => none) else some (p, own)) else none
def brGo : Nat → PS → List Nat → Option (PS × Nat)
  | 0, _, _ => none
  | f + 1, p, l => if decide (l.length ≤ 900) then (match ownGo f p [] with
    | some (q, own) => if q.bad || !isP q 124 then some (addP (addP q ⟨116, [], own⟩) ⟨111, [], l ++ [q.n.length]⟩, q.n.length + 1)
        else brGo f (stepP (addP q ⟨116, [], own⟩)) (l ++ [q.n.length])
    | none => none) else none
def branchesF : Nat → PS → Option (PS × Nat)
  | 0, _ => none
  | f + 1, p => brGo f p []
end
theorem lim_mono {p q : PS} (h : lim q = true) (hn : p.n.length ≤ q.n.length) (hs : p.s = q.s) (ha : p.at' ≤ q.at') : lim p = true := by
  have := lim_spec h
  simp [lim, hs]; omega
theorem classF_lim {f : Nat} {p : PS} {r : PS × Nat} (h : classF f p = some r) : lim p = true := by
  unfold classF at h
  split at h
  · rename_i q set hg
    have := (clsGo_lim hg).1
    split at this
    · exact lim_mono this (by simp [stepP]) (by simp [stepP]) (by simp [stepP])
    · exact this
  · cases h
theorem ownGo_lim {f : Nat} {p : PS} {own : List Nat} {r : PS × List Nat} (h : ownGo f p own = some r) : lim p = true := by
  cases f with
  | zero => simp [ownGo] at h
  | succ f =>
    simp only [ownGo] at h
    split at h
    · rename_i hl; simp at hl; exact hl.1
    · cases h
theorem branchesF_lim {f : Nat} {p : PS} {r : PS × Nat} (h : branchesF f p = some r) : lim p = true := by
  cases f with
  | zero => simp [branchesF] at h
  | succ f =>
    simp only [branchesF] at h
    cases f with
    | zero => simp [brGo] at h
    | succ f =>
      simp only [brGo] at h
      split at h
      · split at h
        · rename_i hg; exact ownGo_lim hg
        · cases h
      · cases h
def PC (F : Nat → PS → Option (PS × Nat)) (n : FuncId) (f : Nat) : Prop := ∀ (p q : PS) (k : Nat), F f p = some (q, k) → Fn Tryz.prog n [p.v] (.tup [q.v, .int .i64 k])
theorem f_ref09_atom (f : Nat) (hf : f ≤ 1000000) (IH : PC branchesF n_ref09_branches f) : PC atomF n_ref09_atom (f + 1) := by
  intro p q k hr
  simp only [atomF] at hr
  split at hr
  · rename_i hl
    have hl0 := lim_spec hl
    refine Fn.of_image mixed h_ref09_atom i_ref09_atom rfl fun ho => ?_
    unfold c_ref09_atom
    simp only [oks, ok, and_true] at ho
    clear ho
    simp (disch := omega) [PS.v]
    refine wcall_flat (by simpa [PS.v] using f_ref09_is p 40) rfl fun _ => ?_
    cases h40 : isP p 40
    · simp (disch := omega) [h40]
      refine wcall_flat (by simpa [PS.v] using f_ref09_is p 46) rfl fun _ => ?_
      simp only [h40, Bool.false_eq_true, if_false] at hr
      cases h46 : isP p 46
      · simp (disch := omega) [h46]
        refine wcall_flat (by simpa [PS.v] using f_ref09_is p 91) rfl fun _ => ?_
        simp only [h46, Bool.false_eq_true, if_false] at hr
        cases h91 : isP p 91
        · simp only [h91, Bool.false_eq_true, if_false, Option.some.injEq, Prod.mk.injEq] at hr
          obtain ⟨⟨q1, lo⟩, hql⟩ : ∃ x, plainP p oddA = x := ⟨_, rfl⟩
          have hq1 := plainP_n p oddA
          rw [hql] at hq1 hr
          simp only at hq1 hr
          simp (disch := omega) [h91]
          refine wcall_pure (r := .tup [q1.v, .int .u8 lo]) (by have := f_ref09_plain p oddA; rw [hql] at this; simpa [PS.v, oddA] using this) rfl fun _ => ?_
          simp (disch := omega) [PS.v]
          refine wcallD_new (by simpa using f_ref09_signs [] lo lo) ?_
          simp (disch := omega) []
          refine wcallD_pure (r := .tup [(addP q1 ⟨115, tab 95 (signF [] lo lo), []⟩).v, .int .i64 q1.n.length]) ?_ (by simp) ?_
          · have := f_ref09_add q1 ⟨115, tab 95 (signF [] lo lo), []⟩ (by rw [hq1.1]; omega)
            simpa [PS.v, Part.v, rowV] using this
          · simp (disch := omega) [PS.v]
            simp [← hr.1, ← hr.2, PS.v, hq1]
        · simp only [h91, if_true] at hr
          have hl1 := classF_lim hr
          have hl2 := lim_spec hl1
          simp (disch := omega) [h91]
          refine wcall_pure (r := .tup [q.v, .int .i64 k]) (by have := f_ref09_class f (stepP p) q k hr hl1 hf; simpa [PS.v, stepP] using this) rfl fun _ => ?_
          simp (disch := omega) [PS.v]
      · simp only [h46, if_true, Option.some.injEq, Prod.mk.injEq] at hr
        simp (disch := omega) [h46]
        refine wcallD_new (by simpa using f_ref09_signs [] 32 126) ?_
        simp (disch := omega) []
        refine wcallD_pure (r := .tup [(addP (stepP p) ⟨115, tab 95 (signF [] 32 126), []⟩).v, .int .i64 p.n.length]) ?_ (by simp) ?_
        · have := f_ref09_add (stepP p) ⟨115, tab 95 (signF [] 32 126), []⟩ (by simp [stepP]; omega)
          simpa [PS.v, Part.v, rowV, stepP] using this
        · simp (disch := omega) [PS.v]
          simp [← hr.1, ← hr.2, PS.v]
    · simp only [h40, if_true] at hr
      split at hr
      · rename_i q0 k0 hb
        split at hr
        · rename_i hl1
          replace hl1 := lim_spec hl1
          simp only [Option.some.injEq, Prod.mk.injEq] at hr
          simp (disch := omega) [h40]
          refine wcall_pure (r := .tup [q0.v, .int .i64 k0]) (by have := IH (stepP p) q0 k0 hb; simpa [PS.v, stepP] using this) rfl fun _ => ?_
          simp (disch := omega) [PS.v]
          refine wcall_flat (by simpa [PS.v] using f_ref09_is q0 41) rfl fun _ => ?_
          cases h41 : isP q0 41
          all_goals
            simp (disch := omega) [h41]
            simp [← hr.1, ← hr.2, PS.v, h41, stepP, badP]
        · cases hr
      · cases hr
  · cases hr
theorem f_ref09_piece (f : Nat) (hf : f ≤ 1000000) (IH : PC atomF n_ref09_atom f) : PC pieceF n_ref09_piece (f + 1) := by
  intro p q k hr
  simp only [pieceF] at hr
  split at hr
  · rename_i q0 k0 ha
    refine Fn.of_image mixed h_ref09_piece i_ref09_piece rfl fun ho => ?_
    unfold c_ref09_piece
    simp only [oks, ok, and_true] at ho
    clear ho
    obtain ⟨R, hR⟩ : ∃ R, R = (V.tup [q.v, .int .i64 k]) := ⟨_, rfl⟩
    rw [← hR]
    simp (disch := omega) [PS.v]
    refine wcall_pure (r := .tup [q0.v, .int .i64 k0]) (by have := IH p q0 k0 ha; simpa [PS.v] using this) rfl fun _ => ?_
    simp (disch := omega) [PS.v]
    refine W_loop (fun (x : Nat × PS × Nat) => ⟨[(1, .ptr 0 0), (2, .ptr 1 0), (4, .int .i64 x.2.2)],
          [some (.box [.seq 3 (x.2.1.n.map Part.v), .str x.2.1.s, .int .i64 x.2.1.at', .bool x.2.1.bad]), some (.box [.nil 3, .str [], .int .i64 0, .bool false])]⟩)
        (fun x => pieceGo x.1 x.2.1 x.2.2 = some (q, k)) (fun x => x.1) [] _ (f, q0, k0) rfl (by simp) hr ?_
    rintro ⟨g, r, j⟩ hi N hN
    simp only at hi
    cases g with
    | zero => simp [pieceGo] at hi
    | succ g =>
    simp only [pieceGo] at hi
    split at hi
    · rename_i hl
      have hl1 := lim_spec hl
      cases hbd : r.bad
      · simp (disch := omega) [hbd]
        refine wcall_flat (r := .bool (isP r 42)) (by simpa [PS.v, hbd] using f_ref09_is r 42) rfl fun _ => ?_
        simp (disch := omega) [hbd]
        refine wcall_flat (r := .bool (isP r 43)) (by simpa [PS.v, hbd] using f_ref09_is r 43) rfl fun _ => ?_
        simp (disch := omega) [hbd]
        refine wcall_flat (r := .bool (isP r 63)) (by simpa [PS.v, hbd] using f_ref09_is r 63) rfl fun _ => ?_
        simp only [hbd, Bool.false_or] at hi
        cases h42 : isP r 42 <;> cases h43 : isP r 43 <;> cases h63 : isP r 63
        all_goals
          simp only [h42, h43, h63, Bool.not_true, Bool.not_false, Bool.and_true, Bool.and_false, Bool.false_and, Bool.true_and, Bool.and_self, if_true, Bool.false_eq_true, if_false] at hi
          simp (disch := omega) [hbd]
        all_goals
          first
            | (simp only [Option.some.injEq, Prod.mk.injEq] at hi
               simp [hR, ← hi.1, ← hi.2, PS.v, hbd]
               done)
            | (refine wcall_pure (r := .tup [(addP (stepP r) ⟨116, [], []⟩).v, .int .i64 r.n.length]) (by have := f_ref09_add (stepP r) ⟨116, [], []⟩ (by simp [stepP]; omega); simpa [PS.v, Part.v, stepP, hbd] using this) rfl fun _ => ?_
               simp (disch := omega) [PS.v, addP, stepP, hbd]
               refine wcall_pure (r := .tup [(addP (addP (stepP r) ⟨116, [], []⟩) ⟨111, [], [j, r.n.length]⟩).v, .int .i64 ((r.n.length + 1 : Nat) : Int)]) (by have := f_ref09_add (addP (stepP r) ⟨116, [], []⟩) ⟨111, [], [j, r.n.length]⟩ (by simp [stepP, addP]; omega); simpa [PS.v, Part.v, stepP, hbd, addP] using this) (by simp) fun _ => ?_
               simp (disch := omega) [PS.v, addP, stepP, hbd]
               exact hN.out _ <| Nx.mk (g, _, r.n.length + 1) (by simp [addP, stepP, hbd]) hi (by simp only; omega))
            | (refine wcall_pure (r := .tup [(addP (stepP r) ⟨109, [], [j]⟩).v, .int .i64 r.n.length]) (by have := f_ref09_add (stepP r) ⟨109, [], [j]⟩ (by simp [stepP]; omega); simpa [PS.v, Part.v, stepP, hbd] using this) (by simp) fun _ => ?_
               simp (disch := omega) [PS.v, addP, stepP, hbd]
               refine wcall_pure (r := .tup [(addP (addP (stepP r) ⟨109, [], [j]⟩) ⟨116, [], [j, r.n.length]⟩).v, .int .i64 ((r.n.length + 1 : Nat) : Int)]) (by have := f_ref09_add (addP (stepP r) ⟨109, [], [j]⟩) ⟨116, [], [j, r.n.length]⟩ (by simp [stepP, addP]; omega); simpa [PS.v, Part.v, stepP, hbd, addP] using this) (by simp) fun _ => ?_
               simp (disch := omega) [PS.v, addP, stepP, hbd]
               exact hN.out _ <| Nx.mk (g, _, r.n.length + 1) (by simp [addP, stepP, hbd]) hi (by simp only; omega))
            | (refine wcall_pure (r := .tup [(addP (stepP r) ⟨109, [], [j]⟩).v, .int .i64 r.n.length]) (by have := f_ref09_add (stepP r) ⟨109, [], [j]⟩ (by simp [stepP]; omega); simpa [PS.v, Part.v, stepP, hbd] using this) (by simp) fun _ => ?_
               simp (disch := omega) [PS.v, addP, stepP, hbd]
               exact hN.out _ <| Nx.mk (g, _, r.n.length) (by simp [addP, stepP, hbd]) hi (by simp only; omega))
      · simp only [hbd, Bool.true_or, if_true, Option.some.injEq, Prod.mk.injEq] at hi
        simp (disch := omega) [hbd]
        simp [hR, ← hi.1, ← hi.2, PS.v, hbd]
    · cases hi
  · cases hr
theorem f_ref09_branches (f : Nat) (hf : f ≤ 1000000) (IH : ∀ g, g < f → PC pieceF n_ref09_piece g) : PC branchesF n_ref09_branches (f + 1) := by
  intro p q k hr
  simp only [branchesF] at hr
  refine Fn.of_image mixed h_ref09_branches i_ref09_branches rfl fun ho => ?_
  unfold c_ref09_branches
  simp only [oks, ok, and_true] at ho
  clear ho
  obtain ⟨R, hR⟩ : ∃ R, R = (V.tup [q.v, .int .i64 k]) := ⟨_, rfl⟩
  rw [← hR]
  simp (disch := omega) [PS.v]
  refine W_loop (fun (x : Nat × PS × List Nat) => ⟨[(1, .ptr 0 0), (2, .ptr 1 0), (4, .ref 2 x.2.2.length)],
        [some (.box [.seq 3 (x.2.1.n.map Part.v), .str x.2.1.s, .int .i64 x.2.1.at', .bool x.2.1.bad]), some (.box [.nil 3, .str [], .int .i64 0, .bool false]), some (.arr ty_int 1 (x.2.2.map fun (j : Nat) => V.int .i64 (j : Int)))]⟩)
      (fun x => brGo x.1 x.2.1 x.2.2 = some (q, k) ∧ x.1 ≤ f) (fun x => x.1) [.r 4 ty_int 1] _ (f, p, []) rfl (by simp) ⟨hr, Nat.le_refl _⟩ ?_
  rintro ⟨g, r, l⟩ ⟨hi, hg⟩ N hN
  simp only at hi hg
  cases g with
  | zero => simp [brGo] at hi
  | succ g =>
  simp only [brGo] at hi
  split at hi
  · rename_i hl
    simp only [decide_eq_true_eq] at hl
    split at hi
    · rename_i q0 own0 hown
      simp (disch := omega) []
      refine W_loop (fun (x : Nat × PS × List Nat) => ⟨[(1, .ptr 0 0), (2, .ptr 1 0), (4, .ref 2 l.length), (5, .ref 3 x.2.2.length)],
        [some (.box [.seq 3 (x.2.1.n.map Part.v), .str x.2.1.s, .int .i64 x.2.1.at', .bool x.2.1.bad]), some (.box [.nil 3, .str [], .int .i64 0, .bool false]), some (.arr ty_int 1 (l.map fun (j : Nat) => V.int .i64 (j : Int))), some (.arr ty_int 1 (x.2.2.map fun (j : Nat) => V.int .i64 (j : Int)))]⟩)
        (fun x => ownGo x.1 x.2.1 x.2.2 = some (q0, own0) ∧ x.1 ≤ g) (fun x => x.1) [.r 5 ty_int 1] _ (g, r, []) rfl (by simp) ⟨hown, Nat.le_refl _⟩ ?_
      rintro ⟨g1, t, own⟩ ⟨hi1, hg1⟩ M hM
      simp only at hi1 hg1
      cases g1 with
      | zero => simp [ownGo] at hi1
      | succ g1 =>
      simp only [ownGo] at hi1
      split at hi1
      · rename_i hl0
        simp only [Bool.and_eq_true, decide_eq_true_eq] at hl0
        obtain ⟨hl1, hol⟩ := hl0
        replace hl1 := lim_spec hl1
        have hgo : (goes t = true ∧ t.bad = false ∧ ∃ b, t.s[t.at']? = some b ∧ amongS b.toNat [124, 41] = false) ∨ (goes t = false ∧ (t.bad = true ∨ (t.bad = false ∧ t.s[t.at']? = none) ∨ (t.bad = false ∧ ∃ b, t.s[t.at']? = some b ∧ amongS b.toNat [124, 41] = true))) := by
          unfold goes
          cases t.bad <;> cases h : t.s[t.at']? <;> simp
          all_goals (rename_i b; cases amongS b.toNat [124, 41] <;> simp)
        rcases hgo with ⟨hgo, hbd, b, hb, hab⟩ | ⟨hgo, hrest⟩
        · simp only [hgo, if_true] at hi1
          split at hi1
          · rename_i q1 k1 hp
            have hlt := (List.getElem?_eq_some_iff.1 hb).1
            simp (disch := omega) [hbd, hb]
            refine wcall_flat (r := .bool false) (by have := f_ref09_among b.toNat [124, 41]; rwa [hab] at this) rfl fun _ => ?_
            simp (disch := omega) [hbd]
            refine wcall_pure (r := .tup [q1.v, .int .i64 k1]) (by have := IH g1 (by omega) t q1 k1 hp; simpa [PS.v, hbd] using this) rfl fun _ => ?_
            simp (disch := omega) [PS.v]
            exact hM.out _ <| Nx.mk (g1, q1, own ++ [k1]) (by simp; try rfl) ⟨hi1, by simp only; omega⟩ (by simp only; omega)
          · cases hi1
        · simp only [hgo, Bool.false_eq_true, if_false, Option.some.injEq, Prod.mk.injEq] at hi1
          obtain ⟨rfl, rfl⟩ := hi1
          clear hM
          have hfin : (t.bad = true ∨ (t.bad = false ∧ isP t 124 = false)) → some (addP (addP t ⟨116, [], own⟩) ⟨111, [], l ++ [t.n.length]⟩, t.n.length + 1) = some (q, k) := fun h => by
            rw [if_pos] at hi
            · exact hi
            · rcases h with h | h <;> simp [h]
          have hmore : t.bad = false → isP t 124 = true → brGo g (stepP (addP t ⟨116, [], own⟩)) (l ++ [t.n.length]) = some (q, k) := fun h h' => by
            rw [if_neg] at hi
            · exact hi
            · simp [h, h']
          clear hi
          replace hfin := hid hfin
          replace hmore := hid hmore
          rcases hrest with hbd | ⟨hbd, hb⟩ | ⟨hbd, b, hb, hab⟩
          · simp (disch := omega) [hbd]
            refine wcall_kill (r := .tup [(addP t ⟨116, [], own⟩).v, .int .i64 t.n.length]) (by have := f_ref09_add t ⟨116, [], own⟩ (by omega); simpa [PS.v, Part.v, hbd] using this) fun _ => ?_
            simp (disch := omega) [PS.v, addP, hbd]
            refine wcall_kill (r := .tup [(addP (addP t ⟨116, [], own⟩) ⟨111, [], l ++ [t.n.length]⟩).v, .int .i64 ((t.n.length + 1 : Nat) : Int)]) (by have := f_ref09_add (addP t ⟨116, [], own⟩) ⟨111, [], l ++ [t.n.length]⟩ (by simp [addP]; omega); simpa [PS.v, Part.v, hbd, addP] using this) fun _ => ?_
            simp (disch := omega) [PS.v, addP, hbd]
            have := hfin.out (.inl hbd)
            simp only [Option.some.injEq, Prod.mk.injEq] at this
            simp [hR, ← this.1, ← this.2, PS.v, addP, hbd]
          · have hge : t.s.length ≤ t.at' := by rwa [List.getElem?_eq_none_iff] at hb
            have h124 : isP t 124 = false := by simp [isP, hb]
            simp (disch := omega) [hbd]
            refine wcall_kill (r := .tup [(addP t ⟨116, [], own⟩).v, .int .i64 t.n.length]) (by have := f_ref09_add t ⟨116, [], own⟩ (by omega); simpa [PS.v, Part.v, hbd] using this) fun _ => ?_
            simp (disch := omega) [PS.v, addP, hbd]
            refine wcall_flat (r := .bool false) (by have := f_ref09_is (addP t ⟨116, [], own⟩) 124; rw [show isP (addP t ⟨116, [], own⟩) 124 = false from h124] at this; simpa [PS.v, hbd, addP] using this) rfl fun _ => ?_
            simp (disch := omega) [hbd]
            refine wcall_kill (r := .tup [(addP (addP t ⟨116, [], own⟩) ⟨111, [], l ++ [t.n.length]⟩).v, .int .i64 ((t.n.length + 1 : Nat) : Int)]) (by have := f_ref09_add (addP t ⟨116, [], own⟩) ⟨111, [], l ++ [t.n.length]⟩ (by simp [addP]; omega); simpa [PS.v, Part.v, hbd, addP] using this) fun _ => ?_
            simp (disch := omega) [PS.v, addP, hbd]
            have := hfin.out (.inr ⟨hbd, h124⟩)
            simp only [Option.some.injEq, Prod.mk.injEq] at this
            simp [hR, ← this.1, ← this.2, PS.v, addP, hbd]
          · have hlt := (List.getElem?_eq_some_iff.1 hb).1
            simp (disch := omega) [hbd, hb]
            refine wcall_flat (r := .bool true) (by have := f_ref09_among b.toNat [124, 41]; rwa [hab] at this) rfl fun _ => ?_
            simp (disch := omega) [hbd]
            refine wcall_kill (r := .tup [(addP t ⟨116, [], own⟩).v, .int .i64 t.n.length]) (by have := f_ref09_add t ⟨116, [], own⟩ (by omega); simpa [PS.v, Part.v, hbd] using this) fun _ => ?_
            simp (disch := omega) [PS.v, addP, hbd]
            cases h124 : isP t 124
            · refine wcall_flat (r := .bool false) (by have := f_ref09_is (addP t ⟨116, [], own⟩) 124; rw [show isP (addP t ⟨116, [], own⟩) 124 = false from h124] at this; simpa [PS.v, hbd, addP] using this) rfl fun _ => ?_
              simp (disch := omega) [hbd]
              refine wcall_kill (r := .tup [(addP (addP t ⟨116, [], own⟩) ⟨111, [], l ++ [t.n.length]⟩).v, .int .i64 ((t.n.length + 1 : Nat) : Int)]) (by have := f_ref09_add (addP t ⟨116, [], own⟩) ⟨111, [], l ++ [t.n.length]⟩ (by simp [addP]; omega); simpa [PS.v, Part.v, hbd, addP] using this) fun _ => ?_
              simp (disch := omega) [PS.v, addP, hbd]
              have := hfin.out (.inr ⟨hbd, h124⟩)
              simp only [Option.some.injEq, Prod.mk.injEq] at this
              simp [hR, ← this.1, ← this.2, PS.v, addP, hbd]
            · refine wcall_flat (r := .bool true) (by have := f_ref09_is (addP t ⟨116, [], own⟩) 124; rw [show isP (addP t ⟨116, [], own⟩) 124 = true from h124] at this; simpa [PS.v, hbd, addP] using this) rfl fun _ => ?_
              simp (disch := omega) [hbd]
              exact hN.out _ <| Nx.mk (g, stepP (addP t ⟨116, [], own⟩), l ++ [t.n.length]) (by simp [stepP, addP, hbd]; try rfl) ⟨hmore.out hbd h124, by simp only; omega⟩ (by simp only; omega)
      · cases hi1
    · cases hi
  · cases hi
end Go.Abs
