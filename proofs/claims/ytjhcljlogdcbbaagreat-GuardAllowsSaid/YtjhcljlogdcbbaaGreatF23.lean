/-
  What strainerref09's Parse and strainerref12's Allows answer. No condition.
-/
import Derived.Test.YtjhcljlogdcbbaaGreatF22
set_option linter.unusedVariables false
set_option linter.unusedSimpArgs false
set_option maxHeartbeats 4000000
set_option maxRecDepth 100000
namespace Go.Abs
open Go.Proofs
attribute [-simp] getElem?_pos Option.not_isSome
theorem PC0 {F : Nat → PS → Option (PS × Nat)} {n : FuncId} (h : ∀ p, F 0 p = none) : PC F n 0 := fun p q k hr => by rw [h] at hr; cases hr
theorem parser : ∀ f, f ≤ 1000000 → PC atomF n_ref09_atom f ∧ PC pieceF n_ref09_piece f ∧ PC branchesF n_ref09_branches f := by
  intro f
  induction f using Nat.strongRecOn with
  | _ f IH =>
    intro hf
    cases f with
    | zero => exact ⟨PC0 fun p => by simp [atomF], PC0 fun p => by simp [pieceF], PC0 fun p => by simp [branchesF]⟩
    | succ f =>
      have h1 := IH f (by omega) (by omega)
      exact ⟨f_ref09_atom f (by omega) h1.2.2, f_ref09_piece f (by omega) h1.1, f_ref09_branches f (by omega) fun g hg => (IH g (by omega) (by omega)).2.1⟩
def parseF (s : Str) : Option (List Part × Nat) := match branchesF 200 ⟨[], s, 0, false⟩ with
  | some (q, k) => if !q.bad && (decide (q.at' = s.length) && decide (q.at' ≤ 1000)) then some (q.n, k) else none
  | none => none
theorem f_ref09_Parse (s : Str) (ps : List Part) (k : Nat) (h : parseF s = some (ps, k)) (hs : s.length ≤ 60) : Fn Tryz.prog n_ref09_Parse [.str s] (.tup [.seq 3 (ps.map Part.v), .int .i64 k, .int .i64 0]) := by
  unfold parseF at h
  split at h
  · rename_i q k0 hb
    split at h
    · rename_i hc
      simp only [Bool.and_eq_true, Bool.not_eq_true', decide_eq_true_eq] at hc
      obtain ⟨hc1, hc2, hc3⟩ := hc
      simp only [Option.some.injEq, Prod.mk.injEq] at h
      obtain ⟨rfl, rfl⟩ := h
      refine Fn.of_image mixed h_ref09_Parse i_ref09_Parse rfl fun ho => ?_
      unfold c_ref09_Parse
      simp only [oks, ok, and_true] at ho
      clear ho
      simp (disch := omega) []
      refine wcall_pure (r := .tup [q.v, .int .i64 k0]) (by have := (parser 200 (by omega)).2.2 ⟨[], s, 0, false⟩ q k0 hb; simpa [PS.v] using this) (by simp) fun _ => ?_
      simp (disch := omega) [PS.v, hc1, hc2]
    · cases h
  · cases h
/-- Parts of which each is whole, and stands behind its own. -/
def wfB : Nat → List Part → Bool
  | _, [] => true
  | i, p :: l => p.l.all (fun x => decide (x < i)) && ((!decide (p.op = 115) || decide (p.set.length = 95)) && (decide (p.l.length ≤ 1000) && wfB (i + 1) l))
theorem wfB_get : ∀ {l : List Part} {i j : Nat} {p : Part}, wfB i l = true → l[j]? = some p → (∀ x ∈ p.l, x < i + j) ∧ (p.op = 115 → p.set.length = 95) ∧ p.l.length ≤ 1000
  | [], i, j, p, _, h => by simp at h
  | y :: l, i, 0, p, hw, h => by
    simp only [List.getElem?_cons_zero, Option.some.injEq] at h
    subst h
    simp only [wfB, Bool.and_eq_true, List.all_eq_true, decide_eq_true_eq, Bool.or_eq_true, Bool.not_eq_true', decide_eq_false_iff_not] at hw
    refine ⟨fun x hx => by have := hw.1 x hx; omega, fun hp => ?_, hw.2.2.1⟩
    rcases hw.2.1 with h | h
    · exact absurd hp h
    · exact h
  | y :: l, i, j + 1, p, hw, h => by
    simp only [List.getElem?_cons_succ] at h
    simp only [wfB, Bool.and_eq_true] at hw
    have := wfB_get hw.2.2.2 h
    rw [show i + (j + 1) = i + 1 + j by omega]
    exact this
/-- Is a text an expression's that is whole? -/
def rxB (s : Str) : Bool := decide (s.length ≤ 60) && match parseF s with
  | some (ps, k) => wfB 0 ps && (decide (ps.length ≤ 1000) && decide (k < ps.length))
  | none => false
def rxM (s v : Str) : Bool := match parseF s with
  | some (ps, k) => matchT ps k v
  | none => false
def idxFrom : Nat → Str → Int
  | _, [] => -1
  | k, b :: l => if b.toNat = 58 then k else idxFrom (k + 1) l
theorem idxFrom_eq : ∀ (s : Str) (k : Nat), idxFrom k s = if 0 ≤ Lib.indexByte s 58 then k + Lib.indexByte s 58 else -1
  | [], k => by simp [idxFrom, Lib.indexByte]
  | b :: l, k => by
    have ih := idxFrom_eq l (k + 1)
    have hg := Lib.indexByte_ge l 58
    have hb : (b.toNat = 58) ↔ b = 58 := by rw [← UInt8.toNat_inj]; rfl
    by_cases h : b = 58
    · have e : Lib.indexByte (b :: l) 58 = 0 := by simp [Lib.indexByte, h]
      rw [idxFrom, if_pos (hb.2 h), e]; simp
    · have e : Lib.indexByte (b :: l) 58 = if Lib.indexByte l 58 = -1 then -1 else Lib.indexByte l 58 + 1 := by simp [Lib.indexByte, h]
      rw [idxFrom, if_neg (fun x => h (hb.1 x)), ih, e]
      by_cases h2 : Lib.indexByte l 58 = -1
      · simp [h2]
      · rw [if_neg h2, if_pos (by omega), if_pos (by omega)]; omega
/-- What ref12.Allows tells. -/
def allows12 (c : Constraint) (v : Str) : Bool :=
  v.all sign && (decide (c.kind = 1) || ((decide (c.kind = 2) && hasS c.words v) || ((decide (c.kind = 3) && (!(cutB v 58).2.2 || hasS c.words (cutB v 58).1)) || (decide (c.kind = 4) && rxM c.regex v))))
theorem f_ref12_Allows (c : Constraint) (v : Str) (hk : 1 ≤ c.kind ∧ c.kind ≤ 4) (hr : c.kind = 4 → rxB c.regex = true) (hv : v.length ≤ 1000) : Fn Tryz.prog n_ref12_Allows [c.v, .str v] (.bool (allows12 c v)) := by
  refine Fn.of_image mixed h_ref12_Allows i_ref12_Allows rfl fun ho => ?_
  unfold c_ref12_Allows
  simp only [oks, ok, and_true] at ho
  obtain ⟨kd, ws, rx⟩ := c
  simp only at hk hr
  have hlen : ws.length ≤ 140737488355328 := by have := ho.1; simp at this; exact this.2.1.1
  clear ho
  simp (disch := omega) []
  refine wcall_flat (f_ref12_signs _) rfl fun _ => ?_
  cases hs : v.all sign
  · simp (disch := omega) [allows12, hs]
  · simp (disch := omega) []
    have hkk : kd = 1 ∨ kd = 2 ∨ kd = 3 ∨ kd = 4 := by omega
    rcases hkk with rfl | rfl | rfl | rfl
    · simp (disch := omega) [allows12, hs]
    · simp (disch := omega) []
      have e : allows12 ⟨2, ws, rx⟩ v = hasS ws v := by simp [allows12, hs]
      rw [e]
      generalize hR : hasS ws v = R
      refine W_loop (fun k : Nat => ⟨[(1, .str v), (2, .ptr 0 0), (6, .int .i64 k)], [some (.box [.int .i64 2, .seq 1 (ws.map .str), .str rx])]⟩) (fun k => k ≤ ws.length ∧ hasS (ws.drop k) v = R) (fun k => ws.length - k) [] _ 0 rfl (by simp [*]) (by simp [*]) ?_
      rintro k ⟨hk, hi⟩ N hN
      rcases place ws k hk with ⟨he, hd⟩ | ⟨hlt, x, hx, hd⟩ <;> rw [hd] at hi <;> replace hi := hid hi
      · simp (disch := omega) [he]
        simpa [hasS] using hi.out
      · simp (disch := omega) [hx]
        repeat' (first | (refine BrKd.mk (fun h => ?_) (fun h => ?_) <;> simp (disch := omega) [*]) | (refine BrK.mk (fun h => ?_) (fun h => ?_) <;> simp (disch := omega) [*]))
        all_goals first
          | (refine hN.out _ <| Nx.mk (k + 1) (by simp [*]) ⟨by omega, ?_⟩ (by omega); simpa (disch := omega) [*, decide_eq_true, decide_eq_false, hasS] using hi.out)
          | (first | simpa (disch := omega) [*, decide_eq_true, decide_eq_false, hasS] using hi.out.symm | simpa (disch := omega) [*, decide_eq_true, decide_eq_false, hasS] using hi.out)
    · simp (disch := omega) []
      have hix := idxFrom_eq v 0
      have hb := indexByte_lt 58 v
      have hg := Lib.indexByte_ge v 58
      obtain ⟨T, hT⟩ : ∃ T, T = idxFrom 0 v := ⟨_, rfl⟩
      rw [← hT] at hix
      have hTb : T = -1 ∨ (0 ≤ T ∧ T < v.length) := by rw [hix]; split <;> omega
      have e : allows12 ⟨3, ws, rx⟩ v = (decide (T < 0) || hasS ws (v.take T.toNat)) := by
        simp only [allows12, hs, cutB, hix]
        by_cases h : 0 ≤ Lib.indexByte v 58
        · simp [h, show ¬ Lib.indexByte v 58 < 0 by omega]
        · simp [h]
      rw [e]
      generalize hR : (decide (T < 0) || hasS ws (v.take T.toNat)) = R
      refine W_loop (fun (q : Nat × Int) => ⟨[(1, .str v), (2, .ptr 0 0), (7, .int .i64 q.2), (8, .int .i64 q.1)], [some (.box [.int .i64 3, .seq 1 (ws.map .str), .str rx])]⟩)
        (fun q => q.1 ≤ v.length ∧ ((q.2 = -1 ∧ idxFrom q.1 (v.drop q.1) = T) ∨ (q.2 = T ∧ 0 ≤ T))) (fun q => v.length - q.1) [] _ (0, -1) rfl (by simp) (by simp [hT]) ?_
      rintro ⟨k, at'⟩ ⟨hk, hi⟩ N hN
      simp only at hk hi
      rcases hi with ⟨rfl, hi⟩ | ⟨rfl, hT0⟩
      · rcases place v k hk with ⟨he, hd⟩ | ⟨hlt, x, hx, hd⟩ <;> rw [hd] at hi
        · simp only [idxFrom] at hi
          subst hi
          simp (disch := omega) [he]
          simpa using hR
        · simp only [idxFrom] at hi
          replace hi := hid hi
          simp (disch := omega) [hx]
          refine BrKd.mk (fun h => ?_) (fun h => ?_)
          · have hi := hi.out
            rw [if_pos (by omega)] at hi
            simp (disch := omega) [h]
            exact hN.out _ <| Nx.mk (k + 1, (k : Int)) (by simp) ⟨by simp only; omega, .inr ⟨hi, by omega⟩⟩ (by simp only; omega)
          · have hi := hi.out
            rw [if_neg (by omega)] at hi
            simp (disch := omega) [h]
            exact hN.out _ <| Nx.mk (k + 1, (-1 : Int)) (by simp) ⟨by simp only; omega, .inl ⟨rfl, hi⟩⟩ (by simp only; omega)
      · obtain ⟨t, rfl⟩ := Int.eq_ofNat_of_zero_le hT0
        have htl : t < v.length := by omega
        simp only [show decide ((t : Int) < 0) = false by simp, Bool.false_or, Int.toNat_natCast] at hR
        clear hN
        rcases Nat.lt_or_ge k v.length with hkl | hkl
        all_goals
          simp (disch := omega) []
          refine W_loop (fun (j : Nat) => ⟨[(1, .str v), (2, .ptr 0 0), (7, .int .i64 t), (9, .int .i64 j)], [some (.box [.int .i64 3, .seq 1 (ws.map .str), .str rx])]⟩)
            (fun j => j ≤ ws.length ∧ hasS (ws.drop j) (v.take t) = R) (fun j => ws.length - j) [] _ 0 rfl (by simp) (by simp [hR]) ?_
          rintro j ⟨hj, hi⟩ M hM
          rcases place ws j hj with ⟨he, hd⟩ | ⟨hlt, x, hx, hd⟩ <;> rw [hd] at hi
          · simp (disch := omega) [he]
            simpa [hasS] using hi
          · simp only [hasS] at hi
            replace hi := hid hi
            simp (disch := omega) [hx]
            refine BrKd.mk (fun h => ?_) (fun h => ?_)
            · have hi := hi.out
              rw [if_pos (by simpa using h)] at hi
              simp (disch := omega) [h]
              simpa using hi
            · have hi := hi.out
              rw [if_neg (by simpa using h)] at hi
              simp (disch := omega) [h]
              exact hM.out _ <| Nx.mk (j + 1) (by simp) ⟨by omega, hi⟩ (by omega)
    · simp (disch := omega) []
      have hb := hr rfl
      simp only [rxB, Bool.and_eq_true, decide_eq_true_eq] at hb
      obtain ⟨hb1, hb2⟩ := hb
      have e : allows12 ⟨4, ws, rx⟩ v = rxM rx v := by simp [allows12, hs]
      rw [e]
      unfold rxM
      split at hb2
      · rename_i ps k hp
        simp only [Bool.and_eq_true, decide_eq_true_eq] at hb2
        obtain ⟨hw, hpl, hkl⟩ := hb2
        try simp only [hp]
        refine wcall_pure (f_ref09_Parse rx ps k hp hb1) (by simp) fun _ => ?_
        simp (disch := omega) []
        refine wcall_flat (by simpa using f_ref09_Match ps k v ⟨hpl, fun i p h => by have := wfB_get hw h; rwa [Nat.zero_add] at this⟩ hkl (by omega)) rfl fun _ => ?_
        simp
      · cases hb2
theorem pool_ok : pool12.all rxB = true := by decide +kernel
theorem on_ok : rxB [91, 94, 32, 45, 126, 93] = true := by decide +kernel
end Go.Abs
