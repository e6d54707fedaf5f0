/-
  What guard's Guard and strainerref21's Any answer. No condition.
-/
import Derived.Test.YtjhcljlogdcbbaaGreatCodeB
set_option linter.unusedVariables false
set_option linter.unusedSimpArgs false
set_option maxHeartbeats 4000000
set_option maxRecDepth 100000
namespace Go.Abs
open Go.Proofs
attribute [-simp] getElem?_pos Option.not_isSome List.map_map
theorem f_guard_harmless (l : List Str) (hl : l.length ≤ 1099511627776) : FnN Tryz.prog n_guard_harmless [.seq 1 (l.map .str)] (.seq 1 ((kept21 l).map .str)) := by
  refine FnN.of_image mixed h_guard_harmless i_guard_harmless rfl fun ho => ?_
  unfold c_guard_harmless
  clear ho
  simp (disch := omega) []
  generalize hw : kept21 l = w
  refine W_loop (fun (q : Nat × List Str) => ⟨[(3, .ref 0 q.2.length), (6, .seq 1 (l.map .str)), (7, .int .i64 l.length), (8, .int .i64 q.1)], [some (.arr ty_string 1 (q.2.map .str))]⟩)
    (fun q => q.1 ≤ l.length ∧ q.2.length ≤ q.1 ∧ q.2 ++ kept21 (l.drop q.1) = w) (fun q => l.length - q.1) [.r 3 ty_string 1] _ (0, []) rfl (by simp) (by simp [← hw]) ?_
  rintro ⟨k, out⟩ ⟨hk, hol, hi⟩ N hN
  simp only at hk hol hi
  rcases place l k hk with ⟨he, hd⟩ | ⟨hlt, x, hx, hd⟩ <;> rw [hd] at hi
  · simp [kept21] at hi
    subst hi
    simp (disch := omega) [he]
  · simp only [kept21, List.filter_cons] at hi
    replace hi := hid hi
    simp (disch := omega) [hx]
    refine wcall_flat (f_guard_named x) rfl fun _ => ?_
    simp (disch := omega) []
    refine BrK.mk (fun h => ?_) (fun h => ?_)
    · simp (disch := omega) [h]
      have hi := hi.out
      refine hN.out _ <| Nx.mk (k + 1, out) (by simp) ⟨by simp only; omega, by simp only; omega, ?_⟩ (by simp only; omega)
      simpa [h, kept21] using hi
    · simp (disch := omega) [h]
      have hi := hi.out
      refine hN.out _ <| Nx.mk (k + 1, out ++ [x]) (by simp) ⟨by simp only; omega, by simp; omega, ?_⟩ (by simp only; omega)
      simpa [h, kept21] using hi
/-- A slice of words, as a register may hold it. -/
def wordsV (ws : List Str) (v : V) : Prop := (v = .nil 1 ∧ ws = []) ∨ v = .seq 1 (ws.map .str)
theorem f_guard_rules_1_nil (nm : Str) (kd : Int) (ws : List Str) (rx : Str) (wv : V) (hw : wordsV ws wv) : FnH Tryz.prog n_guard_rules_1 [2] [.str nm, .strct [.int .i64 kd, wv, .str rx], .ptr 0 0] [some (.box [.nil 5])] (.tup []) [some (.box [.ref 1 1]), some (.arr ty_api_Rule 5 [Rule.v ⟨nm, ⟨kd, ws, rx⟩, false⟩])] := by
  refine FnH.of_image mixed h_guard_rules_1 i_guard_rules_1 rfl fun ho hh => ?_
  unfold c_guard_rules_1
  clear ho hh
  rcases hw with ⟨rfl, rfl⟩ | rfl
  · simp (disch := omega) []
  · simp (disch := omega) []
theorem f_guard_rules_1_cons (nm : Str) (kd : Int) (ws : List Str) (rx : Str) (wv : V) (hw : wordsV ws wv) (l : List Rule) (hl : l.length ≤ 1099511627776) : FnH Tryz.prog n_guard_rules_1 [2] [.str nm, .strct [.int .i64 kd, wv, .str rx], .ptr 0 0] [some (.box [.ref 1 l.length]), some (.arr ty_api_Rule 5 (l.map Rule.v))] (.tup []) [some (.box [.ref 1 (l.length + 1)]), some (.arr ty_api_Rule 5 ((l ++ [(⟨nm, ⟨kd, ws, rx⟩, false⟩ : Rule)]).map Rule.v))] := by
  refine FnH.of_image mixed h_guard_rules_1 i_guard_rules_1 rfl fun ho hh => ?_
  unfold c_guard_rules_1
  clear ho hh
  rcases hw with ⟨rfl, rfl⟩ | rfl
  · simp (disch := omega) []
  · simp (disch := omega) []
theorem f_guard_rules (l : List Rule) (hl : l.length ≤ 1000000) : Fn Tryz.prog n_guard_rules [.seq 5 (l.map Rule.v)] (.seq 5 ((guardHead ++ guardRest l).map Rule.v)) := by
  refine Fn.of_image mixed h_guard_rules i_guard_rules rfl fun ho => ?_
  unfold c_guard_rules
  simp only [oks, ok, and_true] at ho
  clear ho
  simp (disch := omega) []
  refine wcallH_mk [2] 1 [0] (by simp) (by simp) (by simp) (by simp) (f_guard_rules_1_nil [111, 110, 42] 4 [] [91, 94, 32, 45, 126, 93] (.nil 1) (.inl ⟨rfl, rfl⟩)) rfl fun _ _ => ?_
  simp (disch := omega) []
  refine wcall_pure f_guard_safe (by simp) fun _ => ?_
  simp (disch := omega) [safeC]
  refine wcallH_mk [2] 1 [0, 1] (by simp) (by simp) (by simp [safeC]) (by simp) (f_guard_rules_1_cons [97, 99, 116, 105, 111, 110] 3 safeC.words [] _ (.inr rfl) [(⟨[111, 110, 42], ⟨4, [], [91, 94, 32, 45, 126, 93]⟩, false⟩ : Rule)] (by simp)) (by simp) fun _ _ => ?_
  simp (disch := omega) []
  refine wcall_pure f_guard_safe (by simp) fun _ => ?_
  simp (disch := omega) [safeC]
  refine wcallH_mk [2] 1 [0, 2] (by simp) (by simp) (by simp [safeC]) (by simp [safeC]) (f_guard_rules_1_cons [104, 114, 101, 102] 3 safeC.words [] _ (.inr rfl) [(⟨[111, 110, 42], ⟨4, [], [91, 94, 32, 45, 126, 93]⟩, false⟩ : Rule), ⟨[97, 99, 116, 105, 111, 110], safeC, false⟩] (by simp)) (by simp) fun _ _ => ?_
  simp (disch := omega) []
  refine wcall_pure f_guard_safe (by simp) fun _ => ?_
  simp (disch := omega) [safeC]
  refine wcallH_mk [2] 1 [0, 3] (by simp) (by simp) (by simp [safeC]) (by simp [safeC]) (f_guard_rules_1_cons [115, 114, 99] 3 safeC.words [] _ (.inr rfl) [(⟨[111, 110, 42], ⟨4, [], [91, 94, 32, 45, 126, 93]⟩, false⟩ : Rule), ⟨[97, 99, 116, 105, 111, 110], safeC, false⟩, ⟨[104, 114, 101, 102], safeC, false⟩] (by simp)) (by simp) fun _ _ => ?_
  simp (disch := omega) []
  obtain ⟨gr, hg⟩ : ∃ gr, gr = guardRest l := ⟨_, rfl⟩
  rw [← hg]
  have hgh : guardHead.length = 4 := rfl
  refine W_loop (fun (q : Nat × List Rule) => ⟨[(3, .ptr 0 0), (4, .fn (.func 49) [] [.ptr 0 0]), (20, .seq 5 (l.map Rule.v)), (21, .int .i64 l.length), (22, .int .i64 q.1)], [some (.box [.ref 1 (guardHead ++ q.2).length]), some (.arr ty_api_Rule 5 ((guardHead ++ q.2).map Rule.v))]⟩)
    (fun q => q.1 ≤ l.length ∧ q.2.length ≤ q.1 ∧ q.2 ++ guardRest (l.drop q.1) = gr) (fun q => l.length - q.1) [] _ (0, []) rfl (by simp [guardHead, safeC, onC, sOn]) (by simp [hg]) ?_
  rintro ⟨k, out⟩ ⟨hk, hol, hi⟩ N hN
  simp only at hk hol hi
  rcases place l k hk with ⟨he, hd⟩ | ⟨hlt, x, hx, hd⟩ <;> rw [hd] at hi
  · simp [guardRest] at hi
    subst hi
    simp (disch := omega) [he]
  · simp only [guardRest, List.filter_cons] at hi
    replace hi := hid hi
    have no : (!placeN x.name && !decide (x.name = sOn)) = false → out ++ guardRest (l.drop (k + 1)) = gr := fun h => by have hi := hi.out; rw [if_neg (by simp [h])] at hi; exact hi
    have yes : (!placeN x.name && !decide (x.name = sOn)) = true → (out ++ [⟨x.name, ⟨1, [], []⟩, false⟩]) ++ guardRest (l.drop (k + 1)) = gr := fun h => by have hi := hi.out; rw [if_pos h] at hi; simpa [guardRest] using hi
    replace no := hid no
    replace yes := hid yes
    simp (disch := omega) [hx]
    have fin : (!placeN x.name && !decide (x.name = sOn)) = false → ∀ τ : St, τ.nrm [3, 4, 20, 21, 22] = ⟨[(3, .ptr 0 0), (4, .fn (.func 49) [] [.ptr 0 0]), (20, .seq 5 (l.map Rule.v)), (21, .int .i64 l.length), (22, .int .i64 ((k + 1 : Nat) : Int))], [some (.box [.ref 1 (guardHead ++ out).length]), some (.arr ty_api_Rule 5 ((guardHead ++ out).map Rule.v))]⟩ → N τ :=
      fun h τ hτ => hN.out τ <| Nx.mk (k + 1, out) hτ ⟨by simp only; omega, by simp only; omega, no.out h⟩ (by simp only; omega)
    replace fin := hid fin
    refine BrKd.mk (fun h1 => ?_) (fun h1 => ?_)
    · simp (disch := omega) [h1]
      exact fin.out (by simp [h1, sOn]) _ (by simp [hgh])
    · simp (disch := omega) [h1]
      refine BrKd.mk (fun h2 => ?_) (fun h2 => ?_)
      · simp (disch := omega) [h2]
        exact fin.out (by simp [h2, placeN]) _ (by simp [hgh])
      · simp (disch := omega) [h2]
        refine BrKd.mk (fun h3 => ?_) (fun h3 => ?_)
        · simp (disch := omega) [h3]
          exact fin.out (by simp [h3, placeN]) _ (by simp [hgh])
        · simp (disch := omega) [h3]
          refine BrKd.mk (fun h4 => ?_) (fun h4 => ?_)
          · simp (disch := omega) [h4]
            exact fin.out (by simp [h4, placeN]) _ (by simp [hgh])
          · simp (disch := omega) [h4]
            have hy := yes.out (by simp [placeN, sOn, h1, h2, h3, h4])
            refine wcallH_mk [2] 1 [0, 1] (by simp) (by simp) (by simp) (by simp [hgh]) (f_guard_rules_1_cons x.name 1 [] [] (.nil 1) (.inl ⟨rfl, rfl⟩) (guardHead ++ out) (by simp [hgh]; omega)) (by simp) fun _ _ => ?_
            simp (disch := omega) []
            exact hN.out _ <| Nx.mk (k + 1, out ++ [⟨x.name, ⟨1, [], []⟩, false⟩]) (by simp [hgh, Nat.add_assoc]) ⟨by simp only; omega, by simp; omega, hy⟩ (by simp only; omega)
theorem f_guard_Guard (p : Policy) (hp : p.few) : Fn Tryz.prog n_guard_Guard [p.v] (guard21 p).v := by
  refine Fn.of_image mixed h_guard_Guard i_guard_Guard rfl fun ho => ?_
  unfold c_guard_Guard
  simp only [oks, ok, and_true] at ho
  obtain ⟨hp1, hp2, hp3⟩ := hp
  clear ho
  simp (disch := omega) []
  refine wcall_new (f_guard_harmless p.top (by omega)) fun _ => ?_
  obtain ⟨T, hT⟩ : ∃ T, T = kept21 p.top := ⟨_, rfl⟩
  rw [← hT]
  simp (disch := omega) []
  obtain ⟨w, hw⟩ : ∃ w, w = guardEls p.elements := ⟨_, rfl⟩
  refine W_loop (fun (q : Nat × List Allowed) => ⟨[(2, .ptr 0 0), (3, .ptr 1 0), (11, .seq 3 (p.elements.map Allowed.v)), (12, .int .i64 p.elements.length), (13, .int .i64 q.1)],
    [some (.box [.nil 1, .nil 3, .nil 1]), some (.box [.seq 1 (T.map .str), .ref 2 q.2.length, .nil 1]), some (.arr ty_api_Allowed 3 (q.2.map Allowed.v))]⟩)
    (fun q => q.1 ≤ p.elements.length ∧ q.2.length ≤ q.1 ∧ q.2 ++ guardEls (p.elements.drop q.1) = w) (fun q => p.elements.length - q.1) [.b 2 1 ty_api_Allowed 3] _ (0, []) rfl (by simp) (by simp [hw]) ?_
  rintro ⟨k, out⟩ ⟨hk, hol, hi⟩ N hN
  simp only at hk hol hi
  rcases place p.elements k hk with ⟨he, hd⟩ | ⟨hlt, x, hx, hd⟩ <;> rw [hd] at hi
  · simp [guardEls] at hi
    subst hi
    simp (disch := omega) [he]
    simp [guard21, hw, hT]
  · obtain ⟨hx1, hx2⟩ := hp3 x (List.mem_of_getElem? hx)
    simp only [guardEls, List.filter_cons] at hi
    replace hi := hid hi
    simp (disch := omega) [hx]
    refine wcall_flat (f_guard_named x.name) rfl fun _ => ?_
    cases hn : namedD x.name
    · simp (disch := omega) [hx]
      have hi2 := hi.out
      rw [if_pos (by simp [hn])] at hi2
      have hi3 : (out ++ [guardEl x]) ++ guardEls (p.elements.drop (k + 1)) = w := by simpa [guardEls] using hi2
      clear hi hi2
      refine wcallD_new (f_guard_harmless x.kids (by omega)) ?_
      simp (disch := omega) []
      refine wcallD_pure (f_guard_rules x.rules (by omega)) (by simp) ?_
      simp (disch := omega) []
      refine hN.out _ <| Nx.mk (k + 1, out ++ [guardEl x]) (by simp [guardEl]) ⟨by simp only; omega, by simp; omega, hi3⟩ (by simp only; omega)
    · simp (disch := omega) [hx]
      have hi2 := hi.out
      rw [if_neg (by simp [hn])] at hi2
      refine hN.out _ <| Nx.mk (k + 1, out) (by simp) ⟨by simp only; omega, by simp only; omega, hi2⟩ (by simp only; omega)
def harm21 (a : Attr) : Bool := begins a.name [111, 110] || (placeN a.name && !allows12 safeC a.value)
def dang21 (n : Node) : Bool := decide (n.kind = 1) && (namedD n.name || n.attrs.any harm21)
theorem f_ref21_Dangerous (n : Node) (hv : ∀ a ∈ n.attrs, a.value.length ≤ 1000) : Fn Tryz.prog n_ref21_Dangerous [n.v] (.bool (dang21 n)) := by
  refine Fn.of_image mixed h_ref21_Dangerous i_ref21_Dangerous rfl fun ho => ?_
  unfold c_ref21_Dangerous
  simp only [oks, ok, and_true] at ho
  have hlen : n.attrs.length ≤ 140737488355328 := by have := ho; simp at this; exact this.2.2.1.1
  clear ho
  by_cases hk : n.kind = 1
  · simp (disch := omega) [hk]
    refine wcall_flat (f_ref21_Named n.name) rfl fun _ => ?_
    simp (disch := omega) []
    obtain ⟨R, hR⟩ : ∃ R, R = dang21 n := ⟨_, rfl⟩
    rw [← hR]
    refine W_loop (fun (q : Nat × Bool) => ⟨[(1, .ptr 0 0), (3, .bool q.2), (4, .int .i64 q.1)], [some (.box [.int .i64 1, .str n.name, .seq 2 (n.attrs.map Attr.v), .str n.text, .seq 5 (n.kids.map Node.v)])]⟩)
      (fun q => q.1 ≤ n.attrs.length ∧ (q.2 || (n.attrs.drop q.1).any harm21) = R) (fun q => n.attrs.length - q.1) [] _ (0, namedD n.name) rfl (by simp [hk]) (by simp [hR, dang21, hk]) ?_
    rintro ⟨k, b⟩ ⟨hkl, hi⟩ N hN
    simp only at hkl hi
    rcases place n.attrs k hkl with ⟨he, hd⟩ | ⟨hlt, x, hx, hd⟩ <;> rw [hd] at hi
    · simp at hi
      subst hi
      simp (disch := omega) [he]
    · simp only [List.any_cons, ← Bool.or_assoc] at hi
      have hxv := hv x (List.mem_of_getElem? hx)
      replace hi := hid hi
      simp (disch := omega) [hx]
      have fin : ∀ b' : Bool, b' = (b || harm21 x) → ∀ τ : St, τ.nrm [1, 3, 4] = ⟨[(1, .ptr 0 0), (3, .bool b'), (4, .int .i64 ((k + 1 : Nat) : Int))], [some (.box [.int .i64 1, .str n.name, .seq 2 (n.attrs.map Attr.v), .str n.text, .seq 5 (n.kids.map Node.v)])]⟩ → N τ :=
        fun b' hb τ hτ => hN.out τ <| Nx.mk (k + 1, b') hτ ⟨by simp only; omega, by simp only [hb]; exact hi.out⟩ (by simp only; omega)
      replace fin := hid fin
      have hA := f_ref12_Allows safeC x.value (by simp [safeC]) (by simp [safeC]) hxv
      simp only [harm21, begins] at fin
      generalize allows12 safeC x.value = sv at *
      repeat' (first
        | (refine BrKd.mk (fun h => ?_) (fun h => ?_) <;> simp (disch := omega) [*])
        | (refine BrK.mk (fun h => ?_) (fun h => ?_) <;> simp (disch := omega) [*])
        | (refine wcall_flat (f_ref21_place _) rfl (fun _ => ?_) <;> simp (disch := omega) [*])
        | (refine wcall_flat (by simpa [safeC] using hA) rfl (fun _ => ?_) <;> simp (disch := omega) [*]))
      all_goals
        first
          | (refine fin.out true ?_ _ ?_ <;> (simp [*]; done))
          | (refine fin.out false ?_ _ ?_ <;> (simp [*]; done))
          | (refine fin.out (!sv) ?_ _ ?_ <;> (simp [*]; done))
  · simp (disch := omega) [hk, dang21]
theorem f_ref21_Any : ∀ l : List Node, allNs fineN l → Fn Tryz.prog n_ref21_Any [.seq 5 (l.map Node.v)] (.bool (anyNs dang21 l)) := by
  have key : ∀ l : List Node, (∀ n ∈ l, allNs fineN n.kids → Fn Tryz.prog n_ref21_Any [.seq 5 (n.kids.map Node.v)] (.bool (anyNs dang21 n.kids))) → allNs fineN l → Fn Tryz.prog n_ref21_Any [.seq 5 (l.map Node.v)] (.bool (anyNs dang21 l)) := by
    intro l hrec hfi
    refine Fn.of_image mixed h_ref21_Any i_ref21_Any rfl fun ho => ?_
    unfold c_ref21_Any
    simp only [oks, ok, and_true] at ho
    have hlen : l.length ≤ 140737488355328 := by have := ho.1; simpa using this
    clear ho
    simp (disch := omega) []
    obtain ⟨R, hR⟩ : ∃ R, R = anyNs dang21 l := ⟨_, rfl⟩
    rw [← hR]
    refine W_loop (fun k : Nat => ⟨[(0, .seq 5 (l.map Node.v)), (3, .int .i64 k)], []⟩) (fun k => k ≤ l.length ∧ anyNs dang21 (l.drop k) = R) (fun k => l.length - k) [] _ 0 rfl (by simp [*]) (by simp [hR]) ?_
    rintro k ⟨hk, hi⟩ N hN
    rcases place l k hk with ⟨he, hd⟩ | ⟨hlt, x, hx, hd⟩ <;> rw [hd] at hi <;> replace hi := hid hi
    · simp (disch := omega) [he]
      simpa [anyNs] using hi.out
    · obtain ⟨hfx, hfk⟩ := allNs_mem hfi (List.mem_of_getElem? hx)
      simp only [anyNs, anyN_eq] at hi
      simp (disch := omega) [hx]
      refine wcall_flat (by simpa using f_ref21_Dangerous x hfx.2) rfl fun _ => ?_
      simp (disch := omega) [hx]
      refine wcall_flat (hrec x (List.mem_of_getElem? hx) hfk) rfl fun _ => ?_
      simp (disch := omega) []
      cases hd1 : dang21 x <;> cases hd2 : anyNs dang21 x.kids
      all_goals
        simp (disch := omega) []
        have hi := hi.out
        simp only [hd1, hd2, Bool.or_true, Bool.true_or, Bool.or_false, Bool.false_or] at hi
        first
          | (exact hN.out _ <| Nx.mk (k + 1) (by simp) ⟨by omega, hi⟩ (by omega))
          | (simp [← hi]; done)
  have all : ∀ l : List Node, ∀ n ∈ l, allNs fineN n.kids → Fn Tryz.prog n_ref21_Any [.seq 5 (n.kids.map Node.v)] (.bool (anyNs dang21 n.kids)) := by
    refine nodes_ind (fun x hx => by cases hx) ?_
    intro n l h1 h2 x hx
    rcases List.mem_cons.1 hx with rfl | hx
    · exact key _ h1
    · exact h2 x hx
  exact fun l => key l (all l)
end Go.Abs
