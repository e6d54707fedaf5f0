/-
  What strainerref03's May, strainerref06's Stable and strainerref15's Nodes answer. No condition.
-/
import Derived.Test.YtjhcljlogdcbbaaGreatF15
set_option linter.unusedVariables false
set_option linter.unusedSimpArgs false
set_option maxHeartbeats 4000000
set_option maxRecDepth 100000
namespace Go.Abs
open Go.Proofs
attribute [-simp] getElem?_pos Option.not_isSome List.map_map
def right (s : Str) : Bool := decide (rightS s = s)
def hasN : List Attr → Str → Bool
  | [], _ => false
  | a :: l, s => if a.name = s then true else hasN l s
def dupA : List Attr → List Attr → Int
  | _, [] => 0
  | pre, a :: l => if attributed a.name then (if hasN pre a.name then 5 else dupA (pre ++ [a]) l) else 4
def rightsA : List Attr → Bool
  | [] => true
  | a :: l => right a.value && rightsA l
def elementE (n : Node) : Int :=
  if n.text = [] then (if named n.name then (if dupA [] n.attrs = 0 then (if rightsA n.attrs then 0 else 2) else dupA [] n.attrs) else 4) else 7
theorem dupA_cases : ∀ (l pre : List Attr), dupA pre l = 0 ∨ dupA pre l = 4 ∨ dupA pre l = 5
  | [], pre => by simp [dupA]
  | a :: l, pre => by
    simp only [dupA]
    split
    · split
      · simp
      · exact dupA_cases l _
    · simp
def fine1 (n : Node) : Prop := n.name.length ≤ 1000000 ∧ n.text.length ≤ 1000000 ∧ n.attrs.length ≤ 1000000 ∧ ∀ a ∈ n.attrs, a.name.length ≤ 1000000 ∧ a.value.length ≤ 1000000
theorem f_ref03_element (n : Node) (hf : fine1 n) : Fn Tryz.prog n_ref03_element [n.v] (.int .i64 (elementE n)) := by
  refine Fn.of_image mixed h_ref03_element i_ref03_element rfl fun ho => ?_
  unfold c_ref03_element
  simp only [oks, ok, and_true] at ho
  clear ho
  obtain ⟨h1, h2, h3, h4⟩ := hf
  simp (disch := omega) [elementE]
  refine wcall_flat (f_ref03_Named _) rfl fun _ => ?_
  simp (disch := omega) []
  refine BrKd.mk (fun ht => ?_) (fun ht => ?_)
  · simp (disch := omega) [ht]
    refine BrK.mk (fun hn => ?_) (fun hn => ?_)
    · simp (disch := omega) [hn]
      generalize hD : dupA [] n.attrs = D
      have hDc := dupA_cases n.attrs []
      rw [hD] at hDc
      refine W_loop (fun (k : Nat) => ⟨[(1, .ptr 0 0), (4, .int .i64 k)], [some (.box [.int .i64 n.kind, .str n.name, .seq 2 (n.attrs.map Attr.v), .str [], .seq 5 (n.kids.map Node.v)])]⟩)
        (fun k => k ≤ n.attrs.length ∧ dupA (n.attrs.take k) (n.attrs.drop k) = D) (fun k => n.attrs.length - k) [] _ 0 rfl (by simp) (by simp [hD]) ?_
      rintro k ⟨hk, hi⟩ N hN
      rcases place n.attrs k hk with ⟨he, hd⟩ | ⟨hlt, x, hx, hd⟩ <;> rw [hd] at hi
      · simp only [dupA] at hi
        subst hi
        simp (disch := omega) [he]
        generalize hV : rightsA n.attrs = R
        refine W_loop (fun (k : Nat) => ⟨[(1, .ptr 0 0), (7, .int .i64 k)], [some (.box [.int .i64 n.kind, .str n.name, .seq 2 (n.attrs.map Attr.v), .str [], .seq 5 (n.kids.map Node.v)])]⟩)
          (fun k => k ≤ n.attrs.length ∧ rightsA (n.attrs.drop k) = R) (fun k => n.attrs.length - k) [] _ 0 rfl (by simp) (by simp [hV]) ?_
        rintro k ⟨hk, hi⟩ N hN
        rcases place n.attrs k hk with ⟨he, hd⟩ | ⟨hlt, x, hx, hd⟩ <;> rw [hd] at hi
        · simp only [rightsA] at hi
          subst hi
          simp (disch := omega) [he, hV]
        · obtain ⟨g1, g2⟩ := h4 x (List.mem_of_getElem? hx)
          simp only [rightsA] at hi
          replace hi := hid hi
          simp (disch := omega) [hx]
          refine wcall_flat (f_ref01_Is x.value g2) rfl fun _ => ?_
          simp (disch := omega) []
          refine BrKd.mk (fun h => ?_) (fun h => ?_)
          · simp (disch := omega) [h]
            have hi := hi.out
            refine hN.out _ <| Nx.mk (k + 1) (by simp) ⟨by omega, ?_⟩ (by omega)
            simpa [right, h] using hi
          · simp (disch := omega) [h]
            have hi := hi.out
            simp [right, h] at hi
            simp [hi]
      · obtain ⟨g1, g2⟩ := h4 x (List.mem_of_getElem? hx)
        simp only [dupA] at hi
        replace hi := hid hi
        simp (disch := omega) [hx]
        refine wcall_flat (f_ref03_Attributed x.name g1) rfl fun _ => ?_
        simp (disch := omega) []
        refine BrK.mk (fun h => ?_) (fun h => ?_)
        · have hi := hi.out
          rw [if_pos h] at hi
          replace hi := hid hi
          simp (disch := omega) [h]
          refine W_loop (fun (j : Nat) => ⟨[(1, .ptr 0 0), (4, .int .i64 k), (6, .int .i64 j)], [some (.box [.int .i64 n.kind, .str n.name, .seq 2 (n.attrs.map Attr.v), .str [], .seq 5 (n.kids.map Node.v)])]⟩)
            (fun j => j ≤ k ∧ hasN (n.attrs.take k) x.name = hasN ((n.attrs.take k).drop j) x.name) (fun j => k - j) [] _ 0 rfl (by simp) (by simp) ?_
          rintro j ⟨hj, hi2⟩ N2 hN2
          by_cases hlt2 : j < k
          · obtain ⟨y, hy⟩ := get_lt (l := n.attrs) (k := j) (by omega)
            rw [take_drop hy hlt2, hasN] at hi2
            replace hi2 := hid hi2
            simp (disch := omega) [hx, hy]
            refine BrKd.mk (fun h => ?_) (fun h => ?_)
            · simp (disch := omega) [h]
              have hi := hi.out
              have hi2 := hi2.out
              rw [if_pos h] at hi2
              rw [if_pos hi2] at hi
              subst hi
              simp
            · simp (disch := omega) [h]
              have hi2 := hi2.out
              rw [if_neg h] at hi2
              exact hN2.out _ <| Nx.mk (j + 1) (by simp) ⟨by omega, hi2⟩ (by omega)
          · have e : (n.attrs.take k).drop j = [] := by simp; omega
            rw [e, hasN] at hi2
            have hi := hi.out
            rw [if_neg (by simp [hi2])] at hi
            replace hi := hid hi
            simp (disch := omega) []
            refine hN.out _ <| Nx.mk (k + 1) (by simp) ⟨by omega, ?_⟩ (by omega)
            rw [take_snoc hx]
            exact hi.out
        · have hi := hi.out
          rw [if_neg (by simp [h])] at hi
          subst hi
          simp (disch := omega) [h]
    · simp (disch := omega) [hn]
  · simp (disch := omega) [ht]
def oneE (n : Node) (txt : Bool) : Int :=
  if n.kind = 1 then elementE n
  else if n.kind = 2 ∨ n.kind = 3 then (if n.name = [] ∧ n.attrs = [] ∧ n.kids = [] then (if right n.text ∧ (n.kind = 2 → ¬n.text = [] ∧ txt = false) then 0 else 2) else 7)
  else 7
theorem f_ref03_one (n : Node) (txt : Bool) (hf : fine1 n) : Fn Tryz.prog n_ref03_one [n.v, .bool txt] (.int .i64 (oneE n txt)) := by
  refine Fn.of_image mixed h_ref03_one i_ref03_one rfl fun ho => ?_
  unfold c_ref03_one
  simp only [oks, ok, and_true] at ho
  clear ho
  have hla : 0 < n.attrs.length ↔ ¬n.attrs = [] := by rw [List.length_pos_iff]
  have hlk : 0 < n.kids.length ↔ ¬n.kids = [] := by rw [List.length_pos_iff]
  have hf2 := hf.2.1
  simp (disch := omega) [oneE]
  repeat' (first
    | (refine BrKd.mk (fun h => ?_) (fun h => ?_) <;> simp (disch := omega) [hla, hlk, *])
    | (refine BrK.mk (fun h => ?_) (fun h => ?_) <;> simp (disch := omega) [hla, hlk, *])
    | (refine wcall_flat (by simpa [*] using f_ref03_element n hf) rfl (fun _ => ?_) <;> simp (disch := omega) [hla, hlk, *])
    | (refine wcall_flat (f_ref01_Is n.text hf2) rfl (fun _ => ?_) <;> simp (disch := omega) [hla, hlk, right, *]))
mutual
def mayK : Node → Int
  | ⟨_, _, _, _, ks⟩ => mayL false ks
def mayL : Bool → List Node → Int
  | _, [] => 0
  | txt, n :: l => if oneE n txt = 0 then (if mayK n = 0 then mayL (decide (n.kind = 2)) l else mayK n) else oneE n txt
end
theorem mayK_eq (n : Node) : mayK n = mayL false n.kids := by cases n; simp [mayK]
def may (l : List Node) : Int := mayL false l
def prevT (l : List Node) (k : Nat) : Bool := decide (0 < k) && (match l[k - 1]? with
  | some n => decide (n.kind = 2)
  | none => false)
theorem f_ref03_May : ∀ (l : List Node), allNs fine1 l → Fn Tryz.prog n_ref03_May [.seq 5 (l.map Node.v)] (.int .i64 (may l)) := by
  have key : ∀ l : List Node, (∀ n ∈ l, allNs fine1 n.kids → Fn Tryz.prog n_ref03_May [.seq 5 (n.kids.map Node.v)] (.int .i64 (may n.kids))) → allNs fine1 l → Fn Tryz.prog n_ref03_May [.seq 5 (l.map Node.v)] (.int .i64 (may l)) := by
    intro l hrec hfi
    refine Fn.of_image mixed h_ref03_May i_ref03_May rfl fun ho => ?_
    unfold c_ref03_May
    simp only [oks, ok, and_true] at ho
    have hlen : l.length ≤ 140737488355328 := by have := ho.1; simpa using this
    clear ho
    simp (disch := omega) []
    generalize hr : may l = r
    refine W_loop (fun k : Nat => ⟨[(0, .seq 5 (l.map Node.v)), (3, .int .i64 k)], []⟩) (fun k => k ≤ l.length ∧ mayL (prevT l k) (l.drop k) = r) (fun k => l.length - k) [] _ 0 rfl (by simp [*]) (by simp [*, ← hr, may, prevT]) ?_
    rintro k ⟨hk, hi⟩ N hN
    rcases place l k hk with ⟨he, hd⟩ | ⟨hlt, x, hx, hd⟩ <;> rw [hd] at hi <;> replace hi := hid hi
    · simp only [mayL] at hi
      have hi := hi.out
      subst hi
      simp (disch := omega) [he]
    · have hxm := List.mem_of_getElem? hx
      obtain ⟨hfx, hfk⟩ := allNs_mem hfi hxm
      have hp1 : prevT l (k + 1) = decide (x.kind = 2) := by simp [prevT, hx]
      simp only [mayL, mayK_eq] at hi
      rw [← hp1] at hi
      change Hid ((if oneE x (prevT l k) = 0 then if may x.kids = 0 then mayL (prevT l (k + 1)) (l.drop (k + 1)) else may x.kids else oneE x (prevT l k)) = r) at hi
      have e1 : oneE x (prevT l k) ≠ 0 → r = oneE x (prevT l k) := fun h => by have hi := hi.out; rw [if_neg h] at hi; exact hi.symm
      have e2 : oneE x (prevT l k) = 0 → may x.kids ≠ 0 → r = may x.kids := fun h h' => by have hi := hi.out; rw [if_pos h] at hi; rw [if_neg h'] at hi; exact hi.symm
      have e3 : oneE x (prevT l k) = 0 → may x.kids = 0 → mayL (prevT l (k + 1)) (l.drop (k + 1)) = r := fun h h' => by have hi := hi.out; rw [if_pos h] at hi; rw [if_pos h'] at hi; exact hi
      replace e1 := hid e1
      replace e2 := hid e2
      replace e3 := hid e3
      clear hi
      have hone : ∀ b : Bool, b = prevT l k → Fn Tryz.prog n_ref03_one [x.v, .bool b] (.int .i64 (oneE x (prevT l k))) := fun b hb => by rw [hb]; exact f_ref03_one x (prevT l k) hfx
      have rest : ∀ K : St → Prop, (∀ τ : St, τ.nrm [0, 3] = ⟨[(0, .seq 5 (l.map Node.v)), (3, .int .i64 ((k + 1 : Nat) : Int))], []⟩ → oneE x (prevT l k) = 0 → may x.kids = 0 → N τ) := by
        intro K τ h h1 h2
        exact hN.out _ <| Nx.mk (k + 1) h ⟨by omega, e3.out h1 h2⟩ (by omega)
      replace rest := rest (fun _ => True)
      rcases Nat.eq_zero_or_pos k with hk0 | hk0
      · subst hk0
        have hp0 : prevT l 0 = false := by simp [prevT]
        simp (disch := omega) [hx]
        refine wcallD_flat (by simpa using hone false hp0.symm) rfl ?_
        simp (disch := omega) [hx]
        refine BrKd.mk (fun h => ?_) (fun h => ?_)
        · simp (disch := omega) [h, hx]
          refine wcall_flat (hrec x hxm hfk) rfl fun _ => ?_
          simp (disch := omega) [hx]
          refine BrKd.mk (fun h2 => ?_) (fun h2 => ?_)
          · simp (disch := omega) [h2]
            exact rest _ (by simp) h h2
          · simp (disch := omega) [h2]
            exact (e2.out h h2).symm
        · simp (disch := omega) [h]
          exact (e1.out h).symm
      · obtain ⟨y, hy⟩ := get_lt (l := l) (k := k - 1) (by omega)
        have hkt : ((k : Int) - 1).toNat = k - 1 := by omega
        have hpk : prevT l k = decide (y.kind = 2) := by simp [prevT, hy, hk0]
        simp (disch := omega) [hx, hy, hkt]
        refine wcallD_flat (by simpa using hone (decide (y.kind = 2)) hpk.symm) rfl ?_
        simp (disch := omega) [hx]
        refine BrKd.mk (fun h => ?_) (fun h => ?_)
        · simp (disch := omega) [h, hx]
          refine wcall_flat (hrec x hxm hfk) rfl fun _ => ?_
          simp (disch := omega) [hx]
          refine BrKd.mk (fun h2 => ?_) (fun h2 => ?_)
          · simp (disch := omega) [h2]
            exact rest _ (by simp) h h2
          · simp (disch := omega) [h2]
            exact (e2.out h h2).symm
        · simp (disch := omega) [h]
          exact (e1.out h).symm
  have all : ∀ l : List Node, ∀ n ∈ l, allNs fine1 n.kids → Fn Tryz.prog n_ref03_May [.seq 5 (n.kids.map Node.v)] (.int .i64 (may n.kids)) := by
    refine nodes_ind (fun x hx => by cases hx) ?_
    intro n l h1 h2 x hx
    rcases List.mem_cons.1 hx with rfl | hx
    · exact key _ h1
    · exact h2 x hx
  exact fun l => key l (all l)
mutual
def allK : Node → Bool
  | ⟨_, _, _, _, ks⟩ => allL ks
def allL : List Node → Bool
  | [] => true
  | n :: l => (!(decide (n.kind = 3) && hasW arrow n.text) && (n.kids.all (fits6 n.name) && allK n)) && allL l
end
theorem allK_eq (n : Node) : allK n = allL n.kids := by cases n; simp [allK]
theorem f_ref06_all : ∀ (l : List Node), allNs fine1 l → Fn Tryz.prog n_ref06_all [.seq 5 (l.map Node.v)] (.bool (allL l)) := by
  have key : ∀ l : List Node, (∀ n ∈ l, allNs fine1 n.kids → Fn Tryz.prog n_ref06_all [.seq 5 (n.kids.map Node.v)] (.bool (allL n.kids))) → allNs fine1 l → Fn Tryz.prog n_ref06_all [.seq 5 (l.map Node.v)] (.bool (allL l)) := by
    intro l hrec hfi
    refine Fn.of_image mixed h_ref06_all i_ref06_all rfl fun ho => ?_
    unfold c_ref06_all
    simp only [oks, ok, and_true] at ho
    have hlen : l.length ≤ 140737488355328 := by have := ho.1; simpa using this
    have hlenk : ∀ x ∈ l, x.kids.length ≤ 140737488355328 := fun x hx => by
      have h := (oks_all.1 ho.2) _ (List.mem_map_of_mem hx)
      simp at h
      exact h.2.2.2.2.1
    clear ho
    simp (disch := omega) []
    generalize hr : allL l = r
    refine W_loop (fun k : Nat => ⟨[(0, .seq 5 (l.map Node.v)), (3, .int .i64 k)], []⟩) (fun k => k ≤ l.length ∧ allL (l.drop k) = r) (fun k => l.length - k) [] _ 0 rfl (by simp [*]) (by simp [*]) ?_
    rintro k ⟨hk, hi⟩ N hN
    rcases place l k hk with ⟨he, hd⟩ | ⟨hlt, x, hx, hd⟩ <;> rw [hd] at hi <;> replace hi := hid hi
    · have hi := hi.out
      simp only [allL] at hi
      subst hi
      simp (disch := omega) [he]
    · have hxm := List.mem_of_getElem? hx
      obtain ⟨hfx, hfk⟩ := allNs_mem hfi hxm
      have hxk := hlenk x hxm
      simp only [allL, allK_eq] at hi
      have bad : (!(decide (x.kind = 3) && hasW arrow x.text) && (x.kids.all (fits6 x.name) && allL x.kids)) = false → r = false := fun h => by have hi := hi.out; rw [h] at hi; simpa using hi.symm
      have good : (!(decide (x.kind = 3) && hasW arrow x.text) && (x.kids.all (fits6 x.name) && allL x.kids)) = true → allL (l.drop (k + 1)) = r := fun h => by have hi := hi.out; rw [h] at hi; simpa using hi
      replace bad := hid bad
      replace good := hid good
      clear hi
      have hax : 0 < arrow.length := by simp [arrow]
      have hal : arrow.length ≤ 1000000000 := by simp [arrow]
      have hxt := hfx.2.1
      simp (disch := omega) [hx]
      generalize hA : x.kids.all (fits6 x.name) = A at bad good
      repeat' (first
        | (refine BrKd.mk (fun h => ?_) (fun h => ?_) <;> simp (disch := omega) [hx, *])
        | (refine BrK.mk (fun h => ?_) (fun h => ?_) <;> simp (disch := omega) [hx, *])
        | (refine wcall_flat (f_ref06_has x.text arrow hax (by omega) hal) rfl (fun _ => ?_) <;> simp (disch := omega) [hx, *]))
      all_goals
        first
        | (rw [bad.out (by simp [*])]; done)
        | (refine (bad.out (by simp [*])); done)
        | (refine (bad.out (by simp [*])).symm; done)
        | skip
      all_goals
        refine W_loop (fun (j : Nat) => ⟨[(0, .seq 5 (l.map Node.v)), (3, .int .i64 k), (4, .int .i64 j)], []⟩)
          (fun j => j ≤ x.kids.length ∧ ((x.kids.drop j).all (fits6 x.name)) = A) (fun j => x.kids.length - j) [] _ 0 rfl (by simp) (by simp [hA]) ?_
        rintro j ⟨hj, hi⟩ N2 hN2
        rcases place x.kids j hj with ⟨he2, hd2⟩ | ⟨hlt2, y, hy, hd2⟩ <;> rw [hd2] at hi
        · simp only [List.all_nil] at hi
          subst hi
          simp (disch := omega) [hx, he2]
          refine wcall_flat (hrec x hxm hfk) rfl fun _ => ?_
          simp (disch := omega) []
          refine BrK.mk (fun h2 => ?_) (fun h2 => ?_)
          · simp (disch := omega) []
            refine hN.out _ <| Nx.mk (k + 1) (by simp) ⟨by omega, good.out (by simp [*])⟩ (by omega)
          · simp (disch := omega) []
            have hb := bad.out (by simp [*])
            simp [hb]
        · obtain ⟨hfy, _⟩ := allNs_mem hfk (List.mem_of_getElem? hy)
          simp only [List.all_cons] at hi
          have ht2 : y.text.length ≤ 100000000 := by have := hfy.2.1; omega
          replace hi := hid hi
          simp (disch := omega) [hx, hy]
          refine wcallD_flat (by simpa using f_ref06_Fits x.name y hfx.1 ht2) rfl ?_
          simp (disch := omega) []
          refine BrK.mk (fun h2 => ?_) (fun h2 => ?_)
          · simp (disch := omega) []
            have hi := hi.out
            rw [h2] at hi
            refine hN2.out _ <| Nx.mk (j + 1) (by simp) ⟨by omega, by simpa using hi⟩ (by omega)
          · simp (disch := omega) []
            have hi := hi.out
            rw [h2] at hi
            simp only [Bool.false_and] at hi
            subst hi
            have hb := bad.out (by simp)
            simp [hb]
  have all : ∀ l : List Node, ∀ n ∈ l, allNs fine1 n.kids → Fn Tryz.prog n_ref06_all [.seq 5 (n.kids.map Node.v)] (.bool (allL n.kids)) := by
    refine nodes_ind (fun x hx => by cases hx) ?_
    intro n l h1 h2 x hx
    rcases List.mem_cons.1 hx with rfl | hx
    · exact key _ h1
    · exact h2 x hx
  exact fun l => key l (all l)
def stable (l : List Node) : Bool := decide (may l = 0) && allL l
theorem f_ref06_Stable (l : List Node) (hf : allNs fine1 l) : Fn Tryz.prog n_ref06_Stable [.seq 5 (l.map Node.v)] (.bool (stable l)) := by
  refine Fn.of_image mixed h_ref06_Stable i_ref06_Stable rfl fun ho => ?_
  unfold c_ref06_Stable
  simp only [oks, ok, and_true] at ho
  clear ho
  simp (disch := omega) [stable]
  refine wcall_flat (f_ref03_May l hf) rfl fun _ => ?_
  simp (disch := omega) []
  refine BrKd.mk (fun h => ?_) (fun h => ?_)
  · simp (disch := omega) [h]
    refine wcall_flat (f_ref06_all l hf) rfl fun _ => ?_
    simp (disch := omega) [h]
  · simp (disch := omega) [h]
def odd15 (A : Constraint → Str → Bool) (p : Policy) (l : List Node) : Int := (oddL A p [] l 0).1
theorem f_ref15_Odd (A : Constraint → Str → Bool) (p : Policy) (hA : AllowsOK A p) (l : List Node) (hf : allNs fineN l) (hc : cntNs l ≤ 1000000000) : Fn Tryz.prog n_ref15_Odd [p.v, .seq 5 (l.map Node.v)] (.int .i64 (odd15 A p l)) := by
  refine Fn.of_image mixed h_ref15_Odd i_ref15_Odd rfl fun ho => ?_
  unfold c_ref15_Odd
  simp only [oks, ok, and_true] at ho
  clear ho
  simp (disch := omega) [odd15]
  refine wcall_flat (by simpa using f_ref15_odd A p hA l [] hf hc) rfl fun _ => ?_
  simp (disch := omega) []
def nodes15 (A : Constraint → Str → Bool) (p : Policy) (l : List Node) : Bool := stable l && decide (odd15 A p l < 0)
theorem f_ref15_Nodes (A : Constraint → Str → Bool) (p : Policy) (hA : AllowsOK A p) (l : List Node) (hf : allNs fineN l) (hf1 : allNs fine1 l) (hc : cntNs l ≤ 1000000000) : Fn Tryz.prog n_ref15_Nodes [p.v, .seq 5 (l.map Node.v)] (.bool (nodes15 A p l)) := by
  refine Fn.of_image mixed h_ref15_Nodes i_ref15_Nodes rfl fun ho => ?_
  unfold c_ref15_Nodes
  simp only [oks, ok, and_true] at ho
  clear ho
  simp (disch := omega) [nodes15]
  refine wcall_flat (f_ref06_Stable l hf1) rfl fun _ => ?_
  simp (disch := omega) []
  refine BrK.mk (fun h => ?_) (fun h => ?_)
  · simp (disch := omega) [h]
    refine wcall_flat (by simpa using f_ref15_Odd A p hA l hf hc) rfl fun _ => ?_
    simp (disch := omega) [h]
  · simp (disch := omega) [h]
end Go.Abs
