/-
  What strainerref03's Good answers: nodes that may be. No condition.
-/
import Derived.Test.YtjhcljlogdcbbaaGreatF12
set_option linter.unusedVariables false
set_option linter.unusedSimpArgs false
set_option maxHeartbeats 4000000
set_option maxRecDepth 100000
namespace Go.Abs
open Go.Proofs
attribute [-simp] getElem?_pos Option.not_isSome List.map_map
def kindG (k : Int) : Int := if k < 1 ∨ 3 < k then 1 else k
def goodA : List Attr → List Attr → List Attr
  | acc, [] => acc
  | acc, a :: l => goodA (if (valueL acc (attribute3 a.name)).isSome then acc else acc ++ [⟨attribute3 a.name, rightS a.value⟩]) l
mutual
def goodN : Node → Node
  | ⟨k, nm, a, t, ks⟩ => if kindG k = 1 then ⟨1, word nm, goodA [] a, [], merge (goodNs ks)⟩ else ⟨kindG k, [], [], rightS t, []⟩
def goodNs : List Node → List Node
  | [] => []
  | n :: l => goodN n :: goodNs l
end
theorem goodNs_map : ∀ l : List Node, goodNs l = l.map goodN
  | [] => by simp [goodNs]
  | n :: l => by simp [goodNs, goodNs_map l]
theorem goodN_eq (n : Node) : goodN n = if kindG n.kind = 1 then ⟨1, word n.name, goodA [] n.attrs, [], merge (n.kids.map goodN)⟩ else ⟨kindG n.kind, [], [], rightS n.text, []⟩ := by
  cases n; simp [goodN, goodNs_map]
def fine3 (n : Node) : Prop := n.name.length ≤ 1000 ∧ n.text.length ≤ 1000 ∧ n.attrs.length ≤ 1000 ∧ ∀ a ∈ n.attrs, a.name.length ≤ 1000 ∧ a.value.length ≤ 1000
theorem rightS_len (s : Str) : (rightS s).length ≤ 4 * s.length := by
  have h1 := textR_len (fixR none (runes s))
  have h2 := fixR_len (runes s) none
  have h3 := runes_len s.length s (Nat.le_refl _)
  unfold rightS
  omega
theorem goodN_text (n : Node) (h : fine3 n) : (goodN n).text.length ≤ 4000 := by
  rw [goodN_eq]
  split
  · simp
  · have := rightS_len n.text; have := h.2.1; simp only; omega
theorem f_ref03_good : ∀ (l : List Node), allNs fine3 l → cntNs l ≤ 1000 → Fn Tryz.prog n_ref03_good [.seq 5 (l.map Node.v)] (.seq 5 ((merge (l.map goodN)).map Node.v)) := by
  have key : ∀ l : List Node, (∀ n ∈ l, allNs fine3 n.kids → cntNs n.kids ≤ 1000 → Fn Tryz.prog n_ref03_good [.seq 5 (n.kids.map Node.v)] (.seq 5 ((merge (n.kids.map goodN)).map Node.v))) →
      allNs fine3 l → cntNs l ≤ 1000 → Fn Tryz.prog n_ref03_good [.seq 5 (l.map Node.v)] (.seq 5 ((merge (l.map goodN)).map Node.v)) := by
    intro l hrec hfi hc
    refine Fn.of_image mixed h_ref03_good i_ref03_good rfl fun ho => ?_
    unfold c_ref03_good
    simp only [oks, ok, and_true] at ho
    clear ho
    have hlen := cnt_len l
    simp (disch := omega) []
    refine W_loop (fun (k : Nat) => ⟨[(0, .seq 5 (l.map Node.v)), (3, .ref 0 k), (4, .int .i64 k)], [some (.arr ty_api_Node 5 (((l.take k).map goodN).map Node.v))]⟩)
      (fun k => k ≤ l.length) (fun k => l.length - k) [.r 3 ty_api_Node 5] _ 0 rfl (by simp) (by simp) ?_
    rintro k hk N hN
    have hkl : (l.take k).length = k := by rw [List.length_take]; omega
    rcases place l k hk with ⟨he, hd⟩ | ⟨hlt, x, hx, hd⟩
    · have htk : l.take k = l := List.take_of_length_le (by omega)
      rw [htk]
      simp (disch := omega) [he]
      refine wcall_kill (f_ref03_Merge (l.map goodN) (by simp; omega) (fun n hn => ?_)) fun _ => ?_
      · obtain ⟨y, hy, rfl⟩ := List.mem_map.1 hn
        have := goodN_text y (allNs_mem hfi hy).1
        omega
      · simp (disch := omega) []
    · have hxm := List.mem_of_getElem? hx
      obtain ⟨hfx, hfk⟩ := allNs_mem hfi hxm
      obtain ⟨hx1, hx2, hx3, hx4⟩ := hfx
      have hcx := cnt_mem hxm
      have fin : ∀ τ : St, τ.nrm [0, 3, 4] = ⟨[(0, .seq 5 (l.map Node.v)), (3, .ref 0 (k + 1)), (4, .int .i64 ((k + 1 : Nat) : Int))], [some (.arr ty_api_Node 5 (((l.take k).map goodN).map Node.v ++ [(goodN x).v]))]⟩ → N τ := by
        intro τ h
        refine hN.out _ <| Nx.mk (k + 1) ?_ (by omega) (by omega)
        rw [h, take_snoc hx]
        simp
      have hkind : x.kind < 1 ∨ 3 < x.kind ∨ x.kind = 1 ∨ x.kind = 2 ∨ x.kind = 3 := by omega
      rcases hkind with h | h | h | h | h
      case inr.inr.inr.inr.inl | inr.inr.inr.inr.inr =>
        have hg : goodN x = ⟨x.kind, [], [], rightS x.text, []⟩ := by
          rw [goodN_eq, h]; simp [kindG]
        simp (disch := omega) [hx, h, hkl]
        refine wcall_flat (by simpa using f_ref01_Right x.text (by omega)) rfl fun _ => ?_
        simp (disch := omega) [hkl]
        refine fin _ ?_
        rw [hg, h]
        simp
      all_goals
        have hg : goodN x = ⟨1, word x.name, goodA [] x.attrs, [], merge (x.kids.map goodN)⟩ := by
          rw [goodN_eq, if_pos]
          unfold kindG
          split <;> omega
        simp (disch := omega) [hx, h, hkl]
        refine wcall_flat (f_ref03_word x.name (by omega)) rfl fun _ => ?_
        simp (disch := omega) [hkl]
        generalize hga : goodA [] x.attrs = GA at hg
        refine W_loop (fun (q : Nat × List Attr) => ⟨[(0, .seq 5 (l.map Node.v)), (3, .ref 0 k), (4, .int .i64 k), (5, .ptr 1 0), (6, .int .i64 q.1)],
            [some (.arr ty_api_Node 5 (((l.take k).map goodN).map Node.v)), some (.box [.int .i64 1, .str (word x.name), .ref 2 q.2.length, .str [], .nil 5]), some (.arr ty_api_Attr 2 (q.2.map Attr.v))]⟩)
          (fun q => q.1 ≤ x.attrs.length ∧ q.2.length ≤ q.1 ∧ goodA q.2 (x.attrs.drop q.1) = GA) (fun q => x.attrs.length - q.1) [.b 1 2 ty_api_Attr 2] _ (0, []) rfl (by simp) (by simp [hga]) ?_
        rintro ⟨j, acc⟩ ⟨hj, hal, hi⟩ N2 hN2
        simp only at hj hal hi
        rcases place x.attrs j hj with ⟨he2, hd2⟩ | ⟨hlt2, y, hy, hd2⟩ <;> rw [hd2] at hi
        · simp only [goodA] at hi
          subst hi
          simp (disch := omega) [hx, he2]
          refine wcall_pure (hrec x hxm hfk (by omega)) (by simp) fun _ => ?_
          simp (disch := omega) [hkl]
          refine fin _ ?_
          rw [hg]
          simp
        · obtain ⟨hy1, hy2⟩ := hx4 y (List.mem_of_getElem? hy)
          simp only [goodA] at hi
          replace hi := hid hi
          simp (disch := omega) [hx, hy]
          refine wcallD_flat (f_ref03_attribute y.name (by omega)) rfl ?_
          simp (disch := omega) [hx, hy]
          refine wcallD_flat (by simpa using f_ref01_Right y.value (by omega)) rfl ?_
          simp (disch := omega) [hx, hy]
          refine wcall_flat (by simpa using f_ref03_Value ⟨1, word x.name, acc, [], []⟩ (attribute3 y.name)) rfl fun _ => ?_
          simp (disch := omega) [hx, hy]
          refine BrK.mk (fun hb => ?_) (fun hb => ?_)
          · simp (disch := omega) []
            have hi := hi.out
            rw [if_pos hb] at hi
            refine hN2.out _ <| Nx.mk (j + 1, acc) (by simp) ⟨by simp only; omega, by simp only; omega, hi⟩ (by simp only; omega)
          · simp (disch := omega) [hkl]
            have hi := hi.out
            rw [if_neg (by simp [hb])] at hi
            refine hN2.out _ <| Nx.mk (j + 1, acc ++ [⟨attribute3 y.name, rightS y.value⟩]) (by simp) ⟨by simp only; omega, by simp; omega, hi⟩ (by simp only; omega)
  have all : ∀ l : List Node, ∀ n ∈ l, allNs fine3 n.kids → cntNs n.kids ≤ 1000 → Fn Tryz.prog n_ref03_good [.seq 5 (n.kids.map Node.v)] (.seq 5 ((merge (n.kids.map goodN)).map Node.v)) := by
    refine nodes_ind (fun x hx => by cases hx) ?_
    intro n l h1 h2 x hx
    rcases List.mem_cons.1 hx with rfl | hx
    · exact key _ h1
    · exact h2 x hx
  exact fun l => key l (all l)
theorem cutL_fine : ∀ (l : List Node) (m : Nat), allNs fine3 (cutL l m).1 := by
  refine nodes_ind (fun m => by simp [cutL, allNs]) ?_
  intro n l h1 h2 m
  simp only [cutL, cutK_eq]
  split
  · simp [allNs]
  · simp only [allNs, allN]
    refine ⟨⟨⟨by simp [fewS]; omega, by simp [fewS]; omega, by simp; omega, fun a ha => ?_⟩, h1 _⟩, h2 _⟩
    simp only [List.mem_map] at ha
    obtain ⟨b, _, rfl⟩ := ha
    simp [fewA, fewS]; omega
def good03 (l : List Node) : List Node := merge ((cutL l 40).1.map goodN)
theorem f_ref03_Good (l : List Node) : Fn Tryz.prog n_ref03_Good [.seq 5 (l.map Node.v)] (.seq 5 ((good03 l).map Node.v)) := by
  refine Fn.of_image mixed h_ref03_Good i_ref03_Good rfl fun ho => ?_
  unfold c_ref03_Good
  simp only [oks, ok, and_true] at ho
  clear ho
  simp (disch := omega) []
  refine wcall_pure (f_ref03_Few l) (by simp) fun _ => ?_
  simp (disch := omega) []
  refine wcall_pure (f_ref03_good (cutL l 40).1 (cutL_fine l 40) (by have := cutL_cnt l 40; omega)) (by simp) fun _ => ?_
  simp (disch := omega) [good03]
end Go.Abs
