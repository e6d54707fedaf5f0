/-
  Nodes; what guard.Any answers. No condition.
-/
import Derived.Test.YtjhcljlogdcbbaaGreatF6
set_option linter.unusedVariables false
set_option linter.unusedSimpArgs false
set_option maxHeartbeats 4000000
set_option maxRecDepth 100000
set_option linter.unusedSectionVars false
namespace Go.Abs
open Go.Proofs
attribute [-simp] getElem?_pos Option.not_isSome
structure Node where
  kind : Int
  name : Str
  attrs : List Attr
  text : Str
  kids : List Node
mutual
def Node.v : Node → V
  | ⟨k, n, a, t, ks⟩ => .strct [.int .i64 k, .str n, .seq 2 (a.map Attr.v), .str t, .seq 5 (Node.vs ks)]
def Node.vs : List Node → List V
  | [] => []
  | n :: l => n.v :: Node.vs l
end
theorem Node.vs_map : ∀ l : List Node, Node.vs l = l.map Node.v
  | [] => by simp [Node.vs]
  | n :: l => by simp [Node.vs, Node.vs_map l]
theorem Node.v_eq (n : Node) : n.v = .strct [.int .i64 n.kind, .str n.name, .seq 2 (n.attrs.map Attr.v), .str n.text, .seq 5 (n.kids.map Node.v)] := by
  cases n; simp [Node.v, Node.vs_map]
attribute [simp] Node.v_eq
section
variable {p : List Node → Prop} (h0 : p []) (h1 : ∀ n l, p n.kids → p l → p (n :: l))
include h0 h1
mutual
theorem nodes_ind : ∀ l, p l
  | [] => h0
  | n :: l => h1 n l (nodes_ind1 n) (nodes_ind l)
theorem nodes_ind1 : ∀ n : Node, p n.kids
  | ⟨_, _, _, _, ks⟩ => nodes_ind ks
end
end
mutual
/-- Is f of a node, or of one in it? -/
def anyN (f : Node → Bool) : Node → Bool
  | ⟨k, n, a, t, ks⟩ => f ⟨k, n, a, t, ks⟩ || anyNs f ks
def anyNs (f : Node → Bool) : List Node → Bool
  | [] => false
  | n :: l => anyN f n || anyNs f l
end
theorem anyN_eq (f : Node → Bool) (n : Node) : anyN f n = (f n || anyNs f n.kids) := by cases n; simp [anyN]
theorem anyNs_eq (f : Node → Bool) : ∀ l : List Node, anyNs f l = l.any (anyN f)
  | [] => by simp [anyNs]
  | n :: l => by simp [anyNs, anyNs_eq f l]
def dang (n : Node) : Bool := decide (n.kind = 1) && (namedD n.name || n.attrs.any harmful)
theorem f_slices_IndexFunc_Attr (l : List Attr) (F : FuncId) (f : Attr → Bool) (hF : ∀ x ∈ l, Fn Tryz.prog F [x.v] (.bool (f x))) : Fn Tryz.prog n_slices_IndexFuncIIapi_Attr_api_Attr [.seq 2 (l.map Attr.v), .fn (.func F) [] []] (.int .i64 (fdx f 0 l)) := by
  refine Fn.of_image mixed h_slices_IndexFuncIIapi_Attr_api_Attr i_slices_IndexFuncIIapi_Attr_api_Attr rfl fun ho => ?_
  unfold c_slices_IndexFuncIIapi_Attr_api_Attr
  simp only [oks, ok, and_true] at ho
  have hlen : l.length ≤ 140737488355328 := by have := ho.1; simpa using this
  clear ho
  simp (disch := omega) []
  generalize hr : fdx f 0 l = r
  refine W_loop (fun k : Nat => ⟨[(0, .seq 2 (l.map Attr.v)), (1, .fn (.func F) [] []), (7, .int .i64 l.length), (8, .int .i64 k)], []⟩) (fun k => k ≤ l.length ∧ fdx f k (l.drop k) = r) (fun k => l.length - k) [] _ 0 rfl (by simp [*]) (by simp [*]) ?_
  rintro k ⟨hk, hi⟩ N hN
  rcases place l k hk with ⟨he, hd⟩ | ⟨hlt, x, hx, hd⟩ <;> rw [hd] at hi <;> replace hi := hid hi
  · simp (disch := omega) [he]
    simpa [fdx] using hi.out
  · simp (disch := omega) [hx]
    refine wcall_flat (by simpa using hF x (List.mem_of_getElem? hx)) rfl fun _ => ?_
    simp (disch := omega) [hx]
    refine BrK.mk (fun h => ?_) (fun h => ?_)
    · simp (disch := omega) []
      have hi := hi.out
      simpa [fdx, h] using hi
    · simp (disch := omega) []
      refine hN.out _ <| Nx.mk (k + 1) (by simp [*]) ⟨by omega, ?_⟩ (by omega)
      have hi := hi.out
      simpa [fdx, h] using hi
theorem f_slices_ContainsFunc_Attr (l : List Attr) (F : FuncId) (f : Attr → Bool) (hF : ∀ x ∈ l, Fn Tryz.prog F [x.v] (.bool (f x))) : Fn Tryz.prog n_slices_ContainsFuncIIapi_Attr_api_Attr [.seq 2 (l.map Attr.v), .fn (.func F) [] []] (.bool (l.any f)) := by
  refine Fn.of_image mixed h_slices_ContainsFuncIIapi_Attr_api_Attr i_slices_ContainsFuncIIapi_Attr_api_Attr rfl fun ho => ?_
  unfold c_slices_ContainsFuncIIapi_Attr_api_Attr
  simp only [oks, ok, and_true] at ho
  simp (disch := omega) []
  refine wcall_flat (f_slices_IndexFunc_Attr l F f hF) rfl fun _ => ?_
  simp (disch := omega) []
  rw [fdx_any]
theorem f_slices_IndexFunc_Node (l : List Node) (F : FuncId) (f : Node → Bool) (hF : ∀ x ∈ l, Fn Tryz.prog F [x.v] (.bool (f x))) : Fn Tryz.prog n_slices_IndexFuncIIapi_Node_api_Node [.seq 5 (l.map Node.v), .fn (.func F) [] []] (.int .i64 (fdx f 0 l)) := by
  refine Fn.of_image mixed h_slices_IndexFuncIIapi_Node_api_Node i_slices_IndexFuncIIapi_Node_api_Node rfl fun ho => ?_
  unfold c_slices_IndexFuncIIapi_Node_api_Node
  simp only [oks, ok, and_true] at ho
  have hlen : l.length ≤ 140737488355328 := by have := ho.1; simpa using this
  clear ho
  simp (disch := omega) []
  generalize hr : fdx f 0 l = r
  refine W_loop (fun k : Nat => ⟨[(0, .seq 5 (l.map Node.v)), (1, .fn (.func F) [] []), (7, .int .i64 l.length), (8, .int .i64 k)], []⟩) (fun k => k ≤ l.length ∧ fdx f k (l.drop k) = r) (fun k => l.length - k) [] _ 0 rfl (by simp [*]) (by simp [*]) ?_
  rintro k ⟨hk, hi⟩ N hN
  rcases place l k hk with ⟨he, hd⟩ | ⟨hlt, x, hx, hd⟩ <;> rw [hd] at hi <;> replace hi := hid hi
  · simp (disch := omega) [he]
    simpa [fdx] using hi.out
  · simp (disch := omega) [hx]
    refine wcall_flat (by simpa using hF x (List.mem_of_getElem? hx)) rfl fun _ => ?_
    simp (disch := omega) [hx]
    refine BrK.mk (fun h => ?_) (fun h => ?_)
    · simp (disch := omega) []
      have hi := hi.out
      simpa [fdx, h] using hi
    · simp (disch := omega) []
      refine hN.out _ <| Nx.mk (k + 1) (by simp [*]) ⟨by omega, ?_⟩ (by omega)
      have hi := hi.out
      simpa [fdx, h] using hi
theorem f_slices_ContainsFunc_Node (l : List Node) (F : FuncId) (f : Node → Bool) (hF : ∀ x ∈ l, Fn Tryz.prog F [x.v] (.bool (f x))) : Fn Tryz.prog n_slices_ContainsFuncIIapi_Node_api_Node [.seq 5 (l.map Node.v), .fn (.func F) [] []] (.bool (l.any f)) := by
  refine Fn.of_image mixed h_slices_ContainsFuncIIapi_Node_api_Node i_slices_ContainsFuncIIapi_Node_api_Node rfl fun ho => ?_
  unfold c_slices_ContainsFuncIIapi_Node_api_Node
  simp only [oks, ok, and_true] at ho
  simp (disch := omega) []
  refine wcall_flat (f_slices_IndexFunc_Node l F f hF) rfl fun _ => ?_
  simp (disch := omega) []
  rw [fdx_any]
theorem f_guard_Dangerous (n : Node) : Fn Tryz.prog n_guard_Dangerous [n.v] (.bool (dang n)) := by
  refine Fn.of_image mixed h_guard_Dangerous i_guard_Dangerous rfl fun ho => ?_
  unfold c_guard_Dangerous
  simp only [oks, ok, and_true] at ho
  clear ho
  simp (disch := omega) [dang]
  repeat' (first
    | (refine BrKd.mk (fun h => ?_) (fun h => ?_) <;> simp (disch := omega) [*])
    | (refine BrK.mk (fun h => ?_) (fun h => ?_) <;> simp (disch := omega) [*])
    | (refine wcall_flat (f_guard_named _) rfl (fun _ => ?_) <;> simp (disch := omega) [*])
    | (refine wcall_flat (f_slices_ContainsFunc_Attr n.attrs n_guard_harmful harmful (fun x _ => f_guard_harmful x)) rfl (fun _ => ?_) <;> simp (disch := omega) [*]))
theorem f_guard_Any1_of (n : Node) (h : Fn Tryz.prog n_guard_Any [.seq 5 (n.kids.map Node.v)] (.bool (anyNs dang n.kids))) : Fn Tryz.prog n_guard_Any_1 [n.v] (.bool (anyN dang n)) := by
  refine Fn.of_image mixed h_guard_Any_1 i_guard_Any_1 rfl fun ho => ?_
  unfold c_guard_Any_1
  simp only [oks, ok, and_true] at ho
  clear ho
  rw [anyN_eq]
  simp (disch := omega) []
  refine wcall_flat (by simpa using f_guard_Dangerous n) rfl fun _ => ?_
  simp (disch := omega) []
  refine BrK.mk (fun hd => ?_) (fun hd => ?_)
  · simp (disch := omega) [hd]
  · simp (disch := omega) [hd]
    refine wcall_flat h rfl fun _ => ?_
    simp (disch := omega) [hd]
theorem f_guard_Any_of (l : List Node) (h : ∀ x ∈ l, Fn Tryz.prog n_guard_Any_1 [x.v] (.bool (anyN dang x))) : Fn Tryz.prog n_guard_Any [.seq 5 (l.map Node.v)] (.bool (anyNs dang l)) := by
  refine Fn.of_image mixed h_guard_Any i_guard_Any rfl fun ho => ?_
  unfold c_guard_Any
  simp only [oks, ok, and_true] at ho
  clear ho
  rw [anyNs_eq]
  simp (disch := omega) []
  refine wcall_flat (f_slices_ContainsFunc_Node l n_guard_Any_1 (anyN dang) h) rfl fun _ => ?_
  simp (disch := omega) []
theorem f_guard_Any (l : List Node) : Fn Tryz.prog n_guard_Any [.seq 5 (l.map Node.v)] (.bool (anyNs dang l)) := by
  have key : ∀ l : List Node, (∀ x ∈ l, Fn Tryz.prog n_guard_Any_1 [x.v] (.bool (anyN dang x))) := by
    refine nodes_ind (fun x hx => by cases hx) ?_
    intro n l h1 h2 x hx
    rcases List.mem_cons.1 hx with rfl | hx
    · exact f_guard_Any1_of _ (f_guard_Any_of _ h1)
    · exact h2 x hx
  exact f_guard_Any_of l (key l)
end Go.Abs
