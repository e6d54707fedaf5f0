/-
  What the first functions of the document's packages answer. No condition.
-/
import Derived.Test.YtjhcljlogdcbbaaGreatCodeA
set_option linter.unusedVariables false
set_option linter.unusedSimpArgs false
set_option maxHeartbeats 4000000
set_option maxRecDepth 100000
namespace Go.Abs
open Go.Proofs
attribute [-simp] getElem?_pos
theorem mixed : Tryz.prog.follows .mixedOrders = true := by kernel_rfl
abbrev Str := List UInt8
def small (b : UInt8) : Bool := 97 ≤ b.toNat && b.toNat ≤ 122
theorem f_ref03_small (b : UInt8) : Fn Tryz.prog n_ref03_small [.int .u8 b.toNat] (.bool (small b)) := by
  refine Fn.of_image mixed h_ref03_small i_ref03_small rfl fun ho => ?_
  unfold c_ref03_small
  simp only [oks, ok, and_true] at ho
  simp (disch := omega) [c_ref03_small, small]
  repeat' (first | (refine BrKd.mk (fun h => ?_) (fun h => ?_) <;> simp (disch := omega) [*]) | (refine BrK.mk (fun h => ?_) (fun h => ?_) <;> simp (disch := omega) [*]))
def namedSign (b : UInt8) : Bool := small b || (48 ≤ b.toNat && b.toNat ≤ 57) || decide (b.toNat = 45)
def named : Str → Bool
  | [] => false
  | b :: s => small b && (b :: s).all namedSign
theorem f_ref03_Named (s : Str) : Fn Tryz.prog n_ref03_Named [.str s] (.bool (named s)) := by
  refine Fn.of_image mixed h_ref03_Named i_ref03_Named rfl fun ho => ?_
  unfold c_ref03_Named
  simp only [oks, ok, and_true] at ho
  cases s with
  | nil => simp (disch := omega) [c_ref03_Named, named]
  | cons b t =>
    simp (disch := omega) [c_ref03_Named]
    refine wcall_flat (f_ref03_small b) rfl fun _ => ?_
    simp (disch := omega) []
    generalize hr : named (b :: t) = r
    generalize hs : b :: t = s at *
    refine W_loop (fun k : Nat => ⟨[(0, .str s), (3, .bool (small b)), (4, .int .i64 k)], []⟩) (fun k => k ≤ s.length ∧ (small b && (s.drop k).all namedSign) = r) (fun k => s.length - k) [] _ 0 rfl (by simp) (by simp [← hr, ← hs, named]) ?_
    rintro k ⟨hk, hi⟩ N hN
    rcases place s k hk with ⟨he, hd⟩ | ⟨hlt, x, hx, hd⟩ <;> rw [hd] at hi <;> replace hi := hid hi
    · simp (disch := omega) [he]
      simpa using hi.out
    · simp (disch := omega) [hx]
      repeat' (first | (refine BrKd.mk (fun h => ?_) (fun h => ?_) <;> simp (disch := omega) [*]) | (refine BrK.mk (fun h => ?_) (fun h => ?_) <;> simp (disch := omega) [*]) | (refine wcall_flat (f_ref03_small _) rfl (fun _ => ?_) <;> simp (disch := omega) [*]) | (refine wcallD_flat (f_ref03_small _) rfl ?_ <;> simp (disch := omega) [*]))
      all_goals first
        | (refine hN.out _ <| Nx.mk (k + 1) (by simp [*]) ⟨by omega, ?_⟩ (by omega); simpa (disch := omega) [*, decide_eq_true, decide_eq_false, namedSign] using hi.out)
        | (first | simpa (disch := omega) [*, decide_eq_true, decide_eq_false, namedSign] using hi.out.symm | simpa (disch := omega) [*, decide_eq_true, decide_eq_false, namedSign] using hi.out)
def plain (s : Str) : Bool := named s && s.length ≤ 16
theorem f_ref13_plain (s : Str) : Fn Tryz.prog n_ref13_plain [.str s] (.bool (plain s)) := by
  refine Fn.of_image mixed h_ref13_plain i_ref13_plain rfl fun ho => ?_
  unfold c_ref13_plain
  simp only [oks, ok, and_true] at ho
  simp (disch := omega) [c_ref13_plain, plain]
  repeat' (first | (refine BrKd.mk (fun h => ?_) (fun h => ?_) <;> simp (disch := omega) [*]) | (refine BrK.mk (fun h => ?_) (fun h => ?_) <;> simp (disch := omega) [*]) | (refine wcall_flat (f_ref03_Named _) rfl (fun _ => ?_) <;> simp (disch := omega) [*]) | (refine wcallD_flat (f_ref03_Named _) rfl ?_ <;> simp (disch := omega) [*]))
structure Attr where
  name : Str
  value : Str
structure Constraint where
  kind : Int
  words : List Str
  regex : Str
structure Rule where
  name : Str
  value : Constraint
  req : Bool
structure Allowed where
  name : Str
  kids : List Str
  rules : List Rule
structure Policy where
  top : List Str
  elements : List Allowed
  unwrap : List Str
@[simp] def Attr.v (a : Attr) : V := .strct [.str a.name, .str a.value]
def Constraint.c (c : Constraint) : List V := [.int .i64 c.kind, .seq 1 (c.words.map .str), .str c.regex]
@[simp] def Constraint.v (c : Constraint) : V := .strct c.c
@[simp] def Rule.v (r : Rule) : V := .strct [.str r.name, .int .i64 r.value.kind, .seq 1 (r.value.words.map .str), .str r.value.regex, .bool r.req]
@[simp] def Allowed.v (a : Allowed) : V := .strct [.str a.name, .seq 1 (a.kids.map .str), .seq 5 (a.rules.map Rule.v)]
@[simp] def Policy.v (p : Policy) : V := .strct [.seq 1 (p.top.map .str), .seq 3 (p.elements.map Allowed.v), .seq 1 (p.unwrap.map .str)]
attribute [simp] Constraint.c
def findE : List Allowed → Str → Option Allowed
  | [], _ => none
  | e :: l, s => if e.name = s then some e else findE l s
def Allowed.zero : Allowed := ⟨[], [], []⟩
theorem f_ref13_Find (p : Policy) (s : Str) : Fn Tryz.prog n_ref13_Find [p.v, .str s] (.tup [((findE p.elements s).getD .zero).v, .bool (findE p.elements s).isSome]) := by
  refine Fn.of_image mixed h_ref13_Find i_ref13_Find rfl fun ho => ?_
  unfold c_ref13_Find
  simp only [oks, ok, and_true] at ho
  simp (disch := omega) [c_ref13_Find]
  generalize hr : findE p.elements s = r
  refine W_loop (fun k : Nat => ⟨[(1, .str s), (2, .ptr 0 0), (4, .ptr 1 0), (6, .int .i64 k)], [some (.box [.seq 1 (p.top.map .str), .seq 3 (p.elements.map Allowed.v), .seq 1 (p.unwrap.map .str)]), some (.box [.str [], .nil 1, .nil 5])]⟩) (fun k => k ≤ p.elements.length ∧ findE (p.elements.drop k) s = r) (fun k => p.elements.length - k) [] _ 0 rfl (by simp [*]) (by simp [*]) ?_
  rintro k ⟨hk, hi⟩ N hN
  rcases place p.elements k hk with ⟨he, hd⟩ | ⟨hlt, x, hx, hd⟩ <;> rw [hd] at hi <;> replace hi := hid hi
  · simp (disch := omega) [he]
    simp [← hi.out, findE, Allowed.zero]
  · have hlen : p.elements.length ≤ 140737488355328 := by have := ho.1; simp at this; exact this.2.1.1
    simp (disch := omega) [hx]
    repeat' (first | (refine BrKd.mk (fun h => ?_) (fun h => ?_) <;> simp (disch := omega) [*]) | (refine BrK.mk (fun h => ?_) (fun h => ?_) <;> simp (disch := omega) [*]))
    all_goals first
      | (refine hN.out _ <| Nx.mk (k + 1) (by simp [*]) ⟨by omega, ?_⟩ (by omega); simpa (disch := omega) [*, decide_eq_true, decide_eq_false, findE] using hi.out)
      | (have hi := hi.out; simp [findE, *] at hi; subst hi; simp [*])
def stem (s : Str) : Str × Bool := match s[s.length - 1]? with
  | some x => if x.toNat = 42 then (s.take (s.length - 1), true) else (s, false)
  | none => (s, false)
theorem f_ref13_stem (s : Str) : Fn Tryz.prog n_ref13_stem [.str s] (.tup [.str (stem s).1, .bool (stem s).2]) := by
  refine Fn.of_image mixed h_ref13_stem i_ref13_stem rfl fun ho => ?_
  unfold c_ref13_stem
  simp only [oks, ok, and_true] at ho
  by_cases hp : 0 < s.length
  · obtain ⟨x, hx⟩ := get_lt (l := s) (k := s.length - 1) (by omega)
    simp (disch := omega) [c_ref13_stem]
    simp [hx]
    repeat' (first | (refine BrKd.mk (fun h => ?_) (fun h => ?_) <;> simp (disch := omega) [*]) | (refine BrK.mk (fun h => ?_) (fun h => ?_) <;> simp (disch := omega) [*]))
    all_goals first | omega | simp [stem, *]
  · have : s = [] := by cases s; rfl; simp at hp
    subst this
    simp (disch := omega) [c_ref13_stem, stem]
def hasS : List Str → Str → Bool
  | [], _ => false
  | x :: l, s => if x = s then true else hasS l s
theorem f_ref13_Has (l : List Str) (s : Str) : Fn Tryz.prog n_ref13_Has [.seq 1 (l.map .str), .str s] (.bool (hasS l s)) := by
  refine Fn.of_image mixed h_ref13_Has i_ref13_Has rfl fun ho => ?_
  unfold c_ref13_Has
  simp only [oks, ok, and_true] at ho
  simp (disch := omega) [c_ref13_Has]
  generalize hr : hasS l s = r
  refine W_loop (fun k : Nat => ⟨[(0, .seq 1 (l.map .str)), (1, .str s), (5, .int .i64 k)], []⟩) (fun k => k ≤ l.length ∧ hasS (l.drop k) s = r) (fun k => l.length - k) [] _ 0 rfl (by simp [*]) (by simp [*]) ?_
  rintro k ⟨hk, hi⟩ N hN
  rcases place l k hk with ⟨he, hd⟩ | ⟨hlt, x, hx, hd⟩ <;> rw [hd] at hi <;> replace hi := hid hi
  · simp (disch := omega) [he]
    simpa [hasS] using hi.out
  · have hlen : l.length ≤ 140737488355328 := by have := ho.1.1; simpa using this
    simp (disch := omega) [hx]
    repeat' (first | (refine BrKd.mk (fun h => ?_) (fun h => ?_) <;> simp (disch := omega) [*]) | (refine BrK.mk (fun h => ?_) (fun h => ?_) <;> simp (disch := omega) [*]))
    all_goals first
      | (refine hN.out _ <| Nx.mk (k + 1) (by simp [*]) ⟨by omega, ?_⟩ (by omega); simpa (disch := omega) [*, decide_eq_true, decide_eq_false, hasS] using hi.out)
      | (first | simpa (disch := omega) [*, decide_eq_true, decide_eq_false, hasS] using hi.out.symm | simpa (disch := omega) [*, decide_eq_true, decide_eq_false, hasS] using hi.out)
def sign (b : UInt8) : Bool := 32 ≤ b.toNat && b.toNat ≤ 126
theorem f_ref12_signs (s : Str) : Fn Tryz.prog n_ref12_signs [.str s] (.bool (s.all sign)) := by
  refine Fn.of_image mixed h_ref12_signs i_ref12_signs rfl fun ho => ?_
  unfold c_ref12_signs
  simp only [oks, ok, and_true] at ho
  simp (disch := omega) [c_ref12_signs]
  generalize hr : s.all sign = r
  refine W_loop (fun k : Nat => ⟨[(0, .str s), (3, .int .i64 k)], []⟩) (fun k => k ≤ s.length ∧ (s.drop k).all sign = r) (fun k => s.length - k) [] _ 0 rfl (by simp [*]) (by simp [*]) ?_
  rintro k ⟨hk, hi⟩ N hN
  rcases place s k hk with ⟨he, hd⟩ | ⟨hlt, x, hx, hd⟩ <;> rw [hd] at hi <;> replace hi := hid hi
  · simp (disch := omega) [he]
    simpa using hi.out
  · simp (disch := omega) [hx]
    repeat' (first | (refine BrKd.mk (fun h => ?_) (fun h => ?_) <;> simp (disch := omega) [*]) | (refine BrK.mk (fun h => ?_) (fun h => ?_) <;> simp (disch := omega) [*]))
    all_goals first
      | (refine hN.out _ <| Nx.mk (k + 1) (by simp [*]) ⟨by omega, ?_⟩ (by omega); simpa (disch := omega) [*, decide_eq_true, decide_eq_false, sign] using hi.out)
      | (first | simpa (disch := omega) [*, decide_eq_true, decide_eq_false, sign] using hi.out.symm | simpa (disch := omega) [*, decide_eq_true, decide_eq_false, sign] using hi.out)
def scheme (s : Str) : Bool := s.all small && (1 ≤ s.length && s.length ≤ 16)
theorem f_ref12_scheme (s : Str) : Fn Tryz.prog n_ref12_scheme [.str s] (.bool (scheme s)) := by
  refine Fn.of_image mixed h_ref12_scheme i_ref12_scheme rfl fun ho => ?_
  unfold c_ref12_scheme
  simp only [oks, ok, and_true] at ho
  simp (disch := omega) [c_ref12_scheme]
  generalize hr : scheme s = r
  refine W_loop (fun k : Nat => ⟨[(0, .str s), (3, .int .i64 k)], []⟩) (fun k => k ≤ s.length ∧ ((s.drop k).all small && (1 ≤ s.length && s.length ≤ 16)) = r) (fun k => s.length - k) [] _ 0 rfl (by simp [*]) (by simp [*, ← hr, scheme]) ?_
  rintro k ⟨hk, hi⟩ N hN
  rcases place s k hk with ⟨he, hd⟩ | ⟨hlt, x, hx, hd⟩ <;> rw [hd] at hi <;> replace hi := hid hi
  · simp (disch := omega) [he]
    repeat' (first | (refine BrKd.mk (fun h => ?_) (fun h => ?_) <;> simp (disch := omega) [*]) | (refine BrK.mk (fun h => ?_) (fun h => ?_) <;> simp (disch := omega) [*]))
    all_goals (first | simpa (disch := omega) [*, decide_eq_true, decide_eq_false, ] using hi.out.symm | simpa (disch := omega) [*, decide_eq_true, decide_eq_false, ] using hi.out)
  · simp (disch := omega) [hx]
    repeat' (first | (refine BrKd.mk (fun h => ?_) (fun h => ?_) <;> simp (disch := omega) [*]) | (refine BrK.mk (fun h => ?_) (fun h => ?_) <;> simp (disch := omega) [*]))
    all_goals first
      | (refine hN.out _ <| Nx.mk (k + 1) (by simp [*]) ⟨by omega, ?_⟩ (by omega); simpa (disch := omega) [*, decide_eq_true, decide_eq_false, small] using hi.out)
      | (first | simpa (disch := omega) [*, decide_eq_true, decide_eq_false, small] using hi.out.symm | simpa (disch := omega) [*, decide_eq_true, decide_eq_false, small] using hi.out)
end Go.Abs
