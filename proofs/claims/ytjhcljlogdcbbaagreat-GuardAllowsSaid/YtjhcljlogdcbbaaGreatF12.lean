/-
  What strainerref03's functions answer that make nodes that may be. No condition.
-/
import Derived.Test.YtjhcljlogdcbbaaGreatF11
set_option linter.unusedVariables false
set_option linter.unusedSimpArgs false
set_option maxHeartbeats 4000000
set_option maxRecDepth 100000
namespace Go.Abs
open Go.Proofs
attribute [-simp] getElem?_pos Option.not_isSome
def pool3 : List Str := [[97], [98], [112], [117, 108], [108, 105], [98, 114], [105, 109, 103], [100, 105, 118], [115, 99, 114, 105, 112, 116], [120, 45, 121]]
def word (s : Str) : Str := if named s then s else (pool3[sumB s % 10]?).getD []
theorem f_ref03_word (s : Str) (hs : s.length ≤ 1000000) : Fn Tryz.prog n_ref03_word [.str s] (.str (word s)) := by
  refine Fn.of_image mixed h_ref03_word i_ref03_word rfl fun ho => ?_
  unfold c_ref03_word
  simp only [oks, ok, and_true] at ho
  clear ho
  simp (disch := omega) []
  refine W_loop (fun (p : Nat × Nat) => ⟨[(0, .str s), (3, .seq 1 (pool3.map .str)), (4, .int .i64 p.2), (5, .int .i64 p.1)], []⟩)
    (fun p => p.1 ≤ s.length ∧ p.2 ≤ 255 * p.1 ∧ p.2 + sumB (s.drop p.1) = sumB s) (fun p => s.length - p.1) [] _ (0, 0) rfl (by simp [pool3]) (by simp) ?_
  rintro ⟨k, n⟩ ⟨hk, hn, hi⟩ N hN
  simp only at hk hn hi
  rcases place s k hk with ⟨he, hd⟩ | ⟨hlt, x, hx, hd⟩ <;> rw [hd, sumB] at hi
  · have hm : n % 10 < 10 := Nat.mod_lt _ (by decide)
    have ht : ((n : Int) % 10).toNat = n % 10 := by omega
    obtain ⟨y, hy⟩ := get_lt (l := pool3) (k := n % 10) hm
    have hpl : pool3.length = 10 := rfl
    simp only [Nat.add_zero] at hi
    simp (disch := omega) [he]
    refine wcall_flat (f_ref03_Named s) rfl fun _ => ?_
    simp (disch := omega) []
    refine BrK.mk (fun h => ?_) (fun h => ?_)
    · simp (disch := omega) []
      simp [word, h]
    · simp (disch := omega) [hpl, ht, hy]
      simp [word, h, ← hi, hy]
  · have hx8 := x.toNat_lt
    simp (disch := omega) [hx]
    refine hN.out _ <| Nx.mk (k + 1, n + x.toNat) (by simp) ⟨by simp only; omega, by simp only; omega, by simp only; omega⟩ (by simp only; omega)
def oddSign (b : UInt8) : Bool := (decide (65 ≤ b.toNat) && decide (b.toNat ≤ 90)) || (decide (b.toNat = 9) || (decide (b.toNat = 10) || (decide (b.toNat = 12) || (decide (b.toNat = 32) || (decide (b.toNat = 47) || (decide (b.toNat = 62) || decide (b.toNat = 61)))))))
def attributed (s : Str) : Bool := s.all (fun b => !oddSign b) && (decide (rightS s = s) && decide (0 < s.length))
theorem f_ref03_Attributed (s : Str) (hs : s.length ≤ 1000000) : Fn Tryz.prog n_ref03_Attributed [.str s] (.bool (attributed s)) := by
  refine Fn.of_image mixed h_ref03_Attributed i_ref03_Attributed rfl fun ho => ?_
  unfold c_ref03_Attributed
  simp only [oks, ok, and_true] at ho
  clear ho
  simp (disch := omega) []
  refine wcall_flat (f_ref01_Is s hs) rfl fun _ => ?_
  simp (disch := omega) []
  generalize hr : attributed s = r
  refine W_loop (fun k : Nat => ⟨[(0, .str s), (3, .bool (decide (rightS s = s))), (4, .int .i64 k)], []⟩) (fun k => k ≤ s.length ∧ ((s.drop k).all (fun b => !oddSign b) && (decide (rightS s = s) && decide (0 < s.length))) = r) (fun k => s.length - k) [] _ 0 rfl (by simp [*]) (by simp [*, ← hr, attributed]) ?_
  rintro k ⟨hk, hi⟩ N hN
  rcases place s k hk with ⟨he, hd⟩ | ⟨hlt, x, hx, hd⟩ <;> rw [hd] at hi <;> replace hi := hid hi
  · have hi := hi.out
    simp (disch := omega) [he]
    repeat' (first | (refine BrKd.mk (fun h => ?_) (fun h => ?_) <;> simp (disch := omega) [*]) | (refine BrK.mk (fun h => ?_) (fun h => ?_) <;> simp (disch := omega) [*]))
    all_goals (first | simpa [*] using hi | (simp [*] at hi; simp [← hi, *]))
  · simp only [List.all_cons] at hi
    have no : oddSign x = true → r = false := fun h => by have hi := hi.out; simpa [h] using hi.symm
    have go : oddSign x = false → ((s.drop (k + 1)).all (fun b => !oddSign b) && (decide (rightS s = s) && decide (0 < s.length))) = r := fun h => by have hi := hi.out; rw [h] at hi; simpa using hi
    replace no := hid no
    replace go := hid go
    simp (disch := omega) [hx]
    repeat' (first | (refine BrKd.mk (fun h => ?_) (fun h => ?_) <;> simp (disch := omega) [*]) | (refine BrK.mk (fun h => ?_) (fun h => ?_) <;> simp (disch := omega) [*]))
    all_goals first
      | (refine hN.out _ <| Nx.mk (k + 1) (by simp [*]) ⟨by omega, go.out ?_⟩ (by omega); simp [oddSign, *]; done)
      | (refine hN.out _ <| Nx.mk (k + 1) (by simp [*]) ⟨by omega, go.out ?_⟩ (by omega); unfold oddSign; simp; omega)
      | (rw [no.out ?_]; simp [oddSign, *]; done)
      | (refine (no.out ?_); simp [oddSign, *]; done)
      | (refine (no.out ?_).symm; simp [oddSign, *]; done)
def pool4 : List Str := [[105, 100], [104, 114, 101, 102], [116, 105, 116, 108, 101], [100, 97, 116, 97, 45, 97], [111, 110, 99, 108, 105, 99, 107]]
def attribute3 (s : Str) : Str := if attributed s then s else (pool4[s.length % 5]?).getD []
theorem f_ref03_attribute (s : Str) (hs : s.length ≤ 1000000) : Fn Tryz.prog n_ref03_attribute [.str s] (.str (attribute3 s)) := by
  refine Fn.of_image mixed h_ref03_attribute i_ref03_attribute rfl fun ho => ?_
  unfold c_ref03_attribute
  simp only [oks, ok, and_true] at ho
  clear ho
  simp (disch := omega) []
  refine wcall_flat (f_ref03_Attributed s hs) rfl fun _ => ?_
  simp (disch := omega) []
  have hm : s.length % 5 < 5 := Nat.mod_lt _ (by decide)
  have ht : ((s.length : Int) % 5).toNat = s.length % 5 := by omega
  obtain ⟨y, hy⟩ := get_lt (l := pool4) (k := s.length % 5) hm
  have hy2 : ([.str [105, 100], .str [104, 114, 101, 102], .str [116, 105, 116, 108, 101], .str [100, 97, 116, 97, 45, 97], .str [111, 110, 99, 108, 105, 99, 107]] : List V)[s.length % 5]? = some (.str y) := by
    have : (pool4.map V.str)[s.length % 5]? = some (.str y) := by rw [List.getElem?_map, hy]; rfl
    exact this
  refine BrK.mk (fun h => ?_) (fun h => ?_)
  · simp (disch := omega) []
    simp [attribute3, h]
  · simp (disch := omega) [ht, hy2]
    simp [attribute3, h, hy]
/-- A text put behind the last node's, or a node behind all. -/
def mergeGo : List Node → List Node → List Node
  | out, [] => out
  | out, n :: l =>
    if n.kind = 2 ∧ n.text = [] then mergeGo out l
    else match out[out.length - 1]? with
      | some o => if n.kind = 2 ∧ o.kind = 2 then mergeGo (out.set (out.length - 1) ⟨o.kind, o.name, o.attrs, o.text ++ n.text, o.kids⟩) l else mergeGo (out ++ [n]) l
      | none => mergeGo (out ++ [n]) l
def merge (l : List Node) : List Node := mergeGo [] l
theorem f_ref03_Merge (l : List Node) (hl : l.length ≤ 1000000) (ht : ∀ n ∈ l, n.text.length ≤ 1000000) : Fn Tryz.prog n_ref03_Merge [.seq 5 (l.map Node.v)] (.seq 5 ((merge l).map Node.v)) := by
  refine Fn.of_image mixed h_ref03_Merge i_ref03_Merge rfl fun ho => ?_
  unfold c_ref03_Merge
  simp only [oks, ok, and_true] at ho
  clear ho
  simp (disch := omega) []
  generalize hw : merge l = w
  refine W_loop (fun (q : Nat × List Node) => ⟨[(0, .seq 5 (l.map Node.v)), (3, .ref 0 q.2.length), (4, .int .i64 q.1)], [some (.arr ty_api_Node 5 (q.2.map Node.v))]⟩)
    (fun q => q.1 ≤ l.length ∧ q.2.length ≤ q.1 ∧ (∀ n ∈ q.2, n.text.length ≤ 1000000 * q.1) ∧ mergeGo q.2 (l.drop q.1) = w) (fun q => l.length - q.1) [.r 3 ty_api_Node 5] _ (0, []) rfl (by simp) (by simp [← hw, merge]) ?_
  rintro ⟨k, out⟩ ⟨hk, hol, htx, hi⟩ N hN
  simp only at hk hol htx hi
  rcases place l k hk with ⟨he, hd⟩ | ⟨hlt, x, hx, hd⟩ <;> rw [hd] at hi
  · simp [mergeGo] at hi
    subst hi
    simp (disch := omega) [he]
  · have hxt := ht x (List.mem_of_getElem? hx)
    simp only [mergeGo] at hi
    by_cases h2 : x.kind = 2
    · by_cases ht0 : x.text = []
      · rw [if_pos ⟨h2, ht0⟩] at hi
        replace hi := hid hi
        simp (disch := omega) [hx, h2, ht0]
        refine hN.out _ <| Nx.mk (k + 1, out) (by simp) ⟨by simp only; omega, by simp only; omega, fun n hn => by have := htx n hn; simp only; omega, hi.out⟩ (by simp only; omega)
      · rw [if_neg (fun h => ht0 h.2)] at hi
        rcases Nat.eq_zero_or_pos out.length with h0 | h0
        · have ho0 : out = [] := List.eq_nil_of_length_eq_zero h0
          subst ho0
          simp only [List.getElem?_nil, List.nil_append] at hi
          replace hi := hid hi
          simp (disch := omega) [hx, h2, ht0]
          refine hN.out _ <| Nx.mk (k + 1, [x]) (by simp [h2]) ⟨by simp only; omega, by simp, fun n hn => by simp at hn; subst hn; simp only; omega, hi.out⟩ (by simp only; omega)
        · obtain ⟨o, ho⟩ := get_lt (l := out) (k := out.length - 1) (by omega)
          rw [ho] at hi
          simp only at hi
          have hot := htx o (List.mem_of_getElem? ho)
          have hoz : ((out.length : Int) - 1).toNat = out.length - 1 := by omega
          replace hi := hid hi
          simp (disch := omega) [hx, h2, ht0, hoz, ho]
          refine BrKd.mk (fun hk2 => ?_) (fun hk2 => ?_)
          · simp (disch := omega) [hx, h2, ht0, hoz, ho, hk2]
            have hi := hi.out
            rw [if_pos ⟨h2, hk2⟩] at hi
            refine hN.out _ <| Nx.mk (k + 1, out.set (out.length - 1) ⟨o.kind, o.name, o.attrs, o.text ++ x.text, o.kids⟩) (by simp [List.map_set, hk2]) ⟨by simp only; omega, by simp; omega, ?_, hi⟩ (by simp only; omega)
            intro n hn
            rcases List.mem_or_eq_of_mem_set hn with hn | rfl
            · have := htx n hn; simp only; omega
            · simp only [List.length_append]; omega
          · simp (disch := omega) [hx, h2, ht0, hoz, ho, hk2]
            have hi := hi.out
            rw [if_neg (fun h => hk2 h.2)] at hi
            refine hN.out _ <| Nx.mk (k + 1, out ++ [x]) (by simp [h2]) ⟨by simp only; omega, by simp; omega, ?_, hi⟩ (by simp only; omega)
            intro n hn
            simp only [List.mem_append, List.mem_singleton] at hn
            rcases hn with hn | rfl
            · have := htx n hn; simp only; omega
            · simp only; omega
    · rw [if_neg (fun h => h2 h.1)] at hi
      have hi2 : mergeGo (out ++ [x]) (l.drop (k + 1)) = w := by
        split at hi
        · rw [if_neg (fun h => h2 h.1)] at hi; exact hi
        · exact hi
      clear hi
      replace hi2 := hid hi2
      simp (disch := omega) [hx, h2]
      refine hN.out _ <| Nx.mk (k + 1, out ++ [x]) (by simp) ⟨by simp only; omega, by simp; omega, ?_, hi2.out⟩ (by simp only; omega)
      intro n hn
      simp only [List.mem_append, List.mem_singleton] at hn
      rcases hn with hn | rfl
      · have := htx n hn; simp only; omega
      · simp only; omega
end Go.Abs
