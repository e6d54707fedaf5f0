/-
  What strainerref09's Match tells. No condition.
-/
import Derived.Test.YtjhcljlogdcbbaaGreatF18
set_option linter.unusedVariables false
set_option linter.unusedSimpArgs false
set_option maxHeartbeats 4000000
set_option maxRecDepth 100000
namespace Go.Abs
open Go.Proofs
attribute [-simp] getElem?_pos Option.not_isSome
/-- The parts' tables, one behind the other. -/
def tabsGo (s : Str) : List Tab → List Part → List Tab
  | acc, [] => acc
  | acc, p :: ps => tabsGo s (acc ++ [stepT p s acc]) ps
theorem tabsGo_len (s : Str) : ∀ (ps : List Part) (acc : List Tab), (tabsGo s acc ps).length = acc.length + ps.length
  | [], acc => rfl
  | p :: ps, acc => by simp only [tabsGo, tabsGo_len s ps, List.length_append, List.length_cons, List.length_nil]; omega
def matchT (parts : List Part) (k : Nat) (s : Str) : Bool := (((tabsGo s [] (parts.take (k + 1)))[k]?).getD fun _ _ => false) 0 s.length
/-- Parts that stand behind their own. -/
def Wf (parts : List Part) : Prop := parts.length ≤ 1000 ∧ ∀ (i : Nat) (p : Part), parts[i]? = some p → (∀ x ∈ p.l, x < i) ∧ (p.op = 115 → p.set.length = 95) ∧ p.l.length ≤ 1000
theorem f_ref09_Match (parts : List Part) (k : Nat) (s : Str) (hw : Wf parts) (hk : k < parts.length) (hs : s.length ≤ 99999) : Fn Tryz.prog n_ref09_Match [.seq 3 (parts.map Part.v), .int .i64 k, .str s] (.bool (matchT parts k s)) := by
  refine Fn.of_image mixed h_ref09_Match i_ref09_Match rfl fun ho => ?_
  unfold c_ref09_Match
  simp only [oks, ok, and_true] at ho
  clear ho
  have hpl := hw.1
  simp (disch := omega) []
  obtain ⟨T, hT⟩ : ∃ T, T = tabsGo s [] (parts.take (k + 1)) := ⟨_, rfl⟩
  have hTl : T.length = k + 1 := by rw [hT, tabsGo_len]; simp; omega
  obtain ⟨f, hf⟩ := get_lt (l := T) (k := k) (by omega)
  have hm : matchT parts k s = f 0 s.length := by rw [matchT, ← hT, hf]; rfl
  rw [hm]
  have hlt : (parts.take (k + 1)).length = k + 1 := by simp; omega
  refine W_loop (fun (q : Nat × List Tab) => ⟨[(0, .seq 3 (parts.map Part.v)), (1, .int .i64 k), (2, .str s), (7, .ref 0 q.2.length), (8, .int .i64 q.1)], [some (.arr ty_IIbool 1 (q.2.map (matV (s.length + 1))))]⟩)
    (fun q => q.1 ≤ (parts.take (k + 1)).length ∧ q.2.length = q.1 ∧ tabsGo s q.2 ((parts.take (k + 1)).drop q.1) = T) (fun q => (parts.take (k + 1)).length - q.1) [.r 7 ty_IIbool 1] _ (0, []) rfl (by simp) (by simp [hT]) ?_
  rintro ⟨i, acc⟩ ⟨hi, ha, hi2⟩ N hN
  simp only at hi ha hi2
  rcases place (parts.take (k + 1)) i hi with ⟨he, hd⟩ | ⟨hlt2, p, hp, hd⟩ <;> rw [hd, tabsGo] at hi2
  · subst hi2
    clear hN
    have e : (acc.map (matV (s.length + 1)))[k]? = some (matV (s.length + 1) f) := by rw [List.getElem?_map, hf]; rfl
    simp (disch := omega) [he, hlt, e, matV]
  · have hp2 : parts[i]? = some p := by rw [List.getElem?_take] at hp; simpa [show i < k + 1 by omega] using hp
    obtain ⟨w1, w2, w3⟩ := hw.2 i p hp2
    replace hi2 := hid hi2
    simp (disch := omega) []
    refine wcall_new (f_ref09_step parts i p s acc hp2 hs (by rw [ha]; exact w1) w2 w3) fun _ => ?_
    simp (disch := omega) [matV]
    exact hN.out _ <| Nx.mk (i + 1, acc ++ [stepT p s acc]) (by simp; rfl) ⟨by simp only; omega, by simp; omega, hi2.out⟩ (by simp only; omega)
end Go.Abs
