/-
  What Least and Accepts answer; the document's example. No condition.
-/
import Derived.Test.YtpblinccnkidfaaDoorD20
set_option linter.unusedVariables false
set_option linter.unusedSimpArgs false
set_option maxHeartbeats 1000000
set_option maxRecDepth 100000
namespace Go.Abs
open Go.Proofs Go.Aut
attribute [-simp] getElem?_pos Option.not_isSome List.map_map
theorem f_dfa_Least {a : Aut} (ha : a.ok) (hn : a.n ≤ 500) (r : Option (List Nat)) (hr : leastGo a.δ a.F (a.n + 1) 0 [0] [[]] = some r) : Fn Tryd.prog n_dfa_Least [.strct (Aut.c a)] (resL r) := by
  refine Fn.of_imageE mixed h_dfa_Least i_dfa_Least rfl fun ho => ?_
  unfold c_dfa_Least
  simp only [oks, ok, and_true] at ho
  clear ho
  have hm := f_dfa_May_ok ha hn
  have hl := f_least_int ha hn r hr
  obtain ⟨X, hX⟩ : ∃ X, X = resL r := ⟨_, rfl⟩
  rw [← hX]
  simp [Aut.c] at hm
  simp (disch := omega) [-List.reduceReplicate, Aut.c]
  refine wcall_flat hm rfl fun _ => ?_
  simp (disch := omega) [-List.reduceReplicate]
  refine wcallH_mk [1, 2] 1 [0] (by simp) (by simp) (by simp) (by simp [Aut.c]) hl (by simp) fun _ _ => ?_
  cases r with
  | none => simp (disch := omega) [-List.reduceReplicate, resL, hX]
  | some w => simp (disch := omega) [-List.reduceReplicate, resL, hX]
def sgn (c : UInt8) : Bool := decide (32 ≤ c.toNat) && decide (c.toNat ≤ 126)
def accS (a : Aut) : Nat → Str → Bool
  | q, [] => a.F q
  | q, b :: s => if sgn b = true then accS a (a.δ q (b.toNat - 32)) s else false
theorem f_dfa_Accepts {a : Aut} (ha : a.ok) (hn : a.n ≤ 500) (s : Str) : Fn Tryd.prog n_dfa_Accepts [.strct (Aut.c a), .str s] (.bool (accS a 0 s)) := by
  refine Fn.of_image mixed h_dfa_Accepts i_dfa_Accepts rfl fun ho => ?_
  unfold c_dfa_Accepts
  simp only [oks, ok, and_true] at ho
  have hsl : s.length ≤ 4611686018427387904 := ho.2
  clear ho
  have hm := f_dfa_May_ok ha hn
  have hnl : a.next.length = a.n := rfl
  have hfl : a.final.length = a.n := ha.fin
  obtain ⟨R, hR⟩ : ∃ R, R = accS a 0 s := ⟨_, rfl⟩
  rw [← hR]
  simp [Aut.c] at hm
  simp (disch := omega) [-List.reduceReplicate, Aut.c]
  refine wcall_flat hm rfl fun _ => ?_
  simp (disch := omega) [-List.reduceReplicate]
  refine W_loop (fun (x : Nat × Nat) => ⟨[(1, .str s), (2, .ptr 0 0), (5, nV x.2), (6, nV x.1)], [some (.box (Aut.c a))]⟩) (fun x => x.1 ≤ s.length ∧ x.2 < a.n ∧ accS a x.2 (s.drop x.1) = R) (fun x => s.length - x.1) [] _ (0, 0) rfl (by simp [Aut.c]) ⟨by simp, ha.pos, by simp [hR]⟩ ?_
  rintro ⟨k, q⟩ ⟨hk, hq, hi⟩ N hN
  simp only at hk hq hi
  rcases place s k hk with ⟨he, hd⟩ | ⟨hlt, b, hx, hd⟩ <;> rw [hd] at hi
  · simp only [accS] at hi
    obtain ⟨f, hf⟩ := get_lt (l := a.final) (k := q) (by omega)
    have hF : a.F q = f := by simp [Aut.F, fin, hf]
    simp (disch := omega) [-List.reduceReplicate, he, Aut.c, hf]
    rw [← hi, hF]
  · simp only [accS] at hi
    have go : sgn b = true → accS a (a.δ q (b.toNat - 32)) (s.drop (k + 1)) = R := fun h => by rw [if_pos h] at hi; exact hi
    have no : sgn b = false → R = false := fun h => by rw [if_neg (by simp [h])] at hi; exact hi.symm
    clear hi
    replace go := hid go
    replace no := hid no
    by_cases h32 : b.toNat < 32
    · simp (disch := omega) [-List.reduceReplicate, hx, Aut.c, h32]
      rw [no.out (by simp [sgn]; omega)]
    · by_cases h126 : 126 < b.toNat
      · simp (disch := omega) [-List.reduceReplicate, hx, Aut.c, h32, h126]
        rw [no.out (by simp [sgn]; omega)]
      · obtain ⟨rr, t, hr1, hr2, hr3, hr4⟩ := ha.rows.dl (q := q) (c := b.toNat - 32) hq (by omega)
        have hc : ((b.toNat : Int) - 32).toNat = b.toNat - 32 := by omega
        have hδ : a.δ q (b.toNat - 32) = t := hr3
        rw [hδ] at go
        simp (disch := omega) [-List.reduceReplicate, hx, Aut.c, h32, h126, hr1, hc, hr2]
        exact hN.out _ <| Nx.mk (k + 1, t) (by simp [Aut.c]) ⟨by simp only; omega, hr4, go.out (by simp [sgn]; omega)⟩ (by simp only; omega)
def okB (a : Aut) : Bool := decide (0 < a.n) && (decide (a.final.length = a.n) && a.next.all fun r => decide (r.length = 95) && r.all fun x => decide (x < a.n))
theorem okB_ok {a : Aut} (h : okB a = true) : a.ok := by
  simp only [okB, Bool.and_eq_true, decide_eq_true_eq, List.all_eq_true] at h
  exact ⟨h.1, h.2.1, fun r hr => h.2.2 r hr⟩
theorem autX_ok : autX.ok := okB_ok (by kernel_rfl)
theorem netX_ok : netX.ok := ⟨by decide, by decide, by decide, by decide, fun e he => by
  simp only [netX, List.mem_cons, List.not_mem_nil, or_false] at he
  rcases he with rfl | rfl | rfl <;> decide⟩
theorem run_least : leastGo autX.δ autX.F (autX.n + 1) 0 [0] [[]] = some (some [65]) := by kernel_rfl
theorem run_acc1 : accS autX 0 [98, 98] = true := by kernel_rfl
theorem run_acc2 : accS autX 0 [98] = false := by kernel_rfl
theorem c_parse : FnH Tryd.prog n_regex_Parse [] [.str [97, 124, 98, 98]] [] (.tup [.ptr 0 0, .int .i64 0]) [some (.box [partX])] := (xfun_sound mixed tabR_ok 300 16).h _ _ _ _ _ _ (by kernel_rfl) run_parse
theorem c_net : FnH Tryd.prog n_pregex_Regex_Net [] [.ptr 0 0] [some (.box [partX])] (.strct [nV 3, nV 0, nV 1, .ref 0 3]) [some (.arr ty_api_Edge 4 (netX.edges.map NEdge.v))] := (xfun_sound mixed tabR_ok 300 16).h _ _ _ _ _ _ (by kernel_rfl) run_net
theorem f_law11_lives : Fn Tryd.prog n_law11_lives [] (.bool true) := by
  refine Fn.of_imageE mixed h_law11_lives i_law11_lives rfl fun ho => ?_
  unfold c_law11_lives
  simp only [oks, ok, and_true] at ho
  clear ho
  have hof := f_dfa_Of netX_ok (by decide) run_of
  have hm := f_dfa_May_ok autX_ok (by decide)
  have hle := f_dfa_Least autX_ok (by decide) _ run_least
  have ha1 := f_dfa_Accepts autX_ok (by decide) [98, 98]
  have ha2 := f_dfa_Accepts autX_ok (by decide) [98]
  rw [run_acc1] at ha1
  rw [run_acc2] at ha2
  have hlen : autX.next.length = 4 := rfl
  obtain ⟨A, hA⟩ : ∃ A, A = autX := ⟨_, rfl⟩
  rw [← hA] at hof hm hle ha1 ha2 hlen
  simp [Aut.c] at hm hle ha1 ha2
  have hpf : vids partX = [] := rfl
  have hpr : ∀ m, ren m partX = partX := fun m => rfl
  have hpb : ∀ m, bck m partX = partX := fun m => rfl
  have hpp : ∀ h, pur h partX = some partX := fun h => rfl
  simp (disch := omega) [-List.reduceReplicate]
  refine wcallH_mk [] 0 [] (by simp) (by simp) (by simp) (by simp) c_parse (by simp) fun _ _ => ?_
  simp (disch := omega) [-List.reduceReplicate, hpb, St.isNil]
  refine wcallH_mk [] 0 [0] (by simp) (by simp [hpf]) (by simp) (by simp [hpr]) c_net (by simp) fun _ _ => ?_
  have hlz : ¬A.next = [] := fun h => by rw [h] at hlen; cases hlen
  simp [netX] at hof
  simp (disch := omega) [-List.reduceReplicate, netX]
  refine wcall_kill hof fun _ => ?_
  simp (disch := omega) [-List.reduceReplicate, Aut.c]
  refine wcall_flat hm rfl fun _ => ?_
  simp (disch := omega) [-List.reduceReplicate, hlen, hlz]
  refine wcall_pure hle (by simp) fun _ => ?_
  simp (disch := omega) [-List.reduceReplicate, resL, wordS]
  refine wcall_flat ha1 rfl fun _ => ?_
  simp (disch := omega) [-List.reduceReplicate]
  refine wcall_flat ha2 rfl fun _ => ?_
  simp (disch := omega) [-List.reduceReplicate]
end Go.Abs
