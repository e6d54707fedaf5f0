/-
  Match of package regex. No condition.
  LangAllows' function answers true. No condition.
-/
import Derived.Test.YtkeanhihgfnkoaaGreatDoorXR16
set_option linter.unusedVariables false
set_option linter.unusedSimpArgs false
set_option linter.unusedSectionVars false
section
set_option maxHeartbeats 4000000
set_option maxRecDepth 100000
namespace Go.Abs
open Go.Proofs Go.Aut
attribute [-simp] getElem?_pos Option.not_isSome List.map_map
def matE (es : List NEdge) (n : Nat) : List (List V) := (rowsE es n).map fun r => r.map NEdge.v
theorem matE_len {es : List NEdge} {n : Nat} : (matE es n).length = n := by simp [matE, rowsE]
theorem matE_get {es : List NEdge} {n q : Nat} (h : q < n) : (matE es n)[q]? = some ((rowE es q).map NEdge.v) := by
 simp only [matE, rowsE, List.getElem?_map, List.getElem?_range h, Option.map_some]
theorem matE_ge {es : List NEdge} {n q : Nat} (h : n ≤ q) : (matE es n)[q]? = none := List.getElem?_eq_none (by rw [matE_len]; exact h)
theorem matE_nil {n : Nat} : matE [] n = List.replicate n [] := by
 apply List.ext_getElem?
 intro q
 rcases Nat.lt_or_ge q n with h | h
 · rw [matE_get h, List.getElem?_replicate, if_pos h]; rfl
 · rw [matE_ge h, List.getElem?_eq_none (by simpa using h)]
theorem matE_snoc {es : List NEdge} {e : NEdge} {n : Nat} (h : e.fr < n) : (matE es n).set e.fr ((rowE es e.fr).map NEdge.v ++ [NEdge.v e]) = matE (es ++ [e]) n := by
 apply List.ext_getElem?
 intro q
 rw [List.getElem?_set, matE_len]
 rcases Nat.lt_or_ge q n with hq | hq
 · rw [matE_get hq, matE_get hq]
   by_cases hf : e.fr = q
   · subst hf; simp [rowE, h]
   · simp [rowE, hf]
 · rw [matE_ge hq, matE_ge hq]
   by_cases hf : e.fr = q
   · omega
   · simp [hf]
theorem rowE_len {es : List NEdge} {q : Nat} : (rowE es q).length ≤ es.length := List.length_filter_le _ _
theorem startM {N : Net} (h : N.ok) : ∃ sn now, clGo (rowsE N.edges N.n) 1 (N.n + 1) 0 ((List.replicate N.n 0).set N.start 1) [N.start] = some (sn, now) ∧ MInv N.n 1 sn now ∧ Low 1 sn := by
 have h0 : MInv N.n 1 (List.replicate N.n 0) [] := MInv.fresh (mark := 0) (by simp) fun q v hv => by
  rw [List.getElem?_replicate] at hv
  split at hv
  · cases hv; exact Nat.le_refl _
  · cases hv
 have hm : ¬(List.replicate N.n 0)[N.start]? = some 1 := fun e => by
  rw [List.getElem?_replicate] at e
  split at e <;> simp at e
 have h1 := h0.add h.start hm
 have hlow : Low 1 ((List.replicate N.n 0).set N.start 1) := Low.set fun q v hv => by
  rw [List.getElem?_replicate] at hv
  split at hv
  · cases hv; exact Nat.zero_le _
  · cases hv
 obtain ⟨sn, now, k1, k2, _⟩ := clGo_spec (rowsE_to h) (S := fun _ => True) (fun _ _ _ _ _ _ _ => trivial) (N.n + 1) 0 _ [N.start] h1 (fun _ _ => trivial) (by simp) (fun j hj => by omega) (by omega)
 exact ⟨sn, now, k1, k2, Low.cl _ _ _ _ _ _ hlow k1⟩
theorem stepM {N : Net} (h : N.ok) {i b : Nat} {sn now : List Nat} (hI : MInv N.n (i + 1) sn now) (hL : Low (i + 1) sn) :
 ∃ sn' now', clGo (rowsE N.edges N.n) (i + 2) (N.n + 1) 0 (stGo (rowsE N.edges N.n) (i + 2) b now sn []).1 (stGo (rowsE N.edges N.n) (i + 2) b now sn []).2 = some (sn', now') ∧ MInv N.n (i + 2) sn' now' ∧ Low (i + 2) sn' := by
 have hto := rowsE_to h
 have hf : MInv N.n (i + 2) sn [] := MInv.fresh (mark := i + 1) hI.len hL
 obtain ⟨h1, _⟩ := stGo_inv (b := b) hto now sn [] hf
 have hlow : Low (i + 2) (stGo (rowsE N.edges N.n) (i + 2) b now sn []).1 := Low.go _ _ _ fun q v hv => by have := hL q v hv; omega
 obtain ⟨sn', now', k1, k2, _⟩ := clGo_spec hto (S := fun _ => True) (fun _ _ _ _ _ _ _ => trivial) (N.n + 1) 0 _ _ h1 (fun _ _ => trivial) (by omega) (fun j hj => by omega) (by omega)
 exact ⟨sn', now', k1, k2, Low.cl _ _ _ _ _ _ hlow k1⟩
theorem rowsE_ok {N : Net} (h : N.ok) (hl : N.edges.length ≤ 1000000) : RowsOK N.n (rowsE N.edges N.n) where
 len := by simp [rowsE]
 to := fun r hr e he => by
  simp only [rowsE, List.mem_map] at hr
  obtain ⟨q, _, rfl⟩ := hr
  obtain ⟨_, h2, h3, h4⟩ := h.ends e (mem_rowE.1 he).1
  exact ⟨h2, h3, h4⟩
 few := fun r hr => by
  simp only [rowsE, List.mem_map] at hr
  obtain ⟨q, _, rfl⟩ := hr
  exact Nat.le_trans rowE_len hl
theorem f_Match_to {x : Rx} {N : Net} (hN : N.ok) (hl : N.edges.length ≤ 1000000) (hnet : Fn Tryz.prog n_pregex_Regex_Net [rxP x] (.strct (Net.c N))) (hne : 0 < N.edges.length) (s : Str) (hs : s.length ≤ 1000) (R : Bool) (hR : mtP N s = R) : Fn Tryz.prog n_pregex_Regex_Match [rxP x, .str s] (.bool R) := by
 refine Fn.of_imageE mixed h_pregex_Regex_Match i_pregex_Regex_Match rfl fun ho => ?_
 unfold c_pregex_Regex_Match
 simp only [oks, ok, and_true] at ho
 clear ho
 have hnl := hN.le
 simp at hnet
 simp (disch := omega) [-List.reduceReplicate]
 refine wcall_pure hnet (by simp) fun _ => ?_
 simp (disch := omega) [-List.reduceReplicate]
 rw [← matE_nil]
 refine W_loop (fun k : Nat => if k < N.edges.length then ⟨[(1, .str s), (5, .ptr 0 0), (6, .ref 1 N.n), (24, .seq 4 (N.edges.map NEdge.v)), (25, nV N.edges.length), (26, nV k)], [some (.box [nV N.n, nV N.start, nV N.stop, .seq 4 (N.edges.map NEdge.v)]), some (.mat ty_Iapi_Edge ty_api_Edge 4 (sm (matE (N.edges.take k) N.n)))]⟩
  else ⟨[(1, .str s), (5, .ptr 0 0), (6, rowsV (rowsE N.edges N.n)), (24, .seq 4 (N.edges.map NEdge.v)), (25, nV N.edges.length), (26, nV k)], [some (.box [nV N.n, nV N.start, nV N.stop, .seq 4 (N.edges.map NEdge.v)])]⟩) (fun k => k ≤ N.edges.length) (fun k => N.edges.length - k) [] _ 0 rfl (by simp [hne]) (by simp) ?_
 intro k hk M hM
 rcases Nat.lt_or_ge k N.edges.length with hlt | hge
 · obtain ⟨e, he⟩ := get_lt hlt
   obtain ⟨e1, e2, e3, e4⟩ := hN.ends e (List.mem_of_getElem? he)
   have htk := take_snoc he
   have hrg := matE_get (es := N.edges.take k) e1
   have hrl : (rowE (N.edges.take k) e.fr).length ≤ 1000000 := Nat.le_trans rowE_len (by simp; omega)
   have hml := matE_len (es := N.edges.take k) (n := N.n)
   have hms := matE_snoc (es := N.edges.take k) e1
   rw [← htk] at hms
   simp only [NEdge.v, nV, u8V] at hms
   rw [if_pos hlt]
   simp (disch := omega) [-List.reduceReplicate, he, hrg, e1, hml]
   refine wboth_one ⟨[(1, .str s), (5, .ptr 0 0), (6, .ref 1 N.n), (24, .seq 4 (N.edges.map NEdge.v)), (25, nV N.edges.length), (26, nV k)], [some (.box [nV N.n, nV N.start, nV N.stop, .seq 4 (N.edges.map NEdge.v)]), some (.mat ty_Iapi_Edge ty_api_Edge 4 (sm (matE (N.edges.take (k + 1)) N.n)))]⟩ (fun F hF => ?_) ?_
   · simp at hF
     repeat' first | exact hF | refine wbothK.mk ?_ ?_ | simp (disch := omega) [-List.reduceReplicate, hrg, e1, hml, hms]
   simp (disch := omega) [-List.reduceReplicate]
   by_cases hk1 : k + 1 < N.edges.length
   · exact hM.out _ <| Nx.mk (k + 1) (by simp only [if_pos hk1]; simp) (by first | omega | (simp only; omega)) (by first | omega | (simp only; omega))
   · have hk2 : k + 1 = N.edges.length := by omega
     have hrl2 : (rowsE N.edges N.n).length = N.n := by simp [rowsE]
     have hk3 : ((k : Int) + 1) = (N.edges.length : Nat) := by omega
     refine hM.out _ ⟨[.z 6], ⟨[(6, rowsV (rowsE N.edges N.n)), (1, .str s), (5, .ptr 0 0), (6, .ref 1 N.n), (24, .seq 4 (N.edges.map NEdge.v)), (25, nV N.edges.length), (26, nV (k + 1))], [some (.box [nV N.n, nV N.start, nV N.stop, .seq 4 (N.edges.map NEdge.v)]), none]⟩, k + 1, ?_, ?_, by simp only; omega, by simp only; omega⟩
     · simp [hk2, hk3, hrl2, rowsV, matE, List.map_map, Function.comp_def]
     · simp only [if_neg (show ¬ k + 1 < N.edges.length by omega)]
       simp [rowsV]
 · have : k = N.edges.length := by omega
   subst this
   clear hM
   rw [if_neg (by omega)]
   have hst := hN.start
   have hRO := rowsE_ok hN hl
   obtain ⟨sn0, now0, hc0, hM0, hL0⟩ := startM hN
   simp only [mtP, hc0] at hR
   generalize hrw : rowsE N.edges N.n = rows at *
   simp (disch := omega) [-List.reduceReplicate, hst]
   refine wcallH_mk [1] 1 [1, 2] (by simp) (by simp [rowsV]) (by simp [rowsV]) (by simp [List.map_set]) (f_regex_closed hRO (by omega) 1 (N.n + 1) (by omega) (by omega) ((List.replicate N.n 0).set N.start 1) [N.start] sn0 now0 (by simp) (by simpa using hst) (by simp) hc0) (by simp) fun _ _ => ?_
   simp (disch := omega) [-List.reduceReplicate]
   refine W_loop (fun (x : Nat × List Nat × List Nat × List Nat) => ⟨[(1, .str s), (5, .ptr 0 0), (6, rowsV rows), (9, .ref 1 N.n), (10, .ref 2 x.2.2.1.length), (11, .ref 3 x.2.2.2.length), (12, nV x.1)],
    [some (.box [nV N.n, nV N.start, nV N.stop, .seq 4 (N.edges.map NEdge.v)]), some (.arr ty_int 1 (x.2.1.map nV)), some (.arr ty_int 1 (x.2.2.1.map nV)), some (.arr ty_int 1 (x.2.2.2.map nV))]⟩)
    (fun x => x.1 ≤ s.length ∧ MInv N.n (x.1 + 1) x.2.1 x.2.2.1 ∧ Low (x.1 + 1) x.2.1 ∧ mtGo N x.1 (s.drop x.1) x.2.1 x.2.2.1 = R) (fun x => s.length - x.1) [.r 11 ty_int 1] _ (0, sn0, now0, []) rfl (by simp [rowsV]) ⟨by simp, hM0, hL0, by simpa using hR⟩ ?_
   clear hR
   rintro ⟨i, sn, now, nx⟩ ⟨hi, hMi, hLi, hgo⟩ M hM
   simp only at hi hMi hLi hgo
   have hsl := hMi.len
   have hnl2 := nodup_le N.n now hMi.nodup hMi.lt
   rcases place s i hi with ⟨he, hd⟩ | ⟨hlt, b, hb, hd⟩ <;> rw [hd] at hgo
   · obtain ⟨v, hv⟩ := get_lt (l := sn) (k := N.stop) (by rw [hsl]; exact hN.stop)
     have hst2 := hN.stop
     simp only [mtGo, hv, Option.some.injEq] at hgo
     clear hM
     replace hgo := hid hgo
     simp (disch := omega) [-List.reduceReplicate, rowsV, he, hst2, hv]
     have hgo := hgo.out
     rw [← hgo]
     congr 1
     exact propext (by omega)
   · obtain ⟨sn', now', hcl, hM1, hL1⟩ := stepM (b := b.toNat) hN hMi hLi
     have hfr : MInv N.n (i + 2) sn [] := MInv.fresh (mark := i + 1) hsl hLi
     simp only [mtGo, hcl] at hgo
     rw [hrw] at hcl
     by_cases hnow : now = []
     · subst hnow
       simp only [if_true] at hgo
       subst hgo
       clear hM
       simp (disch := omega) [-List.reduceReplicate, rowsV]
     · rw [if_neg hnow] at hgo
       have hnow2 : ¬ now.length = 0 := fun h => hnow (List.length_eq_zero_iff.1 h)
       have hnow3 : ¬ (now.length : Int) = 0 := by omega
       replace hgo := hid hgo
       obtain ⟨T, hT⟩ : ∃ T, T = stGo rows (i + 2) b.toNat now sn [] := ⟨_, rfl⟩
       rw [← hT] at hcl
       have hTM : MInv N.n (i + 2) T.1 T.2 := by rw [hT, ← hrw]; exact (stGo_inv (b := b.toNat) (rowsE_to hN) now sn [] hfr).1
       have hTl := nodup_le N.n T.2 hTM.nodup hTM.lt
       replace hcl := hid hcl
       simp (disch := omega) [-List.reduceReplicate, rowsV, hnow2, hnow3, hnow, wact]
       refine W_loop (fun (x : Nat × List Nat × List Nat) => ⟨[(1, .str s), (5, .ptr 0 0), (6, rowsV rows), (9, .ref 1 N.n), (10, .ref 2 now.length), (11, .ref 3 x.2.2.length), (12, nV i), (13, nV (i + 2)), (69, .ref 2 now.length), (70, nV now.length), (71, nV x.1)],
        [some (.box [nV N.n, nV N.start, nV N.stop, .seq 4 (N.edges.map NEdge.v)]), some (.arr ty_int 1 (x.2.1.map nV)), some (.arr ty_int 1 (now.map nV)), some (.arr ty_int 1 (x.2.2.map nV))]⟩)
        (fun x => x.1 ≤ now.length ∧ MInv N.n (i + 2) x.2.1 x.2.2 ∧ stGo rows (i + 2) b.toNat (now.drop x.1) x.2.1 x.2.2 = T) (fun x => now.length - x.1) [] _ (0, sn, []) rfl (by simp [rowsV]) ⟨by simp, hfr, by simp [hT]⟩ ?_
       clear hT
       rintro ⟨j, sn2, nx2⟩ ⟨hj, hM2, hrow⟩ M2 hN2
       simp only at hj hM2 hrow
       have hsl2 := hM2.len
       rcases place now j hj with ⟨he2, hd2⟩ | ⟨hlt2, q, hq, hd2⟩ <;> rw [hd2] at hrow
       · simp only [stGo] at hrow
         subst hrow
         clear hN2
         have hnx2 : nx2.length ≤ N.n := by simpa using hTl
         simp (disch := omega) [-List.reduceReplicate, rowsV, he2]
         refine wcallH_mk [1] 1 [1, 3] (by simp [hsl2]) (by simp [rowsV]) (by simp [rowsV]) (by simp) (f_regex_closed hRO (by omega) (i + 2) (N.n + 1) (by omega) (by omega) sn2 nx2 sn' now' hsl2 hM2.lt (by omega) hcl.out) (by simp) fun _ _ => ?_
         simp (disch := omega) [-List.reduceReplicate]
         exact hM.out _ <| Nx.mk (i + 1, sn', now', now) (by simp [rowsV]) ⟨by simp only; omega, hM1, hL1, by simpa using hgo.out⟩ (by simp only; omega)
       · have hqn := hM2.lt
         have hqn : q < N.n := hMi.lt q (List.mem_of_getElem? hq)
         obtain ⟨r, hrr⟩ := get_lt (l := rows) (k := q) (by rw [hRO.len]; exact hqn)
         have hrm := List.mem_of_getElem? hrr
         have hrl := hRO.few r hrm
         simp only [stGo, hrr, Option.getD_some] at hrow
         obtain ⟨T2, hT2⟩ : ∃ T2, T2 = stRow (i + 2) b.toNat r sn2 nx2 := ⟨_, rfl⟩
         have hT2M : MInv N.n (i + 2) T2.1 T2.2 := by rw [hT2]; exact (stRow_inv (b := b.toNat) r sn2 nx2 hM2 fun e he => (hRO.to r hrm e he).1).1
         rw [← hT2] at hrow
         replace hrow := hid hrow
         simp (disch := omega) [-List.reduceReplicate, rowsV, hq, hrr]
         refine W_loop (fun (x : Nat × List Nat × List Nat) => ⟨[(1, .str s), (5, .ptr 0 0), (6, rowsV rows), (9, .ref 1 N.n), (10, .ref 2 now.length), (11, .ref 3 x.2.2.length), (12, nV i), (13, nV (i + 2)), (69, .ref 2 now.length), (70, nV now.length), (71, nV j), (78, .seq 4 (r.map NEdge.v)), (79, nV r.length), (80, nV x.1)],
          [some (.box [nV N.n, nV N.start, nV N.stop, .seq 4 (N.edges.map NEdge.v)]), some (.arr ty_int 1 (x.2.1.map nV)), some (.arr ty_int 1 (now.map nV)), some (.arr ty_int 1 (x.2.2.map nV))]⟩)
          (fun x => x.1 ≤ r.length ∧ MInv N.n (i + 2) x.2.1 x.2.2 ∧ stRow (i + 2) b.toNat (r.drop x.1) x.2.1 x.2.2 = T2) (fun x => r.length - x.1) [] _ (0, sn2, nx2) rfl (by simp [rowsV]) ⟨by simp, hM2, by simp [hT2]⟩ ?_
         clear hT2
         rintro ⟨k, sn3, nx3⟩ ⟨hk3, hM3, hrow3⟩ M3 hN3
         simp only at hk3 hM3 hrow3
         have hsl3 := hM3.len
         have hnl3 := nodup_le N.n nx3 hM3.nodup hM3.lt
         rcases place r k hk3 with ⟨he3, hd3⟩ | ⟨hlt3, e, hre, hd3⟩ <;> rw [hd3] at hrow3
         · simp only [stRow] at hrow3
           subst hrow3
           clear hN3
           simp (disch := omega) [-List.reduceReplicate, rowsV, he3]
           exact hN2.out _ <| Nx.mk (j + 1, sn3, nx3) (by simp [rowsV]) ⟨by simp only; omega, hM3, by simpa using hrow.out⟩ (by simp only; omega)
         · obtain ⟨g1, g2, g3⟩ := hRO.to r hrm e (List.mem_of_getElem? hre)
           obtain ⟨v, hv⟩ := get_lt (l := sn3) (k := e.to) (by omega)
           simp only [stRow, hv, Option.some.injEq] at hrow3
           have hb8 := b.toNat_lt
           clear hM hN2
           by_cases c1 : e.low ≤ b.toNat
           · by_cases c2 : b.toNat ≤ e.high
             · by_cases c3 : v = i + 2
               · rw [if_neg (fun h => h.2 c3)] at hrow3
                 have c3' : (v : Int) = (i : Int) + 2 := by omega
                 replace hrow3 := hid hrow3
                 simp (disch := omega) [-List.reduceReplicate, rowsV, hre, hb, c1, c2, hsl3, hv, c3, c3', g1]
                 exact hN3.out _ <| Nx.mk (k + 1, sn3, nx3) (by simp [rowsV]) ⟨by simp only; omega, hM3, hrow3.out⟩ (by simp only; omega)
               · rw [if_pos ⟨⟨c1, c2⟩, c3⟩] at hrow3
                 have c3' : ¬ (v : Int) = (i : Int) + 2 := by omega
                 have hadd := hM3.add g1 (by rw [hv]; simpa using c3)
                 replace hrow3 := hid hrow3
                 simp (disch := omega) [-List.reduceReplicate, rowsV, hre, hb, c1, c2, hsl3, hv, c3, c3', g1]
                 exact hN3.out _ <| Nx.mk (k + 1, sn3.set e.to (i + 2), nx3 ++ [e.to]) (by simp [rowsV, List.map_set]) ⟨by simp only; omega, hadd, hrow3.out⟩ (by simp only; omega)
             · rw [if_neg (fun h => c2 h.1.2)] at hrow3
               replace hrow3 := hid hrow3
               simp (disch := omega) [-List.reduceReplicate, rowsV, hre, hb, c1, c2]
               exact hN3.out _ <| Nx.mk (k + 1, sn3, nx3) (by simp [rowsV]) ⟨by simp only; omega, hM3, hrow3.out⟩ (by simp only; omega)
           · rw [if_neg (fun h => c1 h.1.1)] at hrow3
             replace hrow3 := hid hrow3
             simp (disch := omega) [-List.reduceReplicate, rowsV, hre, hb, c1]
             exact hN3.out _ <| Nx.mk (k + 1, sn3, nx3) (by simp [rowsV]) ⟨by simp only; omega, hM3, hrow3.out⟩ (by simp only; omega)
end Go.Abs
end
section
set_option maxRecDepth 100000
set_option maxHeartbeats 1000000
namespace Go.Abs
open Go.Proofs Go.Aut
theorem matchX : MatchX := fun x N v hN hl hne hnet hv => f_Match_to hN hl hnet hne v (Nat.le_trans hv (by decide)) (mtP N v) rfl
theorem f_law12_LangAllows (c : F.Constraint) (s : Str) : FnE Tryz.prog n_law12_LangAllows [c.v, .str s] (.bool true) :=
 f_law12_LangAllows_of2 matchX c s
end Go.Abs
end
