/-
  A net's steps by each sign, and the signs that its edges tell apart. No condition.
-/
import Derived.Test.YtpblinccnkidfaaDoorD12
set_option linter.unusedVariables false
set_option linter.unusedSimpArgs false
set_option maxHeartbeats 1000000
set_option maxRecDepth 100000
namespace Go.Abs
open Go.Proofs Go.Aut
attribute [-simp] getElem?_pos Option.not_isSome List.map_map
/-- The set of what is reached from a state by no sign. -/
def closedS (N : Net) (q : Nat) : List Nat := setW (closedL N.edges N.n q)
def joinAt (ws : List Nat) (i : Nat) (t : List (List Nat)) (c : Nat) : List (List Nat) := match t[i]? with
  | some r => t.set i (mixW 8 (8 * (c - 32)) r ws)
  | none => t
def loE (e : NEdge) : Nat := if e.low < 32 then 32 else e.low
def hiE (e : NEdge) : Nat := if 126 < e.high then 126 else e.high
def stepE (N : Net) (t : List (List Nat)) (e : NEdge) : List (List Nat) := (List.range' (loE e) (hiE e + 1 - loE e)).foldl (joinAt (closedS N e.to) e.fr) t
def zeroR : List Nat := List.replicate 760 0
def stepsP (N : Net) : List (List Nat) := N.edges.foldl (stepE N) (List.replicate N.n zeroR)
theorem closedL_lt {N : Net} (h : N.ok) {q : Nat} (hq : q < N.n) : (∀ p ∈ closedL N.edges N.n q, p < 512) ∧ (closedL N.edges N.n q).length ≤ 1000000 := by
  have hto : ∀ e ∈ N.edges, e.to < N.n := fun e he => (h.ends e he).2.1
  have hle := h.le
  refine ⟨fun p hp => ?_, ?_⟩
  · have := ((mem_closedL hto hq).1 hp).lt hto hq
    omega
  · have : ∀ (l : List Bool) (q : Nat), (statesL q l).length ≤ l.length := by
      intro l
      induction l with
      | nil => intro q; simp [statesL]
      | cons b l ih =>
        intro q
        have := ih (q + 1)
        simp only [statesL]
        split <;> simp <;> omega
    have h1 := this (closedB N.edges N.n q) 0
    rw [(closedB_spec hto hq).1] at h1
    rw [closedL]
    omega
theorem closedS_ok {N : Net} (h : N.ok) {q : Nat} (hq : q < N.n) : wOK (closedS N q) := wOK_set (closedL_lt h hq).1
structure tOK (n : Nat) (t : List (List Nat)) : Prop where
  len : t.length = n
  rows : ∀ r ∈ t, r.length = 760 ∧ ∀ w ∈ r, w < 18446744073709551616
theorem mixW_mem {k off : Nat} {r t : List Nat} (hr : ∀ w ∈ r, w < 18446744073709551616) (ht : ∀ w ∈ t, w < 18446744073709551616) : ∀ w ∈ mixW k off r t, w < 18446744073709551616 := by
  intro w hw
  simp only [mixW, List.mem_append] at hw
  rcases hw with hw | hw | hw
  · exact hr w (List.mem_of_mem_take hw)
  · have := List.mem_of_mem_take hw
    obtain ⟨i, hi⟩ := List.mem_iff_getElem?.1 this
    simp only [orW, List.getElem?_zipWith] at hi
    cases h1 : ((r.drop off).take 8)[i]? with
    | none => simp [h1] at hi
    | some a => cases h2 : t[i]? with
      | none => simp [h1, h2] at hi
      | some b =>
        simp only [h1, h2, Option.some.injEq] at hi
        rw [← hi]
        exact or_lt (hr a (List.mem_of_mem_drop (List.mem_of_mem_take (List.mem_of_getElem? h1)))) (ht b (List.mem_of_getElem? h2))
  · exact hr w (List.mem_of_mem_drop hw)
theorem tOK.join {n : Nat} {t : List (List Nat)} (h : tOK n t) {ws : List Nat} (hws : wOK ws) {i c : Nat} (hc : c - 32 < 95) : tOK n (joinAt ws i t c) := by
  unfold joinAt
  split
  · rename_i r hr
    obtain ⟨h1, h2⟩ := h.rows r (List.mem_of_getElem? hr)
    refine ⟨by simp [h.len], fun x hx => ?_⟩
    rcases List.mem_or_eq_of_mem_set hx with hx | rfl
    · exact h.rows x hx
    · exact ⟨by rw [mixW_len (by omega) hws.len (by omega), h1], mixW_mem h2 hws.lt⟩
  · exact h
theorem f_dfa_stepsOf {N : Net} (h : N.ok) (hl : N.edges.length ≤ 1000000) : Fn Tryd.prog n_dfa_stepsOf [.strct (Net.c N)] (stepsV (stepsP N)) := by
  refine Fn.of_imageE mixed h_dfa_stepsOf i_dfa_stepsOf rfl fun ho => ?_
  unfold c_dfa_stepsOf
  simp only [oks, ok, and_true] at ho
  clear ho
  have hle := h.le
  obtain ⟨R, hR⟩ : ∃ R, R = stepsP N := ⟨_, rfl⟩
  rw [← hR]
  have hcl : ∀ q, q < N.n → Fn Tryd.prog n_nfa_Closed [.strct (Net.c N), .seq 1 [nV q]] (rowN (closedL N.edges N.n q)) := fun q hq => f_nfa_Closed h hl hq
  obtain ⟨cl, hclD⟩ : ∃ cl, cl = (List.range N.n).map (closedS N) := ⟨_, rfl⟩
  have hcll : cl.length = N.n := by simp [hclD]
  have hclg : ∀ q, q < N.n → cl[q]? = some (closedS N q) := fun q hq => by rw [hclD, List.getElem?_map, List.getElem?_range hq]; rfl
  simp (disch := omega) [-List.reduceReplicate]
  refine W_loop (fun k : Nat => ⟨[(1, .ptr 0 0), (3, .ref 1 N.n), (13, .int .i64 N.n), (14, nV k)], [some (.box (Net.c N)), some (.arr ty_dfa_set 8 (fillG rowW zeroW N.n (cl.take k)))]⟩) (fun k => k ≤ N.n) (fun k => N.n - k) [] _ 0 rfl (by simp [-List.reduceReplicate, ← fillG_nil, zero8, rowW]) (by simp) ?_
  intro k hk M hM
  rcases Nat.lt_or_ge k N.n with hlt | hge
  · have hx := hclg k hlt
    have hak : (cl.take k).length = k := by simp; omega
    have hfl := fillG_len (f := rowW) (d := zeroW) (n := N.n) (acc := cl.take k) (by omega)
    have hg := fillG_get (f := rowW) (d := zeroW) (n := N.n) (acc := cl.take k) (by omega)
    have hs := fillG_set (f := rowW) (d := zeroW) (n := N.n) (acc := cl.take k) (by omega) (closedS N k)
    rw [hak] at hg hs
    rw [← take_snoc hx] at hs
    obtain ⟨hc1, hc2⟩ := closedL_lt h hlt
    have hso := f_dfa_setOf _ hc1 hc2
    have hcc := hcl k hlt
    have h8 : ((closedS N k).map u64V).length = 8 := by simp [(closedS_ok h hlt).len]
    simp at hcc
    simp only [rowW] at hs hg
    simp (disch := omega) [-List.reduceReplicate]
    refine wcall_pure hcc (by simp) fun _ => ?_
    simp (disch := omega) [-List.reduceReplicate]
    refine wcall_flat hso (by simp [flat]) fun _ => ?_
    simp only [show setW (closedL N.edges N.n k) = closedS N k from rfl]
    have hz : zeroW.length = 8 := rfl
    have hcs := (closedS_ok h hlt).len
    have hzd : List.drop 8 (zeroW.map u64V) = [] := rfl
    simp (disch := omega) [-List.reduceReplicate, hfl, hg, hs, hcs, hz, hzd]
    exact hM.out _ <| Nx.mk (k + 1) (by simp) (by omega) (by omega)
  · have : k = N.n := by omega
    subst this
    have hff : fillG rowW zeroW N.n (cl.take N.n) = cl.map rowW := by rw [List.take_of_length_le (by omega)]; exact fillG_full hcll
    have hz760 : V.strct (List.replicate 760 (V.int .u64 0)) = rowW zeroR := by simp [-List.reduceReplicate, rowW, zeroR, u64V]
    simp (disch := omega) [-List.reduceReplicate, hff, hz760]
    refine W_loop (fun (x : Nat × List (List Nat)) => ⟨[(3, .ref 0 N.n), (5, .ref 1 N.n), (30, edgesV N.edges), (31, .int .i64 N.edges.length), (32, nV x.1)], [some (.arr ty_dfa_set 8 (cl.map rowW)), some (.arr ty_I95dfa_set 760 (x.2.map rowW))]⟩)
      (fun x => x.1 ≤ N.edges.length ∧ tOK N.n x.2 ∧ (N.edges.drop x.1).foldl (stepE N) x.2 = R) (fun x => N.edges.length - x.1) [] _ (0, List.replicate N.n zeroR) rfl (by simp [-List.reduceReplicate]) ⟨by simp, ⟨by simp, fun r hr => ?_⟩, by simp [hR, stepsP]⟩ ?_
    · rw [List.mem_replicate] at hr
      rw [hr.2]
      exact ⟨by simp [zeroR], fun w hw => by simp [zeroR] at hw; omega⟩
    clear hM hk hff hz760
    rintro ⟨k, t⟩ ⟨hk, ht, hi⟩ M' hM
    simp only at hk ht hi
    have htl := ht.len
    rcases place N.edges k hk with ⟨he, hd⟩ | ⟨hlt, e, hx, hd⟩ <;> rw [hd] at hi
    · simp only [List.foldl_nil] at hi
      subst hi
      simp (disch := omega) [-List.reduceReplicate, he, htl]
      rfl
    · obtain ⟨g1, g2, g3, g4⟩ := h.ends e (List.mem_of_getElem? hx)
      simp only [List.foldl_cons] at hi
      obtain ⟨T, hT⟩ : ∃ T, T = stepE N t e := ⟨_, rfl⟩
      rw [← hT] at hi
      replace hi := hid hi
      have hlo : (if (e.low : Int) < 32 then (32 : Int) else (e.low : Int)) = (loE e : Int) := by unfold loE; split <;> split <;> omega
      have hlo' : (if e.low < 32 then (32 : Int) else (e.low : Int)) = (loE e : Int) := by unfold loE; split <;> rfl
      have hhi : (if 126 < (e.high : Int) then (126 : Int) else (e.high : Int)) = (hiE e : Int) := by unfold hiE; split <;> split <;> omega
      have hlo2 : 32 ≤ loE e ∧ loE e < 256 := by unfold loE; split <;> omega
      have hhi2 : hiE e ≤ 126 := by unfold hiE; split <;> omega
      simp (disch := omega) [-List.reduceReplicate, hx, hlo]
      refine W_loop (fun (x : Nat × List (List Nat)) => ⟨[(3, .ref 0 N.n), (5, .ref 1 N.n), (7, .ptr 2 0), (8, nV x.1), (30, edgesV N.edges), (31, .int .i64 N.edges.length), (32, nV k)], [some (.arr ty_dfa_set 8 (cl.map rowW)), some (.arr ty_I95dfa_set 760 (x.2.map rowW)), some (.box (NEdge.c e))]⟩)
        (fun x => loE e ≤ x.1 ∧ x.1 ≤ 256 ∧ tOK N.n x.2 ∧ (List.range' x.1 (hiE e + 1 - x.1)).foldl (joinAt (closedS N e.to) e.fr) x.2 = T) (fun x => 256 - x.1) [] _ (loE e, t) rfl (by simp [NEdge.c, hlo']) ⟨by simp, by simp only; omega, ht, by simp [hT, stepE]⟩ ?_
      rintro ⟨c, t'⟩ ⟨hc1, hc2, ht', hj⟩ P hP
      simp only at hc1 hc2 ht' hj
      have htl' := ht'.len
      rcases Nat.lt_or_ge (hiE e) c with hgt | hle2
      · rw [show hiE e + 1 - c = 0 by omega] at hj
        simp only [List.range'_zero, List.foldl_nil] at hj
        subst hj
        simp (disch := omega) [-List.reduceReplicate, NEdge.c, hhi]
        exact hM.out _ <| Nx.mk (k + 1, t') (by simp) ⟨by simp only; omega, ht', hi.out⟩ (by simp only; omega)
      · obtain ⟨m', hm'⟩ : ∃ m', hiE e + 1 - c = m' + 1 := ⟨hiE e - c, by omega⟩
        rw [hm'] at hj
        simp only [List.range'_succ, List.foldl_cons] at hj
        obtain ⟨r, hr⟩ := get_lt (l := t') (k := e.fr) (by omega)
        obtain ⟨hr1, hr2⟩ := ht'.rows r (List.mem_of_getElem? hr)
        have hjoin := f_set_join_2 ty_I95dfa_set ty_dfa_set t' cl e.fr e.to (8 * (c - 32)) r (closedS N e.to) hr (hclg _ g2) hr2 hr1 (by omega) (closedS_ok h g2)
        have hja : joinAt (closedS N e.to) e.fr t' c = t'.set e.fr (mixW 8 (8 * (c - 32)) r (closedS N e.to)) := by simp [joinAt, hr]
        rw [← hja] at hjoin
        have ht2 := ht'.join (closedS_ok h g2) (i := e.fr) (c := c) (by omega)
        obtain ⟨t2, ht2e⟩ : ∃ t2, t2 = joinAt (closedS N e.to) e.fr t' c := ⟨_, rfl⟩
        rw [← ht2e] at hjoin hj ht2
        have hc3 : ((c : Int) - 32).toNat * 8 = 8 * (c - 32) := by omega
        have hrw : (fun r : List Nat => V.strct (r.map u64V)) = rowW := rfl
        rw [hrw] at hjoin
        simp (disch := omega) [-List.reduceReplicate, NEdge.c, hhi, htl', hcll, hc3]
        refine wcallHD_mk [0, 1] 2 [1, 0] (by simp [htl', hcll, g1, g2]) (by simp) (by simp [htl', hcll]) (by simp) hjoin (by simp) ?_
        simp (disch := omega) [-List.reduceReplicate]
        exact hP.out _ <| Nx.mk (c + 1, t2) (by simp [NEdge.c]) ⟨by simp only; omega, by simp only; omega, ht2, by simpa [show hiE e + 1 - (c + 1) = m' by omega] using hj⟩ (by simp only; omega)
/-! ### Borders -/
def markB (b : List Bool) (e : NEdge) : List Bool := if hiE e < loE e then b else
  if hiE e < 126 then (b.set (loE e - 32) true).set (hiE e + 1 - 32) true else b.set (loE e - 32) true
def bordersP (N : Net) : List Bool := N.edges.foldl markB ((List.replicate 95 false).set 0 true)
theorem markB_len (b : List Bool) (e : NEdge) : (markB b e).length = b.length := by unfold markB; split; rfl; split <;> simp
theorem vidss_bool (l : List Bool) : vidss (l.map V.bool) = [] := vidss_map (fun _ => rfl) l
theorem purs_bool (hp : List (Option Ob)) (l : List Bool) : purs hp (l.map V.bool) = some (l.map V.bool) := purs_map (fun _ => rfl) l
theorem rens_bool (m : List Nat) (l : List Bool) : rens m (l.map V.bool) = l.map V.bool := rens_map (fun _ => rfl) l
theorem bcks_bool (m : List Nat) (l : List Bool) : bcks m (l.map V.bool) = l.map V.bool := bcks_map (fun _ => rfl) l
theorem flats_bool (l : List Bool) : flats (l.map V.bool) = true := flats_map (fun _ => rfl) l
attribute [simp] vidss_bool purs_bool rens_bool bcks_bool flats_bool
theorem zero95 : List.replicate 95 (V.bool false) = (List.replicate 95 false).map V.bool := by simp [-List.reduceReplicate]
attribute [-simp] List.map_set
theorem f_dfa_borders {N : Net} (h : N.ok) (hl : N.edges.length ≤ 1000000) : Fn Tryd.prog n_dfa_borders [.strct (Net.c N)] (.strct ((bordersP N).map .bool)) := by
  refine Fn.of_image mixed h_dfa_borders i_dfa_borders rfl fun ho => ?_
  unfold c_dfa_borders
  simp only [oks, ok, and_true] at ho
  clear ho
  obtain ⟨R, hR⟩ : ∃ R, R = bordersP N := ⟨_, rfl⟩
  rw [← hR]
  obtain ⟨z, hz⟩ : ∃ z : List Bool, z = List.replicate 95 false := ⟨_, rfl⟩
  have hzl : z.length = 95 := by simp [hz]
  have hzz : List.replicate 95 (V.bool false) = z.map V.bool := by rw [hz]; exact zero95
  have hsp : V.bool true :: (z.map V.bool).tail = (z.set 0 true).map V.bool := by
    rw [hz]; rfl
  simp (disch := omega) [-List.reduceReplicate, hzz, hzl, hsp]
  refine W_loop (fun (x : Nat × List Bool) => ⟨[(2, .ptr 0 0), (3, .ptr 1 0), (10, edgesV N.edges), (11, .int .i64 N.edges.length), (12, nV x.1)], [some (.box (z.map V.bool)), some (.box (x.2.map V.bool))]⟩)
    (fun x => x.1 ≤ N.edges.length ∧ x.2.length = 95 ∧ (N.edges.drop x.1).foldl markB x.2 = R) (fun x => N.edges.length - x.1) [] _ (0, z.set 0 true) rfl (by simp) ⟨by simp, by simp [hzl], by simp [hR, bordersP, hz]⟩ ?_
  rintro ⟨k, b⟩ ⟨hk, hb, hi⟩ M hM
  simp only at hk hb hi
  rcases place N.edges k hk with ⟨he, hd⟩ | ⟨hlt, e, hx, hd⟩ <;> rw [hd] at hi
  · simp only [List.foldl_nil] at hi
    subst hi
    have hf : List.take 95 (b.map V.bool) = b.map V.bool := List.take_of_length_le (by simp; omega)
    have hf2 : List.drop 95 (z.map V.bool) = [] := List.drop_of_length_le (by simp; omega)
    simp (disch := omega) [-List.reduceReplicate, he, hb, hf, hzl, hf2]
  · obtain ⟨g1, g2, g3, g4⟩ := h.ends e (List.mem_of_getElem? hx)
    simp only [List.foldl_cons] at hi
    have hml := markB_len b e
    obtain ⟨T, hT⟩ : ∃ T, T = markB b e := ⟨_, rfl⟩
    rw [← hT] at hi hml
    replace hi := hid hi
    have hlo : (if (e.low : Int) < 32 then (32 : Int) else (e.low : Int)) = (loE e : Int) := by unfold loE; split <;> split <;> omega
    have hhi : (if 126 < (e.high : Int) then (126 : Int) else (e.high : Int)) = (hiE e : Int) := by unfold hiE; split <;> split <;> omega
    have hlo' : (if e.low < 32 then (32 : Int) else (e.low : Int)) = (loE e : Int) := by unfold loE; split <;> rfl
    have hhi' : (if 126 < e.high then (126 : Int) else (e.high : Int)) = (hiE e : Int) := by unfold hiE; split <;> rfl
    have hlo2 : 32 ≤ loE e ∧ loE e < 256 := by unfold loE; split <;> omega
    have hhi2 : hiE e ≤ 126 := by unfold hiE; split <;> omega
    obtain ⟨lo, hlod⟩ : ∃ lo, lo = loE e := ⟨_, rfl⟩
    obtain ⟨hh, hhid⟩ : ∃ hh, hh = hiE e := ⟨_, rfl⟩
    rw [← hlod] at hlo hlo' hlo2
    rw [← hhid] at hhi hhi' hhi2
    simp only [markB, ← hlod, ← hhid] at hT
    have h1 : ((lo : Int) - 32).toNat = lo - 32 := by omega
    have h2 : ((hh : Int) + 1 - 32).toNat = hh - 31 := by omega
    simp (disch := omega) [-List.reduceReplicate, hx, hlo, hhi, hlo', hhi']
    refine BrKd.mk (fun hc => ?_) (fun hc => ?_)
    · rw [if_pos (by omega)] at hT
      subst hT
      simp (disch := omega) [-List.reduceReplicate]
      exact hM.out _ <| Nx.mk (k + 1, T) (by simp) ⟨by simp only; omega, by simp only; omega, hi.out⟩ (by simp only; omega)
    · rw [if_neg (by omega)] at hT
      have hs1 := splice_set (l := b.map V.bool) (j := lo - 32) (v := .bool true) (by simp; omega)
      rw [show (b.map V.bool).set (lo - 32) (.bool true) = (b.set (lo - 32) true).map V.bool by rw [List.map_set]] at hs1
      have hs2 := splice_set (l := (b.set (lo - 32) true).map V.bool) (j := hh - 31) (v := .bool true)
      rw [show ((b.set (lo - 32) true).map V.bool).set (hh - 31) (.bool true) = ((b.set (lo - 32) true).set (hh - 31) true).map V.bool by rw [List.map_set, List.map_set, List.map_set]] at hs2
      simp (disch := omega) [-List.reduceReplicate, h1, hs1, hb]
      refine BrKd.mk (fun hc2 => ?_) (fun hc2 => ?_)
      · rw [if_pos (by omega)] at hT
        replace hs2 := hs2 (by simp; omega)
        simp (disch := omega) [-List.reduceReplicate, h2, hs2, hb]
        exact hM.out _ <| Nx.mk (k + 1, T) (by simp [hT]) ⟨by simp only; omega, by simp only; omega, hi.out⟩ (by simp only; omega)
      · rw [if_neg (by omega)] at hT
        simp (disch := omega) [-List.reduceReplicate]
        exact hM.out _ <| Nx.mk (k + 1, T) (by simp [hT]) ⟨by simp only; omega, by simp only; omega, hi.out⟩ (by simp only; omega)
end Go.Abs
