/-
  What an automaton's classes are. No condition.
-/
import Derived.Test.YtpblinccnkidfaaDoorD5
set_option linter.unusedVariables false
set_option linter.unusedSimpArgs false
set_option maxHeartbeats 4000000
set_option maxRecDepth 100000
namespace Go.Abs
open Go.Proofs Go.Aut
attribute [-simp] getElem?_pos Option.not_isSome List.map_map
/-- A row that is being filled. -/
def fillF (f : Nat → V) (n : Nat) (acc : List Nat) : List V := (acc ++ List.replicate (n - acc.length) 0).map f
section
variable {f : Nat → V} {n : Nat} {acc : List Nat}
theorem fillF_len (h : acc.length ≤ n) : (fillF f n acc).length = n := by simp [fillF]; omega
theorem fillF_eq (h : acc.length < n) : fillF f n acc = acc.map f ++ f 0 :: (List.replicate (n - (acc.length + 1)) 0).map f := by
  obtain ⟨m, hm⟩ : ∃ m, n - acc.length = m + 1 := ⟨n - acc.length - 1, by omega⟩
  have h2 : n - (acc.length + 1) = m := by omega
  simp only [fillF, hm, h2, List.replicate_succ, List.map_append, List.map_cons]
theorem fillF_snoc (k : Nat) : fillF f n (acc ++ [k]) = acc.map f ++ f k :: (List.replicate (n - (acc.length + 1)) 0).map f := by
  simp [fillF]
theorem fillF_set (h : acc.length < n) (k : Nat) : (fillF f n acc).set acc.length (f k) = fillF f n (acc ++ [k]) := by
  rw [fillF_eq h, fillF_snoc, List.set_append_right _ _ (by simp)]
  simp
theorem fillF_get (h : acc.length < n) : (fillF f n acc)[acc.length]? = some (f 0) := by
  rw [fillF_eq h, List.getElem?_append_right (by simp)]
  simp
theorem fillF_full (h : acc.length = n) : fillF f n acc = acc.map f := by simp [fillF, h]
theorem fillF_nil : List.replicate n (f 0) = fillF f n [] := by simp [fillF]
theorem fillF_zero (h : acc.length < n) : fillF f n (acc ++ [0]) = fillF f n acc := by rw [fillF_eq h, fillF_snoc]
theorem fillF_splice (h : acc.length < n) (k : Nat) : List.take acc.length (fillF f n acc) ++ f k :: List.drop (acc.length + 1) (fillF f n acc) = fillF f n (acc ++ [k]) := by
  rw [fillF_eq h, fillF_snoc]
  congr 1
  · rw [List.take_append_of_le_length (by simp), List.take_of_length_le (by simp)]
  · congr 1
    rw [List.drop_append, List.drop_of_length_le (by simp)]
    simp
end
section
variable (acc : List Nat) (n : Nat) (hp : List (Option Ob)) (m : List Nat)
@[simp] theorem vidss_fill : vidss (fillF u16V n acc) = [] := vidss_u16 _
@[simp] theorem purs_fill : purs hp (fillF u16V n acc) = some (fillF u16V n acc) := purs_u16 _ _
@[simp] theorem rens_fill : rens m (fillF u16V n acc) = fillF u16V n acc := rens_u16 _ _
@[simp] theorem bcks_fill : bcks m (fillF u16V n acc) = fillF u16V n acc := bcks_u16 _ _
end
/-- What keys have been met, as it lies in memory: its first three objects are others. -/
def ckH (cls fin : List V) (l : List (List Nat)) : List (Option Ob) := [some (.arr ty_int 1 cls), some (.box [.ref 3 0, .ref 4 l.length]), some (.arr ty_int 1 fin), some (.mp ktK (ents kcV 0 l)), some (.arr ty_dfa_key 96 (l.map kcV))]
def ckE (cls fin : List V) : List (Option Ob) := [some (.arr ty_int 1 cls), some (.box [.ref 3 0, .nil 96]), some (.arr ty_int 1 fin), some (.mp ktK [])]
def ck (cls fin : List V) (l : List (List Nat)) : List (Option Ob) := if l = [] then ckE cls fin else ckH cls fin l
def cjH (cls fin key : List V) (l : List (List Nat)) : List (Option Ob) := [some (.arr ty_int 1 cls), some (.box [.ref 4 0, .ref 5 l.length]), some (.arr ty_int 1 fin), some (.box key), some (.mp ktK (ents kcV 0 l)), some (.arr ty_dfa_key 96 (l.map kcV))]
def cjE (cls fin key : List V) : List (Option Ob) := [some (.arr ty_int 1 cls), some (.box [.ref 4 0, .nil 96]), some (.arr ty_int 1 fin), some (.box key), some (.mp ktK [])]
def cj (cls fin key : List V) (l : List (List Nat)) : List (Option Ob) := if l = [] then cjE cls fin key else cjH cls fin key l
theorem f_dfa_classes (nx : List (List Nat)) (fi : List Bool) (n : Nat) (hn : rowsOK n nx) (hnl : nx.length = n) (h0 : 0 < n) (hn5 : n ≤ 10000) (hfi : fi.length = n) (cls : List Nat) (hc : classesP nx fi = some cls) : FnN Tryd.prog n_dfa_classes [nextN nx, finN fi] (rowN cls) := by
  refine FnN.of_imageE mixed h_dfa_classes i_dfa_classes rfl fun ho => ?_
  unfold c_dfa_classes
  clear ho
  obtain ⟨R, hR⟩ : ∃ R, R = rowN cls := ⟨_, rfl⟩
  rw [← hR]
  simp (disch := omega) [-List.reduceReplicate, hnl]
  obtain ⟨bs, hbs⟩ : ∃ bs, bs = fi.map b01 := ⟨_, rfl⟩
  have hbl : bs.length = n := by simp [hbs, hfi]
  refine W_loop (fun (k : Nat) => ⟨[(0, nextN nx), (5, .ref 0 n), (19, finN fi), (20, .int .i64 fi.length), (21, .int .i64 k)], [some (.arr ty_int 1 (fillF nV n (bs.take k)))]⟩) (fun k => k ≤ fi.length) (fun k => fi.length - k) [] _ 0 rfl (by simp [-List.reduceReplicate, ← fillF_nil, hnl]) (by simp) ?_
  intro k hk N hN
  rcases place fi k hk with ⟨he, hd⟩ | ⟨hlt, x, hx, hd⟩
  · subst he
    have ht : bs.take fi.length = bs := List.take_of_length_le (by omega)
    have hfl : fillF nV n bs = bs.map nV := fillF_full hbl
    have hc' : clsGo nx (n + 2) bs 0 = some cls := by rw [hbs, ← hnl]; exact hc
    clear hN hd hc
    simp (disch := omega) [-List.reduceReplicate, ht, hfl]
    refine W_loop (fun (x : Nat × List Nat × Nat) => ⟨[(0, nextN nx), (5, .ref 0 n), (8, nV x.2.2)], [some (.arr ty_int 1 (x.2.1.map nV))]⟩) (fun x => x.2.1.length = n ∧ (∀ v ∈ x.2.1, v ≤ 10000) ∧ clsGo nx x.1 x.2.1 x.2.2 = some cls) (fun x => x.1) [] _ (n + 2, bs, 0) rfl (by simp) ⟨hbl, ?_, hc'⟩ ?_
    · intro v hv
      rw [hbs] at hv
      obtain ⟨b, _, rfl⟩ := List.mem_map.1 hv
      cases b <;> simp [b01]
    clear hbs hbl ht hfl hc' bs
    rintro ⟨f, cl, cnt⟩ ⟨hcl, hcv, hgo⟩ N hN
    simp only at hcl hcv hgo
    cases f with
    | zero => simp [clsGo] at hgo
    | succ f =>
    simp only [clsGo, hnl] at hgo
    obtain ⟨T, hT⟩ : ∃ T, T = rowGo eqB (Aut.keyOf nx cl) n 0 [] := ⟨_, rfl⟩
    rw [← hT] at hgo
    replace hgo := hid hgo
    simp (disch := omega) [-List.reduceReplicate]
    refine wcallH_mk [] 0 [] (by simp) (by simp) (by simp) (by simp) f_meet_key (by simp) fun _ _ => ?_
    simp (disch := omega) [-List.reduceReplicate, hnl]
    refine W_loop (fun (x : List Nat × List (List Nat)) => ⟨[(0, nextN nx), (5, .ref 0 n), (8, nV cnt), (9, .ptr 1 0), (10, .ref 2 n), (35, nextN nx), (36, .int .i64 n), (37, nV x.1.length)], ck (cl.map nV) (fillF nV n x.1) x.2⟩)
      (fun x => x.1.length ≤ n ∧ x.2.length ≤ x.1.length ∧ (x.1 = [] ↔ x.2 = []) ∧ (x.1 ++ (rowGo eqB (Aut.keyOf nx cl) (n - x.1.length) x.1.length x.2).1, (rowGo eqB (Aut.keyOf nx cl) (n - x.1.length) x.1.length x.2).2) = T)
      (fun x => n - x.1.length) [] _ ([], []) rfl (by simp [-List.reduceReplicate, ck, ckE, ← fillF_nil]) ⟨by simp, by simp, by simp, by simp [hT]⟩ ?_
    rintro ⟨acc, l⟩ ⟨hal, hll, hnil, hi⟩ M hM
    simp only at hal hll hnil hi
    rcases Nat.lt_or_ge acc.length n with hlt | hge
    · obtain ⟨row, hrow⟩ := get_lt (l := nx) (k := acc.length) (by omega)
      obtain ⟨hr1, hr2⟩ := hn row (List.mem_of_getElem? hrow)
      obtain ⟨c0, hc0⟩ := get_lt (l := cl) (k := acc.length) (by omega)
      have hc0v := hcv c0 (List.mem_of_getElem? hc0)
      have hfln := fillF_len (f := nV) (n := n) (acc := acc) (by omega)
      obtain ⟨m', hm'⟩ : ∃ m', n - acc.length = m' + 1 := ⟨n - acc.length - 1, by omega⟩
      have hm2 : n - (acc.length + 1) = m' := by omega
      rw [hm'] at hi
      simp only [rowGo] at hi
      replace hi := hid hi
      have next : ∀ (τ : St), τ.nrm [0, 5, 8, 9, 10, 35, 36, 37] = ⟨[(0, nextN nx), (5, .ref 0 n), (8, nV cnt), (9, .ptr 1 0), (10, .ref 2 n), (35, nextN nx), (36, .int .i64 n), (37, nV (acc.length + 1))], ck (cl.map nV) (fillF nV n (acc ++ [addN eqB l (Aut.keyOf nx cl acc.length)])) (addL eqB l (Aut.keyOf nx cl acc.length))⟩ → M τ := by
        intro τ hτ
        have h3 := addL_le l (Aut.keyOf nx cl acc.length)
        refine hM.out τ <| Nx.mk (acc ++ [addN eqB l (Aut.keyOf nx cl acc.length)], addL eqB l (Aut.keyOf nx cl acc.length)) (by simpa using hτ) ⟨by simp; omega, by simp; omega, ?_, ?_⟩ (by simp; omega)
        · simp only [List.append_eq_nil_iff, List.cons_ne_nil, and_false, false_iff]
          unfold addL
          split
          · intro h
            rename_i h2
            rw [h] at h2
            simp [pos] at h2
          · simp
        · have := hi.out
          rw [← this]
          simp [hm2]
      replace next := hid next
      cases l with
      | nil =>
        have : acc = [] := hnil.2 rfl
        subst this
        simp only [List.length_nil] at hc0 hrow
        simp (disch := omega) [-List.reduceReplicate, ck, ckE, hrow, hc0, hcl, hfln]
        have hkey0 : V.int .u16 (c0 : Int) :: List.replicate 95 (V.int .u16 0) = fillF u16V 96 [c0] := by simp [-List.reduceReplicate, fillF, u16V]
        refine W_loop (fun (j : Nat) => ⟨[(0, nextN nx), (5, .ref 0 n), (8, nV cnt), (9, .ptr 1 0), (10, .ref 2 n), (11, .int .i64 0), (13, .ptr 3 0), (35, nextN nx), (36, .int .i64 n), (37, .int .i64 0), (48, rowN row), (49, .int .i64 95), (50, .int .i64 j)], cjE (cl.map nV) (fillF nV n []) (fillF u16V 96 (c0 :: (row.take j).map fun t => (cl[t]?).getD 0))⟩) (fun j => j ≤ 95) (fun j => 95 - j) [] _ 0 rfl (by simp [-List.reduceReplicate, cjE, hr1, hkey0]) (by simp) ?_
        intro j hj P hP
        have hjl : (c0 :: (row.take j).map fun t => (cl[t]?).getD 0).length = j + 1 := by simp; omega
        rcases Nat.lt_or_ge j 95 with hj95 | hj95
        · obtain ⟨t, ht⟩ := get_lt (l := row) (k := j) (by omega)
          obtain ⟨v, hv⟩ := get_lt (l := cl) (k := t) (by rw [hcl]; have := hr2 t (List.mem_of_getElem? ht); omega)
          have hvv := hcv v (List.mem_of_getElem? hv)
          have hsp := fillF_splice (f := u16V) (n := 96) (acc := c0 :: (row.take j).map fun t => (cl[t]?).getD 0) (by omega) v
          have hkl := fillF_len (f := u16V) (n := 96) (acc := c0 :: (row.take j).map fun t => (cl[t]?).getD 0) (by omega)
          have htk : (c0 :: (row.take (j + 1)).map fun t => (cl[t]?).getD 0) = (c0 :: (row.take j).map fun t => (cl[t]?).getD 0) ++ [v] := by rw [take_snoc ht]; simp [hv]
          obtain ⟨ac, hac⟩ : ∃ ac, ac = (c0 :: (row.take j).map fun t => (cl[t]?).getD 0) := ⟨_, rfl⟩
          rw [← hac] at hjl hsp hkl htk ⊢
          rw [hjl] at hsp
          simp only [u16V] at hsp
          have htl : t < n := hr2 t (List.mem_of_getElem? ht)
          have hjn : (1 + (j : Int)).toNat = j + 1 := by omega
          simp (disch := omega) [-List.reduceReplicate, cjE, ht, hv, hcl, hkl, hjl, hjn, hsp]
          exact hP.out _ <| Nx.mk (j + 1) (by rw [htk]; simp [cjE]) (by omega) (by omega)
        · have hj0 : j = 95 := by omega
          subst hj0
          have hrt : row.take 95 = row := List.take_of_length_le (by omega)
          obtain ⟨key, hkey⟩ : ∃ key, key = Aut.keyOf nx cl 0 := ⟨_, rfl⟩
          have hkd : (c0 :: row.map fun t => (cl[t]?).getD 0) = key := by rw [hkey, key_some hrow]; simp [hc0]
          rw [hrt, hkd] at hjl ⊢
          have hkf : fillF u16V 96 key = key.map u16V := fillF_full hjl
          have htk : List.take 96 (key.map u16V) = key.map u16V := List.take_of_length_le (by simp; omega)
          have hg := fillF_get (f := nV) (n := n) (acc := []) (by simp; omega)
          have hs := fillF_set (f := nV) (n := n) (acc := []) (by simp; omega) 0
          simp only [List.length_nil, nV] at hg hs
          rw [hkf]
          simp (disch := omega) [-List.reduceReplicate, cjE, hjl, htk]
          refine wcallH_mk [0] 1 [1, 4] (by simp) (by simp) (by simp [kcV]) (by simp) (f_met_add_key_nil key hjl) (by simp) fun _ _ => ?_
          replace hs : (fillF nV n []).set 0 (.int .i64 0) = fillF nV n [0] := hs
          simp (disch := omega) [-List.reduceReplicate, hg, hs, hfln]
          have e1 : addN eqB ([] : List (List Nat)) key = 0 := rfl
          have e2 : addL eqB ([] : List (List Nat)) key = [key] := rfl
          refine next.out _ ?_
          rw [List.length_nil, ← hkey, e1, e2]
          simp [ck, ckH]
      | cons k0 l0 =>
        simp (disch := omega) [-List.reduceReplicate, ck, ckH, hrow, hc0, hcl, hfln]
        have hkey0 : V.int .u16 (c0 : Int) :: List.replicate 95 (V.int .u16 0) = fillF u16V 96 [c0] := by simp [-List.reduceReplicate, fillF, u16V]
        refine W_loop (fun (j : Nat) => ⟨[(0, nextN nx), (5, .ref 0 n), (8, nV cnt), (9, .ptr 1 0), (10, .ref 2 n), (11, nV acc.length), (13, .ptr 3 0), (35, nextN nx), (36, .int .i64 n), (37, nV acc.length), (48, rowN row), (49, .int .i64 95), (50, .int .i64 j)], cjH (cl.map nV) (fillF nV n acc) (fillF u16V 96 (c0 :: (row.take j).map fun t => (cl[t]?).getD 0)) (k0 :: l0)⟩) (fun j => j ≤ 95) (fun j => 95 - j) [] _ 0 rfl (by simp [-List.reduceReplicate, cjH, hr1, hkey0]) (by simp) ?_
        intro j hj P hP
        have hjl : (c0 :: (row.take j).map fun t => (cl[t]?).getD 0).length = j + 1 := by simp; omega
        rcases Nat.lt_or_ge j 95 with hj95 | hj95
        · obtain ⟨t, ht⟩ := get_lt (l := row) (k := j) (by omega)
          obtain ⟨v, hv⟩ := get_lt (l := cl) (k := t) (by rw [hcl]; have := hr2 t (List.mem_of_getElem? ht); omega)
          have hvv := hcv v (List.mem_of_getElem? hv)
          have hsp := fillF_splice (f := u16V) (n := 96) (acc := c0 :: (row.take j).map fun t => (cl[t]?).getD 0) (by omega) v
          have hkl := fillF_len (f := u16V) (n := 96) (acc := c0 :: (row.take j).map fun t => (cl[t]?).getD 0) (by omega)
          have htk : (c0 :: (row.take (j + 1)).map fun t => (cl[t]?).getD 0) = (c0 :: (row.take j).map fun t => (cl[t]?).getD 0) ++ [v] := by rw [take_snoc ht]; simp [hv]
          obtain ⟨ac, hac⟩ : ∃ ac, ac = (c0 :: (row.take j).map fun t => (cl[t]?).getD 0) := ⟨_, rfl⟩
          rw [← hac] at hjl hsp hkl htk ⊢
          rw [hjl] at hsp
          simp only [u16V] at hsp
          have htl : t < n := hr2 t (List.mem_of_getElem? ht)
          have hjn : (1 + (j : Int)).toNat = j + 1 := by omega
          simp (disch := omega) [-List.reduceReplicate, cjH, ht, hv, hcl, hkl, hjl, hjn, hsp]
          exact hP.out _ <| Nx.mk (j + 1) (by rw [htk]; simp [cjH]) (by omega) (by omega)
        · have hj0 : j = 95 := by omega
          subst hj0
          have hrt : row.take 95 = row := List.take_of_length_le (by omega)
          obtain ⟨key, hkey⟩ : ∃ key, key = Aut.keyOf nx cl acc.length := ⟨_, rfl⟩
          have hkd : (c0 :: row.map fun t => (cl[t]?).getD 0) = key := by rw [hkey, key_some hrow]; simp [hc0]
          rw [hrt, hkd] at hjl ⊢
          have hkf : fillF u16V 96 key = key.map u16V := fillF_full hjl
          have htk : List.take 96 (key.map u16V) = key.map u16V := List.take_of_length_le (by simp; omega)
          have hg := fillF_get (f := nV) (n := n) (acc := acc) (by omega)
          have hs := fillF_set (f := nV) (n := n) (acc := acc) (by omega) (addN eqB (k0 :: l0) key)
          simp only [nV] at hg hs
          rw [hkf]
          simp (disch := omega) [-List.reduceReplicate, cjH, hjl, htk]
          refine wcallH_mk [0] 1 [1, 4, 5] (by simp) (by simp) (by simp [kcV]) (by simp) (f_met_add_key (k0 :: l0) key (by omega) hjl) (by simp) fun _ _ => ?_
          simp (disch := omega) [-List.reduceReplicate, hg, hs, hfln]
          refine next.out _ ?_
          rw [← hkey]
          obtain ⟨k1, l1, hkl1⟩ : ∃ k1 l1, addL eqB (k0 :: l0) key = k1 :: l1 := by unfold addL; split <;> exact ⟨_, _, rfl⟩
          simp [ck, ckH, hkl1]
    · have hacc : acc.length = n := by omega
      have h00 : n - acc.length = 0 := by omega
      rw [h00] at hi
      simp only [rowGo, List.append_nil] at hi
      have hne : l ≠ [] := fun h => by have := hnil.2 h; subst this; simp at hacc; omega
      obtain ⟨k1, lr, rfl⟩ : ∃ k1 lr, l = k1 :: lr := by cases l with | nil => exact absurd rfl hne | cons a b => exact ⟨a, b, rfl⟩
      have hff : fillF nV n acc = acc.map nV := fillF_full hacc
      have hgo := hgo.out
      rw [← hi] at hgo
      simp only at hgo
      split at hgo
      · rename_i heq
        simp only [Option.some.injEq] at hgo
        subst hgo
        have hce : (lr.length : Int) + 1 = cnt := by simp at heq; omega
        simp (disch := omega) [-List.reduceReplicate, ck, ckH, hacc, hff, hce, hR]
        exact flats_map (fun _ => rfl) acc
      · rename_i hne2
        have hce : ¬((lr.length : Int) + 1 = cnt) := by simp at hne2; omega
        have hlen2 := rowGo_len2 (e := eqB) (Aut.keyOf nx cl) n 0 []
        have hltv := fun v => rowGo_lt (e := eqB) eqB_refl (Aut.keyOf nx cl) n [] 0 (v := v)
        rw [← hT, ← hi] at hlen2
        rw [← hT, ← hi] at hltv
        simp only [List.length_nil, Nat.zero_add] at hlen2
        simp (disch := omega) [-List.reduceReplicate, ck, ckH, hacc, hff, hce]
        exact hN.out _ <| Nx.mk (f, acc, (k1 :: lr).length) (by simp) ⟨hacc, fun v hv => by have := hltv v hv; simp only at this; omega, hgo⟩ (by simp)
  · have hak : (bs.take k).length = k := by simp; omega
    have hbx : bs[k]? = some (b01 x) := by simp [hbs, hx]
    have hl := fillF_len (f := nV) (n := n) (acc := bs.take k) (by omega)
    have hg := fillF_get (f := nV) (n := n) (acc := bs.take k) (by omega)
    have hs := fillF_set (f := nV) (n := n) (acc := bs.take k) (by omega)
    rw [hak] at hg hs
    have h1 := hs (b01 x)
    rw [← take_snoc hbx] at h1
    simp only [nV] at hg
    simp (disch := omega) [-List.reduceReplicate, hx]
    refine BrK.mk (fun h => ?_) (fun h => ?_)
    · subst h
      replace h1 : (fillF nV n (bs.take k)).set k (.int .i64 1) = fillF nV n (bs.take (k + 1)) := h1
      simp (disch := omega) [-List.reduceReplicate, hg, hl, h1]
      exact hN.out _ <| Nx.mk (k + 1) (by simp) (by omega) (by omega)
    · subst h
      simp (disch := omega) [-List.reduceReplicate]
      refine hN.out _ <| Nx.mk (k + 1) (by rw [take_snoc hbx, show b01 false = 0 from rfl, fillF_zero (by omega)]; simp) (by omega) (by omega)
end Go.Abs
