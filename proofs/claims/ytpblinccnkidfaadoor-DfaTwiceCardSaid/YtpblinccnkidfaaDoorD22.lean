/-
  What the document's automata answer: made of any, accepting. No condition.
-/
import Derived.Test.YtpblinccnkidfaaDoorD21
set_option linter.unusedVariables false
set_option linter.unusedSimpArgs false
set_option maxHeartbeats 1000000
set_option maxRecDepth 100000
namespace Go.Abs
open Go.Proofs Go.Aut
attribute [-simp] getElem?_pos Option.not_isSome List.map_map
def roundZ (x : Int) (n : Nat) : Nat := (if x < 0 then -(x + 1) else x).toNat % n
theorem f_ref11_round (x : Int) (hx : -9223372036854775808 ≤ x ∧ x ≤ 9223372036854775807) (n : Nat) (hn : 0 < n) (hn2 : n ≤ 1000) : Fn Tryd.prog n_ref11_round [.int .i64 x, nV n] (nV (roundZ x n)) := by
  refine Fn.of_image mixed h_ref11_round i_ref11_round rfl fun ho => ?_
  unfold c_ref11_round
  simp only [oks, ok, and_true] at ho
  clear ho
  have h0 : ¬n = 0 := by omega
  by_cases h : x < 0
  · have e : ((-(x + 1)).toNat : Int) = -(x + 1) := Int.toNat_of_nonneg (by omega)
    have e2 : (((-(x + 1)).toNat % n : Nat) : Int) = (-(x + 1)) % (n : Int) := by rw [Int.natCast_emod, e]
    simp (disch := omega) [-List.reduceReplicate, h, roundZ, e2, h0]
  · have e : (x.toNat : Int) = x := Int.toNat_of_nonneg (by omega)
    have e2 : ((x.toNat % n : Nat) : Int) = x % (n : Int) := by rw [Int.natCast_emod, e]
    simp (disch := omega) [-List.reduceReplicate, h, roundZ, e2, h0]
theorem f_law11_few (s : Str) : Fn Tryd.prog n_law11_few [.str s] (.str (s.take 10)) := by
  refine Fn.of_image mixed h_law11_few i_law11_few rfl fun ho => ?_
  unfold c_law11_few
  simp only [oks, ok, and_true] at ho
  simp (disch := omega) [-List.reduceReplicate]
  refine BrKd.mk (fun h => ?_) (fun h => ?_)
  · simp (disch := omega) [-List.reduceReplicate, h]
  · simp (disch := omega) [-List.reduceReplicate, h]
    rw [List.take_of_length_le (by omega)]
theorem f_ref11_From {a : Aut} (ha : a.ok) (hn : a.n ≤ 500) (q0 : Nat) (hq0 : q0 < a.n) (s : Str) : Fn Tryd.prog n_ref11_From [.strct (Aut.c a), nV q0, .str s] (.bool (accS a q0 s)) := by
  refine Fn.of_image mixed h_ref11_From i_ref11_From rfl fun ho => ?_
  unfold c_ref11_From
  simp only [oks, ok, and_true] at ho
  have hsl : s.length ≤ 4611686018427387904 := ho.2.2
  clear ho
  have hnl : a.next.length = a.n := rfl
  have hfl : a.final.length = a.n := ha.fin
  obtain ⟨R, hR⟩ : ∃ R, R = accS a q0 s := ⟨_, rfl⟩
  rw [← hR]
  simp (disch := omega) [-List.reduceReplicate, Aut.c]
  refine W_loop (fun (x : Nat × Nat) => ⟨[(1, nV x.2), (2, .str s), (3, .ptr 0 0), (7, nV x.1)], [some (.box (Aut.c a))]⟩) (fun x => x.1 ≤ s.length ∧ x.2 < a.n ∧ accS a x.2 (s.drop x.1) = R) (fun x => s.length - x.1) [] _ (0, q0) rfl (by simp [Aut.c]) ⟨by simp, hq0, by simp [hR]⟩ ?_
  rintro ⟨k, q⟩ ⟨hk, hq, hi⟩ N hN
  simp only at hk hq hi
  rcases place s k hk with ⟨he, hd⟩ | ⟨hlt, b, hx, hd⟩ <;> rw [hd] at hi
  · simp only [accS] at hi
    obtain ⟨f, hf⟩ := get_lt (l := a.final) (k := q) (by omega)
    have hF : a.F q = f := by simp [Aut.F, fin, hf]
    simp (disch := omega) [-List.reduceReplicate, he, Aut.c, hf]
    rw [← hi, hF]
  · simp only [accS] at hi
    have go : sgn b = true → accS a (a.δ q (b.toNat - 32)) (s.drop (k + 1)) = R := fun h => by rw [if_pos h] at hi; exact hi
    have no : sgn b = false → R = false := fun h => by rw [if_neg (by simp [h])] at hi; exact hi.symm
    clear hi
    replace go := hid go
    replace no := hid no
    by_cases h32 : b.toNat < 32
    · simp (disch := omega) [-List.reduceReplicate, hx, Aut.c, h32]
      rw [no.out (by simp [sgn]; omega)]
    · by_cases h126 : 126 < b.toNat
      · simp (disch := omega) [-List.reduceReplicate, hx, Aut.c, h32, h126]
        rw [no.out (by simp [sgn]; omega)]
      · obtain ⟨rr, t, hr1, hr2, hr3, hr4⟩ := ha.rows.dl (q := q) (c := b.toNat - 32) hq (by omega)
        have hc : ((b.toNat : Int) - 32).toNat = b.toNat - 32 := by omega
        have hδ : a.δ q (b.toNat - 32) = t := hr3
        rw [hδ] at go
        simp (disch := omega) [-List.reduceReplicate, hx, Aut.c, h32, h126, hr1, hc, hr2]
        exact hN.out _ <| Nx.mk (k + 1, t) (by simp [Aut.c]) ⟨by simp only; omega, hr4, go.out (by simp [sgn]; omega)⟩ (by simp only; omega)
def goodN (l : List (List Int)) : Nat := 1 + l.length % 5
def goodK (c : Nat) : Nat := if 65 ≤ c ∧ c ≤ 67 then c - 65 else 3
def goodC (l : List (List Int)) (n i c : Nat) : Nat := match l[i]? with
  | some r => match r[goodK c]? with
    | some x => roundZ x n
    | none => 0
  | none => 0
def goodR (l : List (List Int)) (n i : Nat) : List Nat := (List.range 95).map (goodC l n i)
def goodF (fi : List Bool) (i : Nat) : Bool := (fi[i]?).getD false
def goodA (l : List (List Int)) (fi : List Bool) : Aut := ⟨(List.range (goodN l)).map (goodR l (goodN l)), (List.range (goodN l)).map (goodF fi)⟩
theorem goodC_lt (l : List (List Int)) (n i c : Nat) (hn : 0 < n) : goodC l n i c < n := by
  unfold goodC
  split
  · split
    · exact Nat.mod_lt _ hn
    · exact hn
  · exact hn
theorem goodA_ok (l : List (List Int)) (fi : List Bool) : (goodA l fi).ok ∧ (goodA l fi).n ≤ 5 ∧ (goodA l fi).n = goodN l := by
  have h1 : (goodA l fi).n = goodN l := by simp [goodA, Aut.n]
  have h2 : goodN l ≤ 5 := by unfold goodN; omega
  have h3 : 0 < goodN l := by unfold goodN; omega
  refine ⟨⟨by omega, by simp [goodA, Aut.n], fun r hr => ?_⟩, by omega, h1⟩
  simp only [goodA, List.mem_map] at hr
  obtain ⟨i, _, rfl⟩ := hr
  refine ⟨by simp [goodR], fun x hx => ?_⟩
  simp only [goodR, List.mem_map] at hx
  obtain ⟨c, _, rfl⟩ := hx
  rw [h1]
  exact goodC_lt _ _ _ _ h3
theorem f_ref11_Good (l : List (List Int)) (fi : List Bool) : Fn Tryd.prog n_ref11_Good [.seq 1 (l.map rowZ), finN fi] (.strct (Aut.c (goodA l fi))) := by
  refine Fn.of_image mixed h_ref11_Good i_ref11_Good rfl fun ho => ?_
  unfold c_ref11_Good
  simp only [oks, ok, and_true] at ho
  have hl1 : l.length ≤ 140737488355328 := by have := ho; simp [oks, ok] at this; exact this.1.1
  have hl2 : ∀ r ∈ l, r.length ≤ 140737488355328 ∧ ∀ x ∈ r, -9223372036854775808 ≤ x ∧ x ≤ 9223372036854775807 := fun r hr => by
    have := ho.1.2
    have := oks_mem this (List.mem_map_of_mem hr)
    simp only [rowZ, ok] at this
    refine ⟨by simpa using this.1, fun x hx => ?_⟩
    have := oks_mem this.2 (List.mem_map_of_mem (f := zV) hx)
    have h1 : IntKind.i64.min = -9223372036854775808 := by decide
    have h2 : IntKind.i64.max = 9223372036854775807 := by decide
    simp only [zV, ok, h1, h2] at this
    exact this
  have hf1 : fi.length ≤ 140737488355328 := by have := ho; simp [oks, ok] at this; exact this.2.1
  clear ho
  obtain ⟨hok, hn5, hnn⟩ := goodA_ok l fi
  obtain ⟨n, hn⟩ : ∃ n, n = goodN l := ⟨_, rfl⟩
  have hn0 : 0 < n ∧ n ≤ 5 := by rw [hn]; unfold goodN; omega
  obtain ⟨R, hR⟩ : ∃ R, R = V.strct (Aut.c (goodA l fi)) := ⟨_, rfl⟩
  rw [← hR]
  have hr0 := f_ref11_round (l.length : Int) (by omega) 5 (by omega) (by omega)
  have hr5 : roundZ (l.length : Int) 5 = l.length % 5 := by simp [roundZ]
  rw [hr5] at hr0
  simp at hr0
  have hnv : (1 : Int) + (l.length : Int) % 5 = (n : Int) := by rw [hn]; unfold goodN; omega
  simp (disch := omega) [-List.reduceReplicate]
  refine wcall_flat hr0 rfl fun _ => ?_
  simp (disch := omega) [-List.reduceReplicate, hnv]
  obtain ⟨rw, hrw⟩ : ∃ rw, rw = (List.range n).map (goodR l n) := ⟨_, rfl⟩
  obtain ⟨fs, hfs⟩ : ∃ fs, fs = (List.range n).map (goodF fi) := ⟨_, rfl⟩
  have hrwl : rw.length = n := by simp [hrw]
  have hfsl : fs.length = n := by simp [hfs]
  have hA : goodA l fi = ⟨rw, fs⟩ := by rw [hrw, hfs, hn]; rfl
  refine W_loop (fun k : Nat => ⟨[(0, .seq 1 (l.map rowZ)), (1, finN fi), (4, .ptr 0 0), (5, nV n), (6, .ptr 1 0), (7, nV k)], [some (.box [.nil 1, .nil 1]), some (.box [.ref 2 k, .ref 3 k]), some (.arr ty_Iint 1 ((rw.take k).map rowN)), some (.arr ty_bool 1 ((fs.take k).map V.bool))]⟩)
    (fun k => k ≤ n) (fun k => n - k) [.b 1 0 ty_Iint 1, .b 1 1 ty_bool 1] _ 0 rfl (by simp) (by simp) ?_
  intro k hk N hN
  rcases Nat.lt_or_ge k n with hlt | hge
  · have hrk : rw[k]? = some (goodR l n k) := by rw [hrw, List.getElem?_map, List.getElem?_range hlt]; rfl
    have hfk : fs[k]? = some (goodF fi k) := by rw [hfs, List.getElem?_map, List.getElem?_range hlt]; rfl
    have hrt := take_snoc hrk
    have hft := take_snoc hfk
    have hrtl : (rw.take k).length = k := by simp; omega
    have hftl : (fs.take k).length = k := by simp; omega
    obtain ⟨row, hrow⟩ : ∃ row, row = goodR l n k := ⟨_, rfl⟩
    have hrowl : row.length = 95 := by simp [hrow, goodR]
    have hrowg : ∀ c, c < 95 → row[c]? = some (goodC l n k c) := fun c hc => by rw [hrow, goodR, List.getElem?_map, List.getElem?_range hc]; rfl
    simp (disch := omega) [-List.reduceReplicate]
    refine W_loop (fun c : Nat => ⟨[(0, .seq 1 (l.map rowZ)), (1, finN fi), (4, .ptr 0 0), (5, nV n), (6, .ptr 1 0), (7, nV k), (8, .ref 2 95), (9, nV c)], [some (.box [.nil 1, .nil 1]), some (.box [.ref 3 k, .ref 4 k]), some (.arr ty_int 1 (fillR (row.take c))), some (.arr ty_Iint 1 ((rw.take k).map rowN)), some (.arr ty_bool 1 ((fs.take k).map V.bool))]⟩)
      (fun c => c ≤ 95) (fun c => 95 - c) [] _ 0 rfl (by simp [fillR_nil]) (by simp) ?_
    intro c hc M hM
    rcases Nat.lt_or_ge c 95 with hc95 | hc95
    · have hak : (row.take c).length = c := by simp; omega
      have hg := fillR_get (acc := row.take c) (by omega)
      have hs := fillR_set (acc := row.take c) (by omega) (goodC l n k c)
      have hfl := fillR_len (acc := row.take c) (by omega)
      rw [hak] at hg hs
      rw [← take_snoc (hrowg c hc95)] at hs
      simp only [nV] at hs
      have hzero : goodC l n k c = 0 → fillR (row.take c) = fillR (row.take (c + 1)) := fun h => by
        rw [take_snoc (hrowg c hc95), h]
        have e1 : 95 - (row.take c).length = (94 - (row.take c).length) + 1 := by omega
        have e2 : 95 - (row.take c ++ [0]).length = 94 - (row.take c).length := by rw [List.length_append]; simp only [List.length_cons, List.length_nil]; omega
        simp only [fillR]
        rw [e1, e2, List.replicate_succ]
        simp
      have fin : ∀ τ : St, τ.nrm [0, 1, 4, 5, 6, 7, 8, 9] = ⟨[(0, .seq 1 (l.map rowZ)), (1, finN fi), (4, .ptr 0 0), (5, nV n), (6, .ptr 1 0), (7, nV k), (8, .ref 2 95), (9, .int .i64 ((c : Int) + 1))], [some (.box [.nil 1, .nil 1]), some (.box [.ref 3 k, .ref 4 k]), some (.arr ty_int 1 (fillR (row.take (c + 1)))), some (.arr ty_Iint 1 ((rw.take k).map rowN)), some (.arr ty_bool 1 ((fs.take k).map V.bool))]⟩ → M τ := fun τ hτ =>
        hM.out τ <| Nx.mk (c + 1) (by simpa using hτ) (by omega) (by omega)
      replace fin := hid fin
      have hgk : goodK c ≤ 3 := by unfold goodK; split <;> omega
      obtain ⟨kk, hkk⟩ : ∃ kk, kk = goodK c := ⟨_, rfl⟩
      have hCdef : goodC l n k c = match l[k]? with
        | some r => match r[kk]? with
          | some x => roundZ x n
          | none => 0
        | none => 0 := by rw [hkk]; rfl
      by_cases h65 : 65 ≤ c
      · by_cases h67 : c ≤ 67
        · have hkv : (c : Int) - 65 = (kk : Int) := by rw [hkk]; unfold goodK; rw [if_pos ⟨h65, h67⟩]; omega
          have hkt : True := trivial
          simp (disch := omega) [-List.reduceReplicate, h65, h67, hkv]
          cases hlk : l[k]? with
          | none =>
            rw [hlk] at hCdef
            have hkl : ¬k < l.length := fun h => by rw [List.getElem?_eq_getElem h] at hlk; cases hlk
            simp (disch := omega) [-List.reduceReplicate, hkl, hkv, hkt]
            exact fin.out _ (by rw [← hzero hCdef]; simp)
          | some r =>
            rw [hlk] at hCdef
            have hkl := (List.getElem?_eq_some_iff.1 hlk).1
            obtain ⟨hrl, hrx⟩ := hl2 r (List.mem_of_getElem? hlk)
            cases hrk2 : r[kk]? with
            | none =>
              simp only [hrk2] at hCdef
              have hkr : ¬kk < r.length := fun h => by rw [List.getElem?_eq_getElem h] at hrk2; cases hrk2
              simp (disch := omega) [-List.reduceReplicate, hkl, hlk, hkr, hkv, hkt]
              exact fin.out _ (by rw [← hzero hCdef]; simp)
            | some x =>
              simp only [hrk2] at hCdef
              have hkr := (List.getElem?_eq_some_iff.1 hrk2).1
              have hro := f_ref11_round x (hrx x (List.mem_of_getElem? hrk2)) n hn0.1 (by omega)
              rw [← hCdef] at hro
              simp (disch := omega) [-List.reduceReplicate, hkl, hlk, hkr, hrk2, zV, hkv, hkt]
              refine wcall_flat hro rfl fun _ => ?_
              simp (disch := omega) [-List.reduceReplicate, hfl, hg, hs]
              exact fin.out _ (by simp)
        · have hk3 : kk = 3 := by rw [hkk]; unfold goodK; rw [if_neg (by omega)]
          rw [hk3] at hCdef
          clear hkk hk3
          simp (disch := omega) [-List.reduceReplicate, h65, h67]
          cases hlk : l[k]? with
          | none =>
            rw [hlk] at hCdef
            have hkl : ¬k < l.length := fun h => by rw [List.getElem?_eq_getElem h] at hlk; cases hlk
            simp (disch := omega) [-List.reduceReplicate, hkl]
            exact fin.out _ (by rw [← hzero hCdef]; simp)
          | some r =>
            rw [hlk] at hCdef
            have hkl := (List.getElem?_eq_some_iff.1 hlk).1
            obtain ⟨hrl, hrx⟩ := hl2 r (List.mem_of_getElem? hlk)
            cases hrk2 : r[3]? with
            | none =>
              simp only [hrk2] at hCdef
              have hkr : ¬3 < r.length := fun h => by rw [List.getElem?_eq_getElem h] at hrk2; cases hrk2
              simp (disch := omega) [-List.reduceReplicate, hkl, hlk, hkr]
              exact fin.out _ (by rw [← hzero hCdef]; simp)
            | some x =>
              simp only [hrk2] at hCdef
              have hkr := (List.getElem?_eq_some_iff.1 hrk2).1
              have hro := f_ref11_round x (hrx x (List.mem_of_getElem? hrk2)) n hn0.1 (by omega)
              rw [← hCdef] at hro
              simp (disch := omega) [-List.reduceReplicate, hkl, hlk, hkr, hrk2, zV]
              refine wcall_flat hro rfl fun _ => ?_
              simp (disch := omega) [-List.reduceReplicate, hfl, hg, hs]
              exact fin.out _ (by simp)
      · have hk3 : kk = 3 := by rw [hkk]; unfold goodK; rw [if_neg (by omega)]
        rw [hk3] at hCdef
        clear hkk hk3
        simp (disch := omega) [-List.reduceReplicate, h65]
        cases hlk : l[k]? with
        | none =>
          rw [hlk] at hCdef
          have hkl : ¬k < l.length := fun h => by rw [List.getElem?_eq_getElem h] at hlk; cases hlk
          simp (disch := omega) [-List.reduceReplicate, hkl]
          exact fin.out _ (by rw [← hzero hCdef]; simp)
        | some r =>
          rw [hlk] at hCdef
          have hkl := (List.getElem?_eq_some_iff.1 hlk).1
          obtain ⟨hrl, hrx⟩ := hl2 r (List.mem_of_getElem? hlk)
          cases hrk2 : r[3]? with
          | none =>
            simp only [hrk2] at hCdef
            have hkr : ¬3 < r.length := fun h => by rw [List.getElem?_eq_getElem h] at hrk2; cases hrk2
            simp (disch := omega) [-List.reduceReplicate, hkl, hlk, hkr]
            exact fin.out _ (by rw [← hzero hCdef]; simp)
          | some x =>
            simp only [hrk2] at hCdef
            have hkr := (List.getElem?_eq_some_iff.1 hrk2).1
            have hro := f_ref11_round x (hrx x (List.mem_of_getElem? hrk2)) n hn0.1 (by omega)
            rw [← hCdef] at hro
            simp (disch := omega) [-List.reduceReplicate, hkl, hlk, hkr, hrk2, zV]
            refine wcall_flat hro rfl fun _ => ?_
            simp (disch := omega) [-List.reduceReplicate, hfl, hg, hs]
            exact fin.out _ (by simp)
    · have hc0 : c = 95 := by omega
      subst hc0
      have hrf : row.take 95 = row := List.take_of_length_le (by omega)
      have hff := fillR_full hrowl
      have hflen : (fillR row).length = 95 := fillR_len (by omega)
      rw [hrf]
      rw [← hrow] at hrt
      cases hfk2 : fi[k]? with
      | none =>
        have hfl2 : ¬k < fi.length := fun h => by rw [List.getElem?_eq_getElem h] at hfk2; cases hfk2
        have hgf : goodF fi k = false := by simp [goodF, hfk2]
        rw [hgf] at hft
        simp (disch := omega) [-List.reduceReplicate, hflen, hrtl, hftl, hfl2]
        exact hN.out _ <| Nx.mk (k + 1) (by rw [hrt, hft]; simp [hff]) (by omega) (by omega)
      | some f =>
        have hfl2 := (List.getElem?_eq_some_iff.1 hfk2).1
        have hgf : goodF fi k = f := by simp [goodF, hfk2]
        rw [hgf] at hft
        simp (disch := omega) [-List.reduceReplicate, hflen, hrtl, hftl, hfl2, hfk2]
        exact hN.out _ <| Nx.mk (k + 1) (by rw [hrt, hft]; simp [hff]) (by omega) (by omega)
  · have : k = n := by omega
    subst this
    have h1 : rw.take k = rw := List.take_of_length_le (by omega)
    have h2 : fs.take k = fs := List.take_of_length_le (by omega)
    simp (disch := omega) [-List.reduceReplicate, h1, h2, hR, hA]
    rfl
end Go.Abs
