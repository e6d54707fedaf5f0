/-
  What an automaton's form is. No condition.
-/
import Derived.Test.YtpblinccnkidfaaDoorD6
set_option linter.unusedVariables false
set_option linter.unusedSimpArgs false
set_option maxHeartbeats 1000000
set_option maxRecDepth 100000
namespace Go.Abs
open Go.Proofs Go.Aut
attribute [-simp] getElem?_pos Option.not_isSome List.map_map
def chDK (Φ : Ctr) (d : Option Nat) (f : FuncId) (σ : St) (K : St → Prop) (vs : List V) : Prop := wcallHD Φ d f vs K σ
theorem chDK_app {Φ : Ctr} {d : Option Nat} {f : FuncId} {σ : St} {K : St → Prop} {vs : List V} : chDK Φ d f σ K vs = wcallHD Φ d f vs K σ := propext Iff.rfl
theorem aD_callH {Φ : Ctr} {d : Option Nat} {f : FuncId} {σ : St} {K : St → Prop} {xs : List AO} : wactD Φ d (.callH f xs) K σ = oM (σ.evs xs) (chDK Φ d f σ K) := by
  simp only [wactD, oM]
  cases σ.evs xs <;> rfl
attribute [simp] chDK_app aD_callH
theorem wcallHD_mk {Φ : Ctr} {σ : St} {K : St → Prop} {d : Option Nat} (ps : List Nat) (q : Nat) (m : List Nat) {f : FuncId} {vs us : List V} {H H' : List (Option Ob)} {r : V} (hc : σ.curs (pickV vs ps) = true) (hl : lent σ.h (pickV vs ps) vs = (q, m)) (hu : rens m vs = us) (hH : renH σ.h m m = H)
    (h : Φ.e f ps us H r H') (hk : kin q H H' = true) (k : hEnd σ d K q m r H') : wcallHD Φ d f vs K σ := by
  refine ⟨ps, hc, r, H', ?_, ?_, ?_⟩
  · rw [hl, hH]; exact hk
  · rw [hl, hu, hH]; exact h
  · rw [hl]; exact k
/-- A row that is being filled, of any values. -/
def fillG {α : Type} (f : α → V) (d : α) (n : Nat) (acc : List α) : List V := (acc ++ List.replicate (n - acc.length) d).map f
section
variable {α : Type} {f : α → V} {d : α} {n : Nat} {acc : List α}
theorem fillG_len (h : acc.length ≤ n) : (fillG f d n acc).length = n := by simp [fillG]; omega
theorem fillG_eq (h : acc.length < n) : fillG f d n acc = acc.map f ++ f d :: (List.replicate (n - (acc.length + 1)) d).map f := by
  obtain ⟨m, hm⟩ : ∃ m, n - acc.length = m + 1 := ⟨n - acc.length - 1, by omega⟩
  have h2 : n - (acc.length + 1) = m := by omega
  simp only [fillG, hm, h2, List.replicate_succ, List.map_append, List.map_cons]
theorem fillG_snoc (k : α) : fillG f d n (acc ++ [k]) = acc.map f ++ f k :: (List.replicate (n - (acc.length + 1)) d).map f := by
  simp [fillG]
theorem fillG_set (h : acc.length < n) (k : α) : (fillG f d n acc).set acc.length (f k) = fillG f d n (acc ++ [k]) := by
  rw [fillG_eq h, fillG_snoc, List.set_append_right _ _ (by simp)]
  simp
theorem fillG_get (h : acc.length < n) : (fillG f d n acc)[acc.length]? = some (f d) := by
  rw [fillG_eq h, List.getElem?_append_right (by simp)]
  simp
theorem fillG_full (h : acc.length = n) : fillG f d n acc = acc.map f := by simp [fillG, h]
theorem fillG_nil : List.replicate n (f d) = fillG f d n [] := by simp [fillG]
end
theorem walkP_len {K : Type} [DecidableEq K] {step : K → Nat → K} {start : K} {most : Nat} {l : List K} {rows : List (List Nat)} {D : K → Prop} (hD : ∀ q c, D q → c < 95 → D (step q c)) (h0 : D start) (h : walkP eqB step start most = some (l, rows)) :
    rows.length = l.length ∧ 0 < l.length ∧ l[0]? = some start ∧ (∀ q ∈ l, D q) ∧ rowsOK l.length rows ∧ l.Nodup := by
  obtain ⟨h3, t, h4⟩ := walkGo_inv eqB_refl hD _ _ _ _ _ _ (winv_start h0) h
  have hpos : 0 < l.length := by rw [h4]; simp
  refine ⟨h3.len, hpos, by simp [h4], h3.dom, ?_, apart_nodup h3.apart⟩
  have := (walk_aut (good := fun _ => true) h3 hpos).1.rows
  simpa [Aut.n, h3.len] using this
theorem f_dfa_form {a : Aut} (ha : a.ok) (hn : a.n ≤ 10000) {b : Aut} (hb : formP a.next a.final = some b) : Fn Tryd.prog n_dfa_form [nextN a.next, finN a.final] (.strct (Aut.c b)) := by
  refine Fn.of_imageE mixed h_dfa_form i_dfa_form rfl fun ho => ?_
  unfold c_dfa_form
  simp only [oks, ok, and_true] at ho
  clear ho
  unfold formP at hb
  split at hb
  · cases hb
  rename_i list nx hw
  split at hb
  · cases hb
  rename_i cls hc
  split at hb
  · cases hb
  rename_i l2 rows hw2
  simp only [Option.some.injEq] at hb
  subst hb
  obtain ⟨hl1, hl2, hl3, hl4, hl5, hl6⟩ := walkP_len (D := fun q => q < a.n) (fun q c hq hc => ha.lt hq hc) ha.pos hw
  have hnl : a.next.length = a.n := rfl
  have hln := nodup_le a.n list hl6 hl4
  have hfl : a.final.length = a.n := ha.fin
  obtain ⟨ends, hends⟩ : ∃ ends, ends = list.map (fin a.final) := ⟨_, rfl⟩
  have hel : ends.length = list.length := by simp [hends]
  rw [← hends] at hc ⊢
  obtain ⟨m, hm⟩ : ∃ m, m = list.length := ⟨_, rfl⟩
  rw [← hm] at hl1 hl2 hl5 hln hel hw2 ⊢
  obtain ⟨o, ho⟩ : ∃ o, o = ofGo 0 cls (List.replicate m 0) := ⟨_, rfl⟩
  rw [← ho] at hw2 ⊢
  obtain ⟨R, hR⟩ : ∃ R, R = V.strct (Aut.c ⟨rows, l2.map fun c => fin ends (getN o c)⟩) := ⟨_, rfl⟩
  rw [← hR]
  simp (disch := omega) [-List.reduceReplicate, hnl]
  refine wcallH_mk [1] 1 [0] (by simp) (by simp) (by simp) (by simp) (f_walk_form_1 a.next a.n ha.rows rfl a.n (by omega) 0 ha.pos list nx hw) (by simp) fun _ _ => ?_
  simp (disch := omega) [-List.reduceReplicate, hnl, ← hm, hl1]
  refine W_loop (fun (k : Nat) => ⟨[(1, finN a.final), (2, .ptr 0 0), (4, .ptr 1 0), (5, .ref 2 m), (7, .ref 3 m), (30, .ref 2 m), (31, .int .i64 m), (32, .int .i64 k)], [some (.box [.ref 4 m]), some (.box [.nil 1, .nil 1]), some (.arr ty_int 1 (list.map nV)), some (.arr ty_bool 1 (fillG V.bool false m (ends.take k))), some (.arr ty_Iint 1 (nx.map rowN))]⟩)
    (fun k => k ≤ m) (fun k => m - k) [] _ 0 rfl (by simp [-List.reduceReplicate, ← fillG_nil, ← hm, hl1]) (by simp) ?_
  intro k hk N hN
  rcases Nat.lt_or_ge k m with hlt | hge
  · obtain ⟨q, hq⟩ := get_lt (l := list) (k := k) (by omega)
    have hqn := hl4 q (List.mem_of_getElem? hq)
    obtain ⟨b, hb⟩ := get_lt (l := a.final) (k := q) (by omega)
    have he : ends[k]? = some b := by simp [hends, hq, fin, hb]
    have hak : (ends.take k).length = k := by simp; omega
    have hl := fillG_len (f := V.bool) (d := false) (n := m) (acc := ends.take k) (by omega)
    have hg := fillG_get (f := V.bool) (d := false) (n := m) (acc := ends.take k) (by omega)
    have hs := fillG_set (f := V.bool) (d := false) (n := m) (acc := ends.take k) (by omega) b
    rw [hak] at hg hs
    rw [← take_snoc he] at hs
    simp (disch := omega) [-List.reduceReplicate, hq, hb, hg, hs, hl, ← hm]
    exact hN.out _ <| Nx.mk (k + 1) (by simp) (by omega) (by omega)
  · have hkm : k = m := by omega
    subst hkm
    have ht : ends.take k = ends := List.take_of_length_le (by omega)
    have hff : fillG V.bool false k ends = ends.map V.bool := fillG_full hel
    clear hN
    simp (disch := omega) [-List.reduceReplicate, ht, hff, ← hm]
    have hbok : (Aut.mk nx ends).ok := ⟨by simp only [Aut.n]; omega, by simp only [Aut.n]; omega, by simp only [Aut.n]; rw [hl1]; exact hl5⟩
    have hC : IsCls ⟨nx, ends⟩ cls := by
      obtain ⟨cls', h1, h2⟩ := classesP_spec hbok
      rw [show classesP nx ends = some cls from hc] at h1
      cases h1
      exact h2
    have hcl : cls.length = k := by rw [hC.len]; exact hl1
    have hcm : ∀ v ∈ cls, v < k := fun v hv => by have := hC.lt v hv; simp only [Aut.n] at this; omega
    refine wcall_new (f_dfa_classes nx ends k hl5 hl1 hl2 (by omega) hel cls hc) fun _ => ?_
    simp (disch := omega) [-List.reduceReplicate, ← hm]
    refine W_loop (fun (x : Nat × List Nat) => ⟨[(2, .ptr 0 0), (4, .ptr 1 0), (7, .ref 2 k), (10, .ptr 3 0), (11, .ptr 4 0), (51, rowN cls), (52, .int .i64 k), (53, nV x.1)], [some (.box [.ref 5 k]), some (.box [.nil 1, .nil 1]), some (.arr ty_bool 1 (ends.map V.bool)), some (.box [rowN cls]), some (.box [.ref 6 k]), some (.arr ty_Iint 1 (nx.map rowN)), some (.arr ty_int 1 (x.2.map nV))]⟩)
      (fun x => x.1 ≤ k ∧ x.2.length = k ∧ ofGo x.1 (cls.drop x.1) x.2 = o) (fun x => k - x.1) [] _ (0, List.replicate k 0) rfl (by simp [-List.reduceReplicate, hcl]) ⟨by simp, by simp, by simp [ho]⟩ ?_
    rintro ⟨j, oo⟩ ⟨hj, hol, hi⟩ N hN
    simp only at hj hol hi
    rcases place cls j (by omega) with ⟨he, hd⟩ | ⟨hlt, c, hx, hd⟩ <;> rw [hd] at hi
    · simp only [ofGo] at hi
      clear hN
      subst hi
      obtain ⟨c0, hc0⟩ := get_lt (l := cls) (k := 0) (by omega)
      have hst : ∀ c s, c ∈ cls → s < 95 → ∃ t, getN cls (dl nx (getN oo c) s) = t ∧ t ∈ cls ∧ FnH Tryd.prog n_dfa_form_2 [2, 3, 4] [nV c, nV s, .ptr 0 0, .ptr 1 0, .ptr 2 0] (f2H cls nx oo) (nV t) (f2H cls nx oo) := by
        intro c s hcc hs
        obtain ⟨p, hp1, hp2⟩ := ofGo_spec cls (List.replicate k 0) cls 0 (fun j c hj => by simpa using hj) (fun c hc => by have := hcm c hc; simp; omega) c (.inl hcc)
        rw [← ho] at hp1
        have hpl := (List.getElem?_eq_some_iff.1 hp2).1
        obtain ⟨r, x, g1, g2, g3, g4⟩ := hl5.dl (q := p) (c := s) (by omega) hs
        obtain ⟨y, hy⟩ := get_lt (l := cls) (k := x) (by omega)
        refine ⟨y, ?_, List.mem_of_getElem? hy, f_dfa_form_2 hp1 g1 g2 hy⟩
        rw [show getN oo c = p by simp [getN, hp1], g3]
        simp [getN, hy]
      have hc0m := List.mem_of_getElem? hc0
      have hg0 : getN cls 0 = c0 := by simp [getN, hc0]
      rw [hg0] at hw2
      obtain ⟨gl1, gl2, gl3, gl4, gl5, gl6⟩ := walkP_len (D := fun c => c ∈ cls) (fun q c hq hc => by obtain ⟨t, h1, h2, _⟩ := hst q c hq hc; rw [h1]; exact h2) hc0m hw2
      have hl2n := nodup_le k l2 gl6 fun x hx => hcm x (gl4 x hx)
      simp (disch := omega) [-List.reduceReplicate, he, hol, hcl, hc0]
      refine wcallHD_mk [1] 3 [3, 0, 4, 5, 6] (by simp) (by simp) (by simp [hol]) (by simp [hl1, hol]) (f_walk_form_2 cls nx oo _ (fun c => c ∈ cls) hst k (by omega) c0 hc0m l2 rows hw2) (by simp) ?_
      simp (disch := omega) [-List.reduceReplicate, hol]
      refine W_loop (fun (t : Nat) => ⟨[(4, .ptr 0 0), (7, .ref 1 k), (11, .ptr 2 0), (16, .ptr 3 0), (76, .ref 4 l2.length), (77, .int .i64 l2.length), (78, nV t)], [some (.box [.nil 1, .nil 1]), some (.arr ty_bool 1 (ends.map V.bool)), some (.box [.ref 5 k]), some (.box [.ref 6 rows.length, .ref 7 t]), some (.arr ty_int 1 (l2.map nV)), some (.arr ty_int 1 (oo.map nV)), some (.arr ty_Iint 1 (rows.map rowN)), some (.arr ty_bool 1 (((l2.take t).map fun c => fin ends (getN oo c)).map V.bool))]⟩)
        (fun t => t ≤ l2.length) (fun t => l2.length - t) [.b 11 1 ty_bool 1] _ 0 (by simp; rfl) (by simp) (by simp) ?_
      intro t ht N hN
      rcases place l2 t ht with ⟨he2, hd2⟩ | ⟨hlt2, c, hc2, hd2⟩
      · have htk : l2.take t = l2 := List.take_of_length_le (by omega)
        subst he2
        simp (disch := omega) [-List.reduceReplicate, htk, hR]
        rfl
      · have hcc := gl4 c (List.mem_of_getElem? hc2)
        obtain ⟨p, hp1, hp2⟩ := ofGo_spec cls (List.replicate k 0) cls 0 (fun j c hj => by simpa using hj) (fun c hc => by have := hcm c hc; simp; omega) c (.inl hcc)
        rw [← ho] at hp1
        have hpl := (List.getElem?_eq_some_iff.1 hp2).1
        have hcl2 := (List.getElem?_eq_some_iff.1 hp1).1
        obtain ⟨b, hb⟩ := get_lt (l := ends) (k := p) (by omega)
        have hfb : fin ends (getN oo c) = b := by simp [getN, hp1, fin, hb]
        have hsn := take_snoc hc2
        have htl : (l2.take t).length = t := by simp; omega
        simp (disch := omega) [-List.reduceReplicate, hc2, hol, hp1, hel, hb, htl]
        exact hN.out _ <| Nx.mk (t + 1) (by rw [hsn]; simp [hfb]) (by omega) (by omega)
    · simp only [ofGo] at hi
      have hck := hcm c (List.mem_of_getElem? hx)
      obtain ⟨y, hy⟩ := get_lt (l := oo) (k := c) (by omega)
      replace hi := hid hi
      simp (disch := omega) [-List.reduceReplicate, hx, hol, hy, hcl]
      exact hN.out _ <| Nx.mk (j + 1, oo.set c j) (by simp) ⟨by simp only; omega, by simp [hol], hi.out⟩ (by simp only; omega)
theorem f_dfa_Form {a : Aut} (ha : a.ok) (hn : a.n ≤ 500) {b : Aut} (hb : formP a.next a.final = some b) : Fn Tryd.prog n_dfa_Form [.strct (Aut.c a)] (.strct (Aut.c b)) := by
  refine Fn.of_image mixed h_dfa_Form i_dfa_Form rfl fun ho => ?_
  unfold c_dfa_Form
  simp only [oks, ok, and_true] at ho
  clear ho
  simp (disch := omega) [-List.reduceReplicate, Aut.c]
  refine wcall_flat (by simpa [Aut.c] using f_dfa_May_ok ha hn) rfl fun _ => ?_
  simp (disch := omega) [-List.reduceReplicate]
  refine wcall_pure (by simpa using f_dfa_form ha (by omega) hb) (by simp) fun _ => ?_
  simp (disch := omega) [-List.reduceReplicate, Aut.c]
end Go.Abs
