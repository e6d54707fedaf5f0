/-
  What strainerref13's rules and Good answer: a policy that may be. No condition.
-/
import Derived.Test.YtjhcljlogdcbbaaGreatF4
set_option linter.unusedVariables false
set_option linter.unusedSimpArgs false
set_option maxHeartbeats 4000000
set_option maxRecDepth 100000
namespace Go.Abs
open Go.Proofs
attribute [-simp] getElem?_pos Option.not_isSome
def poolR : List Str := [[105, 100], [104, 114, 101, 102], [100, 97, 116, 97, 45, 42]]
def goodRule (i : Nat) (r : Rule) : Rule :=
  if plain (stem r.name).1 then ⟨r.name, good12 r.value, !(stem r.name).2 && r.req⟩
  else ⟨(poolR[i]?).getD [], good12 r.value, !decide (i = 2) && r.req⟩
def rulesGo : Nat → List Rule → List Rule → List Rule
  | _, out, [] => out
  | i, out, r :: l => rulesGo (i + 1) (if hasS (out.map Rule.name) (goodRule i r).name then out else out ++ [goodRule i r]) l
def rules13 (l : List Rule) : List Rule := rulesGo 0 [] (l.take 3)
theorem rulesGo_len : ∀ (l out : List Rule) (i : Nat), (rulesGo i out l).length ≤ out.length + l.length
  | [], out, i => by simp [rulesGo]
  | w :: l, out, i => by
    simp only [rulesGo]
    split
    · have := rulesGo_len l out (i + 1); simp at this ⊢; omega
    · have := rulesGo_len l (out ++ [goodRule i w]) (i + 1); simp at this ⊢; omega
theorem rules13_len (l : List Rule) : (rules13 l).length ≤ 3 := by
  have := rulesGo_len (l.take 3) [] 0
  simp at this; simp only [rules13]; omega
theorem f_ref13_rules (l : List Rule) (hR : ∀ r ∈ l, r.value.regex.length ≤ 1125899906842624) : Fn Tryz.prog n_ref13_rules [.seq 5 (l.map Rule.v)] (.seq 5 ((rules13 l).map Rule.v)) := by
  refine Fn.of_image mixed h_ref13_rules i_ref13_rules rfl fun ho => ?_
  unfold c_ref13_rules
  simp only [oks, ok, and_true] at ho
  have hlen : l.length ≤ 140737488355328 := by have := ho.1; simpa using this
  clear ho
  simp (disch := omega) [c_ref13_rules]
  generalize hw : rules13 l = w
  have hl3 : (List.take 3 l).length = min 3 l.length := List.length_take
  refine W_loop (fun (q : Nat × List Rule) => ⟨[(0, .seq 5 (l.map Rule.v)), (3, .ref 0 q.2.length), (4, .ref 1 q.2.length), (5, .int .i64 q.1)],
    [some (.arr ty_api_Rule 5 (q.2.map Rule.v)), some (.arr ty_string 1 ((q.2.map Rule.name).map .str))]⟩)
    (fun q => q.1 ≤ (List.take 3 l).length ∧ q.2.length ≤ q.1 ∧ rulesGo q.1 q.2 ((List.take 3 l).drop q.1) = w) (fun q => (List.take 3 l).length - q.1) [.r 3 ty_api_Rule 5, .r 4 ty_string 1] _ (0, []) rfl (by simp) (by simp [← hw, rules13]) ?_
  rintro ⟨k, out⟩ ⟨hk, hol, hi⟩ N hN
  simp only at hk hol hi
  rcases place (List.take 3 l) k hk with ⟨he, hd⟩ | ⟨hlt, x, hx, hd⟩ <;> rw [hd, rulesGo] at hi
  · subst hi
    clear hw
    simp (disch := omega) []
    repeat' (first | (refine BrKd.mk (fun h => ?_) (fun h => ?_) <;> simp (disch := omega) [*]) | (refine BrK.mk (fun h => ?_) (fun h => ?_) <;> simp (disch := omega) [*]))
    all_goals first | omega | simp [*]
  · have hx2 : l[k]? = some x := by rw [List.getElem?_take] at hx; simpa [show k < 3 by omega] using hx
    have hRx := hR x (List.mem_of_getElem? hx2)
    replace hi := hid hi
    simp (disch := omega) [hx2]
    refine wcallD_pure (f_ref12_Good x.value hRx) (by simp) ?_
    simp (disch := omega) [hx2]
    refine wcall_flat (f_ref13_stem _) rfl fun _ => ?_
    simp (disch := omega) [hx2]
    refine wcall_flat (f_ref13_plain _) rfl fun _ => ?_
    have hk3 : k < 3 := by omega
    obtain ⟨pn, hpn⟩ : ∃ pn, poolR[k]? = some pn := get_lt (l := poolR) (k := k) (by simpa [poolR] using hk3)
    have hpn2 : ([.str [105, 100], .str [104, 114, 101, 102], .str [100, 97, 116, 97, 45, 42]] : List V)[k]? = some (.str pn) := by
      have : (poolR.map V.str)[k]? = some (.str pn) := by rw [List.getElem?_map, hpn]; rfl
      exact this
    have fin : ∀ g : Rule, goodRule k x = g → ∀ τ : St, τ.nrm [0, 3, 4, 5] = ⟨[(0, .seq 5 (l.map Rule.v)), (3, .ref 0 (if hasS (out.map Rule.name) g.name then out else out ++ [g]).length), (4, .ref 1 (if hasS (out.map Rule.name) g.name then out else out ++ [g]).length), (5, .int .i64 ((k + 1 : Nat) : Int))],
        [some (.arr ty_api_Rule 5 ((if hasS (out.map Rule.name) g.name then out else out ++ [g]).map Rule.v)), some (.arr ty_string 1 (((if hasS (out.map Rule.name) g.name then out else out ++ [g]).map Rule.name).map .str))]⟩ → N τ := by
      intro g hg τ hτ
      have hi := hi.out
      rw [hg] at hi
      refine hN.out _ <| Nx.mk (k + 1, if hasS (out.map Rule.name) g.name then out else out ++ [g]) hτ ⟨by simp only; omega, ?_, hi⟩ (by simp only; omega)
      split <;> simp <;> omega
    simp (disch := omega) [hx2]
    refine BrK.mk (fun hb => ?_) (fun hb => ?_)
    · simp (disch := omega) [hx2]
      refine BrK.mk (fun hm => ?_) (fun hm => ?_)
      all_goals
        simp (disch := omega) [hm, hx2]
        refine wcall_flat (by simpa using f_ref13_Has (out.map Rule.name) x.name) rfl fun _ => ?_
        simp (disch := omega) [hx2]
        refine BrK.mk (fun hh => ?_) (fun hh => ?_)
        all_goals
          simp (disch := omega) [hh, hx2]
          refine fin _ (by simp only [goodRule, hb, if_true, hm, Bool.not_true, Bool.not_false, Bool.true_and, Bool.false_and]; rfl) _ ?_
          simp [hh]
    · simp (disch := omega) [hpn2, hx2]
      have hb' : goodRule k x = ⟨pn, good12 x.value, !decide (k = 2) && x.req⟩ := by simp [goodRule, hb, hpn]
      refine BrKd.mk (fun hm => ?_) (fun hm => ?_)
      all_goals
        simp (disch := omega) [hm, hx2]
        refine wcall_flat (by simpa using f_ref13_Has (out.map Rule.name) pn) rfl fun _ => ?_
        simp (disch := omega) [hx2]
        refine BrK.mk (fun hh => ?_) (fun hh => ?_)
        all_goals
          simp (disch := omega) [hh, hx2]
          refine fin _ hb' _ ?_
          simp [hh, hm]
def poolE : List Str := [[97], [98], [112], [98, 114], [115, 116, 121, 108, 101]]
def elName (i : Nat) (s : Str) : Str := if plain s then s else (poolE[i]?).getD []
def elsGo : Nat → List Allowed → List Allowed → List Allowed
  | _, out, [] => out
  | i, out, e :: l => elsGo (i + 1) (if (findE out (elName i e.name)).isSome then out else out ++ [⟨elName i e.name, [], rules13 e.rules⟩]) l
theorem elsGo_len : ∀ (l out : List Allowed) (i : Nat), (elsGo i out l).length ≤ out.length + l.length
  | [], out, i => by simp [elsGo]
  | w :: l, out, i => by
    simp only [elsGo]
    split
    · have := elsGo_len l out (i + 1); simp at this ⊢; omega
    · have := elsGo_len l (out ++ [⟨elName i w.name, [], rules13 w.rules⟩]) (i + 1); simp at this ⊢; omega
def setKids (els : List Allowed) (k : Nat) (own : List Str) : List Allowed :=
  match els[k]? with
  | some e => els.set k ⟨e.name, fitting ⟨[], els, []⟩ e.name own, e.rules⟩
  | none => els
def kidsGo : Nat → List Allowed → List Allowed → List Allowed
  | _, els, [] => els
  | k, els, e :: l => kidsGo (k + 1) (setKids els k e.kids) l
theorem setKids_len (els : List Allowed) (k : Nat) (own : List Str) : (setKids els k own).length = els.length := by
  unfold setKids; split <;> simp
def unwGo : List Str → List Str → List Str
  | out, [] => out
  | out, x :: l => unwGo (if plain x && !hasS out x then out ++ [x] else out) l
def good13 (p : Policy) : Policy :=
  let a := elsGo 0 [] (p.elements.take 5)
  let b := kidsGo 0 a (p.elements.take a.length)
  ⟨fitting ⟨[], b, []⟩ [] p.top, b, unwGo [] (p.unwrap.take 4)⟩
theorem f_ref13_Good (p : Policy) (hR : ∀ e ∈ p.elements, ∀ r ∈ e.rules, r.value.regex.length ≤ 1125899906842624) : Fn Tryz.prog n_ref13_Good [p.v] (good13 p).v := by
  refine Fn.of_image mixed h_ref13_Good i_ref13_Good rfl fun ho => ?_
  unfold c_ref13_Good
  simp only [oks, ok, and_true] at ho
  have hlt : p.top.length ≤ 140737488355328 := by have := ho; simp at this; exact this.1.1
  have hle : p.elements.length ≤ 140737488355328 := by have := ho; simp at this; exact this.2.1.1
  have hlu : p.unwrap.length ≤ 140737488355328 := by have := ho; simp at this; exact this.2.2.1
  clear ho
  simp (disch := omega) []
  generalize hg : good13 p = g
  have hgd : g = good13 p := hg.symm
  simp only [good13] at hgd
  have hl5 : (List.take 5 p.elements).length = min 5 p.elements.length := List.length_take
  have hal := elsGo_len (p.elements.take 5) [] 0
  generalize ha : elsGo 0 [] (p.elements.take 5) = els at hgd hal
  refine W_loop (fun (q : Nat × List Allowed) => ⟨[(1, .ptr 0 0), (2, .ptr 1 0), (3, .ptr 2 0), (4, .int .i64 q.1)],
    [some (.box [.seq 1 (p.top.map .str), .seq 3 (p.elements.map Allowed.v), .seq 1 (p.unwrap.map .str)]), some (.box [.nil 1, .nil 3, .nil 1]), some (.box [.nil 1, .ref 3 q.2.length, .nil 1]), some (.arr ty_api_Allowed 3 (q.2.map Allowed.v))]⟩)
    (fun q => q.1 ≤ (List.take 5 p.elements).length ∧ q.2.length ≤ q.1 ∧ elsGo q.1 q.2 ((List.take 5 p.elements).drop q.1) = els) (fun q => (List.take 5 p.elements).length - q.1) [.b 2 1 ty_api_Allowed 3] _ (0, []) rfl (by simp) (by simp [← ha]) ?_
  rintro ⟨k, out⟩ ⟨hk, hol, hi⟩ N hN
  simp only at hk hol hi
  rcases place (List.take 5 p.elements) k hk with ⟨he, hd⟩ | ⟨hlt, x, hx, hd⟩ <;> rw [hd, elsGo] at hi
  · subst hi
    have hol5 : out.length ≤ p.elements.length ∧ out.length ≤ 5 := by simp only [List.length_nil] at hal; omega
    have hkk : (k < p.elements.length ∧ k = 5) ∨ k = p.elements.length := by omega
    clear hd hN hol hk he hal ha
    generalize hb : kidsGo 0 out (p.elements.take out.length) = bs at hgd
    rcases hkk with hkk | hkk
    all_goals
      simp (disch := omega) [hkk]
      refine W_loop (fun (q : Nat × List Allowed) => ⟨[(1, .ptr 0 0), (2, .ptr 1 0), (3, .ptr 2 0), (10, .int .i64 q.1)],
        [some (.box [.seq 1 (p.top.map .str), .seq 3 (p.elements.map Allowed.v), .seq 1 (p.unwrap.map .str)]), some (.box [.nil 1, .nil 3, .nil 1]), some (.box [.nil 1, .ref 3 q.2.length, .nil 1]), some (.arr ty_api_Allowed 3 (q.2.map Allowed.v))]⟩)
        (fun q => q.1 ≤ (p.elements.take out.length).length ∧ q.2.length = out.length ∧ kidsGo q.1 q.2 ((p.elements.take out.length).drop q.1) = bs) (fun q => (p.elements.take out.length).length - q.1) [] _ (0, out) rfl (by simp) (by simp [← hb]) ?_
      have hlo : (p.elements.take out.length).length = out.length := by rw [List.length_take]; omega
      rintro ⟨k, els⟩ ⟨hk, hol, hi⟩ N hN
      simp only at hk hol hi
      rcases place (p.elements.take out.length) k hk with ⟨he, hd⟩ | ⟨hlt, x, hx, hd⟩ <;> rw [hd, kidsGo] at hi
      · subst hi
        simp (disch := omega) [he]
        refine wcall_new (by simpa using f_ref13_fitting ⟨[], els, []⟩ [] p.top) fun hok => ?_
        simp (disch := omega) []
        generalize hu : unwGo [] (p.unwrap.take 4) = us at hgd
        have hl4 : (List.take 4 p.unwrap).length = min 4 p.unwrap.length := List.length_take
        clear hN
        refine W_loop (fun (q : Nat × List Str) => ⟨[(1, .ptr 0 0), (2, .ptr 1 0), (3, .ptr 2 0), (12, .int .i64 q.1)],
          [some (.box [.seq 1 (p.top.map .str), .seq 3 (p.elements.map Allowed.v), .seq 1 (p.unwrap.map .str)]), some (.box [.nil 1, .nil 3, .nil 1]), some (.box [.seq 1 ((fitting ⟨[], els, []⟩ [] p.top).map .str), .ref 3 els.length, .ref 4 q.2.length]), some (.arr ty_api_Allowed 3 (els.map Allowed.v)), some (.arr ty_string 1 (q.2.map .str))]⟩)
          (fun q => q.1 ≤ (List.take 4 p.unwrap).length ∧ q.2.length ≤ q.1 ∧ unwGo q.2 ((List.take 4 p.unwrap).drop q.1) = us) (fun q => (List.take 4 p.unwrap).length - q.1) [.b 2 2 ty_string 1] _ (0, []) rfl (by simp) (by simp [← hu]) ?_
        rintro ⟨j, uw⟩ ⟨hj, hul, hi⟩ N hN
        simp only at hj hul hi
        rcases place (List.take 4 p.unwrap) j hj with ⟨he2, hd2⟩ | ⟨hlt2, y, hy, hd2⟩ <;> rw [hd2, unwGo] at hi
        · subst hi
          have hjj : (j < p.unwrap.length ∧ j = 4) ∨ j = p.unwrap.length := by omega
          rcases hjj with hjj | hjj
          all_goals
            simp (disch := omega) [hjj]
            simp [hgd]
        · have hy2 : p.unwrap[j]? = some y := by rw [List.getElem?_take] at hy; simpa [show j < 4 by omega] using hy
          replace hi := hid hi
          simp (disch := omega) [hy2]
          refine wcall_flat (f_ref13_plain _) rfl fun _ => ?_
          simp (disch := omega) [hy2]
          refine wcallD_flat (by simpa using f_ref13_Has uw y) rfl ?_
          simp (disch := omega) [hy2]
          have yes : plain y = true → hasS uw y = false → unwGo (uw ++ [y]) ((List.take 4 p.unwrap).drop (j + 1)) = us := fun h h' => by have hi := hi.out; simpa [h, h'] using hi
          have no : (plain y && !hasS uw y) = false → unwGo uw ((List.take 4 p.unwrap).drop (j + 1)) = us := fun h => by have hi := hi.out; rw [if_neg (by simp [h])] at hi; exact hi
          replace yes := hid yes
          replace no := hid no
          refine BrK.mk (fun h1 => ?_) (fun h1 => ?_)
          · simp (disch := omega) [h1]
            refine BrK.mk (fun h2 => ?_) (fun h2 => ?_)
            · simp (disch := omega) [h1, h2]
              refine hN.out _ <| Nx.mk (j + 1, uw) (by simp) ⟨by simp only; omega, by simp only; omega, no.out (by simp [h2])⟩ (by simp only; omega)
            · simp (disch := omega) [h1, h2, hy2]
              refine hN.out _ <| Nx.mk (j + 1, uw ++ [y]) (by simp) ⟨by simp only; omega, by simp; omega, yes.out h1 h2⟩ (by simp only; omega)
          · simp (disch := omega) [h1]
            refine hN.out _ <| Nx.mk (j + 1, uw) (by simp) ⟨by simp only; omega, by simp only; omega, no.out (by simp [h1])⟩ (by simp only; omega)
      · have hx2 : p.elements[k]? = some x := by rw [List.getElem?_take] at hx; simpa [show k < out.length by omega] using hx
        obtain ⟨e, hex⟩ := get_lt (l := els) (k := k) (by omega)
        replace hi := hid hi
        simp (disch := omega) [hx2, hex]
        refine wcallD_new (by simpa using f_ref13_fitting ⟨[], els, []⟩ e.name x.kids) ?_
        simp (disch := omega) [hx2, hex]
        have hi := hi.out
        have hsk : setKids els k x.kids = els.set k ⟨e.name, fitting ⟨[], els, []⟩ e.name x.kids, e.rules⟩ := by simp [setKids, hex]
        rw [hsk] at hi
        refine hN.out _ <| Nx.mk (k + 1, els.set k ⟨e.name, fitting ⟨[], els, []⟩ e.name x.kids, e.rules⟩) (by simp [List.map_set]) ⟨by simp only; omega, by simp; omega, hi⟩ (by simp only; omega)
  · have hx2 : p.elements[k]? = some x := by rw [List.getElem?_take] at hx; simpa [show k < 5 by omega] using hx
    have hRx := hR x (List.mem_of_getElem? hx2)
    obtain ⟨pn, hpn⟩ : ∃ pn, poolE[k]? = some pn := get_lt (l := poolE) (k := k) (by simp only [poolE, List.length_cons, List.length_nil]; omega)
    have hpn2 : ([.str [97], .str [98], .str [112], .str [98, 114], .str [115, 116, 121, 108, 101]] : List V)[k]? = some (.str pn) := by
      have : (poolE.map V.str)[k]? = some (.str pn) := by rw [List.getElem?_map, hpn]; rfl
      exact this
    replace hi := hid hi
    simp (disch := omega) [hx2]
    refine wcall_flat (f_ref13_plain _) rfl fun _ => ?_
    simp (disch := omega) [hx2]
    refine BrK.mk (fun hb => ?_) (fun hb => ?_)
    all_goals
      first
        | (have hnm : elName k x.name = x.name := by rw [elName, if_pos hb])
        | (have hnm : elName k x.name = pn := by rw [elName, if_neg (by simp [hb]), hpn]; rfl)
      have hi := hi.out
      rw [hnm] at hi
      replace hi := hid hi
      simp (disch := omega) [hx2, hpn2]
      refine wcall_jk (by simpa using f_ref13_Find ⟨[], out, []⟩ _) (by simp) fun _ => ?_
      simp (disch := omega) [hx2]
      refine BrK.mk (fun hf => ?_) (fun hf => ?_)
      · simp (disch := omega) [hx2]
        have hi := hi.out
        rw [if_pos hf] at hi
        refine hN.out _ <| Nx.mk (k + 1, out) (by simp) ⟨by simp only; omega, by simp only; omega, hi⟩ (by simp only; omega)
      · simp (disch := omega) [hx2]
        have hi := hi.out
        rw [if_neg (by simp [hf])] at hi
        refine wcallD_pure (f_ref13_rules x.rules hRx) (by simp) ?_
        simp (disch := omega) [hx2]
        refine hN.out _ <| Nx.mk (k + 1, out ++ [⟨_, [], rules13 x.rules⟩]) (by simp) ⟨by simp only; omega, by simp; omega, hi⟩ (by simp only; omega)
end Go.Abs
