/-
  A law of plain data: from what its function answers at abstract values to the row's form. No condition.
-/
import Derived.Test.YtpblinccnkidfaaDoorG1
set_option linter.unusedVariables false
set_option linter.unusedSimpArgs false
namespace Go.Abs
open Go.RowKit Go.ChangeShapes Go.WideShapes Go.ChangeAt
variable {H : Type} {enc : TypeId × Value → H} {P : Program}

theorem okWide_scalar {w : World} {r : Reach} {base : Nat} {t : TypeId} {v : Value} (h : Value.okWide P w r base t v) (hn : ∀ fs, P.underlying t ≠ some (.struct fs)) (ha : ∀ n e, P.underlying t ≠ some (.array n e)) : ∀ cs, v ≠ .agg cs := by
  intro cs e
  subst e
  unfold Value.okWide at h
  split at h
  · rename_i fs hu; exact hn _ hu
  · rename_i n e hu; exact ha _ _ hu
  · unfold Cell.okWide at h
    split at h <;> try (simp_all; done)
    unfold Cell.ok at h
    split at h <;> simp_all

theorem open_arg {S : List TypeId} {w : World} {spare : Nat → Bool} {held : Bool} (hS : S.all (plainTy P S) = true) {t : TypeId} {v : Value} {d : DataW H} {ps : List MemPlace} (ht : t ∈ S) (h : DataW.Trod enc P w 0 spare held t v d ps)
    {r : Reach} {base : Nat} (hok : Value.okWide P w r base t v) (hw : ∀ n ∈ d.weights P t, n ≤ reachBytes) : ∃ u, HasTy P t u ∧ rep (fun p => w.cell? p) NX u v := by
  obtain ⟨fuel, h⟩ := h
  obtain ⟨u, hu, y, hy, hyc, _⟩ := open_ty hS fuel t _ _ h ht hw
  refine ⟨u, hu, ?_⟩
  have e : y = v := by
    have scal : (∀ fs, P.underlying t ≠ some (.struct fs)) → (∀ n e, P.underlying t ≠ some (.array n e)) → y.cells = #[y] → y = v := by
      intro h1 h2 h3
      have hv := okWide_scalar hok h1 h2
      have : v.cells = #[v] := by
        cases v with
        | agg cs => exact absurd rfl (hv cs)
        | _ => rfl
      rw [h3, this] at hyc
      simpa using hyc
    cases hu with
    | bool hu => exact scal (by simp [hu]) (by simp [hu]) (by simp only [rep] at hy; subst hy; rfl)
    | int hu _ _ => exact scal (by simp [hu]) (by simp [hu]) (by simp only [rep] at hy; obtain ⟨rfl, _⟩ := hy; rfl)
    | str hu _ => exact scal (by simp [hu]) (by simp [hu]) (by simp only [rep] at hy; obtain ⟨_, rfl, _⟩ := hy; rfl)
    | seq hu _ _ => exact scal (by simp [hu]) (by simp [hu]) (by simp only [rep] at hy; obtain ⟨_, _, rfl, _⟩ := hy; rfl)
    | strct hu _ _ =>
      simp only [rep] at hy
      obtain ⟨arr, rfl, _, _⟩ := hy
      unfold Value.okWide at hok
      rw [hu] at hok
      obtain ⟨cs, rfl, _, _⟩ := hok
      simp only [Value.cells] at hyc
      have : arr = cs := by cases arr; cases cs; simpa using hyc
      rw [this]
  rw [← e]; exact hy

theorem trodAll_len {w : World} {base : Nat} {spare : Nat → Bool} {held : Bool} : ∀ {ts : List TypeId} {vs : List Value} {ds : List (DataW H)} {ps : List MemPlace}, DataW.TrodAll enc P w base spare held ts vs ds ps → vs.length = ts.length ∧ ds.length = ts.length
  | [], [], [], _, _ => ⟨rfl, rfl⟩
  | t :: ts, v :: vs, d :: ds, ps, h => by
    obtain ⟨p, q, _, h2, _⟩ := h
    have := trodAll_len h2
    simp [this.1, this.2]
  | [], _ :: _, _, _, h => by simp [DataW.TrodAll] at h
  | [], [], _ :: _, _, h => by simp [DataW.TrodAll] at h
  | _ :: _, [], _, _, h => by simp [DataW.TrodAll] at h
  | _ :: _, _ :: _, [], _, h => by simp [DataW.TrodAll] at h

/-- Values of types, one by one. -/
def HasTys (P : Program) : List TypeId → List V → Prop
  | [], [] => True
  | t :: ts, u :: us => HasTy P t u ∧ HasTys P ts us
  | _, _ => False

theorem open_args {S : List TypeId} {w : World} {spare : Nat → Bool} {held : Bool} {r : Reach} {base : Nat} (hS : S.all (plainTy P S) = true) : ∀ {ts : List TypeId} {vs : List Value} {ds : List (DataW H)} {ps : List MemPlace}, (∀ t ∈ ts, t ∈ S) → DataW.TrodAll enc P w 0 spare held ts vs ds ps →
    (∀ (j : Nat) (t : TypeId) (v : Value), ts[j]? = some t → vs[j]? = some v → Value.okWide P w r base t v) → (∀ n ∈ DataW.weightsEach P ts ds, n ≤ reachBytes) →
    ∃ us, HasTys P ts us ∧ repAll (fun p => w.cell? p) NX us vs
  | [], [], [], _, _, _, _, _ => ⟨[], trivial, rfl⟩
  | t :: ts, v :: vs, d :: ds, ps, hts, h, hok, hw => by
    obtain ⟨p, q, h1, h2, _⟩ := h
    simp only [DataW.weightsEach, List.mem_append] at hw
    obtain ⟨u, hu, hr⟩ := open_arg hS (hts t (by simp)) h1 (hok 0 t v rfl rfl) (fun n hn => hw n (.inl hn))
    obtain ⟨us, hus, hrs⟩ := open_args (r := r) (base := base) hS (fun t ht => hts t (by simp [ht])) h2 (fun j t v ht hv => hok (j + 1) t v (by simpa using ht) (by simpa using hv)) (fun n hn => hw n (.inr hn))
    exact ⟨u :: us, ⟨hu, hus⟩, v, vs, rfl, hr, hrs⟩
  | [], _ :: _, _, _, _, h, _, _ => by simp [DataW.TrodAll] at h
  | [], [], _ :: _, _, _, h, _, _ => by simp [DataW.TrodAll] at h
  | _ :: _, [], _, _, _, h, _, _ => by simp [DataW.TrodAll] at h
  | _ :: _, _ :: _, [], _, _, h, _, _ => by simp [DataW.TrodAll] at h

theorem stays (hl : laidOutB P = true) {W W' : World} (hb : Below W.heap.size W W') {sp : Nat → Bool} : ∀ {ts : List TypeId} {vs : List Value} {ds : List (DataW H)} {ps : List MemPlace}, (∀ t ∈ ts, P.readableRec t = true ∧ t < P.types.size) →
    DataW.TrodAll enc P W 0 (fun _ => true) true ts vs ds ps → (∀ x ∈ ps, x.block < W.heap.size) → (∀ x ∈ ps, sp x.block = true) → DataW.TrodAll enc P W' 0 sp true ts vs ds ps
  | [], [], [], _, _, h, _, _ => h
  | t :: ts, v :: vs, d :: ds, ps, hts, h, hlt, hsp => by
    obtain ⟨p, q, h1, h2, rfl⟩ := h
    have hp : ∀ x ∈ p, x.block < W.heap.size := fun x hx => hlt x (List.mem_append.2 (.inl hx))
    refine ⟨p, q, ?_, stays hl hb (fun t ht => hts t (by simp [ht])) h2 (fun x hx => hlt x (List.mem_append.2 (.inr hx))) (fun x hx => hsp x (List.mem_append.2 (.inr hx))), rfl⟩
    exact WideElems.Trod_stays hl (hts t (by simp)).1 (hts t (by simp)).2 h1 (fun x hx => hb.same (hp x hx)) (fun x hx => hsp x (List.mem_append.2 (.inl hx)))
  | [], _ :: _, _, _, _, h, _, _ => by simp [DataW.TrodAll] at h
  | [], [], _ :: _, _, _, h, _, _ => by simp [DataW.TrodAll] at h
  | _ :: _, [], _, _, _, h, _, _ => by simp [DataW.TrodAll] at h
  | _ :: _, _ :: _, [], _, _, h, _, _ => by simp [DataW.TrodAll] at h

/-- A law that answers true, and whose arguments are plain. -/
theorem law_calls {S : List TypeId} (hS : S.all (plainTy P S) = true) (hl : laidOutB P = true) {f : FuncId} {fn : Func} {s : ChangeSpec} {tb : TypeId} (hvars : s.vars = []) (hfn : ∀ ds : List (DataW H), ds.length = fn.params.size → s.fn H ds = { results := [.lit (.bool true)], args := ds })
    (hres : fn.resultTypes = #[tb]) (hb : P.underlying tb = some .bool) (hts : ∀ t ∈ fn.params.toList, t ∈ S ∧ P.readableRec t = true ∧ t < P.types.size)
    {W : World} {base : Nat} {args : Array Value} {ds gs : List (DataW H)} {before : List MemPlace}
    (hval : ∀ (j : Nat) t v, fn.params[j]? = some t → args[j]? = some v → Value.okWide P W .any base t v)
    (hW : DataW.Whole enc P fn.params.toList s.vars false W args.toList ds gs before)
    (hwt : (DataW.weightsEach P (fn.params.toList ++ s.plain.varTypes P) (ds ++ gs)).all (· ≤ reachBytes) = true)
    (hgl : ∀ p v, GL p = some v → W.cell? p = some v) (hF : ∀ us, HasTys P fn.params.toList us → FnE P f us (.bool true)) :
    Calls P f args W fun e W' => ∃ v, e = .returned v ∧ s.post enc P fn false true false false W args v W' := by
  have hW' := hW
  obtain ⟨p, q, hA, hV, rfl, hfz, hnd⟩ := hW
  rw [hvars] at hV
  obtain ⟨rfl, rfl⟩ := trodVars_none hV
  simp only [List.append_nil] at hW' hwt
  have hlen := trodAll_len hA
  have hvt : s.plain.varTypes P = [] := by simp [ChangeSpec.plain, DataSpec.varTypes, hvars]
  rw [hvt, List.append_nil] at hwt
  have hw : ∀ n ∈ DataW.weightsEach P fn.params.toList ds, n ≤ reachBytes := fun n hn => by
    have := List.all_eq_true.1 hwt n hn
    simpa using this
  obtain ⟨us, hus, hru⟩ := open_args (r := .any) (base := base) hS (fun t ht => (hts t ht).1) hA (fun j t v ht hv => hval j t v (by simpa using ht) (by simpa using hv)) hw
  refine ((hF us hus).does (fun p => W.cell? p) W args ⟨fun _ _ h => h, hgl⟩ hru).mono ?_
  rintro e W' ⟨c, M', rfl, hc, hbl, _, _, _⟩
  simp only [rep] at hc
  subst hc
  have hlt : ∀ x ∈ p, x.block < W.heap.size := fun x hx => hW'.lt x hx
  have hsd : s.fn H ds = { results := [.lit (.bool true)], args := ds } := hfn ds (by rw [hlen.2]; simp)
  have hr1 : ∀ (b : Nat) (sp : Nat → Bool) (hd : Bool), DataW.TrodAll enc P W' b sp hd fn.resultTypes.toList ((Value.bool true).resultList fn.resultTypes.size) (s.fn H ds).results [] := by
    intro b sp hd
    rw [hres, hsd]
    exact trodAll_mk1 (shut_bool hb true)
  have ha : ∀ sp : Nat → Bool, (∀ x ∈ p, sp x.block = true) → DataW.TrodAll enc P W' 0 sp true fn.params.toList args.toList (s.fn H ds).args p := by
    intro sp hsp
    rw [hsd]
    exact stays hl hbl (fun t ht => (hts t ht).2) hA hlt hsp
  have hv : ∀ sp : Nat → Bool, DataW.TrodVars enc P W' sp s.vars (s.fn H ds).vars [] := by
    intro sp
    rw [hvars, hsd]
    rfl
  refine ⟨_, rfl, ds, [], p, [], p, [], by simpa using hW', by simpa using hr1 _ _ _, by simpa using ha _ (fun x hx => by simpa using hlt x hx), by simpa using hv _, hbl.frame _, fun h => by cases h⟩
end Go.Abs
