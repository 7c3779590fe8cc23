/-
  From what the evaluator says of a function to what a statement of this seat asks.
-/
import Derived.Test.YtgcmbhfbdblfcaaTe
import Derived.Carry
import Derived.RowKit
set_option linter.unusedVariables false
set_option linter.unusedSimpArgs false
namespace Go.Q
open Go.Proofs Go.WideShapes Go.ChangeShapes Go.RowKit

def RoCell (c : PV) : Prop := (∃ v, c = .sc v) ∨ ∃ s xs, c = .list s .ro xs
theorem isF_ro {R : Nat → List PV → Prop} (h : ∀ t a, R t a → ∀ c ∈ a, RoCell c) : ∀ (ts : List Nat) (cs : List PV), IsF R ts cs → ∀ c ∈ cs, RoCell c
  | [], cs, hc => by simp only [IsF] at hc; subst hc; simp
  | t :: ts, cs, hc => by
    obtain ⟨a, c, rfl, h1, h2⟩ := hc
    intro x hx
    rcases List.mem_append.1 hx with hx | hx
    · exact h t a h1 x hx
    · exact isF_ro h ts c h2 x hx
theorem isT_ro {P : Program} : ∀ (n : Nat) (t : Nat) (cs : List PV), IsT P n t cs → ∀ c ∈ cs, RoCell c
  | 0, t, cs, h => by cases h
  | n + 1, t, cs, h => by
    simp only [IsT] at h
    split at h
    · obtain ⟨b, rfl⟩ := h
      simp [RoCell]
    · obtain ⟨b, rfl, _⟩ := h
      simp [RoCell]
    · obtain ⟨xs, rfl, _⟩ := h
      simp [RoCell]
    · exact isF_ro (isT_ro n) _ _ h
    · cases h
theorem tags_ro {κ : Kap} {w : World} {p : List PV} (h : ∀ c ∈ p, RoCell c) (b : Bool) (v : Value) : TagsOK κ w (elemP b p) v := by
  have one : ∀ c, RoCell c → ∀ {v : Value} {sz : Nat} {t : Tag} {u : Value}, Occ c v sz t u → TagOK κ w t sz u := by
    intro c hc v sz t u ho
    rcases hc with ⟨x, rfl⟩ | ⟨s, xs, rfl⟩
    · cases ho
    · cases ho; trivial
  intro sz t u ho
  unfold elemP at ho
  split at ho
  · cases ho with | agg hc hv h2 => exact one _ (h _ (List.mem_of_getElem? hc)) h2
  · cases p with
    | nil => cases ho
    | cons c p => exact one c (h c (List.mem_cons_self ..)) ho

theorem cells_one {P : Program} {w : World} {base : Nat} {t : TypeId} {v : Value} (h : Cell.okWide P w .any base t v) (hk : kindT P t ≠ .x) (ha : (kindT P t).agg = false) : v.cells = #[v] := by
  unfold Cell.okWide Cell.ok at h
  cases v with
  | agg cs =>
    cases hu : P.underlying t with
    | none => rw [hu] at h; exact absurd h (by simp)
    | some d => rw [hu] at h; cases d <;> exact absurd h (by simp)
  | _ => rfl
theorem arg_rep {P : Program} {w : World} {κ : Kap} {base n : Nat} {t : TypeId} {v : Value} {p : List PV} (hval : Value.okWide P w .any base t v) (hg : kindT P t ≠ .x) (hr : Reps κ w p v.cells.toList) : Rep κ w (elemP (kindT P t).agg p) v := by
  unfold Value.okWide at hval
  by_cases ha : (kindT P t).agg = true
  · have : ∃ cs, v = .agg cs := by
      unfold kindT KT.agg at ha
      cases hu : P.underlying t with
      | none => rw [hu] at ha; simp at ha
      | some d =>
        rw [hu] at hval ha
        cases d <;> simp at ha hval <;> first | exact ⟨_, hval.choose_spec.1⟩ | skip
        all_goals (obtain ⟨cs, rfl, _⟩ := hval; exact ⟨cs, rfl⟩)
    obtain ⟨cs, rfl⟩ := this
    rw [ha]
    simp only [elemP, if_true]
    have := Rep.agg p cs.toList hr.len hr.at_
    simpa using this
  · have ha' : (kindT P t).agg = false := by simpa using ha
    have hc : Cell.okWide P w .any base t v := by
      cases hu : P.underlying t with
      | none => rw [hu] at hval; exact hval
      | some d =>
        rw [hu] at hval
        cases d <;> first | exact hval | skip
        all_goals
          exfalso
          unfold kindT at ha' hg
          rw [hu] at ha' hg
          simp only at ha' hg
          split at ha' <;> simp_all [KT.agg]
    have e := cells_one hc hg ha'
    rw [e] at hr
    rw [ha']
    have hl := hr.len
    match p, hl with
    | [q], _ => exact hr.at_ 0 q v rfl rfl

/-- An argument that was read as data is an abstract value. -/
theorem arg_read {H : Type} {enc : TypeId × Value → H} {P : Program} {w : World} {base : Nat} {t : TypeId} {v : Value} {d : DataW H} {ps : List MemPlace} (n : Nat) (hg : goodT P n t = true)
    (h : DataW.Trod enc P w 0 (fun _ => true) true t v d ps) (hval : Value.okWide P w .any base t v) :
    ∃ p, IsT P n t p ∧ Rep (kap0 w) w (elemP (kindT P t).agg p) v ∧ TagsOK (kap0 w) w (elemP (kindT P t).agg p) v := by
  obtain ⟨fuel, hf⟩ := h
  obtain ⟨p, h1, h2⟩ := read_ok n t hg fuel _ _ hf
  have hx : kindT P t ≠ .x := by
    intro e
    cases n with
    | zero => cases hg
    | succ n => simp [goodT, e] at hg
  exact ⟨p, h1, arg_rep (n := n) hval hx h2, tags_ro (isT_ro n t p h1) _ _⟩

theorem trodAll_stays {H : Type} {enc : TypeId × Value → H} {P : Program} (hl : laidOutB P = true) {W W' : World} (hb : Below W.heap.size W W') : ∀ {ts : List TypeId} {vs : List Value} {ds : List (DataW H)} {ps : List MemPlace},
    (∀ t ∈ ts, P.readableRec t = true ∧ t < P.types.size) → DataW.TrodAll enc P W 0 (fun _ => true) true ts vs ds ps → (∀ x ∈ ps, x.block < W.heap.size) →
    DataW.TrodAll enc P W' 0 (fun b => decide (b < W.heap.size)) true ts vs ds ps
  | [], vs, ds, ps, hr, h, hlt => by
    cases vs <;> cases ds <;> first | exact h | (cases h; done)
  | t :: ts, vs, ds, ps, hr, h, hlt => by
    obtain ⟨v, vs1, d, ds1, a, b, rfl, rfl, rfl, h1, h2⟩ := trodAll_cons h
    obtain ⟨r1, r2⟩ := hr t (List.mem_cons_self ..)
    exact ⟨a, b, Below.trod hl r1 r2 h1 hb fun x hx => hlt x (List.mem_append_left _ hx), trodAll_stays hl hb (fun t' ht => hr t' (List.mem_cons_of_mem _ ht)) h2 fun x hx => hlt x (List.mem_append_right _ hx), rfl⟩

/-- The law returns true and leaves everything as it stands: that is the statement's end. -/
theorem law_post {H : Type} {enc : TypeId × Value → H} {P : Program} {f : Func} {s : ChangeSpec} {W W' : World} {args : Array Value} {ds gs : List (DataW H)} {before : List MemPlace} (hl : laidOutB P = true)
    (hW : DataW.Whole enc P f.params.toList s.vars false W args.toList ds gs before) (hv : s.vars = []) (hres : (s.fn H ds).results = [.lit (.bool true)]) (hargs : (s.fn H ds).args = ds) (hvs : (s.fn H ds).vars = [])
    (hb : Below W.heap.size W W') (hp : ∀ t ∈ f.params.toList, P.readableRec t = true ∧ t < P.types.size) (hrt : f.resultTypes = #[4]) (h4 : P.underlying 4 = some .bool) :
    s.post enc P f false true false false W args (.bool true) W' := by
  have hW' := hW
  obtain ⟨p, q, hA, hV, rfl, hfz, hnd⟩ := hW
  rw [hv] at hV
  obtain ⟨rfl, rfl⟩ := trodVars_none hV
  simp only [List.append_nil] at hW' ⊢
  refine ⟨ds, [], p, [], p, [], hW', ?_, ?_, ?_, ?_, fun h => by cases h⟩
  · simp only [List.append_nil, hres, hrt]
    exact trodAll_mk1 (shut_bool h4 true)
  · simp only [List.append_nil, hargs]
    exact trodAll_stays hl hb hp hA fun x hx => by simpa using hW'.lt x hx
  · simp only [List.append_nil, hvs, hv]
    rfl
  · exact hb.frame _

/-- What the evaluator says, said of the model. -/
theorem law_calls {k : FuncId} {args : Array Value} {ps : List PV} {W : World} (hc : callW tcfg k ps [] = some ⟨Bo true, [], []⟩) (hr : Reps (kap0 W) W ps args.toList) (ht : ∀ (i : Nat) p v, ps[i]? = some p → args.toList[i]? = some v → TagsOK (kap0 W) W p v) :
    Calls Try.prog k args W fun e W' => e = .returned (.bool true) ∧ Below W.heap.size W W' := by
  obtain ⟨_, _, h⟩ := callW_ok tcfg_ok prim_grow prim_ok k ps [] _ hc
  have := h (kap0 W) W args.toList (conc0 W) hr ht (fun id hid => by cases hid)
  rw [Array.toArray_toList] at this
  refine this.mono fun e W' ⟨v, κ', he, hp, hcc, hrep, _, _⟩ => ?_
  have hv := hrep.sc_inv
  subst hv
  refine ⟨he, hp.ext.os, hp.ext.tape, hp.ext.output, hp.ext.size, fun b hb => (hp.ext.low b (.inl hb) hb).1⟩
end Go.Q
