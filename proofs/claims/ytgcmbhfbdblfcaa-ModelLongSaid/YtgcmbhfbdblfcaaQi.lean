/-
  One operation, with its guard; a region whose operations come up in the text's order.
-/
import Derived.Test.YtgcmbhfbdblfcaaQh
import Derived.Tactics
set_option linter.unusedVariables false
set_option linter.unusedSimpArgs false
namespace Go.Q

/-- The world and the state fit. 'Z': variables that the caller has closed. -/
structure Inv (Z : Nat → Prop) (κ : Kap) (w : World) (s : St) (a : Act) : Prop where
  conc : Conc κ w s.B
  frame : FrameRel κ w s.f a.tmps
  frz : ∀ id, κ.frz id → id ∈ s.fz ∨ Z id
  defers : a.defers = []

theorem run_callFunc {P : Program} {k : FuncId} {fn : Func} {args : Array Value} {w : World} (h : P.funcs[k]? = some fn) (hb : fn.body.isSome = true) (hn : (fn.name == "runtime.NumGoroutine") = false) :
    (callFunc k args).run P w = .ok (.enter k args) w := by
  have hb' : fn.body.isNone = false := by cases hfb : fn.body <;> simp [hfb] at hb ⊢
  simp only [beq_eq_false_iff_ne, ne_eq] at hn
  have hb2 : ¬ fn.body = none := fun e => by simp [e] at hb
  simp [callFunc, h, hn, hb2, Sem.run, program]

theorem wp_of_steps {C : Cfg} {κ : Kap} {w : World} {s s' : St} {a : Act} {o : Oper} {p : PV} {v : Value} {κ' : Kap} {w' : World} {nm : List Nat} (h : Steps_ C κ w s s' a (execOp a.eval o) p v κ' w' nm)
    {K : Act → World → Prop} {Q : Exit → Act → World → Prop} (hK : ∀ v κ' w' nm, Stepped κ w s s' a p v κ' w' nm → K (a.put o.dst v) w') : o.wp C.P a w K Q := by
  have hk := hK v κ' w' nm h.stepped
  unfold Oper.wp
  rcases h.run with hr | ⟨hr, hv⟩
  · rw [hr]; exact hk
  · rw [hr]; subst hv; exact hk

theorem Stepped.refl {κ : Kap} {w : World} {s : St} {a : Act} {p : PV} {v : Value} (hc : Conc κ w s.B) (hf : FrameRel κ w s.f a.tmps) (hr : Rep κ w p v) (ht : TagsOK κ w p v) : Stepped κ w s s a p v κ w [] :=
  ⟨.refl _ _ _, hc, hf, hr, ht, rfl, fun _ h => .inl h, fun _ h => h⟩

theorem wp_pure {C : Cfg} (hC : CfgOK C) {κ : Kap} {w : World} {s s' : St} {a : Act} {o : Oper} {p : PV} (h : (pureOp C s.f o).map (fun p => (p, s)) = some (p, s')) (hc : Conc κ w s.B) (hf : FrameRel κ w s.f a.tmps)
    {K : Act → World → Prop} {Q : Exit → Act → World → Prop} (hK : ∀ v κ' w' nm, Stepped κ w s s' a p v κ' w' nm → K (a.put o.dst v) w') : o.wp C.P a w K Q := by
  obtain ⟨p0, h0, h1⟩ := Option.map_eq_some_iff.1 h
  simp only [Prod.mk.injEq] at h1
  obtain ⟨rfl, rfl⟩ := h1
  obtain ⟨v, hrun, hrep, htag⟩ := pureOp_ok hC h0 hf
  unfold Oper.wp
  rw [hrun κ w (.refl _ _)]
  exact hK v κ w [] (.refl hc hf hrep htag)

theorem frame_args {κ : Kap} {w : World} {f : List PV} {a : Act} (hf : FrameRel κ w f a.tmps) (l : List Operand) :
    Reps κ w (l.map (opv f)) (l.map a.eval) ∧ ∀ (i : Nat) p v, (l.map (opv f))[i]? = some p → (l.map a.eval)[i]? = some v → TagsOK κ w p v := by
  have key : ∀ (i : Nat) p v, (l.map (opv f))[i]? = some p → (l.map a.eval)[i]? = some v → Rep κ w p v ∧ TagsOK κ w p v := by
    intro i p v hp hv
    rw [List.getElem?_map] at hp hv
    obtain ⟨x, hx, rfl⟩ := Option.map_eq_some_iff.1 hp
    rw [hx] at hv
    simp only [Option.map_some, Option.some.injEq] at hv
    subst hv
    exact hf.opv x
  exact ⟨⟨by simp, fun i p v hp hv => (key i p v hp hv).1⟩, fun i p v hp hv => (key i p v hp hv).2⟩

theorem step_ok {C : Cfg} (hC : CfgOK C) {call : FuncId → List PV → List (List PV) → Option Out} (hcall : CallsOK C call) {fid : Nat} {κ : Kap} {w : World} {s s' : St} {a : Act} {o : Oper} {p : PV}
    (h : stepOp C call fid o s = some (p, s')) (hc : Conc κ w s.B) (hf : FrameRel κ w s.f a.tmps) (hz : ∀ id ∈ s'.mods, id ∉ s.fz → ¬ κ.frz id)
    {K : Act → World → Prop} {Q : Exit → Act → World → Prop} (hK : ∀ v κ' w' nm, Stepped κ w s s' a p v κ' w' nm → K (a.put o.dst v) w') : o.wp C.P a w K Q := by
  obtain ⟨dst, op, ty, pos, aft, gd⟩ := o
  have h0 := h
  unfold stepOp at h
  simp only at h
  split at h
  · rename_i x
    simp only [Option.some.injEq] at h
    obtain ⟨κ', hs⟩ := assign_ok C (m := execOp a.eval ⟨dst, .assign x, ty, pos, aft, gd⟩) h hc hf (fun w2 => by simp [execOp])
    exact wp_of_steps hs hK
  · rename_i t x
    obtain ⟨p0, h1, h2⟩ := Option.map_eq_some_iff.1 h
    simp only [Prod.mk.injEq] at h2
    obtain ⟨rfl, rfl⟩ := h2
    obtain ⟨v, hrun, hrep, htag⟩ := loadOp_ok h1 (hf.opv x).1 hc
    have := hrun κ w (.refl _ _) (fun _ _ _ _ _ => rfl)
    unfold Oper.wp
    simp only [execOp]
    simp [this]
    exact hK v κ w [] (.refl hc hf hrep htag)
  · rename_i t x y
    obtain ⟨s1, h1, h2⟩ := Option.map_eq_some_iff.1 h
    simp only [Prod.mk.injEq] at h2
    obtain ⟨rfl, rfl⟩ := h2
    have hnf : ∀ id off, opv s.f x = .ptr id off → ¬ κ.frz id := by
      intro id off hx
      have h3 := h1
      unfold storeOp at h3
      rw [hx] at h3
      simp only at h3
      split at h3
      · rename_i cs hcs
        cases hst : settle id off (opv s.f y) with
        | mk vs ht =>
          simp only [hst] at h3
          split at h3
          · rename_i hcond
            simp only [Option.some.injEq] at h3
            subst h3
            exact hz id (List.mem_cons_self ..) hcond.2.2.2.2.2
          · cases h3
      · cases h3
    obtain ⟨id, κ', w', hs⟩ := store_ok h1 hc hf hnf dst ty pos aft gd
    exact wp_of_steps hs hK
  · rename_i e
    split at h
    · rename_i hz0
      simp only [Option.some.injEq, Prod.mk.injEq] at h
      obtain ⟨rfl, rfl⟩ := h
      obtain ⟨v, κ', w', hs⟩ := alloc_ok hC hz0 hc hf dst ty pos aft gd
      exact wp_of_steps hs hK
    · cases h
  · rename_i e x
    obtain ⟨v, κ', w', hs⟩ := box_ok (e := e) h hc hf dst ty pos aft gd
    exact wp_of_steps hs hK
  · obtain ⟨v, κ', w', hs⟩ := makeSlice_ok hC h hc hf dst ty pos aft gd
    exact wp_of_steps hs hK
  · obtain ⟨v, κ', w', hs⟩ := buildSlice_ok hC h hc hf dst ty pos aft gd
    exact wp_of_steps hs hK
  · split at h
    · split at h
      · obtain ⟨v, κ', hs⟩ := sliceArr_ok h hc hf dst ty pos aft gd
        exact wp_of_steps hs hK
      · cases h
    · exact wp_pure hC h hc hf hK
  · rename_i c
    obtain ⟨callee, args, argTypes⟩ := c
    simp only at h
    have viaCall : ∀ (k : FuncId) (as : List PV) (vs : List Value), callOp C call (dst.getD 0) s k as = some (p, s') → Reps κ w as vs → (∀ (i : Nat) p v, as[i]? = some p → vs[i]? = some v → TagsOK κ w p v) →
        (∀ fn, C.P.funcs[k]? = some fn → fn.body.isSome = true → (fn.name == "runtime.NumGoroutine") = false → (execOp a.eval ⟨dst, .call ⟨callee, args, argTypes⟩, ty, pos, aft, gd⟩).run C.P w = .ok (.enter k vs.toArray) w) →
        Oper.wp C.P ⟨dst, .call ⟨callee, args, argTypes⟩, ty, pos, aft, gd⟩ a w K Q := by
      intro k as vs h1 hr ht he
      obtain ⟨⟨fn, hfn, hb⟩, hcalls⟩ := callOp_ok hcall h1 hc hf hr ht hz
      unfold Oper.wp
      rw [he fn hfn hb (hC.names k fn hfn), Oper.upon_enter]
      refine Calls.mono hcalls fun e w1 he => ?_
      obtain ⟨v, κ', nm, rfl, hst⟩ := he
      exact hK v κ' w1 nm hst
    split at h
    · split at h
      · rename_i x y t t' hargs htys
        split at h
        · rename_i htt
          subst htt
          have e1 : args = #[x, y] := by
            apply Array.toList_inj.1; simpa using hargs
          have e2 : ∃ t1, argTypes = #[t1, t1] ∧ appendOp C (dst.getD 0) s t1 (opv s.f x) (opv s.f y) = some (p, s') := ⟨_, by apply Array.toList_inj.1; simpa using htys, h⟩
          obtain ⟨t1, e2, h⟩ := e2
          subst e1; subst e2
          obtain ⟨v, κ', w', nm, hs⟩ := append_ok hC h hc hf dst ty pos aft gd
          exact wp_of_steps hs hK
        · cases h
      · cases h
    · exact wp_pure hC h hc hf hK
    · rename_i k
      obtain ⟨hr, ht⟩ := frame_args hf args.toList
      refine viaCall k _ (args.toList.map a.eval) h hr ht fun fn hfn hb hn => ?_
      have e : (args.map a.eval) = (args.toList.map a.eval).toArray := by
        apply Array.toList_inj.1; simp
      simp [execOp, resolve, Act.eval, Deferred.ofValue, invoke]
      rw [run_callFunc hfn hb hn, e]
    · rename_i t
      split at h
      · rename_i k cap hfn0
        have hq := hf.getD t
        rw [hfn0] at hq
        obtain ⟨us, hv, hus⟩ := hq.1.fn_inv
        obtain ⟨hr, ht⟩ := frame_args hf args.toList
        refine viaCall k _ (args.toList.map a.eval ++ us.toList) h (hr.append (hus.map PV.flat fun c v _ h => h.flat)) (fun i q u hq hu => ?_) fun fn hfn hb hn => ?_
        · rw [List.getElem?_append] at hq hu
          simp only [List.length_map] at hq hu
          split at hq
          · rename_i hi
            rw [if_pos hi] at hu
            exact ht i q u hq hu
          · rw [List.getElem?_map] at hq
            obtain ⟨c, _, rfl⟩ := Option.map_eq_some_iff.1 hq
            exact .flat
        · have e : (args.map a.eval) ++ us = (args.toList.map a.eval ++ us.toList).toArray := by
            apply Array.toList_inj.1; simp
          simp [execOp, resolve, Act.eval, hv, Deferred.ofValue, invoke]
          rw [run_callFunc hfn hb hn, e]
      · cases h
    · cases h
  · exact wp_pure hC h hc hf hK
end Go.Q
