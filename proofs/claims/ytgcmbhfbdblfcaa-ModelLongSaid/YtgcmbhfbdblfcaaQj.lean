/-
  Guards; regions in the text's order; regions whose order is drawn.
-/
import Derived.Test.YtgcmbhfbdblfcaaQi
import Derived.OrdersHeld
set_option linter.unusedVariables false
set_option linter.unusedSimpArgs false
namespace Go.Q

/-- From one state to a later one. -/
structure Moved (κ : Kap) (w : World) (s s' : St) (κ' : Kap) (w' : World) : Prop where
  ex : ∃ nm, s'.mods = nm ++ s.mods ∧ Post κ w s.B.length nm κ' w'

theorem Moved.refl (κ : Kap) (w : World) (s : St) : Moved κ w s s κ w := ⟨[], rfl, .refl _ _ _⟩
theorem Moved.trans {κ κ1 κ2 : Kap} {w w1 w2 : World} {s s1 s2 : St} (h : Moved κ w s s1 κ1 w1) (k : Moved κ1 w1 s1 s2 κ2 w2) (g : Grow s s1) : Moved κ w s s2 κ2 w2 := by
  obtain ⟨m, e, p⟩ := h.ex
  obtain ⟨m1, e1, p1⟩ := k.ex
  obtain ⟨_, _, g1, _⟩ := g
  exact ⟨m1 ++ m, by rw [e1, e, List.append_assoc], p.trans p1 g1⟩

theorem Grow.mods_sub {s s' : St} (h : Grow s s') : ∀ id ∈ s.mods, id ∈ s'.mods := fun id hid => by
  obtain ⟨nm, e, _⟩ := h; rw [e]; exact List.mem_append_right _ hid

theorem inv_of_stepped {Z : Nat → Prop} {κ κ' : Kap} {w w' : World} {s s' : St} {a : Act} {p : PV} {v : Value} {nm : List Nat} (hi : Inv Z κ w s a) (h : Stepped κ w s s' a p v κ' w' nm) (d : Option Nat) :
    Inv Z κ' w' (s'.put d p) (a.put d v) ∧ Moved κ w s (s'.put d p) κ' w' := by
  refine ⟨⟨?_, h.frame.put h.rep h.tags d, fun id hid => ?_, ?_⟩, ⟨nm, ?_, h.post⟩⟩
  · cases d <;> exact h.conc
  · have : id ∈ s'.fz ∨ Z id := by
      rcases h.frz id hid with h1 | h1
      · rcases hi.frz id h1 with h2 | h2
        · exact .inl (h.fz id h2)
        · exact .inr h2
      · exact .inl h1
    cases d <;> exact this
  · cases d <;> exact hi.defers
  · cases d <;> exact h.mods

theorem wanted_guard {κ : Kap} {w : World} {s : St} {a : Act} {ops : Array Oper} {j : Nat} {b : Bool} (hf : FrameRel κ w s.f a.tmps) (h : ((ops[j]?).bind (·.dst)).map (fun t => s.f.getD t .any) = some (.sc (.bool b))) :
    yielded ops a.tmps j = some b := by
  obtain ⟨t, ht, hp⟩ := Option.map_eq_some_iff.1 h
  have hr := (hf.getD t).1
  rw [hp] at hr
  have hv := hr.sc_inv
  unfold yielded
  rw [ht]
  simp only [Option.bind_some]
  cases hx : a.tmps[t]? with
  | none =>
    rw [Array.getD_eq_getD_getElem?, hx] at hv
    simp [undef] at hv
  | some u =>
    obtain ⟨hlt, he⟩ := Array.getElem?_eq_some_iff.1 hx
    simp [Array.getD, hlt, he] at hv
    subst hv
    rfl

theorem wanted_no {κ : Kap} {w : World} {s : St} {a : Act} {ops : Array Oper} {o : Oper} {j : Nat} {vs : Array Value} {want : Bool} (hg : o.guard = some (j, want)) (hf : FrameRel κ w s.f a.tmps) (h : ((ops[j]?).bind (·.dst)).map (fun t => s.f.getD t .any) = some (.sc (.tuple vs))) :
    Region.wanted o (yielded ops a.tmps) = false := by
  obtain ⟨t, ht, hp⟩ := Option.map_eq_some_iff.1 h
  have hr := (hf.getD t).1
  rw [hp] at hr
  have hv := hr.sc_inv
  have hy : yielded ops a.tmps j = none := by
    unfold yielded
    rw [ht]
    simp only [Option.bind_some]
    cases hx : a.tmps[t]? with
    | none => rfl
    | some u =>
      obtain ⟨hlt, he⟩ := Array.getElem?_eq_some_iff.1 hx
      simp [Array.getD, hlt, he] at hv
      subst hv
      rfl
  unfold Region.wanted
  rw [hg]
  show (yielded ops a.tmps j == some want) = false
  rw [hy]
  rfl

theorem wanted_eq {κ : Kap} {w : World} {s : St} {a : Act} {ops : Array Oper} {o : Oper} {j : Nat} {b want : Bool} (hg : o.guard = some (j, want)) (hf : FrameRel κ w s.f a.tmps) (h : ((ops[j]?).bind (·.dst)).map (fun t => s.f.getD t .any) = some (.sc (.bool b))) :
    Region.wanted o (yielded ops a.tmps) = (b == want) := by
  unfold Region.wanted
  rw [hg]
  show (yielded ops a.tmps j == some want) = _
  rw [wanted_guard hf h]
  cases b <;> cases want <;> rfl

theorem guard_ok {C : Cfg} (hC : CfgOK C) {call : FuncId → List PV → List (List PV) → Option Out} (hcall : CallsOK C call) {fid : Nat} {Z : Nat → Prop} {κ : Kap} {w : World} {s s' : St} {a : Act} {ops : Array Oper} {o : Oper}
    (h : guardOp C call fid ops o s = some s') (hi : Inv Z κ w s a) (hZ : ∀ id ∈ s'.mods, ¬ Z id)
    {K : Act → World → Prop} {Q : Exit → Act → World → Prop} (hK : ∀ a' κ' w', Inv Z κ' w' s' a' → Moved κ w s s' κ' w' → K a' w') :
    if Region.wanted o (yielded ops a.tmps) then o.wp C.P a w K Q ∨ (o.asks C.P a w ∧ LetsOut Q) else K (a.put o.dst undef) w := by
  have run : (stepOp C call fid o s).map (fun r => r.2.put o.dst r.1) = some s' → o.wp C.P a w K Q := by
    intro h
    obtain ⟨⟨p, s1⟩, h1, rfl⟩ := Option.map_eq_some_iff.1 h
    refine step_ok hC hcall h1 hi.conc hi.frame (fun id hid hn hfz => ?_) fun v κ' w' nm hst => ?_
    · rcases hi.frz id hfz with h2 | h2
      · exact hn h2
      · refine hZ id ?_ h2
        simp only
        cases o.dst <;> exact hid
    · obtain ⟨h2, h3⟩ := inv_of_stepped hi hst o.dst
      exact hK _ κ' w' h2 h3
  unfold guardOp at h
  split at h
  · rename_i hg
    have : Region.wanted o (yielded ops a.tmps) = true := by unfold Region.wanted; rw [hg]
    rw [if_pos this]
    exact .inl (run h)
  · rename_i j want hg
    split at h
    · rename_i b hb
      rw [wanted_eq hg hi.frame hb]
      split at h
      · rename_i hbw
        rw [if_pos (by simp [hbw])]
        exact .inl (run h)
      · rename_i hbw
        simp only [Option.some.injEq] at h
        subst h
        rw [if_neg (by simp [hbw])]
        obtain ⟨h2, h3⟩ := inv_of_stepped hi (.refl (p := .sc undef) (v := undef) hi.conc hi.frame (.sc _) (.of_no_occ fun sz t u ho => by cases ho)) o.dst
        exact hK _ κ w h2 h3
    · rename_i vs hb
      simp only [Option.some.injEq] at h
      subst h
      rw [if_neg (by rw [wanted_no hg hi.frame hb]; simp)]
      obtain ⟨h2, h3⟩ := inv_of_stepped hi (.refl (p := .sc undef) (v := undef) hi.conc hi.frame (.sc _) (.of_no_occ fun sz t u ho => by cases ho)) o.dst
      exact hK _ κ w h2 h3
    · cases h

theorem runOps_ok {C : Cfg} (hC : CfgOK C) {call : FuncId → List PV → List (List PV) → Option Out} (hcall : CallsOK C call) (hg : CallGrow call) {fid : Nat} {Z : Nat → Prop} {ops : Array Oper} {Q : Exit → Act → World → Prop} : ∀ (l : List Oper) {κ : Kap} {w : World} {s s' : St} {a : Act},
    runOps C call fid ops l s = some s' → Inv Z κ w s a → (∀ id ∈ s'.mods, ¬ Z id) → (∀ a' κ' w', Inv Z κ' w' s' a' → Moved κ w s s' κ' w' → Q .normal a' w') → wpList C.P ops Q l a w
  | [], κ, w, s, s', a, h, hi, hZ, hQ => by
    simp only [runOps, Option.some.injEq] at h
    subst h
    exact hQ a κ w hi (.refl ..)
  | o :: l, κ, w, s, s', a, h, hi, hZ, hQ => by
    simp only [runOps] at h
    split at h
    · rename_i s1 h1
      have g1 := guardOp_grow hg h1
      have g2 := runOps_grow hg l h
      exact guard_ok hC hcall h1 hi (fun id hid => hZ id (g2.mods_sub id hid)) fun a' κ' w' hi' hm => runOps_ok hC hcall hg l h hi' hZ fun a2 κ2 w2 hi2 hm2 => hQ a2 κ2 w2 hi2 (hm.trans hm2 g1)
    · cases h

/-! ### Regions whose order is drawn: what is taken ahead holds in every later world -/
section
variable {P : Program} {ops : Array Oper} {Q : Exit → Act → World → Prop} {md : Region.Mode}

/-- Whatever order is picked from here on; behind every operation the condition may be made narrower. -/
def wpAnyK (P : Program) (md : Region.Mode) (ops : Array Oper) (Q : Exit → Act → World → Prop) : Nat → (World → Prop) → Array Bool → Act → World → Prop
  | 0, _, listed, a, w => Region.ready md ops listed = [] ∧ Q .normal a w
  | fuel + 1, S, listed, a, w =>
    (Region.ready md ops listed = [] → Q .normal a w) ∧
    ∀ i ∈ Region.ready md ops listed, wpOp P ops Q i (fun a' w' => ∃ S', (∀ x, S' x → S x) ∧ S' w' ∧ wpAnyK P md ops Q fuel S' (listed.setIfInBounds i true) a' w') a w

theorem wpAny_of_K : ∀ (fuel : Nat) (S : World → Prop) (listed : Array Bool) (a : Act) (w : World), wpAnyK P md ops Q fuel S listed a w → wpAny P md ops Q fuel listed a w
  | 0, _, _, _, _, h => h
  | fuel + 1, S, _, _, _, h => ⟨h.1, fun i hi => wpOp_mono (fun a' w' ⟨S', _, _, h'⟩ => wpAny_of_K fuel S' _ a' w' h') (h.2 i hi)⟩

theorem wpAnyK_first {i : Nat} {oi : Oper} {v : Value} (hi : ops[i]? = some oi) (hsel : ∀ (j : Nat) (o : Oper) cs b, ops[j]? = some o → o.op ≠ .select cs b)
    (hQ : ∀ c a w, Q (.panic c) (a.put oi.dst v) w → Q (.panic c) a w) :
    ∀ (fuel : Nat) (S : World → Prop) (listed : Array Bool) (a : Act) (w : World),
      (∀ j oj, ops[j]? = some oj → j ≠ i → listed.getD j true = false → (∀ e ∈ oj.after, Region.binds md e = true → e.on ≠ i) → oi.apart ops oj = true) →
      i ∈ Region.ready md ops listed → YieldsIf P ops S oi v a → S w →
      wpAnyK P md ops Q fuel S (listed.setIfInBounds i true) (a.put oi.dst v) w → wpAnyK P md ops Q (fuel + 1) S listed a w := by
  intro fuel
  induction fuel with
  | zero =>
    intro S listed a w _ hr hy hS H
    refine ⟨fun h => (by rw [h] at hr; cases hr), fun j hj => ?_⟩
    by_cases hji : j = i
    · subst hji; exact hy.wpOp hi hS ⟨S, fun _ h => h, hS, H⟩
    · have := ready_mono hj hji
      rw [H.1] at this
      cases this
  | succ fuel ih =>
    intro S listed a w hfree hr hy hS H
    refine ⟨fun h => (by rw [h] at hr; cases hr), fun j hj => ?_⟩
    by_cases hji : j = i
    · subst hji; exact hy.wpOp hi hS ⟨S, fun _ h => h, hS, H⟩
    · have h1 := H.2 j (ready_mono hj hji)
      obtain ⟨hjun, oj, hoj, hall⟩ := mem_ready.1 hj
      have hnot : ∀ e ∈ oj.after, Region.binds md e = true → e.on ≠ i := fun e he hb heq => by
        have h1 := hall e he hb
        have h0 := (mem_ready.1 hr).1
        rw [heq] at h1
        rcases Nat.lt_or_ge i listed.size with h' | h'
        · simp [h'] at h0 h1; rw [h0] at h1; cases h1
        · simp [Array.getElem?_eq_none h'] at h1
      have h2 := wpOp_putIf hoj (hfree j oj hoj hji hjun hnot) (fun cs b => hsel i oi cs b hi) (fun cs b => hsel j oj cs b hoj) hQ hy h1
      have hfree' : ∀ k ok, ops[k]? = some ok → k ≠ i → (listed.setIfInBounds j true).getD k true = false →
          (∀ e ∈ ok.after, Region.binds md e = true → e.on ≠ i) → oi.apart ops ok = true := fun k ok hk hki hun hno => by
        refine hfree k ok hk hki ?_ hno
        by_cases hjk : j = k
        · subst hjk; exact hjun
        · rw [getD_set_ne true hjk] at hun; exact hun
      refine wpOp_mono (fun a' w' h3 => ?_) h2
      obtain ⟨hy', S', hsub, hS', hrest⟩ := h3
      refine ⟨S', hsub, hS', ih S' (listed.setIfInBounds j true) a' w' hfree' (ready_mono hr (Ne.symm hji)) ?_ hS' ?_⟩
      · exact hy'.imp (fun ⟨h1, h2⟩ => ⟨h1, fun w hw => h2 w (hsub w hw)⟩) id
      · rw [Array.setIfInBounds_comm _ _ hji]
        exact hrest
end

/-- The worlds that may come later: what stands for good stands, and these boxes are as they are now. -/
def Later (κ : Kap) (w : World) (ld : List Nat) (w2 : World) : Prop := ∃ κ2, Le κ w κ2 w2 ∧ ∀ id ∈ ld, ∀ b, κ.mu id = some b → w2.heap[b]? = w.heap[b]?
theorem Later.here (κ : Kap) (w : World) (ld : List Nat) : Later κ w ld w := ⟨κ, .refl _ _, fun _ _ _ _ => rfl⟩
theorem Later.sub {κ κ1 : Kap} {w w1 : World} {ld : List Nat} {n : Nat} {nm : List Nat} (h : Post κ w n nm κ1 w1) (hn : ∀ id ∈ ld, id ∉ nm) : ∀ x, Later κ1 w1 ld x → Later κ w ld x := fun x ⟨κ2, h1, h2⟩ =>
  ⟨κ2, h.ext.le.trans h1, fun id hid b hb => (h2 id hid b (h.ext.le.mu id b hb)).trans (h.boxes id b (hn id hid) hb)⟩

theorem pureKind_yields {C : Cfg} (hC : CfgOK C) {call : FuncId → List PV → List (List PV) → Option Out} {fid : Nat} {Z : Nat → Prop} {κ : Kap} {w : World} {s s' : St} {a : Act} {ops : Array Oper} {o : Oper} {ld : List Nat}
    (h : guardOp C call fid ops o s = some s') (hk : (pureKind o || isLoad o) = true) (hl : ∀ id ∈ (loadId s.f o).toList, id ∈ ld) (hi : Inv Z κ w s a) :
    ∃ v, YieldsIf C.P ops (Later κ w ld) o v a ∧ Inv Z κ w s' (a.put o.dst v) ∧ s'.mods = s.mods ∧ s'.B = s.B := by
  have fin : ∀ (p : PV) (v : Value), Rep κ w p v → TagsOK κ w p v → Inv Z κ w (s.put o.dst p) (a.put o.dst v) ∧ (s.put o.dst p).mods = s.mods ∧ (s.put o.dst p).B = s.B := fun p v hr ht => by
    refine ⟨(inv_of_stepped hi (.refl hi.conc hi.frame hr ht) o.dst).1, ?_, ?_⟩ <;> cases o.dst <;> rfl
  have run : Region.wanted o (yielded ops a.tmps) = true → (stepOp C call fid o s).map (fun r => r.2.put o.dst r.1) = some s' →
      ∃ v, YieldsIf C.P ops (Later κ w ld) o v a ∧ Inv Z κ w s' (a.put o.dst v) ∧ s'.mods = s.mods ∧ s'.B = s.B := by
    intro hw hh
    obtain ⟨⟨p, s1⟩, h1, rfl⟩ := Option.map_eq_some_iff.1 hh
    clear h hh
    have viaPure : (pureOp C s.f o).map (fun p => (p, s)) = some (p, s1) → ∃ v, YieldsIf C.P ops (Later κ w ld) o v a ∧ Inv Z κ w (s1.put o.dst p) (a.put o.dst v) ∧ (s1.put o.dst p).mods = s.mods ∧ (s1.put o.dst p).B = s.B := by
      intro h2
      obtain ⟨p0, h0, h1⟩ := Option.map_eq_some_iff.1 h2
      simp only [Prod.mk.injEq] at h1
      obtain ⟨rfl, rfl⟩ := h1
      obtain ⟨v, hrun, hrep, htag⟩ := pureOp_ok hC h0 hi.frame
      exact ⟨v, .inl ⟨hw, fun w2 ⟨κ2, hle, _⟩ => hrun κ2 w2 hle⟩, fin p0 v hrep htag⟩
    obtain ⟨dst, op, ty, pos, aft, gd⟩ := o
    unfold stepOp at h1
    simp only [pureKind, isLoad, Bool.or_eq_true] at hk
    simp only at h1
    split at h1
    · simp at hk
    · rename_i t x
      obtain ⟨p0, h2, h3⟩ := Option.map_eq_some_iff.1 h1
      simp only [Prod.mk.injEq] at h3
      obtain ⟨rfl, rfl⟩ := h3
      obtain ⟨v, hrun, hrep, htag⟩ := loadOp_ok h2 (hi.frame.opv x).1 hi.conc
      refine ⟨v, .inl ⟨hw, fun w2 ⟨κ2, hle, hbx⟩ => ?_⟩, fin p0 v hrep htag⟩
      have := hrun κ2 w2 hle (fun id off b hx hb => hbx id (hl id (by simp [loadId, hx])) b hb)
      simp [execOp, this]
    · simp at hk
    · simp at hk
    · simp at hk
    · simp at hk
    · simp at hk
    · split at h1
      · split at h1
        · simp at hk
        · cases h1
      · exact viaPure h1
    · rename_i c
      obtain ⟨callee, args, argTypes⟩ := c
      simp only at h1 hk
      split at h1
      · simp at hk
      · exact viaPure h1
      · simp at hk
      · simp at hk
      · simp at hk
    · exact viaPure h1
  unfold guardOp at h
  split at h
  · rename_i hg
    exact run (by unfold Region.wanted; rw [hg]) h
  · rename_i j want hg
    split at h
    · rename_i b hb
      split at h
      · rename_i hbw
        exact run (by rw [wanted_eq hg hi.frame hb]; simp [hbw]) h
      · rename_i hbw
        simp only [Option.some.injEq] at h
        subst h
        refine ⟨undef, .inr ⟨?_, rfl⟩, fin (.sc undef) undef (.sc _) (.of_no_occ fun sz t u ho => by cases ho)⟩
        rw [wanted_eq hg hi.frame hb]
        simp [hbw]
    · rename_i vs hb
      simp only [Option.some.injEq] at h
      subst h
      refine ⟨undef, .inr ⟨?_, rfl⟩, fin (.sc undef) undef (.sc _) (.of_no_occ fun sz t u ho => by cases ho)⟩
      rw [wanted_no hg hi.frame hb]
    · cases h

theorem count_set {l : Array Bool} {i : Nat} (h : l.getD i true = false) : (l.setIfInBounds i true).toList.count false + 1 = l.toList.count false := by
  have hi : i < l.size := by
    rcases Nat.lt_or_ge i l.size with h' | h'
    · exact h'
    · simp [Array.getD, Nat.not_lt.2 h'] at h
  have hl : l.toList[i]'(by simpa using hi) = false := by simpa [Array.getD, hi] using h
  rw [Array.toList_setIfInBounds]
  have key : ∀ (l : List Bool) (i : Nat) (hi : i < l.length), l[i] = false → (l.set i true).count false + 1 = l.count false := by
    intro l
    induction l with
    | nil => intro i hi; simp at hi
    | cons x l ih =>
      intro i hi hx
      cases i with
      | zero => simp at hx; subst hx; simp
      | succ i =>
        have := ih i (by simpa using hi) (by simpa using hx)
        simp only [List.set_cons_succ, List.count_cons]
        omega
  exact key l.toList i (by simpa using hi) hl

theorem joinAlts_more {b : Bool} {x y : Option (St × List Nat)} {r : St × List Nat} (h : joinAlts b x y = some r) :
    ∃ r1, x = some r1 ∧ r.1 = r1.1 ∧ (∀ id ∈ r1.2, id ∈ r.2) ∧ (b = false → ∃ r', y = some r' ∧ r.1 = r'.1 ∧ ∀ id ∈ r'.2, id ∈ r.2) := by
  unfold joinAlts at h
  split at h
  · exact ⟨r, h, rfl, fun _ h => h, fun h => by cases h⟩
  · split at h
    · rename_i e
      simp only [Option.some.injEq] at h
      subst h
      exact ⟨_, rfl, rfl, fun id hid => List.mem_append_left _ hid, fun _ => ⟨_, rfl, e.symm, fun id hid => List.mem_append_right _ hid⟩⟩
    · cases h
  · cases h

/-! ### A draw from the tape changes nothing that is spoken of -/
theorem le_drawn (κ : Kap) (w : World) (n : Nat) : Le κ w κ { w with drawn := n } := ⟨fun _ => Nat.le_refl _, fun _ _ _ _ h => h, fun _ _ h => h⟩
theorem kept_drawn (κ : Kap) (w : World) (n : Nat) (t : Tag) : Kept κ w κ { w with drawn := n } t := ⟨rfl, fun _ _ => ⟨rfl, rfl⟩⟩
theorem inv_drawn {Z : Nat → Prop} {κ : Kap} {w : World} {s : St} {a : Act} (h : Inv Z κ w s a) (n : Nat) : Inv Z κ { w with drawn := n } s a where
  conc := ⟨h.conc.base, h.conc.mu, h.conc.inj, fun id cs hcs => by
    obtain ⟨b, vs, e, hb, hbox⟩ := h.conc.box id cs hcs
    exact ⟨b, vs, e, hb, hbox.heap, hbox.reps.mono (le_drawn κ w n), hbox.one, fun j sz t xs v hj hv => by
      obtain ⟨k1, k2⟩ := hbox.tags j sz t xs v hj hv
      exact ⟨k1, k2.kept (kept_drawn ..)⟩, hbox.noAgg, hbox.lim⟩, h.conc.perm, h.conc.pinj, h.conc.fresh, h.conc.prot, h.conc.frzLt⟩
  frame := h.frame.ext0 (le_drawn κ w n) fun t _ => kept_drawn ..
  frz := h.frz
  defers := h.defers
theorem post_drawn {κ κ' : Kap} {w w' : World} {n k : Nat} {nm : List Nat} (h : Post κ { w with drawn := k } n nm κ' w') : Post κ w n nm κ' w' where
  ext := ⟨⟨h.ext.le.lim, fun b o v hb hv => h.ext.le.cell b o v hb hv, h.ext.le.mu⟩, h.ext.base, h.ext.prot, h.ext.size, h.ext.os, h.ext.tape, h.ext.output, h.ext.low⟩
  kept := h.kept
  boxes := h.boxes

theorem suffix_mods {m m' l : List Nat} (h : m ++ l = m' ++ l) : m = m' := List.append_cancel_right h

mutual
theorem runPlan_ok {C : Cfg} (hC : CfgOK C) {call : FuncId → List PV → List (List PV) → Option Out} (hcall : CallsOK C call) (hg : CallGrow call) {fid : Nat} {Z : Nat → Prop} {ops : Array Oper} (hsel : Region.noSelect ops = true) {Q : Exit → Act → World → Prop} (hQ : ∀ c a w, ¬ Q (.panic c) a w) {LD : List Nat} :
    ∀ (pl : Plan) {κ : Kap} {w : World} {s : St} {r : St × List Nat} {a : Act} {listed : Array Bool} {fuel : Nat}, runPlan C call fid ops pl s = some r → planOK .any ops listed pl = true → Inv Z κ w s a → (∀ id ∈ r.1.mods, ¬ Z id) →
      (∀ id ∈ r.2, id ∈ LD) → (∀ m, r.1.mods = m ++ s.mods → ∀ id ∈ LD, id ∉ m) → listed.toList.count false ≤ fuel →
      (∀ a' κ' w', Inv Z κ' w' r.1 a' → Moved κ w s r.1 κ' w' → Q .normal a' w') → wpAnyK C.P .any ops Q fuel (Later κ w LD) listed a w
  | .done, κ, w, s, r, a, listed, fuel, h, hok, hi, hZ, hl, hm, hfu, hq => by
    simp only [runPlan, Option.some.injEq] at h
    subst h
    simp only [planOK, beq_iff_eq] at hok
    have := hq a κ w hi (.refl ..)
    cases fuel with
    | zero => exact ⟨hok, this⟩
    | succ fuel => exact ⟨fun _ => this, by rw [hok]; simp⟩
  | .take i p, κ, w, s, r, a, listed, fuel, h, hok, hi, hZ, hl, hm, hfu, hq => by
    simp only [runPlan] at h
    split at h
    · rename_i o ho
      split at h
      · rename_i hk
        split at h
        · rename_i s1 h1
          obtain ⟨r0, h2, rfl⟩ := Option.map_eq_some_iff.1 h
          simp only [planOK, Bool.and_eq_true] at hok
          obtain ⟨⟨hrd, hfree⟩, hp⟩ := hok
          have hin : i ∈ Region.ready .any ops listed := by simpa using hrd
          have hun := (mem_ready.1 hin).1
          have hcnt := count_set hun
          obtain ⟨v, hy, hi1, em, eB⟩ := pureKind_yields hC (ld := LD) h1 hk (fun id hid => hl id (by simp only at hid ⊢; exact List.mem_append_left _ hid)) hi
          cases fuel with
          | zero => omega
          | succ fuel =>
            refine wpAnyK_first ho (Region.noSelect_spec hsel) (fun c a w hh => absurd hh (hQ c _ w)) fuel _ listed a w (Region.free_spec ho hfree) hin hy (.here ..) ?_
            refine runPlan_ok hC hcall hg hsel hQ p (r := r0) h2 hp hi1 hZ (fun id hid => hl id (List.mem_append_right _ hid)) (fun m hmm => hm m (by rw [← em]; exact hmm)) (by omega) fun a' κ' w' hi' hmv => hq a' κ' w' hi' ?_
            obtain ⟨nm, e, p⟩ := hmv.ex
            exact ⟨nm, by rw [← em]; exact e, by rw [← eB]; exact p⟩
        · cases h
      · cases h
    · cases h
  | .alt l, κ, w, s, r, a, listed, fuel, h, hok, hi, hZ, hl, hm, hfu, hq => by
    simp only [runPlan] at h
    simp only [planOK, Bool.and_eq_true, beq_iff_eq] at hok
    obtain ⟨hids, hall⟩ := hok
    cases fuel with
    | zero =>
      have hne : l ≠ [] := fun e => by subst e; simp [runAlts] at h
      have : ∃ i, i ∈ Region.ready .any ops listed := by
        rw [← hids]
        cases l with
        | nil => exact absurd rfl hne
        | cons x l => exact ⟨x.1, by simp⟩
      obtain ⟨i, hin⟩ := this
      have := count_set (mem_ready.1 hin).1
      omega
    | succ fuel =>
      have key := runAlts_ok hC hcall hg hsel hQ l (fuel := fuel) h hall hi hZ hl hm (fun i hin => by
        have := count_set (mem_ready.1 (by rw [← hids]; exact hin : i ∈ Region.ready .any ops listed)).1
        omega) hq
      refine ⟨fun h0 => ?_, fun i hin => key i (by rw [hids]; exact hin)⟩
      rw [h0] at hids
      have : l = [] := by simpa using hids
      subst this
      simp [runAlts] at h
theorem runAlts_ok {C : Cfg} (hC : CfgOK C) {call : FuncId → List PV → List (List PV) → Option Out} (hcall : CallsOK C call) (hg : CallGrow call) {fid : Nat} {Z : Nat → Prop} {ops : Array Oper} (hsel : Region.noSelect ops = true) {Q : Exit → Act → World → Prop} (hQ : ∀ c a w, ¬ Q (.panic c) a w) {LD : List Nat} :
    ∀ (l : List (Nat × Plan)) {κ : Kap} {w : World} {s : St} {r : St × List Nat} {a : Act} {listed : Array Bool} {fuel : Nat}, runAlts C call fid ops l s = some r → altsOK .any ops listed l = true → Inv Z κ w s a → (∀ id ∈ r.1.mods, ¬ Z id) →
      (∀ id ∈ r.2, id ∈ LD) → (∀ m, r.1.mods = m ++ s.mods → ∀ id ∈ LD, id ∉ m) → (∀ i ∈ l.map (·.1), (listed.setIfInBounds i true).toList.count false ≤ fuel) →
      (∀ a' κ' w', Inv Z κ' w' r.1 a' → Moved κ w s r.1 κ' w' → Q .normal a' w') →
      ∀ i ∈ l.map (·.1), wpOp C.P ops Q i (fun a' w' => ∃ S', (∀ x, S' x → Later κ w LD x) ∧ S' w' ∧ wpAnyK C.P .any ops Q fuel S' (listed.setIfInBounds i true) a' w') a w
  | [], κ, w, s, r, a, listed, fuel, h, hok, hi, hZ, hl, hm, hfu, hq => by simp [runAlts] at h
  | (i, p) :: l, κ, w, s, r, a, listed, fuel, h, hok, hi, hZ, hl, hm, hfu, hq => by
    simp only [runAlts] at h
    obtain ⟨r1, h1, e1, hl1, hrest⟩ := joinAlts_more h
    simp only [altsOK, Bool.and_eq_true] at hok
    intro j hj
    simp only [List.map_cons, List.mem_cons] at hj
    have hj' : j = i ∨ (l.isEmpty = false ∧ j ∈ l.map (·.1)) := by
      rcases hj with hj | hj
      · exact .inl hj
      · refine .inr ⟨?_, hj⟩
        cases l <;> simp at hj ⊢
    rcases hj' with rfl | ⟨hne, hj⟩
    · split at h1
      · rename_i o ho
        split at h1
        · rename_i s1 hs1
          have g1 := guardOp_grow hg hs1
          have g2 := runPlan_grow hg p h1
          have := guard_ok hC hcall (Q := Q) hs1 hi (fun id hid => hZ id (by rw [e1]; exact g2.mods_sub id hid))
            (K := fun a' w' => ∃ S', (∀ x, S' x → Later κ w LD x) ∧ S' w' ∧ wpAnyK C.P .any ops Q fuel S' (listed.setIfInBounds j true) a' w') fun a' κ' w' hi' hmv => by
              obtain ⟨nm, em, hp⟩ := hmv.ex
              obtain ⟨nm2, em2, _⟩ := g2
              refine ⟨Later κ' w' LD, Later.sub hp fun id hid hh => ?_, .here .., ?_⟩
              · exact hm (nm2 ++ nm) (by rw [e1, em2, em, List.append_assoc]) id hid (List.mem_append_right _ hh)
              · refine runPlan_ok hC hcall hg hsel hQ p h1 hok.1 hi' (fun id hid => hZ id (by rw [e1]; exact hid)) (fun id hid => hl id (hl1 id hid)) (fun m hmm id hid hh => ?_) (hfu j (by simp)) fun a2 κ2 w2 hi2 hmv2 => ?_
                · exact hm (m ++ nm) (by rw [e1, hmm, em, List.append_assoc]) id hid (List.mem_append_left _ hh)
                · rw [← e1] at hi2 hmv2
                  exact hq a2 κ2 w2 hi2 (hmv.trans hmv2 g1)
          unfold wpOp
          rw [ho]
          exact this
        · cases h1
      · cases h1
    · obtain ⟨r', h3, e3, hl3⟩ := hrest hne
      refine runAlts_ok hC hcall hg hsel hQ l h3 hok.2 hi (fun id hid => hZ id (by rw [e3]; exact hid)) (fun id hid => hl id (hl3 id hid)) (fun m hmm => hm m (by rw [e3]; exact hmm)) (fun i hin => hfu i (List.mem_cons_of_mem _ hin)) (fun a' κ' w' hi' hmv => ?_) j hj
      rw [← e3] at hi' hmv
      exact hq a' κ' w' hi' hmv
end

theorem runDraw_ok {C : Cfg} (hC : CfgOK C) {call : FuncId → List PV → List (List PV) → Option Out} (hcall : CallsOK C call) (hg : CallGrow call) {fid id : Nat} {Z : Nat → Prop} {ops : Array Oper} {Q : Exit → Act → World → Prop} {κ : Kap} {w : World} {s s' : St} {a : Act}
    (hok : ((C.plan fid id).gap || (planOK .any ops (Array.replicate ops.size false) (C.plan fid id) && Region.noSelect ops)) = true)
    (h : runDraw C call fid id ops s = some s') (hi : Inv Z κ w s a) (hZ : ∀ id ∈ s'.mods, ¬ Z id) (hq : ∀ a' κ' w', Inv Z κ' w' s' a' → Moved κ w s s' κ' w' → Q .normal a' w') : (Code.region id ops true).wp C.P Q a w := by
  unfold runDraw at h
  split at h
  · rename_i s1 ld h1
    split at h
    · rename_i hld
      simp only [Option.some.injEq] at h
      subst h
      have hgap : (C.plan fid id).gap = false := by
        cases hg : (C.plan fid id).gap with
        | false => rfl
        | true =>
          exfalso
          unfold Plan.gap at hg
          split at hg
          · rename_i e
            rw [e] at h1
            simp [runPlan, runAlts] at h1
          · cases hg
      rw [hgap, Bool.false_or, Bool.and_eq_true] at hok
      let Q' : Exit → Act → World → Prop := fun e a w => match e with | .normal => Q .normal a w | _ => False
      refine wp_mono (Q := Q') ?_ (fun e a w hq => by cases e <;> first | exact hq | exact hq.elim)
      -- the draw itself: nothing that the relation speaks of is changed by it
      have hi1 : Inv Z κ { w with drawn := w.drawn + 1 } s a := inv_drawn hi _
      refine wp_region_any hC.mixed (wpAny_of_K _ _ _ _ _ (runPlan_ok hC hcall hg hok.2 (Q := Q') (fun c a w hh => hh) (LD := ld) (C.plan fid id) h1 hok.1 hi1 hZ (fun id hid => hid) (fun m hmm id hid hh => ?_) (by simp) fun a' κ' w' hi' hmv => hq a' κ' w' hi' ?_))
      · have := List.all_eq_true.1 hld id hid
        simp only [Bool.not_eq_true', List.contains_eq_mem, decide_eq_false_iff_not] at this
        refine this ?_
        unfold newMods
        rw [hmm]
        simpa using hh
      · obtain ⟨nm, e, p⟩ := hmv.ex
        exact ⟨nm, e, post_drawn p⟩
    · cases h
  · cases h
end Go.Q
