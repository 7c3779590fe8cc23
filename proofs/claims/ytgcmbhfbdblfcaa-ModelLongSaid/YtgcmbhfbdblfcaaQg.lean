/-
  What the evaluator does to boxes, told without any memory: boxes are added, and what was not changed leans on nothing new.
-/
import Derived.Test.YtgcmbhfbdblfcaaQf
set_option linter.unusedVariables false
set_option linter.unusedSimpArgs false
namespace Go.Q

mutual
theorem PV.under_retag (g : Tag → Tag) (n : Nat) : ∀ p : PV, (p.retag g).under n = p.under n
  | .any => by simp [PV.retag]
  | .sc _ => by simp [PV.retag]
  | .list _ _ _ => by simp [PV.retag, PV.under]
  | .arr _ _ => by simp [PV.retag]
  | .ptr _ _ => by simp [PV.retag]
  | .eptr _ => by simp [PV.retag]
  | .fn _ _ => by simp [PV.retag]
  | .agg cs => by simp only [PV.retag, PV.under]; exact PV.underL_retag g n cs
  | .tuple cs => by simp only [PV.retag, PV.under]; exact PV.underL_retag g n cs
theorem PV.underL_retag (g : Tag → Tag) (n : Nat) : ∀ cs : List PV, PV.underL n (PV.retagL g cs) = PV.underL n cs
  | [] => by simp [PV.retagL]
  | c :: cs => by simp only [PV.retagL, PV.underL]; rw [PV.under_retag g n c, PV.underL_retag g n cs]
end

def UndB (n : Nat) (cs : List PV) : Prop := ∀ c ∈ cs, c.under n = true

def GrowB (nm : List Nat) (B B' : List (List PV)) : Prop :=
  B.length ≤ B'.length ∧ ∀ n, n ≤ B.length → ∀ id, id < n → id ∉ nm → UndB n (B.getD id []) → UndB n (B'.getD id [])

theorem GrowB.refl (B : List (List PV)) : GrowB [] B B := ⟨Nat.le_refl _, fun _ _ _ _ _ h => h⟩
theorem GrowB.trans {m m' : List Nat} {B B' B'' : List (List PV)} (h : GrowB m B B') (k : GrowB m' B' B'') : GrowB (m' ++ m) B B'' :=
  ⟨Nat.le_trans h.1 k.1, fun n hn id hid hm hu => k.2 n (Nat.le_trans hn h.1) id hid (fun hh => hm (List.mem_append_left _ hh)) (h.2 n hn id hid (fun hh => hm (List.mem_append_right _ hh)) hu)⟩
theorem GrowB.weaken {m m' : List Nat} {B B' : List (List PV)} (h : GrowB m B B') (k : ∀ id ∈ m, id ∈ m') : GrowB m' B B' :=
  ⟨h.1, fun n hn id hid hm hu => h.2 n hn id hid (fun hh => hm (k id hh)) hu⟩
theorem GrowB.set (B : List (List PV)) (id : Nat) (cs : List PV) : GrowB [id] B (B.set id cs) :=
  ⟨by simp, fun n hn i hi hm hu => by
    have : id ≠ i := fun e => hm (by simp [e])
    simpa [List.getD_eq_getElem?_getD, List.getElem?_set_ne this] using hu⟩
theorem GrowB.modify (B : List (List PV)) (id : Nat) (f : List PV → List PV) : GrowB [id] B (B.modify id f) :=
  ⟨by simp, fun n hn i hi hm hu => by
    have : id ≠ i := fun e => hm (by simp [e])
    simpa [List.getD_eq_getElem?_getD, List.getElem?_modify, this] using hu⟩
theorem GrowB.push (B : List (List PV)) (cs : List PV) : GrowB [] B (B ++ [cs]) :=
  ⟨by simp, fun n hn i hi hm hu => by
    have : i < B.length := by omega
    simpa [List.getD_eq_getElem?_getD, List.getElem?_append_left this] using hu⟩
theorem GrowB.mapSet {B : List (List PV)} {id : Nat} {cs : List PV} (h : B[id]? = some cs) (g : PV → PV) (hg : ∀ n c, c.under n = true → (g c).under n = true) : GrowB [] B (B.set id (cs.map g)) :=
  ⟨by simp, fun n hn i hi hm hu => by
    by_cases e : id = i
    · subst e
      have hlt := (List.getElem?_eq_some_iff.1 h).1
      rw [List.getD_eq_getElem?_getD, h] at hu
      simp only [List.getD_eq_getElem?_getD, List.getElem?_set_self hlt, Option.getD_some] at hu ⊢
      intro c hc
      obtain ⟨c0, h0, rfl⟩ := List.mem_map.1 hc
      exact hg n c0 (hu c0 h0)
    · simpa [List.getD_eq_getElem?_getD, List.getElem?_set_ne e] using hu⟩

def Grow (s s' : St) : Prop := ∃ nm, s'.mods = nm ++ s.mods ∧ GrowB nm s.B s'.B
theorem Grow.refl (s : St) : Grow s s := ⟨[], rfl, .refl _⟩
theorem Grow.trans {s s' s'' : St} (h : Grow s s') (k : Grow s' s'') : Grow s s'' := by
  obtain ⟨m, e, g⟩ := h
  obtain ⟨m', e', g'⟩ := k
  exact ⟨m' ++ m, by rw [e', e, List.append_assoc], g.trans g'⟩
theorem Grow.of_eq {s s' : St} (h : s'.B = s.B) (k : s'.mods = s.mods) : Grow s s' := ⟨[], k, by rw [h]; exact .refl _⟩

def CallGrow (call : FuncId → List PV → List (List PV) → Option Out) : Prop :=
  ∀ k args B o, call k args B = some o → GrowB o.mods B o.B

theorem unhold_grow : ∀ (ts : List Tag) (B : List (List PV)), GrowB (cellIds ts) B (unhold ts B)
  | [], B => .refl _
  | .cell id off :: ts, B => by
    simp only [unhold, cellIds]
    have h := (GrowB.modify B id fun cs => cs.modify off PV.flat).trans (unhold_grow ts (B.modify id fun cs => cs.modify off PV.flat))
    exact h.weaken fun i hi => by simp at hi ⊢; exact hi.symm
  | .ro :: ts, B => by simp only [unhold, cellIds]; exact unhold_grow ts B
  | .full :: ts, B => by simp only [unhold, cellIds]; exact unhold_grow ts B
  | .slot _ _ :: ts, B => by simp only [unhold, cellIds]; exact unhold_grow ts B

theorem callOp_grow {C : Cfg} {call : FuncId → List PV → List (List PV) → Option Out} (hcall : CallGrow call) {d : Nat} {s s' : St} {k : FuncId} {args : List PV} {p : PV}
    (h : callOp C call d s k args = some (p, s')) : Grow s s' := by
  unfold callOp at h
  split at h
  · rename_i o ho
    split at h
    · simp only [Option.some.injEq, Prod.mk.injEq] at h
      obtain ⟨rfl, rfl⟩ := h
      exact ⟨_, rfl, (unhold_grow _ _).trans (hcall _ _ _ _ ho)⟩
    · cases h
  · cases h

theorem appendOp_grow {C : Cfg} {d : Nat} {s s' : St} {t : TypeId} {x y p : PV} (h : appendOp C d s t x y = some (p, s')) : Grow s s' := by
  unfold appendOp at h
  split at h
  · split at h
    · split at h
      · split at h
        · cases h
        · simp only [Option.some.injEq, Prod.mk.injEq] at h; obtain ⟨rfl, rfl⟩ := h; exact .of_eq rfl rfl
        · simp only [Option.some.injEq, Prod.mk.injEq] at h; obtain ⟨rfl, rfl⟩ := h; exact .of_eq rfl rfl
        · split at h
          · simp only [Option.some.injEq, Prod.mk.injEq] at h; obtain ⟨rfl, rfl⟩ := h; exact ⟨[_], rfl, .set ..⟩
          · cases h
      · cases h
    · cases h
  · cases h

theorem assignOp_grow {C : Cfg} {d : Nat} {s s' : St} {t : TypeId} {x p : PV} (h : assignOp C d s t x = (p, s')) : Grow s s' := by
  unfold assignOp at h
  split at h <;> (simp only [Prod.mk.injEq] at h; obtain ⟨rfl, rfl⟩ := h; exact .of_eq rfl rfl)

theorem storeOp_grow {C : Cfg} {s s' : St} {t : TypeId} {x y : PV} (h : storeOp C s t x y = some s') : Grow s s' := by
  unfold storeOp at h
  split at h
  · split at h
    · rename_i id off _ cs hcs
      cases hst : settle id off y with
      | mk vs ht =>
        simp only [hst] at h
        split at h
        · simp only [Option.some.injEq] at h; subst h; exact ⟨[_], rfl, .set ..⟩
        · cases h
    · cases h
  · cases h

theorem pushBox_grow {s s' : St} {x p : PV} (h : pushBox s x = some (p, s')) : Grow s s' := by
  unfold pushBox at h
  cases hst : settle s.B.length 0 x with
  | mk vs ht =>
    simp only [hst] at h
    split at h
    · simp only [Option.some.injEq, Prod.mk.injEq] at h; obtain ⟨rfl, rfl⟩ := h; exact ⟨[], rfl, .push ..⟩
    · cases h

theorem makeSliceOp_grow {C : Cfg} {fid d : Nat} {s s' : St} {t : TypeId} {l c p : PV} (h : makeSliceOp C fid d s t l c = some (p, s')) : Grow s s' := by
  unfold makeSliceOp at h
  split at h
  · split at h
    · split at h
      · split at h
        · split at h
          · simp only [Option.some.injEq, Prod.mk.injEq] at h; obtain ⟨rfl, rfl⟩ := h; exact ⟨[], rfl, .push ..⟩
          · cases h
        · cases h
      · split at h
        · split at h
          · simp only [Option.some.injEq, Prod.mk.injEq] at h; obtain ⟨rfl, rfl⟩ := h; exact .refl _
          · cases h
        · cases h
    · cases h
  · cases h

theorem buildSliceOp_grow {C : Cfg} {s s' : St} {t : TypeId} {len : Nat} {parts : List (Nat × PV)} {p : PV} (h : buildSliceOp C s t len parts = some (p, s')) : Grow s s' := by
  unfold buildSliceOp at h
  split at h
  · split at h
    · simp only [Option.some.injEq, Prod.mk.injEq] at h; obtain ⟨rfl, rfl⟩ := h; exact .refl _
    · cases h
  · cases h

theorem sliceArrOp_grow {C : Cfg} {s s' : St} {t : TypeId} {x p : PV} (h : sliceArrOp C s t x = some (p, s')) : Grow s s' := by
  unfold sliceArrOp at h
  split at h
  · split at h
    · rename_i cs hcs
      split at h
      · simp only [Option.some.injEq, Prod.mk.injEq] at h
        obtain ⟨rfl, rfl⟩ := h
        exact ⟨[], rfl, .mapSet hcs PV.flat fun n c hc => by unfold PV.flat; rw [PV.under_retag]; exact hc⟩
      · cases h
    · cases h
  · cases h

theorem map_grow {α : Type} {o : Option α} {f : α → PV} {s s' : St} {p : PV} (h : o.map (fun a => (f a, s)) = some (p, s')) : Grow s s' := by
  obtain ⟨a, _, h⟩ := Option.map_eq_some_iff.1 h
  simp only [Prod.mk.injEq] at h
  obtain ⟨_, rfl⟩ := h
  exact .refl _

theorem stepOp_grow {C : Cfg} {call : FuncId → List PV → List (List PV) → Option Out} (hcall : CallGrow call) {fid : Nat} {o : Oper} {s s' : St} {p : PV}
    (h : stepOp C call fid o s = some (p, s')) : Grow s s' := by
  unfold stepOp at h
  split at h
  · simp only [Option.some.injEq] at h; exact assignOp_grow h
  · exact map_grow h
  · obtain ⟨s1, h1, h2⟩ := Option.map_eq_some_iff.1 h
    simp only [Prod.mk.injEq] at h2
    obtain ⟨_, rfl⟩ := h2
    exact storeOp_grow h1
  · split at h
    · simp only [Option.some.injEq, Prod.mk.injEq] at h; obtain ⟨rfl, rfl⟩ := h; exact ⟨[], rfl, .push ..⟩
    · cases h
  · exact pushBox_grow h
  · exact makeSliceOp_grow h
  · exact buildSliceOp_grow h
  · split at h
    · split at h
      · exact sliceArrOp_grow h
      · cases h
    · exact map_grow h
  · split at h
    · split at h
      · split at h
        · exact appendOp_grow h
        · cases h
      · cases h
    · exact map_grow h
    · exact callOp_grow hcall h
    · split at h
      · exact callOp_grow hcall h
      · cases h
    · cases h
  · exact map_grow h

theorem Grow.put {s s' : St} (h : Grow s s') (d : Option Nat) (p : PV) : Grow s (s'.put d p) := by
  cases d <;> exact h

theorem guardOp_grow {C : Cfg} {call : FuncId → List PV → List (List PV) → Option Out} (hcall : CallGrow call) {fid : Nat} {ops : Array Oper} {o : Oper} {s s' : St}
    (h : guardOp C call fid ops o s = some s') : Grow s s' := by
  unfold guardOp at h
  have one : ∀ {s'}, (stepOp C call fid o s).map (fun r => r.2.put o.dst r.1) = some s' → Grow s s' := by
    intro s' h
    obtain ⟨r, h1, rfl⟩ := Option.map_eq_some_iff.1 h
    exact (stepOp_grow hcall h1).put _ _
  split at h
  · exact one h
  · split at h
    · split at h
      · exact one h
      · simp only [Option.some.injEq] at h; subst h; exact (Grow.refl s).put _ _
    · simp only [Option.some.injEq] at h; subst h; exact (Grow.refl s).put _ _
    · cases h

theorem runOps_grow {C : Cfg} {call : FuncId → List PV → List (List PV) → Option Out} (hcall : CallGrow call) {fid : Nat} {ops : Array Oper} : ∀ (l : List Oper) {s s' : St},
    runOps C call fid ops l s = some s' → Grow s s'
  | [], s, s', h => by simp only [runOps, Option.some.injEq] at h; subst h; exact .refl _
  | o :: l, s, s', h => by
    simp only [runOps] at h
    split at h
    · rename_i s1 h1; exact (guardOp_grow hcall h1).trans (runOps_grow hcall l h)
    · cases h

theorem joinAlts_some {b : Bool} {x y : Option (St × List Nat)} {r : St × List Nat} (h : joinAlts b x y = some r) : ∃ r1, x = some r1 ∧ r.1 = r1.1 := by
  unfold joinAlts at h
  split at h
  · exact ⟨r, h, rfl⟩
  · split at h
    · simp only [Option.some.injEq] at h; subst h; exact ⟨_, rfl, rfl⟩
    · cases h
  · cases h

mutual
theorem runPlan_grow {C : Cfg} {call : FuncId → List PV → List (List PV) → Option Out} (hcall : CallGrow call) {fid : Nat} {ops : Array Oper} : ∀ (pl : Plan) {s : St} {r : St × List Nat},
    runPlan C call fid ops pl s = some r → Grow s r.1
  | .done, s, r, h => by simp only [runPlan, Option.some.injEq] at h; subst h; exact .refl _
  | .take i p, s, r, h => by
    simp only [runPlan] at h
    split at h
    · split at h
      · split at h
        · rename_i s1 h1
          obtain ⟨r0, h2, rfl⟩ := Option.map_eq_some_iff.1 h
          exact (guardOp_grow hcall h1).trans (runPlan_grow hcall p (r := r0) h2)
        · cases h
      · cases h
    · cases h
  | .alt l, s, r, h => by simp only [runPlan] at h; exact runAlts_grow hcall l h
theorem runAlts_grow {C : Cfg} {call : FuncId → List PV → List (List PV) → Option Out} (hcall : CallGrow call) {fid : Nat} {ops : Array Oper} : ∀ (l : List (Nat × Plan)) {s : St} {r : St × List Nat},
    runAlts C call fid ops l s = some r → Grow s r.1
  | [], s, r, h => by simp only [runAlts] at h; cases h
  | (i, p) :: l, s, r, h => by
    simp only [runAlts] at h
    obtain ⟨r1, h1, e⟩ := joinAlts_some h
    rw [e]
    split at h1
    · split at h1
      · rename_i s1 h2; exact (guardOp_grow hcall h2).trans (runPlan_grow hcall p h1)
      · cases h1
    · cases h1
end

theorem runDraw_grow {C : Cfg} {call : FuncId → List PV → List (List PV) → Option Out} (hcall : CallGrow call) {fid id : Nat} {ops : Array Oper} {s s' : St}
    (h : runDraw C call fid id ops s = some s') : Grow s s' := by
  unfold runDraw at h
  split at h
  · rename_i s1 ld h1
    split at h
    · simp only [Option.some.injEq] at h; subst h; exact runPlan_grow hcall _ h1
    · cases h
  · cases h

theorem cutB_len (n : Nat) (mods : List Nat) (B : List (List PV)) : (cutB n mods B).length = min n B.length := by
  have : ∀ (ms : List Nat) (B : List (List PV)), (ms.foldl (fun B id => B.modify id fun cs => cs.map fun c => if c.under n = true then c else .any) B).length = B.length := by
    intro ms
    induction ms with
    | nil => intro B; rfl
    | cons m ms ih => intro B; simp [ih]
  simp [cutB, this]

theorem cutB_get (n : Nat) (mods : List Nat) (B : List (List PV)) (id : Nat) (hid : id < n) :
    ∃ g : PV → PV, (cutB n mods B)[id]? = (B[id]?).map (List.map g) ∧ (∀ c, g c = c ∨ g c = .any) ∧ (∀ c, c.under n = true → g c = c) ∧ (id ∈ mods → ∀ c, (g c).under n = true) ∧ (id ∉ mods → ∀ c, g c = c) := by
  have key : ∀ (ms : List Nat) (B : List (List PV)), ∃ g : PV → PV, (ms.foldl (fun B id => B.modify id fun cs => cs.map fun c => if c.under n = true then c else .any) B)[id]? = (B[id]?).map (List.map g) ∧
      (∀ c, g c = c ∨ g c = .any) ∧ (∀ c, c.under n = true → g c = c) ∧ (id ∈ ms → ∀ c, (g c).under n = true) ∧ (id ∉ ms → ∀ c, g c = c) := by
    intro ms
    induction ms with
    | nil => intro B; exact ⟨fun c => c, by simp, fun c => .inl rfl, fun _ _ => rfl, fun h => by simp at h, fun _ _ => rfl⟩
    | cons m ms ih =>
      intro B
      obtain ⟨g, h1, h2, h3, h4, h5⟩ := ih (B.modify m fun cs => cs.map fun c => if PV.under n c = true then c else .any)
      simp only [List.foldl_cons]
      by_cases e : m = id
      · subst e
        refine ⟨fun c => g (if PV.under n c = true then c else .any), ?_, fun c => ?_, fun c hc => ?_, fun _ c => ?_, fun hn => absurd (List.mem_cons_self ..) hn⟩
        · rw [h1, List.getElem?_modify]
          simp only [if_true]
          cases B[m]? with
          | none => rfl
          | some cs => simp
        · rcases h2 (if c.under n = true then c else .any) with e | e
          · show g (if c.under n = true then c else .any) = c ∨ _
            rw [e]
            by_cases hc : c.under n = true
            · simp [hc]
            · refine .inr ?_
              show g (if c.under n = true then c else .any) = .any
              rw [if_neg hc]; exact h3 .any (by simp [PV.under])
          · exact .inr e
        · show g (if c.under n = true then c else .any) = c
          rw [if_pos hc]; exact h3 c hc
        · show (g (if c.under n = true then c else .any)).under n = true
          have : ∀ c, c.under n = true → (g c).under n = true := fun c hc => by rw [h3 c hc]; exact hc
          split
          · rename_i hc; exact this c hc
          · exact this _ (by simp [PV.under])
      · refine ⟨g, ?_, h2, h3, fun hm c => h4 (by simpa [Ne.symm e] using hm) c, fun hn c => h5 (fun hh => hn (List.mem_cons_of_mem _ hh)) c⟩
        rw [h1, List.getElem?_modify]
        simp only [e, if_false]
        cases B[id]? <;> simp
  obtain ⟨g, h1, h2⟩ := key mods (B.take n)
  refine ⟨g, ?_, h2⟩
  unfold cutB
  rw [h1, List.getElem?_take, if_pos hid]

theorem cutB_grow {n : Nat} {nm mods : List Nat} {B B' : List (List PV)} (h : GrowB nm B B') (hn : n = B.length) : GrowB nm B (cutB n mods B') := by
  subst hn
  refine ⟨by rw [cutB_len]; have := h.1; omega, fun n hn id hid hm hu => ?_⟩
  have h1 := h.2 n hn id hid hm hu
  obtain ⟨g, e, h2, h3, _, _⟩ := cutB_get B.length mods B' id (by omega)
  rw [List.getD_eq_getElem?_getD] at h1
  rw [List.getD_eq_getElem?_getD, e]
  cases hb : B'[id]? with
  | none => simp [UndB]
  | some cs =>
    rw [hb] at h1
    simp only [Option.getD_some, Option.map_some] at h1 ⊢
    intro c hc
    obtain ⟨c0, h0, rfl⟩ := List.mem_map.1 hc
    rcases h2 c0 with e | e
    · rw [e]; exact h1 c0 h0
    · rw [e]; simp [PV.under]

theorem newM_app (l m : List Nat) : newM m (l ++ m) = l := by simp [newM]
theorem endRound_grow {kill : List Bool} {s s' : St} (h : Grow s s') : Grow s (endRound kill s.B.length s.mods s') := by
  obtain ⟨nm, e, g⟩ := h
  refine ⟨nm.filter (· < s.B.length), by simp only [endRound]; rw [e, newM_app], ?_⟩
  have := cutB_grow (mods := s'.mods) g rfl
  exact ⟨this.1, fun n hn id hid hm hu => this.2 n hn id hid (fun hh => hm (List.mem_filter.2 ⟨hh, by simp; omega⟩)) hu⟩

theorem loopN_grow {body : St → R} (hb : ∀ s ex s', body s = some (ex, s') → Grow s s') : ∀ (n : Nat) {s s' : St} {ex : Ex}, loopN body n s = some (ex, s') → Grow s s'
  | 0, s, s', ex, h => by simp only [loopN] at h; cases h
  | n + 1, s, s', ex, h => by
    simp only [loopN] at h
    split at h
    · rename_i s1 h1; exact (hb _ _ _ h1).trans (loopN_grow hb n h)
    · exact hb _ _ _ h

theorem loopW_some {body : St → R} {s : St} {r : Ex × St} (h : loopW body s = some r) : ∃ n, loopN body n s = some r := by
  unfold loopW at h
  split at h
  · exact ⟨_, h⟩
  · cases h

theorem evalCode_grow {C : Cfg} {call : FuncId → List PV → List (List PV) → Option Out} (hcall : CallGrow call) {fid : Nat} : ∀ (c : Code) (bid : Nat) {s s' : St} {ex : Ex},
    evalCode C call fid c bid s = some (ex, s') → Grow s s' := by
  intro c
  induction c with
  | skip => intro bid s s' ex h; simp only [evalCode, Option.some.injEq, Prod.mk.injEq] at h; obtain ⟨_, rfl⟩ := h; exact .refl _
  | label l => intro bid s s' ex h; simp only [evalCode, Option.some.injEq, Prod.mk.injEq] at h; obtain ⟨_, rfl⟩ := h; exact .refl _
  | region id ops draw =>
    intro bid s s' ex h
    simp only [evalCode] at h
    obtain ⟨s1, h1, h2⟩ := Option.map_eq_some_iff.1 h
    simp only [Prod.mk.injEq] at h2
    obtain ⟨_, rfl⟩ := h2
    split at h1
    · exact runDraw_grow hcall h1
    · exact runOps_grow hcall _ h1
  | seq a b iha ihb =>
    intro bid s s' ex h
    simp only [evalCode] at h
    split at h
    · rename_i s1 h1; exact (iha bid h1).trans (ihb bid h)
    · exact iha bid h
  | cond c a b iha ihb =>
    intro bid s s' ex h
    simp only [evalCode] at h
    split at h
    · split at h
      · exact iha bid h
      · exact ihb bid h
    · cases h
  | block id body ih =>
    intro bid s s' ex h
    simp only [evalCode] at h
    split at h
    · rename_i j s1 h1
      split at h <;> (simp only [Option.some.injEq, Prod.mk.injEq] at h; obtain ⟨_, rfl⟩ := h; exact ih _ h1)
    · exact ih _ h
  | loop body ih =>
    intro bid s s' ex h
    simp only [evalCode] at h
    obtain ⟨n, hn⟩ := loopW_some h
    refine loopN_grow (s := forget (C.kill fid bid) s) (fun s ex s' h => ?_) n hn
    split at h
    · rename_i s1 h1
      simp only [Option.some.injEq, Prod.mk.injEq] at h
      obtain ⟨_, rfl⟩ := h
      exact endRound_grow (ih _ h1)
    · exact ih _ h
  | exit id => intro bid s s' ex h; simp only [evalCode, Option.some.injEq, Prod.mk.injEq] at h; obtain ⟨_, rfl⟩ := h; exact .refl _
  | ret => intro bid s s' ex h; simp only [evalCode, Option.some.injEq, Prod.mk.injEq] at h; obtain ⟨_, rfl⟩ := h; exact .refl _
  | _ => intros; rename_i h; simp only [evalCode] at h; cases h

theorem results_grow {C : Cfg} {fn : Func} {fid : Nat} {s : St} {o : Out} {B : List (List PV)} (h : results C fn fid B.length s = some o) (g : ∃ nm, s.mods = nm ∧ GrowB nm B s.B) : GrowB o.mods B o.B := by
  obtain ⟨nm, e, g⟩ := g
  subst e
  have low : ∀ B', GrowB s.mods B B' → GrowB (s.mods.filter (· < B.length)) B B' := fun B' g =>
    ⟨g.1, fun n hn id hid hm hu => g.2 n hn id hid (fun hh => hm (List.mem_filter.2 ⟨hh, by simp; omega⟩)) hu⟩
  unfold results at h
  split at h
  · cases h
  · simp only at h
    split at h
    · split at h
      · split at h
        · simp only [Option.some.injEq] at h; subst h; exact low _ g
        · cases h
      · split at h
        · simp only [Option.some.injEq] at h; subst h; exact low _ (cutB_grow g rfl)
        · cases h
    · cases h

theorem declR_inv {d : Option (List Nat)} {r : Option Out} {o : Out} (h : declR d r = some o) : ∃ o0, r = some o0 ∧ o.r = o0.r ∧ o.B = o0.B ∧ ∀ id ∈ o0.mods, id ∈ o.mods := by
  unfold declR at h
  split at h
  · rename_i l o0
    split at h
    · rename_i hc
      simp only [Option.some.injEq] at h
      subst h
      refine ⟨o0, rfl, rfl, rfl, fun id hid => ?_⟩
      have := List.all_eq_true.1 hc id hid
      simpa using this
    · cases h
  · exact ⟨o, h, rfl, rfl, fun _ h => h⟩
theorem GrowB.more {nm nm' : List Nat} {B B' : List (List PV)} (h : GrowB nm B B') (hs : ∀ id ∈ nm, id ∈ nm') : GrowB nm' B B' :=
  ⟨h.1, fun n hn id hid hm hu => h.2 n hn id hid (fun hh => hm (hs id hh)) hu⟩

def PrimGrow (C : Cfg) : Prop := ∀ k p, C.prim k = some p → ∀ args B o, p args B = some o → GrowB o.mods B o.B

theorem evalFn_grow {C : Cfg} (hp : PrimGrow C) {call : FuncId → List PV → List (List PV) → Option Out} (hcall : CallGrow call) {k : FuncId} {args : List PV} {B : List (List PV)} {o : Out}
    (h : evalFn C call k args B = some o) : GrowB o.mods B o.B := by
  unfold evalFn at h
  split at h
  · rename_i p hk; exact hp k p hk _ _ _ h
  · split at h
    · cases h
    · split at h
      · cases h
      · split at h
        · rename_i s h1
          obtain ⟨nm, e, g⟩ := evalCode_grow hcall _ _ h1
          obtain ⟨o0, h0, _, hB, hm⟩ := declR_inv h
          rw [hB]
          exact (results_grow h0 ⟨nm, by simpa using e, g⟩).more hm
        · rename_i s h1
          obtain ⟨nm, e, g⟩ := evalCode_grow hcall _ _ h1
          obtain ⟨o0, h0, _, hB, hm⟩ := declR_inv h
          rw [hB]
          exact (results_grow h0 ⟨nm, by simpa using e, g⟩).more hm
        · cases h
end Go.Q
