/-
  States and the memory that they speak of; operations that look at their operands alone.
-/
import Derived.Test.YtgcmbhfbdblfcaaQb
set_option linter.unusedVariables false
set_option linter.unusedSimpArgs false
namespace Go.Q

def Kept (κ : Kap) (w : World) (κ' : Kap) (w' : World) (t : Tag) : Prop :=
  κ'.perm t = κ.perm t ∧ ∀ g, κ.perm t = some g → κ'.lim g = κ.lim g ∧ w'.heap[g]? = w.heap[g]?

theorem Kept.refl (κ : Kap) (w : World) (t : Tag) : Kept κ w κ w t := ⟨rfl, fun _ _ => ⟨rfl, rfl⟩⟩
theorem Kept.trans {κ κ' κ'' : Kap} {w w' w'' : World} {t : Tag} (h : Kept κ w κ' w' t) (k : Kept κ' w' κ'' w'' t) : Kept κ w κ'' w'' t :=
  ⟨k.1.trans h.1, fun g hg => ⟨(k.2 g (h.1.trans hg)).1.trans (h.2 g hg).1, (k.2 g (h.1.trans hg)).2.trans (h.2 g hg).2⟩⟩

theorem TagOK.kept {κ κ' : Kap} {w w' : World} {t : Tag} {sz : Nat} {v : Value} (h : TagOK κ w t sz v) (k : Kept κ w κ' w' t) : TagOK κ' w' t sz v := by
  cases t with
  | ro => trivial
  | full => trivial
  | slot d i =>
    intro a len cap hv
    have h1 := h a len cap hv
    rw [k.1]
    split at h1 <;> rename_i hp
    · exact h1
    · rename_i g
      obtain ⟨ha, hl, cs, e, hh, hs⟩ := h1
      exact ⟨ha, by rw [(k.2 g hp).1]; exact hl, cs, e, by rw [(k.2 g hp).2]; exact hh, hs⟩
  | cell d i =>
    intro a len cap hv
    have h1 := h a len cap hv
    rw [k.1]
    split at h1 <;> rename_i hp
    · exact h1
    · rename_i g
      obtain ⟨ha, hl, cs, e, hh, hs⟩ := h1
      exact ⟨ha, by rw [(k.2 g hp).1]; exact hl, cs, e, by rw [(k.2 g hp).2]; exact hh, hs⟩

theorem TagOK.of_not_lin {κ : Kap} {w : World} {t : Tag} {sz : Nat} {v : Value} (h : t.lin = false) : TagOK κ w t sz v := by
  cases t <;> simp [Tag.lin] at h <;> trivial

theorem TagsOK.of_no_occ {κ : Kap} {w : World} {p : PV} {v : Value} (h : ∀ sz t u, Occ p v sz t u → t.lin = false) : TagsOK κ w p v :=
  fun sz t u ho => .of_not_lin (h sz t u ho)

theorem TagsOK.retag {κ : Kap} {w : World} {p : PV} {v : Value} (g : Tag → Tag) (h : TagsOK κ w p v) (hg : ∀ t, g t = t ∨ (g t).lin = false) : TagsOK κ w (p.retag g) v := by
  intro sz t u ho
  obtain ⟨t0, h0, rfl⟩ := Occ.of_retag g ho p rfl
  rcases hg t0 with e | e
  · rw [e]; exact h sz t0 u h0
  · exact .of_not_lin e

theorem TagsOK.clean {κ : Kap} {w : World} {p : PV} {v : Value} : TagsOK κ w p.clean v := by
  intro sz t u ho
  obtain ⟨t0, h0, rfl⟩ := Occ.of_retag _ ho p rfl
  refine .of_not_lin ?_
  cases t0 <;> simp [Tag.roify, Tag.lin]
theorem TagsOK.flat {κ : Kap} {w : World} {p : PV} {v : Value} : TagsOK κ w p.flat v := by
  intro sz t u ho
  obtain ⟨t0, h0, rfl⟩ := Occ.of_retag _ ho p rfl
  exact .of_not_lin rfl
theorem Rep.clean {κ : Kap} {w : World} {p : PV} {v : Value} (h : Rep κ w p v) : Rep κ w p.clean v :=
  h.retag _ fun t ht => by cases t <;> simp [Tag.roify, Tag.lin] at ht <;> rfl
theorem Rep.flat {κ : Kap} {w : World} {p : PV} {v : Value} (h : Rep κ w p v) : Rep κ w p.flat v :=
  h.retag _ fun t ht => by cases ht

structure Ext (κ : Kap) (w : World) (κ' : Kap) (w' : World) : Prop where
  le : Le κ w κ' w'
  base : κ'.base = κ.base
  prot : κ'.prot = κ.prot
  size : w.heap.size ≤ w'.heap.size
  os : w'.os = w.os
  tape : w'.tape = w.tape
  output : w'.output = w.output
  low : ∀ b, (b < κ.base ∨ κ.prot b) → b < w.heap.size → w'.heap[b]? = w.heap[b]? ∧ κ'.lim b = κ.lim b

theorem Ext.refl (κ : Kap) (w : World) : Ext κ w κ w := ⟨.refl _ _, rfl, rfl, Nat.le_refl _, rfl, rfl, rfl, fun _ _ _ => ⟨rfl, rfl⟩⟩
theorem Ext.trans {κ κ' κ'' : Kap} {w w' w'' : World} (h : Ext κ w κ' w') (k : Ext κ' w' κ'' w'') : Ext κ w κ'' w'' where
  le := h.le.trans k.le
  base := k.base.trans h.base
  prot := k.prot.trans h.prot
  size := Nat.le_trans h.size k.size
  os := k.os.trans h.os
  tape := k.tape.trans h.tape
  output := k.output.trans h.output
  low := fun b hb hs => by
    have h1 := h.low b hb hs
    have h2 := k.low b (by rw [h.base, h.prot]; exact hb) (Nat.lt_of_lt_of_le hs h.size)
    exact ⟨h2.1.trans h1.1, h2.2.trans h1.2⟩

structure BoxOK (κ : Kap) (w : World) (id b : Nat) (cs : List PV) (vs : Array Value) (e : TypeId) : Prop where
  heap : w.heap[b]? = some (.cells vs e (0, 0))
  reps : Reps κ w cs vs.toList
  one : ∀ v ∈ vs.toList, v.oneCell' = true
  tags : ∀ (j : Nat) sz t xs v, cs[j]? = some (.list sz t xs) → vs[j]? = some v → (t.lin = true → t = .cell id j) ∧ TagOK κ w t sz v
  noAgg : ∀ (j : Nat) c, cs[j]? = some c → (∀ l, c ≠ .agg l) ∧ (∀ l, c ≠ .tuple l)
  lim : (¬ κ.frz id → κ.lim b = 0) ∧ (κ.frz id → κ.lim b = vs.size)

structure Conc (κ : Kap) (w : World) (B : List (List PV)) : Prop where
  base : κ.base ≤ w.heap.size
  mu : ∀ id b, κ.mu id = some b → id < B.length ∧ κ.base ≤ b ∧ ¬ κ.prot b ∧ b < w.heap.size
  inj : ∀ i j b, κ.mu i = some b → κ.mu j = some b → i = j
  box : ∀ (id : Nat) cs, B[id]? = some cs → ∃ b vs e, κ.mu id = some b ∧ BoxOK κ w id b cs vs e
  perm : ∀ h g, κ.perm h = some g → κ.base ≤ g ∧ ¬ κ.prot g ∧ (∀ id, κ.mu id ≠ some g) ∧ ∃ cs e, w.heap[g]? = some (.cells cs e (0, 0))
  pinj : ∀ h h' g, κ.perm h = some g → κ.perm h' = some g → h = h'
  fresh : ∀ b, w.heap.size ≤ b → κ.lim b = 0
  prot : ∀ b, κ.prot b → b < w.heap.size
  frzLt : ∀ id, κ.frz id → id < B.length

structure FrameRel (κ : Kap) (w : World) (f : List PV) (tmps : Array Value) : Prop where
  len : f.length = tmps.size
  at_ : ∀ (d : Nat) p v, f[d]? = some p → tmps[d]? = some v → Rep κ w p v ∧ TagsOK κ w p v

theorem FrameRel.getD {κ : Kap} {w : World} {f : List PV} {tmps : Array Value} (h : FrameRel κ w f tmps) (d : Nat) :
    Rep κ w (f.getD d .any) (tmps.getD d undef) ∧ TagsOK κ w (f.getD d .any) (tmps.getD d undef) := by
  by_cases hd : d < f.length
  · have h1 : f[d]? = some f[d] := List.getElem?_eq_getElem hd
    have hd' : d < tmps.size := by rw [← h.len]; exact hd
    have h2 : tmps[d]? = some tmps[d] := Array.getElem?_eq_getElem hd'
    have := h.at_ d _ _ h1 h2
    simpa [List.getD_eq_getElem?_getD, h1, Array.getD, hd'] using this
  · have hd' : ¬ d < tmps.size := by rw [← h.len]; exact hd
    have h1 : f[d]? = none := List.getElem?_eq_none (by omega)
    have : f.getD d .any = .any := by simp [List.getD_eq_getElem?_getD, h1]
    rw [this]
    exact ⟨.any _, .of_no_occ fun sz t u ho => by cases ho⟩

theorem FrameRel.opv {κ : Kap} {w : World} {f : List PV} {a : Act} (h : FrameRel κ w f a.tmps) (x : Operand) :
    Rep κ w (opv f x) (a.eval x) ∧ TagsOK κ w (opv f x) (a.eval x) := by
  cases x with
  | tmp t => exact h.getD t
  | const v => exact ⟨.sc _, .of_no_occ fun sz t u ho => by cases ho⟩
  | global g => exact ⟨.sc _, .of_no_occ fun sz t u ho => by cases ho⟩
  | func k => exact ⟨.fn k [] [] rfl (fun i c v hc => by simp at hc), .of_no_occ fun sz t u ho => by cases ho⟩

theorem FrameRel.ext {κ κ' : Kap} {w w' : World} {f : List PV} {tmps : Array Value} (h : FrameRel κ w f tmps) (k : Le κ w κ' w') (D : Tag → Bool)
    (hD : ∀ t, t.lin = true → D t = false → Kept κ w κ' w' t) : FrameRel κ' w' (f.map (PV.retag (Tag.off D))) tmps := by
  refine ⟨by simpa using h.len, fun d p v hp hv => ?_⟩
  rw [List.getElem?_map] at hp
  obtain ⟨q, hq, rfl⟩ := Option.map_eq_some_iff.1 hp
  have hqv := h.at_ d q v hq hv
  refine ⟨(hqv.1.mono k).retag _ fun t ht => ?_, fun sz t u ho => ?_⟩
  · unfold Tag.off at ht; split at ht
    · cases ht
    · exact ht
  · obtain ⟨t0, h0, rfl⟩ := Occ.of_retag _ ho q rfl
    unfold Tag.off
    cases hd : D t0
    · simp only [Bool.false_eq_true, if_false]
      cases hl : t0.lin
      · exact .of_not_lin hl
      · exact (hqv.2 sz t0 u h0).kept (hD t0 hl hd)
    · simp only [if_true]; exact .of_not_lin rfl

theorem FrameRel.ext0 {κ κ' : Kap} {w w' : World} {f : List PV} {tmps : Array Value} (h : FrameRel κ w f tmps) (k : Le κ w κ' w')
    (hD : ∀ t, t.lin = true → Kept κ w κ' w' t) : FrameRel κ' w' f tmps := by
  refine ⟨h.len, fun d p v hp hv => ?_⟩
  have hqv := h.at_ d p v hp hv
  refine ⟨hqv.1.mono k, fun sz t u ho => ?_⟩
  cases hl : t.lin
  · exact .of_not_lin hl
  · exact (hqv.2 sz t u ho).kept (hD t hl)

theorem FrameRel.put {κ : Kap} {w : World} {s : St} {a : Act} (h : FrameRel κ w s.f a.tmps) {p : PV} {v : Value} (hr : Rep κ w p v) (ht : TagsOK κ w p v) (d : Option Nat) :
    FrameRel κ w (s.put d p).f (a.put d v).tmps := by
  cases d with
  | none => exact h
  | some d =>
    refine ⟨by simpa [St.put, Act.put] using h.len, fun i q u hq hu => ?_⟩
    simp only [St.put, Act.put] at hq hu
    by_cases hi : d = i
    · subst hi
      rw [List.getElem?_set] at hq
      simp only [if_true] at hq
      split at hq
      · rename_i hlt
        simp only [Option.some.injEq] at hq
        subst hq
        rw [Array.getElem?_setIfInBounds] at hu
        simp only [if_true] at hu
        split at hu
        · simp only [Option.some.injEq] at hu; subst hu; exact ⟨hr, ht⟩
        · cases hu
      · cases hq
    · rw [List.getElem?_set_ne hi] at hq
      rw [Array.getElem?_setIfInBounds_ne hi] at hu
      exact h.at_ i q u hq hu

/-! ### Parts of values -/
theorem Reps.nil (κ : Kap) (w : World) : Reps κ w [] [] := ⟨rfl, fun i c v hc => by simp at hc⟩
theorem Reps.cons {κ : Kap} {w : World} {c : PV} {v : Value} {cs : List PV} {vs : List Value} (h : Rep κ w c v) (k : Reps κ w cs vs) : Reps κ w (c :: cs) (v :: vs) := by
  refine ⟨by simp [k.len], fun i d u hd hu => ?_⟩
  cases i with
  | zero => simp at hd hu; subst hd; subst hu; exact h
  | succ i => simp at hd hu; exact k.at_ i d u hd hu
theorem Reps.head {κ : Kap} {w : World} {c : PV} {v : Value} {cs : List PV} {vs : List Value} (h : Reps κ w (c :: cs) (v :: vs)) : Rep κ w c v := h.at_ 0 c v rfl rfl
theorem Reps.tail {κ : Kap} {w : World} {c : PV} {v : Value} {cs : List PV} {vs : List Value} (h : Reps κ w (c :: cs) (v :: vs)) : Reps κ w cs vs :=
  ⟨by simpa using h.len, fun i d u hd hu => h.at_ (i + 1) d u hd hu⟩
theorem Reps.append {κ : Kap} {w : World} {cs ds : List PV} {vs us : List Value} (h : Reps κ w cs vs) (k : Reps κ w ds us) : Reps κ w (cs ++ ds) (vs ++ us) := by
  refine ⟨by simp [h.len, k.len], fun i c v hc hv => ?_⟩
  rw [List.getElem?_append] at hc hv
  rw [h.len] at hc
  split at hc
  · rename_i hi
    rw [if_pos hi] at hv
    exact h.at_ i c v hc hv
  · rename_i hi
    rw [if_neg hi] at hv
    exact k.at_ _ c v hc hv
theorem Reps.take {κ : Kap} {w : World} {cs : List PV} {vs : List Value} (h : Reps κ w cs vs) (n : Nat) : Reps κ w (cs.take n) (vs.take n) := by
  refine ⟨by simp [h.len], fun i c v hc hv => ?_⟩
  rw [List.getElem?_take] at hc hv
  split at hc
  · rename_i hi
    rw [if_pos hi] at hv
    exact h.at_ i c v hc hv
  · cases hc
theorem Reps.drop {κ : Kap} {w : World} {cs : List PV} {vs : List Value} (h : Reps κ w cs vs) (n : Nat) : Reps κ w (cs.drop n) (vs.drop n) := by
  refine ⟨by simp [h.len], fun i c v hc hv => ?_⟩
  rw [List.getElem?_drop] at hc hv
  exact h.at_ _ c v hc hv
theorem Reps.map {κ : Kap} {w : World} {cs : List PV} {vs : List Value} (h : Reps κ w cs vs) (g : PV → PV) (hg : ∀ c v, c ∈ cs → Rep κ w c v → Rep κ w (g c) v) : Reps κ w (cs.map g) vs := by
  refine ⟨by simp [h.len], fun i c v hc hv => ?_⟩
  rw [List.getElem?_map] at hc
  obtain ⟨c0, hc0, rfl⟩ := Option.map_eq_some_iff.1 hc
  exact hg c0 v (List.mem_of_getElem? hc0) (h.at_ i c0 v hc0 hv)
theorem Rep.agg_of {κ : Kap} {w : World} {cs : List PV} {vs : List Value} (h : Reps κ w cs vs) : Rep κ w (.agg cs) (.agg vs.toArray) := .agg cs vs h.len h.at_
theorem Rep.agg_inv {κ : Kap} {w : World} {cs : List PV} {v : Value} (h : Rep κ w (.agg cs) v) : ∃ vs : Array Value, v = .agg vs ∧ Reps κ w cs vs.toList := by
  cases h with
  | agg _ vs hl hr => exact ⟨_, rfl, ⟨hl, hr⟩⟩
theorem Rep.tuple_of {κ : Kap} {w : World} {cs : List PV} {vs : List Value} (h : Reps κ w cs vs) : Rep κ w (.tuple cs) (.tuple vs.toArray) := .tuple cs vs h.len h.at_
theorem Rep.tuple_inv {κ : Kap} {w : World} {cs : List PV} {v : Value} (h : Rep κ w (.tuple cs) v) : ∃ vs : Array Value, v = .tuple vs ∧ Reps κ w cs vs.toList := by
  cases h with
  | tuple _ vs hl hr => exact ⟨_, rfl, ⟨hl, hr⟩⟩
theorem Rep.fn_inv {κ : Kap} {w : World} {k : FuncId} {cs : List PV} {v : Value} (h : Rep κ w (.fn k cs) v) : ∃ vs : Array Value, v = .func (.func k) #[] vs ∧ Reps κ w cs vs.toList := by
  cases h with
  | fn _ _ vs hl hr => exact ⟨_, rfl, ⟨hl, hr⟩⟩
theorem Rep.sc_inv {κ : Kap} {w : World} {u v : Value} (h : Rep κ w (.sc u) v) : v = u := by cases h; rfl

/-- The cells of a value. -/
theorem Rep.cells_ {κ : Kap} {w : World} {p : PV} {v : Value} (h : Rep κ w p v) (hp : p.cells.all PV.okCell = true ∨ ∃ cs, p = .agg cs) : Reps κ w p.cells v.cells.toList := by
  cases h with
  | agg cs vs hl hr => exact ⟨hl, hr⟩
  | any v => rcases hp with hp | ⟨cs, hp⟩ <;> simp [PV.cells, PV.okCell] at hp
  | sc v =>
    rcases hp with hp | ⟨cs, hp⟩
    · simp [PV.cells, PV.okCell] at hp
      have : v.cells = #[v] := by cases v <;> simp [Value.oneCell'] at hp <;> rfl
      rw [this]; exact .cons (.sc v) (.nil _ _)
    · cases hp
  | list sz t xs a cap b off vs hpos hok hcap hmax hfull ha hl hc hr => exact .cons (.list sz t xs a cap b off vs hpos hok hcap hmax hfull ha hl hc hr) (.nil _ _)
  | arr id n b h hn => exact .cons (.arr id n b h hn) (.nil _ _)
  | ptr id off b h => exact .cons (.ptr id off b h) (.nil _ _)
  | eptr cs b off vs hok hl hc hr => exact .cons (.eptr cs b off vs hok hl hc hr) (.nil _ _)
  | fn f cap vs hl hr => exact .cons (.fn f cap vs hl hr) (.nil _ _)
  | tuple cs vs hl hr => rcases hp with hp | ⟨cs, hp⟩ <;> simp [PV.cells, PV.okCell] at hp

theorem Rep.one {κ : Kap} {w : World} {p : PV} {v : Value} (h : Rep κ w p v) (hp : p.okCell = true) : v.oneCell' = true := by
  cases h <;> simp [PV.okCell] at hp <;> first | rfl | exact hp
theorem PV.okCell_of_plain {c : PV} (h : c.plain = true) : c.okCell = true := by
  cases c <;> simp [PV.plain, PV.okCell] at * <;> try exact h
  simp [h, Tag.lin]

end Go.Q
