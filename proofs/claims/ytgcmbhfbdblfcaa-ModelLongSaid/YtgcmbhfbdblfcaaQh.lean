/-
  Calls: what a called function promises, and what the caller makes of it.
-/
import Derived.Test.YtgcmbhfbdblfcaaQg
set_option linter.unusedVariables false
set_option linter.unusedSimpArgs false
namespace Go.Q

structure Post (κ : Kap) (w : World) (n : Nat) (nm : List Nat) (κ' : Kap) (w' : World) : Prop where
  ext : Ext κ w κ' w'
  kept : ∀ id, id < n → id ∉ nm → ∀ j, Kept κ w κ' w' (.cell id j)
  boxes : ∀ id b, id ∉ nm → κ.mu id = some b → w'.heap[b]? = w.heap[b]?

theorem Post.refl (κ : Kap) (w : World) (n : Nat) : Post κ w n [] κ w := ⟨.refl _ _, fun _ _ _ _ => .refl _ _ _, fun _ _ _ _ => rfl⟩
theorem Post.trans {κ κ1 κ2 : Kap} {w w1 w2 : World} {n n1 : Nat} {m m1 : List Nat} (h : Post κ w n m κ1 w1) (k : Post κ1 w1 n1 m1 κ2 w2) (hn : n ≤ n1) : Post κ w n (m1 ++ m) κ2 w2 where
  ext := h.ext.trans k.ext
  kept := fun id hid hm j => (h.kept id hid (fun hh => hm (List.mem_append_right _ hh)) j).trans (k.kept id (Nat.lt_of_lt_of_le hid hn) (fun hh => hm (List.mem_append_left _ hh)) j)
  boxes := fun id b hm hb => (k.boxes id b (fun hh => hm (List.mem_append_left _ hh)) (h.ext.le.mu id b hb)).trans (h.boxes id b (fun hh => hm (List.mem_append_right _ hh)) hb)
theorem Post.weaken {κ κ1 : Kap} {w w1 : World} {n n' : Nat} {m m' : List Nat} (h : Post κ w n m κ1 w1) (hn : n' ≤ n) (hm : ∀ id ∈ m, id ∈ m' ∨ n ≤ id) (hmu : ∀ id b, κ.mu id = some b → id < n) : Post κ w n' m' κ1 w1 where
  ext := h.ext
  kept := fun id hid hm' j => h.kept id (by omega) (fun hh => by rcases hm id hh with a | a; exact hm' a; omega) j
  boxes := fun id b hm' hb => h.boxes id b (fun hh => by
    have := hmu id b hb
    rcases hm id hh with a | a
    · exact hm' a
    · omega) hb

structure Stepped (κ : Kap) (w : World) (s s' : St) (a : Act) (p : PV) (v : Value) (κ' : Kap) (w' : World) (nm : List Nat) : Prop where
  post : Post κ w s.B.length nm κ' w'
  conc : Conc κ' w' s'.B
  frame : FrameRel κ' w' s'.f a.tmps
  rep : Rep κ' w' p v
  tags : TagsOK κ' w' p v
  mods : s'.mods = nm ++ s.mods
  frz : ∀ id, κ'.frz id → κ.frz id ∨ id ∈ s'.fz
  fz : ∀ id, id ∈ s.fz → id ∈ s'.fz

theorem Steps_.stepped {C : Cfg} {κ : Kap} {w : World} {s s' : St} {a : Act} {m : Sem Next} {p : PV} {v : Value} {κ' : Kap} {w' : World} {nm : List Nat} (h : Steps_ C κ w s s' a m p v κ' w' nm) : Stepped κ w s s' a p v κ' w' nm :=
  ⟨⟨h.ext, h.kept, h.boxes⟩, h.conc, h.frame, h.rep, h.tags, h.mods, h.frz, h.fz⟩

/-! ### The contract -/
def ResTag (p : PV) : Prop :=
  match p with
  | .list _ (.slot d k) _ => d = 0 ∧ k = 0
  | .tuple vs => ∀ (k : Nat) sz d k' xs, vs[k]? = some (.list sz (.slot d k') xs) → d = 0 ∧ k' = k
  | _ => True

def ACall (C : Cfg) (k : FuncId) (args : List PV) (B : List (List PV)) (o : Out) : Prop :=
  ResTag o.r ∧ (∃ fn, C.P.funcs[k]? = some fn ∧ fn.body.isSome = true) ∧
  ∀ κ w vs, Conc κ w B → Reps κ w args vs → (∀ (i : Nat) p v, args[i]? = some p → vs[i]? = some v → TagsOK κ w p v) → (∀ id ∈ o.mods, ¬ κ.frz id) →
    Calls C.P k vs.toArray w fun e w' => ∃ v κ', e = .returned v ∧ Post κ w B.length o.mods κ' w' ∧ Conc κ' w' o.B ∧ Rep κ' w' o.r v ∧ TagsOK κ' w' o.r v ∧ (∀ id, κ'.frz id → κ.frz id)

def CallsOK (C : Cfg) (call : FuncId → List PV → List (List PV) → Option Out) : Prop := ∀ k args B o, call k args B = some o → ACall C k args B o

/-! ### Arguments -/
def asArg (cons : List Nat) (i : Nat) (a : PV) : PV :=
  match a with
  | .list sz t xs => .list sz (if cons.contains i && t != .ro then .slot i 0 else .ro) xs
  | a => a.flat

theorem asArgs_get (cons : List Nat) : ∀ (args : List PV) (k i : Nat), (asArgs cons k args)[i]? = (args[i]?).map (asArg cons (k + i))
  | [], k, i => by simp [asArgs]
  | a :: as, k, 0 => by cases a <;> simp [asArgs, asArg]
  | a :: as, k, i + 1 => by
    have := asArgs_get cons as (k + 1) i
    simp only [asArgs, List.getElem?_cons_succ, this]
    congr 2
    omega
theorem asArgs_len (cons : List Nat) : ∀ (args : List PV) (k : Nat), (asArgs cons k args).length = args.length
  | [], k => rfl
  | a :: as, k => by simp [asArgs, asArgs_len cons as (k + 1)]

theorem mem_usedTags (cons : List Nat) : ∀ (args : List PV) (k : Nat) (t : Tag), t ∈ usedTags cons k args ↔ ∃ (i sz : Nat) (xs : List PV), args[i]? = some (PV.list sz t xs) ∧ cons.contains (k + i) = true
  | [], k, t => by simp [usedTags]
  | a :: as, k, t => by
    have ih := mem_usedTags cons as (k + 1) t
    simp only [usedTags, List.mem_append, ih]
    constructor
    · rintro (h | ⟨i, sz, xs, h1, h2⟩)
      · cases a <;> simp at h
        rename_i sz t' xs
        exact ⟨0, sz, xs, by simp [h.2], by simpa using h.1⟩
      · exact ⟨i + 1, sz, xs, by simpa using h1, by rw [← h2]; congr 1; omega⟩
    · rintro ⟨i, sz, xs, h1, h2⟩
      cases i with
      | zero => simp at h1; subst h1; exact .inl (by simpa using h2)
      | succ i => exact .inr ⟨i, sz, xs, by simpa using h1, by rw [← h2]; congr 1; omega⟩

theorem noDup_append : ∀ {l m : List Tag}, noDup (l ++ m) = true → noDup m = true ∧ ∀ t ∈ l, t.lin = true → t ∉ m
  | [], m, h => ⟨h, fun t ht => by simp at ht⟩
  | x :: l, m, h => by
    simp only [List.cons_append, noDup, Bool.and_eq_true] at h
    obtain ⟨h1, h2⟩ := h
    obtain ⟨h3, h4⟩ := noDup_append h2
    refine ⟨h3, fun t ht hl => ?_⟩
    rcases List.mem_cons.1 ht with rfl | ht
    · intro hm
      simp [hl] at h1
      exact h1.2 hm
    · exact h4 t ht hl

theorem noDup_inj (cons : List Nat) : ∀ (args : List PV) (k : Nat), noDup (usedTags cons k args) = true → ∀ (i j : Nat) (t : Tag) (sz sz' : Nat) (xs xs' : List PV), t.lin = true →
    args[i]? = some (PV.list sz t xs) → args[j]? = some (PV.list sz' t xs') → cons.contains (k + i) = true → cons.contains (k + j) = true → i = j
  | [], k, h, i, j, t, sz, sz', xs, xs', hl, h1, h2, c1, c2 => by simp at h1
  | a :: as, k, h, i, j, t, sz, sz', xs, xs', hl, h1, h2, c1, c2 => by
    simp only [usedTags] at h
    obtain ⟨h3, h4⟩ := noDup_append h
    have far : ∀ (j : Nat) (sz sz' : Nat) (xs xs' : List PV), a = .list sz t xs → as[j]? = some (PV.list sz' t xs') → cons.contains k = true → cons.contains (k + (j + 1)) = true → False := by
      intro j sz sz' xs xs' ea e2 c1 c2
      subst ea
      exact h4 t (by simp [c1]; simpa using c1) hl ((mem_usedTags cons as (k + 1) t).2 ⟨j, sz', xs', e2, by rw [← c2]; congr 1; omega⟩)
    cases i with
    | zero =>
      cases j with
      | zero => rfl
      | succ j => exact (far j sz sz' xs xs' (by simpa using h1) (by simpa using h2) c1 c2).elim
    | succ i =>
      cases j with
      | zero => exact (far i sz' sz xs' xs (by simpa using h2) (by simpa using h1) c2 c1).elim
      | succ j => rw [noDup_inj cons as (k + 1) h3 i j t sz sz' xs xs' hl (by simpa using h1) (by simpa using h2) (by rw [← c1]; congr 1; omega) (by rw [← c2]; congr 1; omega)]

theorem mem_cellIds : ∀ {ts : List Tag} {id off : Nat}, Tag.cell id off ∈ ts → id ∈ cellIds ts
  | .cell i o :: ts, id, off, h => by
    simp only [cellIds, List.mem_cons] at h ⊢
    rcases h with h | h
    · cases h; exact .inl rfl
    · exact .inr (mem_cellIds h)
  | .ro :: ts, id, off, h => by simp only [cellIds, List.mem_cons] at h ⊢; rcases h with h | h; cases h; exact mem_cellIds h
  | .full :: ts, id, off, h => by simp only [cellIds, List.mem_cons] at h ⊢; rcases h with h | h; cases h; exact mem_cellIds h
  | .slot _ _ :: ts, id, off, h => by simp only [cellIds, List.mem_cons] at h ⊢; rcases h with h | h; cases h; exact mem_cellIds h

theorem PV.flat_flat (p : PV) : p.flat.flat = p.flat ∨ True := .inr trivial

theorem unhold_len : ∀ (ts : List Tag) (B : List (List PV)), (unhold ts B).length = B.length
  | [], B => rfl
  | .cell id off :: ts, B => by simp [unhold, unhold_len ts]
  | .ro :: ts, B => by simp [unhold, unhold_len ts]
  | .full :: ts, B => by simp [unhold, unhold_len ts]
  | .slot _ _ :: ts, B => by simp [unhold, unhold_len ts]

/-- 'c'' is told as 'c' is, or with less. -/
def Less (c c' : PV) : Prop := (∀ κ w v, Rep κ w c v → Rep κ w c' v) ∧ (c' = c ∨ ∀ sz t xs, c' = .list sz t xs → t = .ro) ∧ ((∀ l, c ≠ .agg l) → ∀ l, c' ≠ .agg l) ∧ ((∀ l, c ≠ .tuple l) → ∀ l, c' ≠ .tuple l)
theorem Less.refl (c : PV) : Less c c := ⟨fun _ _ _ h => h, .inl rfl, fun h => h, fun h => h⟩
theorem Less.flat (c : PV) : Less c c.flat := ⟨fun _ _ _ h => h.flat, .inr fun sz t xs h => by cases c <;> simp [PV.flat, PV.retag] at h; exact h.2.1.symm, fun h l e => by cases c <;> simp [PV.flat, PV.retag] at e; exact h _ rfl, fun h l e => by cases c <;> simp [PV.flat, PV.retag] at e; exact h _ rfl⟩
theorem Less.trans {c d e : PV} (h : Less c d) (k : Less d e) : Less c e :=
  ⟨fun κ w v r => k.1 κ w v (h.1 κ w v r), by
    rcases k.2.1 with rfl | k2
    · exact h.2.1
    · exact .inr k2, fun r => k.2.2.1 (h.2.2.1 r), fun r => k.2.2.2 (h.2.2.2 r)⟩

theorem unhold_get : ∀ (ts : List Tag) (B : List (List PV)) (id : Nat) (cs' : List PV), (unhold ts B)[id]? = some cs' →
    ∃ cs, B[id]? = some cs ∧ cs'.length = cs.length ∧ ∀ (j : Nat) c', cs'[j]? = some c' → ∃ c, cs[j]? = some c ∧ Less c c' ∧ (Tag.cell id j ∈ ts → ∀ sz t xs, c' = .list sz t xs → t = .ro)
  | [], B, id, cs', h => ⟨cs', h, rfl, fun j c' hc => ⟨c', hc, .refl _, fun hh => by simp at hh⟩⟩
  | .ro :: ts, B, id, cs', h => by
    obtain ⟨cs, h1, h2, h3⟩ := unhold_get ts B id cs' h
    exact ⟨cs, h1, h2, fun j c' hc => let ⟨c, a, b, d⟩ := h3 j c' hc; ⟨c, a, b, fun hh => d (by simpa using hh)⟩⟩
  | .full :: ts, B, id, cs', h => by
    obtain ⟨cs, h1, h2, h3⟩ := unhold_get ts B id cs' h
    exact ⟨cs, h1, h2, fun j c' hc => let ⟨c, a, b, d⟩ := h3 j c' hc; ⟨c, a, b, fun hh => d (by simpa using hh)⟩⟩
  | .slot _ _ :: ts, B, id, cs', h => by
    obtain ⟨cs, h1, h2, h3⟩ := unhold_get ts B id cs' h
    exact ⟨cs, h1, h2, fun j c' hc => let ⟨c, a, b, d⟩ := h3 j c' hc; ⟨c, a, b, fun hh => d (by simpa using hh)⟩⟩
  | .cell i off :: ts, B, id, cs', h => by
    simp only [unhold] at h
    obtain ⟨cs1, h1, h2, h3⟩ := unhold_get ts _ id cs' h
    rw [List.getElem?_modify] at h1
    by_cases hi : i = id
    · subst hi
      simp only [if_true] at h1
      obtain ⟨cs, h4, rfl⟩ := Option.map_eq_some_iff.1 h1
      refine ⟨cs, h4, by simpa using h2, fun j c' hc => ?_⟩
      obtain ⟨c1, a1, b1, d1⟩ := h3 j c' hc
      rw [List.getElem?_modify] at a1
      obtain ⟨c, hcj, hm⟩ := Option.map_eq_some_iff.1 a1
      by_cases hj : off = j
      · subst hj
        simp only [if_true] at hm
        subst hm
        refine ⟨c, hcj, (Less.flat c).trans b1, fun _ sz t xs e => ?_⟩
        rcases b1.2.1 with e1 | e1
        · rcases (Less.flat c).2.1 with e2 | e2
          · subst e1
            rw [e] at e2
            cases c <;> simp [PV.flat, PV.retag] at e2
            rw [← e2.2.1] at *
            simp [PV.flat, PV.retag] at e
            exact e.2.1.symm
          · exact e2 sz t xs (e1 ▸ e)
        · exact e1 sz t xs e
      · simp only [hj, if_false] at hm
        subst hm
        refine ⟨c, hcj, b1, fun hh => d1 ?_⟩
        rcases List.mem_cons.1 hh with hh | hh
        · cases hh; exact absurd rfl hj
        · exact hh
    · simp only [hi, if_false] at h1
      have h1 : B[id]? = some cs1 := by simpa using h1
      refine ⟨cs1, h1, h2, fun j c' hc => ?_⟩
      obtain ⟨c, a, b, d⟩ := h3 j c' hc
      refine ⟨c, a, b, fun hh => d ?_⟩
      rcases List.mem_cons.1 hh with hh | hh
      · cases hh; exact absurd rfl hi
      · exact hh

/-! ### The callee's view -/
open Classical in
noncomputable def calleeK (κ : Kap) (cons : List Nat) (args : List PV) : Kap :=
  { κ with
    prot := fun g => κ.prot g ∨ ∃ d k, Tag.slot d k ∉ usedTags cons 0 args ∧ κ.perm (.slot d k) = some g
    perm := fun h => match h with
      | .slot i 0 => match args[i]? with
        | some (.list _ t _) => if cons.contains i = true ∧ t.lin = true then κ.perm t else none
        | _ => none
      | .cell id off => if Tag.cell id off ∈ usedTags cons 0 args then none else κ.perm (.cell id off)
      | _ => none }

theorem calleeK_slot {κ : Kap} {cons : List Nat} {args : List PV} {i k g : Nat} (h : (calleeK κ cons args).perm (.slot i k) = some g) :
    k = 0 ∧ ∃ (sz : Nat) (t : Tag) (xs : List PV), args[i]? = some (PV.list sz t xs) ∧ cons.contains i = true ∧ t.lin = true ∧ κ.perm t = some g := by
  cases k with
  | succ k => simp [calleeK] at h
  | zero =>
    simp only [calleeK] at h
    split at h
    · rename_i sz t xs ha
      split at h
      · rename_i hc; exact ⟨rfl, sz, t, xs, ha, hc.1, hc.2, h⟩
      · cases h
    · cases h
theorem calleeK_cell {κ : Kap} {cons : List Nat} {args : List PV} {id off g : Nat} (h : (calleeK κ cons args).perm (.cell id off) = some g) :
    Tag.cell id off ∉ usedTags cons 0 args ∧ κ.perm (.cell id off) = some g := by
  simp only [calleeK] at h
  split at h
  · cases h
  · rename_i hn; exact ⟨hn, h⟩

theorem calleeK_le (κ : Kap) (w : World) (cons : List Nat) (args : List PV) : Le κ w (calleeK κ cons args) w := ⟨fun _ => Nat.le_refl _, fun _ _ _ _ h => h, fun _ _ h => h⟩

theorem calleeK_kept {κ : Kap} {w : World} {cons : List Nat} {args : List PV} {id off : Nat} (h : Tag.cell id off ∉ usedTags cons 0 args) : Kept κ w (calleeK κ cons args) w (.cell id off) :=
  ⟨by simp [calleeK, h], fun g hg => ⟨rfl, rfl⟩⟩

theorem used_of {cons : List Nat} {args : List PV} {i sz : Nat} {t : Tag} {xs : List PV} (h : args[i]? = some (PV.list sz t xs)) (hc : cons.contains i = true) : t ∈ usedTags cons 0 args :=
  (mem_usedTags cons args 0 t).2 ⟨i, sz, xs, h, by simpa using hc⟩

theorem calleeK_conc {κ : Kap} {w : World} {B : List (List PV)} {cons : List Nat} {args : List PV} (h : Conc κ w B) (hd : noDup (usedTags cons 0 args) = true) :
    Conc (calleeK κ cons args) w (unhold (usedTags cons 0 args) B) where
  base := h.base
  mu := fun id b hb => by
    obtain ⟨h1, h2, h3, h4⟩ := h.mu id b hb
    refine ⟨by rw [unhold_len]; exact h1, h2, ?_, h4⟩
    rintro (hp | ⟨d, k, hn, hp⟩)
    · exact h3 hp
    · exact (h.perm _ b hp).2.2.1 id hb
  inj := h.inj
  box := fun id cs' hcs' => by
    obtain ⟨cs, hcs, hlen, hat⟩ := unhold_get _ _ _ _ hcs'
    obtain ⟨b, vs, e, hb, hbox⟩ := h.box id cs hcs
    refine ⟨b, vs, e, hb, hbox.heap, ⟨by rw [hlen]; exact hbox.reps.len, fun j c v hc hv => ?_⟩, hbox.one, fun j sz t xs v hj hv => ?_, fun j c hc => ?_, hbox.lim⟩
    · obtain ⟨c0, h0, hl, _⟩ := hat j c hc
      exact (hl.1 κ w v (hbox.reps.at_ j c0 v h0 hv)).mono (calleeK_le κ w cons args)
    · obtain ⟨c0, h0, hl, hu⟩ := hat j _ hj
      rcases hl.2.1 with e1 | e1
      · subst e1
        obtain ⟨k1, k2⟩ := hbox.tags j sz t xs v h0 hv
        refine ⟨k1, ?_⟩
        cases hlt : t.lin
        · exact .of_not_lin hlt
        · have ht := k1 hlt
          subst ht
          refine k2.kept (calleeK_kept fun hm => ?_)
          have := hu hm sz _ xs rfl
          cases this
      · have := e1 sz t xs rfl
        subst this
        exact ⟨fun hh => by simp [Tag.lin] at hh, trivial⟩
    · obtain ⟨c0, h0, hl, _⟩ := hat j c hc
      have := hbox.noAgg j c0 h0
      exact ⟨hl.2.2.1 this.1, hl.2.2.2 this.2⟩
  perm := fun t g hg => by
    have key : ∀ t0, κ.perm t0 = some g → (∀ d k, t0 = .slot d k → t0 ∈ usedTags cons 0 args) → κ.base ≤ g ∧ ¬ (calleeK κ cons args).prot g ∧ (∀ id, κ.mu id ≠ some g) ∧ ∃ cs e, w.heap[g]? = some (.cells cs e (0, 0)) := by
      intro t0 h0 hu
      obtain ⟨h1, h2, h3, h4⟩ := h.perm t0 g h0
      refine ⟨h1, ?_, h3, h4⟩
      rintro (hp | ⟨d, k, hn, hp⟩)
      · exact h2 hp
      · have := h.pinj _ _ _ h0 hp
        exact hn (this ▸ hu d k this)
    cases t with
    | ro => simp [calleeK] at hg
    | full => simp [calleeK] at hg
    | slot i k =>
      obtain ⟨rfl, sz, t, xs, ha, hc, hl, hp⟩ := calleeK_slot hg
      exact key t hp fun _ _ _ => used_of ha hc
    | cell id off =>
      obtain ⟨hn, hp⟩ := calleeK_cell hg
      exact key _ hp fun d k e => by cases e
  pinj := fun t t' g hg hg' => by
    cases t with
    | ro => simp [calleeK] at hg
    | full => simp [calleeK] at hg
    | slot i k =>
      obtain ⟨rfl, sz, t, xs, ha, hc, hl, hp⟩ := calleeK_slot hg
      cases t' with
      | ro => simp [calleeK] at hg'
      | full => simp [calleeK] at hg'
      | slot i' k' =>
        obtain ⟨rfl, sz', t', xs', ha', hc', hl', hp'⟩ := calleeK_slot hg'
        have e := h.pinj _ _ _ hp hp'
        subst e
        have := noDup_inj cons args 0 hd i i' t sz sz' xs xs' hl ha ha' (by simpa using hc) (by simpa using hc')
        rw [this]
      | cell id' off' =>
        obtain ⟨hn, hp'⟩ := calleeK_cell hg'
        have e := h.pinj _ _ _ hp hp'
        exact absurd (e ▸ used_of ha hc) hn
    | cell id off =>
      obtain ⟨hn, hp⟩ := calleeK_cell hg
      cases t' with
      | ro => simp [calleeK] at hg'
      | full => simp [calleeK] at hg'
      | slot i' k' =>
        obtain ⟨rfl, sz', t', xs', ha', hc', hl', hp'⟩ := calleeK_slot hg'
        have e := h.pinj _ _ _ hp hp'
        exact absurd (e ▸ used_of ha' hc') hn
      | cell id' off' =>
        obtain ⟨hn', hp'⟩ := calleeK_cell hg'
        exact h.pinj _ _ _ hp hp'
  fresh := h.fresh
  prot := fun b hb => by
    rcases hb with hb | ⟨d, k, hn, hp⟩
    · exact h.prot b hb
    · obtain ⟨cs, e, hh⟩ := (h.perm _ b hp).2.2.2
      exact (Array.getElem?_eq_some_iff.1 hh).1
  frzLt := fun id hid => by rw [unhold_len]; exact h.frzLt id hid

theorem asArg_ok {κ : Kap} {w : World} {cons : List Nat} {args : List PV} {i : Nat} {p : PV} {v : Value} (hp : args[i]? = some p) (hr : Rep κ w p v) (ht : TagsOK κ w p v) :
    Rep (calleeK κ cons args) w (asArg cons i p) v ∧ TagsOK (calleeK κ cons args) w (asArg cons i p) v := by
  have other : p.flat = asArg cons i p → Rep (calleeK κ cons args) w (asArg cons i p) v ∧ TagsOK (calleeK κ cons args) w (asArg cons i p) v := fun e => by
    rw [← e]; exact ⟨(hr.mono (calleeK_le κ w cons args)).flat, .flat⟩
  cases p with
  | list sz t xs =>
    simp only [asArg]
    by_cases hc : (cons.contains i && t != .ro) = true
    · rw [if_pos hc]
      simp only [Bool.and_eq_true, bne_iff_ne, ne_eq] at hc
      refine ⟨(hr.mono (calleeK_le κ w cons args)).setTag (by simp), fun sz' t' u ho => ?_⟩
      cases ho
      have hperm : (calleeK κ cons args).perm (.slot i 0) = if cons.contains i = true ∧ t.lin = true then κ.perm t else none := by
        simp only [calleeK, hp]
      cases hl : t.lin
      · have hf : t = .full := by
          cases t with
          | ro => exact absurd rfl hc.2
          | full => rfl
          | slot _ _ => simp [Tag.lin] at hl
          | cell _ _ => simp [Tag.lin] at hl
        subst hf
        exact .ofFull hr.full_cap (by rw [hperm]; simp [hl])
      · have h0 := ht sz t v .here
        intro a len cap hv
        have h1 : match κ.perm t with | none => cap = len | some g => a = some ⟨g, 0, none⟩ ∧ len * sz = κ.lim g ∧ ∃ cs e, w.heap[g]? = some (.cells cs e (0, 0)) ∧ cap * sz ≤ cs.size := by
          cases t with
          | ro => simp [Tag.lin] at hl
          | full => simp [Tag.lin] at hl
          | slot _ _ => exact h0 a len cap hv
          | cell _ _ => exact h0 a len cap hv
        rw [hperm, if_pos ⟨hc.1, hl⟩]
        exact h1
    · rw [if_neg hc]
      refine ⟨(hr.mono (calleeK_le κ w cons args)).setTag (by simp), fun sz' t' u ho => ?_⟩
      cases ho
      trivial
  | _ => exact other rfl

/-! ### The caller's view of what comes back -/
open Classical in
noncomputable def backK (κ κ1 : Kap) (d : Nat) (used : List Tag) : Kap :=
  { κ1 with
    prot := κ.prot
    perm := fun h => match h with
      | .slot d' k => if d' = d then κ1.perm (.slot 0 k) else if Tag.slot d' k ∈ used then none else κ.perm (.slot d' k)
      | .cell id off => κ1.perm (.cell id off)
      | _ => none }

theorem backK_le (κ κ1 : Kap) (w : World) (d : Nat) (used : List Tag) : Le κ1 w (backK κ κ1 d used) w := ⟨fun _ => Nat.le_refl _, fun _ _ _ _ h => h, fun _ _ h => h⟩

theorem backK_conc {κ κ1 : Kap} {w w1 : World} {B : List (List PV)} {cons : List Nat} {args : List PV} {d : Nat} (hc : Conc κ w (B)) {B0 : List (List PV)} (h : Conc κ1 w1 B0)
    (hx : Ext (calleeK κ cons args) w κ1 w1) : Conc (backK κ κ1 d (usedTags cons 0 args)) w1 B0 := by
  have hprot : κ1.prot = (calleeK κ cons args).prot := hx.prot
  have old : ∀ d' k g, Tag.slot d' k ∉ usedTags cons 0 args → κ.perm (.slot d' k) = some g → κ1.prot g ∧ w1.heap[g]? = w.heap[g]? ∧ κ.base ≤ g ∧ ¬ κ.prot g ∧ ∃ cs e, w.heap[g]? = some (.cells cs e (0, 0)) := by
    intro d' k g hn hp
    obtain ⟨h1, h2, h3, cs, e, h4⟩ := hc.perm _ g hp
    have hpp : (calleeK κ cons args).prot g := .inr ⟨d', k, hn, hp⟩
    exact ⟨hprot ▸ hpp, (hx.low g (.inr hpp) (Array.getElem?_eq_some_iff.1 h4).1).1, h1, h2, cs, e, h4⟩
  have sub : ∀ g, κ.prot g → κ1.prot g := fun g hg => hprot ▸ (Or.inl hg : (calleeK κ cons args).prot g)
  have pcase : ∀ t g, (backK κ κ1 d (usedTags cons 0 args)).perm t = some g →
      (∃ k, t = .slot d k ∧ κ1.perm (.slot 0 k) = some g) ∨ (∃ d' k, d' ≠ d ∧ t = .slot d' k ∧ Tag.slot d' k ∉ usedTags cons 0 args ∧ κ.perm (.slot d' k) = some g) ∨ (∃ id off, t = .cell id off ∧ κ1.perm t = some g) := by
    intro t g hg
    cases t with
    | ro => simp [backK] at hg
    | full => simp [backK] at hg
    | slot d' k =>
      simp only [backK] at hg
      split at hg
      · rename_i e; subst e; exact .inl ⟨k, rfl, hg⟩
      · rename_i e
        split at hg
        · cases hg
        · rename_i hn; exact .inr (.inl ⟨d', k, e, rfl, hn, hg⟩)
    | cell id off => exact .inr (.inr ⟨id, off, rfl, hg⟩)
  refine ⟨h.base, fun id b hb => ?_, h.inj, fun id cs hcs => ?_, fun t g hg => ?_, fun t t' g hg hg' => ?_, h.fresh, fun b hb => h.prot b (sub b hb), h.frzLt⟩
  · obtain ⟨h1, h2, h3, h4⟩ := h.mu id b hb
    exact ⟨h1, h2, fun hp => h3 (sub b hp), h4⟩
  · obtain ⟨b, vs, e, hb, hbox⟩ := h.box id cs hcs
    exact ⟨b, vs, e, hb, hbox.heap, hbox.reps.mono (backK_le ..), hbox.one, fun j sz t xs v hj hv => by
      obtain ⟨k1, k2⟩ := hbox.tags j sz t xs v hj hv
      refine ⟨k1, ?_⟩
      cases hlt : t.lin
      · exact .of_not_lin hlt
      · have ht := k1 hlt
        subst ht
        exact k2.kept ⟨rfl, fun g hg => ⟨rfl, rfl⟩⟩, hbox.noAgg, hbox.lim⟩
  · rcases pcase t g hg with ⟨k, rfl, hp⟩ | ⟨d', k, hne, rfl, hn, hp⟩ | ⟨id, off, rfl, hp⟩
    · obtain ⟨h1, h2, h3, h4⟩ := h.perm _ g hp
      exact ⟨h1, fun hh => h2 (sub g hh), h3, h4⟩
    · obtain ⟨a1, a2, a3, a4, cs, e, a5⟩ := old d' k g hn hp
      exact ⟨hx.base ▸ a3, a4, fun id hid => (h.mu id g hid).2.2.1 a1, cs, e, a2.trans a5⟩
    · obtain ⟨h1, h2, h3, h4⟩ := h.perm _ g hp
      exact ⟨h1, fun hh => h2 (sub g hh), h3, h4⟩
  · rcases pcase t g hg with ⟨k, rfl, hp⟩ | ⟨d1, k, hne, rfl, hn, hp⟩ | ⟨id, off, rfl, hp⟩ <;>
      rcases pcase t' g hg' with ⟨k', rfl, hp'⟩ | ⟨d2, k', hne', rfl, hn', hp'⟩ | ⟨id', off', rfl, hp'⟩
    · have e := h.pinj _ _ _ hp hp'; cases e; rfl
    · exact absurd (old d2 k' g hn' hp').1 (h.perm _ g hp).2.1
    · have e := h.pinj _ _ _ hp hp'; cases e
    · exact absurd (old d1 k g hn hp).1 (h.perm _ g hp').2.1
    · exact hc.pinj _ _ _ hp hp'
    · exact absurd (old d1 k g hn hp).1 (h.perm _ g hp').2.1
    · have e := h.pinj _ _ _ hp hp'; cases e
    · exact absurd (old d2 k' g hn' hp').1 (h.perm _ g hp).2.1
    · exact h.pinj _ _ _ hp hp'

theorem import1_ok {κ κ1 : Kap} {w : World} {d k : Nat} {used : List Tag} {p : PV} {v : Value} (hr : Rep κ1 w p v) (ht : TagsOK κ1 w p v) (hk : ∀ sz d' k' xs, p = .list sz (.slot d' k') xs → d' = 0 ∧ k' = k) :
    Rep (backK κ κ1 d used) w (import1 d k p) v ∧ TagsOK (backK κ κ1 d used) w (import1 d k p) v := by
  unfold import1
  split
  · rename_i sz d' k' xs
    obtain ⟨rfl, rfl⟩ := hk sz d' k' xs rfl
    refine ⟨(hr.mono (backK_le ..)).setTag (by simp), fun sz' t' u ho => ?_⟩
    cases ho
    have h0 := ht sz _ v .here
    intro a len cap hv
    have h1 := h0 a len cap hv
    have e : (backK κ κ1 d used).perm (.slot d k') = κ1.perm (.slot 0 k') := by simp [backK]
    rw [e]
    exact h1
  · exact ⟨(hr.mono (backK_le ..)).flat, .flat⟩

theorem importL_get (d : Nat) : ∀ (cs : List PV) (k i : Nat), (importL d k cs)[i]? = (cs[i]?).map (import1 d (k + i))
  | [], k, i => by simp [importL]
  | c :: cs, k, 0 => by simp [importL]
  | c :: cs, k, i + 1 => by
    have := importL_get d cs (k + 1) i
    simp only [importL, List.getElem?_cons_succ, this]
    congr 2
    omega
theorem importL_len (d : Nat) : ∀ (cs : List PV) (k : Nat), (importL d k cs).length = cs.length
  | [], k => rfl
  | a :: as, k => by simp [importL, importL_len d as (k + 1)]

theorem importR_ok {κ κ1 : Kap} {w : World} {d : Nat} {used : List Tag} {p : PV} {v : Value} (hr : Rep κ1 w p v) (ht : TagsOK κ1 w p v) (hk : ResTag p) :
    Rep (backK κ κ1 d used) w (importR d p) v ∧ TagsOK (backK κ κ1 d used) w (importR d p) v := by
  unfold importR
  split
  · rename_i vs
    obtain ⟨us, rfl, hus⟩ := hr.tuple_inv
    have one : ∀ (i : Nat) c u, vs[i]? = some c → us[i]? = some u → Rep (backK κ κ1 d used) w (import1 d i c) u ∧ TagsOK (backK κ κ1 d used) w (import1 d i c) u := fun i c u hc hu =>
      import1_ok (hus.at_ i c u hc (by simpa using hu)) (fun sz t x ho => ht sz t x (.tuple hc hu ho)) fun sz d' k' xs e => hk i sz d' k' xs (e ▸ hc)
    constructor
    · have := Rep.tuple_of (κ := backK κ κ1 d used) (w := w) (cs := importL d 0 vs) (vs := us.toList) ⟨by rw [importL_len]; exact hus.len, fun i c u hc hu => by
        rw [importL_get] at hc
        obtain ⟨c0, h0, rfl⟩ := Option.map_eq_some_iff.1 hc
        have := (one i c0 u h0 (by simpa using hu)).1
        simpa using this⟩
      simpa using this
    · intro sz t x ho
      cases ho with
      | tuple hc hv h =>
        rw [importL_get] at hc
        obtain ⟨c0, h0, rfl⟩ := Option.map_eq_some_iff.1 hc
        refine (one _ c0 _ h0 hv).2 sz t x ?_
        simpa using h
  · refine import1_ok hr ht fun sz d' k' xs e => ?_
    subst e
    exact hk

theorem callOp_ok {C : Cfg} {call : FuncId → List PV → List (List PV) → Option Out} (hcall : CallsOK C call) {d : Nat} {κ : Kap} {w : World} {s s' : St} {a : Act} {k : FuncId} {args : List PV} {vs : List Value} {p : PV}
    (h : callOp C call d s k args = some (p, s')) (hc : Conc κ w s.B) (hf : FrameRel κ w s.f a.tmps) (hr : Reps κ w args vs) (ht : ∀ (i : Nat) p v, args[i]? = some p → vs[i]? = some v → TagsOK κ w p v)
    (hz : ∀ id ∈ s'.mods, id ∉ s.fz → ¬ κ.frz id) :
    (∃ fn, C.P.funcs[k]? = some fn ∧ fn.body.isSome = true) ∧
    Calls C.P k vs.toArray w fun e w' => ∃ v κ' nm, e = .returned v ∧ Stepped κ w s s' a p v κ' w' nm := by
  unfold callOp at h
  split at h
  · rename_i o ho
    split at h
    · rename_i hcond
      simp only [Bool.and_eq_true] at hcond
      obtain ⟨hnf, hnd⟩ := hcond
      simp only [Option.some.injEq, Prod.mk.injEq] at h
      obtain ⟨rfl, rfl⟩ := h
      obtain ⟨hrt, hfn, hspec⟩ := hcall _ _ _ _ ho
      refine ⟨hfn, ?_⟩
      have hargs : ∀ (i : Nat) p v, (asArgs (C.cons k) 0 args)[i]? = some p → vs[i]? = some v → Rep (calleeK κ (C.cons k) args) w p v ∧ TagsOK (calleeK κ (C.cons k) args) w p v := by
        intro i p v hp hv
        rw [asArgs_get] at hp
        obtain ⟨p0, h0, rfl⟩ := Option.map_eq_some_iff.1 hp
        rw [Nat.zero_add]
        exact asArg_ok h0 (hr.at_ i p0 v h0 hv) (ht i p0 v h0 hv)
      have hcall1 := hspec (calleeK κ (C.cons k) args) w vs (calleeK_conc hc hnd) ⟨by rw [asArgs_len]; exact hr.len, fun i c v hci hv => (hargs i c v hci hv).1⟩ (fun i p v hp hv => (hargs i p v hp hv).2)
        (fun id hid hh => by
          have h1 := List.all_eq_true.1 hnf id hid
          simp only [Bool.not_eq_true', List.contains_eq_mem, decide_eq_false_iff_not] at h1
          exact hz id (by simp [hid]) h1 hh)
      refine Calls.mono hcall1 fun e w1 he => ?_
      obtain ⟨v, κ1, rfl, hpost, hconc, hrep, htag, hfrz⟩ := he
      obtain ⟨hr1, ht1⟩ := importR_ok (κ := κ) (d := d) (used := usedTags (C.cons k) 0 args) hrep htag hrt
      have hle : Le κ w (backK κ κ1 d (usedTags (C.cons k) 0 args)) w1 := ((calleeK_le κ w (C.cons k) args).trans hpost.ext.le).trans (backK_le ..)
      have hcell : ∀ id, id < s.B.length → id ∉ o.mods ++ cellIds (usedTags (C.cons k) 0 args) → ∀ j, Kept κ w (backK κ κ1 d (usedTags (C.cons k) 0 args)) w1 (.cell id j) := by
        intro id hid hn j
        have h1 : Kept κ w (calleeK κ (C.cons k) args) w (.cell id j) := calleeK_kept fun hm => hn (List.mem_append_right _ (mem_cellIds hm))
        have h2 := hpost.kept id (by rw [unhold_len]; exact hid) (fun hh => hn (List.mem_append_left _ hh)) j
        exact (h1.trans h2).trans ⟨rfl, fun g hg => ⟨rfl, rfl⟩⟩
      refine ⟨v, backK κ κ1 d (usedTags (C.cons k) 0 args), o.mods ++ cellIds (usedTags (C.cons k) 0 args), rfl, ⟨⟨hle, hpost.ext.base, rfl, hpost.ext.size, hpost.ext.os, hpost.ext.tape, hpost.ext.output, fun b hb hs => ?_⟩, hcell, fun id b hn hb => ?_⟩, ?_, ?_, hr1, ht1, rfl, fun id hid => .inl (hfrz id hid), fun id hid => hid⟩
      · exact hpost.ext.low b (hb.imp id .inl) hs
      · exact hpost.boxes id b (fun hh => hn (List.mem_append_left _ hh)) hb
      · exact backK_conc hc hconc hpost.ext
      · refine hf.ext hle _ fun t hl hD => ?_
        cases t with
        | ro => simp [Tag.lin] at hl
        | full => simp [Tag.lin] at hl
        | slot d' k' =>
          simp only [Tag.lin, Bool.and_true, Bool.or_eq_false_iff, List.contains_eq_mem, decide_eq_false_iff_not, beq_eq_false_iff_ne, ne_eq] at hD
          have e : (backK κ κ1 d (usedTags (C.cons k) 0 args)).perm (.slot d' k') = κ.perm (.slot d' k') := by simp [backK, hD.1, hD.2]
          refine ⟨e, fun g hg => ?_⟩
          obtain ⟨h1, h2, h3, cs, e', h4⟩ := hc.perm _ g hg
          have := hpost.ext.low g (.inr (.inr ⟨d', k', hD.1, hg⟩)) (Array.getElem?_eq_some_iff.1 h4).1
          exact ⟨this.2, this.1⟩
        | cell id j =>
          simp only [Tag.lin, Bool.and_true, Bool.or_eq_false_iff, List.contains_eq_mem, decide_eq_false_iff_not] at hD
          exact hcell id (by omega) (by simp; exact ⟨hD.2.1.1, hD.2.1.2⟩) j
    · cases h
  · cases h
end Go.Q
