/-
  Operations on memory: the evaluator tells what the model does.
-/
import Derived.Test.YtgcmbhfbdblfcaaQd
import Derived.Deep.AppendSrc
import Derived.Great.BuildSlice
import Derived.Great.FillDense
set_option linter.unusedVariables false
set_option linter.unusedSimpArgs false
set_option linter.unnecessarySimpa false
namespace Go.Q

/-- An operation that is no call: what it comes to. -/
structure Steps_ (C : Cfg) (κ : Kap) (w : World) (s s' : St) (a : Act) (m : Sem Next) (p : PV) (v : Value) (κ' : Kap) (w' : World) (nm : List Nat) : Prop where
  run : m.run C.P w = .ok (.value v) w' ∨ (m.run C.P w = .ok .skip w' ∧ v = undef)
  ext : Ext κ w κ' w'
  conc : Conc κ' w' s'.B
  frame : FrameRel κ' w' s'.f a.tmps
  rep : Rep κ' w' p v
  tags : TagsOK κ' w' p v
  mods : s'.mods = nm ++ s.mods
  kept : ∀ id, id < s.B.length → id ∉ nm → ∀ j, Kept κ w κ' w' (.cell id j)
  boxes : ∀ id b, id ∉ nm → κ.mu id = some b → w'.heap[b]? = w.heap[b]?
  frz : ∀ id, κ'.frz id → κ.frz id ∨ id ∈ s'.fz
  fz : ∀ id, id ∈ s.fz → id ∈ s'.fz

/-! ### Loads -/
theorem run_loadAt {P : Program} {t : TypeId} {w : World} {b off : Nat} {cs : List Value} {d : TypeDesc} {i : TypeInfo} (hd : P.underlying t = some d) (hi : P.info? t = some i) (hsz : i.size = cs.length)
    (h : ∀ (j : Nat) v, cs[j]? = some v → w.cell? ⟨b, off + j, none⟩ = some v) (h1 : isAggT P t = false → cs.length = 1) :
    (Instr.loadAt t (.pointer (some ⟨b, off, none⟩))).run P w = .ok (if isAggT P t then .agg cs.toArray else cs.headD undef) w := by
  cases ha : isAggT P t
  · have hl := h1 ha
    match cs, hl with
    | [v], _ =>
      have := h 0 v rfl
      simp only [Nat.add_zero] at this
      simp [Instr.loadAt, Instr.sureAddr, loadVar, run_isAgg hd, ha, load, Sem.run, this]
  · have hc := run_loadCells_list (P := P) w ⟨b, off, none⟩ cs (fun j v hj => by rw [add_plain_]; exact h j v hj)
    simp [Instr.loadAt, Instr.sureAddr, loadVar, run_isAgg hd, ha, sizeOf, typeInfo, hi, hsz, hc]

theorem TagsOK.agg_clean {κ : Kap} {w : World} {cs : List PV} {v : Value} : TagsOK κ w (.agg (cs.map PV.clean)) v := by
  refine .of_no_occ fun sz t u ho => ?_
  cases ho with
  | agg hc hv hh =>
    rw [List.getElem?_map] at hc
    obtain ⟨c0, hc0, rfl⟩ := Option.map_eq_some_iff.1 hc
    obtain ⟨t0, h0, rfl⟩ := Occ.of_retag _ hh c0 rfl
    cases t0 <;> simp [Tag.roify, Tag.lin]

theorem PV.plain_tag {c : PV} (h : c.plain = true) {sz : Nat} {t : Tag} {v u : Value} (ho : Occ c v sz t u) : t.lin = false := by
  cases ho <;> simp [PV.plain] at h
  subst h; rfl

theorem loadOp_ok {P : Program} {κ : Kap} {w : World} {B : List (List PV)} {t : TypeId} {x p : PV} {vx : Value} (h : loadOp P B t x = some p) (hx : Rep κ w x vx) (hc : Conc κ w B) :
    ∃ v, (∀ κ2 w2, Le κ w κ2 w2 → (∀ id off b, x = .ptr id off → κ.mu id = some b → w2.heap[b]? = w.heap[b]?) → (Instr.loadAt t vx).run P w2 = .ok v w2) ∧ Rep κ w p v ∧ TagsOK κ w p v := by
  unfold loadOp at h
  split at h
  · rename_i hk
    obtain ⟨d, i, hd, hi, hsz⟩ := knownT_ok hk
    split at h
    · rename_i id off
      split at h
      · rename_i cs hcs
        obtain ⟨b, vs, e, hb, hbox⟩ := hc.box id cs hcs
        have hlen : cs.length = vs.size := by simpa using hbox.reps.len
        cases hx with
        | ptr _ _ b' hb' =>
          have hbb : b' = b := by rw [hb'] at hb; simpa using hb
          subst hbb
          split at h
          · rename_i hle
            have hcell : ∀ (w2 : World), w2.heap[b']? = w.heap[b']? → ∀ (j : Nat) v, ((vs.toList.drop off).take (P.cellsOf t))[j]? = some v → w2.cell? ⟨b', off + j, none⟩ = some v := by
              intro w2 hw2 j v hj
              rw [List.getElem?_take] at hj
              split at hj
              · rw [List.getElem?_drop] at hj
                rw [cell_of_row w2 b' (off + j) vs e (0, 0) (by rw [hw2]; exact hbox.heap)]
                simpa using hj
              · cases hj
            have hlen2 : ((vs.toList.drop off).take (P.cellsOf t)).length = P.cellsOf t := by simp; omega
            split at h
            · rename_i ha
              simp only [Option.some.injEq] at h; subst h
              refine ⟨.agg ((vs.toList.drop off).take (P.cellsOf t)).toArray, fun κ2 w2 _ hbx => ?_, ?_, .agg_clean⟩
              · have := run_loadAt (w := w2) hd hi (by rw [hlen2]; exact hsz) (hcell w2 (hbx id off b' rfl hb)) (by simp [ha])
                simpa [ha] using this
              · exact .agg_of (((hbox.reps.drop off).take _).map PV.clean fun c v _ hcv => hcv.clean)
            · rename_i ha
              split at h
              · rename_i h1
                have hoff : off < vs.size := by omega
                obtain ⟨u0, hv⟩ : ∃ u, vs[off]? = some u := ⟨_, Array.getElem?_eq_getElem hoff⟩
                refine ⟨u0, fun κ2 w2 _ hbx => ?_, hbox.reps.at_ off p _ h (by simpa using hv), fun sz t' u ho => ?_⟩
                · have := run_loadAt (w := w2) hd hi (by rw [hlen2]; exact hsz) (hcell w2 (hbx id off b' rfl hb)) (fun _ => by rw [hlen2]; exact h1)
                  rw [if_neg ha] at this
                  rw [this]
                  congr 1
                  rw [h1]
                  have e1 : (vs.toList.drop off).take 1 = [u0] := by
                    rw [List.drop_eq_getElem_cons (by simpa using hoff)]
                    simp
                    simpa [Array.getElem?_eq_getElem hoff] using hv
                  rw [e1]; rfl
                · have hna := hbox.noAgg off p h
                  cases ho with
                  | here => exact (hbox.tags off _ _ _ _ h hv).2
                  | agg => exact absurd rfl (hna.1 _)
                  | tuple => exact absurd rfl (hna.2 _)
              · cases h
          · cases h
      · cases h
    · rename_i cs
      cases hx with
      | eptr _ b off vs hok hl hcc hr =>
        split at h
        · rename_i hle
          have hcell : ∀ (κ2 : Kap) (w2 : World), Le κ w κ2 w2 → ∀ (j : Nat) v, (vs.take (P.cellsOf t))[j]? = some v → w2.cell? ⟨b, off + j, none⟩ = some v := by
            intro κ2 w2 k j v hj
            rw [List.getElem?_take] at hj
            split at hj
            · exact k.cell _ _ _ (hcc j v hj).1 (hcc j v hj).2
            · cases hj
          have hlen2 : (vs.take (P.cellsOf t)).length = P.cellsOf t := by simp; omega
          split at h
          · rename_i ha
            simp only [Option.some.injEq] at h; subst h
            refine ⟨.agg (vs.take (P.cellsOf t)).toArray, fun κ2 w2 k hbx => ?_, .agg_of (Reps.take ⟨hl, hr⟩ _), .agg_ok fun c hcm => PV.okCell_of_plain (hok c (List.mem_of_mem_take hcm))⟩
            have := run_loadAt (w := w2) hd hi (by rw [hlen2]; exact hsz) (hcell κ2 w2 k) (by simp [ha])
            simpa [ha] using this
          · rename_i ha
            split at h
            · rename_i h1
              obtain ⟨v0, hv0⟩ : ∃ v, vs[0]? = some v := ⟨_, List.getElem?_eq_getElem (by omega)⟩
              refine ⟨v0, fun κ2 w2 k hbx => ?_, hr 0 p v0 h hv0, fun sz t' u ho => .of_not_lin (PV.plain_tag (hok p (List.mem_of_getElem? h)) ho)⟩
              have := run_loadAt (w := w2) hd hi (by rw [hlen2]; exact hsz) (hcell κ2 w2 k) (fun _ => by rw [hlen2]; exact h1)
              rw [if_neg ha] at this
              rw [this, h1]
              congr 1
              cases vs with
              | nil => simp at hv0
              | cons u us => simp at hv0 ⊢; exact hv0
            · cases h
        · cases h
    · cases h
  · cases h


/-! ### What a change of memory does to a state -/
def Kap.setPerm (κ : Kap) (t : Tag) (o : Option Nat) : Kap := { κ with perm := fun h => if h = t then o else κ.perm h }
def Kap.setLim (κ : Kap) (b n : Nat) : Kap := { κ with lim := fun g => if g = b then n else κ.lim g }
def Kap.addBox (κ : Kap) (id b : Nat) : Kap := { κ with mu := fun i => if i = id then some b else κ.mu i }

theorem BoxOK.ext {κ κ' : Kap} {w w' : World} {id b : Nat} {cs : List PV} {vs : Array Value} {e : TypeId} (h : BoxOK κ w id b cs vs e) (k : Le κ w κ' w')
    (hh : w'.heap[b]? = w.heap[b]?) (hl : κ'.lim b = κ.lim b) (hf : κ'.frz id ↔ κ.frz id) (hk : ∀ j, Kept κ w κ' w' (.cell id j)) : BoxOK κ' w' id b cs vs e where
  heap := hh.trans h.heap
  reps := h.reps.mono k
  one := h.one
  tags := fun j sz t xs v hc hv => ⟨(h.tags j sz t xs v hc hv).1, by
    have h1 := h.tags j sz t xs v hc hv
    cases hl' : t.lin
    · exact .of_not_lin hl'
    · have := h1.1 hl'
      subst this
      exact h1.2.kept (hk j)⟩
  noAgg := h.noAgg
  lim := by rw [hf, hl]; exact h.lim

/-- What stays when a step is done that touches no right. -/
structure Quiet_ (κ : Kap) (w : World) (κ' : Kap) (w' : World) : Prop where
  ext : Ext κ w κ' w'
  kept : ∀ t, Kept κ w κ' w' t
  heap : ∀ b, b < w.heap.size → w'.heap[b]? = w.heap[b]?
  frz : κ'.frz = κ.frz
  mu : ∀ id b, κ.mu id = some b → κ'.mu id = some b

theorem alloc_quiet {κ : Kap} {w w1 : World} {B : List (List PV)} (h : Conc κ w B) (hw : w1.heap = w.heap) (hos : w1.os = w.os) (htape : w1.tape = w.tape) (hout : w1.output = w.output) (o : Obj) (n : Nat) :
    Quiet_ κ w (κ.setLim w.heap.size n) (w1.alloc o) := by
  have hsz : (w1.alloc o).heap.size = w.heap.size + 1 := by simp [World.alloc, hw]
  have hold : ∀ b, b < w.heap.size → (w1.alloc o).heap[b]? = w.heap[b]? := fun b hb => by
    rw [heap_alloc_old w1 o (by rw [hw]; exact hb), hw]
  have hcell : ∀ b o' v, o' < κ.lim b → w.cell? ⟨b, o', none⟩ = some v → (w1.alloc o).cell? ⟨b, o', none⟩ = some v := by
    intro b o' v _ hv
    have hb := World.block_lt_of_cell? w _ hv
    simpa [World.cell?, hold b hb] using hv
  have hle : Le κ w (κ.setLim w.heap.size n) (w1.alloc o) := by
    refine ⟨fun b => ?_, hcell, fun _ _ h => h⟩
    simp only [Kap.setLim]
    split
    · rename_i hb; rw [h.fresh b (by omega)]; exact Nat.zero_le _
    · exact Nat.le_refl _
  refine ⟨⟨hle, rfl, rfl, by omega, hos, htape, hout, fun b hb hlt => ⟨hold b hlt, by simp only [Kap.setLim]; rw [if_neg (by omega)]⟩⟩, fun t => ⟨rfl, fun g hg => ?_⟩, hold, rfl, fun _ _ h => h⟩
  obtain ⟨_, _, _, cs, e, hh⟩ := h.perm t g hg
  have hlt : g < w.heap.size := (Array.getElem?_eq_some_iff.1 hh).1
  exact ⟨by simp only [Kap.setLim]; rw [if_neg (by omega)], hold g hlt⟩

/-- A new block that is no box and that nobody may append to in place. -/
theorem Conc.alloc {κ : Kap} {w w1 : World} {B : List (List PV)} (h : Conc κ w B) (hw : w1.heap = w.heap) {o : Obj} {n : Nat} (q : Quiet_ κ w (κ.setLim w.heap.size n) (w1.alloc o)) :
    Conc (κ.setLim w.heap.size n) (w1.alloc o) B := by
  have hsz : (w1.alloc o).heap.size = w.heap.size + 1 := by simp [World.alloc, hw]
  refine ⟨?_, ?_, h.inj, ?_, ?_, h.pinj, ?_, ?_, h.frzLt⟩
  · rw [hsz]; exact Nat.le_succ_of_le h.base
  · intro id b hb
    obtain ⟨a1, a2, a3, a4⟩ := h.mu id b hb
    exact ⟨a1, a2, a3, by omega⟩
  · intro id cs hcs
    obtain ⟨b, vs, e, hb, hbox⟩ := h.box id cs hcs
    have hlt := (h.mu id b hb).2.2.2
    exact ⟨b, vs, e, hb, hbox.ext q.ext.le (q.heap b hlt) (by simp only [Kap.setLim]; rw [if_neg (by omega)]) Iff.rfl fun j => q.kept _⟩
  · intro t g hg
    obtain ⟨a1, a2, a3, cs, e, hh⟩ := h.perm t g hg
    exact ⟨a1, a2, a3, cs, e, (q.heap g (Array.getElem?_eq_some_iff.1 hh).1).trans hh⟩
  · intro b hb
    simp only [Kap.setLim]
    rw [if_neg (by omega)]
    exact h.fresh b (by omega)
  · intro b hb
    have := h.prot b hb
    omega

/-- The right of one holder is given to another one, or let go. -/
theorem Conc.movePerm {κ : Kap} {w : World} {B : List (List PV)} (h : Conc κ w B) (t t' : Tag) (o : Option Nat) (ho : o = none ∨ o = κ.perm t)
    (hB : ∀ (id : Nat) cs (j : Nat) sz xs, B[id]? = some cs → cs[j]? = some (.list sz (.cell id j) xs) → .cell id j ≠ t ∧ .cell id j ≠ t') :
    Conc ((κ.setPerm t none).setPerm t' o) w B := by
  have hperm : ∀ x g, ((κ.setPerm t none).setPerm t' o).perm x = some g → ∃ y, κ.perm y = some g ∧ ((x = t' ∧ y = t) ∨ (x = y ∧ x ≠ t ∧ x ≠ t')) := by
    intro x g hx
    simp only [Kap.setPerm] at hx
    split at hx
    · rename_i hxt
      subst hx
      rcases ho with ho | ho
      · cases ho
      · exact ⟨t, ho.symm, .inl ⟨hxt, rfl⟩⟩
    · rename_i h1
      split at hx
      · cases hx
      · rename_i h2
        exact ⟨x, hx, .inr ⟨rfl, h2, h1⟩⟩
  refine ⟨h.base, h.mu, h.inj, ?_, ?_, ?_, h.fresh, h.prot, h.frzLt⟩
  · intro id cs hcs
    obtain ⟨b, vs, e, hb, hbox⟩ := h.box id cs hcs
    refine ⟨b, vs, e, hb, ⟨hbox.heap, hbox.reps.mono ⟨fun _ => Nat.le_refl _, fun _ _ _ _ h => h, fun _ _ h => h⟩, hbox.one, fun j sz tt xs v hcj hvj => ?_, hbox.noAgg, hbox.lim⟩⟩
    obtain ⟨h1, h2⟩ := hbox.tags j sz tt xs v hcj hvj
    refine ⟨h1, ?_⟩
    cases hl : tt.lin
    · exact .of_not_lin hl
    · have e1 := h1 hl
      subst e1
      have hne := hB id cs j sz xs hcs hcj
      refine h2.kept ⟨?_, fun g _ => ⟨rfl, rfl⟩⟩
      simp [Kap.setPerm, hne.1, hne.2]
  · intro x g hx
    obtain ⟨y, hy, _⟩ := hperm x g hx
    exact h.perm y g hy
  · intro x x' g hx hx'
    obtain ⟨y, hy, e⟩ := hperm x g hx
    obtain ⟨y', hy', e'⟩ := hperm x' g hx'
    have hyy := h.pinj y y' g hy hy'
    subst hyy
    rcases e with ⟨e1, e2⟩ | ⟨e1, e2, e3⟩ <;> rcases e' with ⟨f1, f2⟩ | ⟨f1, f2, f3⟩
    · rw [e1, f1]
    · exfalso; subst e2; exact f2 f1
    · exfalso; subst f2; exact e2 e1
    · rw [e1, f1]

theorem PV.flat_noAgg {c : PV} (h : (∀ l, c ≠ .agg l) ∧ (∀ l, c ≠ .tuple l)) : (∀ l, c.flat ≠ .agg l) ∧ (∀ l, c.flat ≠ .tuple l) := by
  cases c <;> simp [PV.flat, PV.retag] at h ⊢

/-- Cells of a box lose their rights. -/
theorem Conc.reBox {κ : Kap} {w : World} {B : List (List PV)} (h : Conc κ w B) {id : Nat} {cs cs' : List PV} (hcs : B[id]? = some cs) (hl : cs'.length = cs.length) (hc : ∀ (j : Nat) c, cs[j]? = some c → cs'[j]? = some c ∨ cs'[j]? = some c.flat) :
    Conc κ w (B.set id cs') := by
  have hid : id < B.length := (List.getElem?_eq_some_iff.1 hcs).1
  refine ⟨h.base, fun i b hb => by simpa using h.mu i b hb, h.inj, fun i ds hds => ?_, h.perm, h.pinj, h.fresh, h.prot, by simpa using h.frzLt⟩
  by_cases hi : id = i
  · subst hi
    rw [List.getElem?_set_self hid] at hds
    simp only [Option.some.injEq] at hds; subst hds
    obtain ⟨b, vs, e, hb, hbox⟩ := h.box id cs hcs
    have key : ∀ (j : Nat) c, cs'[j]? = some c → ∃ c0, cs[j]? = some c0 ∧ (c = c0 ∨ c = c0.flat) := by
      intro j c hj
      have hjl := (List.getElem?_eq_some_iff.1 hj).1
      have h0 : cs[j]? = some cs[j] := List.getElem?_eq_getElem (by omega)
      refine ⟨_, h0, ?_⟩
      rcases hc j _ h0 with e1 | e1 <;> rw [e1] at hj <;> simp only [Option.some.injEq] at hj
      · exact .inl hj.symm
      · exact .inr hj.symm
    refine ⟨b, vs, e, hb, hbox.heap, ⟨by rw [hl]; exact hbox.reps.len, fun j c v hcj hv => ?_⟩, hbox.one, fun j sz t xs v hcj hv => ?_, fun j c hcj => ?_, hbox.lim⟩
    · obtain ⟨c0, h0, e1 | e1⟩ := key j c hcj
      · rw [e1]; exact hbox.reps.at_ j c0 v h0 hv
      · rw [e1]; exact (hbox.reps.at_ j c0 v h0 hv).flat
    · obtain ⟨c0, h0, e1 | e1⟩ := key j _ hcj
      · subst e1; exact hbox.tags j sz t xs v h0 hv
      · cases c0 <;> simp [PV.flat, PV.retag] at e1
        obtain ⟨_, rfl, _⟩ := e1
        exact ⟨fun e => by simp [Tag.lin] at e, .of_not_lin rfl⟩
    · obtain ⟨c0, h0, e1 | e1⟩ := key j c hcj
      · rw [e1]; exact hbox.noAgg j c0 h0
      · rw [e1]; exact PV.flat_noAgg (hbox.noAgg j c0 h0)
  · rw [List.getElem?_set_ne hi] at hds
    exact h.box i ds hds

/-- The row that one holder may append to is written on. -/
theorem Conc.writeOwn {κ : Kap} {w : World} {B : List (List PV)} (h : Conc κ w B) {t : Tag} {g n : Nat} {vs vs' : Array Value} {e : TypeId} (hg : κ.perm t = some g) (hh : w.heap[g]? = some (.cells vs e (0, 0)))
    (hs : ∀ i, i < κ.lim g → vs'[i]? = vs[i]?) (hn : κ.lim g ≤ n) (hB : ∀ (id : Nat) cs (j : Nat) sz xs, B[id]? = some cs → cs[j]? = some (.list sz (.cell id j) xs) → .cell id j ≠ t) :
    Conc (κ.setLim g n) (w.setRow g vs') B ∧ Ext κ w (κ.setLim g n) (w.setRow g vs') ∧ (∀ t', t' ≠ t → Kept κ w (κ.setLim g n) (w.setRow g vs') t') ∧ (∀ b, b ≠ g → (w.setRow g vs').heap[b]? = w.heap[b]?) := by
  obtain ⟨hgb, hgp, hgm, _⟩ := h.perm t g hg
  have hlt : g < w.heap.size := (Array.getElem?_eq_some_iff.1 hh).1
  have hoth : ∀ b, b ≠ g → (w.setRow g vs').heap[b]? = w.heap[b]? := fun b hb => setRow_other w g b vs' hb
  have hle : Le κ w (κ.setLim g n) (w.setRow g vs') := by
    refine ⟨fun b => ?_, fun b o v ho hv => ?_, fun _ _ h => h⟩
    · simp only [Kap.setLim]; split
      · rename_i hb; rw [hb]; exact hn
      · exact Nat.le_refl _
    · by_cases hb : b = g
      · subst hb
        rw [cell_of_row _ b o vs' e (0, 0) (setRow_heap w b vs vs' e (0, 0) hh), hs o ho, ← cell_of_row w b o vs e (0, 0) hh]
        exact hv
      · simpa [World.cell?, hoth b hb] using hv
  have hkept : ∀ t', t' ≠ t → Kept κ w (κ.setLim g n) (w.setRow g vs') t' := by
    intro t' ht
    refine ⟨rfl, fun g' hg' => ?_⟩
    have hne : g' ≠ g := fun e => ht (h.pinj t' t g (e ▸ hg') hg)
    exact ⟨by simp only [Kap.setLim]; rw [if_neg hne], hoth g' hne⟩
  refine ⟨⟨by rw [setRow_size]; exact h.base, ?_, h.inj, ?_, ?_, h.pinj, ?_, ?_, h.frzLt⟩, ⟨hle, rfl, rfl, by simp, rfl, rfl, rfl, fun b hb hbl => ?_⟩, hkept, hoth⟩
  · intro id b hb
    rw [setRow_size]; exact h.mu id b hb
  · intro id cs hcs
    obtain ⟨b, us, e', hb, hbox⟩ := h.box id cs hcs
    have hbg : b ≠ g := fun e => hgm id (e ▸ hb)
    refine ⟨b, us, e', hb, ⟨(hoth b hbg).trans hbox.heap, hbox.reps.mono hle, hbox.one, fun j sz tt xs v hcj hv => ?_, hbox.noAgg, ?_⟩⟩
    · obtain ⟨h1, h2⟩ := hbox.tags j sz tt xs v hcj hv
      refine ⟨h1, ?_⟩
      cases hl : tt.lin
      · exact .of_not_lin hl
      · have e1 := h1 hl
        subst e1
        exact h2.kept (hkept _ (hB id cs j sz xs hcs hcj))
    · simp only [Kap.setLim]
      rw [if_neg hbg]
      exact hbox.lim
  · intro t' g' hg'
    obtain ⟨a1, a2, a3, cs, e', hh'⟩ := h.perm t' g' hg'
    by_cases hgg : g' = g
    · subst hgg; exact ⟨a1, a2, a3, vs', e, setRow_heap w g' vs vs' e (0, 0) hh⟩
    · exact ⟨a1, a2, a3, cs, e', (hoth g' hgg).trans hh'⟩
  · intro b hb
    simp only [Kap.setLim]
    rw [setRow_size] at hb
    rw [if_neg (by omega)]
    exact h.fresh b hb
  · intro b hb
    simpa using h.prot b hb
  · have hbg : b ≠ g := by
      intro e'
      subst e'
      rcases hb with hb | hb
      · omega
      · exact hgp hb
    exact ⟨hoth b hbg, by simp only [Kap.setLim]; rw [if_neg hbg]⟩

/-- A holder is given the right on a new row. -/
theorem Conc.givePerm {κ : Kap} {w : World} {B : List (List PV)} (h : Conc κ w B) {t : Tag} {g : Nat} (hb : κ.base ≤ g) (hp : ¬ κ.prot g) (hm : ∀ id, κ.mu id ≠ some g) (hh : ∃ cs e, w.heap[g]? = some (.cells cs e (0, 0)))
    (hne : ∀ t', κ.perm t' ≠ some g) (hB : ∀ (id : Nat) cs (j : Nat) sz xs, B[id]? = some cs → cs[j]? = some (.list sz (.cell id j) xs) → .cell id j ≠ t) : Conc (κ.setPerm t (some g)) w B := by
  refine ⟨h.base, h.mu, h.inj, ?_, ?_, ?_, h.fresh, h.prot, h.frzLt⟩
  · intro id cs hcs
    obtain ⟨b, vs, e, hb', hbox⟩ := h.box id cs hcs
    refine ⟨b, vs, e, hb', ⟨hbox.heap, hbox.reps.mono ⟨fun _ => Nat.le_refl _, fun _ _ _ _ h => h, fun _ _ h => h⟩, hbox.one, fun j sz tt xs v hcj hvj => ?_, hbox.noAgg, hbox.lim⟩⟩
    obtain ⟨h1, h2⟩ := hbox.tags j sz tt xs v hcj hvj
    refine ⟨h1, ?_⟩
    cases hl : tt.lin
    · exact .of_not_lin hl
    · have e1 := h1 hl
      subst e1
      refine h2.kept ⟨?_, fun g _ => ⟨rfl, rfl⟩⟩
      simp [Kap.setPerm, hB id cs j sz xs hcs hcj]
  · intro x g' hx
    simp only [Kap.setPerm] at hx
    split at hx
    · simp only [Option.some.injEq] at hx; subst hx; exact ⟨hb, hp, hm, hh⟩
    · exact h.perm x g' hx
  · intro x x' g' hx hx'
    simp only [Kap.setPerm] at hx hx'
    split at hx <;> split at hx'
    · rename_i e1 e2; rw [e1, e2]
    · simp only [Option.some.injEq] at hx; subst hx; exact absurd hx' (hne x')
    · simp only [Option.some.injEq] at hx'; subst hx'; exact absurd hx (hne x)
    · exact h.pinj x x' g' hx hx'

/-- A variable is written. -/
theorem Conc.setBox {κ : Kap} {w : World} {B : List (List PV)} (h : Conc κ w B) {id b : Nat} {cs' : List PV} {vs vs' : Array Value} {e : TypeId} (hid : id < B.length) (hb : κ.mu id = some b) (hh : w.heap[b]? = some (.cells vs e (0, 0))) (hf : ¬ κ.frz id) (hlim : κ.lim b = 0)
    (hr : Reps κ w cs' vs'.toList) (h1 : ∀ v ∈ vs'.toList, v.oneCell' = true) (htg : ∀ (j : Nat) sz t xs v, cs'[j]? = some (.list sz t xs) → vs'[j]? = some v → (t.lin = true → t = .cell id j) ∧ TagOK κ w t sz v)
    (hna : ∀ (j : Nat) c, cs'[j]? = some c → (∀ l, c ≠ .agg l) ∧ (∀ l, c ≠ .tuple l)) :
    Conc κ (w.setRow b vs') (B.set id cs') ∧ Ext κ w κ (w.setRow b vs') ∧ (∀ t, Kept κ w κ (w.setRow b vs') t) ∧ (∀ g, g ≠ b → (w.setRow b vs').heap[g]? = w.heap[g]?) := by
  obtain ⟨m1, m2, m3, m4⟩ := h.mu id b hb
  have hoth : ∀ g, g ≠ b → (w.setRow b vs').heap[g]? = w.heap[g]? := fun g hg => setRow_other w b g vs' hg
  have hle : Le κ w κ (w.setRow b vs') := by
    refine ⟨fun _ => Nat.le_refl _, fun g o v ho hv => ?_, fun _ _ h => h⟩
    have hg : g ≠ b := by intro e'; subst e'; rw [hlim] at ho; omega
    simpa [World.cell?, hoth g hg] using hv
  have hkept : ∀ t, Kept κ w κ (w.setRow b vs') t := fun t => ⟨rfl, fun g hg => ⟨rfl, hoth g fun e' => (h.perm t g hg).2.2.1 id (e' ▸ hb)⟩⟩
  refine ⟨⟨by simpa using h.base, fun i g hg => by simpa using h.mu i g hg, h.inj, ?_, ?_, h.pinj, fun g hg => h.fresh g (by simpa using hg), fun g hg => by simpa using h.prot g hg, by simpa using h.frzLt⟩, ⟨hle, rfl, rfl, by simp, rfl, rfl, rfl, fun g hg hgl => ⟨hoth g ?_, rfl⟩⟩, hkept, hoth⟩
  · intro i ds hds
    by_cases hi : id = i
    · subst hi
      rw [List.getElem?_set_self hid] at hds
      simp only [Option.some.injEq] at hds; subst hds
      refine ⟨b, vs', e, hb, setRow_heap w b vs vs' e (0, 0) hh, hr.mono hle, h1, fun j sz t xs v hcj hv => ⟨(htg j sz t xs v hcj hv).1, (htg j sz t xs v hcj hv).2.kept (hkept t)⟩, hna, fun _ => hlim, fun hf' => absurd hf' hf⟩
    · rw [List.getElem?_set_ne hi] at hds
      obtain ⟨g, us, e', hg, hbox⟩ := h.box i ds hds
      have hgb : g ≠ b := fun e' => hi (h.inj id i b hb (e' ▸ hg))
      exact ⟨g, us, e', hg, hbox.ext hle (hoth g hgb) rfl Iff.rfl fun j => hkept _⟩
  · intro t g hg
    obtain ⟨a1, a2, a3, cs, e', hh'⟩ := h.perm t g hg
    exact ⟨a1, a2, a3, cs, e', (hoth g fun e' => a3 id (e' ▸ hb)).trans hh'⟩
  · intro e'
    subst e'
    rcases hg with hg | hg
    · omega
    · exact m3 hg

/-- A new variable. -/
theorem Conc.pushBox {κ : Kap} {w : World} {B : List (List PV)} (h : Conc κ w B) {cs : List PV} {vs : Array Value} (e : TypeId)
    (hr : Reps κ w cs vs.toList) (h1 : ∀ v ∈ vs.toList, v.oneCell' = true) (htg : ∀ (j : Nat) sz t xs v, cs[j]? = some (.list sz t xs) → vs[j]? = some v → (t.lin = true → t = .cell B.length j) ∧ TagOK κ w t sz v)
    (hna : ∀ (j : Nat) c, cs[j]? = some c → (∀ l, c ≠ .agg l) ∧ (∀ l, c ≠ .tuple l)) :
    Conc (κ.addBox B.length w.heap.size) (w.alloc (.cells vs e)) (B ++ [cs]) ∧ Ext κ w (κ.addBox B.length w.heap.size) (w.alloc (.cells vs e)) ∧ (∀ t, Kept κ w (κ.addBox B.length w.heap.size) (w.alloc (.cells vs e)) t) ∧
      (∀ g, g < w.heap.size → (w.alloc (.cells vs e)).heap[g]? = w.heap[g]?) := by
  have hsz : (w.alloc (.cells vs e)).heap.size = w.heap.size + 1 := by simp
  have hold : ∀ b, b < w.heap.size → (w.alloc (.cells vs e)).heap[b]? = w.heap[b]? := fun b hb => heap_alloc_old w _ hb
  have hmuN : κ.mu B.length = none := by
    cases hm : κ.mu B.length with
    | none => rfl
    | some b => have := (h.mu _ _ hm).1; omega
  have hmu : ∀ id b, κ.mu id = some b → (κ.addBox B.length w.heap.size).mu id = some b := by
    intro id b hb
    simp only [Kap.addBox]
    rw [if_neg (by intro e'; subst e'; rw [hmuN] at hb; cases hb)]
    exact hb
  have hle : Le κ w (κ.addBox B.length w.heap.size) (w.alloc (.cells vs e)) := by
    refine ⟨fun _ => Nat.le_refl _, fun b o v _ hv => ?_, hmu⟩
    have hb := World.block_lt_of_cell? w _ hv
    simpa [World.cell?, hold b hb] using hv
  have hkept : ∀ t, Kept κ w (κ.addBox B.length w.heap.size) (w.alloc (.cells vs e)) t := fun t => ⟨rfl, fun g hg => by
    obtain ⟨_, _, _, cs', e', hh⟩ := h.perm t g hg
    exact ⟨rfl, hold g (Array.getElem?_eq_some_iff.1 hh).1⟩⟩
  refine ⟨⟨by rw [hsz]; exact Nat.le_succ_of_le h.base, ?_, ?_, ?_, ?_, h.pinj, fun b hb => h.fresh b (by omega), fun b hb => by have := h.prot b hb; omega, fun id hid => by have := h.frzLt id hid; simp; omega⟩,
    ⟨hle, rfl, rfl, by omega, rfl, rfl, rfl, fun b hb hbl => ⟨hold b hbl, rfl⟩⟩, hkept, hold⟩
  · intro id b hb
    simp only [Kap.addBox] at hb
    split at hb
    · rename_i hid
      simp only [Option.some.injEq] at hb; subst hb; subst hid
      exact ⟨by simp, h.base, fun hp => by have := h.prot _ hp; omega, by omega⟩
    · obtain ⟨a1, a2, a3, a4⟩ := h.mu id b hb
      exact ⟨by simp; omega, a2, a3, by omega⟩
  · intro i j b hi hj
    simp only [Kap.addBox] at hi hj
    split at hi <;> split at hj
    · rename_i e1 e2; rw [e1, e2]
    · simp only [Option.some.injEq] at hi; subst hi
      have := (h.mu _ _ hj).2.2.2; omega
    · simp only [Option.some.injEq] at hj; subst hj
      have := (h.mu _ _ hi).2.2.2; omega
    · exact h.inj i j b hi hj
  · intro id ds hds
    rw [List.getElem?_append] at hds
    split at hds
    · rename_i hid
      obtain ⟨b, us, e', hb, hbox⟩ := h.box id ds hds
      exact ⟨b, us, e', hmu id b hb, hbox.ext hle (hold b (h.mu id b hb).2.2.2) rfl Iff.rfl fun j => hkept _⟩
    · rename_i hid
      have hi0 : id = B.length := by
        have := (List.getElem?_eq_some_iff.1 hds).1
        simp at this
        omega
      subst hi0
      simp at hds
      subst hds
      refine ⟨w.heap.size, vs, e, by simp [Kap.addBox], heap_alloc_new w _, hr.mono hle, h1, fun j sz t xs v hcj hv => ⟨(htg j sz t xs v hcj hv).1, (htg j sz t xs v hcj hv).2.kept (hkept t)⟩, hna, fun _ => h.fresh _ (Nat.le_refl _), fun hf => ?_⟩
      have := h.frzLt _ hf; omega
  · intro t g hg
    obtain ⟨a1, a2, a3, cs', e', hh⟩ := h.perm t g hg
    have hlt := (Array.getElem?_eq_some_iff.1 hh).1
    refine ⟨a1, a2, fun id hid => ?_, cs', e', (hold g hlt).trans hh⟩
    simp only [Kap.addBox] at hid
    split at hid
    · simp only [Option.some.injEq] at hid; omega
    · exact a3 id hid
end Go.Q
