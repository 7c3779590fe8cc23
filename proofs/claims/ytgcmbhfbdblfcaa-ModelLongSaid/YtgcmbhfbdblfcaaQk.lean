/-
  Code and functions: the evaluator tells what the model does.
-/
import Derived.Test.YtgcmbhfbdblfcaaQj
import Derived.LoopN
set_option linter.unusedVariables false
set_option linter.unusedSimpArgs false
namespace Go.Q

/-! ### Variables that die -/
theorem under_of_cells {n : Nat} {x : PV} (h : ∀ c ∈ x.cells, c.under n = true) : x.under n = true := by
  cases x with
  | agg cs => simpa [PV.cells, PV.under, PV.underL_eq] using h
  | _ => simpa [PV.cells] using h

theorem Rep.under {κ : Kap} {w : World} {n : Nat} (hn : ∀ id b, κ.mu id = some b → id < n) {p : PV} {v : Value} (h : Rep κ w p v) : p.under n = true := by
  have pieces : ∀ {cs : List PV} {vs : List Value}, cs.length = vs.length → (∀ (i : Nat) c v, cs[i]? = some c → vs[i]? = some v → c.under n = true) → ∀ c ∈ cs, c.under n = true := by
    intro cs vs hl ih c hc
    obtain ⟨i, hi, rfl⟩ := List.getElem_of_mem hc
    exact ih i cs[i] (vs[i]'(by omega)) (List.getElem?_eq_getElem hi) (List.getElem?_eq_getElem (by omega))
  induction h with
  | any v => simp [PV.under]
  | sc v => simp [PV.under]
  | list sz t xs a cap b off vs hpos hok hcap hmax hfull ha hl hc hr ih =>
    simp only [PV.under, PV.underL_eq, List.all_eq_true]
    intro x hx
    exact under_of_cells fun c hc => pieces hl ih c (List.mem_flatMap.2 ⟨x, hx, hc⟩)
  | arr id n b h hn' => simp [PV.under, hn _ _ h]
  | ptr id off b h => simp [PV.under, hn _ _ h]
  | eptr cs b off vs hok hl hc hr ih => simp only [PV.under, PV.underL_eq, List.all_eq_true]; exact pieces hl ih
  | fn f cap vs hl hr ih => simp only [PV.under, PV.underL_eq, List.all_eq_true]; exact pieces hl ih
  | agg cs vs hl hr ih => simp only [PV.under, PV.underL_eq, List.all_eq_true]; exact pieces hl ih
  | tuple cs vs hl hr ih => simp only [PV.under, PV.underL_eq, List.all_eq_true]; exact pieces hl ih

/-- The view from which the variables from 'n' on are gone. -/
def cutK (κ : Kap) (n : Nat) : Kap := { κ.trunc n with frz := fun i => κ.frz i ∧ i < n }

theorem cutK_le (κ : Kap) (w : World) (n : Nat) : Le (κ.trunc n) w (cutK κ n) w := ⟨fun _ => Nat.le_refl _, fun _ _ _ _ h => h, fun _ _ h => h⟩
theorem Rep.cutOff {κ : Kap} {w : World} {n : Nat} {p : PV} {v : Value} (h : Rep κ w p v) (hp : p.under n = true) : Rep (cutK κ n) w p v := (h.trunc hp).mono (cutK_le ..)
theorem cutK_mu {κ : Kap} {n id b : Nat} (h : (cutK κ n).mu id = some b) : id < n ∧ κ.mu id = some b := by
  simp only [cutK, Kap.trunc] at h
  split at h
  · rename_i hid; exact ⟨hid, h⟩
  · cases h
theorem cutK_mu_of {κ : Kap} {n id b : Nat} (h : κ.mu id = some b) (hid : id < n) : (cutK κ n).mu id = some b := by simp [cutK, Kap.trunc, hid, h]
theorem cutK_perm {κ : Kap} {n : Nat} {t : Tag} {g : Nat} (h : (cutK κ n).perm t = some g) : κ.perm t = some g := by
  cases t with
  | cell id off =>
    simp only [cutK, Kap.trunc] at h
    split at h
    · exact h
    · cases h
  | _ => exact h
theorem cutK_kept (κ : Kap) (w : World) (n : Nat) {t : Tag} (h : ∀ id off, t = .cell id off → id < n) : Kept κ w (cutK κ n) w t := by
  refine ⟨?_, fun g hg => ⟨rfl, rfl⟩⟩
  cases t with
  | cell id off => simp [cutK, Kap.trunc, h id off rfl]
  | _ => rfl

theorem cut_conc {κ0 κ : Kap} {w0 w : World} {B0 B : List (List PV)} {n : Nat} {nm mods : List Nat} (h0 : Conc κ0 w0 B0) (h : Conc κ w B) (hn : n = B0.length) (hg : GrowB nm B0 B) (hm : ∀ id ∈ nm, id ∈ mods) :
    Conc (cutK κ n) w (cutB n mods B) := by
  have hlen : (cutB n mods B).length = n := by rw [cutB_len]; have := hg.1; omega
  refine ⟨h.base, fun id b hb => ?_, fun i j b hi hj => ?_, fun id cs2 hcs2 => ?_, fun t g hg => ?_, fun t t' g hg hg' => ?_, h.fresh, h.prot, fun id hid => ?_⟩
  · obtain ⟨h1, h2⟩ := cutK_mu hb
    obtain ⟨_, h4, h5, h6⟩ := h.mu id b h2
    exact ⟨by omega, h4, h5, h6⟩
  · exact h.inj i j b (cutK_mu hi).2 (cutK_mu hj).2
  · have hid : id < n := by rw [← hlen]; exact (List.getElem?_eq_some_iff.1 hcs2).1
    obtain ⟨g, e, g1, g2, g3, g4⟩ := cutB_get n mods B id hid
    rw [e] at hcs2
    obtain ⟨cs, hcs, rfl⟩ := Option.map_eq_some_iff.1 hcs2
    obtain ⟨b, vs, ty, hb, hbox⟩ := h.box id cs hcs
    have hund : ∀ c ∈ cs, (g c).under n = true := by
      by_cases hin : id ∈ mods
      · exact fun c _ => g3 hin c
      · intro c hc
        rw [g4 hin]
        have h1 := hg.2 n (by omega) id hid (fun hh => hin (hm id hh)) (by
          have hlt : id < B0.length := by omega
          have e0 : B0[id]? = some B0[id] := List.getElem?_eq_getElem hlt
          obtain ⟨b0, vs0, ty0, _, hbox0⟩ := h0.box id _ e0
          rw [List.getD_eq_getElem?_getD, e0]
          intro c hc
          obtain ⟨i, hi, rfl⟩ := List.getElem_of_mem hc
          have hl0 : B0[id].length = vs0.toList.length := hbox0.reps.len
          exact Rep.under (fun id b hb => by have := (h0.mu id b hb).1; omega) (hbox0.reps.at_ i _ (vs0.toList[i]'(by simp at hl0 hi ⊢; omega)) (List.getElem?_eq_getElem hi) (List.getElem?_eq_getElem _)))
        rw [List.getD_eq_getElem?_getD, hcs] at h1
        exact h1 c hc
    refine ⟨b, vs, ty, cutK_mu_of hb hid, hbox.heap, ⟨by simpa using hbox.reps.len, fun j c v hc hv => ?_⟩, hbox.one, fun j sz t xs v hj hv => ?_, fun j c hc => ?_, fun hf => hbox.lim.1 fun hh => hf ⟨hh, hid⟩, fun hf => hbox.lim.2 hf.1⟩
    · rw [List.getElem?_map] at hc
      obtain ⟨c0, hc0, rfl⟩ := Option.map_eq_some_iff.1 hc
      have hr : Rep κ w (g c0) v := by
        rcases g1 c0 with e1 | e1
        · rw [e1]; exact hbox.reps.at_ j c0 v hc0 hv
        · rw [e1]; exact .any v
      exact hr.cutOff (hund c0 (List.mem_of_getElem? hc0))
    · rw [List.getElem?_map] at hj
      obtain ⟨c0, hc0, e1⟩ := Option.map_eq_some_iff.1 hj
      have : c0 = .list sz t xs := by
        rcases g1 c0 with e2 | e2
        · rw [← e2]; exact e1
        · rw [e2] at e1; cases e1
      subst this
      obtain ⟨k1, k2⟩ := hbox.tags j sz t xs v hc0 hv
      refine ⟨k1, ?_⟩
      cases hl : t.lin
      · exact .of_not_lin hl
      · have ht := k1 hl
        subst ht
        exact k2.kept (cutK_kept κ w n fun i o e => by cases e; exact hid)
    · rw [List.getElem?_map] at hc
      obtain ⟨c0, hc0, rfl⟩ := Option.map_eq_some_iff.1 hc
      rcases g1 c0 with e2 | e2
      · rw [e2]; exact hbox.noAgg j c0 hc0
      · rw [e2]; exact ⟨fun l e => (by cases e), fun l e => (by cases e)⟩
  · obtain ⟨h1, h2, h3, h4⟩ := h.perm t g (cutK_perm hg)
    exact ⟨h1, h2, fun id hid => h3 id (cutK_mu hid).2, h4⟩
  · exact h.pinj t t' g (cutK_perm hg) (cutK_perm hg')
  · rw [hlen]; exact hid.2

theorem maskF_get : ∀ (bs : List Bool) (ps : List PV) (i : Nat), (maskF bs ps)[i]? = (ps[i]?).map fun p => if bs.getD i false = true then PV.any else p
  | [], ps, i => by cases h : ps[i]? <;> simp [maskF, h]
  | _ :: _, [], i => by simp [maskF]
  | true :: bs, p :: ps, 0 => by simp [maskF]
  | false :: bs, p :: ps, 0 => by simp [maskF]
  | true :: bs, p :: ps, i + 1 => by simpa [maskF] using maskF_get bs ps i
  | false :: bs, p :: ps, i + 1 => by simpa [maskF] using maskF_get bs ps i
theorem maskF_length : ∀ (bs : List Bool) (ps : List PV), (maskF bs ps).length = ps.length
  | [], ps => by simp [maskF]
  | _ :: _, [] => by simp [maskF]
  | true :: bs, p :: ps => by simp [maskF, maskF_length bs ps]
  | false :: bs, p :: ps => by simp [maskF, maskF_length bs ps]
theorem mask_rep {κ : Kap} {w : World} {q : PV} {v : Value} (b : Bool) (h : Rep κ w q v ∧ TagsOK κ w q v) : Rep κ w (if b = true then PV.any else q) v ∧ TagsOK κ w (if b = true then PV.any else q) v := by
  split
  · exact ⟨.any v, .of_no_occ fun sz t u ho => by cases ho⟩
  · exact h
theorem forget_ok {Z : Nat → Prop} {κ : Kap} {w : World} {s : St} {a : Act} (kill : List Bool) (h : Inv Z κ w s a) : Inv Z κ w (forget kill s) a := by
  refine ⟨h.conc, ?_, h.frz, h.defers⟩
  refine ⟨by rw [forget, maskF_length]; exact h.frame.len, fun d q v hq hv => ?_⟩
  simp only [forget] at hq
  rw [maskF_get] at hq
  obtain ⟨q0, hq0, rfl⟩ := Option.map_eq_some_iff.1 hq
  exact mask_rep _ (h.frame.at_ d q0 v hq0 hv)

theorem endRound_ok {Z : Nat → Prop} {κ κ' : Kap} {w w' : World} {s s' : St} {a a' : Act} (kill : List Bool) (h0 : Inv Z κ w s a) (h : Inv Z κ' w' s' a') (hm : Moved κ w s s' κ' w') (hg : Grow s s') :
    Inv Z (cutK κ' s.B.length) w' (endRound kill s.B.length s.mods s') a' ∧ Moved κ w s (endRound kill s.B.length s.mods s') (cutK κ' s.B.length) w' := by
  obtain ⟨nm, em, g⟩ := hg
  obtain ⟨nm', em', p⟩ := hm.ex
  have : nm' = nm := List.append_cancel_right (em'.symm.trans em)
  subst this
  refine ⟨⟨?_, ?_, fun id hid => ?_, h.defers⟩, ⟨nm'.filter (· < s.B.length), by simp only [endRound]; rw [em, newM_app], ?_, fun id hid hn j => ?_, fun id b hn hb => p.boxes id b (fun hh => hn (List.mem_filter.2 ⟨hh, by simpa using (h0.conc.mu id b hb).1⟩)) hb⟩⟩
  · exact cut_conc h0.conc h.conc rfl g fun id hid => by rw [em]; exact List.mem_append_left _ hid
  · have h1 : FrameRel (cutK κ' s.B.length) w' (((maskF kill s'.f).map fun p => if p.under s.B.length = true then p else PV.any).map (PV.retag (Tag.off fun h => match h with | .cell id _ => decide (s.B.length ≤ id) | _ => false))) a'.tmps := by
      refine ⟨by simpa [maskF_length] using h.frame.len, fun d q v hq hv => ?_⟩
      rw [List.getElem?_map, List.getElem?_map, maskF_get] at hq
      obtain ⟨q1, hq1, rfl⟩ := Option.map_eq_some_iff.1 hq
      obtain ⟨q2, hq2, rfl⟩ := Option.map_eq_some_iff.1 hq1
      obtain ⟨q3, hq3, rfl⟩ := Option.map_eq_some_iff.1 hq2
      obtain ⟨hr, ht⟩ := mask_rep (kill.getD d false) (h.frame.at_ d q3 v hq3 hv)
      generalize (if kill.getD d false = true then PV.any else q3) = q0 at hr ht
      split
      case isFalse => exact ⟨by simp only [PV.retag]; exact .any v, .of_no_occ fun sz t u ho => by simp only [PV.retag] at ho; cases ho⟩
      case isTrue =>
        rename_i hcond
        refine ⟨(hr.cutOff hcond).retag _ fun t ht => ?_, fun sz t u ho => ?_⟩
        · unfold Tag.off at ht
          split at ht
          · cases ht
          · exact ht
        · obtain ⟨t0, h0, rfl⟩ := Occ.of_retag _ ho q0 rfl
          unfold Tag.off
          split
          · exact .of_not_lin rfl
          · rename_i hD
            refine (ht sz t0 u h0).kept (cutK_kept κ' w' _ fun id off e => ?_)
            subst e
            simpa using hD
    exact h1
  · rcases h.frz id hid.1 with h1 | h1
    · exact .inl (List.mem_filter.2 ⟨h1, by simpa using hid.2⟩)
    · exact .inr h1
  · exact ⟨⟨p.ext.le.lim, p.ext.le.cell, fun id b hb => cutK_mu_of (p.ext.le.mu id b hb) (h0.conc.mu id b hb).1⟩, p.ext.base, p.ext.prot, p.ext.size, p.ext.os, p.ext.tape, p.ext.output, p.ext.low⟩
  · exact (p.kept id hid (fun hh => hn (List.mem_filter.2 ⟨hh, by simpa using hid⟩)) j).trans (cutK_kept κ' w' _ fun i o e => by cases e; exact hid)

theorem Grow.len {s s' : St} (h : Grow s s') : s.B.length ≤ s'.B.length := by
  obtain ⟨nm, e, g⟩ := h
  exact g.1

/-! ### Code -/
def Ex.out : Ex → Exit
  | .normal => .normal
  | .exit id => .exit id
  | .ret => .ret

theorem code_ok {C : Cfg} (hC : CfgOK C) {call : FuncId → List PV → List (List PV) → Option Out} (hcall : CallsOK C call) (hg : CallGrow call) {fid : Nat} {Z : Nat → Prop} : ∀ (c : Code) (bid : Nat) (hpl : plansB (C.plan fid) c = true) {κ : Kap} {w : World} {s s' : St} {ex : Ex} {a : Act},
    evalCode C call fid c bid s = some (ex, s') → Inv Z κ w s a → (∀ id ∈ s'.mods, ¬ Z id) → (∀ id, Z id → id < s.B.length) → ∀ {Q : Exit → Act → World → Prop}, (∀ a' κ' w', Inv Z κ' w' s' a' → Moved κ w s s' κ' w' → Q ex.out a' w') → c.wp C.P Q a w := by
  intro c
  induction c with
  | skip =>
    intro bid hpl κ w s s' ex a h hi hZ hZn Q hQ
    simp only [evalCode, Option.some.injEq, Prod.mk.injEq] at h
    obtain ⟨rfl, rfl⟩ := h
    exact wp_skip (hQ a κ w hi (.refl ..))
  | label l =>
    intro bid hpl κ w s s' ex a h hi hZ hZn Q hQ
    simp only [evalCode, Option.some.injEq, Prod.mk.injEq] at h
    obtain ⟨rfl, rfl⟩ := h
    exact wp_label (hQ a κ w hi (.refl ..))
  | region id ops draw =>
    intro bid hpl κ w s s' ex a h hi hZ hZn Q hQ
    simp only [evalCode] at h
    obtain ⟨s1, h1, h2⟩ := Option.map_eq_some_iff.1 h
    simp only [Prod.mk.injEq] at h2
    obtain ⟨rfl, rfl⟩ := h2
    split at h1
    · rename_i hd
      subst hd
      exact runDraw_ok hC hcall hg (by simpa [plansB] using hpl) h1 hi hZ hQ
    · rename_i hd
      have : draw = false := by simpa using hd
      subst this
      exact wp_region_list (runOps_ok hC hcall hg _ h1 hi hZ hQ)
  | seq a b iha ihb =>
    intro bid hpl κ w s s' ex act h hi hZ hZn Q hQ
    simp only [evalCode] at h
    refine wp_seq ?_
    split at h
    · rename_i s1 h1
      have g1 := evalCode_grow hg _ _ h1
      have g2 := evalCode_grow hg _ _ h
      exact iha bid (Bool.and_eq_true_iff.1 hpl).1 h1 hi (fun id hid => hZ id (g2.mods_sub id hid)) hZn fun a' κ' w' hi' hm => ihb bid (Bool.and_eq_true_iff.1 hpl).2 h hi' hZ (fun id hz => Nat.lt_of_lt_of_le (hZn id hz) g1.len) fun a2 κ2 w2 hi2 hm2 => hQ a2 κ2 w2 hi2 (hm.trans hm2 g1)
    · rename_i hne
      refine iha bid (Bool.and_eq_true_iff.1 hpl).1 h hi hZ hZn fun a' κ' w' hi' hm => ?_
      have := hQ a' κ' w' hi' hm
      cases ex with
      | normal => exact absurd h (hne s')
      | exit id => exact this
      | ret => exact this
  | cond c a b iha ihb =>
    intro bid hpl κ w s s' ex act h hi hZ hZn Q hQ
    simp only [evalCode] at h
    split at h
    · rename_i t ht
      have hv := (hi.frame.opv c).1
      rw [ht] at hv
      refine wp_cond hv.sc_inv ?_
      cases t
      · simp only [Bool.false_eq_true, if_false] at h ⊢
        exact ihb bid (Bool.and_eq_true_iff.1 hpl).2 h hi hZ hZn hQ
      · simp only [if_true] at h ⊢
        exact iha bid (Bool.and_eq_true_iff.1 hpl).1 h hi hZ hZn hQ
    · cases h
  | block id body ih =>
    intro bid hpl κ w s s' ex a h hi hZ hZn Q hQ
    simp only [evalCode] at h
    refine wp_block ?_
    split at h
    · rename_i j s1 h1
      split at h
      · rename_i hj
        simp only [Option.some.injEq, Prod.mk.injEq] at h
        obtain ⟨rfl, rfl⟩ := h
        refine ih id hpl h1 hi hZ hZn fun a' κ' w' hi' hm => ?_
        have := hQ a' κ' w' hi' hm
        simp only [Ex.out, Exit.inBlock, hj, if_true] at this ⊢
        exact this
      · rename_i hj
        simp only [Option.some.injEq, Prod.mk.injEq] at h
        obtain ⟨rfl, rfl⟩ := h
        refine ih id hpl h1 hi hZ hZn fun a' κ' w' hi' hm => ?_
        have := hQ a' κ' w' hi' hm
        simp only [Ex.out, Exit.inBlock, hj, if_false] at this ⊢
        exact this
    · rename_i hne
      refine ih id hpl h hi hZ hZn fun a' κ' w' hi' hm => ?_
      have := hQ a' κ' w' hi' hm
      cases ex with
      | normal => exact this
      | exit j => exact absurd h (hne j s')
      | ret => exact this
  | loop body ih =>
    intro bid hpl κ w s s' ex a h hi hZ hZn Q hQ
    simp only [evalCode] at h
    obtain ⟨n, hn⟩ := loopW_some h
    refine wp_loop_rounds n ?_
    clear h
    replace hi := forget_ok (C.kill fid bid) hi
    have hZn0 : ∀ id, Z id → id < (forget (C.kill fid bid) s).B.length := hZn
    clear hZn
    have hQ0 : ∀ (a' : Act) (κ' : Kap) (w' : World), Inv Z κ' w' s' a' → Moved κ w (forget (C.kill fid bid) s) s' κ' w' → Q ex.out a' w' := fun a' κ' w' h1 h2 => hQ a' κ' w' h1 ⟨h2.ex⟩
    clear hQ
    obtain ⟨s0, hs0⟩ : ∃ t, t = forget (C.kill fid bid) s := ⟨_, rfl⟩
    rw [← hs0] at hi hn hQ0 hZn0
    clear hs0 s
    obtain ⟨s, hs⟩ : ∃ t, t = s0 := ⟨_, rfl⟩
    subst hs
    have hQ := hQ0
    clear hQ0
    have hZn := hZn0
    clear hZn0
    have growBody : ∀ s ex s', (match evalCode C call fid body bid s with | some (.normal, s') => some (Ex.normal, endRound (C.kill fid bid) s.B.length s.mods s') | r => r) = some (ex, s') → Grow s s' := by
      intro s ex s' h
      split at h
      · rename_i s1 h1
        simp only [Option.some.injEq, Prod.mk.injEq] at h
        obtain ⟨_, rfl⟩ := h
        exact endRound_grow (evalCode_grow hg _ _ h1)
      · exact evalCode_grow hg _ _ h
    induction n generalizing κ w s a with
    | zero => simp only [loopN] at hn; cases hn
    | succ n ihn =>
      simp only [loopN] at hn
      rw [rounds_succ]
      split at hn
      · rename_i s2 h2
        have g2 := growBody _ _ _ h2
        have g3 := loopN_grow growBody n hn
        split at h2
        · rename_i s1 h1
          simp only [Option.some.injEq, Prod.mk.injEq] at h2
          obtain ⟨_, rfl⟩ := h2
          have hz1 : ∀ id ∈ s1.mods, ¬ Z id := by
            intro id hid hz
            by_cases hlt : id < s.B.length
            · refine hZ id (g3.mods_sub id ?_) hz
              obtain ⟨nm, e, _⟩ := evalCode_grow hg _ _ h1
              rw [e] at hid
              simp only [endRound]
              rw [e, newM_app]
              rcases List.mem_append.1 hid with hh | hh
              · exact List.mem_append_left _ (List.mem_filter.2 ⟨hh, by simpa using hlt⟩)
              · exact List.mem_append_right _ hh
            · exact hlt (hZn id hz)
          refine ih bid hpl h1 hi hz1 hZn fun a' κ' w' hi' hm => ?_
          obtain ⟨hi2, hm2⟩ := endRound_ok (C.kill fid bid) hi hi' hm (evalCode_grow hg _ _ h1)
          exact ihn _ hn hi2 (fun a3 κ3 w3 hi3 hm3 => hQ a3 κ3 w3 hi3 (hm2.trans hm3 g2)) (fun id hz => Nat.lt_of_lt_of_le (hZn id hz) g2.len)
        · rename_i hne
          exact absurd h2 (hne s2)
      · rename_i hne
        split at hn
        · rename_i s1 h1
          simp only [Option.some.injEq, Prod.mk.injEq] at hn
          obtain ⟨rfl, rfl⟩ := hn
          exact absurd (by simp [h1]) (hne (endRound (C.kill fid bid) s.B.length s.mods s1))
        · rename_i hne2
          refine ih bid hpl hn hi hZ hZn fun a' κ' w' hi' hm => ?_
          have := hQ a' κ' w' hi' hm
          cases ex with
          | normal => exact absurd hn (hne2 s')
          | exit id => exact this
          | ret => exact this
  | exit id =>
    intro bid hpl κ w s s' ex a h hi hZ hZn Q hQ
    simp only [evalCode, Option.some.injEq, Prod.mk.injEq] at h
    obtain ⟨rfl, rfl⟩ := h
    exact wp_exit (hQ a κ w hi (.refl ..))
  | ret =>
    intro bid hpl κ w s s' ex a h hi hZ hZn Q hQ
    simp only [evalCode, Option.some.injEq, Prod.mk.injEq] at h
    obtain ⟨rfl, rfl⟩ := h
    exact wp_ret (hQ a κ w hi (.refl ..))
  | _ => intros; rename_i h _ _ _ _ _; simp only [evalCode] at h; cases h
end Go.Q
