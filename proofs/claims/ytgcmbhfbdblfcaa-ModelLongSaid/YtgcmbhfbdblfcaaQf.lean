/-
  Operations on memory, one by one.
-/
import Derived.Test.YtgcmbhfbdblfcaaQe
set_option linter.unusedVariables false
set_option linter.unusedSimpArgs false
set_option linter.unnecessarySimpa false
namespace Go.Q

theorem TagOK.moved {κ : Kap} {w : World} {t t' : Tag} {sz : Nat} {v : Value} (h : TagOK κ w t sz v) (ht : t.lin = true) (ht' : t'.lin = true) : TagOK ((κ.setPerm t none).setPerm t' (κ.perm t)) w t' sz v := by
  have h0 : ∀ a len cap, v = .slice a len cap → match κ.perm t with
      | none => cap = len
      | some g => a = some ⟨g, 0, none⟩ ∧ len * sz = κ.lim g ∧ ∃ cs e, w.heap[g]? = some (.cells cs e (0, 0)) ∧ cap * sz ≤ cs.size := by
    cases t <;> simp [Tag.lin] at ht <;> exact h
  cases t' <;> simp [Tag.lin] at ht' <;>
  · intro a len cap hv
    have h1 := h0 a len cap hv
    simp only [Kap.setPerm, if_true]
    exact h1

theorem TagOK.ofFull {κ : Kap} {w : World} {t' : Tag} {sz : Nat} {v : Value} (h : ∀ a len cap, v = .slice a len cap → cap = len) (hp : κ.perm t' = none) : TagOK κ w t' sz v := by
  cases t' with
  | ro => trivial
  | full => trivial
  | slot d k => intro a len cap hv; rw [hp]; exact h a len cap hv
  | cell d k => intro a len cap hv; rw [hp]; exact h a len cap hv

theorem Le.perm {κ κ' : Kap} {w : World} (h1 : κ'.lim = κ.lim) (h2 : κ'.mu = κ.mu) : Le κ w κ' w :=
  ⟨fun b => by rw [h1]; exact Nat.le_refl _, fun _ _ _ _ h => h, fun id b h => by rw [h2]; exact h⟩
theorem Ext.perm {κ κ' : Kap} {w : World} (h1 : κ'.lim = κ.lim) (h2 : κ'.mu = κ.mu) (h3 : κ'.base = κ.base) (h4 : κ'.prot = κ.prot) : Ext κ w κ' w :=
  ⟨.perm h1 h2, h3, h4, Nat.le_refl _, rfl, rfl, rfl, fun _ _ _ => ⟨rfl, by rw [h1]⟩⟩

theorem FrameRel.off {κ κ' : Kap} {w w' : World} {s : St} {tmps : Array Value} (h : FrameRel κ w s.f tmps) (k : Le κ w κ' w') (D : Tag → Bool)
    (hD : ∀ t, t.lin = true → D t = false → Kept κ w κ' w' t) : FrameRel κ' w' (s.off D).f tmps := h.ext k D hD

theorem slot_ne_cell {d k id off : Nat} : Tag.cell id off ≠ Tag.slot d k := by intro h; cases h

theorem Rep.setTag {κ : Kap} {w : World} {sz : Nat} {t t' : Tag} {xs : List PV} {v : Value} (h : Rep κ w (.list sz t xs) v) (ht : t' ≠ .full) : Rep κ w (.list sz t' xs) v := by
  have := h.retag (fun _ => t') (fun _ e => absurd e ht)
  simpa [PV.retag] using this
theorem Rep.full_cap {κ : Kap} {w : World} {sz : Nat} {xs : List PV} {v : Value} (h : Rep κ w (.list sz .full xs) v) : ∀ a len cap, v = .slice a len cap → cap = len := by
  intro a len cap hv
  cases h with
  | list _ _ _ a' cap' b off vs hpos hok hcap hmax hfull ha hl hc hr =>
    cases hv
    exact hfull rfl

theorem assign_ok (C : Cfg) {κ : Kap} {w : World} {s s' : St} {a : Act} {d : Nat} {t : TypeId} {x : Operand} {p : PV} (h : assignOp C d s t (opv s.f x) = (p, s')) (hc : Conc κ w s.B) (hf : FrameRel κ w s.f a.tmps) (m : Sem Next) (hm : ∀ w2, m.run C.P w2 = .ok (.value (a.eval x)) w2) :
    ∃ κ', Steps_ C κ w s s' a m p (a.eval x) κ' w [] := by
  unfold assignOp at h
  have hx := hf.opv x
  obtain ⟨hn1, hn2⟩ := norm_ok C t hx.1 hx.2
  split at h
  · rename_i sz xs hn
    rw [hn] at hn1 hn2
    cases h
    have hle : Le κ w ((κ.setPerm (.slot d 0) none).setPerm (.slot d 0) none) w := .perm rfl rfl
    refine ⟨(κ.setPerm (.slot d 0) none).setPerm (.slot d 0) none, .inl (hm w), .perm rfl rfl rfl rfl, hc.movePerm _ _ none (.inl rfl) (fun id cs j sz xs _ _ => ⟨slot_ne_cell, slot_ne_cell⟩), ?_, ?_, ?_, rfl, ?_, fun _ _ _ _ => rfl, fun _ h => .inl h, fun _ h => h⟩
    · refine FrameRel.off hf hle _ fun t ht hD => ⟨?_, fun _ _ => ⟨rfl, rfl⟩⟩
      simp only [Kap.setPerm]
      have : t ≠ .slot d 0 := by intro e; subst e; simp at hD
      simp [this]
    · exact (hn1.mono hle).setTag (t' := .slot d 0) (by intro e; cases e)
    · intro sz' t' u ho
      cases ho
      exact .ofFull hn1.full_cap (by simp [Kap.setPerm])
    · intro id _ _ j
      refine ⟨?_, fun _ _ => ⟨rfl, rfl⟩⟩
      simp [Kap.setPerm]
  · rename_i sz d0 k0 xs hn
    rw [hn] at hn1 hn2
    cases h
    have hle : Le κ w ((κ.setPerm (.slot d0 k0) none).setPerm (.slot d 0) (κ.perm (.slot d0 k0))) w := .perm rfl rfl
    refine ⟨(κ.setPerm (.slot d0 k0) none).setPerm (.slot d 0) (κ.perm (.slot d0 k0)), .inl (hm w), .perm rfl rfl rfl rfl, hc.movePerm _ _ _ (.inr rfl) (fun id cs j sz xs _ _ => ⟨slot_ne_cell, slot_ne_cell⟩), ?_, ?_, ?_, rfl, ?_, fun _ _ _ _ => rfl, fun _ h => .inl h, fun _ h => h⟩
    · refine FrameRel.off hf hle _ fun t ht hD => ⟨?_, fun _ _ => ⟨rfl, rfl⟩⟩
      simp only [Kap.setPerm]
      have h1 : t ≠ .slot d 0 := by intro e; subst e; simp at hD
      have h2 : t ≠ .slot d0 k0 := by intro e; subst e; simp at hD
      simp [h1, h2]
    · exact (hn1.mono hle).setTag (t' := .slot d 0) (by intro e; cases e)
    · intro sz' t' u ho
      cases ho
      exact (hn2 _ _ _ .here).moved rfl rfl
    · intro id _ _ j
      refine ⟨?_, fun _ _ => ⟨rfl, rfl⟩⟩
      simp [Kap.setPerm]
  · cases h
    exact ⟨κ, .inl (hm w), .refl _ _, hc, hf, hn1, hn2, rfl, fun _ _ _ _ => .refl _ _ _, fun _ _ _ _ => rfl, fun _ h => .inl h, fun _ h => h⟩

theorem okCell_noAgg {c : PV} (h : c.okCell = true) : (∀ l, c ≠ .agg l) ∧ (∀ l, c ≠ .tuple l) := by cases c <;> simp [PV.okCell] at h ⊢
theorem okCell_tag {sz : Nat} {t : Tag} {xs : List PV} (h : (PV.list sz t xs).okCell = true) : t.lin = false := by simpa [PV.okCell] using h

theorem run_newVar {P : Program} (e : TypeId) (v : Value) (w : World) : (newVar e v).run P w = .ok ⟨w.heap.size, 0, none⟩ (w.alloc (.cells v.cells e)) := by
  simp [newVar, newRow]

theorem Reps.ones {κ : Kap} {w : World} {cs : List PV} {vs : List Value} (h : Reps κ w cs vs) (k : ∀ c ∈ cs, c.okCell = true) : ∀ v ∈ vs, v.oneCell' = true := by
  intro v hv
  obtain ⟨i, hi⟩ := List.mem_iff_getElem?.1 hv
  have hil : i < cs.length := by have := (List.getElem?_eq_some_iff.1 hi).1; rw [h.len]; exact this
  have hc : cs[i]? = some cs[i] := List.getElem?_eq_getElem hil
  exact (h.at_ i _ v hc hi).one (k _ (List.mem_of_getElem? hc))

theorem alloc_ok {C : Cfg} (hC : CfgOK C) {κ : Kap} {w : World} {s : St} {a : Act} {e : TypeId} (hz0 : C.Z e ≠ []) (hc : Conc κ w s.B) (hf : FrameRel κ w s.f a.tmps) (dst : Option Nat) (ty : TypeId) (pos : String) (aft : Array Edge) (gd : Option (Nat × Bool)) :
    ∃ v κ' w', Steps_ C κ w s { s with B := s.B ++ [C.Z e] } a (execOp a.eval ⟨dst, .alloc e, ty, pos, aft, gd⟩) (.ptr s.B.length 0) v κ' w' [] := by
  obtain ⟨i, z, hi, hz, hzs, hzl, hzr⟩ := Reps.zero hC hz0 κ w
  have hzok : ∀ c ∈ C.Z e, c.okCell = true := by
    obtain ⟨i', z', hi', hz', h1', h2', h3'⟩ := hC.zero e hz0
    intro c hcm
    obtain ⟨j, hj⟩ := List.mem_iff_getElem?.1 hcm
    have hjl : j < z'.cells.size := by
      have := (List.getElem?_eq_some_iff.1 hj).1
      omega
    exact (h3' j c _ hj (Array.getElem?_eq_getElem hjl)).okCell
  obtain ⟨h1, h2, h3, h4⟩ := hc.pushBox (vs := z.cells) e hzr (hzr.ones hzok) (fun j sz t xs v hcj hv => by
    have := okCell_tag (hzok _ (List.mem_of_getElem? hcj))
    exact ⟨fun hl => (by rw [this] at hl; cases hl), TagOK.of_not_lin this⟩) (fun j c hcj => okCell_noAgg (hzok c (List.mem_of_getElem? hcj)))
  refine ⟨.pointer (some ⟨w.heap.size, 0, none⟩), _, _, .inl ?_, h2, h1, hf.ext0 h2.le fun t _ => h3 t, .ptr _ _ _ (by simp [Kap.addBox]), .ptr, rfl, fun _ _ _ j => h3 _, fun id b _ hb => h4 b (hc.mu id b hb).2.2.2, fun _ h => .inl h, fun _ h => h⟩
  simp [execOp, Instr.alloc, run_zeroValue hi hz, run_newVar]

structure Settled (κ : Kap) (w : World) (s : St) (a : Act) (id off : Nat) (cs : List PV) (h : Option Tag) (v : Value) (κ' : Kap) : Prop where
  lim : κ'.lim = κ.lim
  mu : κ'.mu = κ.mu
  base : κ'.base = κ.base
  prot : κ'.prot = κ.prot
  frz : κ'.frz = κ.frz
  conc : Conc κ' w s.B
  frame : FrameRel κ' w (s.off (fun x => isTag h x || ofCellOf id x)).f a.tmps
  reps : Reps κ' w cs v.cells.toList
  noAgg : ∀ (j : Nat) c, cs[j]? = some c → (∀ l, c ≠ .agg l) ∧ (∀ l, c ≠ .tuple l)
  ones : ∀ u ∈ v.cells.toList, u.oneCell' = true
  tags : ∀ (j : Nat) sz t xs u, cs[j]? = some (.list sz t xs) → v.cells[j]? = some u → (t.lin = true → t = .cell id (off + j)) ∧ TagOK κ' w t sz u
  kept : ∀ i j, i ≠ id → Kept κ w κ' w (.cell i j)

/-- the value that goes into a variable: its cells, and the right that goes with them -/
theorem settle_ok {κ : Kap} {w : World} {s : St} {a : Act} {id off : Nat} {p : PV} {v : Value} {cs : List PV} {h : Option Tag} (e : settle id off p = (cs, h)) (hp : p.clean.cells.all PV.okCell = true) (hc : Conc κ w s.B) (hr : Rep κ w p v) (ht : TagsOK κ w p v)
    (hfree : ∀ (ds : List PV) sz xs, s.B[id]? = some ds → ds[off]? = some (.list sz (.cell id off) xs) → False) (hf : FrameRel κ w s.f a.tmps) : ∃ κ', Settled κ w s a id off cs h v κ' := by
  have hcl := hr.clean_cells hp
  have hones : ∀ u ∈ v.cells.toList, u.oneCell' = true := hcl.ones fun c hcm => List.all_eq_true.1 hp c hcm
  unfold settle at e
  split at e
  · rename_i sz d k xs
    cases e
    have hv1 : v.cells = #[v] := by
      cases hr with
      | list => rfl
    have hle : Le κ w ((κ.setPerm (.slot d k) none).setPerm (.cell id off) (κ.perm (.slot d k))) w := .perm rfl rfl
    refine ⟨(κ.setPerm (.slot d k) none).setPerm (.cell id off) (κ.perm (.slot d k)), rfl, rfl, rfl, rfl, rfl, ?_, ?_, ?_, ?_, hones, ?_, ?_⟩
    · refine hc.movePerm _ _ _ (.inr rfl) fun i ds j sz' xs' hi hj => ⟨slot_ne_cell, fun e => ?_⟩
      cases e
      exact hfree ds sz' xs' hi hj
    · refine FrameRel.off hf hle _ fun t hl hD => ⟨?_, fun _ _ => ⟨rfl, rfl⟩⟩
      simp only [Bool.or_eq_false_iff] at hD
      have h1 : t ≠ .slot d k := by intro e; subst e; simp [isTag] at hD
      have h2 : t ≠ .cell id off := by intro e; subst e; simp [ofCellOf] at hD
      simp [Kap.setPerm, h1, h2]
    · rw [hv1]
      exact .cons ((hr.mono hle).setTag (t' := .cell id off) (by intro e; cases e)) (.nil _ _)
    · intro j c hj
      cases j with
      | zero => simp at hj; subst hj; simp
      | succ j => simp at hj
    · intro j sz' t' xs' u hj hu
      cases j with
      | zero =>
        simp at hj
        obtain ⟨rfl, rfl, rfl⟩ := hj
        rw [hv1] at hu
        simp at hu
        subst hu
        exact ⟨fun _ => rfl, (ht _ _ _ .here).moved rfl rfl⟩
      | succ j => simp at hj
    · intro i j hi
      refine ⟨?_, fun _ _ => ⟨rfl, rfl⟩⟩
      simp [Kap.setPerm, hi]
  · rename_i hno
    cases e
    refine ⟨κ, rfl, rfl, rfl, rfl, rfl, hc, FrameRel.off hf (.refl _ _) _ fun t _ _ => .refl _ _ _, hcl, fun j c hj => okCell_noAgg (List.all_eq_true.1 hp c (List.mem_of_getElem? hj)), hones, ?_, fun _ _ _ => .refl _ _ _⟩
    intro j sz t xs u hj hu
    have := okCell_tag (List.all_eq_true.1 hp _ (List.mem_of_getElem? hj))
    exact ⟨fun hl => (by rw [this] at hl; cases hl), TagOK.of_not_lin this⟩

theorem box_ok {C : Cfg} {κ : Kap} {w : World} {s s' : St} {a : Act} {e : TypeId} {x : Operand} {p : PV} (h : pushBox s (opv s.f x) = some (p, s')) (hc : Conc κ w s.B) (hf : FrameRel κ w s.f a.tmps) (dst : Option Nat) (ty : TypeId) (pos : String) (aft : Array Edge) (gd : Option (Nat × Bool)) :
    ∃ v κ' w', Steps_ C κ w s s' a (execOp a.eval ⟨dst, .box e x, ty, pos, aft, gd⟩) p v κ' w' [] := by
  unfold pushBox at h
  cases hst : settle s.B.length 0 (opv s.f x) with
  | mk cs ht =>
    simp only [hst] at h
    split at h
    · rename_i hall
      simp only [Option.some.injEq, Prod.mk.injEq] at h
      obtain ⟨rfl, rfl⟩ := h
      have hx := hf.opv x
      obtain ⟨κ1, S⟩ := settle_ok hst hall hc hx.1 hx.2 (fun ds sz xs hds _ => by simp at hds) hf
      obtain ⟨h1, h2, h3, h4⟩ := S.conc.pushBox e S.reps S.ones (fun j sz t xs v hcj hv => by
        have := S.tags j sz t xs v hcj hv
        rw [Nat.zero_add] at this
        exact this) S.noAgg
      have hle : Le κ w κ1 w := .perm S.lim S.mu
      refine ⟨.pointer (some ⟨w.heap.size, 0, none⟩), _, _, .inl ?_, (Ext.perm S.lim S.mu S.base S.prot).trans h2, h1, S.frame.ext0 h2.le fun t _ => h3 t, .ptr _ _ _ (by simp [Kap.addBox]), .ptr, rfl, fun id hlt hid j => ?_, fun id b _ hb => h4 b (hc.mu id b hb).2.2.2, fun id hid => .inl ?_, fun _ h => h⟩
      · simp [execOp, Instr.box, run_newVar]
      · exact (S.kept id j (by omega)).trans (h3 _)
      · have : (κ1.addBox s.B.length w.heap.size).frz = κ1.frz := rfl
        rw [this, S.frz] at hid
        exact hid
    · cases h

theorem settle_len {id off : Nat} {p : PV} {v : Value} {cs : List PV} {h : Option Tag} {κ : Kap} {w : World} (hr : Reps κ w cs v.cells.toList) : cs.length = v.cells.size := by simpa using hr.len

theorem store_ok {C : Cfg} {κ : Kap} {w : World} {s s' : St} {a : Act} {t : TypeId} {x y : Operand} (h : storeOp C s t (opv s.f x) (opv s.f y) = some s') (hc : Conc κ w s.B) (hf : FrameRel κ w s.f a.tmps)
    (hnf : ∀ id off, opv s.f x = .ptr id off → ¬ κ.frz id) (dst : Option Nat) (ty : TypeId) (pos : String) (aft : Array Edge) (gd : Option (Nat × Bool)) :
    ∃ id κ' w', Steps_ C κ w s s' a (execOp a.eval ⟨dst, .store t x y, ty, pos, aft, gd⟩) .any undef κ' w' [id] := by
  unfold storeOp at h
  split at h
  · rename_i id off hx
    split at h
    · rename_i cs hcs
      cases hst : settle id off (opv s.f y) with
      | mk vs ht =>
        simp only [hst] at h
        split at h
        · rename_i hcond
          obtain ⟨hvl, hinf, hvpos, hle, hall, hfz⟩ := hcond
          simp only [Option.some.injEq] at h
          subst h
          have hid : id < s.B.length := (List.getElem?_eq_some_iff.1 hcs).1
          obtain ⟨b, us, e, hb, hbox⟩ := hc.box id cs hcs
          have hxr := (hf.opv x).1
          rw [hx] at hxr
          have hxv : a.eval x = .pointer (some ⟨b, off, none⟩) := by
            cases hv : a.eval x <;> rw [hv] at hxr <;> cases hxr
            rename_i b' hb'
            rw [hb] at hb'
            cases hb'
            rfl
          have hyr := hf.opv y
          -- the cell's own right goes
          have hc1 : Conc κ w (s.B.set id (cs.modify off PV.flat)) := hc.reBox hcs (by simp) fun j c hj => by
            rw [List.getElem?_modify]
            by_cases hjo : off = j
            · right; simp [hjo, hj]
            · left; simp [hjo, hj]
          have hus : cs.length = us.size := by simpa using hbox.reps.len
          obtain ⟨κ1, S⟩ := settle_ok (s := { s with B := s.B.set id (cs.modify off PV.flat) }) hst hall hc1 hyr.1 hyr.2 (fun ds sz xs hds hoff => by
            simp only [List.getElem?_set_self hid, Option.some.injEq] at hds
            subst hds
            rw [List.getElem?_modify] at hoff
            simp only [if_true] at hoff
            obtain ⟨c0, _, h0⟩ := Option.map_eq_some_iff.1 hoff
            cases c0 <;> simp [PV.flat, PV.retag] at h0) hf
          obtain ⟨b1, us1, e1, hb1, hbox1⟩ := S.conc.box id (cs.modify off PV.flat) (by simp [hid])
          have hbb : b1 = b := by rw [S.mu] at hb1; rw [hb] at hb1; exact (Option.some.inj hb1).symm
          subst hbb
          have huu : us1 = us ∧ e1 = e := by
            have := hbox1.heap.symm.trans hbox.heap
            simp only [Option.some.injEq, Obj.cells.injEq] at this
            exact ⟨this.1, this.2.1⟩
          obtain ⟨rfl, rfl⟩ := huu
          have hvsl : vs.length = (a.eval y).cells.size := by simpa using S.reps.len
          have hnf' : ¬ κ1.frz id := by rw [S.frz]; exact hnf id off hx
          have hreps : Reps κ1 w (cs.take off ++ vs ++ cs.drop (off + vs.length)) (us1.toList.take off ++ (a.eval y).cells.toList ++ us1.toList.drop (off + vs.length)).toArray.toList := by
            have hr0 : Reps κ1 w cs us1.toList := hbox.reps.mono (.perm S.lim S.mu)
            simpa using ((hr0.take off).append S.reps).append (hr0.drop (off + vs.length))
          have hget : ∀ (j : Nat) c, (cs.take off ++ vs ++ cs.drop (off + vs.length))[j]? = some c → (¬ (off ≤ j ∧ j < off + vs.length) ∧ cs[j]? = some c ∧ (us1.toList.take off ++ (a.eval y).cells.toList ++ us1.toList.drop (off + vs.length)).toArray[j]? = us1[j]?) ∨
              (off ≤ j ∧ j < off + vs.length ∧ vs[j - off]? = some c ∧ (us1.toList.take off ++ (a.eval y).cells.toList ++ us1.toList.drop (off + vs.length)).toArray[j]? = (a.eval y).cells[j - off]?) := by
            intro j c hj
            have hmin : min off cs.length = off := by omega
            have hmin2 : min off us1.size = off := by omega
            by_cases h1 : j < off
            · left
              rw [List.append_assoc, List.getElem?_append_left (by simp; omega), List.getElem?_take, if_pos h1] at hj
              refine ⟨by omega, hj, ?_⟩
              rw [List.getElem?_toArray, List.append_assoc, List.getElem?_append_left (by simp; omega), List.getElem?_take, if_pos h1]
              simp
            · by_cases h2 : j < off + vs.length
              · right
                rw [List.append_assoc, List.getElem?_append_right (by simp; omega), List.getElem?_append_left (by simp; omega)] at hj
                simp only [List.length_take, hmin] at hj
                refine ⟨by omega, h2, hj, ?_⟩
                rw [List.getElem?_toArray, List.append_assoc, List.getElem?_append_right (by simp; omega), List.getElem?_append_left (by simp; omega)]
                simp [hmin2]
              · left
                rw [List.getElem?_append_right (by simp; omega), List.getElem?_drop] at hj
                simp only [List.length_append, List.length_take, hmin] at hj
                rw [show off + vs.length + (j - (off + vs.length)) = j from by omega] at hj
                refine ⟨by omega, hj, ?_⟩
                rw [List.getElem?_toArray, List.getElem?_append_right (by simp; omega), List.getElem?_drop]
                simp only [List.length_append, List.length_take, Array.length_toList, hmin2, ← hvsl]
                rw [show off + vs.length + (j - (off + vs.length)) = j from by omega]
                simp
          obtain ⟨k1, k2, k3, k4⟩ := S.conc.setBox (id := id) (cs' := cs.take off ++ vs ++ cs.drop (off + vs.length)) (vs' := (us1.toList.take off ++ (a.eval y).cells.toList ++ us1.toList.drop (off + vs.length)).toArray) (by simpa using hid) hb1 hbox1.heap hnf' (hbox1.lim.1 hnf') hreps
            (fun u hu => by
              simp only [List.mem_append] at hu
              rcases hu with (hu | hu) | hu
              · exact hbox.one u (List.mem_of_mem_take hu)
              · exact S.ones u hu
              · exact hbox.one u (List.mem_of_mem_drop hu))
            (fun j sz tg xs u hcj huj => by
              rcases hget j _ hcj with ⟨hn, h1, h2⟩ | ⟨h0, h1, h2, h3⟩
              · rw [h2] at huj
                by_cases hjo : off = j
                · omega
                · have hm : (cs.modify off PV.flat)[j]? = some (.list sz tg xs) := by rw [List.getElem?_modify]; simp [hjo, h1]
                  exact hbox1.tags j sz tg xs u hm huj
              · rw [h3] at huj
                have := S.tags (j - off) sz tg xs u h2 huj
                rw [show off + (j - off) = j from by omega] at this
                exact this)
            (fun j c hcj => by
              rcases hget j _ hcj with ⟨hn, h1, h2⟩ | ⟨h0, h1, h2, h3⟩
              · exact hbox.noAgg j c h1
              · exact S.noAgg (j - off) c h2)
          simp only [List.set_set] at k1
          refine ⟨id, κ1, _, .inr ⟨?_, rfl⟩, (Ext.perm S.lim S.mu S.base S.prot).trans k2, k1, S.frame.ext0 k2.le fun t _ => k3 t, .any _, .of_no_occ fun sz t u ho => (by cases ho), rfl, fun i _ hi j => (S.kept i j (by simpa using hi)).trans (k3 _), fun i g hi hg => k4 g fun e' => ?_, fun i hi => .inl (by rw [← S.frz]; exact hi), fun _ h => h⟩
          · obtain ⟨inf, hinf'⟩ := Option.isSome_iff_exists.1 hinf
            have hsz : inf.size = (a.eval y).cells.size := by
              have : C.P.cellsOf t = inf.size := by simp [Program.cellsOf, hinf']
              omega
            have hrun := run_storeCells_at C.P b1 off e1 (a.eval y).cells.toList 0 us1 w hbox.heap (by simp; omega) S.ones
            simp only [Nat.add_zero, Array.length_toList, ← hvsl] at hrun
            simp [execOp, hxv, Instr.storeAt, Instr.sureAddr, storeVar, sizeOf, typeInfo, hinf', hsz, hrun]
          · apply hi
            have := hc.inj i id b1 (e' ▸ hg) hb
            simp [this]
        · cases h
    · cases h
  · cases h

/-! ### New rows -/
theorem Rep.newList {κ : Kap} {w w1 : World} {sz : Nat} {t : Tag} {xs : List PV} {cs rest : List Value} {cap : Nat} (e : TypeId) (hw : w1.heap = w.heap) (hpos : 0 < sz) (hok : ∀ x ∈ xs, x.okElem sz = true) (hr : Reps κ w (xs.flatMap PV.cells) cs)
    (hcap : xs.length ≤ cap) (hmax : cap ≤ maxLen) (hfull : t = .full → cap = xs.length) (k : Le κ w (κ.setLim w.heap.size (xs.length * sz)) (w1.alloc (.cells (cs ++ rest).toArray e))) :
    Rep (κ.setLim w.heap.size (xs.length * sz)) (w1.alloc (.cells (cs ++ rest).toArray e)) (.list sz t xs) (.slice (some ⟨w.heap.size, 0, none⟩) xs.length cap) := by
  have hlf := length_flatMap_cells hok
  refine .list sz t xs _ cap w.heap.size 0 cs hpos hok hcap hmax hfull (fun _ => rfl) hr.len (fun i v hv => ?_) (fun i c v hc hv => (hr.at_ i c v hc hv).mono k)
  have hi : i < cs.length := (List.getElem?_eq_some_iff.1 hv).1
  have hl := hr.len
  refine ⟨by simp only [Kap.setLim, if_true]; omega, ?_⟩
  rw [Nat.zero_add, cell_of_row _ w.heap.size i (cs ++ rest).toArray e (0, 0) (by rw [← hw]; exact heap_alloc_new w1 _)]
  simp [List.getElem?_append_left hi, hv]

theorem plain_all {x : PV} {sz : Nat} (h : x.okElem sz = true) : x.cells.all PV.okCell = true := by
  simp only [PV.okElem, Bool.and_eq_true, List.all_eq_true] at h
  exact List.all_eq_true.2 fun c hc => PV.okCell_of_plain (h.2 c hc)

theorem reps_flatMap {κ : Kap} {w : World} {sz : Nat} : ∀ {xs : List PV} {vs : List Value}, Reps κ w xs vs → (∀ x ∈ xs, x.okElem sz = true) → Reps κ w (xs.flatMap PV.cells) (vs.flatMap fun v => v.cells.toList) ∧ (∀ v ∈ vs, v.cells.size = sz) ∧ (∀ u ∈ vs.flatMap fun v => v.cells.toList, u.oneCell' = true)
  | [], [], _, _ => ⟨.nil _ _, by simp, by simp⟩
  | [], v :: vs, h, _ => by have := h.len; simp at this
  | x :: xs, [], h, _ => by have := h.len; simp at this
  | x :: xs, v :: vs, h, hok => by
    have hx := hok x (List.mem_cons_self ..)
    have hc := h.head.cells_ (.inl (plain_all hx))
    obtain ⟨h1, h2, h3⟩ := reps_flatMap h.tail fun y hy => hok y (List.mem_cons_of_mem _ hy)
    refine ⟨by simp only [List.flatMap_cons]; exact hc.append h1, ?_, ?_⟩
    · intro u hu
      rcases List.mem_cons.1 hu with rfl | hu
      · have := hc.len
        simp only [PV.okElem, Bool.and_eq_true, beq_iff_eq] at hx
        simp at this
        omega
      · exact h2 u hu
    · intro u hu
      simp only [List.flatMap_cons, List.mem_append] at hu
      rcases hu with hu | hu
      · exact hc.ones (fun c hcm => List.all_eq_true.1 (plain_all hx) c hcm) u hu
      · exact h3 u hu

theorem zipIdx_of_range : ∀ {α : Type} (l : List (Nat × α)) (k : Nat), l.map (·.1) = List.range' k l.length → l = ((l.map (·.2)).zipIdx k).map fun x => (x.2, x.1)
  | _, [], k, _ => rfl
  | α, (i, a) :: l, k, h => by
    simp only [List.map_cons, List.length_cons, List.range'_succ, List.cons.injEq] at h
    obtain ⟨rfl, h⟩ := h
    simp only [List.map_cons, List.zipIdx_cons]
    rw [← zipIdx_of_range l (i + 1) h]

theorem buildSlice_ok {C : Cfg} (hC : CfgOK C) {κ : Kap} {w : World} {s s' : St} {a : Act} {t : TypeId} {len : Nat} {parts : Array (Nat × Operand)} {p : PV} (h : buildSliceOp C s t len (parts.toList.map fun (i, x) => (i, opv s.f x)) = some (p, s')) (hc : Conc κ w s.B) (hf : FrameRel κ w s.f a.tmps)
    (dst : Option Nat) (ty : TypeId) (pos : String) (aft : Array Edge) (gd : Option (Nat × Bool)) :
    ∃ v κ' w', Steps_ C κ w s s' a (execOp a.eval ⟨dst, .buildSlice t len parts, ty, pos, aft, gd⟩) p v κ' w' [] := by
  unfold buildSliceOp at h
  split at h
  · rename_i e hu
    split at h
    · rename_i hcond
      obtain ⟨hrange, hpos, hsmall, hinf, hzl, hall⟩ := hcond
      simp only [Option.some.injEq, Prod.mk.injEq] at h
      obtain ⟨rfl, rfl⟩ := h
      have hzne : C.Z e ≠ [] := by intro e'; rw [e'] at hzl; simp at hzl; omega
      obtain ⟨i, z, hi, hz, hzs, hzl', hzr⟩ := Reps.zero hC hzne κ w
      have hsz : i.size = C.P.cellsOf e := by simp [Program.cellsOf, hi]
      have hmap : (parts.toList.map fun (i, x) => (i, opv s.f x)).map (fun x => x.2.flat) = (parts.toList.map fun x => (opv s.f x.2)).map PV.flat := by simp
      have hlen : parts.toList.length = len := by
        have := congrArg List.length hrange
        simpa using this
      have hok : ∀ x ∈ (parts.toList.map fun x => (opv s.f x.2)).map PV.flat, x.okElem (C.P.cellsOf e) = true := by
        intro x hx
        simp only [List.map_map, List.mem_map] at hx
        obtain ⟨q, hq, rfl⟩ := hx
        have := List.all_eq_true.1 hall (q.1, opv s.f q.2) (List.mem_map.2 ⟨q, hq, rfl⟩)
        exact this
      have hrv : Reps κ w ((parts.toList.map fun x => (opv s.f x.2)).map PV.flat) (parts.toList.map fun x => a.eval x.2) := by
        have h0 := (reps_opv hf (parts.toList.map (·.2))).map PV.flat fun c v _ hcv => hcv.flat
        simpa [List.map_map, Function.comp_def] using h0
      obtain ⟨r1, r2, r3⟩ := reps_flatMap hrv hok
      have hfill : Instr.fill (fun j => some (j * C.P.cellsOf e, C.P.cellsOf e)) ((Array.range (len * C.P.cellsOf e)).map (z.cells[· % z.cells.size]!)) ((parts.map fun (i, x) => (i, a.eval x)).toList) = some ((parts.toList.map fun x => a.eval x.2).flatMap fun v => v.cells.toList).toArray := by
        have e1 : (parts.map fun (i, x) => (i, a.eval x)).toList = (((parts.toList.map fun x => a.eval x.2).zipIdx 0).map fun x => (x.2, x.1)) := by
          have h0 := zipIdx_of_range (parts.toList.map fun x => (x.1, a.eval x.2)) 0 (by
            have e0 : (parts.toList.map fun x => (x.1, a.eval x.2)).map (·.1) = parts.toList.map (·.1) := by simp [List.map_map, Function.comp_def]
            have e2 : (parts.toList.map fun (i, x) => (i, opv s.f x)).map (·.1) = parts.toList.map (·.1) := by simp [List.map_map, Function.comp_def]
            rw [e0, ← e2, hrange, List.range_eq_range']
            simp [hlen])
          rw [Array.toList_map]
          simpa [List.map_map, Function.comp_def] using h0
        rw [e1]
        exact Go.Great.fill_whole hpos _ _ r2 (by simp only [List.length_map, hlen]; simp)
      have hq := alloc_quiet (w1 := w) hc rfl rfl rfl rfl (.cells ((parts.toList.map fun x => a.eval x.2).flatMap fun v => v.cells.toList).toArray e) (len * C.P.cellsOf e)
      have hll : ((parts.toList.map fun x => (opv s.f x.2)).map PV.flat).length = len := by simp [hlen]
      refine ⟨.slice (some ⟨w.heap.size, 0, none⟩) len len, _, _, .inl ?_, hq.ext, hc.alloc rfl hq, hf.ext0 hq.ext.le fun t _ => hq.kept t, ?_, .of_no_occ fun sz t u ho => (by cases ho; rfl), rfl, fun _ _ _ j => hq.kept _, fun id b _ hb => hq.heap b (hc.mu id b hb).2.2.2, fun _ h => .inl h, fun _ h => h⟩
      · by_cases h0 : len * i.size = 0
        · have hl0 : len = 0 := by
            rcases Nat.mul_eq_zero.1 h0 with h | h
            · exact h
            · omega
          subst hl0
          have hp0 : parts = #[] := by
            have := List.eq_nil_of_length_eq_zero hlen
            rw [← Array.toArray_toList (xs := parts), this]
          subst hp0
          simp [execOp, Instr.buildSlice, run_und hu, sizeOf, typeInfo, hi, newRow, Instr.fill, Array.range_zero']
        · have := run_buildSlice (P := C.P) w t e len (parts.map fun (i, x) => (i, a.eval x)) _ i z hu hi hz (by rw [hsz]; omega) h0 (by rw [hsz]; exact hfill)
          simp only [execOp]
          simp only [Sem.run_bind, Sem.run_pure, this]
          rfl
      · rw [hmap]
        have := Rep.newList (t := .full) (cap := len) (rest := []) e rfl hpos hok r1 (by rw [hll]; exact Nat.le_refl _) (by simp only [maxLen]; have := Nat.le_trans (Nat.le_mul_of_pos_right len hpos) hsmall; omega) (fun _ => hll.symm) (by rw [hll, List.append_nil]; exact hq.ext.le)
        rw [hll, List.append_nil] at this
        exact this
    · cases h
  · cases h

/-! ### append -/
theorem src_of {P : Program} {κ : Kap} {w : World} {t e : TypeId} {tg : Tag} {ys : List PV} {y : Value} (hu : P.underlying t = some (.slice e)) (hr : Rep κ w (.list (P.cellsOf e) tg ys) y) :
    ∃ news, Src P (P.cellsOf e) t y ys.length news w ∧ Reps κ w (ys.flatMap PV.cells) news ∧ ∀ b o n c, y = .slice (some ⟨b, o, none⟩) n c → ys ≠ [] → ∀ (j : Nat) u, news[j]? = some u → w.cell? ⟨b, o + j, none⟩ = some u := by
  cases hr with
  | list _ _ _ a cap b off vs hpos hok hcap hmax hfull ha hl hc hr =>
    have hlf := length_flatMap_cells hok
    have h1 : ∀ u ∈ vs, u.oneCell' = true := Reps.ones ⟨hl, hr⟩ fun c hcm => by
      obtain ⟨x, hx, hcx⟩ := List.mem_flatMap.1 hcm
      exact List.all_eq_true.1 (plain_all (hok x hx)) c hcx
    by_cases hy : ys = []
    · subst hy
      have hv : vs = [] := List.eq_nil_of_length_eq_zero (by simpa using hl.symm)
      subst hv
      refine ⟨[], ?_, .nil _ _, fun _ _ _ _ _ h => absurd rfl h⟩
      cases a with
      | none => exact ⟨.inl ⟨e, hu⟩, fun _ => rfl, run_firstCells_none w _ 0 0 cap, run_firstCells_none w.drew _ 0 0 cap, by simp, fun u hu => by cases hu⟩
      | some ad => exact Src.ofSlice w hu ad 0 cap [] (by simp) (fun j u h => by simp at h) (fun u h => by cases h)
    · rw [ha hy]
      exact ⟨vs, Src.ofSlice w hu ⟨b, off, none⟩ ys.length cap vs (by omega) (fun j u hj => by rw [add_plain_]; exact (hc j u hj).2) h1, ⟨hl, hr⟩, fun b' o' n' c' he _ j u hj => by cases he; exact (hc j u hj).2⟩

theorem run_append_in {P : Program} {w : World} (t ty e : TypeId) (i : TypeInfo) (ht : P.underlying t = some (.slice e)) (hi : P.info? e = some i) (g sLen sCap : Nat) (cur : Array Value) (te : TypeId) (hg : w.heap[g]? = some (.cells cur te (0, 0)))
    (x : Value) (n : Nat) (news : List Value) (hs : Src P i.size t x n news w) (hroom : sLen + n ≤ sCap) (hfit : sLen * i.size + news.length ≤ cur.size) :
    (Builtin.append_ #[t, t] ty #[.slice (some ⟨g, 0, none⟩) sLen sCap, x]).run P w =
      .ok (.slice (some ⟨g, 0, none⟩) (sLen + n) sCap) (w.setRow g (cur.toList.take (sLen * i.size) ++ news ++ cur.toList.drop (sLen * i.size + news.length)).toArray) := by
  have hst := run_storeCells_at P g (sLen * i.size) te news 0 cur w hg (by simpa using hfit) hs.one
  simp only [Nat.add_zero] at hst
  simp [Builtin.append_, run_underlying ht, sizeOf, typeInfo, hi, hs.len, hroom, hs.cells, Addr.add_lit, hst]

theorem run_append_nothing {P : Program} {w : World} (t ty e : TypeId) (i : TypeInfo) (ht : P.underlying t = some (.slice e)) (hi : P.info? e = some i) (a : Option Addr) (sLen sCap : Nat) (x : Value) (hs : Src P i.size t x 0 [] w) (hroom : sLen ≤ sCap) :
    (Builtin.append_ #[t, t] ty #[.slice a sLen sCap, x]).run P w = .ok (.slice a sLen sCap) w := by
  cases a <;> simp [Builtin.append_, run_underlying ht, sizeOf, typeInfo, hi, hs.len, hroom, hs.cells, storeCells]

theorem append_core {C : Cfg} (hC : CfgOK C) {κ : Kap} {w : World} {B : List (List PV)} {t e : TypeId} {tg tg' : Tag} {d : Nat} {xs ys : List PV} {x y : Value} (hu : C.P.underlying t = some (.slice e)) (hpos : 0 < C.P.cellsOf e) (hby : C.P.bytesOf e ≤ 32768)
    (hmax : xs.length + ys.length ≤ maxLenQ) (hzl : (C.Z e).length = C.P.cellsOf e) (hc : Conc κ w B) (hx : Rep κ w (.list (C.P.cellsOf e) tg xs) x) (hy : Rep κ w (.list (C.P.cellsOf e) tg' ys) y) (hro : tg ≠ .ro) (ht : TagOK κ w tg (C.P.cellsOf e) x)
    (hB : ∀ (id : Nat) cs (j : Nat) sz xs, B[id]? = some cs → cs[j]? = some (.list sz (.cell id j) xs) → .cell id j ≠ tg) (ty : TypeId) :
    ∃ v κ' w', (Builtin.append_ #[t, t] ty #[x, y]).run C.P w = .ok v w' ∧ Ext κ w κ' w' ∧ Conc κ' w' B ∧ Rep κ' w' (.list (C.P.cellsOf e) (.slot d 0) (xs ++ ys)) v ∧ TagOK κ' w' (.slot d 0) (C.P.cellsOf e) v ∧
      (∀ h, h ≠ tg → h ≠ .slot d 0 → Kept κ w κ' w' h) ∧ (∀ id b, κ.mu id = some b → w'.heap[b]? = w.heap[b]?) ∧ κ'.frz = κ.frz := by
  have hzne : C.Z e ≠ [] := by intro e'; rw [e'] at hzl; simp at hzl; omega
  obtain ⟨i, z, hi, hz, hzs, hzl', hzr⟩ := Reps.zero hC hzne κ w
  have hsz : i.size = C.P.cellsOf e := by simp [Program.cellsOf, hi]
  have hbb : C.P.bytesOf e = i.bytes := by simp [Program.bytesOf, hi]
  obtain ⟨news, hsrc, hnr, _⟩ := src_of hu hy
  obtain ⟨olds, hosrc, hor, hocell⟩ := src_of hu hx
  obtain ⟨a, cap, rfl, hcap, hokx, hcm⟩ : ∃ a cap, x = .slice a xs.length cap ∧ xs.length ≤ cap ∧ (∀ q ∈ xs, q.okElem (C.P.cellsOf e) = true) ∧ cap ≤ maxLen := by
    cases hx with
    | list _ _ _ a cap b off vs hpos hok hcap hmax hfull ha hl hc hr => exact ⟨a, cap, rfl, hcap, hok, hmax⟩
  have hoky : ∀ q ∈ ys, q.okElem (C.P.cellsOf e) = true := by
    cases hy with
    | list _ _ _ a cap b off vs hpos hok hcap hmax hfull ha hl hc hr => exact hok
  have hokxy : ∀ q ∈ xs ++ ys, q.okElem (C.P.cellsOf e) = true := by
    intro q hq
    rcases List.mem_append.1 hq with h | h
    · exact hokx q h
    · exact hoky q h
  have hsmall : xs.length + ys.length ≤ 4294967296 := hmax
  -- the holder's right goes to the slot, or is let go
  have hmove : ∀ o, o = none ∨ o = κ.perm tg → Conc ((κ.setPerm tg none).setPerm (.slot d 0) o) w B := fun o ho => hc.movePerm tg (.slot d 0) o ho fun id cs j sz xs h1 h2 => ⟨hB id cs j sz xs h1 h2, slot_ne_cell⟩
  have hkeptm : ∀ o h, h ≠ tg → h ≠ .slot d 0 → Kept κ w ((κ.setPerm tg none).setPerm (.slot d 0) o) w h := fun o h h1 h2 => ⟨by simp [Kap.setPerm, h1, h2], fun _ _ => ⟨rfl, rfl⟩⟩
  have hlem : ∀ o, Le κ w ((κ.setPerm tg none).setPerm (.slot d 0) o) w := fun o => .perm rfl rfl
  have hextm : ∀ o, Ext κ w ((κ.setPerm tg none).setPerm (.slot d 0) o) w := fun o => .perm rfl rfl rfl rfl
  by_cases hroom : xs.length + ys.length ≤ cap
  · -- there is room
    by_cases hys : ys = []
    · subst hys
      have hrun := run_append_nothing (P := C.P) (w := w) t ty e i hu hi a xs.length cap y (by
        have hn : news = [] := List.eq_nil_of_length_eq_zero (by have := hsrc.newsLen; simpa using this)
        rw [hn] at hsrc; rw [hsz]; exact hsrc) hcap
      by_cases hl : tg.lin = true
      · refine ⟨_, _, _, hrun, hextm _, hmove (κ.perm tg) (.inr rfl), ?_, ht.moved hl rfl, hkeptm _, fun _ _ _ => rfl, rfl⟩
        rw [List.append_nil]
        exact (hx.mono (hlem _)).setTag (t' := .slot d 0) (by intro h; cases h)
      · have htf : tg = .full := by cases tg <;> simp [Tag.lin] at hl hro <;> rfl
        subst htf
        refine ⟨_, _, _, hrun, hextm none, hmove none (.inl rfl), ?_, ?_, hkeptm _, fun _ _ _ => rfl, rfl⟩
        · rw [List.append_nil]
          exact (hx.mono (hlem _)).setTag (t' := .slot d 0) (by intro h; cases h)
        · exact .ofFull hx.full_cap (by simp [Kap.setPerm])
    · -- something is written
      have hyl : 0 < ys.length := List.length_pos_iff.2 hys
      have hl : tg.lin = true := by
        cases tg with
        | ro => exact absurd rfl hro
        | full => have := hx.full_cap a xs.length cap rfl; omega
        | slot => rfl
        | cell => rfl
      have ht' : match κ.perm tg with
          | none => cap = xs.length
          | some g => a = some ⟨g, 0, none⟩ ∧ xs.length * C.P.cellsOf e = κ.lim g ∧ ∃ cs e', w.heap[g]? = some (.cells cs e' (0, 0)) ∧ cap * C.P.cellsOf e ≤ cs.size := by
        cases tg <;> simp [Tag.lin] at hl <;> exact ht a xs.length cap rfl
      cases hp : κ.perm tg with
      | none => rw [hp] at ht'; simp only at ht'; omega
      | some g =>
        rw [hp] at ht'
        simp only at ht'
        obtain ⟨rfl, hlim, cur, te, hg, hcs⟩ := ht'
        have hnl : news.length = ys.length * C.P.cellsOf e := hsrc.newsLen
        have hfit : xs.length * i.size + news.length ≤ cur.size := by
          rw [hsz, hnl, ← Nat.add_mul]
          exact Nat.le_trans (Nat.mul_le_mul_right _ hroom) hcs
        have hrun := run_append_in (P := C.P) (w := w) t ty e i hu hi g xs.length cap cur te hg y ys.length news (by rw [hsz]; exact hsrc) hroom hfit
        rw [hsz, hlim] at hrun
        rw [hsz, hlim] at hfit
        have hpm : ((κ.setPerm tg none).setPerm (.slot d 0) (κ.perm tg)).perm (.slot d 0) = some g := by simp [Kap.setPerm, hp]
        obtain ⟨k1, k2, k3, k4⟩ := (hmove (κ.perm tg) (.inr rfl)).writeOwn (n := (xs.length + ys.length) * C.P.cellsOf e) (vs' := (cur.toList.take (κ.lim g) ++ news ++ cur.toList.drop (κ.lim g + news.length)).toArray) hpm hg
          (fun j hj => by
            have hj' : j < κ.lim g := hj
            rw [List.getElem?_toArray, List.append_assoc, List.getElem?_append_left (by simp; omega), List.getElem?_take, if_pos hj']
            simp)
          (by show κ.lim g ≤ _; rw [← hlim]; exact Nat.mul_le_mul_right _ (Nat.le_add_right _ _)) (fun id cs j sz xs _ _ => slot_ne_cell)
        have hgm : ∀ id b, κ.mu id = some b → b ≠ g := fun id b hb e' => (hc.perm tg g hp).2.2.1 id (e' ▸ hb)
        refine ⟨_, _, _, hrun, (hextm _).trans k2, k1, ?_, ?_, fun h h1 h2 => (hkeptm _ h h1 h2).trans (k3 h h2), fun id b hb => k4 b (hgm id b hb), rfl⟩
        · -- what it reads as
          have hlen : (xs ++ ys).length = xs.length + ys.length := by simp
          have hcell : ∀ (j : Nat) u, (olds ++ news)[j]? = some u → (w.setRow g (cur.toList.take (κ.lim g) ++ news ++ cur.toList.drop (κ.lim g + news.length)).toArray).cell? ⟨g, 0 + j, none⟩ = some u := by
            intro j u hj
            have hol : olds.length = κ.lim g := by have := hosrc.newsLen; omega
            rw [Nat.zero_add, cell_of_row _ g j _ te (0, 0) (setRow_heap w g cur _ te (0, 0) hg), List.getElem?_toArray]
            by_cases hjo : j < olds.length
            · rw [List.getElem?_append_left hjo] at hj
              rw [List.append_assoc, List.getElem?_append_left (by simp; omega), List.getElem?_take, if_pos (by omega)]
              have hxs : xs ≠ [] := by intro e'; subst e'; simp at hlim; omega
              have := hocell g 0 _ _ rfl hxs j u hj
              rw [Nat.zero_add, cell_of_row w g j cur te (0, 0) hg] at this
              simpa using this
            · rw [List.getElem?_append_right (by omega), hol] at hj
              rw [List.append_assoc, List.getElem?_append_right (by simp; omega), List.getElem?_append_left (by simp; have := (List.getElem?_eq_some_iff.1 hj).1; omega)]
              simp [show min (κ.lim g) cur.size = κ.lim g from by omega]
              rw [hol] at hjo
              exact hj
          suffices hgoal : Rep (((κ.setPerm tg none).setPerm (.slot d 0) (κ.perm tg)).setLim g ((xs.length + ys.length) * C.P.cellsOf e)) (w.setRow g (cur.toList.take (κ.lim g) ++ news ++ cur.toList.drop (κ.lim g + news.length)).toArray) (.list (C.P.cellsOf e) (.slot d 0) (xs ++ ys)) (.slice (some ⟨g, 0, none⟩) (xs ++ ys).length cap) by rwa [hlen] at hgoal
          refine .list _ _ _ _ cap g 0 (olds ++ news) hpos hokxy (by rw [hlen]; exact hroom) hcm (fun h => by cases h) (fun _ => rfl) ?_ (fun j u hj => ⟨?_, hcell j u hj⟩) ?_
          · rw [List.flatMap_append, List.length_append, List.length_append, hor.len, hnr.len]
          · have := (List.getElem?_eq_some_iff.1 hj).1
            simp only [List.length_append, hosrc.newsLen, hsrc.newsLen] at this
            simp only [Kap.setLim, if_true]
            rw [Nat.add_mul]
            omega
          · rw [List.flatMap_append]
            exact ((hor.append hnr).mono ((hextm _).trans k2).le).at_
        · intro a' len' cap' hv
          cases hv
          rw [show (((κ.setPerm tg none).setPerm (.slot d 0) (κ.perm tg)).setLim g ((xs.length + ys.length) * C.P.cellsOf e)).perm (.slot d 0) = some g from hpm]
          refine ⟨rfl, by simp [Kap.setLim], _, te, setRow_heap w g cur _ te (0, 0) hg, ?_⟩
          simp
          omega
  · -- a new row
    have hrun := run_append_grow_src (P := C.P) w t t ty e i z hu hi hz a xs.length cap olds (by rw [hsz]; exact hosrc.cellsD) y ys.length news (by rw [hsz]; exact hsrc) (by omega) (by omega) (growslice_fits (by omega) (by
      have h1 : (xs.length + ys.length) * i.bytes ≤ 4294967296 * 32768 := Nat.mul_le_mul hsmall (by omega)
      omega))
    have hlen : (xs ++ ys).length = xs.length + ys.length := by simp
    have hge := grownCap_ge w (xs.length + ys.length) cap e
    have hle := grownCap_le_maxLen w (xs.length + ys.length) cap e (by simp only [maxLen]; omega)
    have hc1 := hmove none (.inl rfl)
    generalize hκ1 : (κ.setPerm tg none).setPerm (.slot d 0) none = κ1 at hc1
    have hl1 : κ1.lim = κ.lim := by subst hκ1; rfl
    have hm1 : κ1.mu = κ.mu := by subst hκ1; rfl
    have hq := alloc_quiet (w1 := w.drew) hc1 rfl rfl rfl rfl (.cells ((olds ++ news).toArray ++ Builtin.zeroCells z.cells (grownCap w (xs.length + ys.length) cap e - (xs.length + ys.length))) e) ((xs.length + ys.length) * C.P.cellsOf e)
    have hcc : (olds ++ news).toArray ++ Builtin.zeroCells z.cells (grownCap w (xs.length + ys.length) cap e - (xs.length + ys.length)) = (olds ++ news ++ (Builtin.zeroCells z.cells (grownCap w (xs.length + ys.length) cap e - (xs.length + ys.length))).toList).toArray := by
      apply Array.ext'; simp
    have hc2 := hc1.alloc (w1 := w.drew) rfl hq
    have hnew : ∃ cs e', (w.drew.alloc (.cells ((olds ++ news).toArray ++ Builtin.zeroCells z.cells (grownCap w (xs.length + ys.length) cap e - (xs.length + ys.length))) e)).heap[w.heap.size]? = some (.cells cs e' (0, 0)) := ⟨_, _, heap_alloc_new w.drew _⟩
    have hc3 := hc2.givePerm (t := .slot d 0) (g := w.heap.size) hc1.base (fun hp => by have := hc1.prot _ hp; omega) (fun id hid => by have := (hc1.mu id _ hid).2.2.2; omega) hnew (fun t' ht' => by
      obtain ⟨_, _, _, cs, e', hh⟩ := hc1.perm t' _ ht'
      have := (Array.getElem?_eq_some_iff.1 hh).1
      omega) (fun id cs j sz xs _ _ => slot_ne_cell)
    have he1 : Ext κ w κ1 w := by subst hκ1; exact hextm none
    have he3 : Ext (κ1.setLim w.heap.size ((xs.length + ys.length) * C.P.cellsOf e)) (w.drew.alloc (.cells ((olds ++ news).toArray ++ Builtin.zeroCells z.cells (grownCap w (xs.length + ys.length) cap e - (xs.length + ys.length))) e))
        ((κ1.setLim w.heap.size ((xs.length + ys.length) * C.P.cellsOf e)).setPerm (.slot d 0) (some w.heap.size)) (w.drew.alloc (.cells ((olds ++ news).toArray ++ Builtin.zeroCells z.cells (grownCap w (xs.length + ys.length) cap e - (xs.length + ys.length))) e)) := .perm rfl rfl rfl rfl
    refine ⟨_, _, _, hrun, he1.trans (hq.ext.trans he3), hc3, ?_, ?_, fun h h1 h2 => ?_, fun id b hb => hq.heap b (hc.mu id b hb).2.2.2, by subst hκ1; rfl⟩
    · have h1 := Rep.newList (κ := κ1) (w := w) (w1 := w.drew) (t := .slot d 0) (xs := xs ++ ys) (cs := olds ++ news) (rest := (Builtin.zeroCells z.cells (grownCap w (xs.length + ys.length) cap e - (xs.length + ys.length))).toList) (cap := grownCap w (xs.length + ys.length) cap e) e rfl hpos hokxy
        (by rw [List.flatMap_append]; exact (hor.append hnr).mono he1.le) (by rw [hlen]; exact hge) hle (fun h => by cases h) (by rw [hlen, ← hcc]; exact hq.ext.le)
      rw [hlen, ← hcc] at h1
      exact h1.mono he3.le
    · intro a' len' cap' hv
      cases hv
      simp only [Kap.setPerm, if_true]
      refine ⟨trivial, by simp [Kap.setLim], _, e, heap_alloc_new w.drew _, ?_⟩
      rw [hcc]
      simp only [List.size_toArray, List.length_append, Array.length_toList, size_zeroCells, hosrc.newsLen, hsrc.newsLen, hzs, hsz, ← Nat.add_mul]
      exact Nat.mul_le_mul_right _ (by omega)
    · have k0 : Kept κ w κ1 w h := by subst hκ1; exact hkeptm none h h1 h2
      exact (k0.trans (hq.kept h)).trans ⟨by simp [Kap.setPerm, h2], fun _ _ => ⟨rfl, rfl⟩⟩

theorem append_ok {C : Cfg} (hC : CfgOK C) {κ : Kap} {w : World} {s s' : St} {a : Act} {d : Nat} {t : TypeId} {x y : Operand} {p : PV} (h : appendOp C d s t (opv s.f x) (opv s.f y) = some (p, s')) (hc : Conc κ w s.B) (hf : FrameRel κ w s.f a.tmps)
    (dst : Option Nat) (ty : TypeId) (pos : String) (aft : Array Edge) (gd : Option (Nat × Bool)) :
    ∃ v κ' w' nm, Steps_ C κ w s s' a (execOp a.eval ⟨dst, .call { callee := .builtin .append, args := #[x, y], argTypes := #[t, t] }, ty, pos, aft, gd⟩) p v κ' w' nm := by
  unfold appendOp at h
  split at h
  · rename_i e hu
    split at h
    · rename_i tg xs tg' ys hx hy
      split at h
      · rename_i hcond
        obtain ⟨hpos, hby, hmax, hzl⟩ := hcond
        obtain ⟨hxr, hxt⟩ := asList_ok hpos hx (hf.opv x).1 (hf.opv x).2
        obtain ⟨hyr, _⟩ := asList_ok hpos hy (hf.opv y).1 (hf.opv y).2
        have hexec : ∀ v w', (Builtin.append_ #[t, t] ty #[a.eval x, a.eval y]).run C.P w = .ok v w' → (execOp a.eval ⟨dst, .call { callee := .builtin .append, args := #[x, y], argTypes := #[t, t] }, ty, pos, aft, gd⟩).run C.P w = .ok (.value v) w' := by
          intro v w' hr
          simp [execOp, resolve, invoke, builtin, hr]
        have hD : ∀ (t0 : Tag) (hh : Tag), hh.lin = true → (hh == t0 || (match hh with | .slot d' _ => d' == d | _ => false)) = false → hh ≠ t0 ∧ hh ≠ .slot d 0 := by
          intro t0 hh _ hd
          simp only [Bool.or_eq_false_iff] at hd
          refine ⟨fun e' => by subst e'; simp at hd, fun e' => ?_⟩
          subst e'
          simp at hd
        simp only at h
        split at h
        · cases h
        · simp only [Option.some.injEq, Prod.mk.injEq] at h
          obtain ⟨rfl, rfl⟩ := h
          obtain ⟨v, κ', w', hr, h1, h2, h3, h4, h5, h6, h7⟩ := append_core hC (d := d) hu hpos hby hmax hzl hc hxr hyr (by intro e'; cases e') hxt (fun id cs j sz xs _ _ e' => by cases e') ty
          exact ⟨v, κ', w', [], .inl (hexec v w' hr), h1, h2, FrameRel.off hf h1.le _ fun hh hl hd => h5 hh (hD _ hh hl hd).1 (hD _ hh hl hd).2, h3, fun sz t u ho => (by cases ho; exact h4), rfl, fun id _ _ j => h5 _ (fun e' => by cases e') (fun e' => by cases e'), fun id b _ hb => h6 id b hb, fun id hid => .inl (by rw [← h7]; exact hid), fun _ h => h⟩
        · rename_i d0 k0
          simp only [Option.some.injEq, Prod.mk.injEq] at h
          obtain ⟨rfl, rfl⟩ := h
          obtain ⟨v, κ', w', hr, h1, h2, h3, h4, h5, h6, h7⟩ := append_core hC (d := d) hu hpos hby hmax hzl hc hxr hyr (by intro e'; cases e') hxt (fun id cs j sz xs _ _ e' => by cases e') ty
          exact ⟨v, κ', w', [], .inl (hexec v w' hr), h1, h2, FrameRel.off hf h1.le _ fun hh hl hd => h5 hh (hD _ hh hl hd).1 (hD _ hh hl hd).2, h3, fun sz t u ho => (by cases ho; exact h4), rfl, fun id _ _ j => h5 _ (fun e' => by cases e') (fun e' => by cases e'), fun id b _ hb => h6 id b hb, fun id hid => .inl (by rw [← h7]; exact hid), fun _ h => h⟩
        · rename_i id off
          split at h
          · rename_i cs hcs
            simp only [Option.some.injEq, Prod.mk.injEq] at h
            obtain ⟨rfl, rfl⟩ := h
            have hid : id < s.B.length := (List.getElem?_eq_some_iff.1 hcs).1
            have hc1 : Conc κ w (s.B.set id (cs.modify off PV.flat)) := hc.reBox hcs (by simp) fun j c hj => by
              rw [List.getElem?_modify]
              by_cases hjo : off = j
              · right; simp [hjo, hj]
              · left; simp [hjo, hj]
            obtain ⟨v, κ', w', hr, h1, h2, h3, h4, h5, h6, h7⟩ := append_core hC (d := d) hu hpos hby hmax hzl hc1 hxr hyr (by intro e'; cases e') hxt (fun i ds j sz xs hi hj e' => by
              cases e'
              rw [List.getElem?_set_self hid] at hi
              simp only [Option.some.injEq] at hi
              subst hi
              rw [List.getElem?_modify] at hj
              simp only [if_true] at hj
              obtain ⟨c0, _, h0⟩ := Option.map_eq_some_iff.1 hj
              cases c0 <;> simp [PV.flat, PV.retag] at h0) ty
            refine ⟨v, κ', w', [id], .inl (hexec v w' hr), h1, h2, FrameRel.off hf h1.le _ fun hh hl hd => h5 hh (hD _ hh hl hd).1 (hD _ hh hl hd).2, h3, fun sz t u ho => (by cases ho; exact h4), rfl, fun i _ hi j => h5 _ (fun e' => ?_) (fun e' => by cases e'), fun i b _ hb => h6 i b hb, fun i hi => .inl (by rw [← h7]; exact hi), fun _ h => h⟩
            cases e'
            exact hi (List.mem_singleton.2 rfl)
          · cases h
      · cases h
    · cases h
  · cases h

/-! ### make -/
theorem madeCells_replicate {z : Array Value} {k : Nat} (hk : z.size = k) (hpos : 0 < k) : ∀ n, (madeCells z (n * k)).toList = (List.replicate n z.toList).flatten := by
  intro n
  apply List.ext_getElem?
  intro i
  have hlen : ((List.replicate n z.toList).flatten).length = n * k := by simp [hk]
  by_cases hi : i < n * k
  · have h1 : (madeCells z (n * k)).toList[i]? = some (z[i % z.size]!) := by
      simp [madeCells, hi]
    rw [h1]
    have h2 : ((List.replicate n z.toList).flatten)[i]? = z.toList[i % k]? := by
      have := Go.Great.flat_get hpos (List.replicate n (Value.agg z)) (fun v hv => by rw [List.eq_of_mem_replicate hv]; exact hk) i
      simp only [List.flatMap_replicate, Value.cells] at this
      have hd : i / k < n := Nat.div_lt_of_lt_mul (by rw [Nat.mul_comm]; exact hi)
      simp [List.getElem?_replicate, hd] at this
      rw [this]
      simp
    rw [h2, hk]
    have hm : i % k < z.size := by rw [hk]; exact Nat.mod_lt _ hpos
    simp [hm]
  · rw [List.getElem?_eq_none (by simp [madeCells]; omega), List.getElem?_eq_none (by omega)]


theorem packT_ok {P : Program} {e : TypeId} {zs : List PV} {z : PV} (h : packT P e zs = some z) : z.cells = zs ∨ (∃ c, zs = [c] ∧ z = c ∧ ∀ l, c ≠ .agg l) ∨ ∃ l, zs = [.agg l] := by
  unfold packT at h
  split at h
  · simp at h; subst h; exact .inl rfl
  · split at h
    · rename_i c
      simp at h; subst h
      cases c <;> first | exact .inl rfl | exact .inr (.inr ⟨_, rfl⟩)
    · cases h

theorem makeSlice_ok {C : Cfg} (hC : CfgOK C) {κ : Kap} {w : World} {fid : FuncId} {s s' : St} {a : Act} {d : Nat} {t : TypeId} {x y : Operand} {p : PV} (h : makeSliceOp C fid d s t (opv s.f x) (opv s.f y) = some (p, s')) (hc : Conc κ w s.B) (hf : FrameRel κ w s.f a.tmps)
    (dst : Option Nat) (ty : TypeId) (pos : String) (aft : Array Edge) (gd : Option (Nat × Bool)) :
    ∃ v κ' w', Steps_ C κ w s s' a (execOp a.eval ⟨dst, .makeSlice t x y, ty, pos, aft, gd⟩) p v κ' w' [] := by
  unfold makeSliceOp at h
  split at h
  · rename_i e n m hu hx hy
    split at h
    · rename_i hcond
      obtain ⟨rfl, h0, hmax, hby, hinf, hzne, hzl⟩ := hcond
      have hxv := (hf.opv x).1
      have hyv := (hf.opv y).1
      rw [hx] at hxv
      rw [hy] at hyv
      have ex := hxv.sc_inv
      have ey := hyv.sc_inv
      obtain ⟨i, z, hi, hz, hzs, hzl', hzr⟩ := Reps.zero hC hzne κ w
      have hsz : i.size = C.P.cellsOf e := by simp [Program.cellsOf, hi]
      have hbb : C.P.bytesOf e = i.bytes := by simp [Program.bytesOf, hi]
      have hpos : 0 < C.P.cellsOf e := by
        rw [← hzl]; exact List.length_pos_iff.2 hzne
      have hsmall : n ≤ 4294967296 := hmax
      have hrun := run_make (P := C.P) w t e i z hu hi hz .i64 .i64 n n h0 (Int.le_refl _) (by
        have h1 : i.bytes * n.toNat ≤ 32768 * 4294967296 := Nat.mul_le_mul (by omega) (by omega)
        have h2 : ((i.bytes * n.toNat : Nat) : Int) = (i.bytes : Int) * n := by rw [Int.natCast_mul, Int.toNat_of_nonneg h0]
        omega) (by omega)
      have hexec : (execOp a.eval ⟨dst, .makeSlice t x y, ty, pos, aft, gd⟩).run C.P w = .ok (.value (.slice (some ⟨w.heap.size, 0, none⟩) n.toNat n.toNat)) (w.alloc (.cells (madeCells z.cells (n.toNat * i.size)) e)) := by
        simp [execOp, ex, ey, hrun]
      have hzc : ∀ c ∈ C.Z e, c.okCell = true := by
        obtain ⟨i', z', hi', hz', h1', h2', h3'⟩ := hC.zero e hzne
        intro c hcm
        obtain ⟨j, hj⟩ := List.mem_iff_getElem?.1 hcm
        have hjl : j < z'.cells.size := by
          have := (List.getElem?_eq_some_iff.1 hj).1
          omega
        exact (h3' j c _ hj (Array.getElem?_eq_getElem hjl)).okCell
      have hmade := madeCells_replicate (hzs.trans hsz) hpos n.toNat
      rw [← hsz] at hmade
      split at h
      · -- an array of its own
        split at h
        · rename_i z0 hz0
          split at h
          · rename_i hzok
            simp only [Option.some.injEq, Prod.mk.injEq] at h
            obtain ⟨rfl, rfl⟩ := h
            have hone : z.cells.toList.length = 1 := by rw [Array.length_toList, hzs, ← hzl', hz0]; rfl
            obtain ⟨u0, hu0⟩ : ∃ u0, z.cells.toList = [u0] := by
              match hq : z.cells.toList, hone with
              | [u0], _ => exact ⟨u0, rfl⟩
            have hr0 : Rep κ w z0 u0 := by
              rw [hz0, hu0] at hzr
              exact hzr.head
            have hcells : (madeCells z.cells (n.toNat * i.size)).toList = List.replicate n.toNat u0 := by
              rw [hmade, hu0]
              simp
            have hrr : Reps κ w (List.replicate n.toNat z0) (madeCells z.cells (n.toNat * i.size)).toList := by
              rw [hcells]
              refine ⟨by simp, fun j c v hc' hv => ?_⟩
              have e1 := List.eq_of_mem_replicate (List.mem_of_getElem? hc')
              have e2 := List.eq_of_mem_replicate (List.mem_of_getElem? hv)
              rw [e1, e2]; exact hr0
            obtain ⟨h1, h2, h3, h4⟩ := hc.pushBox (cs := List.replicate n.toNat z0) (vs := madeCells z.cells (n.toNat * i.size)) e hrr (hrr.ones fun c hcm => by rw [List.eq_of_mem_replicate hcm]; exact hzok)
              (fun j sz tg xs v hcj hv => by
                have e1 := List.eq_of_mem_replicate (List.mem_of_getElem? hcj)
                have := okCell_tag (by rw [e1]; exact hzok)
                exact ⟨fun hl => (by rw [this] at hl; cases hl), TagOK.of_not_lin this⟩)
              (fun j c hcj => by rw [List.eq_of_mem_replicate (List.mem_of_getElem? hcj)]; exact okCell_noAgg hzok)
            refine ⟨_, _, _, .inl hexec, h2, h1, hf.ext0 h2.le fun t _ => h3 t, .arr _ _ _ (by simp [Kap.addBox]) (by simp only [maxLen]; omega), .of_no_occ fun sz t u ho => (by cases ho), rfl, fun _ _ _ j => h3 _, fun id b _ hb => h4 b (hc.mu id b hb).2.2.2, fun _ h => .inl h, fun _ h => h⟩
          · cases h
        · cases h
      · -- a row that isn't written
        split at h
        · rename_i z0 hz0
          split at h
          · rename_i hzok
            simp only [Option.some.injEq, Prod.mk.injEq] at h
            obtain ⟨rfl, rfl⟩ := h
            have hzf : Reps κ w ((C.Z e).map PV.flat) z.cells.toList := hzr.map PV.flat fun c v _ hcv => hcv.flat
            have hcellz : z0.cells = (C.Z e).map PV.flat := by
              rcases packT_ok hz0 with h1 | ⟨c, h1, rfl, h2⟩ | ⟨l, h1⟩
              · exact h1
              · rw [h1]; cases z0 <;> first | rfl | exact absurd rfl (h2 _)
              · exfalso
                have : PV.agg l ∈ (C.Z e).map PV.flat := by rw [h1]; simp
                obtain ⟨c0, hc0, he⟩ := List.mem_map.1 this
                have := hzc c0 hc0
                cases c0 <;> simp [PV.flat, PV.retag, PV.okCell] at he this
            have hrr : Reps κ w ((List.replicate n.toNat z0).flatMap PV.cells) (madeCells z.cells (n.toNat * i.size)).toList := by
              rw [hmade, List.flatMap_replicate, hcellz]
              generalize n.toNat = k
              induction k with
              | zero => simpa using Reps.nil κ w
              | succ k ih => simp only [List.replicate_succ, List.flatten_cons]; exact hzf.append ih
            have hok : ∀ q ∈ List.replicate n.toNat z0, q.okElem (C.P.cellsOf e) = true := fun q hq => by rw [List.eq_of_mem_replicate hq]; exact hzok
            have hq := alloc_quiet (w1 := w) hc rfl rfl rfl rfl (.cells (madeCells z.cells (n.toNat * i.size)) e) (n.toNat * C.P.cellsOf e)
            refine ⟨_, _, _, .inl hexec, hq.ext, hc.alloc rfl hq, hf.ext0 hq.ext.le fun t _ => hq.kept t, ?_, .of_no_occ fun sz t u ho => (by cases ho; rfl), rfl, fun _ _ _ j => hq.kept _, fun id b _ hb => hq.heap b (hc.mu id b hb).2.2.2, fun _ h => .inl h, fun _ h => h⟩
            have := Rep.newList (t := .full) (cap := n.toNat) (rest := []) e rfl hpos hok hrr (by simp) (by simp only [maxLen]; omega) (fun _ => by simp) (by simpa using hq.ext.le)
            simpa using this
          · cases h
        · cases h
    · cases h
  · cases h

/-! ### an array variable is sliced -/
theorem sliceArr_ok {C : Cfg} {κ : Kap} {w : World} {s s' : St} {a : Act} {t : TypeId} {x : Operand} {p : PV} (h : sliceArrOp C s t (opv s.f x) = some (p, s')) (hc : Conc κ w s.B) (hf : FrameRel κ w s.f a.tmps)
    (dst : Option Nat) (ty : TypeId) (pos : String) (aft : Array Edge) (gd : Option (Nat × Bool)) :
    ∃ v κ', Steps_ C κ w s s' a (execOp a.eval ⟨dst, .slice t x none none none, ty, pos, aft, gd⟩) p v κ' w [] := by
  unfold sliceArrOp at h
  split at h
  · rename_i n e id off hu hx
    split at h
    · rename_i cs hcs
      split at h
      · rename_i hcond
        obtain ⟨hle, h1, hmax, hall⟩ := hcond
        simp only [Option.some.injEq, Prod.mk.injEq] at h
        obtain ⟨rfl, rfl⟩ := h
        have hid : id < s.B.length := (List.getElem?_eq_some_iff.1 hcs).1
        obtain ⟨b, us, e1, hb, hbox⟩ := hc.box id cs hcs
        have hus : cs.length = us.size := by simpa using hbox.reps.len
        have hxr := (hf.opv x).1
        rw [hx] at hxr
        have hxv : a.eval x = .pointer (some ⟨b, off, none⟩) := by
          cases hv : a.eval x <;> rw [hv] at hxr <;> cases hxr
          rename_i b' hb'
          rw [hb] at hb'
          cases hb'
          rfl
        have hc1 := hc.reBox hcs (cs' := cs.map PV.flat) (by simp) fun j c hj => .inr (by simp [hj])
        -- from now on the block is not written
        let κ' : Kap := { κ with lim := fun g => if g = b then us.size else κ.lim g, frz := fun i => i = id ∨ κ.frz i }
        have hmu := hc.mu id b hb
        have hlimle : κ.lim b ≤ us.size := by
          by_cases hz : κ.frz id
          · rw [hbox.lim.2 hz]; exact Nat.le_refl _
          · rw [hbox.lim.1 hz]; exact Nat.zero_le _
        have hle' : Le κ w κ' w := by
          refine ⟨fun g => ?_, fun _ _ _ _ h => h, fun _ _ h => h⟩
          show κ.lim g ≤ if g = b then us.size else κ.lim g
          split
          · rename_i hg; rw [hg]; exact hlimle
          · exact Nat.le_refl _
        have hkept : ∀ tg, Kept κ w κ' w tg := fun tg => ⟨rfl, fun g hg => ⟨by
          show (if g = b then us.size else κ.lim g) = κ.lim g
          rw [if_neg (show ¬ g = b from fun e' => (hc.perm tg g hg).2.2.1 id (e' ▸ hb))], rfl⟩⟩
        have hext : Ext κ w κ' w := ⟨hle', rfl, rfl, Nat.le_refl _, rfl, rfl, rfl, fun g hg hgl => ⟨rfl, by
          show (if g = b then us.size else κ.lim g) = κ.lim g
          rw [if_neg]
          intro e'
          subst e'
          rcases hg with hg | hg
          · omega
          · exact hmu.2.2.1 hg⟩⟩
        have hconc : Conc κ' w (s.B.set id (cs.map PV.flat)) := by
          refine ⟨hc1.base, hc1.mu, hc1.inj, fun i ds hds => ?_, hc1.perm, hc1.pinj, fun g hg => ?_, hc1.prot, fun i hi => ?_⟩
          · obtain ⟨g, vs, e2, hg, hb2⟩ := hc1.box i ds hds
            by_cases hi : i = id
            · subst hi
              have hgb : g = b := by rw [hb] at hg; exact (Option.some.inj hg).symm
              subst hgb
              have hvs : vs = us := by
                have := hb2.heap.symm.trans hbox.heap
                simp only [Option.some.injEq, Obj.cells.injEq] at this
                exact this.1
              subst hvs
              exact ⟨g, vs, e2, hg, hb2.heap, hb2.reps.mono hle', hb2.one, fun j sz tg xs v hj hv => ⟨(hb2.tags j sz tg xs v hj hv).1, (hb2.tags j sz tg xs v hj hv).2.kept (hkept tg)⟩, hb2.noAgg, fun hn => absurd (.inl rfl) hn, fun _ => by show (if g = g then vs.size else κ.lim g) = vs.size; simp⟩
            · have hgb : g ≠ b := fun e' => hi (hc.inj i id b (e' ▸ hg) hb)
              refine ⟨g, vs, e2, hg, hb2.heap, hb2.reps.mono hle', hb2.one, fun j sz tg xs v hj hv => ⟨(hb2.tags j sz tg xs v hj hv).1, (hb2.tags j sz tg xs v hj hv).2.kept (hkept tg)⟩, hb2.noAgg, fun hn => ?_, fun hy => ?_⟩
              · show (if g = b then us.size else κ.lim g) = 0
                rw [if_neg hgb]
                exact hb2.lim.1 fun hh => hn (.inr hh)
              · show (if g = b then us.size else κ.lim g) = vs.size
                rw [if_neg hgb]
                rcases hy with hy | hy
                · exact absurd hy hi
                · exact hb2.lim.2 hy
          · show (if g = b then us.size else κ.lim g) = 0
            rw [if_neg (by omega)]
            exact hc1.fresh g hg
          · rcases hi with rfl | hi
            · simpa using hid
            · exact hc1.frzLt i hi
        have hok : ∀ q ∈ ((cs.drop off).take n).map PV.flat, q.okElem 1 = true := by
          intro q hq
          obtain ⟨c, hcm, rfl⟩ := List.mem_map.1 hq
          have h2 := List.all_eq_true.1 hall c hcm
          cases hcf : c.flat <;> rw [hcf] at h2 <;> simp [PV.plain] at h2 <;> simp [PV.okElem, PV.cells, PV.plain, h2]
        have hfm : (((cs.drop off).take n).map PV.flat).flatMap PV.cells = ((cs.drop off).take n).map PV.flat := by
          refine flatMap_cells_one hok fun q hq l e' => ?_
          obtain ⟨c, hcm, rfl⟩ := List.mem_map.1 hq
          have h2 := List.all_eq_true.1 hall c hcm
          rw [e'] at h2
          simp [PV.plain] at h2
        have hlen : (((cs.drop off).take n).map PV.flat).length = n := by simp; omega
        refine ⟨.slice (some ⟨b, off, none⟩) n n, κ', .inl ?_, hext, hconc, FrameRel.off hf hle' _ fun tg _ _ => hkept tg, ?_, .of_no_occ fun sz t u ho => (by cases ho; rfl), rfl, fun _ _ _ j => hkept _, fun _ _ _ _ => rfl, fun i hi => ?_, fun i hi => List.mem_cons_of_mem _ hi⟩
        · obtain ⟨inf, hinf, hsz⟩ := info_of_cells (P := C.P) (t := e) (by omega)
          have h0 : n = 0 ∨ n ≠ 0 := by omega
          simp [execOp, Instr.sliceAt, run_und hu, hxv, Instr.sureAddr, Instr.sliceBounds, sizeOf, typeInfo, hinf]
          rcases h0 with h0 | h0 <;> simp [h0, add_plain_]
        · suffices hg : Rep κ' w (.list 1 .full (((cs.drop off).take n).map PV.flat)) (.slice (some ⟨b, off, none⟩) (((cs.drop off).take n).map PV.flat).length n) by rwa [hlen] at hg
          refine .list 1 .full _ _ n b off ((us.toList.drop off).take n) (by omega) hok (by rw [hlen]; exact Nat.le_refl _) (by simp only [maxLen, maxLenQ] at hmax ⊢; omega) (fun _ => hlen.symm) (fun _ => rfl) ?_ (fun j v hv => ?_) (fun j c v hcj hv => ?_)
          · rw [hfm, hlen]; simp; omega
          · rw [List.getElem?_take] at hv
            split at hv
            · rw [List.getElem?_drop] at hv
              have hjl := (List.getElem?_eq_some_iff.1 hv).1
              simp at hjl
              refine ⟨?_, ?_⟩
              · show off + j < if b = b then us.size else κ.lim b
                simp [hjl]
              · rw [cell_of_row w b (off + j) us e1 (0, 0) hbox.heap]
                simpa using hv
            · cases hv
          · rw [hfm, List.getElem?_map] at hcj
            obtain ⟨c0, hc0, rfl⟩ := Option.map_eq_some_iff.1 hcj
            have := ((hbox.reps.drop off).take n).at_ j c0 v hc0 hv
            exact (this.mono hle').flat
        · rcases hi with rfl | hi
          · exact .inr (List.mem_cons_self ..)
          · exact .inl hi
      · cases h
    · cases h
  · cases h
end Go.Q
