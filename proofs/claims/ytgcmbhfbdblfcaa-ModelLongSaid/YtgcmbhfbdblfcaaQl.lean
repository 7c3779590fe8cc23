/-
  Functions: results.
-/
import Derived.Test.YtgcmbhfbdblfcaaQk
set_option linter.unusedVariables false
set_option linter.unusedSimpArgs false
namespace Go.Q

theorem run_mapM {α : Type} {P : Program} {w : World} (f : α → Sem Value) (xs : Array α) (us : List Value) (hl : us.length = xs.size) (h : ∀ (i : Nat) x u, xs[i]? = some x → us[i]? = some u → (f x).run P w = .ok u w) :
    (xs.mapM f).run P w = .ok us.toArray w := by
  rw [Array.mapM_eq_mapM_toList]
  have key : ∀ (l : List α) (us : List Value), us.length = l.length → (∀ (i : Nat) x u, l[i]? = some x → us[i]? = some u → (f x).run P w = .ok u w) → (l.mapM f).run P w = .ok us w := by
    intro l
    induction l with
    | nil => intro us hl h; have : us = [] := by simpa using hl
             subst this; simp
    | cons x l ih =>
      intro us hl h
      cases us with
      | nil => simp at hl
      | cons u us =>
        have h1 := h 0 x u rfl rfl
        have h2 := ih us (by simpa using hl) (fun i x u hx hu => h (i + 1) x u (by simpa using hx) (by simpa using hu))
        rw [List.mapM_cons]
        simp [h1, h2]
  have := key xs.toList us (by simpa using hl) (fun i x u hx hu => h i x u (by simpa using hx) hu)
  simp [this]

theorem loadAt_inv {P : Program} {t : TypeId} {x v : Value} {w w' : World} (h : (Instr.loadAt t x).run P w = .ok v w') : (do loadVar t (← asAddr x) : Sem Value).run P w = .ok v w' := by
  cases x with
  | pointer p =>
    cases p with
    | none => simp [Instr.loadAt, Instr.sureAddr, stuck, Sem.run] at h
    | some a => simpa [Instr.loadAt, Instr.sureAddr, asAddr] using h
  | _ => simp [Instr.loadAt, Instr.sureAddr, stuck, Sem.run] at h

theorem results_run {C : Cfg} {κ : Kap} {w : World} {s : St} {a : Act} {fn : Func} {vs0 : List PV} (h : fn.results.toList.mapM (getRes C s) = some vs0) (hc : Conc κ w s.B) (hf : FrameRel κ w s.f a.tmps) :
    ∃ us : List Value, us.length = vs0.length ∧ (Go.results fn a.tmps).run C.P w = .ok (if h : us.toArray.size = 1 then us.toArray[0] else .tuple us.toArray) w ∧
      ∀ (i : Nat) p u, vs0[i]? = some p → us[i]? = some u → Rep κ w p u ∧ TagsOK κ w p u := by
  have key : ∀ (l : List ResultVar) (vs0 : List PV), l.mapM (getRes C s) = some vs0 → ∃ us : List Value, us.length = l.length ∧ vs0.length = l.length ∧
      (∀ (i : Nat) x u, l[i]? = some x → us[i]? = some u → ((fun x => match x with | .tmp t => pure (a.tmps.getD t undef) | .cell b t => do loadVar t (← asAddr (a.tmps.getD b undef)) : ResultVar → Sem Value) x).run C.P w = .ok u w) ∧
      (∀ (i : Nat) p u, vs0[i]? = some p → us[i]? = some u → Rep κ w p u ∧ TagsOK κ w p u) := by
    intro l
    induction l with
    | nil =>
      intro vs0 h
      simp at h
      subst h
      exact ⟨[], rfl, rfl, fun i x u hx => by simp at hx, fun i p u hp => by simp at hp⟩
    | cons x l ih =>
      intro vs0 h
      rw [List.mapM_cons] at h
      cases h1 : getRes C s x with
      | none => simp [h1] at h
      | some p =>
        cases h2 : l.mapM (getRes C s) with
        | none => simp [h1, h2] at h
        | some ps =>
          simp [h1, h2] at h
          subst h
          obtain ⟨us, k1, k1', k2, k3⟩ := ih ps h2
          have one : ∃ u, ((fun x => match x with | .tmp t => pure (a.tmps.getD t undef) | .cell b t => do loadVar t (← asAddr (a.tmps.getD b undef)) : ResultVar → Sem Value) x).run C.P w = .ok u w ∧ Rep κ w p u ∧ TagsOK κ w p u := by
            cases x with
            | tmp t =>
              simp only [getRes, Option.some.injEq] at h1
              subst h1
              exact ⟨_, by simp, hf.getD t⟩
            | cell b t =>
              simp only [getRes] at h1
              obtain ⟨v, hrun, hrep, htag⟩ := loadOp_ok h1 (hf.getD b).1 hc
              exact ⟨v, loadAt_inv (hrun κ w (.refl _ _) fun _ _ _ _ _ => rfl), hrep, htag⟩
          obtain ⟨u, hu1, hu2⟩ := one
          refine ⟨u :: us, by simp [k1], by simp [k1'], fun i y z hy hz => ?_, fun i q z hq hz => ?_⟩
          · cases i with
            | zero => simp only [List.getElem?_cons_zero, Option.some.injEq] at hy hz; subst hy; subst hz; exact hu1
            | succ i => simp only [List.getElem?_cons_succ] at hy hz; exact k2 i y z hy hz
          · cases i with
            | zero => simp only [List.getElem?_cons_zero, Option.some.injEq] at hq hz; subst hq; subst hz; exact hu2
            | succ i => simp only [List.getElem?_cons_succ] at hq hz; exact k3 i q z hq hz
  obtain ⟨us, h1, h1', h2, h3⟩ := key _ _ h
  refine ⟨us, by rw [h1, h1'], ?_, h3⟩
  unfold Go.results
  rw [Sem.run_bind, run_mapM (P := C.P) (w := w) _ fn.results us (by simpa using h1) (fun i x u hx hu => ?_)]
  · simp
  · have := h2 i x u (by simpa using hx) hu
    cases x <;> exact this

/-! ### What a function gives out -/
theorem out_conc {κ κ' : Kap} {w : World} {B : List (List PV)} (h : Conc κ w B) (hbase : κ'.base = κ.base) (hmu : κ'.mu = κ.mu) (hprot : κ'.prot = κ.prot) (hfrz : κ'.frz = κ.frz)
    (hlim : ∀ b, κ'.lim b = κ.lim b ∨ (κ.lim b ≤ κ'.lim b ∧ b < w.heap.size ∧ ∀ id, κ.mu id ≠ some b))
    (hperm : ∀ t g, κ'.perm t = some g → κ.base ≤ g ∧ ¬ κ.prot g ∧ (∀ id, κ.mu id ≠ some g) ∧ ∃ cs e, w.heap[g]? = some (.cells cs e (0, 0)))
    (hpinj : ∀ t t' g, κ'.perm t = some g → κ'.perm t' = some g → t = t')
    (hcell : ∀ id, id < B.length → ∀ j, Kept κ w κ' w (.cell id j)) : Conc κ' w B := by
  have hle : Le κ w κ' w := ⟨fun b => by rcases hlim b with e | e; omega; exact e.1, fun _ _ _ _ h => h, fun id b hb => by rw [hmu]; exact hb⟩
  refine ⟨by rw [hbase]; exact h.base, fun id b hb => ?_, fun i j b hi hj => h.inj i j b (hmu ▸ hi) (hmu ▸ hj), fun id cs hcs => ?_, fun t g hg => ?_, hpinj, fun b hb => ?_, fun b hb => h.prot b (hprot ▸ hb), fun id hid => h.frzLt id (hfrz ▸ hid)⟩
  · rw [hbase, hprot]; exact h.mu id b (hmu ▸ hb)
  · obtain ⟨b, vs, e, hb, hbox⟩ := h.box id cs hcs
    have hid := (List.getElem?_eq_some_iff.1 hcs).1
    have hl : κ'.lim b = κ.lim b := by
      rcases hlim b with e | e
      · exact e
      · exact absurd hb (e.2.2 id)
    exact ⟨b, vs, e, by rw [hmu]; exact hb, hbox.heap, hbox.reps.mono hle, hbox.one, fun j sz t xs v hj hv => by
      obtain ⟨k1, k2⟩ := hbox.tags j sz t xs v hj hv
      refine ⟨k1, ?_⟩
      cases hlt : t.lin
      · exact .of_not_lin hlt
      · have ht := k1 hlt
        subst ht
        exact k2.kept (hcell id hid j), hbox.noAgg, by rw [hl, hfrz]; exact hbox.lim⟩
  · rw [hbase, hprot, hmu]; exact hperm t g hg
  · rcases hlim b with e | e
    · rw [e]; exact h.fresh b hb
    · omega

def export1 (k : Nat) (c : PV) : PV :=
  match c with
  | .list sz t xs => if t == .ro then .list sz .ro xs else .list sz (.slot 0 k) xs
  | c => c.flat
theorem exportL_get : ∀ (cs : List PV) (k i : Nat), (exportL k cs)[i]? = (cs[i]?).map (export1 (k + i))
  | [], k, i => by simp [exportL]
  | c :: cs, k, 0 => by cases c <;> simp [exportL, export1]
  | c :: cs, k, i + 1 => by
    have := exportL_get cs (k + 1) i
    simp only [exportL, List.getElem?_cons_succ, this]
    congr 2
    omega
theorem exportL_len : ∀ (cs : List PV) (k : Nat), (exportL k cs).length = cs.length
  | [], k => rfl
  | a :: as, k => by simp [exportL, exportL_len as (k + 1)]

theorem noDup_get : ∀ {l : List Tag} (h : noDup l = true) {i j : Nat} {t : Tag}, l[i]? = some t → l[j]? = some t → t.lin = true → i = j
  | [], h, i, j, t, h1, h2, hl => by simp at h1
  | x :: l, h, i, j, t, h1, h2, hl => by
    simp only [noDup, Bool.and_eq_true] at h
    cases i with
    | zero =>
      cases j with
      | zero => rfl
      | succ j =>
        simp only [List.getElem?_cons_zero, Option.some.injEq, List.getElem?_cons_succ] at h1 h2
        subst h1
        have := List.mem_of_getElem? h2
        simp [hl, this] at h
    | succ i =>
      cases j with
      | zero =>
        simp only [List.getElem?_cons_zero, Option.some.injEq, List.getElem?_cons_succ] at h1 h2
        subst h2
        have := List.mem_of_getElem? h1
        simp [hl, this] at h
      | succ j =>
        have e : i = j := noDup_get (l := l) h.2 (i := i) (j := j) (t := t) (by simpa using h1) (by simpa using h2) hl
        rw [e]

/-- The rights that go out with the results. -/
def outPerm (κ : Kap) (vs : List PV) (cell : Nat → Bool) (t : Tag) : Option Nat :=
  match t with
  | .slot 0 k => match vs[k]? with
    | some (.list _ t _) => if t.lin = true then κ.perm t else none
    | _ => none
  | .cell id off => if cell id = true then κ.perm (.cell id off) else none
  | _ => none

theorem outPerm_cases {κ : Kap} {vs : List PV} {cell : Nat → Bool} {t : Tag} {g : Nat} (h : outPerm κ vs cell t = some g) :
    (∃ (k sz : Nat) (t0 : Tag) (xs : List PV), t = .slot 0 k ∧ vs[k]? = some (PV.list sz t0 xs) ∧ t0.lin = true ∧ κ.perm t0 = some g) ∨ (∃ id off, t = .cell id off ∧ cell id = true ∧ κ.perm t = some g) := by
  unfold outPerm at h
  split at h
  · rename_i k
    split at h
    · rename_i sz t0 xs hk
      split at h
      · rename_i hl; exact .inl ⟨k, sz, t0, xs, rfl, hk, hl, h⟩
      · cases h
    · cases h
  · rename_i id off
    split at h
    · rename_i hc; exact .inr ⟨id, off, rfl, hc, h⟩
    · cases h
  · cases h

theorem outPerm_inj {κ : Kap} {w : World} {B : List (List PV)} {vs : List PV} {cell : Nat → Bool} (h : Conc κ w B) (hd : noDup (vs.map tagOf) = true) (hvs : ∀ (k sz : Nat) id off xs, vs[k]? = some (PV.list sz (.cell id off) xs) → cell id = false) :
    ∀ t t' g, outPerm κ vs cell t = some g → outPerm κ vs cell t' = some g → t = t' := by
  intro t t' g h1 h2
  rcases outPerm_cases h1 with ⟨k, sz, t0, xs, rfl, a1, a2, a3⟩ | ⟨id, off, rfl, a1, a2⟩ <;>
    rcases outPerm_cases h2 with ⟨k', sz', t0', xs', rfl, b1, b2, b3⟩ | ⟨id', off', rfl, b1, b2⟩
  · have e := h.pinj _ _ _ a3 b3
    subst e
    have : k = k' := noDup_get hd (t := t0) (by rw [List.getElem?_map, a1]; rfl) (by rw [List.getElem?_map, b1]; rfl) a2
    rw [this]
  · have e := h.pinj _ _ _ a3 b2
    subst e
    rw [hvs k sz id' off' xs a1] at b1
    cases b1
  · have e := h.pinj _ _ _ a2 b3
    subst e
    rw [hvs k' sz' id off xs' b1] at a1
    cases a1
  · exact h.pinj _ _ _ a2 b2

theorem export1_ok {κ κ1 : Kap} {w : World} {vs : List PV} {cell : Nat → Bool} {k : Nat} {c : PV} {v : Value} (hr : Rep κ1 w c v) (ht : TagsOK κ w c v) (hfull : ∀ sz xs, c = .list sz .full xs → ∀ t0 sz' xs', vs[k]? = some (PV.list sz' t0 xs') → t0.lin = false)
    (hk : ∀ sz t xs, c = .list sz t xs → t.lin = true → vs[k]? = some c) (hperm : κ1.perm = outPerm κ vs cell) (hlim : ∀ t g, t.lin = true → κ.perm t = some g → κ1.lim g = κ.lim g) :
    Rep κ1 w (export1 k c) v ∧ TagsOK κ1 w (export1 k c) v := by
  unfold export1
  split
  · rename_i sz t xs
    split
    · rename_i hro
      exact ⟨hr.setTag (by simp), .of_no_occ fun sz' t' u ho => by cases ho; rfl⟩
    · rename_i hro
      refine ⟨hr.setTag (by simp), fun sz' t' u ho => ?_⟩
      cases ho
      cases hl : t.lin
      · have hf : t = .full := by
          cases t with
          | ro => exact absurd rfl hro
          | full => rfl
          | slot _ _ => simp [Tag.lin] at hl
          | cell _ _ => simp [Tag.lin] at hl
        subst hf
        refine .ofFull hr.full_cap ?_
        rw [hperm]
        unfold outPerm
        simp only
        split
        · rename_i sz' t0 xs' hv
          rw [hfull sz xs rfl t0 sz' xs' hv]
          simp
        · rfl
      · have h0 := ht sz t v .here
        have hv := hk sz t xs rfl hl
        intro a len cap hva
        have h1 : match κ.perm t with | none => cap = len | some g => a = some ⟨g, 0, none⟩ ∧ len * sz = κ.lim g ∧ ∃ cs e, w.heap[g]? = some (.cells cs e (0, 0)) ∧ cap * sz ≤ cs.size := by
          cases t with
          | ro => simp [Tag.lin] at hl
          | full => simp [Tag.lin] at hl
          | slot _ _ => exact h0 a len cap hva
          | cell _ _ => exact h0 a len cap hva
        have hp : κ1.perm (.slot 0 k) = κ.perm t := by rw [hperm]; simp [outPerm, hv, hl]
        rw [hp]
        cases hg : κ.perm t with
        | none => rw [hg] at h1; exact h1
        | some g =>
          rw [hg] at h1
          simp only at h1 ⊢
          rw [hlim t g hl hg]
          exact h1
  · exact ⟨hr.flat, .flat⟩

theorem export1_res {k : Nat} {c : PV} : ∀ sz d' k' xs, export1 k c = .list sz (.slot d' k') xs → d' = 0 ∧ k' = k := by
  intro sz d' k' xs h
  unfold export1 at h
  split at h
  · split at h
    · simp at h
    · simp only [PV.list.injEq, Tag.slot.injEq] at h
      exact ⟨h.2.1.1.symm, h.2.1.2.symm⟩
  · rename_i hn
    unfold PV.flat at h
    cases c <;> simp only [PV.retag] at h <;> try (cases h)

theorem packOut_tag (cs : List PV) : ResTag (packOut (exportL 0 cs)) := by
  have htag : ∀ (i : Nat) sz d' k' xs, (exportL 0 cs)[i]? = some (PV.list sz (.slot d' k') xs) → d' = 0 ∧ k' = i := by
    intro i sz d' k' xs hc
    rw [exportL_get] at hc
    obtain ⟨c0, h0, e⟩ := Option.map_eq_some_iff.1 hc
    rw [Nat.zero_add] at e
    exact export1_res sz d' k' xs e
  unfold packOut
  split
  · rename_i c hc
    rw [hc] at htag
    have ht := htag 0
    cases c with
    | list sz t xs =>
      cases t with
      | slot d' k' => exact ht sz d' k' xs rfl
      | _ => trivial
    | tuple vs =>
      intro k sz d' k' xs hk
      exfalso
      have e : (exportL 0 cs)[0]? = some (PV.tuple vs) := by rw [hc]; rfl
      rw [exportL_get] at e
      obtain ⟨c0, h0, e⟩ := Option.map_eq_some_iff.1 e
      unfold export1 at e
      split at e
      · split at e <;> cases e
      · unfold PV.flat at e
        cases c0 <;> simp only [PV.retag] at e <;> try (cases e)
        rw [PV.retagL_eq, List.getElem?_map] at hk
        obtain ⟨x, hx, hxe⟩ := Option.map_eq_some_iff.1 hk
        cases x <;> simp only [PV.retag] at hxe <;> cases hxe
    | _ => trivial
  · intro i sz d' k' xs hc
    exact htag i sz d' k' xs hc

theorem packOut_ok {κ : Kap} {w : World} {cs : List PV} {us : List Value} (hl : us.length = cs.length) (h : ∀ (i : Nat) c u, cs[i]? = some c → us[i]? = some u → Rep κ w (export1 i c) u ∧ TagsOK κ w (export1 i c) u) :
    Rep κ w (packOut (exportL 0 cs)) (if h : us.toArray.size = 1 then us.toArray[0] else .tuple us.toArray) ∧ TagsOK κ w (packOut (exportL 0 cs)) (if h : us.toArray.size = 1 then us.toArray[0] else .tuple us.toArray) ∧ ResTag (packOut (exportL 0 cs)) := by
  have hall : ∀ (i : Nat) c u, (exportL 0 cs)[i]? = some c → us[i]? = some u → Rep κ w c u ∧ TagsOK κ w c u := by
    intro i c u hc hu
    rw [exportL_get] at hc
    obtain ⟨c0, h0, rfl⟩ := Option.map_eq_some_iff.1 hc
    rw [Nat.zero_add]
    exact h i c0 u h0 hu
  have hlen := exportL_len cs 0
  by_cases h1 : us.length = 1
  · obtain ⟨u, rfl⟩ : ∃ u, us = [u] := List.length_eq_one_iff.1 h1
    obtain ⟨c, hc⟩ : ∃ c, exportL 0 cs = [c] := List.length_eq_one_iff.1 (by rw [hlen, ← hl]; exact h1)
    refine ⟨?_, ?_, packOut_tag cs⟩ <;> rw [hc] at hall ⊢ <;> simp only [packOut]
    · simpa using (hall 0 c u rfl rfl).1
    · simpa using (hall 0 c u rfl rfl).2
  · have e : packOut (exportL 0 cs) = .tuple (exportL 0 cs) := by
      unfold packOut
      split
      · rename_i v hv
        rw [hv] at hlen
        simp at hlen
        omega
      · rfl
    have hs : ¬ us.toArray.size = 1 := by simpa using h1
    refine ⟨?_, ?_, packOut_tag cs⟩ <;> rw [e, dif_neg hs]
    · exact .tuple_of ⟨by rw [hlen, hl], fun i c u hc hu => (hall i c u hc hu).1⟩
    intro sz t u ho
    cases ho with
    | tuple hc hv h => exact (hall _ _ _ hc (by simpa using hv)).2 sz t u h

theorem outTag_full {esc : Bool} {n0 : Nat} (t : Tag) (h : outTag esc n0 t = .full) : t = .full := by
  cases t with
  | cell id off => simp only [outTag] at h; split at h <;> cases h
  | _ => exact h
theorem outTag_or {esc : Bool} {n0 : Nat} (t : Tag) : outTag esc n0 t = t ∨ (outTag esc n0 t).lin = false := by
  cases t with
  | cell id off => simp only [outTag]; split; exact .inl rfl; exact .inr rfl
  | _ => exact .inl rfl

theorem FrameRel.start {κ : Kap} {w : World} {args : List PV} {vs : List Value} (hr : Reps κ w args vs) (ht : ∀ (i : Nat) p v, args[i]? = some p → vs[i]? = some v → TagsOK κ w p v) (m : Nat) :
    FrameRel κ w (args ++ List.replicate (m - args.length) .any) (vs.toArray ++ Array.replicate (m - vs.toArray.size) undef) := by
  have hl := hr.len
  refine ⟨by simp [hl], fun d p v hp hv => ?_⟩
  rw [List.getElem?_append] at hp
  rw [← Array.getElem?_toList] at hv
  rw [Array.toList_append, List.getElem?_append] at hv
  split at hp
  · rename_i hd
    rw [if_pos (show d < vs.length by omega)] at hv
    exact ⟨hr.at_ d p v hp hv, ht d p v hp hv⟩
  · rw [List.getElem?_replicate] at hp
    split at hp
    · simp only [Option.some.injEq] at hp
      subst hp
      exact ⟨.any _, .of_no_occ fun sz t u ho => by cases ho⟩
    · cases hp

theorem thaw_or (n0 : Nat) (B : List (List PV)) (p : PV) : thaw n0 B p = p ∨ (∃ id n, p = .arr id n ∧ (thaw n0 B p = .any ∨ ∃ cs, B[id]? = some cs ∧ n0 ≤ id ∧ n = cs.length ∧ (cs.map PV.flat).all (PV.okElem 1) = true ∧ thaw n0 B p = .list 1 .full (cs.map PV.flat))) := by
  cases p with
  | arr id n =>
    refine .inr ⟨id, n, rfl, ?_⟩
    simp only [thaw]
    cases hb : B[id]? with
    | none => exact .inl rfl
    | some cs =>
      simp only
      by_cases hc : n0 ≤ id ∧ n = cs.length ∧ (cs.map PV.flat).all (PV.okElem 1) = true
      · rw [if_pos hc]; exact .inr ⟨cs, rfl, hc.1, hc.2.1, hc.2.2, rfl⟩
      · rw [if_neg hc]; exact .inl rfl
  | _ => exact .inl rfl

open Classical in
/-- Rows of variables that die become rows that are not written any more. -/
noncomputable def thawLim (κ : Kap) (w : World) (n0 : Nat) (b : Nat) : Nat :=
  if ∃ id, n0 ≤ id ∧ κ.mu id = some b then (match w.heap[b]? with | some (.cells cs _ _) => max cs.size (κ.lim b) | _ => κ.lim b) else κ.lim b

theorem thawLim_le (κ : Kap) (w : World) (n0 b : Nat) : κ.lim b ≤ thawLim κ w n0 b := by
  unfold thawLim
  split
  · split
    · exact Nat.le_max_right ..
    · exact Nat.le_refl _
  · exact Nat.le_refl _

theorem thaw_ok {κ : Kap} {w : World} {B : List (List PV)} {n0 : Nat} {p : PV} {v : Value} (hc : Conc κ w B) (hr : Rep κ w p v) : Rep { κ with lim := thawLim κ w n0 } w (thaw n0 B p) v := by
  have hle : Le κ w { κ with lim := thawLim κ w n0 } w := ⟨thawLim_le κ w n0, fun _ _ _ _ h => h, fun _ _ h => h⟩
  rcases thaw_or n0 B p with e | ⟨id, n, rfl, e | ⟨cs, hcs, hid, rfl, hok, e⟩⟩
  · rw [e]; exact hr.mono hle
  · rw [e]; exact .any v
  · rw [e]
    obtain ⟨b, vs, ty, hb, hbox⟩ := hc.box id cs hcs
    have hlen : cs.length = vs.size := by simpa using hbox.reps.len
    cases hr with
    | arr _ _ b' hb' hn =>
      have hbb : b' = b := by rw [hb'] at hb; simpa using hb
      subst hbb
      have hok' : ∀ q ∈ cs.map PV.flat, q.okElem 1 = true := by simpa using List.all_eq_true.1 hok
      have hfm : (cs.map PV.flat).flatMap PV.cells = cs.map PV.flat := by
        refine flatMap_cells_one hok' fun q hq l e' => ?_
        obtain ⟨c, hcm, rfl⟩ := List.mem_map.1 hq
        obtain ⟨j, hj, rfl⟩ := List.getElem_of_mem hcm
        have := (hbox.noAgg j cs[j] (List.getElem?_eq_getElem hj)).1
        cases hcj : cs[j] <;> rw [hcj] at e' <;> simp [PV.flat, PV.retag] at e'
        exact this _ hcj
      suffices hg : Rep { κ with lim := thawLim κ w n0 } w (.list 1 .full (cs.map PV.flat)) (.slice (some ⟨b', 0, none⟩) (cs.map PV.flat).length cs.length) by simpa using hg
      refine .list 1 .full _ _ cs.length b' 0 vs.toList (by omega) hok' (by simp) hn (fun _ => by simp) (fun _ => rfl) (by rw [hfm]; simpa using hlen) (fun j v hv => ?_) (fun j c v hcj hv => ?_)
      · have hj : j < vs.size := by simpa using (List.getElem?_eq_some_iff.1 hv).1
        refine ⟨?_, ?_⟩
        · show 0 + j < thawLim κ w n0 b'
          unfold thawLim
          rw [if_pos ⟨id, hid, hb'⟩, hbox.heap]
          simp only
          have := Nat.le_max_left vs.size (κ.lim b')
          omega
        · rw [cell_of_row w b' (0 + j) vs ty (0, 0) hbox.heap]
          simpa using hv
      · rw [hfm, List.getElem?_map] at hcj
        obtain ⟨c0, hc0, rfl⟩ := Option.map_eq_some_iff.1 hcj
        exact ((hbox.reps.at_ j c0 v hc0 hv).mono hle).flat

theorem results_ok {C : Cfg} {fn : Func} {fid : Nat} {κ0 κ : Kap} {w0 w : World} {B : List (List PV)} {s : St} {a : Act} {o : Out} (h : results C fn fid B.length s = some o) (h0 : Conc κ0 w0 B) (hi : Inv κ0.frz κ w s a)
    (hp : Post κ0 w0 B.length s.mods κ w) (hg : GrowB s.mods B s.B) :
    ResTag o.r ∧ ∃ v κ', (Go.results fn a.tmps).run C.P w = .ok v w ∧ Post κ0 w0 B.length o.mods κ' w ∧ Conc κ' w o.B ∧ Rep κ' w o.r v ∧ TagsOK κ' w o.r v ∧ (∀ id, κ'.frz id → κ0.frz id) := by
  unfold results at h
  split at h
  · cases h
  · rename_i vs0 hvs0
    obtain ⟨us, hul, hrun, hreps⟩ := results_run hvs0 hi.conc hi.frame
    simp only at h
    split at h
    · rename_i hcond
      obtain ⟨hnd, hfz⟩ := hcond
      have hvs : ∀ (i : Nat) c u, (vs0.map (PV.retag (outTag (C.esc fid) B.length)))[i]? = some c → us[i]? = some u → Rep κ w c u ∧ TagsOK κ w c u := by
        intro i c u hc hu
        rw [List.getElem?_map] at hc
        obtain ⟨c0, hc0, rfl⟩ := Option.map_eq_some_iff.1 hc
        obtain ⟨h1, h2⟩ := hreps i c0 u hc0 hu
        exact ⟨h1.retag _ fun t ht => outTag_full t ht, h2.retag _ fun t => outTag_or t⟩
      have hcells : ∀ (k sz : Nat) id off xs, (vs0.map (PV.retag (outTag (C.esc fid) B.length)))[k]? = some (PV.list sz (.cell id off) xs) → B.length ≤ id ∧ C.esc fid = false := by
        intro k sz id off xs hc
        rw [List.getElem?_map] at hc
        obtain ⟨c0, hc0, e⟩ := Option.map_eq_some_iff.1 hc
        cases c0 <;> simp only [PV.retag] at e <;> try (cases e)
        rename_i sz' t xs'
        simp only [PV.list.injEq] at e
        obtain ⟨_, e, _⟩ := e
        cases t <;> simp only [outTag] at e <;> try (cases e)
        split at e
        · rename_i hh; cases e; exact hh
        · cases e
      have boxes0 : ∀ id b, id ∉ s.mods.filter (· < B.length) → κ0.mu id = some b → w.heap[b]? = w0.heap[b]? := fun id b hn hb =>
        hp.boxes id b (fun hh => hn (List.mem_filter.2 ⟨hh, by simpa using (h0.mu id b hb).1⟩)) hb
      have kept0 : ∀ id, id < B.length → id ∉ s.mods.filter (· < B.length) → ∀ j, Kept κ0 w0 κ w (.cell id j) := fun id hid hn j =>
        hp.kept id hid (fun hh => hn (List.mem_filter.2 ⟨hh, by simpa using hid⟩)) j
      have permOK : ∀ (cell : Nat → Bool) (t : Tag) g, outPerm κ (vs0.map (PV.retag (outTag (C.esc fid) B.length))) cell t = some g → κ.base ≤ g ∧ ¬ κ.prot g ∧ (∀ id, κ.mu id ≠ some g) ∧ ∃ cs e, w.heap[g]? = some (.cells cs e (0, 0)) := by
        intro cell t g hg
        rcases outPerm_cases hg with ⟨k, sz, t0, xs, rfl, a1, a2, a3⟩ | ⟨id, off, rfl, a1, a2⟩
        · exact hi.conc.perm _ g a3
        · exact hi.conc.perm _ g a2
      split at h
      · rename_i hesc
        split at h
        · rename_i hfz0
          simp only [Option.some.injEq] at h
          subst h
          let κ' : Kap := { κ with perm := outPerm κ (vs0.map (PV.retag (outTag (C.esc fid) B.length))) (fun _ => true) }
          have hle : Le κ w κ' w := ⟨fun _ => Nat.le_refl _, fun _ _ _ _ h => h, fun _ _ h => h⟩
          have hcell : ∀ id j, Kept κ w κ' w (.cell id j) := fun id j => ⟨by simp [κ', outPerm], fun g hg => ⟨rfl, rfl⟩⟩
          have hpk := packOut_ok (κ := κ') (w := w) (cs := vs0.map (PV.retag (outTag (C.esc fid) B.length))) (us := us) (by simpa using hul) fun i c u hc hu => by
            obtain ⟨h1, h2⟩ := hvs i c u hc hu
            exact export1_ok (κ := κ) (vs := vs0.map (PV.retag (outTag (C.esc fid) B.length))) (h1.mono hle) h2
              (fun sz xs e t0 sz' xs' hh => by rw [hc, e] at hh; simp only [Option.some.injEq, PV.list.injEq] at hh; rw [← hh.2.1]; rfl) (fun sz t xs e hl => hc) rfl (fun t g hl hg => rfl)
          refine ⟨hpk.2.2, _, κ', hrun, ⟨⟨hp.ext.le.trans hle, hp.ext.base, hp.ext.prot, hp.ext.size, hp.ext.os, hp.ext.tape, hp.ext.output, hp.ext.low⟩, fun id hid hn j => (kept0 id hid hn j).trans (hcell id j), boxes0⟩, ?_, hpk.1, hpk.2.1, fun id hid => ?_⟩
          · exact out_conc (κ' := κ') hi.conc rfl rfl rfl rfl (fun b => .inl rfl) (fun t g hg => permOK _ t g hg)
              (outPerm_inj hi.conc hnd fun k sz id off xs hh => absurd (hcells k sz id off xs hh).2 (by simp [hesc])) (fun id hid j => hcell id j)
          · rcases hi.frz id hid with h1 | h1
            · rw [hfz0] at h1; simp at h1
            · exact h1
        · cases h
      · rename_i hesc
        split at h
        · rename_i hund
          simp only [Option.some.injEq] at h
          subst h
          have hesc' : C.esc fid = false := by simpa using hesc
          have hcut := cut_conc (mods := s.mods) h0 hi.conc rfl hg (fun id hid => hid)
          let κ' : Kap := { cutK κ B.length with lim := thawLim κ w B.length, perm := outPerm κ (vs0.map (PV.retag (outTag (C.esc fid) B.length))) (fun id => decide (id < B.length)) }
          have hnotbox : ∀ t g, κ.perm t = some g → thawLim κ w B.length g = κ.lim g := by
            intro t g hg
            unfold thawLim
            rw [if_neg]
            rintro ⟨id, _, hb⟩
            exact (hi.conc.perm t g hg).2.2.1 id hb
          have hcell : ∀ id, id < B.length → ∀ j, Kept κ w κ' w (.cell id j) := fun id hid j => ⟨by simp [κ', outPerm, hid], fun g hg => ⟨hnotbox _ g hg, rfl⟩⟩
          have hpk := packOut_ok (κ := κ') (w := w) (cs := (vs0.map (PV.retag (outTag (C.esc fid) B.length))).map (thaw B.length s.B)) (us := us) (by simpa using hul) fun i c u hc hu => by
            have hcu : c.under B.length = true := by
              rw [PV.underL_eq] at hund
              exact List.all_eq_true.1 hund c (List.mem_of_getElem? hc)
            rw [List.getElem?_map] at hc
            obtain ⟨c0, hc0, rfl⟩ := Option.map_eq_some_iff.1 hc
            obtain ⟨h1, h2⟩ := hvs i c0 u hc0 hu
            have h3 : Rep κ' w (thaw B.length s.B c0) u := ((thaw_ok (n0 := B.length) hi.conc h1).cutOff hcu).mono ⟨fun _ => Nat.le_refl _, fun _ _ _ _ h => h, fun id b hb => hb⟩
            refine export1_ok (κ := κ) (vs := vs0.map (PV.retag (outTag (C.esc fid) B.length))) h3 ?_ (fun sz xs e t0 sz' xs' hh => ?_) (fun sz t xs e hl => ?_) rfl (fun t g hl hg => hnotbox t g hg)
            · rcases thaw_or B.length s.B c0 with e | ⟨id, n, e0, e | ⟨cs, _, _, _, _, e⟩⟩
              · rw [e]; exact h2
              · rw [e]; exact .of_no_occ fun sz t u ho => by cases ho
              · rw [e]; exact .of_no_occ fun sz t u ho => by cases ho; rfl
            · rcases thaw_or B.length s.B c0 with e1 | ⟨id, n, e0, _⟩
              · rw [e1] at e
                subst e
                rw [hc0] at hh
                simp only [Option.some.injEq, PV.list.injEq] at hh
                rw [← hh.2.1]; rfl
              · rw [hc0, e0] at hh
                cases hh
            · rcases thaw_or B.length s.B c0 with e1 | ⟨id, n, e0, e1 | ⟨cs, _, _, _, _, e1⟩⟩
              · rw [e1]; exact hc0
              · rw [e1] at e; cases e
              · rw [e1] at e
                simp only [PV.list.injEq] at e
                rw [← e.2.1] at hl
                cases hl
          refine ⟨hpk.2.2, _, κ', hrun, ⟨⟨⟨fun b => Nat.le_trans (hp.ext.le.lim b) (thawLim_le ..), hp.ext.le.cell, fun id b hb => cutK_mu_of (hp.ext.le.mu id b hb) (h0.mu id b hb).1⟩, hp.ext.base, hp.ext.prot, hp.ext.size, hp.ext.os, hp.ext.tape, hp.ext.output, fun b hb hs => ?_⟩, fun id hid hn j => (kept0 id hid hn j).trans (hcell id hid j), boxes0⟩, ?_, hpk.1, hpk.2.1, fun id hid => ?_⟩
          · obtain ⟨h1, h2⟩ := hp.ext.low b hb hs
            refine ⟨h1, ?_⟩
            show thawLim κ w B.length b = κ0.lim b
            rw [← h2]
            unfold thawLim
            rw [if_neg]
            rintro ⟨id, _, hb'⟩
            obtain ⟨_, h4, h5, _⟩ := hi.conc.mu id b hb'
            rw [hp.ext.base] at h4
            rw [hp.ext.prot] at h5
            rcases hb with hb | hb
            · omega
            · exact h5 hb
          · refine out_conc (κ' := κ') hcut rfl rfl rfl rfl (fun b => ?_) (fun t g hg => ?_) (outPerm_inj hi.conc hnd fun k sz id off xs hh => by have := (hcells k sz id off xs hh).1; simpa using this) (fun id hid j => ?_)
            · show thawLim κ w B.length b = κ.lim b ∨ (κ.lim b ≤ thawLim κ w B.length b ∧ b < w.heap.size ∧ ∀ id, (cutK κ B.length).mu id ≠ some b)
              by_cases hd : ∃ id, B.length ≤ id ∧ κ.mu id = some b
              · obtain ⟨id, hid, hb⟩ := hd
                refine .inr ⟨thawLim_le .., (hi.conc.mu id b hb).2.2.2, fun i hib => ?_⟩
                obtain ⟨h1, h2⟩ := cutK_mu hib
                have := hi.conc.inj i id b h2 hb
                omega
              · exact .inl (by unfold thawLim; rw [if_neg hd])
            · obtain ⟨h1, h2, h3, h4⟩ := permOK _ t g hg
              exact ⟨h1, h2, fun id hid => h3 id (cutK_mu hid).2, h4⟩
            · have hid' : id < B.length := by rw [cutB_len] at hid; omega
              refine ⟨?_, fun g hg => ⟨hnotbox _ g (cutK_perm hg), rfl⟩⟩
              simp [κ', outPerm, hid', cutK, Kap.trunc]
          · rcases hi.frz id hid.1 with h1 | h1
            · have := List.all_eq_true.1 hfz id h1
              simp only [decide_eq_true_eq] at this
              exact absurd hid.2 (by omega)
            · exact h1
        · cases h
    · cases h

def PrimOK (C : Cfg) : Prop := ∀ k p, C.prim k = some p → ∀ args B o, p args B = some o → ACall C k args B o

theorem results_tag {C : Cfg} {fn : Func} {fid n0 : Nat} {s : St} {o : Out} (h : results C fn fid n0 s = some o) : ResTag o.r := by
  unfold results at h
  have one := packOut_tag
  split at h
  · cases h
  · simp only at h
    split at h
    · split at h
      · split at h
        · simp only [Option.some.injEq] at h; subst h; exact one _
        · cases h
      · split at h
        · simp only [Option.some.injEq] at h; subst h; exact one _
        · cases h
    · cases h

theorem results_mods {C : Cfg} {fn : Func} {fid n0 : Nat} {s : St} {o : Out} (h : results C fn fid n0 s = some o) : o.mods = s.mods.filter (· < n0) := by
  unfold results at h
  split at h
  · cases h
  · simp only at h
    split at h
    · split at h
      · split at h
        · simp only [Option.some.injEq] at h; subst h; rfl
        · cases h
      · split at h
        · simp only [Option.some.injEq] at h; subst h; rfl
        · cases h
    · cases h

theorem Post.more {κ0 κ : Kap} {w0 w : World} {n : Nat} {m m' : List Nat} (h : Post κ0 w0 n m κ w) (hs : ∀ id ∈ m, id ∈ m') : Post κ0 w0 n m' κ w :=
  ⟨h.ext, fun id hid hn j => h.kept id hid (fun hh => hn (hs id hh)) j, fun id b hn hb => h.boxes id b (fun hh => hn (hs id hh)) hb⟩

theorem evalFn_ok {C : Cfg} (hC : CfgOK C) (hprim : PrimOK C) {call : FuncId → List PV → List (List PV) → Option Out} (hcall : CallsOK C call) (hg : CallGrow call) {k : FuncId} {args : List PV} {B : List (List PV)} {o : Out}
    (h : evalFn C call k args B = some o) : ACall C k args B o := by
  unfold evalFn at h
  split at h
  · rename_i p hk; exact hprim k p hk _ _ _ h
  · split at h
    · cases h
    · rename_i fn hfn
      split at h
      · cases h
      · rename_i c hb
        have main : ∀ (ex : Ex) (s : St), (ex = .normal ∨ ex = .ret) → evalCode C call k c 0 { f := args ++ List.replicate (fn.ntmps - args.length) .any, B := B, fz := [], mods := [] } = some (ex, s) → declR ((C.decl k).map (declIds args)) (results C fn k B.length s) = some o → ACall C k args B o := by
          intro ex s hex h1 h2'
          obtain ⟨o0, h2, hor, hoB, hom⟩ := declR_inv h2'
          obtain ⟨nm, e, g⟩ := evalCode_grow hg _ _ h1
          have e : nm = s.mods := by simpa using e.symm
          subst e
          have hres := results_tag h2
          rw [← hor] at hres
          refine ⟨hres, ⟨fn, hfn, by simp [hb]⟩, fun κ w vs hc hr ht hz => ?_⟩
          refine calls_of_wp hfn hb ?_
          have hi : Inv κ.frz κ w { f := args ++ List.replicate (fn.ntmps - args.length) .any, B := B, fz := [], mods := [] } { tmps := vs.toArray ++ Array.replicate (fn.ntmps - vs.toArray.size) undef, defers := [] } :=
            ⟨hc, FrameRel.start hr ht fn.ntmps, fun id hid => .inr hid, rfl⟩
          have hmods : ∀ id ∈ s.mods, ¬ κ.frz id := by
            intro id hid hf
            refine hz id (hom id ?_) hf
            have : o0.mods = s.mods.filter (· < B.length) := results_mods h2
            rw [this]
            exact List.mem_filter.2 ⟨hid, by simpa using hc.frzLt id hf⟩
          refine code_ok hC hcall hg c 0 (hC.plans k fn c hfn hb) h1 hi hmods (fun id hf => hc.frzLt id hf) fun a' κ' w' hi' hm => ?_
          obtain ⟨nm, e, hp⟩ := hm.ex
          have e : nm = s.mods := by simpa using e.symm
          subst e
          obtain ⟨_, v, κ2, hrun, r1, r2, r3, r4, r5⟩ := results_ok h2 hc hi' hp g
          replace r1 := r1.more hom
          rw [← hoB] at r2
          rw [← hor] at r3 r4
          rcases hex with rfl | rfl
          · exact ⟨hi'.defers, v, hrun, v, κ2, rfl, r1, r2, r3, r4, r5⟩
          · exact ⟨hi'.defers, v, hrun, v, κ2, rfl, r1, r2, r3, r4, r5⟩
        split at h
        · rename_i s h1; exact main _ s (.inl rfl) h1 h
        · rename_i s h1; exact main _ s (.inr rfl) h1 h
        · cases h
end Go.Q
