/-
  Operations that look at their operands alone: the evaluator tells what the model does.
-/
import Derived.Test.YtgcmbhfbdblfcaaQc
set_option linter.unusedVariables false
set_option linter.unusedSimpArgs false
namespace Go.Q

inductive HasK : List (Option IntKind) → List Value → Prop where
  | nil : HasK [] []
  | int {k : IntKind} {ks : List (Option IntKind)} {vs : List Value} (n : Int) (h : HasK ks vs) : HasK (some k :: ks) (.int k n :: vs)
  | bool {ks : List (Option IntKind)} {vs : List Value} (b : Bool) (h : HasK ks vs) : HasK (none :: ks) (.bool b :: vs)

def eqVals : List Value → List Value → Bool
  | [], [] => true
  | .int _ a :: xs, .int _ b :: ys => (a == b) && eqVals xs ys
  | .bool a :: xs, .bool b :: ys => (a == b) && eqVals xs ys
  | _, _ => false

def ZCell (z : PV) (v : Value) : Prop := (z = .sc v ∧ v.oneCell' = true) ∨ (∃ s, 0 < s ∧ z = .list s .full [] ∧ v = .slice none 0 0)

/-- What is asked of the tables. -/
structure CfgOK (C : Cfg) : Prop where
  mixed : C.P.follows .mixedOrders = true
  names : ∀ (k : Nat) fn, C.P.funcs[k]? = some fn → (fn.name == "runtime.NumGoroutine") = false
  zero : ∀ t, C.Z t ≠ [] → ∃ i z, C.P.info? t = some i ∧ i.zero = some z ∧ z.cells.size = i.size ∧ (C.Z t).length = i.size ∧ ∀ (j : Nat) c v, (C.Z t)[j]? = some c → z.cells[j]? = some v → ZCell c v
  plans : ∀ (k : Nat) fn c, C.P.funcs[k]? = some fn → fn.body = some c → plansB (C.plan k) c = true
  flds : ∀ t fs, C.Z t ≠ [] → C.P.underlying t = some (.struct fs) → ∀ f ∈ fs.toList, (C.P.info? f.type).isSome = true
  eq : ∀ t ks, C.eqT t = some ks → ∀ (vx vy : List Value), HasK ks vx → HasK ks vy → ∀ (x y : Operand) (w : World),
    (do eqGuard .eql t x y (.agg vx.toArray) (.agg vy.toArray); binOp .eql t (.agg vx.toArray) (.agg vy.toArray) : Sem Value).run C.P w = .ok (.bool (eqVals vx vy)) w ∧
    (do eqGuard .neq t x y (.agg vx.toArray) (.agg vy.toArray); binOp .neq t (.agg vx.toArray) (.agg vy.toArray) : Sem Value).run C.P w = .ok (.bool (!eqVals vx vy)) w

theorem Rep.zcell {κ : Kap} {w : World} {z : PV} {v : Value} (h : ZCell z v) : Rep κ w z v := by
  rcases h with ⟨rfl, _⟩ | ⟨s, hs, rfl, rfl⟩
  · exact .sc v
  · exact .list s .full [] none 0 0 0 [] hs (by simp) (Nat.le_refl _) (by simp [maxLen]) (fun _ => rfl) (by simp) rfl (fun i v hv => by simp at hv) (fun i c v hc => by simp at hc)
theorem Reps.zero {C : Cfg} (hC : CfgOK C) {t : TypeId} (h : C.Z t ≠ []) (κ : Kap) (w : World) : ∃ i z, C.P.info? t = some i ∧ i.zero = some z ∧ z.cells.size = i.size ∧ (C.Z t).length = i.size ∧ Reps κ w (C.Z t) z.cells.toList := by
  obtain ⟨i, z, hi, hz, h1, h2, h3⟩ := hC.zero t h
  exact ⟨i, z, hi, hz, h1, h2, ⟨by simp [h1, h2], fun j c v hc hv => .zcell (h3 j c v hc (by simpa using hv))⟩⟩

/-- The operation comes to 'v', in this world and in whatever world comes out of it, and nothing is written. -/
def Runs (P : Program) (κ : Kap) (w : World) (m : Sem Next) (v : Value) : Prop := ∀ κ2 w2, Le κ w κ2 w2 → m.run P w2 = .ok (.value v) w2

structure PureOK (P : Program) (κ : Kap) (w : World) (m : Sem Next) (p : PV) : Prop where
  ex : ∃ v, Runs P κ w m v ∧ Rep κ w p v ∧ TagsOK κ w p v

theorem Rep.nilList {κ : Kap} {w : World} {s : Nat} (hs : 0 < s) (t : Tag) : Rep κ w (.list s t []) (.slice none 0 0) :=
  .list s t [] none 0 0 0 [] hs (by simp) (Nat.le_refl _) (by simp [maxLen]) (fun _ => rfl) (by simp) rfl (fun i v hv => by simp at hv) (fun i c v hc => by simp at hc)

theorem norm_ok (C : Cfg) {κ : Kap} {w : World} {p : PV} {v : Value} (t : TypeId) (h : Rep κ w p v) (ht : TagsOK κ w p v) : Rep κ w (norm C t p) v ∧ TagsOK κ w (norm C t p) v := by
  unfold norm
  split
  · have hv := h.sc_inv
    split
    · split
      · rename_i hs
        rw [hv]
        exact ⟨.nilList hs .full, .of_no_occ fun sz t' u ho => by cases ho; rfl⟩
      · exact ⟨h, ht⟩
    · exact ⟨h, ht⟩
  · exact ⟨h, ht⟩

theorem TagsOK.sc {κ : Kap} {w : World} {u v : Value} : TagsOK κ w (.sc u) v := .of_no_occ fun sz t u ho => by cases ho
theorem TagsOK.ptr {κ : Kap} {w : World} {id off : Nat} {v : Value} : TagsOK κ w (.ptr id off) v := .of_no_occ fun sz t u ho => by cases ho
theorem TagsOK.eptr {κ : Kap} {w : World} {cs : List PV} {v : Value} : TagsOK κ w (.eptr cs) v := .of_no_occ fun sz t u ho => by cases ho
theorem TagsOK.fn {κ : Kap} {w : World} {k : FuncId} {cs : List PV} {v : Value} : TagsOK κ w (.fn k cs) v := .of_no_occ fun sz t u ho => by cases ho

theorem run_und {P : Program} {t : TypeId} {d : TypeDesc} (h : P.underlying t = some d) (w : World) : (underlying t).run P w = .ok d w := run_underlying h w

/-! ### Numbers -/
theorem scBin_ok {P : Program} {op : BinOp} {x y r : Value} (h : scBin op x y = some r) (t : TypeId) (ox oy : Operand) (w : World) :
    (do eqGuard op t ox oy x y; binOp op t x y : Sem Value).run P w = .ok r w := by
  unfold scBin at h
  split at h
  · rename_i k a k' b
    split at h
    · split at h
      · cases h
      · simp only [Option.some.injEq] at h; subst h
        rename_i hb
        simp [eqGuard, binOp, Op.shift, hb]
    · split at h
      · cases h
      · simp only [Option.some.injEq] at h; subst h
        rename_i hb
        simp [eqGuard, binOp, Op.shift, hb]
    · rename_i h1 h2
      split at h
      · rename_i hk
        subst hk
        split at h <;> first
          | (simp only [Option.some.injEq] at h; subst h; simp [eqGuard, binOp, Op.intArith, Op.intBits, Op.intCmp]; done)
          | (split at h; · cases h
             rename_i hb; simp only [Option.some.injEq] at h; subst h; simp [eqGuard, binOp, Op.intDiv, hb]; done)
          | cases h
      · cases h
  · rename_i a b
    split at h <;> first
      | (simp only [Option.some.injEq] at h; subst h; simp [eqGuard, binOp, Op.stringOp]; done)
      | cases h
  · cases h

theorem eqCells_ok {κ : Kap} {w : World} : ∀ {ks : List (Option IntKind)} {xs ys : List PV} {r : Bool} {vx vy : List Value}, eqCells ks xs ys = some r → Reps κ w xs vx → Reps κ w ys vy → HasK ks vx ∧ HasK ks vy ∧ r = eqVals vx vy := by
  intro ks
  induction ks with
  | nil =>
    intro xs ys r vx vy h hx hy
    cases xs <;> cases ys <;> simp [eqCells] at h
    have h1 := hx.len
    have h2 := hy.len
    cases vx <;> simp at h1
    cases vy <;> simp at h2
    exact ⟨.nil, .nil, by simp [eqVals, ← h]⟩
  | cons k ks ih =>
    intro xs ys r vx vy h hx hy
    unfold eqCells at h
    split at h
    · rename_i heq; cases heq
    · rename_i k0 ks0 k1 a xs0 k2 b ys0 heq
      cases heq
      split at h
      · rename_i hk
        obtain ⟨rfl, rfl⟩ := hk
        obtain ⟨r0, hr0, rfl⟩ := Option.map_eq_some_iff.1 h
        have h1 := hx.len
        have h2 := hy.len
        cases vx with
        | nil => simp at h1
        | cons v1 vx =>
          cases vy with
          | nil => simp at h2
          | cons v2 vy =>
            have e1 := hx.head.sc_inv
            have e2 := hy.head.sc_inv
            subst e1; subst e2
            obtain ⟨a1, a2, rfl⟩ := ih hr0 hx.tail hy.tail
            exact ⟨.int a a1, .int b a2, by simp [eqVals]⟩
      · cases h
    · rename_i ks0 a xs0 b ys0 heq
      cases heq
      obtain ⟨r0, hr0, rfl⟩ := Option.map_eq_some_iff.1 h
      have h1 := hx.len
      have h2 := hy.len
      cases vx with
      | nil => simp at h1
      | cons v1 vx =>
        cases vy with
        | nil => simp at h2
        | cons v2 vy =>
          have e1 := hx.head.sc_inv
          have e2 := hy.head.sc_inv
          subst e1; subst e2
          obtain ⟨a1, a2, rfl⟩ := ih hr0 hx.tail hy.tail
          exact ⟨.bool a a1, .bool b a2, by simp [eqVals]⟩
    · cases h

theorem PureOK.mk_ {P : Program} {κ : Kap} {w : World} {m : Sem Next} {p : PV} (v : Value) (h : Runs P κ w m v) (hr : Rep κ w p v) (ht : TagsOK κ w p v) : PureOK P κ w m p := ⟨⟨v, h, hr, ht⟩⟩

theorem run_equal_ptr_nil {P : Program} {t e : TypeId} (hu : P.underlying t = some (.pointer e)) (a : Addr) (w : World) :
    (Op.equalIn 10000 t (.pointer (some a)) (.pointer none)).run P w = .ok false w := by
  have h : ∀ d, (Op.equalIn (d + 1) t (.pointer (some a)) (.pointer none)).run P w = .ok false w := by
    intro d
    simp [Op.equalIn, run_und hu]
  exact h 9999

theorem binPV_ok {C : Cfg} (hC : CfgOK C) {κ : Kap} {w : World} {op : BinOp} {t : TypeId} {x y r : PV} {vx vy : Value} (h : binPV C op t x y = some r) (hx : Rep κ w x vx) (hy : Rep κ w y vy) (ox oy : Operand) :
    ∃ v, (∀ w2, (do eqGuard op t ox oy vx vy; binOp op t vx vy : Sem Value).run C.P w2 = .ok v w2) ∧ Rep κ w r v ∧ TagsOK κ w r v := by
  unfold binPV at h
  split at h
  · obtain ⟨r0, hr0, rfl⟩ := Option.map_eq_some_iff.1 h
    rw [hx.sc_inv, hy.sc_inv]
    exact ⟨r0, fun w2 => scBin_ok hr0 t ox oy w2, .sc _, .sc⟩
  · split at h
    · rename_i ks hks
      obtain ⟨ax, rfl, rx⟩ := hx.agg_inv
      obtain ⟨ay, rfl, ry⟩ := hy.agg_inv
      split at h
      · obtain ⟨r0, hr0, rfl⟩ := Option.map_eq_some_iff.1 h
        obtain ⟨k1, k2, rfl⟩ := eqCells_ok hr0 rx ry
        refine ⟨.bool (eqVals ax.toList ay.toList), fun w2 => ?_, .sc _, .sc⟩
        have := (hC.eq t ks hks _ _ k1 k2 ox oy w2).1
        simpa using this
      · obtain ⟨r0, hr0, rfl⟩ := Option.map_eq_some_iff.1 h
        obtain ⟨k1, k2, rfl⟩ := eqCells_ok hr0 rx ry
        refine ⟨.bool (!eqVals ax.toList ay.toList), fun w2 => ?_, .sc _, .sc⟩
        have := (hC.eq t ks hks _ _ k1 k2 ox oy w2).2
        simpa using this
      · cases h
    · cases h
  · rename_i id off
    have hy' := hy.sc_inv
    subst hy'
    cases hx with
    | ptr _ _ b hb =>
      split at h
      · rename_i e hu
        simp only [Option.some.injEq] at h; subst h
        refine ⟨.bool false, fun w2 => ?_, .sc _, .sc⟩
        simp [eqGuard, binOp, Op.equal, Op.maxDepth, run_equal_ptr_nil hu]
      · rename_i e hu
        simp only [Option.some.injEq] at h; subst h
        refine ⟨.bool true, fun w2 => ?_, .sc _, .sc⟩
        simp [eqGuard, binOp, Op.equal, Op.maxDepth, run_equal_ptr_nil hu]
      · cases h
  · cases h

theorem unPV_ok {P : Program} {κ : Kap} {w : World} {op : UnOp} {x r : PV} {vx : Value} (h : unPV op x = some r) (hx : Rep κ w x vx) :
    ∃ v, (∀ w2, (Op.unary op vx).run P w2 = .ok v w2) ∧ Rep κ w r v ∧ TagsOK κ w r v := by
  unfold unPV at h
  split at h
  · simp only [Option.some.injEq] at h; subst h
    rw [hx.sc_inv]
    exact ⟨_, fun w2 => by simp [Op.unary], .sc _, .sc⟩
  · simp only [Option.some.injEq] at h; subst h
    rw [hx.sc_inv]
    exact ⟨_, fun w2 => by simp [Op.unary, Op.intArith], .sc _, .sc⟩
  · simp only [Option.some.injEq] at h; subst h
    rw [hx.sc_inv]
    exact ⟨_, fun w2 => by simp [Op.unary, Op.intBits], .sc _, .sc⟩
  · cases h

theorem bytesOf_ok {κ : Kap} {w : World} : ∀ {xs : List PV} {l : List UInt8} {vs : List Value}, bytesOf xs = some l → Reps κ w xs vs → ∃ ns : List Int, vs = ns.map (Value.int .u8) ∧ l = ns.map fun n => UInt8.ofNat n.toNat := by
  intro xs
  induction xs with
  | nil => intro l vs h hx; simp [bytesOf] at h; subst h; have := hx.len; cases vs <;> simp at this; exact ⟨[], rfl, rfl⟩
  | cons x xs ih =>
    intro l vs h hx
    unfold bytesOf at h
    split at h
    · rename_i heq; cases heq
    · rename_i n xs0 heq
      cases heq
      obtain ⟨l0, h0, rfl⟩ := Option.map_eq_some_iff.1 h
      have h1 := hx.len
      cases vs with
      | nil => simp at h1
      | cons v vs =>
        have e := hx.head.sc_inv
        subst e
        obtain ⟨ns, rfl, rfl⟩ := ih h0 hx.tail
        exact ⟨n :: ns, rfl, rfl⟩
    · cases h

theorem flatMap_cells_one : ∀ {xs : List PV}, (∀ x ∈ xs, x.okElem 1 = true) → (∀ x ∈ xs, ∀ cs, x ≠ .agg cs) → xs.flatMap PV.cells = xs
  | [], _, _ => rfl
  | x :: xs, h, k => by
    simp only [List.flatMap_cons]
    rw [flatMap_cells_one (fun y hy => h y (List.mem_cons_of_mem _ hy)) (fun y hy => k y (List.mem_cons_of_mem _ hy))]
    have := k x (List.mem_cons_self ..)
    cases x <;> simp [PV.cells] at *

theorem bytesOf_noagg : ∀ {xs : List PV} {l : List UInt8}, bytesOf xs = some l → ∀ x ∈ xs, ∀ cs, x ≠ .agg cs := by
  intro xs
  induction xs with
  | nil => intro l h x hx; simp at hx
  | cons x xs ih =>
    intro l h y hy cs
    unfold bytesOf at h
    split at h
    · rename_i heq; cases heq
    · rename_i n xs0 heq
      cases heq
      obtain ⟨l0, h0, rfl⟩ := Option.map_eq_some_iff.1 h
      rcases List.mem_cons.1 hy with rfl | hy
      · simp
      · exact ih h0 y hy cs
    · cases h


theorem convPV_ok {P : Program} {κ : Kap} {w : World} {src dst : TypeId} {x r : PV} {vx : Value} (h : convPV P src dst x = some r) (hx : Rep κ w x vx) :
    ∃ v, (∀ κ2 w2, Le κ w κ2 w2 → (convert src dst vx).run P w2 = .ok v w2) ∧ Rep κ w r v ∧ TagsOK κ w r v := by
  unfold convPV at h
  split at h
  · rename_i k0 n d k hs hd
    simp only [Option.some.injEq] at h; subst h
    rw [hx.sc_inv]
    refine ⟨_, fun κ2 w2 _ => ?_, .sc _, .sc⟩
    cases d <;> simp [convert, run_und hs, run_und hd, Conv.intToInt]
  · rename_i sz t xs e hs hd
    split at h
    · rename_i he
      split at h
      · rename_i h1
        subst h1
        obtain ⟨l, hl, rfl⟩ := Option.map_eq_some_iff.1 h
        cases hx with
        | list _ _ _ a cap b off vs hpos hok hcap hmax hfull ha hlen hc hr =>
          rw [flatMap_cells_one hok (bytesOf_noagg hl)] at hlen hr
          obtain ⟨ns, rfl, rfl⟩ := bytesOf_ok hl ⟨hlen, hr⟩
          refine ⟨_, fun κ2 w2 k => ?_, .sc _, .sc⟩
          have hll : xs.length = ns.length := by simpa using hlen
          by_cases hx0 : xs = []
          · have hn : ns = [] := List.eq_nil_of_length_eq_zero (by rw [← hll, hx0]; rfl)
            subst hx0; subst hn
            rw [run_convert_bytes_string w2 src dst e a _ cap hs he hd]
            cases a with
            | none => simp [Conv.bytesToString]; rfl
            | some ad =>
              rw [run_bytesToString w2 ad _ cap [] (by simp [loadCells, loadCellsFrom])]
              rfl
          · rw [ha hx0]
            refine run_convert_bytes_arg w2 src e hs he b off _ cap ns hll.symm (fun i hi => ?_) dst hd
            have h1 := hc i (.int .u8 (ns.getD i 0)) (by simp [List.getElem?_eq_getElem (show i < ns.length by omega), List.getD_eq_getElem?_getD])
            exact k.cell _ _ _ h1.1 h1.2
      · cases h
    · cases h
  · cases h

/-! ### Places and parts -/
theorem info_of_cells {P : Program} {t : TypeId} (h : P.cellsOf t ≠ 0) : ∃ i, P.info? t = some i ∧ i.size = P.cellsOf t := by
  unfold Program.cellsOf at *
  cases hi : P.info? t with
  | none => simp [hi] at h
  | some i => exact ⟨i, rfl, by simp⟩
theorem add_plain_ (b off n : Nat) : (⟨b, off, none⟩ : Addr).add n = ⟨b, off + n, none⟩ := by unfold Addr.add; split <;> simp_all

theorem fieldOf_ok {P : Program} {t k o : Nat} {ft : TypeId} (h : fieldOf P t k = some (o, ft)) : ∃ fs f, P.underlying t = some (.struct fs) ∧ fs[k]? = some f ∧ f.offset = o ∧ f.type = ft ∧ P.cellsOf ft ≠ 0 := by
  unfold fieldOf at h
  split at h
  · rename_i fs hu
    split at h
    · rename_i f hf
      split at h
      · cases h
      · rename_i hn
        simp only [Option.some.injEq, Prod.mk.injEq] at h
        obtain ⟨rfl, rfl⟩ := h
        exact ⟨fs, f, hu, hf, rfl, rfl, hn⟩
    · cases h
  · cases h

theorem Rep.eptr_drop {κ : Kap} {w : World} {cs : List PV} {b off n : Nat} {vs : List Value} (hok : ∀ c ∈ cs, c.plain = true) (hl : cs.length = vs.length)
    (hc : ∀ (i : Nat) v, vs[i]? = some v → off + i < κ.lim b ∧ w.cell? ⟨b, off + i, none⟩ = some v)
    (hr : ∀ (i : Nat) c v, cs[i]? = some c → vs[i]? = some v → Rep κ w c v) : Rep κ w (.eptr (cs.drop n)) (.pointer (some ⟨b, off + n, none⟩)) := by
  refine .eptr _ b (off + n) (vs.drop n) (fun c hcm => hok c (List.mem_of_mem_drop hcm)) (by simp [hl]) (fun i v hv => ?_) (fun i c v hci hvi => ?_)
  · rw [List.getElem?_drop] at hv
    have := hc (n + i) v hv
    rw [show off + n + i = off + (n + i) from by omega]
    exact this
  · rw [List.getElem?_drop] at hci hvi
    exact hr _ c v hci hvi

theorem fieldAddrPV_ok {P : Program} {κ : Kap} {w : World} {t k : Nat} {x r : PV} {vx : Value} (h : fieldAddrPV P t k x = some r) (hx : Rep κ w x vx) :
    ∃ v, (∀ w2, (Instr.fieldAt t vx k).run P w2 = .ok v w2) ∧ Rep κ w r v ∧ TagsOK κ w r v := by
  unfold fieldAddrPV at h
  split at h
  · rename_i o ft hf
    obtain ⟨fs, f, hu, hfk, rfl, rfl, hn⟩ := fieldOf_ok hf
    obtain ⟨i, hi, hsz⟩ := info_of_cells hn
    have hrun : ∀ b off w2, (Instr.fieldAt t (.pointer (some ⟨b, off, none⟩)) k).run P w2 = .ok (.pointer (some ⟨b, off + f.offset, none⟩)) w2 := by
      intro b off w2
      have hs0 : i.size ≠ 0 := by rw [hsz]; exact hn
      simp [Instr.fieldAt, run_und hu, hfk, Instr.sureAddr, fieldPlace, sizeOf, typeInfo, hi, hs0, add_plain_]
    split at h
    · simp only [Option.some.injEq] at h; subst h
      cases hx with
      | ptr _ _ b hb => exact ⟨_, fun w2 => hrun b _ w2, .ptr _ _ b hb, .ptr⟩
    · split at h
      · simp only [Option.some.injEq] at h; subst h
        cases hx with
        | eptr cs b off vs hok hl hc hr => exact ⟨_, fun w2 => hrun b off w2, .eptr_drop hok hl hc hr, .eptr⟩
      · cases h
    · cases h
  · cases h

theorem knownT_ok {P : Program} {t : TypeId} (h : knownT P t = true) : ∃ d i, P.underlying t = some d ∧ P.info? t = some i ∧ i.size = P.cellsOf t := by
  simp only [knownT, Bool.and_eq_true, Option.isSome_iff_exists] at h
  obtain ⟨⟨d, hd⟩, ⟨i, hi⟩⟩ := h
  exact ⟨d, i, hd, hi, by simp [Program.cellsOf, hi]⟩

theorem run_isAgg {P : Program} {t : TypeId} {d : TypeDesc} (hd : P.underlying t = some d) (w : World) : (isAgg t).run P w = .ok (isAggT P t) w := by
  cases d <;> simp [isAgg, isAggT, run_und hd, hd]

theorem part_ok {P : Program} {κ : Kap} {w : World} {ft : TypeId} {cs : List PV} {vs : Array Value} {o : Nat} {r : PV} (hk : knownT P ft = true) (hr : Reps κ w cs vs.toList) (ho : o + P.cellsOf ft ≤ cs.length)
    (h : packT P ft ((cs.drop o).take (P.cellsOf ft)) = some r) : ∃ v, (∀ w2, (part ft vs o).run P w2 = .ok v w2) ∧ Rep κ w r v ∧ (∀ sz t u, Occ r v sz t u → ∃ (j : Nat) (c : PV) (cv : Value), cs[j]? = some c ∧ vs[j]? = some cv ∧ Occ c cv sz t u) := by
  obtain ⟨d, i, hd, hi, hsz⟩ := knownT_ok hk
  have hlen : cs.length = vs.size := by simpa using hr.len
  unfold packT at h
  split at h
  · rename_i ha
    simp only [Option.some.injEq] at h; subst h
    have hx : (vs.extract o (o + P.cellsOf ft)).toList = (vs.toList.drop o).take (P.cellsOf ft) := by
      simp [Array.toList_extract, List.extract, Nat.add_sub_cancel_left]
    refine ⟨.agg (vs.extract o (o + P.cellsOf ft)), fun w2 => ?_, ?_, fun sz t u ho' => ?_⟩
    · simp [part, run_isAgg hd, ha, sizeOf, typeInfo, hi, hsz]
    · have := (Rep.agg_of ((hr.drop o).take (P.cellsOf ft)))
      rw [← hx, Array.toArray_toList] at this
      exact this
    · cases ho' with
      | agg hc hv hh =>
        rename_i j c u0
        rw [List.getElem?_take] at hc
        split at hc
        · rename_i hj
          rw [List.getElem?_drop] at hc
          refine ⟨_, c, _, hc, ?_, hh⟩
          have h3 : (vs.extract o (o + P.cellsOf ft)).toList[j]? = some u0 := by rw [Array.getElem?_toList]; exact hv
          rw [hx, List.getElem?_take, if_pos hj, List.getElem?_drop, Array.getElem?_toList] at h3
          exact h3
        · cases hc
  · rename_i ha
    split at h
    · rename_i c hc1
      simp only [Option.some.injEq] at h; subst h
      have h1 : P.cellsOf ft = 1 ∨ 1 < P.cellsOf ft ∨ P.cellsOf ft = 0 := by omega
      have hl1 := congrArg List.length hc1
      simp at hl1
      have hn1 : P.cellsOf ft = 1 := by omega
      have hco : cs[o]? = some c := by
        rw [hn1] at hc1
        have := congrArg (·[0]?) hc1
        simpa [List.getElem?_take, List.getElem?_drop] using this
      have hvo : ∃ v, vs[o]? = some v := by
        have : o < vs.size := by omega
        exact ⟨_, Array.getElem?_eq_getElem this⟩
      obtain ⟨v, hv⟩ := hvo
      refine ⟨v, fun w2 => ?_, hr.at_ o c v hco (by simpa using hv), fun sz t u ho' => ⟨o, c, v, hco, hv, ho'⟩⟩
      simp [part, run_isAgg hd, ha, hv]
    · cases h

theorem fieldPV_ok {P : Program} {κ : Kap} {w : World} {t k : Nat} {x r : PV} {vx : Value} (h : fieldPV P t k x = some r) (hx : Rep κ w x vx) (htx : TagsOK κ w x vx) :
    ∃ v, (∀ w2, (Instr.field t vx k).run P w2 = .ok v w2) ∧ Rep κ w r v ∧ TagsOK κ w r v := by
  unfold fieldPV at h
  split at h
  · rename_i o ft cs hf
    obtain ⟨fs, f, hu, hfk, rfl, rfl, hn⟩ := fieldOf_ok hf
    split at h
    · rename_i hc
      obtain ⟨vs, rfl, hr⟩ := hx.agg_inv
      obtain ⟨v, hv, hrv, hocc⟩ := part_ok hc.2 hr hc.1 h
      refine ⟨v, fun w2 => ?_, hrv, fun sz t u ho => ?_⟩
      · simp [Instr.field, run_und hu, hfk, asAgg, hv]
      · obtain ⟨j, c, cv, h1, h2, h3⟩ := hocc sz t u ho
        exact htx sz t u (.agg h1 h2 h3)
    · cases h
  · cases h

theorem indexPV_ok {P : Program} {κ : Kap} {w : World} {t : Nat} {x i r : PV} {vx vi : Value} (h : indexPV P t x i = some r) (hx : Rep κ w x vx) (hi : Rep κ w i vi) (htx : TagsOK κ w x vx) :
    ∃ v, (∀ w2, (Instr.index t vx vi).run P w2 = .ok v w2) ∧ Rep κ w r v ∧ TagsOK κ w r v := by
  unfold indexPV at h
  split at h
  · rename_i k n len e cs hu
    split at h
    · rename_i hc
      obtain ⟨vs, rfl, hr⟩ := hx.agg_inv
      rw [hi.sc_inv]
      obtain ⟨d, inf, hd, hinf, hsz⟩ := knownT_ok hc.2.2.1
      obtain ⟨v, hv, hrv, hocc⟩ := part_ok hc.2.2.1 hr hc.2.2.2 h
      refine ⟨v, fun w2 => ?_, hrv, fun sz t u ho => ?_⟩
      · have hcc : 0 ≤ n ∧ n < (len : Int) := ⟨hc.1, hc.2.1⟩
        simp [Instr.index, asIntOf, run_und hu, hcc, sizeOf, typeInfo, hinf, hsz, hv]
      · obtain ⟨j, c, cv, h1, h2, h3⟩ := hocc sz t u ho
        exact htx sz t u (.agg h1 h2 h3)
    · cases h
  · cases h

/-- where an element of a list lies -/
theorem elem_at {xs : List PV} {sz : Nat} (hok : ∀ x ∈ xs, x.okElem sz = true) : ∀ {n : Nat} {y : PV}, xs[n]? = some y → ∀ {j : Nat} {c : PV}, y.cells[j]? = some c → (xs.flatMap PV.cells)[n * sz + j]? = some c := by
  induction xs with
  | nil => intro n y h; simp at h
  | cons x xs ih =>
    intro n y h j c hj
    have hx : x.cells.length = sz := by have := hok x (List.mem_cons_self ..); simp [PV.okElem] at this; exact this.1
    rw [List.flatMap_cons]
    cases n with
    | zero =>
      simp at h; subst h
      have hjl : j < x.cells.length := by
        rcases Nat.lt_or_ge j x.cells.length with h | h
        · exact h
        · rw [List.getElem?_eq_none h] at hj; cases hj
      rw [List.getElem?_append_left (by omega)]
      simpa using hj
    | succ n =>
      simp at h
      rw [List.getElem?_append_right (by rw [hx, Nat.add_mul, Nat.one_mul]; omega), hx]
      have := ih (fun z hz => hok z (List.mem_cons_of_mem _ hz)) h hj
      rw [show (n + 1) * sz + j - sz = n * sz + j from by rw [Nat.add_mul, Nat.one_mul]; omega]
      exact this

theorem length_flatMap_cells {xs : List PV} {sz : Nat} (hok : ∀ x ∈ xs, x.okElem sz = true) : (xs.flatMap PV.cells).length = xs.length * sz := by
  induction xs with
  | nil => simp
  | cons x xs ih =>
    have hx : x.cells.length = sz := by have := hok x (List.mem_cons_self ..); simp [PV.okElem] at this; exact this.1
    rw [List.flatMap_cons, List.length_append, ih fun z hz => hok z (List.mem_cons_of_mem _ hz), hx]
    simp [Nat.add_mul, Nat.add_comm]

theorem indexAddrPV_ok {P : Program} {κ : Kap} {w : World} {t : Nat} {x i r : PV} {vx vi : Value} (h : indexAddrPV P t x i = some r) (hx : Rep κ w x vx) (hi : Rep κ w i vi) :
    ∃ v, (∀ w2, (Instr.indexAt t vx vi).run P w2 = .ok v w2) ∧ Rep κ w r v ∧ TagsOK κ w r v := by
  unfold indexAddrPV at h
  split at h
  · rename_i k n
    rw [hi.sc_inv]
    split at h
    · rename_i e sz tg xs hu
      split at h
      · rename_i hc
        obtain ⟨h0, h1, rfl⟩ := hc
        obtain ⟨y, hy, rfl⟩ := Option.map_eq_some_iff.1 h
        cases hx with
        | list _ _ _ a cap b off vs hpos hok hcap hmax hfull ha hl hc hr =>
          have hne : xs ≠ [] := by intro e; subst e; simp at hy
          obtain ⟨inf, hinf, hsz⟩ := info_of_cells (P := P) (t := e) (by omega)
          rw [ha hne]
          refine ⟨.pointer (some ⟨b, off + n.toNat * P.cellsOf e, none⟩), fun w2 => ?_, ?_, .eptr⟩
          · have hcc : 0 ≤ n ∧ n < (xs.length : Int) := ⟨h0, h1⟩
            simp [Instr.indexAt, asIntOf, run_und hu, hcc, sizeOf, typeInfo, hinf, hsz, add_plain_]
          · have hyo : y.okElem (P.cellsOf e) = true := hok y (List.mem_of_getElem? hy)
            simp only [PV.okElem, Bool.and_eq_true, beq_iff_eq, List.all_eq_true] at hyo
            refine .eptr _ b (off + n.toNat * P.cellsOf e) ((vs.drop (n.toNat * P.cellsOf e)).take (P.cellsOf e)) hyo.2 ?_ ?_ ?_
            · have hlf := length_flatMap_cells hok
              have hnl : n.toNat < xs.length := by omega
              have : n.toNat * P.cellsOf e + P.cellsOf e ≤ xs.length * P.cellsOf e := by rw [← Nat.succ_mul]; exact Nat.mul_le_mul_right _ hnl
              simp [hyo.1]
              omega
            · intro j v hv
              rw [List.getElem?_take] at hv
              split at hv
              · rw [List.getElem?_drop] at hv
                have := hc _ v hv
                rw [show off + n.toNat * P.cellsOf e + j = off + (n.toNat * P.cellsOf e + j) from by omega]
                exact this
              · cases hv
            · intro j c v hcj hv
              rw [List.getElem?_take] at hv
              split at hv
              · rw [List.getElem?_drop] at hv
                exact hr _ c v (elem_at hok hy hcj) hv
              · cases hv
      · cases h
    · rename_i e id len hu
      split at h
      · rename_i hc
        simp only [Option.some.injEq] at h; subst h
        obtain ⟨h0, h1, h2⟩ := hc
        cases hx with
        | arr _ _ b hb hn =>
          obtain ⟨inf, hinf, hsz⟩ := info_of_cells (P := P) (t := e) (by omega)
          refine ⟨_, fun w2 => ?_, .ptr id n.toNat b hb, .ptr⟩
          have hcc : 0 ≤ n ∧ n < (len : Int) := ⟨h0, h1⟩
          simp [Instr.indexAt, asIntOf, run_und hu, hcc, sizeOf, typeInfo, hinf, hsz, add_plain_, ← h2]
      · cases h
    · rename_i len e id off hu
      split at h
      · rename_i hc
        simp only [Option.some.injEq] at h; subst h
        cases hx with
        | ptr _ _ b hb =>
          obtain ⟨inf, hinf, hsz⟩ := info_of_cells (P := P) (t := e) (by omega)
          refine ⟨_, fun w2 => ?_, .ptr id _ b hb, .ptr⟩
          have hcc : 0 ≤ n ∧ n < (len : Int) := ⟨hc.1, hc.2.1⟩
          simp [Instr.indexAt, Instr.sureAddr, asIntOf, run_und hu, hcc, sizeOf, typeInfo, hinf, hsz, add_plain_]
      · cases h
    · rename_i len e cs hu
      split at h
      · rename_i hc
        simp only [Option.some.injEq] at h; subst h
        cases hx with
        | eptr _ b off vs hok hl hcc hr =>
          obtain ⟨inf, hinf, hsz⟩ := info_of_cells (P := P) (t := e) (by omega)
          refine ⟨_, fun w2 => ?_, .eptr_drop (n := n.toNat * P.cellsOf e) hok hl hcc hr, .eptr⟩
          have hcc : 0 ≤ n ∧ n < (len : Int) := ⟨hc.1, hc.2.1⟩
          simp [Instr.indexAt, Instr.sureAddr, asIntOf, run_und hu, hcc, sizeOf, typeInfo, hinf, hsz, add_plain_]
      · cases h
    · cases h
  · cases h

theorem lenPV_ok {P : Program} {κ : Kap} {w : World} {t : TypeId} {x r : PV} {vx : Value} (h : lenPV P t x = some r) (hx : Rep κ w x vx) (ty : TypeId) :
    ∃ v, (∀ w2, (Builtin.len_ #[t] ty #[vx]).run P w2 = .ok v w2) ∧ Rep κ w r v ∧ TagsOK κ w r v := by
  unfold lenPV at h
  split at h
  · rename_i e sz tg xs hu
    simp only [Option.some.injEq] at h; subst h
    cases hx with
    | list _ _ _ a cap b off vs hpos hok hcap hmax hfull ha hl hc hr => exact ⟨_, fun w2 => by simp [Builtin.len_, run_und hu, goInt], .sc _, .sc⟩
  · rename_i e id n hu
    simp only [Option.some.injEq] at h; subst h
    cases hx with
    | arr _ _ b hb hn => exact ⟨_, fun w2 => by simp [Builtin.len_, run_und hu, goInt], .sc _, .sc⟩
  · rename_i e hu
    simp only [Option.some.injEq] at h; subst h
    rw [hx.sc_inv]
    exact ⟨_, fun w2 => by simp [Builtin.len_, run_und hu, goInt], .sc _, .sc⟩
  · rename_i s hu
    simp only [Option.some.injEq] at h; subst h
    rw [hx.sc_inv]
    exact ⟨_, fun w2 => by simp [Builtin.len_, run_und hu, goInt], .sc _, .sc⟩
  · rename_i n e hu
    simp only [Option.some.injEq] at h; subst h
    refine ⟨.int .i64 n, fun w2 => ?_, .sc _, .sc⟩
    cases vx <;> simp [Builtin.len_, run_und hu, goInt]
  · cases h

theorem minmaxPV_ok {P : Program} {κ : Kap} {w : World} (mx : Bool) : ∀ {ys : List PV} {x r : PV} {vx : Value} {vs : List Value}, minmaxPV mx x ys = some r → Rep κ w x vx → TagsOK κ w x vx → Reps κ w ys vs →
    ∃ v, (∀ w2, (vs.foldlM (if mx then Builtin.max2 else Builtin.min2) vx).run P w2 = .ok v w2) ∧ Rep κ w r v ∧ TagsOK κ w r v := by
  intro ys
  induction ys with
  | nil =>
    intro x r vx vs h hx ht hy
    have := hy.len
    cases vs with
    | cons v vs => simp at this
    | nil =>
      cases x <;> simp [minmaxPV] at h <;> subst h <;> exact ⟨vx, fun w2 => by simp, hx, ht⟩
  | cons y ys ih =>
    intro x r vx vs h hx ht hy
    cases vs with
    | nil => have := hy.len; simp at this
    | cons v vs =>
      unfold minmaxPV at h
      split at h
      · rename_i heq; cases heq
      · rename_i k a k' b ys0 heq
        cases heq
        rw [hx.sc_inv, hy.head.sc_inv]
        obtain ⟨v2, h2, h3, h4⟩ := ih h (.sc _) .sc hy.tail
        refine ⟨v2, fun w2 => ?_, h3, h4⟩
        cases mx
        · simp only [Bool.false_eq_true, if_false] at h2 ⊢
          simp only [List.foldlM_cons, Sem.run_bind, Builtin.min2, Sem.run_pure, Result.andThen_ok]
          exact h2 w2
        · simp only [if_true] at h2 ⊢
          simp only [List.foldlM_cons, Sem.run_bind, Builtin.max2, Sem.run_pure, Result.andThen_ok]
          exact h2 w2
      · cases h

/-! ### Slice expressions -/
theorem boundPV_ok {n d r : Nat} {x : Option PV} (h : boundPV n d x = some r) : (x = none ∧ r = d) ∨ (r ≤ n ∧ ∃ k, x = some (.sc (.int k r))) := by
  unfold boundPV at h
  split at h
  · simp at h; exact .inl ⟨rfl, h.symm⟩
  · split at h
    · rename_i k x hx
      simp at h
      refine .inr ⟨by omega, k, ?_⟩
      rw [show x = (r : Int) from by omega]
    · cases h
  · cases h
theorem fullPV_ok {h : Nat} {b : Bool} {x : Option PV} (e : fullPV h x = some b) : (x = none ∧ b = false) ∨ (b = true ∧ ∃ k, x = some (.sc (.int k h))) := by
  unfold fullPV at e
  split at e
  · simp at e; exact .inl ⟨rfl, e⟩
  · split at e
    · rename_i k m hm
      simp at e
      exact .inr ⟨e, k, by rw [hm]⟩
    · cases e
  · cases e

/-- operands that may be lacking -/
def RepO (κ : Kap) (w : World) (p : Option PV) (v : Option Value) : Prop := (p = none ∧ v = none) ∨ ∃ q u, p = some q ∧ v = some u ∧ Rep κ w q u
theorem RepO.none_ {κ : Kap} {w : World} {v : Option Value} (h : RepO κ w none v) : v = none := by rcases h with ⟨_, h⟩ | ⟨q, u, h, _⟩ <;> first | exact h | cases h
theorem RepO.int_ {κ : Kap} {w : World} {k : IntKind} {n : Int} {v : Option Value} (h : RepO κ w (some (.sc (.int k n))) v) : v = some (.int k n) := by
  rcases h with ⟨h, _⟩ | ⟨q, u, h, rfl, hr⟩
  · cases h
  · cases h; rw [hr.sc_inv]

theorem run_sliceBound {P : Program} (k : IntKind) (i y : Nat) (c : BoundsCode) (h : i ≤ y) (w : World) : (Instr.sliceBound (.int k i) y c).run P w = .ok i w := by
  have h2 : (0 : Int) ≤ i ∧ (i : Int) ≤ y := ⟨by omega, by omega⟩
  simp [Instr.sliceBound, asIntOf, h2]

theorem cutPV_ok {P : Program} {κ : Kap} {w : World} {n cap : Nat} (hcap : n ≤ cap) {lo hi mx : Option PV} {vlo vhi vmx : Option Value} {l h : Nat} {fl : Bool} (hh : cutPV n lo hi mx = some (l, h, fl))
    (rlo : RepO κ w lo vlo) (rhi : RepO κ w hi vhi) (rmx : RepO κ w mx vmx) :
    l ≤ h ∧ h ≤ n ∧ ∀ w2, (Instr.sliceBounds true n cap vlo vhi vmx).run P w2 = .ok (l, h, if fl then h else cap) w2 := by
  unfold cutPV at hh
  split at hh
  · cases hh
  rename_i hmh
  split at hh
  · cases hh
  · rename_i h' he
    split at hh
    · cases hh
    · rename_i b hb
      split at hh
      · cases hh
      · rename_i l' hl
        simp at hh
        obtain ⟨rfl, rfl, rfl⟩ := hh
        have e1 := boundPV_ok he
        have e2 := fullPV_ok hb
        have e3 := boundPV_ok hl
        have hhn : h' ≤ n := by rcases e1 with ⟨_, e⟩ | ⟨e, _⟩ <;> omega
        have hll : l' ≤ h' := by rcases e3 with ⟨_, e⟩ | ⟨e, _⟩ <;> omega
        refine ⟨hll, hhn, fun w2 => ?_⟩
        have hhc : h' ≤ cap := by omega
        have hlo : (vlo = none ∧ l' = 0) ∨ ∃ k : IntKind, vlo = some (.int k l') := by
          rcases e3 with ⟨rfl, e⟩ | ⟨_, k, rfl⟩
          · exact .inl ⟨rlo.none_, e⟩
          · exact .inr ⟨k, rlo.int_⟩
        have hhi : (vhi = none ∧ h' = n) ∨ ∃ k : IntKind, vhi = some (.int k h') := by
          rcases e1 with ⟨rfl, e⟩ | ⟨_, k, rfl⟩
          · exact .inl ⟨rhi.none_, e⟩
          · exact .inr ⟨k, rhi.int_⟩
        rcases e2 with ⟨rfl, rfl⟩ | ⟨rfl, k, rfl⟩
        · rw [rmx.none_]
          rcases hlo with ⟨rfl, rfl⟩ | ⟨k1, rfl⟩ <;> rcases hhi with ⟨rfl, rfl⟩ | ⟨k2, rfl⟩ <;>
            simp [Instr.sliceBounds, run_sliceBound, hll, hhc, hcap]
        · have hne : hi ≠ none := by intro e; subst e; simp at hmh
          have hhi : ∃ k : IntKind, vhi = some (.int k h') := by
            rcases e1 with ⟨e, _⟩ | ⟨_, k, rfl⟩
            · exact absurd e hne
            · exact ⟨k, rhi.int_⟩
          rw [rmx.int_]
          obtain ⟨k2, rfl⟩ := hhi
          rcases hlo with ⟨rfl, rfl⟩ | ⟨k1, rfl⟩ <;>
            simp [Instr.sliceBounds, run_sliceBound, hll, hhc, hcap]

theorem asList_ok {κ : Kap} {w : World} {sz : Nat} (hs : 0 < sz) {x : PV} {t : Tag} {xs : List PV} {v : Value} (h : asList sz x = some (t, xs)) (hx : Rep κ w x v) (ht : TagsOK κ w x v) : Rep κ w (.list sz t xs) v ∧ TagOK κ w t sz v := by
  unfold asList at h
  split at h
  · split at h
    · rename_i hz
      simp at h
      obtain ⟨rfl, rfl⟩ := h
      subst hz
      exact ⟨hx, ht _ _ _ .here⟩
    · cases h
  · simp at h
    obtain ⟨rfl, rfl⟩ := h
    rw [hx.sc_inv]
    exact ⟨.nilList hs _, .of_not_lin rfl⟩
  · cases h

theorem drop_flatMap_cells {sz : Nat} : ∀ {xs : List PV}, (∀ x ∈ xs, x.okElem sz = true) → ∀ l, (xs.drop l).flatMap PV.cells = (xs.flatMap PV.cells).drop (l * sz)
  | [], _, l => by simp
  | x :: xs, hok, 0 => by simp
  | x :: xs, hok, l + 1 => by
    have hx : x.cells.length = sz := by have := hok x (List.mem_cons_self ..); simp [PV.okElem] at this; exact this.1
    rw [List.drop_succ_cons, drop_flatMap_cells (fun y hy => hok y (List.mem_cons_of_mem _ hy)) l, List.flatMap_cons, List.drop_append, hx]
    rw [show (l + 1) * sz - sz = l * sz from by rw [Nat.add_mul, Nat.one_mul]; omega]
    rw [List.drop_eq_nil_of_le (as := x.cells) (by rw [hx, Nat.add_mul, Nat.one_mul]; omega)]
    simp
theorem take_flatMap_cells {sz : Nat} : ∀ {xs : List PV}, (∀ x ∈ xs, x.okElem sz = true) → ∀ l, (xs.take l).flatMap PV.cells = (xs.flatMap PV.cells).take (l * sz)
  | [], _, l => by simp
  | x :: xs, hok, 0 => by simp
  | x :: xs, hok, l + 1 => by
    have hx : x.cells.length = sz := by have := hok x (List.mem_cons_self ..); simp [PV.okElem] at this; exact this.1
    rw [List.take_succ_cons, List.flatMap_cons, take_flatMap_cells (fun y hy => hok y (List.mem_cons_of_mem _ hy)) l, List.flatMap_cons, List.take_append, hx]
    rw [show (l + 1) * sz - sz = l * sz from by rw [Nat.add_mul, Nat.one_mul]; omega]
    rw [List.take_of_length_le (l := x.cells) (by rw [hx, Nat.add_mul, Nat.one_mul]; omega)]

/-- a part of a list -/
theorem Rep.cut {κ : Kap} {w : World} {sz : Nat} {t : Tag} {xs : List PV} {a : Option Addr} {len cap l h m : Nat} (hr : Rep κ w (.list sz t xs) (.slice a len cap)) (hl : l ≤ h) (hh : h ≤ xs.length) (hm : h ≤ m) (hmc : m ≤ cap) (fl : Bool) (hfl : fl = true → m = h) :
    Rep κ w (.list sz (if fl then .full else .ro) ((xs.take h).drop l)) (.slice (if m = l then a else a.map (·.add (l * sz))) (h - l) (m - l)) := by
  cases hr with
  | list _ _ _ _ _ b off vs hpos hok hcap hmax hfull ha hlen hc hr =>
    have hok' : ∀ x ∈ (xs.take h).drop l, x.okElem sz = true := fun x hx => hok x (List.mem_of_mem_take (List.mem_of_mem_drop hx))
    have hle : ((xs.take h).drop l).length = h - l := by simp; omega
    have hfm : ((xs.take h).drop l).flatMap PV.cells = (((xs.flatMap PV.cells).take (h * sz)).drop (l * sz)) := by
      rw [drop_flatMap_cells (fun x hx => hok x (List.mem_of_mem_take hx)), take_flatMap_cells hok]
    rw [← hle]
    refine .list sz _ _ _ _ b (off + l * sz) ((vs.take (h * sz)).drop (l * sz)) hpos hok' (by rw [hle]; omega) (by omega) ?_ ?_ ?_ ?_ ?_
    · intro e
      cases fl
      · simp at e
      · rw [hle, hfl rfl]
    · intro hne
      have hlh : l < h := by
        rcases Nat.lt_or_ge l h with h1 | h1
        · exact h1
        · exfalso; apply hne; apply List.eq_nil_of_length_eq_zero; rw [hle]; omega
      have hxne : xs ≠ [] := by intro e; subst e; simp at hh; omega
      rw [if_neg (by omega), ha hxne]
      simp [add_plain_]
    · rw [hfm]; simp [hlen]
    · intro i v hv
      rw [List.getElem?_drop, List.getElem?_take] at hv
      split at hv
      · have := hc _ v hv
        rw [show off + l * sz + i = off + (l * sz + i) from by omega]
        exact this
      · cases hv
    · intro i c v hci hvi
      rw [hfm, List.getElem?_drop, List.getElem?_take] at hci
      rw [List.getElem?_drop, List.getElem?_take] at hvi
      split at hci
      · rename_i hlt
        rw [if_pos hlt] at hvi
        exact hr _ c v hci hvi
      · cases hci

theorem slicePV_ok {P : Program} {κ : Kap} {w : World} {t : TypeId} {x r : PV} {lo hi mx : Option PV} {vx : Value} {vlo vhi vmx : Option Value} (h : slicePV P t x lo hi mx = some r) (hx : Rep κ w x vx) (htx : TagsOK κ w x vx)
    (rlo : RepO κ w lo vlo) (rhi : RepO κ w hi vhi) (rmx : RepO κ w mx vmx) :
    ∃ v, (∀ w2, (Instr.sliceAt t vx vlo vhi vmx).run P w2 = .ok v w2) ∧ Rep κ w r v ∧ TagsOK κ w r v := by
  unfold slicePV at h
  split at h
  · rename_i e hu
    split at h
    · rename_i tg xs hx1
      split at h
      · rename_i l hh fl hcut
        split at h
        · rename_i hpos
          simp only [Option.some.injEq] at h; subst h
          obtain ⟨hxr, _⟩ := asList_ok hpos hx1 hx htx
          obtain ⟨inf, hinf, hsz⟩ := info_of_cells (P := P) (t := e) (by omega)
          have hsh : ∃ a cap, vx = .slice a xs.length cap ∧ xs.length ≤ cap := by
            cases hxr with
            | list _ _ _ a cap b off vs hpos hok hcap hmax hfull ha hl hc hr => exact ⟨a, cap, rfl, hcap⟩
          obtain ⟨a, cap, rfl, hcap⟩ := hsh
          obtain ⟨h1, h2, h3⟩ := cutPV_ok (P := P) hcap hcut rlo rhi rmx
          refine ⟨_, fun w2 => ?_, hxr.cut (m := if fl then hh else cap) h1 h2 (by cases fl <;> simp <;> omega) (by cases fl <;> simp <;> omega) fl (fun e => by simp [e]), .of_no_occ fun sz t' u ho => ?_⟩
          · simp [Instr.sliceAt, Instr.slice, run_und hu, h3, sizeOf, typeInfo, hinf, hsz]
          · cases ho; cases fl <;> rfl
        · cases h
      · cases h
    · cases h
  · cases h

/-! ### Structs and arrays that are built -/
theorem getElem?_foldl_set (off : Nat) : ∀ (v : List Value) (k : Nat) (cs : Array Value) (i : Nat), off + k + v.length ≤ cs.size →
    ((v.zipIdx k).foldl (fun cs (c, j) => cs.setIfInBounds (off + j) c) cs)[i]? = if off + k ≤ i ∧ i < off + k + v.length then v[i - (off + k)]? else cs[i]?
  | [], k, cs, i, _ => by simp; omega
  | x :: v, k, cs, i, h => by
    simp only [List.length_cons] at h
    rw [List.zipIdx_cons, List.foldl_cons, getElem?_foldl_set off v (k + 1) _ i (by simp; omega)]
    simp only [List.length_cons]
    by_cases h1 : off + k = i
    · subst h1
      rw [if_neg (by omega), if_pos (by omega)]
      simp [show off + k < cs.size from by omega]
    · rw [Array.getElem?_setIfInBounds_ne h1]
      by_cases h2 : off + (k + 1) ≤ i ∧ i < off + (k + 1) + v.length
      · rw [if_pos h2, if_pos (by omega)]
        rw [show i - (off + k) = (i - (off + (k + 1))) + 1 from by omega]
        simp
      · rw [if_neg h2, if_neg (by omega)]

theorem foldl_set_zipIdx (off : Nat) (v : Array Value) (cs : Array Value) (h : off + v.size ≤ cs.size) :
    (v.zipIdx.foldl (fun cs (c, j) => cs.setIfInBounds (off + j) c) cs).toList = cs.toList.take off ++ v.toList ++ cs.toList.drop (off + v.size) := by
  rw [← Array.foldl_toList, Array.toList_zipIdx]
  apply List.ext_getElem?
  intro i
  rw [Array.getElem?_toList]
  have := getElem?_foldl_set off v.toList 0 cs i (by simpa using h)
  simp only [Nat.add_zero, Array.length_toList] at this
  rw [this]
  split
  · rename_i hi
    rw [List.append_assoc, List.getElem?_append_right (by simp; omega), List.getElem?_append_left (by simp; omega)]
    simp [show min off cs.size = off from by omega]
  · rename_i hi
    by_cases h1 : i < off
    · rw [List.append_assoc, List.getElem?_append_left (by simp; omega), List.getElem?_take, if_pos h1]
      simp
    · rw [List.getElem?_append_right (by simp; omega), List.getElem?_drop]
      rw [show off + v.size + (i - (cs.toList.take off ++ v.toList).length) = i from by simp; omega]
      simp

theorem fillPV_ok {κ : Kap} {w : World} (place : Nat → Option (Nat × Nat)) : ∀ {ps : List (Nat × Nat × List PV)} {zs cs : List PV} {parts : List (Nat × Value)} {zv : Array Value}, fillPV zs ps = some cs → Reps κ w zs zv.toList →
    ps.length = parts.length → (∀ (i : Nat) q v, ps[i]? = some q → parts[i]? = some v → place v.1 = some (q.1, q.2.1) ∧ (q.2.2.all PV.okCell = true → Reps κ w q.2.2 v.2.cells.toList)) →
    ∃ cv, Instr.fill place zv parts = some cv ∧ Reps κ w cs cv.toList := by
  intro ps
  induction ps with
  | nil =>
    intro zs cs parts zv h hz hl hp
    cases parts with
    | nil => simp [fillPV] at h; subst h; exact ⟨zv, rfl, hz⟩
    | cons v parts => simp at hl
  | cons q ps ih =>
    intro zs cs parts zv h hz hl hp
    cases parts with
    | nil => simp at hl
    | cons v parts =>
      obtain ⟨off, size, l⟩ := q
      obtain ⟨i, v⟩ := v
      unfold fillPV at h
      split at h
      · rename_i hc
        obtain ⟨h1, h2, h3⟩ := hc
        obtain ⟨e1, e2⟩ := hp 0 _ _ rfl rfl
        simp only at e1 e2
        have er := e2 h3
        have hvl : v.cells.size = size := by have := er.len; simp at this; omega
        have hzl : zs.length = zv.size := by simpa using hz.len
        have hset := foldl_set_zipIdx off v.cells zv (by omega)
        have hr2 : Reps κ w (zs.take off ++ l ++ zs.drop (off + size)) (v.cells.zipIdx.foldl (fun cs (c, j) => cs.setIfInBounds (off + j) c) zv).toList := by
          rw [hset, hvl]
          exact ((hz.take off).append er).append (hz.drop (off + size))
        obtain ⟨cv, hcv, hrc⟩ := ih h hr2 (by simpa using hl) (fun j q v hq hv => hp (j + 1) q v (by simpa using hq) (by simpa using hv))
        refine ⟨cv, ?_, hrc⟩
        rw [Instr.fill, e1]
        simp only
        rw [if_neg (by simp [hvl]; omega)]
        exact hcv
      · cases h

theorem Rep.clean_cells {κ : Kap} {w : World} {p : PV} {v : Value} (h : Rep κ w p v) (hp : p.clean.cells.all PV.okCell = true) : Reps κ w p.clean.cells v.cells.toList := h.clean.cells_ (.inl hp)

theorem run_places {P : Program} : ∀ (fs : List Field), (∀ f ∈ fs, (P.info? f.type).isSome = true) → ∀ w,
    (fs.mapM (fun f => do pure (f.offset, ← sizeOf f.type)) : Sem (List (Nat × Nat))).run P w = .ok (fs.map fun f => (f.offset, P.cellsOf f.type)) w
  | [], _, w => by simp
  | f :: fs, h, w => by
    have ih := run_places fs (fun g hg => h g (List.mem_cons_of_mem _ hg)) w
    obtain ⟨i, hi⟩ := Option.isSome_iff_exists.1 (h f (List.mem_cons_self ..))
    simp only [List.mapM_cons, Sem.run_bind]
    simp [sizeOf, typeInfo, hi, Program.cellsOf] at ih ⊢
    rw [ih]
    simp

theorem run_zeroValue {P : Program} {t : TypeId} {i : TypeInfo} {z : Value} (hi : P.info? t = some i) (hz : i.zero = some z) (w : World) : (zeroValue t).run P w = .ok z w := by
  simp [zeroValue, typeInfo, hi, hz]

theorem fieldParts_ok {P : Program} {fs : Array Field} : ∀ {parts : List (Nat × PV)} {ps : List (Nat × Nat × List PV)}, fieldParts P fs parts = some ps →
    ps.length = parts.length ∧ ∀ (j : Nat) q, parts[j]? = some q → ∃ f, fs[q.1]? = some f ∧ ps[j]? = some (f.offset, P.cellsOf f.type, q.2.clean.cells)
  | [], ps, h => by simp [fieldParts] at h; subst h; exact ⟨rfl, fun j q hq => by simp at hq⟩
  | (i, v) :: r, ps, h => by
    unfold fieldParts at h
    split at h
    · rename_i f hf
      split at h
      · rename_i l hl
        simp at h; subst h
        obtain ⟨h1, h2⟩ := fieldParts_ok hl
        refine ⟨by simp [h1], fun j q hq => ?_⟩
        cases j with
        | zero => simp at hq; subst hq; exact ⟨f, hf, rfl⟩
        | succ j => simp at hq ⊢; exact h2 j q hq
      · cases h
    · cases h

theorem fillPV_cells : ∀ {ps : List (Nat × Nat × List PV)} {zs cs : List PV}, fillPV zs ps = some cs → (∀ c ∈ zs, c.okCell = true) → ∀ c ∈ cs, c.okCell = true := by
  intro ps
  induction ps with
  | nil => intro zs cs h hz; simp [fillPV] at h; subst h; exact hz
  | cons q ps ih =>
    intro zs cs h hz
    obtain ⟨off, size, l⟩ := q
    unfold fillPV at h
    split at h
    · rename_i hc
      refine ih h fun c hcm => ?_
      simp only [List.mem_append] at hcm
      rcases hcm with (hcm | hcm) | hcm
      · exact hz c (List.mem_of_mem_take hcm)
      · exact List.all_eq_true.1 hc.2.2 c hcm
      · exact hz c (List.mem_of_mem_drop hcm)
    · cases h

theorem ZCell.okCell {c : PV} {v : Value} (h : ZCell c v) : c.okCell = true := by
  rcases h with ⟨rfl, h⟩ | ⟨s, _, rfl, _⟩
  · exact h
  · rfl

theorem TagsOK.agg_ok {κ : Kap} {w : World} {cs : List PV} {v : Value} (h : ∀ c ∈ cs, c.okCell = true) : TagsOK κ w (.agg cs) v := by
  refine .of_no_occ fun sz t u ho => ?_
  cases ho with
  | agg hc hv hh =>
    have := h _ (List.mem_of_getElem? hc)
    cases hh <;> simp [PV.okCell] at this
    exact this

theorem buildPV_ok {C : Cfg} (hC : CfgOK C) {κ : Kap} {w : World} {t : TypeId} {parts : List (Nat × PV)} {vs : List (Nat × Value)} {r : PV} (h : buildPV C t parts = some r)
    (hl : parts.length = vs.length) (hp : ∀ (i : Nat) q v, parts[i]? = some q → vs[i]? = some v → q.1 = v.1 ∧ Rep κ w q.2 v.2) :
    ∃ v, (∀ w2, (Instr.build t vs.toArray).run C.P w2 = .ok v w2) ∧ Rep κ w r v ∧ TagsOK κ w r v := by
  unfold buildPV at h
  split at h
  · cases h
  rename_i hne
  have hne' : C.Z t ≠ [] := by intro e; simp [e] at hne
  obtain ⟨i, z, hi, hz, hzs, hzl, hzr⟩ := Reps.zero hC hne' κ w
  have hzok : ∀ c ∈ C.Z t, c.okCell = true := by
    obtain ⟨i', z', hi', hz', h1', h2', h3'⟩ := hC.zero t hne'
    intro c hc
    obtain ⟨j, hj⟩ := List.mem_iff_getElem?.1 hc
    have hjl : j < z'.cells.size := by
      have := (List.getElem?_eq_some_iff.1 hj).1
      omega
    exact (h3' j c _ hj (Array.getElem?_eq_getElem hjl)).okCell
  split at h
  · rename_i fs hu
    split at h
    · rename_i ps hps
      obtain ⟨cs, hcs, rfl⟩ := Option.map_eq_some_iff.1 h
      obtain ⟨hpl, hpp⟩ := fieldParts_ok hps
      obtain ⟨cv, hcv, hcr⟩ := fillPV_ok (κ := κ) (w := w) ((fs.toList.map fun f => (f.offset, C.P.cellsOf f.type)).toArray[·]?) (parts := vs) hcs hzr (by omega) (fun j q v hq hv => by
        obtain ⟨q0, hq0⟩ : ∃ q0, parts[j]? = some q0 := ⟨_, List.getElem?_eq_getElem (by have := (List.getElem?_eq_some_iff.1 hv).1; omega)⟩
        obtain ⟨f, hf, hpj⟩ := hpp j q0 hq0
        rw [hpj] at hq
        simp only [Option.some.injEq] at hq
        subst hq
        obtain ⟨e1, e2⟩ := hp j q0 v hq0 hv
        refine ⟨?_, fun hall => Rep.clean_cells e2 hall⟩
        rw [← e1]
        simp [hf])
      refine ⟨.agg cv, fun w2 => ?_, ?_, .agg_ok (fillPV_cells hcs hzok)⟩
      · have hpl2 := run_places (P := C.P) fs.toList (hC.flds t fs hne' hu) w2
        simp only [Instr.build, Sem.run_bind, run_zeroValue hi hz, run_und hu, Result.andThen_ok, Array.mapM_eq_mapM_toList]
        simp only [Sem.run_pure, Result.andThen_ok, Sem.run_bind, map_eq_pure_bind, hpl2, hcv]
      · have := Rep.agg_of hcr
        rwa [Array.toArray_toList] at this
    · cases h
  · rename_i n e hu
    split at h
    · cases h
    rename_i hn0
    obtain ⟨cs, hcs, rfl⟩ := Option.map_eq_some_iff.1 h
    obtain ⟨ie, hie, hsz⟩ := info_of_cells (P := C.P) (t := e) (by omega)
    obtain ⟨cv, hcv, hcr⟩ := fillPV_ok (κ := κ) (w := w) (fun i => some (i * C.P.cellsOf e, C.P.cellsOf e)) (parts := vs) hcs hzr (by simpa using hl) (fun j q v hq hv => by
      rw [List.getElem?_map] at hq
      obtain ⟨q0, hq0, rfl⟩ := Option.map_eq_some_iff.1 hq
      obtain ⟨e1, e2⟩ := hp j q0 v hq0 hv
      exact ⟨by rw [← e1], fun hall => Rep.clean_cells e2 hall⟩)
    refine ⟨.agg cv, fun w2 => ?_, ?_, .agg_ok (fillPV_cells hcs hzok)⟩
    · simp only [Instr.build, Sem.run_bind, run_zeroValue hi hz, run_und hu, Result.andThen_ok, sizeOf, typeInfo]
      simp [hie, hsz, hcv]
    · have := Rep.agg_of hcr
      rwa [Array.toArray_toList] at this
  · cases h

/-! ### All of them -/
theorem RepO.map {κ : Kap} {w : World} {f : List PV} {a : Act} (hf : FrameRel κ w f a.tmps) (x : Option Operand) : RepO κ w (x.map (opv f)) (x.map a.eval) := by
  cases x with
  | none => exact .inl ⟨rfl, rfl⟩
  | some x => exact .inr ⟨_, _, rfl, rfl, (hf.opv x).1⟩

theorem reps_opv {κ : Kap} {w : World} {f : List PV} {a : Act} (hf : FrameRel κ w f a.tmps) (xs : List Operand) : Reps κ w (xs.map (opv f)) (xs.map a.eval) := by
  refine ⟨by simp, fun i c v hc hv => ?_⟩
  rw [List.getElem?_map] at hc hv
  obtain ⟨x, hx, rfl⟩ := Option.map_eq_some_iff.1 hc
  rw [hx] at hv
  simp at hv
  subst hv
  exact (hf.opv x).1

def PureRun (P : Program) (κ : Kap) (w : World) (m : Sem Next) (p : PV) : Prop := ∃ v, Runs P κ w m v ∧ Rep κ w p v ∧ TagsOK κ w p v

theorem PureRun.of {P : Program} {κ : Kap} {w : World} {m : Sem Next} {p : PV} {n : Sem Value} (h : ∃ v, (∀ w2, n.run P w2 = .ok v w2) ∧ Rep κ w p v ∧ TagsOK κ w p v) (e : ∀ w2 v, n.run P w2 = .ok v w2 → m.run P w2 = .ok (.value v) w2) : PureRun P κ w m p := by
  obtain ⟨v, h1, h2, h3⟩ := h
  exact ⟨v, fun κ2 w2 _ => e w2 v (h1 w2), h2, h3⟩

theorem pureOp_ok {C : Cfg} (hC : CfgOK C) {κ : Kap} {w : World} {f : List PV} {a : Act} {o : Oper} {p : PV} (h : pureOp C f o = some p) (hf : FrameRel κ w f a.tmps) : PureRun C.P κ w (execOp a.eval o) p := by
  obtain ⟨dst, op, ty, pos, aft, gd⟩ := o
  unfold pureOp at h
  simp only at h
  split at h
  · rename_i x
    simp only [Option.some.injEq] at h; subst h
    have h1 := hf.opv x
    obtain ⟨h2, h3⟩ := norm_ok C ty h1.1 h1.2
    exact ⟨a.eval x, fun κ2 w2 _ => by simp [execOp], h2, h3⟩
  · rename_i c x y
    split at h
    · rename_i b hb
      simp only [Option.some.injEq] at h; subst h
      have hc := (hf.opv c).1
      rw [hb] at hc
      refine ⟨if b then a.eval x else a.eval y, fun κ2 w2 _ => ?_, ?_, ?_⟩
      · simp [execOp, hc.sc_inv, asBool]
      · cases b <;> simp [hf.opv]
      · cases b <;> simp [hf.opv]
    · cases h
  · rename_i t parts
    refine .of (n := Instr.build t ((parts.toList.map fun (i, x) => (i, a.eval x)).toArray)) (buildPV_ok hC h (by simp) fun i q v hq hv => ?_) (fun w2 v hv => ?_)
    · rw [List.getElem?_map] at hq hv
      obtain ⟨x, hx, rfl⟩ := Option.map_eq_some_iff.1 hq
      rw [hx] at hv
      simp at hv
      subst hv
      exact ⟨rfl, (hf.opv x.2).1⟩
    · have e : (parts.toList.map fun (i, x) => (i, a.eval x)).toArray = parts.map fun (i, x) => (i, a.eval x) := by rw [← Array.toList_map, Array.toArray_toList]
      rw [e] at hv
      simp [execOp, hv]
  · rename_i x
    have hx := (hf.opv x).1
    split at h
    · rename_i id off hx2
      simp only [Option.some.injEq] at h; subst h
      rw [hx2] at hx
      cases hv : a.eval x <;> rw [hv] at hx <;> cases hx
      rename_i b hb
      exact ⟨_, fun κ2 w2 _ => by simp [execOp, hv], .ptr id off b hb, .ptr⟩
    · rename_i cs hx2
      simp only [Option.some.injEq] at h; subst h
      rw [hx2] at hx
      have hx' := hx
      cases hv : a.eval x <;> rw [hv] at hx <;> cases hx
      exact ⟨a.eval x, fun κ2 w2 _ => by simp [execOp, hv], hx', .eptr⟩
    · rename_i g cap hx2
      simp only [Option.some.injEq] at h; subst h
      rw [hx2] at hx
      have hx' := hx
      cases hv : a.eval x <;> rw [hv] at hx <;> cases hx
      exact ⟨a.eval x, fun κ2 w2 _ => by simp [execOp, hv], hx', .fn⟩
    · cases h
  · rename_i op t x y yt
    refine .of (n := do eqGuard op t x y (a.eval x) (a.eval y); binOp op t (a.eval x) (a.eval y)) (binPV_ok hC h (hf.opv x).1 (hf.opv y).1 x y) (fun w2 v hv => ?_)
    simp only [execOp]
    simp only [Sem.run_bind, Sem.run_pure] at hv ⊢
    rw [hv]; rfl
  · rename_i op t x
    exact .of (unPV_ok h (hf.opv x).1) (fun w2 v hv => by simp [execOp, hv])
  · rename_i src dst x
    obtain ⟨v, h1, h2, h3⟩ := convPV_ok h (hf.opv x).1
    exact ⟨v, fun κ2 w2 k => by simp [execOp, h1 κ2 w2 k], h2, h3⟩
  · rename_i fn first captured
    split at h
    · rename_i g
      split at h
      · rename_i hfi
        simp only [Option.some.injEq] at h; subst h
        subst hfi
        have ec : (captured.toList.map a.eval).toArray = captured.map a.eval := by rw [← Array.toList_map, Array.toArray_toList]
        refine ⟨.func (.func g) #[] (captured.map a.eval), fun κ2 w2 _ => by simp [execOp, Instr.makeFunc], ?_, .fn⟩
        rw [← ec]
        have hr := reps_opv hf captured.toList
        have hr2 := hr.map PV.flat fun c v _ hc => hc.flat
        simp only [List.map_map] at hr2
        exact .fn g _ _ hr2.len hr2.at_
      · cases h
    · cases h
  · rename_i s x k
    exact .of (fieldAddrPV_ok h (hf.opv x).1) (fun w2 v hv => by simp [execOp, hv])
  · rename_i t x k
    exact .of (fieldPV_ok h (hf.opv x).1 (hf.opv x).2) (fun w2 v hv => by simp [execOp, hv])
  · rename_i t x i
    exact .of (indexAddrPV_ok h (hf.opv x).1 (hf.opv i).1) (fun w2 v hv => by simp [execOp, hv])
  · rename_i t x i
    exact .of (indexPV_ok h (hf.opv x).1 (hf.opv i).1 (hf.opv x).2) (fun w2 v hv => by simp [execOp, hv])
  · rename_i t i
    have ht := hf.opv t
    split at h
    · rename_i vs hvs
      rw [hvs] at ht
      obtain ⟨av, hav, hr⟩ := ht.1.tuple_inv
      have hi : ∃ v, av[i]? = some v := by
        have := (List.getElem?_eq_some_iff.1 h).1
        have hl := hr.len
        simp at hl
        exact ⟨_, Array.getElem?_eq_getElem (by omega)⟩
      obtain ⟨v, hv⟩ := hi
      refine ⟨v, fun κ2 w2 _ => ?_, hr.at_ i p v h (by simpa using hv), fun sz t' u ho => ?_⟩
      · simp [execOp, hav, Instr.extract, hv]
      · rw [hav] at ht
        exact ht.2 sz t' u (.tuple h hv ho)
    · cases h
  · rename_i t x lo hi mx
    exact .of (slicePV_ok h (hf.opv x).1 (hf.opv x).2 (.map hf lo) (.map hf hi) (.map hf mx)) (fun w2 v hv => by simp [execOp, hv])
  · rename_i c
    obtain ⟨callee, args, argTypes⟩ := c
    simp only at h
    split at h
    · split at h
      · rename_i x t hx ht
        have e1 : args = #[x] := by rw [← Array.toArray_toList (xs := args), hx]
        have e2 : argTypes = #[t] := by rw [← Array.toArray_toList (xs := argTypes), ht]
        subst e1; subst e2
        exact .of (n := Builtin.len_ #[t] ty #[a.eval x]) (lenPV_ok h (hf.opv x).1 ty) (fun w2 v hv => by simp [execOp, resolve, invoke, builtin, hv])
      · cases h
    · split at h
      · rename_i x ys hx
        have hr := reps_opv hf args.toList
        rw [hx] at hr
        have hl := hr.len
        cases hv : args.toList.map a.eval with
        | nil => rw [hv] at hl; simp at hl
        | cons v vs =>
          rw [hv] at hr
          cases ho : args.toList with
          | nil => rw [ho] at hv; simp at hv
          | cons o1 os =>
            rw [ho] at hv hx
            simp at hv hx
            have htag : TagsOK κ w x v := by rw [← hx.1, ← hv.1]; exact (hf.opv o1).2
            obtain ⟨r, h1, h2, h3⟩ := minmaxPV_ok (P := C.P) false h hr.head htag hr.tail
            refine ⟨r, fun κ2 w2 _ => ?_, h2, h3⟩
            have e : (args.map a.eval).toList = v :: vs := by rw [Array.toList_map, ho]; simp [hv]
            have h1' := h1 w2
            simp only [Bool.false_eq_true, if_false] at h1'
            simp [execOp, resolve, invoke, builtin, Builtin.min_, e, h1', ho, hv]
      · cases h
    · split at h
      · rename_i x ys hx
        have hr := reps_opv hf args.toList
        rw [hx] at hr
        have hl := hr.len
        cases hv : args.toList.map a.eval with
        | nil => rw [hv] at hl; simp at hl
        | cons v vs =>
          rw [hv] at hr
          cases ho : args.toList with
          | nil => rw [ho] at hv; simp at hv
          | cons o1 os =>
            rw [ho] at hv hx
            simp at hv hx
            have htag : TagsOK κ w x v := by rw [← hx.1, ← hv.1]; exact (hf.opv o1).2
            obtain ⟨r, h1, h2, h3⟩ := minmaxPV_ok (P := C.P) true h hr.head htag hr.tail
            refine ⟨r, fun κ2 w2 _ => ?_, h2, h3⟩
            have e : (args.map a.eval).toList = v :: vs := by rw [Array.toList_map, ho]; simp [hv]
            have h1' := h1 w2
            simp only [if_true] at h1'
            simp [execOp, resolve, invoke, builtin, Builtin.max_, e, h1', ho, hv]
      · cases h
    · cases h
  · cases h
end Go.Q
