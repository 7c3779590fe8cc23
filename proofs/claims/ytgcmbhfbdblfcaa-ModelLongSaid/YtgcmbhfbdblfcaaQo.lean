/-
  What is needed to evaluate by simp.
-/
import Derived.Test.YtgcmbhfbdblfcaaQn
set_option linter.unusedVariables false
set_option linter.unusedSimpArgs false
namespace Go.Q
open Go.Proofs

/-- a number -/
abbrev I (n : Int) : PV := .sc (.int .i64 n)
abbrev Bo (b : Bool) : PV := .sc (.bool b)

/-! ### Frames -/
theorem getD_set_eq {l : List PV} {i : Nat} {p : PV} (h : i < l.length) : (l.set i p).getD i .any = p := by simp [List.getD_eq_getElem?_getD, h]
theorem getD_set_ne {l : List PV} {i j : Nat} {p : PV} (h : (i == j) = false) : (l.set i p).getD j .any = l.getD j .any := by
  have : i ≠ j := by simpa using h
  simp [List.getD_eq_getElem?_getD, List.getElem?_set_ne this]
theorem getD_map (l : List PV) (g : Tag → Tag) (j : Nat) : (l.map (PV.retag g)).getD j .any = (l.getD j .any).retag g := by
  simp only [List.getD_eq_getElem?_getD, List.getElem?_map]
  cases l[j]? <;> simp [PV.retag]
theorem getD_append_rep (l : List PV) (n j : Nat) : (l ++ List.replicate n PV.any).getD j .any = l.getD j .any := by
  simp only [List.getD_eq_getElem?_getD, List.getElem?_append, List.getElem?_replicate]
  split
  · rfl
  · rename_i h
    rw [List.getElem?_eq_none (by omega : l.length ≤ j)]
    split <;> rfl
theorem getD_nil (j : Nat) : ([] : List PV).getD j .any = .any := rfl

theorem opv_tmp (f : List PV) (t : Nat) : opv f (.tmp t) = f.getD t .any := rfl
theorem opv_const (f : List PV) (v : Value) : opv f (.const v) = .sc v := rfl
theorem opv_func (f : List PV) (k : Nat) : opv f (.func k) = .fn k [] := rfl
theorem put_some (f : List PV) (B : List (List PV)) (z m : List Nat) (d : Nat) (p : PV) : St.put ⟨f, B, z, m⟩ (some d) p = ⟨f.set d p, B, z, m⟩ := rfl
theorem put_none (s : St) (p : PV) : St.put s none p = s := rfl
theorem off_mk (f : List PV) (B : List (List PV)) (z m : List Nat) (D : Tag → Bool) : St.off ⟨f, B, z, m⟩ D = ⟨f.map (PV.retag (Tag.off D)), B, z, m⟩ := rfl
theorem retag_sc (g : Tag → Tag) (v : Value) : PV.retag g (.sc v) = .sc v := by simp only [PV.retag]
theorem retag_any (g : Tag → Tag) : PV.retag g .any = .any := by simp only [PV.retag]
theorem retag_list (g : Tag → Tag) (n : Nat) (t : Tag) (xs : List PV) : PV.retag g (.list n t xs) = .list n (g t) xs := by simp only [PV.retag]
theorem retag_ptr (g : Tag → Tag) (a b : Nat) : PV.retag g (.ptr a b) = .ptr a b := by simp only [PV.retag]
theorem retag_arr (g : Tag → Tag) (a b : Nat) : PV.retag g (.arr a b) = .arr a b := by simp only [PV.retag]
theorem retag_fn (g : Tag → Tag) (a : Nat) (b : List PV) : PV.retag g (.fn a b) = .fn a b := by simp only [PV.retag]
theorem retag_eptr (g : Tag → Tag) (b : List PV) : PV.retag g (.eptr b) = .eptr b := by simp only [PV.retag]
theorem retag_agg (g : Tag → Tag) (b : List PV) : PV.retag g (.agg b) = .agg (b.map (PV.retag g)) := by simp only [PV.retag, PV.retagL_eq]
theorem retag_tuple (g : Tag → Tag) (b : List PV) : PV.retag g (.tuple b) = .tuple (b.map (PV.retag g)) := by simp only [PV.retag, PV.retagL_eq]

theorem tcfg_P : tcfg.P = Try.prog := rfl
theorem tcfg_Z (t : Nat) : tcfg.Z t = zOf t := rfl
theorem tcfg_kill (a b : Nat) : tcfg.kill a b = killT a b := rfl

/-! ### Code -/
noncomputable def ev (k : Nat) (c : Code) (bid : Nat) (s : St) : R := evalCode tcfg (callW tcfg) k c bid s
noncomputable def ro (k : Nat) (ops : Array Oper) (l : List Oper) (s : St) : Option St := runOps tcfg (callW tcfg) k ops l s
noncomputable def so (k : Nat) (o : Oper) (s : St) : Option (PV × St) := stepOp tcfg (callW tcfg) k o s
noncomputable def thenEv (k : Nat) (c : Code) (bid : Nat) (r : R) : R := match r with
  | some (.normal, s') => ev k c bid s'
  | r => r
noncomputable def condEv (k : Nat) (a b : Code) (bid : Nat) (s : St) (c : PV) : R := match c with
  | .sc (.bool t) => if t then ev k a bid s else ev k b bid s
  | _ => none
def blockEv (id : Nat) (r : R) : R := match r with
  | some (.exit j, s') => if j = id then some (.normal, s') else some (.exit j, s')
  | r => r
def roundOf (kl : List Bool) (n : Nat) (m0 : List Nat) (r : R) : R := match r with
  | some (.normal, s') => some (.normal, endRound kl n m0 s')
  | r => r
noncomputable def lp (k : Nat) (body : Code) (bid : Nat) (s : St) : R := loopW (fun s1 => roundOf (killT k bid) s1.B.length s1.mods (ev k body bid s1)) s
noncomputable def lpNext (k : Nat) (body : Code) (bid : Nat) (r : R) : R := match r with
  | some (.normal, s') => lp k body bid s'
  | r => r
def normalOf (r : Option St) : R := r.map fun s' => (.normal, s')
noncomputable def thenRo (k : Nat) (ops : Array Oper) (l : List Oper) (r : Option St) : Option St := match r with
  | some s' => ro k ops l s'
  | none => none
def putR (d : Option Nat) (r : Option (PV × St)) : Option St := r.map fun r => r.2.put d r.1

@[congr] theorem ev_congr {k : Nat} {c : Code} {bid : Nat} {s s' : St} (h : s = s') : ev k c bid s = ev k c bid s' := by rw [h]
@[congr] theorem ro_congr {k : Nat} {ops : Array Oper} {l : List Oper} {s s' : St} (h : s = s') : ro k ops l s = ro k ops l s' := by rw [h]
@[congr] theorem so_congr {k : Nat} {o : Oper} {s s' : St} (h : s = s') : so k o s = so k o s' := by rw [h]
@[congr] theorem thenEv_congr {k : Nat} {c : Code} {bid : Nat} {r r' : R} (h : r = r') : thenEv k c bid r = thenEv k c bid r' := by rw [h]
@[congr] theorem condEv_congr {k : Nat} {a b : Code} {bid : Nat} {s : St} {c c' : PV} (h : c = c') : condEv k a b bid s c = condEv k a b bid s c' := by rw [h]
@[congr] theorem lp_congr {k : Nat} {c : Code} {bid : Nat} {s s' : St} (h : s = s') : lp k c bid s = lp k c bid s' := by rw [h]
@[congr] theorem lpNext_congr {k : Nat} {c : Code} {bid : Nat} {s s' : R} (h : s = s') : lpNext k c bid s = lpNext k c bid s' := by rw [h]
@[congr] theorem thenRo_congr {k : Nat} {ops : Array Oper} {l : List Oper} {r r' : Option St} (h : r = r') : thenRo k ops l r = thenRo k ops l r' := by rw [h]

theorem ev_skip (k bid : Nat) (s : St) : ev k .skip bid s = some (.normal, s) := by simp only [ev, evalCode]
theorem ev_label (k bid l : Nat) (s : St) : ev k (.label l) bid s = some (.normal, s) := by simp only [ev, evalCode]
theorem ev_exit (k bid id : Nat) (s : St) : ev k (.exit id) bid s = some (.exit id, s) := by simp only [ev, evalCode]
theorem ev_ret (k bid : Nat) (s : St) : ev k .ret bid s = some (.ret, s) := by simp only [ev, evalCode]
theorem ev_seq (k bid : Nat) (a b : Code) (s : St) : ev k (.seq a b) bid s = thenEv k b bid (ev k a bid s) := by simp only [ev, evalCode, thenEv]; rfl
theorem ev_cond (k bid : Nat) (c : Operand) (a b : Code) (s : St) : ev k (.cond c a b) bid s = condEv k a b bid s (opv s.f c) := by simp only [ev, evalCode, condEv]; rfl
theorem ev_block (k bid id : Nat) (c : Code) (s : St) : ev k (.block id c) bid s = blockEv id (ev k c id s) := by simp only [ev, evalCode, blockEv]; rfl
theorem ev_loop (k bid : Nat) (c : Code) (s : St) : ev k (.loop c) bid s = lp k c bid (forget (killT k bid) s) := by simp only [ev, evalCode, lp, roundOf, tcfg_kill]; rfl
theorem ev_region (k bid id : Nat) (ops : Array Oper) (s : St) : ev k (.region id ops false) bid s = normalOf (ro k ops ops.toList s) := by
  simp only [ev, evalCode, normalOf, ro, Bool.false_eq_true, if_false]
noncomputable def rd (k id : Nat) (ops : Array Oper) (s : St) : Option St := runDraw tcfg (callW tcfg) k id ops s
@[congr] theorem rd_congr {k id : Nat} {ops : Array Oper} {s s' : St} (h : s = s') : rd k id ops s = rd k id ops s' := by rw [h]
theorem ev_draw (k bid id : Nat) (ops : Array Oper) (s : St) : ev k (.region id ops true) bid s = normalOf (rd k id ops s) := by
  simp only [ev, evalCode, normalOf, rd, if_true]
theorem thenEv_normal (k bid : Nat) (c : Code) (s : St) : thenEv k c bid (some (.normal, s)) = ev k c bid s := rfl
theorem thenEv_exit (k bid id : Nat) (c : Code) (s : St) : thenEv k c bid (some (.exit id, s)) = some (.exit id, s) := rfl
theorem thenEv_ret (k bid : Nat) (c : Code) (s : St) : thenEv k c bid (some (.ret, s)) = some (.ret, s) := rfl
theorem condEv_true (k bid : Nat) (a b : Code) (s : St) : condEv k a b bid s (.sc (.bool true)) = ev k a bid s := rfl
theorem condEv_false (k bid : Nat) (a b : Code) (s : St) : condEv k a b bid s (.sc (.bool false)) = ev k b bid s := rfl
theorem blockEv_exit (id : Nat) (s : St) : blockEv id (some (.exit id, s)) = some (.normal, s) := by simp [blockEv]
theorem blockEv_exit_ne {id j : Nat} (s : St) (h : (j == id) = false) : blockEv id (some (.exit j, s)) = some (.exit j, s) := by
  have : ¬ j = id := by simpa using h
  simp [blockEv, this]
theorem blockEv_normal (id : Nat) (s : St) : blockEv id (some (.normal, s)) = some (.normal, s) := rfl
theorem blockEv_ret (id : Nat) (s : St) : blockEv id (some (.ret, s)) = some (.ret, s) := rfl
theorem roundOf_normal (kl : List Bool) (n : Nat) (m0 : List Nat) (s : St) : roundOf kl n m0 (some (.normal, s)) = some (.normal, endRound kl n m0 s) := rfl
theorem roundOf_exit (kl : List Bool) (n : Nat) (m0 : List Nat) (id : Nat) (s : St) : roundOf kl n m0 (some (.exit id, s)) = some (.exit id, s) := rfl
theorem roundOf_ret (kl : List Bool) (n : Nat) (m0 : List Nat) (s : St) : roundOf kl n m0 (some (.ret, s)) = some (.ret, s) := rfl
theorem forget_mk (kl : List Bool) (f : List PV) (B : List (List PV)) (z m : List Nat) : forget kl ⟨f, B, z, m⟩ = ⟨maskF kl f, B, z, m⟩ := rfl
theorem mask_t (bs : List Bool) (p : PV) (ps : List PV) : maskF (true :: bs) (p :: ps) = .any :: maskF bs ps := rfl
theorem mask_f (bs : List Bool) (p : PV) (ps : List PV) : maskF (false :: bs) (p :: ps) = p :: maskF bs ps := rfl
theorem mask_n (ps : List PV) : maskF [] ps = ps := by cases ps <;> rfl
theorem lp_eq (k : Nat) (c : Code) (bid : Nat) (s : St) : lp k c bid s = lpNext k c bid (roundOf (killT k bid) s.B.length s.mods (ev k c bid s)) := by
  unfold lp lpNext
  rw [loopW_eq]
  rfl
theorem lpNext_normal (k bid : Nat) (c : Code) (s : St) : lpNext k c bid (some (.normal, s)) = lp k c bid s := rfl
theorem lpNext_exit (k bid id : Nat) (c : Code) (s : St) : lpNext k c bid (some (.exit id, s)) = some (.exit id, s) := rfl
theorem lpNext_ret (k bid : Nat) (c : Code) (s : St) : lpNext k c bid (some (.ret, s)) = some (.ret, s) := rfl
theorem normalOf_some (s : St) : normalOf (some s) = some (.normal, s) := rfl

/-! ### Regions -/
theorem ro_nil (k : Nat) (ops : Array Oper) (s : St) : ro k ops [] s = some s := by simp only [ro, runOps]
noncomputable def go (k : Nat) (ops : Array Oper) (o : Oper) (s : St) : Option St := guardOp tcfg (callW tcfg) k ops o s
@[congr] theorem go_congr {k : Nat} {ops : Array Oper} {o : Oper} {s s' : St} (h : s = s') : go k ops o s = go k ops o s' := by rw [h]
theorem ro_cons (k : Nat) (ops : Array Oper) (o : Oper) (l : List Oper) (s : St) : ro k ops (o :: l) s = thenRo k ops l (go k ops o s) := by simp only [ro, runOps, thenRo, go]; rfl
theorem thenRo_some (k : Nat) (ops : Array Oper) (l : List Oper) (s : St) : thenRo k ops l (some s) = ro k ops l s := rfl
theorem go_none (k : Nat) (ops : Array Oper) (dst : Option Nat) (op : Op) (ty : Nat) (pos : String) (aft : Array Edge) (s : St) :
    go k ops ⟨dst, op, ty, pos, aft, none⟩ s = putR dst (so k ⟨dst, op, ty, pos, aft, none⟩ s) := rfl
theorem putR_some (d : Option Nat) (p : PV) (s : St) : putR d (some (p, s)) = some (s.put d p) := rfl
/-! ### Operations -/
section
variable (k : Nat) (dst : Option Nat) (ty : Nat) (pos : String) (aft : Array Edge) (gd : Option (Nat × Bool)) (s : St)
def retP (s : St) (p : Option PV) : Option (PV × St) := p.map fun p => (p, s)
theorem retP_some (s : St) (p : PV) : retP s (some p) = some (p, s) := rfl
@[congr] theorem retP_congr {s : St} {p p' : Option PV} (h : p = p') : retP s p = retP s p' := by rw [h]
theorem so_move (x : Operand) : so k ⟨dst, .move x, ty, pos, aft, gd⟩ s = some (norm tcfg ty (opv s.f x), s) := rfl
theorem so_assign (x : Operand) : so k ⟨dst, .assign x, ty, pos, aft, gd⟩ s = some (assignOp tcfg (dst.getD 0) s ty (opv s.f x)) := rfl
def pickPV (c a b : PV) : Option PV := match c with | .sc (.bool t) => some (if t then a else b) | _ => none
theorem so_pick (c x y : Operand) : so k ⟨dst, .pick c x y, ty, pos, aft, gd⟩ s = retP s (pickPV (opv s.f c) (opv s.f x) (opv s.f y)) := rfl
theorem pick_true (a b : PV) : pickPV (.sc (.bool true)) a b = some a := rfl
theorem pick_false (a b : PV) : pickPV (.sc (.bool false)) a b = some b := rfl
theorem so_load (t : Nat) (x : Operand) : so k ⟨dst, .load t x, ty, pos, aft, gd⟩ s = retP s (loadOp Try.prog s.B t (opv s.f x)) := rfl
def storeR (r : Option St) : Option (PV × St) := r.map fun s' => (.any, s')
theorem storeR_some (s : St) : storeR (some s) = some (.any, s) := rfl
theorem so_store (t : Nat) (a x : Operand) : so k ⟨dst, .store t a x, ty, pos, aft, gd⟩ s = storeR (storeOp tcfg s t (opv s.f a) (opv s.f x)) := rfl
theorem so_alloc (e : Nat) (h : (zOf e).isEmpty = false) : so k ⟨dst, .alloc e, ty, pos, aft, gd⟩ s = some (.ptr s.B.length 0, { s with B := s.B ++ [zOf e] }) := by
  unfold so stepOp
  refine if_pos ?_
  intro e0
  have e1 : zOf e = [] := e0
  rw [e1] at h
  cases h
theorem so_box (e : Nat) (x : Operand) : so k ⟨dst, .box e x, ty, pos, aft, gd⟩ s = pushBox s (opv s.f x) := rfl
theorem so_makeSlice (t : Nat) (l c : Operand) : so k ⟨dst, .makeSlice t l c, ty, pos, aft, gd⟩ s = makeSliceOp tcfg k (dst.getD 0) s t (opv s.f l) (opv s.f c) := rfl
theorem so_buildSlice (t len : Nat) (parts : Array (Nat × Operand)) : so k ⟨dst, .buildSlice t len parts, ty, pos, aft, gd⟩ s = buildSliceOp tcfg s t len (parts.toList.map fun (i, x) => (i, opv s.f x)) := rfl
theorem so_build (t : Nat) (parts : Array (Nat × Operand)) : so k ⟨dst, .build t parts, ty, pos, aft, gd⟩ s = retP s (buildPV tcfg t (parts.toList.map fun (i, x) => (i, opv s.f x))) := rfl
theorem so_nilCheck (x : Operand) : so k ⟨dst, .nilCheck x, ty, pos, aft, gd⟩ s = retP s (match opv s.f x with | .ptr id off => some (.ptr id off) | .eptr cs => some (.eptr cs) | .fn g cap => some (.fn g cap) | _ => none) := rfl
theorem so_binOp (op : BinOp) (t : Nat) (x y : Operand) (yt : Nat) : so k ⟨dst, .binOp op t x y yt, ty, pos, aft, gd⟩ s = retP s (binPV tcfg op t (opv s.f x) (opv s.f y)) := rfl
theorem so_unOp (op : UnOp) (t : Nat) (x : Operand) : so k ⟨dst, .unOp op t x, ty, pos, aft, gd⟩ s = retP s (unPV op (opv s.f x)) := rfl
theorem so_convert (a b : Nat) (x : Operand) : so k ⟨dst, .convert a b x, ty, pos, aft, gd⟩ s = retP s (convPV Try.prog a b (opv s.f x)) := rfl
theorem so_makeFunc (g : Nat) (captured : Array Operand) : so k ⟨dst, .makeFunc (.func g) #[] captured, ty, pos, aft, gd⟩ s = some (.fn g (captured.toList.map fun x => (opv s.f x).flat), s) := rfl
theorem so_fieldAddr (t : Nat) (x : Operand) (i : Nat) : so k ⟨dst, .fieldAddr t x i, ty, pos, aft, gd⟩ s = retP s (fieldAddrPV Try.prog t i (opv s.f x)) := rfl
theorem so_field (t : Nat) (x : Operand) (i : Nat) : so k ⟨dst, .field t x i, ty, pos, aft, gd⟩ s = retP s (fieldPV Try.prog t i (opv s.f x)) := rfl
theorem so_indexAddr (t : Nat) (x i : Operand) : so k ⟨dst, .indexAddr t x i, ty, pos, aft, gd⟩ s = retP s (indexAddrPV Try.prog t (opv s.f x) (opv s.f i)) := rfl
theorem so_index (t : Nat) (x i : Operand) : so k ⟨dst, .index t x i, ty, pos, aft, gd⟩ s = retP s (indexPV Try.prog t (opv s.f x) (opv s.f i)) := rfl
def extrPV (i : Nat) (p : PV) : Option PV := match p with | .tuple vs => vs[i]? | _ => none
theorem so_extract (x : Operand) (i : Nat) : so k ⟨dst, .extract x i, ty, pos, aft, gd⟩ s = retP s (extrPV i (opv s.f x)) := rfl
theorem so_len (x : Operand) (t : Nat) : so k ⟨dst, .call ⟨.builtin .len, #[x], #[t]⟩, ty, pos, aft, gd⟩ s = retP s (lenPV Try.prog t (opv s.f x)) := rfl
theorem so_min (args : Array Operand) (ts : Array Nat) : so k ⟨dst, .call ⟨.builtin .min, args, ts⟩, ty, pos, aft, gd⟩ s = retP s (match args.toList.map (opv s.f) with | x :: ys => minmaxPV false x ys | _ => none) := rfl
theorem so_max (args : Array Operand) (ts : Array Nat) : so k ⟨dst, .call ⟨.builtin .max, args, ts⟩, ty, pos, aft, gd⟩ s = retP s (match args.toList.map (opv s.f) with | x :: ys => minmaxPV true x ys | _ => none) := rfl
theorem so_append (x y : Operand) (t : Nat) : so k ⟨dst, .call ⟨.builtin .append, #[x, y], #[t, t]⟩, ty, pos, aft, gd⟩ s = appendOp tcfg (dst.getD 0) s t (opv s.f x) (opv s.f y) := by
  unfold so stepOp
  simp only [if_true]
theorem so_call (g : Nat) (args : Array Operand) (ts : Array Nat) : so k ⟨dst, .call ⟨.value (.func g), args, ts⟩, ty, pos, aft, gd⟩ s = callOp tcfg (callW tcfg) (dst.getD 0) s g (args.toList.map (opv s.f)) := rfl
noncomputable def callV (d : Nat) (s : St) (fv : PV) (args : List PV) : Option (PV × St) := match fv with
  | .fn g cap => callOp tcfg (callW tcfg) d s g (args ++ cap.map PV.flat)
  | _ => none
theorem so_callv (t : Nat) (args : Array Operand) (ts : Array Nat) : so k ⟨dst, .call ⟨.value (.tmp t), args, ts⟩, ty, pos, aft, gd⟩ s = callV (dst.getD 0) s (s.f.getD t .any) (args.toList.map (opv s.f)) := by
  unfold so stepOp callV
  simp only
  rfl
theorem callV_fn (d : Nat) (s : St) (g : Nat) (cap args : List PV) : callV d s (.fn g cap) args = callOp tcfg (callW tcfg) d s g (args ++ cap.map PV.flat) := rfl
theorem so_slice (t e : Nat) (x : Operand) (lo hi mx : Option Operand) (h : Try.prog.underlying t = some (.slice e)) : so k ⟨dst, .slice t x lo hi mx, ty, pos, aft, gd⟩ s = retP s (slicePV Try.prog t (opv s.f x) (lo.map (opv s.f)) (hi.map (opv s.f)) (mx.map (opv s.f))) := by
  unfold so stepOp
  simp only [tcfg_P, h]
  rfl
end

/-! ### Values -/
theorem norm_int (t : Nat) (q : IntKind) (n : Int) : norm tcfg t (.sc (.int q n)) = .sc (.int q n) := rfl
theorem norm_bool (t : Nat) (b : Bool) : norm tcfg t (.sc (.bool b)) = .sc (.bool b) := rfl
theorem norm_list (t n : Nat) (tg : Tag) (xs : List PV) : norm tcfg t (.list n tg xs) = .list n tg xs := rfl
theorem norm_ptr (t a b : Nat) : norm tcfg t (.ptr a b) = .ptr a b := rfl
theorem norm_arr (t a b : Nat) : norm tcfg t (.arr a b) = .arr a b := rfl
theorem norm_eptr (t : Nat) (cs : List PV) : norm tcfg t (.eptr cs) = .eptr cs := rfl
theorem norm_agg (t : Nat) (cs : List PV) : norm tcfg t (.agg cs) = .agg cs := rfl
theorem norm_fn (t a : Nat) (cs : List PV) : norm tcfg t (.fn a cs) = .fn a cs := rfl
theorem norm_nil (t n : Nat) (h : zOf t = [.list n .full []]) (hn : (0 < n) = True) : norm tcfg t (.sc (.slice none 0 0)) = .list n .full [] := by
  simp only [norm, tcfg_Z, h, of_eq_true hn, if_true]
theorem norm_nilp (t : Nat) : norm tcfg t (.sc (.pointer none)) = .sc (.pointer none) := rfl
theorem norm_nilf (t : Nat) : norm tcfg t (.sc .nilFunc) = .sc .nilFunc := rfl
theorem norm_str (t : Nat) (x : ByteArray) : norm tcfg t (.sc (.string x)) = .sc (.string x) := rfl
section
variable (d : Nat) (s : St) (t : Nat)
theorem assign_sc (v : Value) (h : norm tcfg t (.sc v) = .sc v) : assignOp tcfg d s t (.sc v) = (.sc v, s) := by simp only [assignOp, h]
theorem assign_int (q : IntKind) (n : Int) : assignOp tcfg d s t (.sc (.int q n)) = (.sc (.int q n), s) := rfl
theorem assign_bool (b : Bool) : assignOp tcfg d s t (.sc (.bool b)) = (.sc (.bool b), s) := rfl
theorem assign_nilp : assignOp tcfg d s t (.sc (.pointer none)) = (.sc (.pointer none), s) := rfl
theorem assign_nilf : assignOp tcfg d s t (.sc .nilFunc) = (.sc .nilFunc, s) := rfl
theorem assign_nil (n : Nat) (h : zOf t = [.list n .full []]) (hn : (0 < n) = True) : assignOp tcfg d s t (.sc (.slice none 0 0)) = (.list n (.slot d 0) [], s.off fun h => match h with | .slot d' _ => d' == d | _ => false) := by
  simp only [assignOp, norm_nil t n h hn]
  rfl
theorem assign_ptr (a b : Nat) : assignOp tcfg d s t (.ptr a b) = (.ptr a b, s) := rfl
theorem assign_arr (a b : Nat) : assignOp tcfg d s t (.arr a b) = (.arr a b, s) := rfl
theorem assign_eptr (cs : List PV) : assignOp tcfg d s t (.eptr cs) = (.eptr cs, s) := rfl
theorem assign_agg (cs : List PV) : assignOp tcfg d s t (.agg cs) = (.agg cs, s) := rfl
theorem assign_fn (a : Nat) (cs : List PV) : assignOp tcfg d s t (.fn a cs) = (.fn a cs, s) := rfl
theorem assign_ro (n : Nat) (xs : List PV) : assignOp tcfg d s t (.list n .ro xs) = (.list n .ro xs, s) := rfl
theorem assign_full (n : Nat) (xs : List PV) : assignOp tcfg d s t (.list n .full xs) = (.list n (.slot d 0) xs, s.off fun h => match h with | .slot d' _ => d' == d | _ => false) := rfl
theorem assign_slot (n a b : Nat) (xs : List PV) : assignOp tcfg d s t (.list n (.slot a b) xs) = (.list n (.slot d 0) xs, s.off fun h => h == .slot a b || (match h with | .slot d' _ => d' == d | _ => false)) := rfl
theorem assign_cell (n a b : Nat) (xs : List PV) : assignOp tcfg d s t (.list n (.cell a b) xs) = (.list n (.cell a b) xs, s) := rfl
end

/-! ### Functions -/
theorem evalFn_of {k : Nat} {fn : Func} {c : Code} {args : List PV} {B : List (List PV)} (hp : primT k = none) (hf : Try.prog.funcs[k]? = some fn) (hb : fn.body = some c) :
    evalFn tcfg (callW tcfg) k args B = match ev k c 0 { f := args ++ List.replicate (fn.ntmps - args.length) .any, B := B, fz := [], mods := [] } with
        | some (.normal, s) => declR ((declT k).map (declIds args)) (results tcfg fn k B.length s)
        | some (.ret, s) => declR ((declT k).map (declIds args)) (results tcfg fn k B.length s)
        | _ => none := by
  unfold evalFn ev
  have : tcfg.prim k = none := hp
  simp only [this, tcfg_P, hf, hb]
  rfl
/-! ### Structs -/
def isStruct (P : Program) (t : Nat) : Bool := match P.underlying t with | some (.struct _) => true | _ => false
def foff (P : Program) (t i : Nat) : Option (Nat × Nat) := match P.underlying t with
  | some (.struct fs) => (fs[i]?).map fun f => (f.offset, P.cellsOf f.type)
  | _ => none
def bparts (P : Program) (t : Nat) : List (Nat × PV) → Option (List (Nat × Nat × List PV))
  | [] => some []
  | (i, v) :: r => match foff P t i with
    | some (o, n) => match bparts P t r with
      | some l => some ((o, n, v.clean.cells) :: l)
      | none => none
    | none => none
theorem bparts_eq {P : Program} {t : Nat} {fs : Array Field} (h : P.underlying t = some (.struct fs)) : ∀ l, fieldParts P fs l = bparts P t l
  | [] => rfl
  | (i, v) :: r => by
    have ih := bparts_eq h r
    simp only [fieldParts, bparts, foff, h]
    cases fs[i]? with
    | none => rfl
    | some f => simp only [Option.map_some]; rw [ih]; rfl
def fillR (cs : List PV) (r : Option (List (Nat × Nat × List PV))) : Option PV := match r with
  | some ps => (fillPV cs ps).map .agg
  | none => none
theorem build_struct {t : Nat} {parts : List (Nat × PV)} (h : isStruct Try.prog t = true) (hz : (zOf t).isEmpty = false) : buildPV tcfg t parts = fillR (zOf t) (bparts Try.prog t parts) := by
  unfold isStruct at h
  split at h
  · rename_i fs hfs
    unfold buildPV
    have e : (tcfg.Z t).isEmpty = false := hz
    rw [e]
    simp only [Bool.false_eq_true, if_false, tcfg_P, hfs]
    rw [bparts_eq hfs]
    rfl
  · cases h
theorem bparts_nil (t : Nat) : bparts Try.prog t [] = some [] := rfl
theorem bparts_cons (t i o n : Nat) (v : PV) (r : List (Nat × PV)) (l : List (Nat × Nat × List PV)) (h : foff Try.prog t i = some (o, n)) (hl : bparts Try.prog t r = some l) :
    bparts Try.prog t ((i, v) :: r) = some ((o, n, v.clean.cells) :: l) := by simp only [bparts, h, hl]

/-! ### Loops -/
def findLoop (id : Nat) : Nat → Code → Option Code
  | cur, .loop b => if cur == id then some b else findLoop id cur b
  | cur, .seq a b => match findLoop id cur a with | some x => some x | none => findLoop id cur b
  | cur, .cond _ a b => match findLoop id cur a with | some x => some x | none => findLoop id cur b
  | _, .block i c => findLoop id i c
  | _, _ => none
def bodyAt (fn : Func) (id : Nat) : Code := match fn.body with | some c => (match findLoop id 0 c with | some b => b | none => .skip) | none => .skip
def dieB (n : Nat) (h : Tag) : Bool := match h with | .cell id _ => decide (n ≤ id) | _ => false
def endF (n : Nat) (f : List PV) : List PV := (f.map fun p => if p.under n = true then p else .any).map (PV.retag (Tag.off (dieB n)))
theorem endRound_mk (kl : List Bool) (n : Nat) (m0 : List Nat) (f : List PV) (B : List (List PV)) (z m : List Nat) : endRound kl n m0 ⟨f, B, z, m⟩ = ⟨endF n (maskF kl f), cutB n m B, z.filter (· < n), (newM m0 m).filter (· < n) ++ m0⟩ := rfl
theorem newM_nil (m : List Nat) : newM [] m = m := by simp [newM]
theorem newM_0 (m : List Nat) : newM m m = [] := by simp [newM]
theorem newM_1 (m : List Nat) (a0 : Nat) : newM m (a0 :: m) = [a0] := newM_app [a0] m
theorem newM_2 (m : List Nat) (a0 a1 : Nat) : newM m (a0 :: a1 :: m) = [a0, a1] := newM_app [a0, a1] m
theorem newM_3 (m : List Nat) (a0 a1 a2 : Nat) : newM m (a0 :: a1 :: a2 :: m) = [a0, a1, a2] := newM_app [a0, a1, a2] m
theorem newM_4 (m : List Nat) (a0 a1 a2 a3 : Nat) : newM m (a0 :: a1 :: a2 :: a3 :: m) = [a0, a1, a2, a3] := newM_app [a0, a1, a2, a3] m
theorem newM_5 (m : List Nat) (a0 a1 a2 a3 a4 : Nat) : newM m (a0 :: a1 :: a2 :: a3 :: a4 :: m) = [a0, a1, a2, a3, a4] := newM_app [a0, a1, a2, a3, a4] m
theorem newM_6 (m : List Nat) (a0 a1 a2 a3 a4 a5 : Nat) : newM m (a0 :: a1 :: a2 :: a3 :: a4 :: a5 :: m) = [a0, a1, a2, a3, a4, a5] := newM_app [a0, a1, a2, a3, a4, a5] m
theorem newM_7 (m : List Nat) (a0 a1 a2 a3 a4 a5 a6 : Nat) : newM m (a0 :: a1 :: a2 :: a3 :: a4 :: a5 :: a6 :: m) = [a0, a1, a2, a3, a4, a5, a6] := newM_app [a0, a1, a2, a3, a4, a5, a6] m
theorem newM_8 (m : List Nat) (a0 a1 a2 a3 a4 a5 a6 a7 : Nat) : newM m (a0 :: a1 :: a2 :: a3 :: a4 :: a5 :: a6 :: a7 :: m) = [a0, a1, a2, a3, a4, a5, a6, a7] := newM_app [a0, a1, a2, a3, a4, a5, a6, a7] m
theorem endF_nil (n : Nat) : endF n [] = [] := rfl
theorem endF_any (n : Nat) (ps : List PV) : endF n (.any :: ps) = .any :: endF n ps := by simp [endF, PV.under, PV.retag]
theorem endF_sc (n : Nat) (v : Value) (ps : List PV) : endF n (.sc v :: ps) = .sc v :: endF n ps := by simp [endF, PV.under, PV.retag]
theorem endF_cons (n : Nat) (p : PV) (ps : List PV) : endF n (p :: ps) = PV.retag (Tag.off (dieB n)) (if p.under n = true then p else .any) :: endF n ps := by simp [endF]
theorem endF_length (n : Nat) (f : List PV) : (endF n f).length = f.length := by simp [endF]
theorem endF_getD {n : Nat} {f : List PV} {d : Nat} {p : PV} (h : f.getD d .any = p) (hu : p.under n = true) : (endF n f).getD d .any = p.retag (Tag.off (dieB n)) := by
  unfold endF
  rw [getD_map]
  congr 1
  simp only [List.getD_eq_getElem?_getD, List.getElem?_map] at h ⊢
  cases hf : f[d]? with
  | none => rw [hf] at h; simp at h ⊢; exact h
  | some q => rw [hf] at h; simp at h; subst h; simp [hu]
theorem cutB_nil (n : Nat) (B : List (List PV)) : cutB n [] B = B.take n := rfl
theorem under_sc (n : Nat) (v : Value) : PV.under n (.sc v) = true := by simp only [PV.under]
theorem under_any (n : Nat) : PV.under n .any = true := by simp only [PV.under]
theorem under_ptr (n a b : Nat) : PV.under n (.ptr a b) = decide (a < n) := by simp only [PV.under]
theorem under_arr (n a b : Nat) : PV.under n (.arr a b) = decide (a < n) := by simp only [PV.under]
theorem under_list (n s : Nat) (t : Tag) (xs : List PV) : PV.under n (.list s t xs) = xs.all (PV.under n) := by simp only [PV.under, PV.underL_eq]
theorem under_agg (n : Nat) (xs : List PV) : PV.under n (.agg xs) = xs.all (PV.under n) := by simp only [PV.under, PV.underL_eq]
theorem under_tuple (n : Nat) (xs : List PV) : PV.under n (.tuple xs) = xs.all (PV.under n) := by simp only [PV.under, PV.underL_eq]
theorem under_eptr (n : Nat) (xs : List PV) : PV.under n (.eptr xs) = xs.all (PV.under n) := by simp only [PV.under, PV.underL_eq]
theorem under_fn (n k : Nat) (xs : List PV) : PV.under n (.fn k xs) = xs.all (PV.under n) := by simp only [PV.under, PV.underL_eq]
theorem all_under_scs {α : Type} (n : Nat) (g : α → Value) (xs : List α) : (xs.map fun x => PV.sc (g x)).all (PV.under n) = true := by
  simp [under_sc]

/-! ### Indexes and loads -/
theorem index_list {t e sz : Nat} {tg : Tag} {xs : List PV} {q : IntKind} {n : Int} {i : Nat} {y : PV} (hu : Try.prog.underlying t = some (.slice e)) (hs : Try.prog.cellsOf e = sz) (hi : n = i) (hx : xs[i]? = some y) :
    indexAddrPV Try.prog t (.list sz tg xs) (.sc (.int q n)) = some (.eptr y.cells) := by
  subst hi
  have hlt : i < xs.length := (List.getElem?_eq_some_iff.1 hx).1
  simp only [indexAddrPV, hu, hs, Int.toNat_natCast, hx, Option.map_some]
  rw [if_pos]
  exact ⟨by omega, by omega, trivial⟩
def load1 (r : Option (List PV)) (off : Nat) : Option PV := match r with | some cs => cs[off]? | none => none
def loadN (r : Option (List PV)) (off n : Nat) : Option PV := match r with | some cs => if off + n ≤ cs.length then some (.agg (((cs.drop off).take n).map PV.clean)) else none | none => none
theorem load_ptr {B : List (List PV)} {t id off : Nat} (hk : knownT Try.prog t = true) (ha : isAggT Try.prog t = false) (hc : Try.prog.cellsOf t = 1) :
    loadOp Try.prog B t (.ptr id off) = load1 B[id]? off := by
  simp only [loadOp, hk, ha, hc, if_true, Bool.false_eq_true, if_false, load1]
  cases B[id]? with
  | none => rfl
  | some cs =>
    simp only
    split
    · rfl
    · rename_i h; exact (List.getElem?_eq_none (by omega)).symm
theorem load1_some (cs : List PV) (off : Nat) : load1 (some cs) off = cs[off]? := rfl
theorem load_ptr_agg {B : List (List PV)} {t id off n : Nat} (hk : knownT Try.prog t = true) (ha : isAggT Try.prog t = true) (hc : Try.prog.cellsOf t = n) :
    loadOp Try.prog B t (.ptr id off) = loadN B[id]? off n := by
  simp only [loadOp, hk, ha, hc, if_true, loadN]
  cases B[id]? <;> rfl
theorem loadN_some (cs : List PV) (off n : Nat) : loadN (some cs) off n = if off + n ≤ cs.length then some (.agg (((cs.drop off).take n).map PV.clean)) else none := rfl
theorem load_eptr {B : List (List PV)} {t : Nat} {c : PV} {cs : List PV} (hk : knownT Try.prog t = true) (ha : isAggT Try.prog t = false) (hc : Try.prog.cellsOf t = 1) : loadOp Try.prog B t (.eptr (c :: cs)) = some c := by
  simp [loadOp, hk, ha, hc]
theorem load_eptr_agg {B : List (List PV)} {t n : Nat} {cs : List PV} (hk : knownT Try.prog t = true) (ha : isAggT Try.prog t = true) (hc : Try.prog.cellsOf t = n) (hl : (n ≤ cs.length) = True) : loadOp Try.prog B t (.eptr cs) = some (.agg (cs.take n)) := by
  simp [loadOp, hk, ha, hc, of_eq_true hl]
theorem cells_sc (v : Value) : PV.cells (.sc v) = [.sc v] := rfl
theorem cells_list (n : Nat) (t : Tag) (xs : List PV) : PV.cells (.list n t xs) = [.list n t xs] := rfl
theorem cells_agg (xs : List PV) : PV.cells (.agg xs) = xs := rfl
theorem cells_ptr (a b : Nat) : PV.cells (.ptr a b) = [.ptr a b] := rfl
theorem cells_arr (a b : Nat) : PV.cells (.arr a b) = [.arr a b] := rfl
theorem cells_fn (a : Nat) (b : List PV) : PV.cells (.fn a b) = [.fn a b] := rfl

/-! ### Numbers -/
theorem bin_sc (op : BinOp) (t : Nat) (a b : Value) : binPV tcfg op t (.sc a) (.sc b) = (scBin op a b).map .sc := rfl
section
variable (q : IntKind) (a b : Int)
theorem sb_add : scBin .add (.int q a) (.int q b) = some (.int q (q.wrap (a + b))) := by simp only [scBin, if_true]
theorem sb_sub : scBin .sub (.int q a) (.int q b) = some (.int q (q.wrap (a - b))) := by simp only [scBin, if_true]
theorem sb_mul : scBin .mul (.int q a) (.int q b) = some (.int q (q.wrap (a * b))) := by simp only [scBin, if_true]
theorem sb_quo (h : (b = 0) = False) : scBin .quo (.int q a) (.int q b) = some (.int q (q.wrap (a.tdiv b))) := by simp only [scBin, if_true, h, if_false]
theorem sb_rem (h : (b = 0) = False) : scBin .rem (.int q a) (.int q b) = some (.int q (a.tmod b)) := by simp only [scBin, if_true, h, if_false]
theorem sb_eql : scBin .eql (.int q a) (.int q b) = some (.bool (decide (a = b))) := by simp only [scBin, if_true]; rfl
theorem sb_neq : scBin .neq (.int q a) (.int q b) = some (.bool (!decide (a = b))) := by simp only [scBin, if_true]; rfl
theorem sb_lss : scBin .lss (.int q a) (.int q b) = some (.bool (decide (a < b))) := by simp only [scBin, if_true]
theorem sb_leq : scBin .leq (.int q a) (.int q b) = some (.bool (decide (a ≤ b))) := by simp only [scBin, if_true]
theorem sb_gtr : scBin .gtr (.int q a) (.int q b) = some (.bool (decide (b < a))) := by simp only [scBin, if_true]
theorem sb_geq : scBin .geq (.int q a) (.int q b) = some (.bool (decide (b ≤ a))) := by simp only [scBin, if_true]
end
theorem un_not (b : Bool) : unPV .not (.sc (.bool b)) = some (.sc (.bool (!b))) := rfl
theorem len_list {t e n : Nat} {tg : Tag} {xs : List PV} (hu : Try.prog.underlying t = some (.slice e)) : lenPV Try.prog t (.list n tg xs) = some (.sc (.int .i64 xs.length)) := by simp only [lenPV, hu]

/-! ### Boxes behind others -/
theorem box_get (B L : List (List PV)) (i : Nat) : (B ++ L)[B.length + i]? = L[i]? := by rw [List.getElem?_append_right (by omega)]; congr 1; omega
theorem box_get0 (B L : List (List PV)) : (B ++ L)[B.length]? = L[0]? := box_get B L 0
theorem box_old (B L : List (List PV)) (i : Nat) (h : i < B.length) : (B ++ L)[i]? = B[i]? := List.getElem?_append_left h
theorem box_set (B L : List (List PV)) (i : Nat) (x : List PV) : (B ++ L).set (B.length + i) x = B ++ L.set i x := by rw [List.set_append_right _ _ (by omega)]; congr 2; omega
theorem box_set0 (B L : List (List PV)) (x : List PV) : (B ++ L).set B.length x = B ++ L.set 0 x := box_set B L 0 x
theorem box_push (B L : List (List PV)) (x : List PV) : (B ++ L) ++ [x] = B ++ (L ++ [x]) := List.append_assoc ..
theorem box_len (B L : List (List PV)) : (B ++ L).length = B.length + L.length := List.length_append
theorem box_take (B L : List (List PV)) (i : Nat) : (B ++ L).take (B.length + i) = B ++ L.take i := by rw [List.take_append, List.take_of_length_le (by omega)]; simp
theorem box_take0 (B L : List (List PV)) : (B ++ L).take B.length = B := by rw [List.take_append]; simp
theorem box_mod (B L : List (List PV)) (i : Nat) (g : List PV → List PV) : (B ++ L).modify (B.length + i) g = B ++ L.modify i g := by
  apply List.ext_getElem?
  intro j
  rw [List.getElem?_modify]
  by_cases h : j < B.length
  · have e : ¬ B.length + i = j := by omega
    rw [List.getElem?_append_left h, List.getElem?_append_left h]
    simp [e]
  · rw [List.getElem?_append_right (by omega), List.getElem?_append_right (by omega), List.getElem?_modify]
    have e : (B.length + i = j) = (i = j - B.length) := by apply propext; omega
    simp only [e]
theorem box_mod0 (B L : List (List PV)) (g : List PV → List PV) : (B ++ L).modify B.length g = B ++ L.modify 0 g := box_mod B L 0 g

/-! ### Stores -/
def stB (r : Option (List PV)) (f : List PV) (B : List (List PV)) (z m : List Nat) (id off : Nat) (v : List PV × Option Tag) (n : Nat) (ok : Bool) : Option St := match r with
  | some cs => if v.1.length = n ∧ 0 < v.1.length ∧ off + v.1.length ≤ cs.length ∧ ok = true ∧ id ∉ z then
      some ⟨f.map (PV.retag (Tag.off fun x => isTag v.2 x || ofCellOf id x)), B.set id (cs.take off ++ v.1 ++ cs.drop (off + v.1.length)), z, id :: m⟩ else none
  | none => none
theorem store_eq {f : List PV} {B : List (List PV)} {z m : List Nat} {t id off n : Nat} {p : PV} (hn : (Try.prog.info? t).isSome = true) (hc : Try.prog.cellsOf t = n) :
    storeOp tcfg ⟨f, B, z, m⟩ t (.ptr id off) p = stB B[id]? f B z m id off (settle id off p) n (p.clean.cells.all PV.okCell) := by
  unfold storeOp stB
  simp only [tcfg_P, hn, hc, true_and]
  cases B[id]? with
  | none => rfl
  | some cs => rfl
theorem stB_some (cs : List PV) (f : List PV) (B : List (List PV)) (z m : List Nat) (id off : Nat) (vs : List PV) (h : Option Tag) (n : Nat) :
    stB (some cs) f B z m id off (vs, h) n true = if vs.length = n ∧ 0 < vs.length ∧ off + vs.length ≤ cs.length ∧ id ∉ z then
      some ⟨f.map (PV.retag (Tag.off fun x => isTag h x || ofCellOf id x)), B.set id (cs.take off ++ vs ++ cs.drop (off + vs.length)), z, id :: m⟩ else none := by
  simp only [stB, true_and]
theorem settle_sc (a b : Nat) (v : Value) : settle a b (.sc v) = ([.sc v], none) := by simp [settle, PV.clean, PV.retag, PV.cells]
theorem settle_ptr (a b c d : Nat) : settle a b (.ptr c d) = ([.ptr c d], none) := by simp [settle, PV.clean, PV.retag, PV.cells]
theorem settle_fn (a b c : Nat) (l : List PV) : settle a b (.fn c l) = ([.fn c l], none) := by simp [settle, PV.clean, PV.retag, PV.cells]
theorem settle_eptr (a b : Nat) (l : List PV) : settle a b (.eptr l) = ([.eptr l], none) := by simp [settle, PV.clean, PV.retag, PV.cells]
theorem settle_slot (a b n d k : Nat) (xs : List PV) : settle a b (.list n (.slot d k) xs) = ([.list n (.cell a b) xs], some (.slot d k)) := rfl
theorem settle_ro (a b n : Nat) (xs : List PV) : settle a b (.list n .ro xs) = ([.list n .ro xs], none) := by simp [settle, PV.clean, PV.retag, PV.cells, Tag.roify, Tag.lin]
theorem settle_full (a b n : Nat) (xs : List PV) : settle a b (.list n .full xs) = ([.list n .full xs], none) := by simp [settle, PV.clean, PV.retag, PV.cells, Tag.roify, Tag.lin]
theorem settle_cell (a b n c d : Nat) (xs : List PV) : settle a b (.list n (.cell c d) xs) = ([.list n .ro xs], none) := by simp [settle, PV.clean, PV.retag, PV.cells, Tag.roify, Tag.lin]
theorem settle_agg (a b : Nat) (l : List PV) : settle a b (.agg l) = (l.map PV.clean, none) := by simp only [settle, PV.clean, PV.retag, PV.retagL_eq, PV.cells]; rfl
theorem clean_sc (v : Value) : PV.clean (.sc v) = .sc v := by simp only [PV.clean, PV.retag]
theorem clean_ptr (a b : Nat) : PV.clean (.ptr a b) = .ptr a b := by simp only [PV.clean, PV.retag]
theorem clean_arr (a b : Nat) : PV.clean (.arr a b) = .arr a b := by simp only [PV.clean, PV.retag]
theorem clean_fn (a : Nat) (b : List PV) : PV.clean (.fn a b) = .fn a b := by simp only [PV.clean, PV.retag]
theorem clean_eptr (b : List PV) : PV.clean (.eptr b) = .eptr b := by simp only [PV.clean, PV.retag]
theorem clean_list (n : Nat) (t : Tag) (xs : List PV) : PV.clean (.list n t xs) = .list n t.roify xs := by simp only [PV.clean, PV.retag]
theorem clean_agg (l : List PV) : PV.clean (.agg l) = .agg (l.map PV.clean) := by simp only [PV.clean, PV.retag, PV.retagL_eq]; rfl
theorem flat_sc (v : Value) : PV.flat (.sc v) = .sc v := by simp only [PV.flat, PV.retag]
theorem flat_ptr (a b : Nat) : PV.flat (.ptr a b) = .ptr a b := by simp only [PV.flat, PV.retag]
theorem flat_arr (a b : Nat) : PV.flat (.arr a b) = .arr a b := by simp only [PV.flat, PV.retag]
theorem flat_fn (a : Nat) (b : List PV) : PV.flat (.fn a b) = .fn a b := by simp only [PV.flat, PV.retag]
theorem flat_eptr (b : List PV) : PV.flat (.eptr b) = .eptr b := by simp only [PV.flat, PV.retag]
theorem flat_list (n : Nat) (t : Tag) (xs : List PV) : PV.flat (.list n t xs) = .list n .ro xs := by simp only [PV.flat, PV.retag]
theorem flat_agg (l : List PV) : PV.flat (.agg l) = .agg (l.map PV.flat) := by simp only [PV.flat, PV.retag, PV.retagL_eq]; rfl
theorem roify_ro : Tag.roify .ro = .ro := rfl
theorem roify_full : Tag.roify .full = .full := rfl
theorem roify_slot (a b : Nat) : Tag.roify (.slot a b) = .ro := rfl
theorem roify_cell (a b : Nat) : Tag.roify (.cell a b) = .ro := rfl
theorem ok_int (q : IntKind) (n : Int) : PV.okCell (.sc (.int q n)) = true := rfl
theorem ok_bool (b : Bool) : PV.okCell (.sc (.bool b)) = true := rfl
theorem ok_nilp : PV.okCell (.sc (.pointer none)) = true := rfl
theorem ok_nilf : PV.okCell (.sc .nilFunc) = true := rfl
theorem ok_ro (n : Nat) (xs : List PV) : PV.okCell (.list n .ro xs) = true := rfl
theorem ok_full (n : Nat) (xs : List PV) : PV.okCell (.list n .full xs) = true := rfl
theorem ok_ptr (a b : Nat) : PV.okCell (.ptr a b) = true := rfl
theorem ok_fn (a : Nat) (b : List PV) : PV.okCell (.fn a b) = true := rfl
theorem ok_eptr (b : List PV) : PV.okCell (.eptr b) = true := rfl

def pushR (f : List PV) (B : List (List PV)) (z m : List Nat) (v : List PV × Option Tag) (ok : Bool) : Option (PV × St) :=
  if ok = true then some (.ptr B.length 0, ⟨f.map (PV.retag (Tag.off fun x => isTag v.2 x || ofCellOf B.length x)), B ++ [v.1], z, m⟩) else none
theorem push_eq (f : List PV) (B : List (List PV)) (z m : List Nat) (p : PV) : pushBox ⟨f, B, z, m⟩ p = pushR f B z m (settle B.length 0 p) (p.clean.cells.all PV.okCell) := rfl
theorem pushR_true (f : List PV) (B : List (List PV)) (z m : List Nat) (v : List PV × Option Tag) : pushR f B z m v true = some (.ptr B.length 0, ⟨f.map (PV.retag (Tag.off fun x => isTag v.2 x || ofCellOf B.length x)), B ++ [v.1], z, m⟩) := rfl

/-! ### Calls -/
def backD (d : Nat) (mods : List Nat) (n : Nat) (h : Tag) : Bool := match h with | .slot d' _ => d' == d | .cell id _ => mods.contains id || decide (n ≤ id) | _ => false
def callR (d : Nat) (f : List PV) (n : Nat) (z m : List Nat) (r : Option Out) : Option (PV × St) := match r with
  | some o => if o.mods.all (fun id => !z.contains id) = true then some (importR d o.r, ⟨f.map (PV.retag (Tag.off (backD d o.mods n))), o.B, z, o.mods ++ m⟩) else none
  | none => none
theorem usedTags_nil : ∀ (i : Nat) (l : List PV), usedTags [] i l = []
  | _, [] => rfl
  | i, a :: l => by cases a <;> simp [usedTags, usedTags_nil (i + 1) l]
theorem call_eq {d : Nat} {f : List PV} {B : List (List PV)} {z m : List Nat} {k : Nat} {args : List PV} (h : consT k = []) :
    callOp tcfg (callW tcfg) d ⟨f, B, z, m⟩ k args = callR d f B.length z m (callW tcfg k (asArgs [] 0 args) B) := by
  have hc : tcfg.cons k = [] := h
  unfold callOp callR
  simp only [hc, usedTags_nil, unhold]
  cases callW tcfg k (asArgs [] 0 args) B with
  | none => rfl
  | some o =>
    simp only [cellIds, noDup, Bool.and_true, List.append_nil, List.contains_nil, Bool.false_and, Bool.false_or, Bool.or_false]
    split
    · simp only [St.off]
      rfl
    · rfl
theorem callR_some (d : Nat) (f : List PV) (n : Nat) (z m : List Nat) (r : PV) (B : List (List PV)) : callR d f n z m (some ⟨r, B, []⟩) = some (importR d r, ⟨f.map (PV.retag (Tag.off (backD d [] n))), B, z, m⟩) := rfl
theorem callR_mods (d : Nat) (f : List PV) (n : Nat) (m : List Nat) (r : PV) (B : List (List PV)) (ms : List Nat) : callR d f n [] m (some ⟨r, B, ms⟩) = some (importR d r, ⟨f.map (PV.retag (Tag.off (backD d ms n))), B, [], ms ++ m⟩) := by
  simp [callR]
theorem asArgs_nil (i : Nat) : asArgs [] i [] = [] := rfl
theorem asArgs_list (i n : Nat) (t : Tag) (xs rs : List PV) : asArgs [] i (.list n t xs :: rs) = .list n .ro xs :: asArgs [] (i + 1) rs := by simp [asArgs]
theorem asArgs_sc (i : Nat) (v : Value) (rs : List PV) : asArgs [] i (.sc v :: rs) = .sc v :: asArgs [] (i + 1) rs := by simp [asArgs, flat_sc]
theorem asArgs_ptr (i a b : Nat) (rs : List PV) : asArgs [] i (.ptr a b :: rs) = .ptr a b :: asArgs [] (i + 1) rs := by simp [asArgs, flat_ptr]
theorem asArgs_arr (i a b : Nat) (rs : List PV) : asArgs [] i (.arr a b :: rs) = .arr a b :: asArgs [] (i + 1) rs := by simp [asArgs, flat_arr]
theorem asArgs_fn (i a : Nat) (b rs : List PV) : asArgs [] i (.fn a b :: rs) = .fn a b :: asArgs [] (i + 1) rs := by simp [asArgs, flat_fn]
theorem asArgs_eptr (i : Nat) (b rs : List PV) : asArgs [] i (.eptr b :: rs) = .eptr b :: asArgs [] (i + 1) rs := by simp [asArgs, flat_eptr]
theorem asArgs_agg (i : Nat) (l rs : List PV) : asArgs [] i (.agg l :: rs) = .agg (l.map PV.flat) :: asArgs [] (i + 1) rs := by simp [asArgs, flat_agg]
theorem import_sc (d : Nat) (v : Value) : importR d (.sc v) = .sc v := by simp [importR, import1, flat_sc]
theorem import_fn (d a : Nat) (l : List PV) : importR d (.fn a l) = .fn a l := by simp [importR, import1, flat_fn]
theorem import_ptr (d a b : Nat) : importR d (.ptr a b) = .ptr a b := by simp [importR, import1, flat_ptr]
theorem import_agg (d : Nat) (l : List PV) : importR d (.agg l) = .agg (l.map PV.flat) := by simp [importR, import1, flat_agg]
theorem import_slot (d n a b : Nat) (xs : List PV) : importR d (.list n (.slot a b) xs) = .list n (.slot d 0) xs := rfl
theorem import_ro (d n : Nat) (xs : List PV) : importR d (.list n .ro xs) = .list n .ro xs := by simp [importR, import1, flat_list]
theorem import_tuple (d : Nat) (vs : List PV) : importR d (.tuple vs) = .tuple (importL d 0 vs) := rfl
theorem importL_nil (d k : Nat) : importL d k [] = [] := rfl
theorem importL_cons (d k : Nat) (c : PV) (cs : List PV) : importL d k (c :: cs) = import1 d k c :: importL d (k + 1) cs := rfl
theorem import1_sc (d k : Nat) (v : Value) : import1 d k (.sc v) = .sc v := by simp [import1, flat_sc]
theorem import1_agg (d k : Nat) (l : List PV) : import1 d k (.agg l) = .agg (l.map PV.flat) := by simp [import1, flat_agg]
theorem import1_slot (d k n a b : Nat) (xs : List PV) : import1 d k (.list n (.slot a b) xs) = .list n (.slot d k) xs := rfl
theorem import1_ro (d k n : Nat) (xs : List PV) : import1 d k (.list n .ro xs) = .list n .ro xs := by simp [import1, flat_list]
theorem import1_ptr (d k a b : Nat) : import1 d k (.ptr a b) = .ptr a b := by simp [import1, flat_ptr]
theorem import1_fn (d k a : Nat) (b : List PV) : import1 d k (.fn a b) = .fn a b := by simp [import1, flat_fn]
theorem extr_tuple (i : Nat) (vs : List PV) : extrPV i (.tuple vs) = vs[i]? := rfl

/-! ### A function's end -/
noncomputable def finR (fn : Func) (k n0 : Nat) (ids : Option (List Nat)) (r : R) : Option Out := match r with
  | some (.normal, s) => declR ids (results tcfg fn k n0 s)
  | some (.ret, s) => declR ids (results tcfg fn k n0 s)
  | _ => none
@[congr] theorem finR_congr {fn : Func} {k n0 : Nat} {ids : Option (List Nat)} {r r' : R} (h : r = r') : finR fn k n0 ids r = finR fn k n0 ids r' := by rw [h]
theorem finR_normal (fn : Func) (k n0 : Nat) (ids : Option (List Nat)) (s : St) : finR fn k n0 ids (some (.normal, s)) = declR ids (results tcfg fn k n0 s) := rfl
theorem finR_ret (fn : Func) (k n0 : Nat) (ids : Option (List Nat)) (s : St) : finR fn k n0 ids (some (.ret, s)) = declR ids (results tcfg fn k n0 s) := rfl
theorem declR_no (r : Option Out) : declR none r = r := rfl
theorem declR_some (l : List Nat) (r : PV) (B : List (List PV)) (m : List Nat) : declR (some l) (some ⟨r, B, m⟩) = if m.all (fun id => l.contains id) = true then some ⟨r, B, l⟩ else none := rfl
theorem callW_of_fin {k n : Nat} {fn : Func} {c : Code} {args : List PV} {B : List (List PV)} {o : Option Out} {ids : Option (List Nat)} (hp : primT k = none) (hf : Try.prog.funcs[k]? = some fn) (hb : fn.body = some c) (hn : fn.ntmps - args.length = n) (hd : (declT k).map (declIds args) = ids)
    (he : finR fn k B.length ids (ev k c 0 { f := args ++ List.replicate n .any, B := B, fz := [], mods := [] }) = o) (ho : o.isSome = true) : callW tcfg k args B = o := by
  obtain ⟨o, rfl⟩ := Option.isSome_iff_exists.1 ho
  refine callW_fn ?_
  rw [evalFn_of hp hf hb, hn, hd]
  exact he
theorem loop_use {k : Nat} {b : Code} {id : Nat} {s : St} {P : List PV → Prop} {G : List PV → R} {rest : R → Option Out} {r : Option Out} (h : ∃ f', P f' ∧ lp k b id s = G f') (hr : ∀ f', P f' → rest (G f') = r) : rest (lp k b id s) = r := by
  obtain ⟨f', h1, h2⟩ := h
  rw [h2]
  exact hr f' h1

/-- One result that lies in a temporary. -/
theorem results_tmp {fn : Func} {k n0 t : Nat} {f : List PV} {B : List (List PV)} {m : List Nat} {p q : PV} (hr : fn.results = #[.tmp t]) (he : escT k = false) (hp : f.getD t .any = p) (hq : export1 0 (thaw n0 B (p.retag (outTag false n0))) = q)
    (hu : (thaw n0 B (p.retag (outTag false n0))).under n0 = true) : results tcfg fn k n0 ⟨f, B, [], m⟩ = some ⟨q, cutB n0 m B, m.filter (· < n0)⟩ := by
  have he' : tcfg.esc k = false := he
  unfold results
  have hm : fn.results.toList.mapM (getRes tcfg ⟨f, B, [], m⟩) = some [p] := by
    rw [hr]
    simp only [List.mapM_cons, List.mapM_nil, getRes, hp]
    rfl
  rw [hm]
  have hx : exportL 0 [thaw n0 B (p.retag (outTag false n0))] = [q] := by
    have := exportL_get [thaw n0 B (p.retag (outTag false n0))] 0 0
    have hl := exportL_len [thaw n0 B (p.retag (outTag false n0))] 0
    match h : exportL 0 [thaw n0 B (p.retag (outTag false n0))], hl with
    | [y], _ =>
      rw [h] at this
      simp at this
      rw [this, hq]
  simp only [List.map_cons, List.map_nil, he', noDup, List.contains_nil, Bool.not_false, Bool.or_true, Bool.and_true, List.all_nil, and_self, if_true, Bool.false_eq_true, if_false, PV.underL, hu, hx, packOut]
theorem thaw_sc (n0 : Nat) (B : List (List PV)) (v : Value) : thaw n0 B (.sc v) = .sc v := rfl
theorem export_sc (k : Nat) (v : Value) : export1 k (.sc v) = .sc v := by simp [export1, flat_sc]
theorem results_sc {fn : Func} {k n0 t : Nat} {f : List PV} {B : List (List PV)} {m : List Nat} {v : Value} (hr : fn.results = #[.tmp t]) (he : escT k = false) (hp : f.getD t .any = .sc v) :
    results tcfg fn k n0 ⟨f, B, [], m⟩ = some ⟨.sc v, cutB n0 m B, m.filter (· < n0)⟩ :=
  results_tmp hr he hp (by rw [retag_sc, thaw_sc, export_sc]) (by rw [retag_sc, thaw_sc, under_sc])

/-! ### Drawn regions -/
noncomputable def rp (k : Nat) (ops : Array Oper) (p : Plan) (s : St) : Option (St × List Nat) := runPlan tcfg (callW tcfg) k ops p s
noncomputable def ra (k : Nat) (ops : Array Oper) (l : List (Nat × Plan)) (s : St) : Option (St × List Nat) := runAlts tcfg (callW tcfg) k ops l s
def addL (l : Option Nat) (r : Option (St × List Nat)) : Option (St × List Nat) := r.map fun r => (r.1, l.toList ++ r.2)
noncomputable def altG (k : Nat) (ops : Array Oper) (p : Plan) (r : Option St) : Option (St × List Nat) := match r with | some s' => rp k ops p s' | none => none
noncomputable def altR (k : Nat) (ops : Array Oper) (p : Plan) (r : Option Oper) (s : St) : Option (St × List Nat) := match r with | some o => altG k ops p (go k ops o s) | none => none
noncomputable def takeR (k : Nat) (ops : Array Oper) (p : Plan) (r : Option Oper) (s : St) : Option (St × List Nat) := match r with
  | some o => if (pureKind o || isLoad o) = true then addL (loadId s.f o) (altG k ops p (go k ops o s)) else none
  | none => none
def rdEnd (m : List Nat) (r : Option (St × List Nat)) : Option St := match r with
  | some (s', ld) => if ld.all (fun x => !(s'.mods.take (s'.mods.length - m.length)).contains x) = true then some s' else none
  | none => none
@[congr] theorem rp_congr {k : Nat} {ops : Array Oper} {p : Plan} {s s' : St} (h : s = s') : rp k ops p s = rp k ops p s' := by rw [h]
@[congr] theorem ra_congr {k : Nat} {ops : Array Oper} {l : List (Nat × Plan)} {s s' : St} (h : s = s') : ra k ops l s = ra k ops l s' := by rw [h]
@[congr] theorem altG_congr {k : Nat} {ops : Array Oper} {p : Plan} {s s' : Option St} (h : s = s') : altG k ops p s = altG k ops p s' := by rw [h]
@[congr] theorem altR_congr {k : Nat} {ops : Array Oper} {p : Plan} {r r' : Option Oper} {s : St} (h : r = r') : altR k ops p r s = altR k ops p r' s := by rw [h]
@[congr] theorem takeR_congr {k : Nat} {ops : Array Oper} {p : Plan} {r r' : Option Oper} {s : St} (h : r = r') : takeR k ops p r s = takeR k ops p r' s := by rw [h]
theorem rd_eq (k id : Nat) (ops : Array Oper) (s : St) : rd k id ops s = rdEnd s.mods (rp k ops (planT k id) s) := by
  unfold rd runDraw rdEnd rp newMods
  rfl
theorem rp_done (k : Nat) (ops : Array Oper) (s : St) : rp k ops .done s = some (s, []) := by simp only [rp, runPlan]
theorem rp_take (k : Nat) (ops : Array Oper) (i : Nat) (p : Plan) (s : St) : rp k ops (.take i p) s = takeR k ops p ops[i]? s := by
  unfold rp takeR
  simp only [runPlan]
  cases ops[i]? with
  | none => rfl
  | some o =>
    simp only
    split
    · unfold altG go addL rp
      cases guardOp tcfg (callW tcfg) k ops o s <;> rfl
    · rfl
theorem takeR_some (k : Nat) (ops : Array Oper) (p : Plan) (o : Oper) (s : St) (h : (pureKind o || isLoad o) = true) : takeR k ops p (some o) s = addL (loadId s.f o) (altG k ops p (go k ops o s)) := by
  simp only [takeR, h, if_true]
theorem rp_alt (k : Nat) (ops : Array Oper) (l : List (Nat × Plan)) (s : St) : rp k ops (.alt l) s = ra k ops l s := by simp only [rp, ra, runPlan]
theorem alt_aux (k : Nat) (ops : Array Oper) (i : Nat) (p : Plan) (s : St) : (match ops[i]? with
      | some o => match guardOp tcfg (callW tcfg) k ops o s with
        | some s' => runPlan tcfg (callW tcfg) k ops p s'
        | none => none
      | none => none) = altR k ops p ops[i]? s := by
  unfold altR altG go rp
  cases ops[i]? with
  | none => rfl
  | some o => cases h : guardOp tcfg (callW tcfg) k ops o s <;> simp only [h]
theorem ra_one (k : Nat) (ops : Array Oper) (i : Nat) (p : Plan) (s : St) : ra k ops [(i, p)] s = altR k ops p ops[i]? s := by
  rw [← alt_aux]
  simp only [ra, runAlts, List.isEmpty_nil, joinAlts]
  rfl
theorem ra_two (k : Nat) (ops : Array Oper) (i : Nat) (p : Plan) (x : Nat × Plan) (l : List (Nat × Plan)) (s : St) : ra k ops ((i, p) :: x :: l) s = joinAlts false (altR k ops p ops[i]? s) (ra k ops (x :: l) s) := by
  rw [← alt_aux]
  unfold ra
  rw [runAlts]
  rfl
theorem altR_some (k : Nat) (ops : Array Oper) (p : Plan) (o : Oper) (s : St) : altR k ops p (some o) s = altG k ops p (go k ops o s) := rfl
theorem altG_some (k : Nat) (ops : Array Oper) (p : Plan) (s : St) : altG k ops p (some s) = rp k ops p s := rfl
theorem addL_some (l : Option Nat) (s : St) (ld : List Nat) : addL l (some (s, ld)) = some (s, l.toList ++ ld) := rfl
theorem join_eq {s1 s2 : St} {l1 l2 : List Nat} (h : s2 = s1) : joinAlts false (some (s1, l1)) (some (s2, l2)) = some (s1, l1 ++ l2) := by simp only [joinAlts, h, if_true]
theorem rdEnd_same (m : List Nat) (f : List PV) (B : List (List PV)) (z : List Nat) (ld : List Nat) : rdEnd m (some (⟨f, B, z, m⟩, ld)) = some ⟨f, B, z, m⟩ := by simp [rdEnd]
theorem rdEnd_one (m : List Nat) (f : List PV) (B : List (List PV)) (z : List Nat) (ld : List Nat) (i : Nat) : rdEnd m (some (⟨f, B, z, i :: m⟩, ld)) = if ld.all (fun x => !(x == i)) = true then some ⟨f, B, z, i :: m⟩ else none := by
  have : (i :: m).length - m.length = 1 := by simp
  simp [rdEnd]
theorem rdEnd_two (m : List Nat) (f : List PV) (B : List (List PV)) (z : List Nat) (ld : List Nat) (i j : Nat) : rdEnd m (some (⟨f, B, z, i :: j :: m⟩, ld)) = if ld.all (fun x => !(x == i) && !(x == j)) = true then some ⟨f, B, z, i :: j :: m⟩ else none := by
  have : m.length + 1 + 1 - m.length = 2 := by omega
  simp [rdEnd, this]
theorem set_comm_ {l : List PV} {i j : Nat} {p q : PV} (h : (i == j) = false) : (l.set i p).set j q = (l.set j q).set i p := List.set_comm p q (by simpa using h)

/-! ### Results -/
theorem results_1 {fn : Func} {k n0 : Nat} {f : List PV} {B : List (List PV)} {m : List Nat} {r : ResultVar} {p q : PV} (hr : fn.results = #[r]) (he : escT k = false) (hp : getRes tcfg ⟨f, B, [], m⟩ r = some p)
    (hq : export1 0 (thaw n0 B (p.retag (outTag false n0))) = q) (hu : (thaw n0 B (p.retag (outTag false n0))).under n0 = true) : results tcfg fn k n0 ⟨f, B, [], m⟩ = some ⟨q, cutB n0 m B, m.filter (· < n0)⟩ := by
  have he' : tcfg.esc k = false := he
  unfold results
  have hm : fn.results.toList.mapM (getRes tcfg ⟨f, B, [], m⟩) = some [p] := by
    rw [hr]
    simp only [List.mapM_cons, List.mapM_nil, hp]
    rfl
  have hx : exportL 0 [thaw n0 B (p.retag (outTag false n0))] = [q] := by
    apply List.ext_getElem?
    intro i
    rw [exportL_get]
    cases i with
    | zero => simp [hq]
    | succ i => simp
  rw [hm]
  simp only [List.map_cons, List.map_nil, he', noDup, List.contains_nil, Bool.not_false, Bool.or_true, Bool.and_true, List.all_nil, and_self, if_true, Bool.false_eq_true, if_false, PV.underL, hu, hx, packOut]
theorem results_esc {fn : Func} {k n0 : Nat} {f : List PV} {B : List (List PV)} {m : List Nat} {r : ResultVar} {p q : PV} (hr : fn.results = #[r]) (he : escT k = true) (hp : getRes tcfg ⟨f, B, [], m⟩ r = some p)
    (hq : export1 0 (p.retag (outTag true n0)) = q) : results tcfg fn k n0 ⟨f, B, [], m⟩ = some ⟨q, B, m.filter (· < n0)⟩ := by
  have he' : tcfg.esc k = true := he
  unfold results
  have hm : fn.results.toList.mapM (getRes tcfg ⟨f, B, [], m⟩) = some [p] := by
    rw [hr]
    simp only [List.mapM_cons, List.mapM_nil, hp]
    rfl
  have hx : exportL 0 [p.retag (outTag true n0)] = [q] := by
    apply List.ext_getElem?
    intro i
    rw [exportL_get]
    cases i with
    | zero => simp [hq]
    | succ i => simp
  rw [hm]
  simp only [List.map_cons, List.map_nil, he', noDup, List.contains_nil, Bool.not_false, Bool.or_true, Bool.and_true, List.all_nil, and_self, if_true, hx, packOut]
theorem results_2 {fn : Func} {k n0 : Nat} {f : List PV} {B : List (List PV)} {m : List Nat} {r1 r2 : ResultVar} {p1 p2 q1 q2 : PV} (hr : fn.results = #[r1, r2]) (he : escT k = false) (h1 : getRes tcfg ⟨f, B, [], m⟩ r1 = some p1) (h2 : getRes tcfg ⟨f, B, [], m⟩ r2 = some p2)
    (hn : noDup [tagOf (p1.retag (outTag false n0)), tagOf (p2.retag (outTag false n0))] = true)
    (hq1 : export1 0 (thaw n0 B (p1.retag (outTag false n0))) = q1) (hq2 : export1 1 (thaw n0 B (p2.retag (outTag false n0))) = q2) (hu1 : (thaw n0 B (p1.retag (outTag false n0))).under n0 = true) (hu2 : (thaw n0 B (p2.retag (outTag false n0))).under n0 = true) :
    results tcfg fn k n0 ⟨f, B, [], m⟩ = some ⟨.tuple [q1, q2], cutB n0 m B, m.filter (· < n0)⟩ := by
  have he' : tcfg.esc k = false := he
  unfold results
  have hm : fn.results.toList.mapM (getRes tcfg ⟨f, B, [], m⟩) = some [p1, p2] := by
    rw [hr]
    simp only [List.mapM_cons, List.mapM_nil, h1, h2]
    rfl
  have hx : exportL 0 [thaw n0 B (p1.retag (outTag false n0)), thaw n0 B (p2.retag (outTag false n0))] = [q1, q2] := by
    apply List.ext_getElem?
    intro i
    rw [exportL_get]
    match i with
    | 0 => simp [hq1]
    | 1 => simp [hq2]
    | i + 2 => simp
  rw [hm]
  simp only [List.map_cons, List.map_nil, he', hn, List.all_nil, and_self, if_true, Bool.false_eq_true, if_false, PV.underL, hu1, hu2, Bool.and_self, hx, packOut]
theorem get_tmp (f : List PV) (B : List (List PV)) (z m : List Nat) (t : Nat) : getRes tcfg ⟨f, B, z, m⟩ (.tmp t) = some (f.getD t .any) := rfl
theorem get_cell (f : List PV) (B : List (List PV)) (z m : List Nat) (a t : Nat) : getRes tcfg ⟨f, B, z, m⟩ (.cell a t) = loadOp Try.prog B t (f.getD a .any) := rfl
theorem thaw_agg (n0 : Nat) (B : List (List PV)) (l : List PV) : thaw n0 B (.agg l) = .agg l := rfl
theorem thaw_list (n0 : Nat) (B : List (List PV)) (n : Nat) (t : Tag) (l : List PV) : thaw n0 B (.list n t l) = .list n t l := rfl
theorem thaw_fn (n0 : Nat) (B : List (List PV)) (n : Nat) (l : List PV) : thaw n0 B (.fn n l) = .fn n l := rfl
theorem thaw_ptr (n0 : Nat) (B : List (List PV)) (n k : Nat) : thaw n0 B (.ptr n k) = .ptr n k := rfl
theorem export_agg (k : Nat) (l : List PV) : export1 k (.agg l) = .agg (l.map PV.flat) := by simp [export1, flat_agg]
theorem export_fn (k a : Nat) (l : List PV) : export1 k (.fn a l) = .fn a l := by simp [export1, flat_fn]
theorem export_ptr (k a b : Nat) : export1 k (.ptr a b) = .ptr a b := by simp [export1, flat_ptr]
theorem export_ro (k n : Nat) (xs : List PV) : export1 k (.list n .ro xs) = .list n .ro xs := by simp [export1]
theorem export_full (k n : Nat) (xs : List PV) : export1 k (.list n .full xs) = .list n (.slot 0 k) xs := by simp [export1]
theorem export_slot (k n a b : Nat) (xs : List PV) : export1 k (.list n (.slot a b) xs) = .list n (.slot 0 k) xs := by simp [export1]
theorem export_cell (k n a b : Nat) (xs : List PV) : export1 k (.list n (.cell a b) xs) = .list n (.slot 0 k) xs := by simp [export1]

def out1b (n0 : Nat) (B : List (List PV)) (m : List Nat) (p : PV) : Option Out := if p.under n0 = true then some ⟨export1 0 p, cutB n0 m B, m.filter (· < n0)⟩ else none
def out1 (n0 : Nat) (B : List (List PV)) (m : List Nat) (r : Option PV) : Option Out := match r with | some p => out1b n0 B m (thaw n0 B (p.retag (outTag false n0))) | none => none
theorem out1_some (n0 : Nat) (B : List (List PV)) (m : List Nat) (p : PV) : out1 n0 B m (some p) = out1b n0 B m (thaw n0 B (p.retag (outTag false n0))) := rfl
theorem out1b_eq (n0 : Nat) (B : List (List PV)) (m : List Nat) (p : PV) : out1b n0 B m p = if p.under n0 = true then some ⟨export1 0 p, cutB n0 m B, m.filter (· < n0)⟩ else none := rfl
theorem res1 {fn : Func} {k n0 : Nat} {f : List PV} {B : List (List PV)} {m : List Nat} {r : ResultVar} {p : PV} (hr : fn.results = #[r]) (he : escT k = false) (hp : getRes tcfg ⟨f, B, [], m⟩ r = some p)
    (hu : (thaw n0 B (p.retag (outTag false n0))).under n0 = true) : results tcfg fn k n0 ⟨f, B, [], m⟩ = out1 n0 B m (getRes tcfg ⟨f, B, [], m⟩ r) := by
  rw [results_1 hr he hp rfl hu, hp, out1_some, out1b_eq, if_pos hu]
theorem results_1e {fn : Func} {k n0 : Nat} {f : List PV} {B : List (List PV)} {m : List Nat} {r : ResultVar} (hr : fn.results = #[r]) (he : escT k = false) : results tcfg fn k n0 ⟨f, B, [], m⟩ = out1 n0 B m (getRes tcfg ⟨f, B, [], m⟩ r) := by
  cases hp : getRes tcfg ⟨f, B, [], m⟩ r with
  | some p =>
    by_cases hu : (thaw n0 B (p.retag (outTag false n0))).under n0 = true
    · rw [results_1 hr he hp rfl hu, out1_some, out1b_eq, if_pos hu]
    · rw [out1_some, out1b_eq, if_neg hu]
      have he' : tcfg.esc k = false := he
      unfold results
      have hm : fn.results.toList.mapM (getRes tcfg ⟨f, B, [], m⟩) = some [p] := by
        rw [hr]
        simp only [List.mapM_cons, List.mapM_nil, hp]
        rfl
      rw [hm]
      simp only [List.map_cons, List.map_nil, he', noDup, List.contains_nil, Bool.not_false, Bool.or_true, Bool.and_true, List.all_nil, and_self, if_true, Bool.false_eq_true, if_false, PV.underL, hu]
  | none =>
    unfold results
    have hm : fn.results.toList.mapM (getRes tcfg ⟨f, B, [], m⟩) = none := by
      rw [hr]
      simp only [List.mapM_cons, List.mapM_nil, hp]
      rfl
    rw [hm]
    rfl
def outE (n0 : Nat) (B : List (List PV)) (m : List Nat) (r : Option PV) : Option Out := match r with | some p => some ⟨export1 0 (p.retag (outTag true n0)), B, m.filter (· < n0)⟩ | none => none
theorem outE_some (n0 : Nat) (B : List (List PV)) (m : List Nat) (p : PV) : outE n0 B m (some p) = some ⟨export1 0 (p.retag (outTag true n0)), B, m.filter (· < n0)⟩ := rfl
theorem results_ee {fn : Func} {k n0 : Nat} {f : List PV} {B : List (List PV)} {m : List Nat} {r : ResultVar} (hr : fn.results = #[r]) (he : escT k = true) : results tcfg fn k n0 ⟨f, B, [], m⟩ = outE n0 B m (getRes tcfg ⟨f, B, [], m⟩ r) := by
  cases hp : getRes tcfg ⟨f, B, [], m⟩ r with
  | some p => rw [results_esc hr he hp rfl]; rfl
  | none =>
    unfold results
    have hm : fn.results.toList.mapM (getRes tcfg ⟨f, B, [], m⟩) = none := by
      rw [hr]
      simp only [List.mapM_cons, List.mapM_nil, hp]
      rfl
    rw [hm]
    rfl
def out2b (n0 : Nat) (B : List (List PV)) (m : List Nat) (p q : PV) : Option Out := if noDup [tagOf p, tagOf q] = true ∧ (thaw n0 B p).under n0 = true ∧ (thaw n0 B q).under n0 = true then some ⟨.tuple [export1 0 (thaw n0 B p), export1 1 (thaw n0 B q)], cutB n0 m B, m.filter (· < n0)⟩ else none
def out2 (n0 : Nat) (B : List (List PV)) (m : List Nat) (r1 r2 : Option PV) : Option Out := match r1, r2 with | some p, some q => out2b n0 B m (p.retag (outTag false n0)) (q.retag (outTag false n0)) | _, _ => none
theorem out2_some (n0 : Nat) (B : List (List PV)) (m : List Nat) (p q : PV) : out2 n0 B m (some p) (some q) = out2b n0 B m (p.retag (outTag false n0)) (q.retag (outTag false n0)) := rfl
theorem results_2e {fn : Func} {k n0 : Nat} {f : List PV} {B : List (List PV)} {m : List Nat} {r1 r2 : ResultVar} (hr : fn.results = #[r1, r2]) (he : escT k = false) : results tcfg fn k n0 ⟨f, B, [], m⟩ = out2 n0 B m (getRes tcfg ⟨f, B, [], m⟩ r1) (getRes tcfg ⟨f, B, [], m⟩ r2) := by
  have he' : tcfg.esc k = false := he
  cases h1 : getRes tcfg ⟨f, B, [], m⟩ r1 with
  | none =>
    unfold results
    have hm : fn.results.toList.mapM (getRes tcfg ⟨f, B, [], m⟩) = none := by
      rw [hr]
      simp only [List.mapM_cons, List.mapM_nil, h1]
      rfl
    rw [hm]
    rfl
  | some p =>
    cases h2 : getRes tcfg ⟨f, B, [], m⟩ r2 with
    | none =>
      unfold results
      have hm : fn.results.toList.mapM (getRes tcfg ⟨f, B, [], m⟩) = none := by
        rw [hr]
        simp only [List.mapM_cons, List.mapM_nil, h1, h2]
        rfl
      rw [hm]
      rfl
    | some q =>
      rw [out2_some]
      unfold out2b
      by_cases hc : noDup [tagOf (p.retag (outTag false n0)), tagOf (q.retag (outTag false n0))] = true ∧ (thaw n0 B (p.retag (outTag false n0))).under n0 = true ∧ (thaw n0 B (q.retag (outTag false n0))).under n0 = true
      · rw [if_pos hc, results_2 hr he h1 h2 hc.1 rfl rfl hc.2.1 hc.2.2]
      · rw [if_neg hc]
        unfold results
        have hm : fn.results.toList.mapM (getRes tcfg ⟨f, B, [], m⟩) = some [p, q] := by
          rw [hr]
          simp only [List.mapM_cons, List.mapM_nil, h1, h2]
          rfl
        rw [hm]
        simp only [List.map_cons, List.map_nil, he', List.all_nil, and_true, Bool.false_eq_true, if_false, PV.underL, Bool.and_true, Bool.and_eq_true]
        split
        · rename_i hn
          split
          · rename_i hu; exact absurd ⟨hn, hu⟩ hc
          · rfl
        · rfl
theorem noDup2_sc (t : Tag) (v : Value) : noDup [t, tagOf (.sc v)] = true := by
  simp [noDup, tagOf]
  cases t <;> simp [Tag.lin]

/-! ### Fields -/
def faR (r : Option (Nat × Nat)) (x : PV) : Option PV := match r with
  | some (o, _) => match x with
    | .ptr id off => some (.ptr id (off + o))
    | .eptr cs => if o ≤ cs.length then some (.eptr (cs.drop o)) else none
    | _ => none
  | none => none
theorem fa_eq (t i : Nat) (x : PV) : fieldAddrPV Try.prog t i x = faR (fieldOf Try.prog t i) x := by
  unfold fieldAddrPV faR
  generalize fieldOf Try.prog t i = r
  cases r with
  | none => rfl
  | some r => obtain ⟨o, ft⟩ := r; cases x <;> rfl
theorem faR_ptr (o ft id off : Nat) : faR (some (o, ft)) (.ptr id off) = some (.ptr id (off + o)) := rfl
theorem faR_eptr (o ft : Nat) (cs : List PV) : faR (some (o, ft)) (.eptr cs) = if o ≤ cs.length then some (.eptr (cs.drop o)) else none := rfl
noncomputable def fldR (r : Option (Nat × Nat)) (x : PV) : Option PV := match r, x with
  | some (o, ft), .agg cs => if o + Try.prog.cellsOf ft ≤ cs.length ∧ knownT Try.prog ft = true then packT Try.prog ft ((cs.drop o).take (Try.prog.cellsOf ft)) else none
  | _, _ => none
theorem fld_eq (t i : Nat) (x : PV) : fieldPV Try.prog t i x = fldR (fieldOf Try.prog t i) x := by
  unfold fieldPV fldR
  generalize fieldOf Try.prog t i = r
  cases r with
  | none => rfl
  | some r => obtain ⟨o, ft⟩ := r; cases x <;> rfl
theorem fldR_agg (o ft : Nat) (cs : List PV) : fldR (some (o, ft)) (.agg cs) = if o + Try.prog.cellsOf ft ≤ cs.length ∧ knownT Try.prog ft = true then packT Try.prog ft ((cs.drop o).take (Try.prog.cellsOf ft)) else none := rfl
theorem pack_one (t : Nat) (c : PV) (h : isAggT Try.prog t = false) : packT Try.prog t [c] = some c := by simp [packT, h]
theorem pack_agg (t : Nat) (cs : List PV) (h : isAggT Try.prog t = true) : packT Try.prog t cs = some (.agg cs) := by simp [packT, h]

/-! ### Slices that are written down -/
/-- What a slice type's elements are. -/
def elT (P : Program) (t : Nat) : Option Nat := match P.underlying t with | some (.slice e) => some e | _ => none
noncomputable def bsl (s : St) (len : Nat) (parts : List (Nat × PV)) (e : Option Nat) : Option (PV × St) := match e with
  | some e => if parts.map (·.1) = List.range len ∧ 0 < Try.prog.cellsOf e ∧ len * Try.prog.cellsOf e ≤ 16777216 ∧ (Try.prog.info? e).isSome = true ∧ (zOf e).length = Try.prog.cellsOf e ∧ parts.all (fun x => PV.okElem (Try.prog.cellsOf e) x.2.flat) = true then some (.list (Try.prog.cellsOf e) .full (parts.map fun x => x.2.flat), s) else none
  | none => none
theorem bslice (t len : Nat) (s : St) (parts : List (Nat × PV)) : buildSliceOp tcfg s t len parts = bsl s len parts (elT Try.prog t) := by
  unfold buildSliceOp bsl elT
  simp only [tcfg_P]
  generalize Try.prog.underlying t = r
  cases r with
  | none => rfl
  | some d => cases d <;> rfl
theorem bsl_some (s : St) (len : Nat) (parts : List (Nat × PV)) (e : Nat) : bsl s len parts (some e) = if parts.map (·.1) = List.range len ∧ 0 < Try.prog.cellsOf e ∧ len * Try.prog.cellsOf e ≤ 16777216 ∧ (Try.prog.info? e).isSome = true ∧ (zOf e).length = Try.prog.cellsOf e ∧ parts.all (fun x => PV.okElem (Try.prog.cellsOf e) x.2.flat) = true then some (.list (Try.prog.cellsOf e) .full (parts.map fun x => x.2.flat), s) else none := rfl
theorem elT_of {t e : Nat} (h : Try.prog.underlying t = some (.slice e)) : elT Try.prog t = some e := by simp only [elT, h]
theorem okElem_one (c : PV) (h : c.cells = [c]) : PV.okElem 1 c = c.plain := by simp [PV.okElem, h]
theorem okElem_sc (v : Value) : PV.okElem 1 (.sc v) = v.oneCell' := by simp [PV.okElem, PV.cells, PV.plain]
theorem okElem_agg (n : Nat) (l : List PV) : PV.okElem n (.agg l) = (l.length == n && l.all PV.plain) := rfl
theorem one_int (q : IntKind) (n : Int) : (Value.int q n).oneCell' = true := rfl
theorem one_bool (b : Bool) : (Value.bool b).oneCell' = true := rfl
theorem plain_int (q : IntKind) (n : Int) : PV.plain (.sc (.int q n)) = true := rfl
theorem plain_bool (b : Bool) : PV.plain (.sc (.bool b)) = true := rfl
theorem plain_ro (n : Nat) (xs : List PV) : PV.plain (.list n .ro xs) = true := rfl
theorem range_0 : List.range 0 = [] := rfl
theorem range_1 : List.range 1 = [0] := rfl
theorem range_2 : List.range 2 = [0, 1] := rfl
theorem range_3 : List.range 3 = [0, 1, 2] := rfl
theorem range_4 : List.range 4 = [0, 1, 2, 3] := rfl
theorem range_5 : List.range 5 = [0, 1, 2, 3, 4] := rfl

/-! ### Tags that are struck off -/
theorem off_ro (D : Tag → Bool) : Tag.off D .ro = .ro := by unfold Tag.off; split <;> rfl
theorem off_eq (D : Tag → Bool) (t : Tag) : Tag.off D t = if D t = true then .ro else t := rfl
theorem isTag_none (t : Tag) : isTag none t = false := rfl
theorem isTag_some (h t : Tag) : isTag (some h) t = (h == t) := by
  unfold isTag
  cases h <;> cases t <;> rfl
theorem ofCell_full (i : Nat) : ofCellOf i .full = false := rfl
theorem ofCell_slot (i a b : Nat) : ofCellOf i (.slot a b) = false := rfl
theorem ofCell_cell (i a b : Nat) : ofCellOf i (.cell a b) = (a == i) := rfl
theorem backD_full (d : Nat) (m : List Nat) (n : Nat) : backD d m n .full = false := rfl
theorem backD_slot (d : Nat) (m : List Nat) (n a b : Nat) : backD d m n (.slot a b) = (a == d) := rfl
theorem backD_cell (d : Nat) (m : List Nat) (n a b : Nat) : backD d m n (.cell a b) = (m.contains a || decide (n ≤ a)) := rfl
theorem dieB_full (n : Nat) : dieB n .full = false := rfl
theorem dieB_slot (n a b : Nat) : dieB n (.slot a b) = false := rfl
theorem dieB_cell (n a b : Nat) : dieB n (.cell a b) = decide (n ≤ a) := rfl
theorem tag_ss (a b c d : Nat) : ((Tag.slot a b) == (Tag.slot c d)) = (a == c && b == d) := by
  rw [Bool.eq_iff_iff]; simp
theorem tag_cc (a b c d : Nat) : ((Tag.cell a b) == (Tag.cell c d)) = (a == c && b == d) := by
  rw [Bool.eq_iff_iff]; simp
theorem tag_sc (a b c d : Nat) : ((Tag.slot a b) == (Tag.cell c d)) = false := by simp
theorem tag_cs (a b c d : Nat) : ((Tag.cell a b) == (Tag.slot c d)) = false := by simp
theorem tag_sf (a b : Nat) : ((Tag.slot a b) == Tag.full) = false := by simp
theorem tag_cf (a b : Nat) : ((Tag.cell a b) == Tag.full) = false := by simp
theorem tag_fs (a b : Nat) : (Tag.full == (Tag.slot a b)) = false := by simp

def allocR (s : St) (z : List PV) : Option (PV × St) := match z with | [] => none | c :: cs => some (.ptr s.B.length 0, { s with B := s.B ++ [c :: cs] })
theorem so_alloc2 (k : Nat) (dst : Option Nat) (ty : Nat) (pos : String) (aft : Array Edge) (gd : Option (Nat × Bool)) (s : St) (e : Nat) : so k ⟨dst, .alloc e, ty, pos, aft, gd⟩ s = allocR s (zOf e) := by
  cases h : zOf e with
  | nil =>
    unfold so stepOp allocR
    exact if_neg fun hh => hh h
  | cons c cs => rw [so_alloc k dst ty pos aft gd s e (by rw [h]; rfl), h]; rfl
theorem allocR_cons (s : St) (c : PV) (cs : List PV) : allocR s (c :: cs) = some (.ptr s.B.length 0, { s with B := s.B ++ [c :: cs] }) := rfl

def buildS (st : Bool) (z : List PV) (r : Option (List (Nat × Nat × List PV))) : Option PV := match st, z with | true, c :: cs => fillR (c :: cs) r | _, _ => none
theorem build_st {t : Nat} {parts : List (Nat × PV)} (h : isStruct Try.prog t = true) : buildPV tcfg t parts = buildS true (zOf t) (bparts Try.prog t parts) := by
  cases hz : zOf t with
  | nil =>
    unfold buildPV buildS
    have e : (tcfg.Z t).isEmpty = true := by show (zOf t).isEmpty = true; rw [hz]; rfl
    rw [e]; rfl
  | cons c cs =>
    rw [build_struct h (by rw [hz]; rfl), hz]
    rfl
theorem buildS_cons (c : PV) (cs : List PV) (r : Option (List (Nat × Nat × List PV))) : buildS true (c :: cs) r = fillR (c :: cs) r := rfl
def bp1 (v : PV) (o : Option (Nat × Nat)) (l : Option (List (Nat × Nat × List PV))) : Option (List (Nat × Nat × List PV)) := match o, l with | some (o, n), some l => some ((o, n, v.clean.cells) :: l) | _, _ => none
theorem bparts_c (t i : Nat) (v : PV) (r : List (Nat × PV)) : bparts Try.prog t ((i, v) :: r) = bp1 v (foff Try.prog t i) (bparts Try.prog t r) := by
  simp only [bparts, bp1]
  generalize foff Try.prog t i = o
  cases o with
  | none => rfl
  | some o => cases bparts Try.prog t r <;> rfl
theorem bp1_some (v : PV) (o n : Nat) (l : List (Nat × Nat × List PV)) : bp1 v (some (o, n)) (some l) = some ((o, n, v.clean.cells) :: l) := rfl

theorem beq_add (n a b : Nat) : (n + a == n + b) = (a == b) := by rw [Bool.eq_iff_iff]; simp
theorem beq_add0 (n b : Nat) : (n == n + b) = (0 == b) := by rw [Bool.eq_iff_iff]; simp; omega
theorem beq_add1 (n b : Nat) : (n + b == n) = (b == 0) := by rw [Bool.eq_iff_iff]; simp
end Go.Q
