/-
  Evaluation by simp: branches that meet again, results, loops; the lemmas are gathered in one set.
-/
import Derived.Test.YtgcmbhfbdblfcaaQp
set_option linter.unusedVariables false
set_option linter.unusedSimpArgs false
set_option maxRecDepth 10000
namespace Go.Q
open Go.Proofs

/-! ### Branches -/
def cnd {α : Type} (c : Bool) (x y : α) : α := match c with | true => x | false => y
section
variable {α : Type} (c : Bool)
theorem cnd_t (x y : α) : cnd true x y = x := rfl
theorem cnd_f (x y : α) : cnd false x y = y := rfl
theorem cnd_same (x : α) : cnd c x x = x := by cases c <;> rfl
theorem cnd_not (x y : α) : cnd (!c) x y = cnd c y x := by cases c <;> rfl
theorem cnd_l (x y z : α) : cnd c (cnd c x y) z = cnd c x z := by cases c <;> rfl
theorem cnd_r (x y z : α) : cnd c x (cnd c y z) = cnd c x z := by cases c <;> rfl
theorem cnd_ite (x y : α) : cnd c x y = if c = true then x else y := by cases c <;> rfl
end
def mrg (c : Bool) (f g : List PV) : List PV := cnd c f g
def mrgB (c : Bool) (f g : List (List PV)) : List (List PV) := cnd c f g
section
variable (c : Bool)
theorem mrg_nil : mrg c [] [] = [] := by cases c <;> rfl
theorem mrg_cons (a b : PV) (f g : List PV) : mrg c (a :: f) (b :: g) = cnd c a b :: mrg c f g := by cases c <;> rfl
theorem mrgB_same (B : List (List PV)) : mrgB c B B = B := by cases c <;> rfl
theorem mrgB_app (B L M : List (List PV)) : mrgB c (B ++ L) (B ++ M) = B ++ mrgB c L M := by cases c <;> rfl
theorem mrgB_nil : mrgB c [] [] = [] := by cases c <;> rfl
theorem mrgB_cons (a b : List PV) (f g : List (List PV)) : mrgB c (a :: f) (b :: g) = mrg c a b :: mrgB c f g := by cases c <;> rfl
theorem cnd_normal (f g : List PV) (B D : List (List PV)) (z m n : List Nat) : cnd c (some (Ex.normal, St.mk f B z m)) (some (Ex.normal, St.mk g D z n)) = some (Ex.normal, St.mk (mrg c f g) (mrgB c B D) z (cnd c m n)) := by cases c <;> rfl
theorem cnd_exit (id : Nat) (f g : List PV) (B D : List (List PV)) (z m n : List Nat) : cnd c (some (Ex.exit id, St.mk f B z m)) (some (Ex.exit id, St.mk g D z n)) = some (Ex.exit id, St.mk (mrg c f g) (mrgB c B D) z (cnd c m n)) := by cases c <;> rfl
theorem cnd_ret (f g : List PV) (B D : List (List PV)) (z m n : List Nat) : cnd c (some (Ex.ret, St.mk f B z m)) (some (Ex.ret, St.mk g D z n)) = some (Ex.ret, St.mk (mrg c f g) (mrgB c B D) z (cnd c m n)) := by cases c <;> rfl
theorem cnd_st (f g : List PV) (B D : List (List PV)) (z m n : List Nat) : cnd c (some (St.mk f B z m)) (some (St.mk g D z n)) = some (St.mk (mrg c f g) (mrgB c B D) z (cnd c m n)) := by cases c <;> rfl
theorem cnd_int (q : IntKind) (a b : Int) : cnd c (PV.sc (.int q a)) (PV.sc (.int q b)) = .sc (.int q (cnd c a b)) := by cases c <;> rfl
theorem cnd_bool (a b : Bool) : cnd c (PV.sc (.bool a)) (PV.sc (.bool b)) = .sc (.bool (cnd c a b)) := by cases c <;> rfl
theorem cnd_list (n : Nat) (t : Tag) (xs ys : List PV) : cnd c (PV.list n t xs) (PV.list n t ys) = .list n t (cnd c xs ys) := by cases c <;> rfl
theorem cnd_agg (xs ys : List PV) : cnd c (PV.agg xs) (PV.agg ys) = .agg (mrg c xs ys) := by cases c <;> rfl
theorem cnd_tuple (xs ys : List PV) : cnd c (PV.tuple xs) (PV.tuple ys) = .tuple (mrg c xs ys) := by cases c <;> rfl
theorem cnd_out (r s : PV) (B D : List (List PV)) (m : List Nat) : cnd c (some (Out.mk r B m)) (some (Out.mk s D m)) = some (Out.mk (cnd c r s) (mrgB c B D) m) := by cases c <;> rfl
theorem cnd_tb (b : Bool) : cnd c true b = (c || b) := by cases c <;> rfl
theorem cnd_bf (b : Bool) : cnd c b false = (c && b) := by cases c <;> rfl
theorem cnd_fb (b : Bool) : cnd c false b = (!c && b) := by cases c <;> rfl
theorem cnd_bt (b : Bool) : cnd c b true = (!c || b) := by cases c <;> rfl
theorem filter_cnd (p : Nat → Bool) (x y : List Nat) : (cnd c x y).filter p = cnd c (x.filter p) (y.filter p) := by cases c <;> rfl
theorem cutB_cnd (n : Nat) (x y : List Nat) (B : List (List PV)) : cutB n (cnd c x y) B = mrgB c (cutB n x B) (cutB n y B) := by cases c <;> rfl
theorem all_cnd {β : Type} (p : β → Bool) (x y : List β) : (cnd c x y).all p = cnd c (x.all p) (y.all p) := by cases c <;> rfl
theorem retag_cnd (g : Tag → Tag) (x y : PV) : PV.retag g (cnd c x y) = cnd c (PV.retag g x) (PV.retag g y) := by cases c <;> rfl
theorem under_cnd (n : Nat) (x y : PV) : PV.under n (cnd c x y) = cnd c (PV.under n x) (PV.under n y) := by cases c <;> rfl
theorem pick_b (a b : PV) : pickPV (.sc (.bool c)) a b = some (cnd c a b) := by cases c <;> rfl
theorem condEv_b (k : Nat) (a b : Code) (bid : Nat) (s : St) : condEv k a b bid s (.sc (.bool c)) = cnd c (ev k a bid s) (ev k b bid s) := by cases c <;> rfl
theorem thenEv_c (k bid : Nat) (d : Code) (x y : R) : thenEv k d bid (cnd c x y) = cnd c (thenEv k d bid x) (thenEv k d bid y) := by cases c <;> rfl
theorem blockEv_c (id : Nat) (x y : R) : blockEv id (cnd c x y) = cnd c (blockEv id x) (blockEv id y) := by cases c <;> rfl
theorem finR_c (fn : Func) (k n0 : Nat) (ids : Option (List Nat)) (x y : R) : finR fn k n0 ids (cnd c x y) = cnd c (finR fn k n0 ids x) (finR fn k n0 ids y) := by cases c <;> rfl
theorem roundOf_c (kl : List Bool) (n : Nat) (m0 : List Nat) (x y : R) : roundOf kl n m0 (cnd c x y) = cnd c (roundOf kl n m0 x) (roundOf kl n m0 y) := by cases c <;> rfl
theorem lpNext_c (k bid : Nat) (d : Code) (x y : R) : lpNext k d bid (cnd c x y) = cnd c (lpNext k d bid x) (lpNext k d bid y) := by cases c <;> rfl
theorem normalOf_c (x y : Option St) : normalOf (cnd c x y) = cnd c (normalOf x) (normalOf y) := by cases c <;> rfl
theorem thenRo_c (k : Nat) (ops : Array Oper) (l : List Oper) (x y : Option St) : thenRo k ops l (cnd c x y) = cnd c (thenRo k ops l x) (thenRo k ops l y) := by cases c <;> rfl
theorem putR_c (d : Option Nat) (x y : Option (PV × St)) : putR d (cnd c x y) = cnd c (putR d x) (putR d y) := by cases c <;> rfl
theorem retP_c (s : St) (x y : Option PV) : retP s (cnd c x y) = cnd c (retP s x) (retP s y) := by cases c <;> rfl
theorem declR_c (ids : Option (List Nat)) (x y : Option Out) : declR ids (cnd c x y) = cnd c (declR ids x) (declR ids y) := by cases c <;> rfl
theorem callR_c (d : Nat) (f : List PV) (n : Nat) (z m : List Nat) (x y : Option Out) : callR d f n z m (cnd c x y) = cnd c (callR d f n z m x) (callR d f n z m y) := by cases c <;> rfl
end

/-! Branches, with what is known in each -/
noncomputable def condE (k : Nat) (a b : Code) (bid : Nat) (f : List PV) (B : List (List PV)) (z m : List Nat) (t : Nat) (g : PV) : R := match g with
  | .sc (.bool c) => cnd c (ev k a bid ⟨f.set t (.sc (.bool true)), B, z, m⟩) (ev k b bid ⟨f.set t (.sc (.bool false)), B, z, m⟩)
  | _ => none
@[congr] theorem condE_congr {k : Nat} {a b : Code} {bid : Nat} {f : List PV} {B : List (List PV)} {z m : List Nat} {t : Nat} {g g' : PV} (h : g = g') : condE k a b bid f B z m t g = condE k a b bid f B z m t g' := by rw [h]
theorem set_self {f : List PV} {t : Nat} {v : Value} (h : f.getD t .any = .sc v) : f.set t (.sc v) = f := by
  rw [List.getD_eq_getElem?_getD] at h
  cases hf : f[t]? with
  | none => rw [hf] at h; simp at h
  | some p =>
    rw [hf] at h
    simp at h
    subst h
    obtain ⟨ht, e⟩ := List.getElem?_eq_some_iff.1 hf
    apply List.ext_getElem?
    intro i
    rw [List.getElem?_set]
    split
    · rename_i hi; subst hi; simp [ht, e]
    · rfl
theorem ev_cond_tmp (k bid t : Nat) (a b : Code) (f : List PV) (B : List (List PV)) (z m : List Nat) : ev k (.cond (.tmp t) a b) bid ⟨f, B, z, m⟩ = condE k a b bid f B z m t (f.getD t .any) := by
  rw [ev_cond]
  show condEv k a b bid ⟨f, B, z, m⟩ (f.getD t .any) = _
  cases h : f.getD t .any with
  | sc v =>
    cases v <;> try rfl
    rename_i c
    cases c
    · simp only [condE, condEv, cnd, set_self h, Bool.false_eq_true, if_false]
    · simp only [condE, condEv, cnd, set_self h, if_true]
  | _ => rfl
theorem ev_cond_const (k bid : Nat) (v : Value) (a b : Code) (s : St) : ev k (.cond (.const v) a b) bid s = condEv k a b bid s (.sc v) := ev_cond ..
theorem condE_t (k : Nat) (a b : Code) (bid : Nat) (f : List PV) (B : List (List PV)) (z m : List Nat) (t : Nat) : condE k a b bid f B z m t (.sc (.bool true)) = ev k a bid ⟨f.set t (.sc (.bool true)), B, z, m⟩ := rfl
theorem condE_f (k : Nat) (a b : Code) (bid : Nat) (f : List PV) (B : List (List PV)) (z m : List Nat) (t : Nat) : condE k a b bid f B z m t (.sc (.bool false)) = ev k b bid ⟨f.set t (.sc (.bool false)), B, z, m⟩ := rfl
theorem condE_b (k : Nat) (a b : Code) (bid : Nat) (f : List PV) (B : List (List PV)) (z m : List Nat) (t : Nat) (c : Bool) : condE k a b bid f B z m t (.sc (.bool c)) = cnd c (ev k a bid ⟨f.set t (.sc (.bool true)), B, z, m⟩) (ev k b bid ⟨f.set t (.sc (.bool false)), B, z, m⟩) := rfl
noncomputable def goE (k : Nat) (o : Oper) (f : List PV) (B : List (List PV)) (z m : List Nat) (want : Bool) (t : Nat) (g : PV) : Option St := match g with
  | .sc (.bool c) => cnd c (if want = true then putR o.dst (so k o ⟨f.set t (.sc (.bool true)), B, z, m⟩) else some ((St.mk (f.set t (.sc (.bool true))) B z m).put o.dst (.sc undef))) (if want = true then some ((St.mk (f.set t (.sc (.bool false))) B z m).put o.dst (.sc undef)) else putR o.dst (so k o ⟨f.set t (.sc (.bool false)), B, z, m⟩))
  | .sc (.tuple _) => some ((St.mk f B z m).put o.dst (.sc undef))
  | _ => none
@[congr] theorem goE_congr {k : Nat} {o : Oper} {f : List PV} {B : List (List PV)} {z m : List Nat} {want : Bool} {t : Nat} {g g' : PV} (h : g = g') : goE k o f B z m want t g = goE k o f B z m want t g' := by rw [h]
noncomputable def goS (k : Nat) (o : Oper) (f : List PV) (B : List (List PV)) (z m : List Nat) (want : Bool) (r : Option Nat) : Option St := match r with
  | some t => goE k o f B z m want t (f.getD t .any)
  | none => none
theorem go_some2 (k : Nat) (ops : Array Oper) (dst : Option Nat) (op : Op) (ty : Nat) (pos : String) (aft : Array Edge) (j : Nat) (want : Bool) (f : List PV) (B : List (List PV)) (z m : List Nat) :
    go k ops ⟨dst, op, ty, pos, aft, some (j, want)⟩ ⟨f, B, z, m⟩ = goS k ⟨dst, op, ty, pos, aft, some (j, want)⟩ f B z m want ((ops[j]?).bind (·.dst)) := by
  unfold go guardOp goS
  simp only
  cases (ops[j]?).bind (·.dst) with
  | none => rfl
  | some t =>
    simp only [Option.map_some]
    cases h : f.getD t .any with
    | sc v =>
      cases v <;> try rfl
      rename_i c
      cases c <;> cases want <;> simp only [goE, cnd, set_self h, Bool.false_eq_true, if_false, if_true, reduceCtorEq] <;> rfl
    | _ => rfl
theorem goS_some (k : Nat) (o : Oper) (f : List PV) (B : List (List PV)) (z m : List Nat) (want : Bool) (t : Nat) : goS k o f B z m want (some t) = goE k o f B z m want t (f.getD t .any) := rfl
section
variable (k : Nat) (o : Oper) (f : List PV) (B : List (List PV)) (z m : List Nat) (t : Nat)
theorem goE_no (want : Bool) (vs : Array Value) : goE k o f B z m want t (.sc (.tuple vs)) = some ((St.mk f B z m).put o.dst (.sc undef)) := rfl
theorem goE_un (want : Bool) : goE k o f B z m want t (.sc undef) = some ((St.mk f B z m).put o.dst (.sc undef)) := rfl
theorem goE_tt : goE k o f B z m true t (.sc (.bool true)) = putR o.dst (so k o ⟨f.set t (.sc (.bool true)), B, z, m⟩) := rfl
theorem goE_ff : goE k o f B z m false t (.sc (.bool false)) = putR o.dst (so k o ⟨f.set t (.sc (.bool false)), B, z, m⟩) := rfl
theorem goE_tf : goE k o f B z m true t (.sc (.bool false)) = some ((St.mk (f.set t (.sc (.bool false))) B z m).put o.dst (.sc undef)) := rfl
theorem goE_ft : goE k o f B z m false t (.sc (.bool true)) = some ((St.mk (f.set t (.sc (.bool true))) B z m).put o.dst (.sc undef)) := rfl
theorem goE_bt (c : Bool) : goE k o f B z m true t (.sc (.bool c)) = cnd c (putR o.dst (so k o ⟨f.set t (.sc (.bool true)), B, z, m⟩)) (some ((St.mk (f.set t (.sc (.bool false))) B z m).put o.dst (.sc undef))) := rfl
theorem goE_bf (c : Bool) : goE k o f B z m false t (.sc (.bool c)) = cnd c (some ((St.mk (f.set t (.sc (.bool true))) B z m).put o.dst (.sc undef))) (putR o.dst (so k o ⟨f.set t (.sc (.bool false)), B, z, m⟩)) := rfl
end
theorem altG_c (c : Bool) (k : Nat) (ops : Array Oper) (p : Plan) (x y : Option St) : altG k ops p (cnd c x y) = cnd c (altG k ops p x) (altG k ops p y) := by cases c <;> rfl
theorem addL_c (c : Bool) (l : Option Nat) (x y : Option (St × List Nat)) : addL l (cnd c x y) = cnd c (addL l x) (addL l y) := by cases c <;> rfl
theorem rdEnd_c (c : Bool) (m : List Nat) (x y : Option (St × List Nat)) : rdEnd m (cnd c x y) = cnd c (rdEnd m x) (rdEnd m y) := by cases c <;> rfl
theorem join_c (c b : Bool) (x y x' y' : Option (St × List Nat)) : joinAlts b (cnd c x y) (cnd c x' y') = cnd c (joinAlts b x x') (joinAlts b y y') := by cases c <;> rfl

/-! Calls -/
noncomputable def callC (d : Nat) (f : List PV) (B : List (List PV)) (z m : List Nat) (k : Nat) (args : List PV) (c : List Nat) : Option (PV × St) :=
  match callW tcfg k (asArgs c 0 args) (unhold (usedTags c 0 args) B) with
  | some o =>
    if o.mods.all (fun id => !z.contains id) && noDup (usedTags c 0 args) then
    some (importR d o.r, ⟨f.map (PV.retag (Tag.off fun h => ((usedTags c 0 args).contains h && h.lin) || (match h with | .slot d' _ => d' == d | .cell id _ => o.mods.contains id || (cellIds (usedTags c 0 args)).contains id || decide (B.length ≤ id) | _ => false))), o.B, z, (o.mods ++ cellIds (usedTags c 0 args)) ++ m⟩)
    else none
  | none => none
theorem call_eq2 (d : Nat) (f : List PV) (B : List (List PV)) (z m : List Nat) (k : Nat) (args : List PV) : callOp tcfg (callW tcfg) d ⟨f, B, z, m⟩ k args = callC d f B z m k args (consT k) := rfl
theorem callC_nil (d : Nat) (f : List PV) (B : List (List PV)) (z m : List Nat) (k : Nat) (args : List PV) : callC d f B z m k args [] = callR d f B.length z m (callW tcfg k (asArgs [] 0 args) B) := by
  unfold callC callR
  simp only [usedTags_nil, unhold]
  cases callW tcfg k (asArgs [] 0 args) B with
  | none => rfl
  | some o =>
    simp only [cellIds, noDup, Bool.and_true, List.append_nil, List.contains_nil, Bool.false_and, Bool.false_or, Bool.or_false]
    split <;> rfl

/-! ### Results -/
def consR : Option PV → Option (List PV) → Option (List PV)
  | some x, some l => some (x :: l)
  | _, _ => none
noncomputable def getAll (s : St) : List ResultVar → Option (List PV)
  | [] => some []
  | r :: rs => consR (getRes tcfg s r) (getAll s rs)
theorem getAll_eq (s : St) : ∀ l : List ResultVar, l.mapM (getRes tcfg s) = getAll s l
  | [] => rfl
  | r :: rs => by
    rw [List.mapM_cons, getAll, ← getAll_eq s rs]
    cases getRes tcfg s r with
    | none => rfl
    | some x => cases List.mapM (getRes tcfg s) rs <;> rfl
def outJ (n0 : Nat) (B : List (List PV)) (m : List Nat) (vs : List PV) : Option Out :=
  if PV.underL n0 vs = true then some ⟨packOut (exportL 0 vs), cutB n0 m B, m.filter (· < n0)⟩ else none
def outI (esc : Bool) (n0 : Nat) (z : List Nat) (B : List (List PV)) (m : List Nat) (vs : List PV) : Option Out :=
  match esc with
  | true => if z.isEmpty = true then some ⟨packOut (exportL 0 vs), B, m.filter (· < n0)⟩ else none
  | false => outJ n0 B m (vs.map (thaw n0 B))
def outH (esc : Bool) (n0 : Nat) (z : List Nat) (B : List (List PV)) (m : List Nat) (vs : List PV) : Option Out :=
  if (noDup (vs.map tagOf) && z.all (fun i => decide (n0 ≤ i))) = true then outI esc n0 z B m vs else none
def outG (esc : Bool) (n0 : Nat) (z : List Nat) (B : List (List PV)) (m : List Nat) (r : Option (List PV)) : Option Out := match r with
  | none => none
  | some vs => outH esc n0 z B m (vs.map (PV.retag (outTag esc n0)))
theorem results_g {fn : Func} {k n0 : Nat} {f : List PV} {B : List (List PV)} {z m : List Nat} {l : List ResultVar} {e : Bool} (hr : fn.results.toList = l) (he : escT k = e) :
    results tcfg fn k n0 ⟨f, B, z, m⟩ = outG e n0 z B m (getAll ⟨f, B, z, m⟩ l) := by
  have he' : tcfg.esc k = e := he
  unfold results outG
  rw [hr, getAll_eq]
  cases getAll ⟨f, B, z, m⟩ l with
  | none => rfl
  | some vs =>
    simp only [he', outH, Bool.and_eq_true]
    split
    · cases e with
      | true =>
        simp only [if_true, outI]
        cases z <;> simp
      | false => simp only [Bool.false_eq_true, if_false, outI, outJ]
    · rfl
theorem getAll_nil (s : St) : getAll s [] = some [] := rfl
theorem getAll_cons (s : St) (r : ResultVar) (rs : List ResultVar) : getAll s (r :: rs) = consR (getRes tcfg s r) (getAll s rs) := rfl
theorem consR_some (x : PV) (l : List PV) : consR (some x) (some l) = some (x :: l) := rfl
theorem outG_some (e : Bool) (n0 : Nat) (z : List Nat) (B : List (List PV)) (m : List Nat) (vs : List PV) : outG e n0 z B m (some vs) = outH e n0 z B m (vs.map (PV.retag (outTag e n0))) := rfl
theorem outI_t (n0 : Nat) (z : List Nat) (B : List (List PV)) (m : List Nat) (vs : List PV) : outI true n0 z B m vs = if z.isEmpty = true then some ⟨packOut (exportL 0 vs), B, m.filter (· < n0)⟩ else none := rfl
theorem outI_f (n0 : Nat) (z : List Nat) (B : List (List PV)) (m : List Nat) (vs : List PV) : outI false n0 z B m vs = outJ n0 B m (vs.map (thaw n0 B)) := rfl
theorem underL_nil (n : Nat) : PV.underL n [] = true := by simp only [PV.underL]
theorem underL_cons (n : Nat) (c : PV) (cs : List PV) : PV.underL n (c :: cs) = (c.under n && PV.underL n cs) := by simp only [PV.underL]
theorem noDup_nil : noDup [] = true := rfl
theorem noDup_cons (t : Tag) (ts : List Tag) : noDup (t :: ts) = ((!t.lin || !ts.contains t) && noDup ts) := rfl
theorem lin_ro : Tag.lin .ro = false := rfl
theorem lin_full : Tag.lin .full = false := rfl
theorem lin_slot (a b : Nat) : Tag.lin (.slot a b) = true := rfl
theorem lin_cell (a b : Nat) : Tag.lin (.cell a b) = true := rfl
theorem tagOf_sc (v : Value) : tagOf (.sc v) = .ro := rfl
theorem tagOf_list (n : Nat) (t : Tag) (xs : List PV) : tagOf (.list n t xs) = t := rfl
theorem tagOf_agg (xs : List PV) : tagOf (.agg xs) = .ro := rfl
theorem tagOf_ptr (a b : Nat) : tagOf (.ptr a b) = .ro := rfl
theorem tagOf_arr (a b : Nat) : tagOf (.arr a b) = .ro := rfl
theorem tagOf_fn (a : Nat) (l : List PV) : tagOf (.fn a l) = .ro := rfl
theorem tag_rs (a b : Nat) : (Tag.ro == Tag.slot a b) = false := by simp
theorem tag_sr (a b : Nat) : (Tag.slot a b == Tag.ro) = false := by simp
theorem tag_rc (a b : Nat) : (Tag.ro == Tag.cell a b) = false := by simp
theorem tag_cr (a b : Nat) : (Tag.cell a b == Tag.ro) = false := by simp
theorem tag_fc (a b : Nat) : (Tag.full == Tag.cell a b) = false := by simp
theorem tag_fr : (Tag.full == Tag.ro) = false := by simp
theorem tag_rf : (Tag.ro == Tag.full) = false := by simp
theorem exportL_nil (k : Nat) : exportL k [] = [] := rfl
theorem exportL_cons (k : Nat) (c : PV) (cs : List PV) : exportL k (c :: cs) = export1 k c :: exportL (k + 1) cs := rfl
theorem packOut_one (v : PV) : packOut [v] = v := rfl
theorem packOut_two (v w : PV) (l : List PV) : packOut (v :: w :: l) = .tuple (v :: w :: l) := rfl
theorem packOut_nil : packOut [] = .tuple [] := rfl
theorem outT_ro (e : Bool) (n : Nat) : outTag e n .ro = .ro := rfl
theorem outT_full (e : Bool) (n : Nat) : outTag e n .full = .full := rfl
theorem outT_slot (e : Bool) (n a b : Nat) : outTag e n (.slot a b) = .slot a b := rfl
theorem outT_cell (n a b : Nat) : outTag false n (.cell a b) = if n ≤ a then .cell a b else .ro := by simp [outTag]
theorem thaw_any (n0 : Nat) (B : List (List PV)) : thaw n0 B .any = .any := rfl
theorem export_any (k : Nat) : export1 k .any = .any := by simp [export1, PV.flat, PV.retag]

theorem modify_far {α : Type} (l : List α) (i : Nat) (g : α → α) (h : l.length ≤ i) : l.modify i g = l := by
  apply List.ext_getElem?
  intro j
  rw [List.getElem?_modify]
  by_cases e : i = j
  · subst e; rw [List.getElem?_eq_none h]; simp
  · simp [e]
def cutG (n : Nat) (cs : List PV) : List PV := cs.map fun c => if c.under n = true then c else .any
theorem cutG_nil (n : Nat) : cutG n [] = [] := rfl
theorem cutG_cons (n : Nat) (c : PV) (cs : List PV) : cutG n (c :: cs) = (if c.under n = true then c else .any) :: cutG n cs := rfl
theorem take_modify {α : Type} (l : List α) (n i : Nat) (g : α → α) : (l.take n).modify i g = (l.modify i g).take n := by
  apply List.ext_getElem?
  intro j
  by_cases h : j < n
  · simp only [List.getElem?_modify, List.getElem?_take, h, if_true]
  · simp only [List.getElem?_modify, List.getElem?_take, h, if_false]
    split <;> rfl
theorem cutB_hi (n i : Nat) (m : List Nat) (B : List (List PV)) : cutB n (i :: m) B = if n ≤ i then cutB n m B else cutB n m (B.modify i (cutG n)) := by
  split
  · rename_i h
    unfold cutB
    rw [List.foldl_cons, modify_far _ _ _ (by rw [List.length_take]; omega)]
  · unfold cutB cutG
    rw [List.foldl_cons, take_modify]
theorem lt_add_f (n k : Nat) : (n + k < n) = False := by simp
theorem lt_self_f (n : Nat) : (n < n) = False := by simp
theorem le_add_t (n k : Nat) : (n ≤ n + k) = True := by simp
/-- What is changed holds nothing that dies. -/
theorem cutB_id {n : Nat} {m : List Nat} {B : List (List PV)} (h : ∀ i ∈ m, ∀ cs, B[i]? = some cs → ∀ c ∈ cs, c.under n = true) : cutB n m B = B.take n := by
  unfold cutB
  have key : ∀ (m : List Nat) (D : List (List PV)), (∀ i ∈ m, ∀ cs, D[i]? = some cs → ∀ c ∈ cs, c.under n = true) → m.foldl (fun B id => B.modify id fun cs => cs.map fun c => if c.under n = true then c else .any) D = D := by
    intro m
    induction m with
    | nil => intro D h; rfl
    | cons i m ih =>
      intro D h
      have e : (D.modify i fun cs => cs.map fun c => if c.under n = true then c else .any) = D := by
        apply List.ext_getElem?
        intro j
        rw [List.getElem?_modify]
        by_cases hj : i = j
        · subst hj
          cases hd : D[i]? with
          | none => simp
          | some cs =>
            have h1 := h i (List.mem_cons_self ..) cs hd
            have h2 : (cs.map fun c => if c.under n = true then c else .any) = cs := by
              conv => rhs; rw [← List.map_id cs]
              exact List.map_congr_left fun c hc => by rw [if_pos (h1 c hc)]; rfl
            simp [h2]
        · simp [hj]
      rw [List.foldl_cons, e]
      exact ih D fun i hi => h i (List.mem_cons_of_mem _ hi)
  refine key m _ fun i hi cs hcs => h i hi cs ?_
  rw [List.getElem?_take] at hcs
  split at hcs
  · exact hcs
  · cases hcs

/-! ### Loops -/
theorem lp_ind {α : Type} {k : Nat} {body : Code} {bid : Nat} {rest : R → Option Out} (S : α → St) (spec : α → Option Out) (meas : α → Nat) (inv : α → Prop)
    (step : ∀ a, inv a → (∀ a', meas a' < meas a → inv a' → rest (lp k body bid (S a')) = spec a') → rest (lpNext k body bid (roundOf (killT k bid) (S a).B.length (S a).mods (ev k body bid (S a)))) = spec a) :
    ∀ a, inv a → rest (lp k body bid (S a)) = spec a := by
  have key : ∀ n a, meas a < n → inv a → rest (lp k body bid (S a)) = spec a := by
    intro n
    induction n with
    | zero => intro a h; omega
    | succ n ih =>
      intro a h hi
      rw [lp_eq]
      exact step a hi fun a' h1 h2 => ih a' (by omega) h2
  exact fun a hi => key (meas a + 1) a (by omega) hi
theorem getElem_mapI {xs : List Int} {i : Nat} (h : i < xs.length) : (xs.map I)[i]? = some (I xs[i]) := by simp [h]
theorem all_underI (n : Nat) (xs : List Int) : (xs.map I).all (PV.under n) = true := by simp [I, under_sc]
theorem all_under_map {α : Type} (n : Nat) (g : α → PV) (xs : List α) (h : ∀ x, (g x).under n = true) : (xs.map g).all (PV.under n) = true := by simp [h]
theorem lt_of_get {B : List (List PV)} {i : Nat} {c : List PV} (h : B[i]? = some c) : i < B.length := (List.getElem?_eq_some_iff.1 h).1

/-! ### Operations, told by functions -/
noncomputable def idxR (oe : Option Nat) (sz : Nat) (xs : List PV) (n : Int) : Option PV := match oe with
  | some e => if 0 ≤ n ∧ n < xs.length ∧ sz = Try.prog.cellsOf e then (xs[n.toNat]?).map fun y => .eptr y.cells else none
  | none => none
theorem idx_list (t sz : Nat) (tg : Tag) (xs : List PV) (q : IntKind) (n : Int) : indexAddrPV Try.prog t (.list sz tg xs) (.sc (.int q n)) = idxR (elT Try.prog t) sz xs n := by
  unfold indexAddrPV idxR elT
  generalize Try.prog.underlying t = r
  cases r with
  | none => rfl
  | some d => cases d <;> rfl
theorem idxR_some (e sz : Nat) (xs : List PV) (n : Int) : idxR (some e) sz xs n = if 0 ≤ n ∧ n < xs.length ∧ sz = Try.prog.cellsOf e then (xs[n.toNat]?).map fun y => .eptr y.cells else none := rfl
noncomputable def idxA (d : Option TypeDesc) (id off : Nat) (n : Int) : Option PV := match d with
  | some (.array len e) => if 0 ≤ n ∧ n < len ∧ 0 < Try.prog.cellsOf e then some (.ptr id (off + n.toNat * Try.prog.cellsOf e)) else none
  | _ => none
theorem idx_ptr (t id off : Nat) (q : IntKind) (n : Int) : indexAddrPV Try.prog t (.ptr id off) (.sc (.int q n)) = idxA (Try.prog.underlying t) id off n := by
  unfold indexAddrPV idxA
  generalize Try.prog.underlying t = r
  cases r with
  | none => rfl
  | some d => cases d <;> rfl
theorem idxA_arr (len e id off : Nat) (n : Int) : idxA (some (.array len e)) id off n = if 0 ≤ n ∧ n < len ∧ 0 < Try.prog.cellsOf e then some (.ptr id (off + n.toNat * Try.prog.cellsOf e)) else none := rfl
noncomputable def idxE (d : Option TypeDesc) (cs : List PV) (n : Int) : Option PV := match d with
  | some (.array len e) => if 0 ≤ n ∧ n < len ∧ 0 < Try.prog.cellsOf e ∧ n.toNat * Try.prog.cellsOf e ≤ cs.length then some (.eptr (cs.drop (n.toNat * Try.prog.cellsOf e))) else none
  | _ => none
theorem idx_eptr (t : Nat) (cs : List PV) (q : IntKind) (n : Int) : indexAddrPV Try.prog t (.eptr cs) (.sc (.int q n)) = idxE (Try.prog.underlying t) cs n := by
  unfold indexAddrPV idxE
  generalize Try.prog.underlying t = r
  cases r with
  | none => rfl
  | some d => cases d <;> rfl
theorem idxE_arr (len e : Nat) (cs : List PV) (n : Int) : idxE (some (.array len e)) cs n = if 0 ≤ n ∧ n < len ∧ 0 < Try.prog.cellsOf e ∧ n.toNat * Try.prog.cellsOf e ≤ cs.length then some (.eptr (cs.drop (n.toNat * Try.prog.cellsOf e))) else none := rfl
noncomputable def idxV (d : Option TypeDesc) (cs : List PV) (n : Int) : Option PV := match d with
  | some (.array len e) => if 0 ≤ n ∧ n < len ∧ knownT Try.prog e = true ∧ n.toNat * Try.prog.cellsOf e + Try.prog.cellsOf e ≤ cs.length then packT Try.prog e ((cs.drop (n.toNat * Try.prog.cellsOf e)).take (Try.prog.cellsOf e)) else none
  | _ => none
theorem index_agg (t : Nat) (cs : List PV) (q : IntKind) (n : Int) : indexPV Try.prog t (.agg cs) (.sc (.int q n)) = idxV (Try.prog.underlying t) cs n := by
  unfold indexPV idxV
  generalize Try.prog.underlying t = r
  cases r with
  | none => rfl
  | some d => cases d <;> rfl
theorem idxV_arr (len e : Nat) (cs : List PV) (n : Int) : idxV (some (.array len e)) cs n = if 0 ≤ n ∧ n < len ∧ knownT Try.prog e = true ∧ n.toNat * Try.prog.cellsOf e + Try.prog.cellsOf e ≤ cs.length then packT Try.prog e ((cs.drop (n.toNat * Try.prog.cellsOf e)).take (Try.prog.cellsOf e)) else none := rfl

/-! Slices -/
def cutL (n : Nat) (lo : Option PV) (r : Option (Nat × Bool)) : Option (Nat × Nat × Bool) := match r with
  | some (h, fl) => (boundPV h 0 lo).map fun l => (l, h, fl)
  | none => none
def slcR (sz : Nat) (t : Tag) (xs : List PV) (r : Option (Nat × Nat × Bool)) : Option PV := match r with
  | some (l, h, fl) => if 0 < sz then some (.list sz (if fl then .full else .ro) ((xs.take h).drop l)) else none
  | none => none
noncomputable def slcE (oe : Option Nat) (x : PV) (lo hi mx : Option PV) : Option PV := match oe with
  | some e => match asList (Try.prog.cellsOf e) x with
    | some (_, xs) => match cutPV xs.length lo hi mx with
      | some (l, h, fl) => if 0 < Try.prog.cellsOf e then some (.list (Try.prog.cellsOf e) (if fl then .full else .ro) ((xs.take h).drop l)) else none
      | none => none
    | none => none
  | none => none
theorem slice_eq (t : Nat) (x : PV) (lo hi mx : Option PV) : slicePV Try.prog t x lo hi mx = slcE (elT Try.prog t) x lo hi mx := by
  unfold slicePV slcE elT
  generalize Try.prog.underlying t = r
  cases r with
  | none => rfl
  | some d => cases d <;> rfl
theorem slcE_list (e sz : Nat) (tg : Tag) (xs : List PV) (lo hi mx : Option PV) (h : (sz = Try.prog.cellsOf e) = True) : slcE (some e) (.list sz tg xs) lo hi mx = slcR sz tg xs (cutPV xs.length lo hi mx) := by
  have h := of_eq_true h
  subst h
  unfold slcE slcR
  simp only [asList, if_true]
theorem slcR_some (sz : Nat) (t : Tag) (xs : List PV) (l h : Nat) (fl : Bool) : slcR sz t xs (some (l, h, fl)) = if 0 < sz then some (.list sz (if fl then .full else .ro) ((xs.take h).drop l)) else none := rfl
noncomputable def slS (k : Nat) (dst : Option Nat) (t ty : Nat) (pos : String) (aft : Array Edge) (gd : Option (Nat × Bool)) (x : Operand) (lo hi mx : Option Operand) (s : St) (d : Option TypeDesc) : Option (PV × St) := match d with
  | some (.array _ _) => match lo, hi, mx with | none, none, none => sliceArrOp tcfg s t (opv s.f x) | _, _, _ => none
  | _ => retP s (slicePV Try.prog t (opv s.f x) (lo.map (opv s.f)) (hi.map (opv s.f)) (mx.map (opv s.f)))
theorem so_slice2 (k : Nat) (dst : Option Nat) (t ty : Nat) (pos : String) (aft : Array Edge) (gd : Option (Nat × Bool)) (x : Operand) (lo hi mx : Option Operand) (s : St) :
    so k ⟨dst, .slice t x lo hi mx, ty, pos, aft, gd⟩ s = slS k dst t ty pos aft gd x lo hi mx s (Try.prog.underlying t) := by
  unfold so stepOp slS
  simp only [tcfg_P]
  generalize Try.prog.underlying t = r
  cases r with
  | none => rfl
  | some d => cases d <;> rfl
theorem slS_slice (k : Nat) (dst : Option Nat) (t ty : Nat) (pos : String) (aft : Array Edge) (gd : Option (Nat × Bool)) (x : Operand) (lo hi mx : Option Operand) (s : St) (e : Nat) :
    slS k dst t ty pos aft gd x lo hi mx s (some (.slice e)) = retP s (slicePV Try.prog t (opv s.f x) (lo.map (opv s.f)) (hi.map (opv s.f)) (mx.map (opv s.f))) := rfl
theorem slS_arr (k : Nat) (dst : Option Nat) (t ty : Nat) (pos : String) (aft : Array Edge) (gd : Option (Nat × Bool)) (x : Operand) (s : St) (n e : Nat) :
    slS k dst t ty pos aft gd x none none none s (some (.array n e)) = sliceArrOp tcfg s t (opv s.f x) := rfl
theorem cut_lo (n : Nat) (q : IntKind) (l : Int) : cutPV n (some (.sc (.int q l))) none none = if 0 ≤ l ∧ l ≤ n then some (l.toNat, n, false) else none := by
  unfold cutPV
  simp only [boundPV, fullPV, Option.isSome_none, Bool.false_and, Bool.false_eq_true, if_false]
  by_cases h : 0 ≤ l ∧ l ≤ n <;> simp only [h, and_self, if_true, if_false]
theorem cut_hi (n : Nat) (q : IntKind) (h : Int) : cutPV n none (some (.sc (.int q h))) none = if 0 ≤ h ∧ h ≤ n then some (0, h.toNat, false) else none := by
  unfold cutPV
  simp only [boundPV, fullPV, Option.isSome_none, Bool.false_and, Bool.false_eq_true, if_false]
  by_cases hh : 0 ≤ h ∧ h ≤ n <;> simp only [hh, and_self, if_true, if_false]
theorem cut_lohi (n : Nat) (q q' : IntKind) (l h : Int) : cutPV n (some (.sc (.int q l))) (some (.sc (.int q' h))) none = if 0 ≤ h ∧ h ≤ n ∧ 0 ≤ l ∧ l ≤ h then some (l.toNat, h.toNat, false) else none := by
  unfold cutPV
  simp only [boundPV, fullPV, Option.isSome_none, Bool.false_and, Bool.false_eq_true, if_false]
  by_cases hh : 0 ≤ h ∧ h ≤ n
  · have e : (h.toNat : Int) = h := Int.toNat_of_nonneg hh.1
    simp only [hh, true_and, if_true, e]
    by_cases hl : 0 ≤ l ∧ l ≤ h <;> simp only [hl, and_self, if_true, if_false]
  · have : ¬ (0 ≤ h ∧ h ≤ n ∧ 0 ≤ l ∧ l ≤ h) := fun x => hh ⟨x.1, x.2.1⟩
    simp only [hh, this, if_false]
theorem cut_himx (n : Nat) (q q' : IntKind) (h m : Int) : cutPV n none (some (.sc (.int q h))) (some (.sc (.int q' m))) = if 0 ≤ h ∧ h ≤ n ∧ m = h then some (0, h.toNat, true) else none := by
  unfold cutPV
  simp only [boundPV, fullPV, Option.isSome_some, Option.isNone_some, Bool.and_false, Bool.false_eq_true, if_false]
  by_cases hh : 0 ≤ h ∧ h ≤ n
  · have e : (h.toNat : Int) = h := Int.toNat_of_nonneg hh.1
    simp only [hh, true_and, if_true, e, and_self]
    by_cases hl : m = h <;> simp only [hl, if_true, if_false]
  · have : ¬ (0 ≤ h ∧ h ≤ n ∧ m = h) := fun x => hh ⟨x.1, x.2.1⟩
    simp only [hh, this, if_false]
theorem cut_all (n : Nat) : cutPV n none none none = some (0, n, false) := by simp [cutPV, boundPV, fullPV]

/-! Conversions -/
def convI (s d : Option TypeDesc) (n : Int) : Option PV := match s, d with
  | some _, some (.int k) => some (.sc (.int k (k.wrap n)))
  | _, _ => none
theorem conv_int (a b : Nat) (q : IntKind) (n : Int) : convPV Try.prog a b (.sc (.int q n)) = convI (Try.prog.underlying a) (Try.prog.underlying b) n := by
  unfold convPV convI
  generalize Try.prog.underlying a = r
  generalize Try.prog.underlying b = u
  cases r with
  | none => rfl
  | some r => cases u with
    | none => rfl
    | some u => cases u <;> rfl
theorem convI_int (d : TypeDesc) (k : IntKind) (n : Int) : convI (some d) (some (.int k)) n = some (.sc (.int k (k.wrap n))) := rfl
def convS (s d : Option TypeDesc) (u : Nat → Option TypeDesc) (sz : Nat) (xs : List PV) : Option PV := match s, d with
  | some (.slice e), some .string => match u e with
    | some (.int .u8) => if sz = 1 then (bytesOf xs).map fun l => .sc (.string ⟨l.toArray⟩) else none
    | _ => none
  | _, _ => none
theorem conv_str (a b sz : Nat) (tg : Tag) (xs : List PV) : convPV Try.prog a b (.list sz tg xs) = convS (Try.prog.underlying a) (Try.prog.underlying b) Try.prog.underlying sz xs := by
  unfold convPV convS
  generalize Try.prog.underlying a = r
  generalize Try.prog.underlying b = u
  cases r with
  | none => rfl
  | some r => cases u with
    | none => cases r <;> rfl
    | some u => cases r <;> cases u <;> rfl
theorem convS_eq (e : Nat) (u : Nat → Option TypeDesc) (xs : List PV) (h : (u e = some (.int .u8)) = True) : convS (some (.slice e)) (some .string) u 1 xs = (bytesOf xs).map fun l => .sc (.string ⟨l.toArray⟩) := by
  simp only [convS, of_eq_true h, if_true]
def strOf (xs : List Int) : ByteArray := ⟨(xs.map fun n => UInt8.ofNat n.toNat).toArray⟩
theorem bytesOf_map (xs : List Int) : bytesOf (xs.map fun n => PV.sc (.int .u8 n)) = some (xs.map fun n => UInt8.ofNat n.toNat) := by
  induction xs with
  | nil => rfl
  | cons x xs ih => simp only [List.map_cons, bytesOf, ih, Option.map_some]
theorem sb_str (a b : ByteArray) : scBin .eql (.string a) (.string b) = some (.bool (a.toList == b.toList)) := rfl
theorem sb_strn (a b : ByteArray) : scBin .neq (.string a) (.string b) = some (.bool (!(a.toList == b.toList))) := rfl
section
variable (q q' : IntKind) (a b : Int)
theorem sb_shl (h : (b < 0) = False) : scBin .shl (.int q a) (.int q' b) = some (.int q (q.wrap (a * 2 ^ min b.toNat q.bits))) := by simp only [scBin, h, if_false]
theorem sb_shr (h : (b < 0) = False) : scBin .shr (.int q a) (.int q' b) = some (.int q (a.fdiv (2 ^ min b.toNat q.bits))) := by simp only [scBin, h, if_false]
theorem sb_or : scBin .or (.int q a) (.int q b) = some (.int q (q.wrap (BitVec.ofInt q.bits a ||| BitVec.ofInt q.bits b).toNat)) := by simp only [scBin, if_true]
theorem sb_and : scBin .and (.int q a) (.int q b) = some (.int q (q.wrap (BitVec.ofInt q.bits a &&& BitVec.ofInt q.bits b).toNat)) := by simp only [scBin, if_true]
theorem sb_xor : scBin .xor (.int q a) (.int q b) = some (.int q (q.wrap (BitVec.ofInt q.bits a ^^^ BitVec.ofInt q.bits b).toNat)) := by simp only [scBin, if_true]
theorem un_neg : unPV .neg (.sc (.int q a)) = some (.sc (.int q (q.wrap (0 - a)))) := rfl
theorem mm_nil (mx : Bool) (x : PV) : minmaxPV mx x [] = some x := by cases x <;> rfl
theorem mm_min (ys : List PV) : minmaxPV false (.sc (.int q a)) (.sc (.int q b) :: ys) = minmaxPV false (.sc (.int q (if b < a then b else a))) ys := rfl
theorem mm_max (ys : List PV) : minmaxPV true (.sc (.int q a)) (.sc (.int q b) :: ys) = minmaxPV true (.sc (.int q (if b > a then b else a))) ys := rfl
end
/-! Equality of structs -/
def eqR (op : BinOp) (r : Option (List (Option IntKind))) (xs ys : List PV) : Option PV := match r with
  | some ks => match op with
    | .eql => (eqCells ks xs ys).map fun r => .sc (.bool r)
    | .neq => (eqCells ks xs ys).map fun r => .sc (.bool (!r))
    | _ => none
  | none => none
theorem bin_agg (op : BinOp) (t : Nat) (xs ys : List PV) : binPV tcfg op t (.agg xs) (.agg ys) = eqR op (eqTab t) xs ys := rfl
theorem eqR_eql (ks : List (Option IntKind)) (xs ys : List PV) : eqR .eql (some ks) xs ys = (eqCells ks xs ys).map fun r => .sc (.bool r) := rfl
theorem eqR_neq (ks : List (Option IntKind)) (xs ys : List PV) : eqR .neq (some ks) xs ys = (eqCells ks xs ys).map fun r => .sc (.bool (!r)) := rfl
theorem eqc_nil : eqCells [] [] [] = some true := rfl
theorem eqc_int (k : IntKind) (a b : Int) (ks : List (Option IntKind)) (xs ys : List PV) : eqCells (some k :: ks) (.sc (.int k a) :: xs) (.sc (.int k b) :: ys) = (eqCells ks xs ys).map (fun r => decide (a = b) && r) := by
  simp only [eqCells, and_self, if_true]
  rfl
theorem eqc_bool (a b : Bool) (ks : List (Option IntKind)) (xs ys : List PV) : eqCells (none :: ks) (.sc (.bool a) :: xs) (.sc (.bool b) :: ys) = (eqCells ks xs ys).map (fun r => (a == b) && r) := rfl
theorem bin_ptr_eql (t : Nat) (a b : Nat) (e : Nat) (h : Try.prog.underlying t = some (.pointer e)) : binPV tcfg .eql t (.ptr a b) (.sc (.pointer none)) = some (.sc (.bool false)) := by simp only [binPV, tcfg_P, h]
def ptrNil (op : BinOp) (d : Option TypeDesc) : Option PV := match d, op with
      | some (.pointer _), .eql => some (.sc (.bool false))
      | some (.pointer _), .neq => some (.sc (.bool true))
      | _, _ => none
theorem bin_ptr (op : BinOp) (t a b : Nat) : binPV tcfg op t (.ptr a b) (.sc (.pointer none)) = ptrNil op (Try.prog.underlying t) := rfl
theorem ptrNil_eql (e : Nat) : ptrNil .eql (some (.pointer e)) = some (.sc (.bool false)) := rfl
theorem ptrNil_neq (e : Nat) : ptrNil .neq (some (.pointer e)) = some (.sc (.bool true)) := rfl
/-! nil checks -/
def nilR (p : PV) : Option PV := match p with | .ptr id off => some (.ptr id off) | .eptr cs => some (.eptr cs) | .fn g cap => some (.fn g cap) | _ => none
theorem so_nilCheck2 (k : Nat) (dst : Option Nat) (ty : Nat) (pos : String) (aft : Array Edge) (gd : Option (Nat × Bool)) (s : St) (x : Operand) : so k ⟨dst, .nilCheck x, ty, pos, aft, gd⟩ s = retP s (nilR (opv s.f x)) := rfl
theorem nilR_ptr (a b : Nat) : nilR (.ptr a b) = some (.ptr a b) := rfl
theorem nilR_eptr (cs : List PV) : nilR (.eptr cs) = some (.eptr cs) := rfl
theorem nilR_fn (a : Nat) (l : List PV) : nilR (.fn a l) = some (.fn a l) := rfl
theorem callW_prim {k : Nat} {p : List PV → List (List PV) → Option Out} {args : List PV} {B : List (List PV)} {o : Out} (hp : primT k = some p) (h : p args B = some o) : callW tcfg k args B = some o := by
  refine callW_fn ?_
  have hp' : tcfg.prim k = some p := hp
  unfold evalFn
  rw [hp']
  exact h
theorem clone_call {k sz : Nat} (hp : primT k = some (cloneP sz)) (t : Tag) (xs : List PV) (hl : xs.length ≤ maxLenQ) (B : List (List PV)) : callW tcfg k [.list sz t xs] B = some ⟨.list sz (.slot 0 0) xs, B, []⟩ :=
  callW_prim hp (by simp [cloneP, hl])
/-! moves -/
def nilZ (z : List PV) : PV := match z with | [.list s .full []] => if 0 < s then .list s .full [] else .sc (.slice none 0 0) | _ => .sc (.slice none 0 0)
theorem norm_nil2 (t : Nat) : norm tcfg t (.sc (.slice none 0 0)) = nilZ (zOf t) := by
  have key : ∀ z : List PV, (match z with | [.list s .full []] => if 0 < s then PV.list s .full [] else .sc (.slice none 0 0) | _ => .sc (.slice none 0 0)) = nilZ z := fun z => rfl
  unfold norm
  rw [← key]
  rfl
theorem nilZ_list (n : Nat) : nilZ [.list n .full []] = if 0 < n then .list n .full [] else .sc (.slice none 0 0) := rfl
def asg (d : Nat) (s : St) (p : PV) : PV × St := match p with
  | .list sz .full xs => (.list sz (.slot d 0) xs, s.off fun h => match h with | .slot d' _ => d' == d | _ => false)
  | .list sz (.slot d0 k0) xs => (.list sz (.slot d 0) xs, s.off fun h => h == .slot d0 k0 || (match h with | .slot d' _ => d' == d | _ => false))
  | p => (p, s)
theorem assign_nil2 (d : Nat) (s : St) (t : Nat) : assignOp tcfg d s t (.sc (.slice none 0 0)) = asg d s (nilZ (zOf t)) := by
  rw [← norm_nil2]; rfl
theorem asg_full (d : Nat) (s : St) (n : Nat) (xs : List PV) : asg d s (.list n .full xs) = (.list n (.slot d 0) xs, s.off fun h => match h with | .slot d' _ => d' == d | _ => false) := rfl
theorem norm_tuple (t : Nat) (vs : List PV) : norm tcfg t (.tuple vs) = .tuple vs := rfl
theorem norm_any (t : Nat) : norm tcfg t .any = .any := rfl
theorem norm_un (t : Nat) : norm tcfg t (.sc undef) = .sc undef := rfl
theorem norm_cnd (c : Bool) (t : Nat) (x y : PV) : norm tcfg t (cnd c x y) = cnd c (norm tcfg t x) (norm tcfg t y) := by cases c <;> rfl
theorem assign_any (d : Nat) (s : St) (t : Nat) : assignOp tcfg d s t .any = (.any, s) := rfl
theorem assign_un (d : Nat) (s : St) (t : Nat) : assignOp tcfg d s t (.sc undef) = (.sc undef, s) := rfl
theorem assign_tuple (d : Nat) (s : St) (t : Nat) (vs : List PV) : assignOp tcfg d s t (.tuple vs) = (.tuple vs, s) := rfl
theorem assign_cnd (c : Bool) (d : Nat) (s : St) (t : Nat) (x y : PV) : assignOp tcfg d s t (cnd c x y) = cnd c (assignOp tcfg d s t x) (assignOp tcfg d s t y) := by cases c <;> rfl
theorem put_cnd (c : Bool) (dst : Option Nat) (x y : PV × St) : putR dst (some (cnd c x y)) = cnd c (putR dst (some x)) (putR dst (some y)) := by cases c <;> rfl
theorem assign_str (d : Nat) (s : St) (t : Nat) (b : ByteArray) : assignOp tcfg d s t (.sc (.string b)) = (.sc (.string b), s) := rfl
/-! lengths -/
def lenS (d : Option TypeDesc) (n : Nat) : Option PV := match d with | some (.slice _) => some (.sc (.int .i64 n)) | some (.array k _) => some (.sc (.int .i64 k)) | _ => none
theorem len_l (t n : Nat) (tg : Tag) (xs : List PV) : lenPV Try.prog t (.list n tg xs) = lenS (Try.prog.underlying t) xs.length := by
  unfold lenPV lenS
  generalize Try.prog.underlying t = r
  cases r with
  | none => rfl
  | some d => cases d <;> rfl
theorem lenS_some (e n : Nat) : lenS (some (.slice e)) n = some (.sc (.int .i64 n)) := rfl
def lenA (d : Option TypeDesc) (n : Nat) : Option PV := match d with | some (.slice _) => some (.sc (.int .i64 n)) | some (.array k _) => some (.sc (.int .i64 k)) | _ => none
theorem len_arr (t n id : Nat) : lenPV Try.prog t (.arr id n) = lenA (Try.prog.underlying t) n := by
  unfold lenPV lenA
  generalize Try.prog.underlying t = r
  cases r with
  | none => rfl
  | some d => cases d <;> rfl
theorem lenA_some (e n : Nat) : lenA (some (.slice e)) n = some (.sc (.int .i64 n)) := rfl
def lenG (d : Option TypeDesc) : Option PV := match d with | some (.array k _) => some (.sc (.int .i64 k)) | _ => none
theorem len_agg (t : Nat) (xs : List PV) : lenPV Try.prog t (.agg xs) = lenG (Try.prog.underlying t) := by
  unfold lenPV lenG
  generalize Try.prog.underlying t = r
  cases r with
  | none => rfl
  | some d => cases d <;> rfl
theorem lenG_arr (e n : Nat) : lenG (some (.array n e)) = some (.sc (.int .i64 n)) := rfl
/-! min, max -/
def mmR (mx : Bool) (l : List PV) : Option PV := match l with | x :: ys => minmaxPV mx x ys | _ => none
theorem so_min2 (k : Nat) (dst : Option Nat) (ty : Nat) (pos : String) (aft : Array Edge) (gd : Option (Nat × Bool)) (s : St) (args : Array Operand) (ts : Array Nat) : so k ⟨dst, .call ⟨.builtin .min, args, ts⟩, ty, pos, aft, gd⟩ s = retP s (mmR false (args.toList.map (opv s.f))) := rfl
theorem so_max2 (k : Nat) (dst : Option Nat) (ty : Nat) (pos : String) (aft : Array Edge) (gd : Option (Nat × Bool)) (s : St) (args : Array Operand) (ts : Array Nat) : so k ⟨dst, .call ⟨.builtin .max, args, ts⟩, ty, pos, aft, gd⟩ s = retP s (mmR true (args.toList.map (opv s.f))) := rfl
theorem mmR_cons (mx : Bool) (x : PV) (ys : List PV) : mmR mx (x :: ys) = minmaxPV mx x ys := rfl
/-! loads -/
noncomputable def ldE (t : Nat) (cs : List PV) (agg : Bool) (n : Nat) : Option PV := if n ≤ cs.length then (if agg = true then some (.agg (cs.take n)) else if n = 1 then cs[0]? else none) else none
theorem load_e (B : List (List PV)) (t : Nat) (cs : List PV) : loadOp Try.prog B t (.eptr cs) = if knownT Try.prog t = true then ldE t cs (isAggT Try.prog t) (Try.prog.cellsOf t) else none := rfl
theorem ldE_agg (t : Nat) (cs : List PV) (n : Nat) : ldE t cs true n = if n ≤ cs.length then some (.agg (cs.take n)) else none := by simp only [ldE, if_true]
theorem ldE_one (t : Nat) (c : PV) (cs : List PV) : ldE t (c :: cs) false 1 = some c := by simp [ldE]
/-! appends -/
def appD (d : Nat) (tg h : Tag) : Bool := h == tg || (match h with | .slot d' _ => d' == d | _ => false)
theorem appD_full (d : Nat) (tg : Tag) : appD d tg .full = (Tag.full == tg) := by simp [appD]
theorem appD_slot (d : Nat) (tg : Tag) (a b : Nat) : appD d tg (.slot a b) = (Tag.slot a b == tg || a == d) := rfl
theorem appD_cell (d : Nat) (tg : Tag) (a b : Nat) : appD d tg (.cell a b) = (Tag.cell a b == tg) := by simp [appD]
def appT (d sz : Nat) (f : List PV) (B : List (List PV)) (z m : List Nat) (xs ys : List PV) (tg : Tag) : Option (PV × St) := match tg with
  | .ro => none
  | .full => some (.list sz (.slot d 0) (xs ++ ys), ⟨f.map (PV.retag (Tag.off (appD d .full))), B, z, m⟩)
  | .slot a b => some (.list sz (.slot d 0) (xs ++ ys), ⟨f.map (PV.retag (Tag.off (appD d (.slot a b)))), B, z, m⟩)
  | .cell id off => match B[id]? with
    | some cs => some (.list sz (.slot d 0) (xs ++ ys), ⟨f.map (PV.retag (Tag.off (appD d (.cell id off)))), B.set id (cs.modify off PV.flat), z, id :: m⟩)
    | none => none
noncomputable def appL (d : Nat) (f : List PV) (B : List (List PV)) (z m : List Nat) (n : Nat) (tg : Tag) (xs : List PV) (n' : Nat) (ys : List PV) (oe : Option Nat) : Option (PV × St) := match oe with
  | some e => if n = Try.prog.cellsOf e ∧ n' = Try.prog.cellsOf e ∧ 0 < Try.prog.cellsOf e ∧ Try.prog.bytesOf e ≤ 32768 ∧ xs.length + ys.length ≤ maxLenQ ∧ (zOf e).length = Try.prog.cellsOf e then appT d n f B z m xs ys tg else none
  | none => none
theorem append_ll (d : Nat) (f : List PV) (B : List (List PV)) (z m : List Nat) (t n : Nat) (tg : Tag) (xs : List PV) (n' : Nat) (tg' : Tag) (ys : List PV) :
    appendOp tcfg d ⟨f, B, z, m⟩ t (.list n tg xs) (.list n' tg' ys) = appL d f B z m n tg xs n' ys (elT Try.prog t) := by
  unfold appendOp elT appL
  simp only [tcfg_P, tcfg_Z]
  generalize Try.prog.underlying t = r
  cases r with
  | none => rfl
  | some dd =>
    cases dd <;> try rfl
    rename_i e
    simp only [asList]
    by_cases h1 : n = Try.prog.cellsOf e
    · by_cases h2 : n' = Try.prog.cellsOf e
      · simp only [h1, h2, if_true, true_and]
        by_cases hh : 0 < Try.prog.cellsOf e ∧ Try.prog.bytesOf e ≤ 32768 ∧ xs.length + ys.length ≤ maxLenQ ∧ (zOf e).length = Try.prog.cellsOf e
        · simp only [hh, and_self, if_true]
          cases tg with
          | cell id off =>
            simp only [appT, St.off]
            cases B[id]? <;> rfl
          | _ => rfl
        · simp only [hh, if_false]
      · have : ¬ (n = Try.prog.cellsOf e ∧ n' = Try.prog.cellsOf e ∧ 0 < Try.prog.cellsOf e ∧ Try.prog.bytesOf e ≤ 32768 ∧ xs.length + ys.length ≤ maxLenQ ∧ (zOf e).length = Try.prog.cellsOf e) := fun h => h2 h.2.1
        simp only [h1, if_true, h2, if_false, false_and, and_false]
    · simp only [h1, if_false, false_and]
theorem append_nl (d : Nat) (s : St) (t n : Nat) (tg : Tag) (ys : List PV) (h : (elT Try.prog t).isSome = true) :
    appendOp tcfg d s t (.sc (.slice none 0 0)) (.list n tg ys) = appendOp tcfg d s t (.list n .full []) (.list n tg ys) := by
  unfold elT at h
  unfold appendOp
  simp only [tcfg_P]
  generalize Try.prog.underlying t = r at h
  cases r with
  | none => cases h
  | some dd =>
    cases dd <;> try (cases h; done)
    rename_i e
    simp only [asList]
    by_cases h1 : n = Try.prog.cellsOf e
    · simp only [h1, if_true]
    · simp only [h1, if_false]
theorem append_ln (d : Nat) (s : St) (t n : Nat) (tg : Tag) (xs : List PV) (h : (elT Try.prog t).isSome = true) :
    appendOp tcfg d s t (.list n tg xs) (.sc (.slice none 0 0)) = appendOp tcfg d s t (.list n tg xs) (.list n .full []) := by
  unfold elT at h
  unfold appendOp
  simp only [tcfg_P]
  generalize Try.prog.underlying t = r at h
  cases r with
  | none => cases h
  | some dd =>
    cases dd <;> try (cases h; done)
    rename_i e
    simp only [asList]
    by_cases h1 : n = Try.prog.cellsOf e
    · simp only [h1, if_true]
    · simp only [h1, if_false]
theorem appL_some (d : Nat) (f : List PV) (B : List (List PV)) (z m : List Nat) (n : Nat) (tg : Tag) (xs : List PV) (n' : Nat) (ys : List PV) (e : Nat) :
    appL d f B z m n tg xs n' ys (some e) = if n = Try.prog.cellsOf e ∧ n' = Try.prog.cellsOf e ∧ 0 < Try.prog.cellsOf e ∧ Try.prog.bytesOf e ≤ 32768 ∧ xs.length + ys.length ≤ maxLenQ ∧ (zOf e).length = Try.prog.cellsOf e then appT d n f B z m xs ys tg else none := rfl
theorem appT_full (d sz : Nat) (f : List PV) (B : List (List PV)) (z m : List Nat) (xs ys : List PV) : appT d sz f B z m xs ys .full = some (.list sz (.slot d 0) (xs ++ ys), ⟨f.map (PV.retag (Tag.off (appD d .full))), B, z, m⟩) := rfl
theorem appT_slot (d sz : Nat) (f : List PV) (B : List (List PV)) (z m : List Nat) (xs ys : List PV) (a b : Nat) : appT d sz f B z m xs ys (.slot a b) = some (.list sz (.slot d 0) (xs ++ ys), ⟨f.map (PV.retag (Tag.off (appD d (.slot a b)))), B, z, m⟩) := rfl
def appC (d sz : Nat) (f : List PV) (B : List (List PV)) (z m : List Nat) (xs ys : List PV) (id off : Nat) (r : Option (List PV)) : Option (PV × St) := match r with
    | some cs => some (.list sz (.slot d 0) (xs ++ ys), ⟨f.map (PV.retag (Tag.off (appD d (.cell id off)))), B.set id (cs.modify off PV.flat), z, id :: m⟩)
    | none => none
theorem appT_cell (d sz : Nat) (f : List PV) (B : List (List PV)) (z m : List Nat) (xs ys : List PV) (id off : Nat) : appT d sz f B z m xs ys (.cell id off) = appC d sz f B z m xs ys id off B[id]? := rfl
theorem appC_some (d sz : Nat) (f : List PV) (B : List (List PV)) (z m : List Nat) (xs ys : List PV) (id off : Nat) (cs : List PV) :
    appC d sz f B z m xs ys id off (some cs) = some (.list sz (.slot d 0) (xs ++ ys), ⟨f.map (PV.retag (Tag.off (appD d (.cell id off)))), B.set id (cs.modify off PV.flat), z, id :: m⟩) := rfl
theorem maxLenQ_eq : maxLenQ = 4294967296 := rfl

/-! ### The functions' results and tables -/
theorem rs2 (n0 : Nat) (f : List PV) (B : List (List PV)) (z m : List Nat) : results tcfg Try.f2 2 n0 ⟨f, B, z, m⟩ = outG false n0 z B m (getAll ⟨f, B, z, m⟩ []) := results_g rfl rfl
theorem cq2 : consT 2 = [] := rfl
theorem rs3 (n0 : Nat) (f : List PV) (B : List (List PV)) (z m : List Nat) : results tcfg Try.f3 3 n0 ⟨f, B, z, m⟩ = outG false n0 z B m (getAll ⟨f, B, z, m⟩ [.tmp 4]) := results_g rfl rfl
theorem cq3 : consT 3 = [] := rfl
theorem rs4 (n0 : Nat) (f : List PV) (B : List (List PV)) (z m : List Nat) : results tcfg Try.f4 4 n0 ⟨f, B, z, m⟩ = outG false n0 z B m (getAll ⟨f, B, z, m⟩ [.tmp 2]) := results_g rfl rfl
theorem cq4 : consT 4 = [] := rfl
theorem rs5 (n0 : Nat) (f : List PV) (B : List (List PV)) (z m : List Nat) : results tcfg Try.f5 5 n0 ⟨f, B, z, m⟩ = outG false n0 z B m (getAll ⟨f, B, z, m⟩ [.tmp 6]) := results_g rfl rfl
theorem cq5 : consT 5 = [] := rfl
theorem rs6 (n0 : Nat) (f : List PV) (B : List (List PV)) (z m : List Nat) : results tcfg Try.f6 6 n0 ⟨f, B, z, m⟩ = outG false n0 z B m (getAll ⟨f, B, z, m⟩ [.tmp 2]) := results_g rfl rfl
theorem cq6 : consT 6 = [] := rfl
theorem rs7 (n0 : Nat) (f : List PV) (B : List (List PV)) (z m : List Nat) : results tcfg Try.f7 7 n0 ⟨f, B, z, m⟩ = outG false n0 z B m (getAll ⟨f, B, z, m⟩ [.tmp 4]) := results_g rfl rfl
theorem cq7 : consT 7 = [] := rfl
theorem rs8 (n0 : Nat) (f : List PV) (B : List (List PV)) (z m : List Nat) : results tcfg Try.f8 8 n0 ⟨f, B, z, m⟩ = outG false n0 z B m (getAll ⟨f, B, z, m⟩ [.tmp 4]) := results_g rfl rfl
theorem cq8 : consT 8 = [] := rfl
theorem rs9 (n0 : Nat) (f : List PV) (B : List (List PV)) (z m : List Nat) : results tcfg Try.f9 9 n0 ⟨f, B, z, m⟩ = outG false n0 z B m (getAll ⟨f, B, z, m⟩ [.tmp 4]) := results_g rfl rfl
theorem cq9 : consT 9 = [] := rfl
theorem rs10 (n0 : Nat) (f : List PV) (B : List (List PV)) (z m : List Nat) : results tcfg Try.f10 10 n0 ⟨f, B, z, m⟩ = outG false n0 z B m (getAll ⟨f, B, z, m⟩ [.tmp 4]) := results_g rfl rfl
theorem cq10 : consT 10 = [] := rfl
theorem rs11 (n0 : Nat) (f : List PV) (B : List (List PV)) (z m : List Nat) : results tcfg Try.f11 11 n0 ⟨f, B, z, m⟩ = outG false n0 z B m (getAll ⟨f, B, z, m⟩ [.tmp 4]) := results_g rfl rfl
theorem cq11 : consT 11 = [] := rfl
theorem rs12 (n0 : Nat) (f : List PV) (B : List (List PV)) (z m : List Nat) : results tcfg Try.f12 12 n0 ⟨f, B, z, m⟩ = outG false n0 z B m (getAll ⟨f, B, z, m⟩ [.tmp 6]) := results_g rfl rfl
theorem cq12 : consT 12 = [] := rfl
theorem rs13 (n0 : Nat) (f : List PV) (B : List (List PV)) (z m : List Nat) : results tcfg Try.f13 13 n0 ⟨f, B, z, m⟩ = outG false n0 z B m (getAll ⟨f, B, z, m⟩ [.tmp 4]) := results_g rfl rfl
theorem cq13 : consT 13 = [] := rfl
theorem rs14 (n0 : Nat) (f : List PV) (B : List (List PV)) (z m : List Nat) : results tcfg Try.f14 14 n0 ⟨f, B, z, m⟩ = outG false n0 z B m (getAll ⟨f, B, z, m⟩ [.tmp 4]) := results_g rfl rfl
theorem cq14 : consT 14 = [] := rfl
theorem rs15 (n0 : Nat) (f : List PV) (B : List (List PV)) (z m : List Nat) : results tcfg Try.f15 15 n0 ⟨f, B, z, m⟩ = outG false n0 z B m (getAll ⟨f, B, z, m⟩ [.tmp 4]) := results_g rfl rfl
theorem cq15 : consT 15 = [] := rfl
theorem rs16 (n0 : Nat) (f : List PV) (B : List (List PV)) (z m : List Nat) : results tcfg Try.f16 16 n0 ⟨f, B, z, m⟩ = outG false n0 z B m (getAll ⟨f, B, z, m⟩ [.tmp 4]) := results_g rfl rfl
theorem cq16 : consT 16 = [] := rfl
theorem rs17 (n0 : Nat) (f : List PV) (B : List (List PV)) (z m : List Nat) : results tcfg Try.f17 17 n0 ⟨f, B, z, m⟩ = outG false n0 z B m (getAll ⟨f, B, z, m⟩ [.tmp 4]) := results_g rfl rfl
theorem cq17 : consT 17 = [] := rfl
theorem rs18 (n0 : Nat) (f : List PV) (B : List (List PV)) (z m : List Nat) : results tcfg Try.f18 18 n0 ⟨f, B, z, m⟩ = outG false n0 z B m (getAll ⟨f, B, z, m⟩ [.tmp 4]) := results_g rfl rfl
theorem cq18 : consT 18 = [] := rfl
theorem rs19 (n0 : Nat) (f : List PV) (B : List (List PV)) (z m : List Nat) : results tcfg Try.f19 19 n0 ⟨f, B, z, m⟩ = outG false n0 z B m (getAll ⟨f, B, z, m⟩ [.tmp 2]) := results_g rfl rfl
theorem cq19 : consT 19 = [] := rfl
theorem rs20 (n0 : Nat) (f : List PV) (B : List (List PV)) (z m : List Nat) : results tcfg Try.f20 20 n0 ⟨f, B, z, m⟩ = outG false n0 z B m (getAll ⟨f, B, z, m⟩ [.tmp 2]) := results_g rfl rfl
theorem cq20 : consT 20 = [] := rfl
theorem rs21 (n0 : Nat) (f : List PV) (B : List (List PV)) (z m : List Nat) : results tcfg Try.f21 21 n0 ⟨f, B, z, m⟩ = outG false n0 z B m (getAll ⟨f, B, z, m⟩ [.tmp 6]) := results_g rfl rfl
theorem cq21 : consT 21 = [] := rfl
theorem rs22 (n0 : Nat) (f : List PV) (B : List (List PV)) (z m : List Nat) : results tcfg Try.f22 22 n0 ⟨f, B, z, m⟩ = outG false n0 z B m (getAll ⟨f, B, z, m⟩ [.tmp 4]) := results_g rfl rfl
theorem cq22 : consT 22 = [] := rfl
theorem rs23 (n0 : Nat) (f : List PV) (B : List (List PV)) (z m : List Nat) : results tcfg Try.f23 23 n0 ⟨f, B, z, m⟩ = outG false n0 z B m (getAll ⟨f, B, z, m⟩ [.tmp 0]) := results_g rfl rfl
theorem cq23 : consT 23 = [] := rfl
theorem rs24 (n0 : Nat) (f : List PV) (B : List (List PV)) (z m : List Nat) : results tcfg Try.f24 24 n0 ⟨f, B, z, m⟩ = outG false n0 z B m (getAll ⟨f, B, z, m⟩ [.tmp 2]) := results_g rfl rfl
theorem cq24 : consT 24 = [] := rfl
theorem rs25 (n0 : Nat) (f : List PV) (B : List (List PV)) (z m : List Nat) : results tcfg Try.f25 25 n0 ⟨f, B, z, m⟩ = outG false n0 z B m (getAll ⟨f, B, z, m⟩ [.tmp 2]) := results_g rfl rfl
theorem cq25 : consT 25 = [] := rfl
theorem rs26 (n0 : Nat) (f : List PV) (B : List (List PV)) (z m : List Nat) : results tcfg Try.f26 26 n0 ⟨f, B, z, m⟩ = outG false n0 z B m (getAll ⟨f, B, z, m⟩ [.tmp 2]) := results_g rfl rfl
theorem cq26 : consT 26 = [] := rfl
theorem rs27 (n0 : Nat) (f : List PV) (B : List (List PV)) (z m : List Nat) : results tcfg Try.f27 27 n0 ⟨f, B, z, m⟩ = outG false n0 z B m (getAll ⟨f, B, z, m⟩ [.tmp 2]) := results_g rfl rfl
theorem cq27 : consT 27 = [] := rfl
theorem rs28 (n0 : Nat) (f : List PV) (B : List (List PV)) (z m : List Nat) : results tcfg Try.f28 28 n0 ⟨f, B, z, m⟩ = outG false n0 z B m (getAll ⟨f, B, z, m⟩ [.tmp 6]) := results_g rfl rfl
theorem cq28 : consT 28 = [] := rfl
theorem rs29 (n0 : Nat) (f : List PV) (B : List (List PV)) (z m : List Nat) : results tcfg Try.f29 29 n0 ⟨f, B, z, m⟩ = outG false n0 z B m (getAll ⟨f, B, z, m⟩ [.tmp 6]) := results_g rfl rfl
theorem cq29 : consT 29 = [] := rfl
theorem rs30 (n0 : Nat) (f : List PV) (B : List (List PV)) (z m : List Nat) : results tcfg Try.f30 30 n0 ⟨f, B, z, m⟩ = outG false n0 z B m (getAll ⟨f, B, z, m⟩ [.tmp 6, .tmp 7]) := results_g rfl rfl
theorem cq30 : consT 30 = [] := rfl
theorem rs31 (n0 : Nat) (f : List PV) (B : List (List PV)) (z m : List Nat) : results tcfg Try.f31 31 n0 ⟨f, B, z, m⟩ = outG false n0 z B m (getAll ⟨f, B, z, m⟩ [.tmp 6, .tmp 7]) := results_g rfl rfl
theorem cq31 : consT 31 = [] := rfl
theorem rs32 (n0 : Nat) (f : List PV) (B : List (List PV)) (z m : List Nat) : results tcfg Try.f32 32 n0 ⟨f, B, z, m⟩ = outG false n0 z B m (getAll ⟨f, B, z, m⟩ [.tmp 4]) := results_g rfl rfl
theorem cq32 : consT 32 = [] := rfl
theorem rs33 (n0 : Nat) (f : List PV) (B : List (List PV)) (z m : List Nat) : results tcfg Try.f33 33 n0 ⟨f, B, z, m⟩ = outG false n0 z B m (getAll ⟨f, B, z, m⟩ [.tmp 0]) := results_g rfl rfl
theorem cq33 : consT 33 = [] := rfl
theorem rs34 (n0 : Nat) (f : List PV) (B : List (List PV)) (z m : List Nat) : results tcfg Try.f34 34 n0 ⟨f, B, z, m⟩ = outG false n0 z B m (getAll ⟨f, B, z, m⟩ [.cell 2 47]) := results_g rfl rfl
theorem cq34 : consT 34 = [] := rfl
theorem rs35 (n0 : Nat) (f : List PV) (B : List (List PV)) (z m : List Nat) : results tcfg Try.f35 35 n0 ⟨f, B, z, m⟩ = outG false n0 z B m (getAll ⟨f, B, z, m⟩ [.tmp 2, .tmp 3]) := results_g rfl rfl
theorem cq35 : consT 35 = [] := rfl
theorem rs36 (n0 : Nat) (f : List PV) (B : List (List PV)) (z m : List Nat) : results tcfg Try.f36 36 n0 ⟨f, B, z, m⟩ = outG false n0 z B m (getAll ⟨f, B, z, m⟩ [.tmp 2, .tmp 3]) := results_g rfl rfl
theorem cq36 : consT 36 = [] := rfl
theorem rs37 (n0 : Nat) (f : List PV) (B : List (List PV)) (z m : List Nat) : results tcfg Try.f37 37 n0 ⟨f, B, z, m⟩ = outG false n0 z B m (getAll ⟨f, B, z, m⟩ [.tmp 2]) := results_g rfl rfl
theorem cq37 : consT 37 = [] := rfl
theorem rs38 (n0 : Nat) (f : List PV) (B : List (List PV)) (z m : List Nat) : results tcfg Try.f38 38 n0 ⟨f, B, z, m⟩ = outG false n0 z B m (getAll ⟨f, B, z, m⟩ [.cell 2 47, .tmp 3, .tmp 4]) := results_g rfl rfl
theorem cq38 : consT 38 = [] := rfl
theorem rs39 (n0 : Nat) (f : List PV) (B : List (List PV)) (z m : List Nat) : results tcfg Try.f39 39 n0 ⟨f, B, z, m⟩ = outG false n0 z B m (getAll ⟨f, B, z, m⟩ [.tmp 4]) := results_g rfl rfl
theorem cq39 : consT 39 = [] := rfl
theorem rs40 (n0 : Nat) (f : List PV) (B : List (List PV)) (z m : List Nat) : results tcfg Try.f40 40 n0 ⟨f, B, z, m⟩ = outG false n0 z B m (getAll ⟨f, B, z, m⟩ [.cell 2 47, .tmp 3, .tmp 4]) := results_g rfl rfl
theorem cq40 : consT 40 = [] := rfl
theorem rs41 (n0 : Nat) (f : List PV) (B : List (List PV)) (z m : List Nat) : results tcfg Try.f41 41 n0 ⟨f, B, z, m⟩ = outG false n0 z B m (getAll ⟨f, B, z, m⟩ [.cell 2 47, .tmp 3]) := results_g rfl rfl
theorem cq41 : consT 41 = [] := rfl
theorem rs42 (n0 : Nat) (f : List PV) (B : List (List PV)) (z m : List Nat) : results tcfg Try.f42 42 n0 ⟨f, B, z, m⟩ = outG false n0 z B m (getAll ⟨f, B, z, m⟩ [.cell 2 47, .tmp 3]) := results_g rfl rfl
theorem cq42 : consT 42 = [] := rfl
theorem rs43 (n0 : Nat) (f : List PV) (B : List (List PV)) (z m : List Nat) : results tcfg Try.f43 43 n0 ⟨f, B, z, m⟩ = outG false n0 z B m (getAll ⟨f, B, z, m⟩ [.tmp 0]) := results_g rfl rfl
theorem cq43 : consT 43 = [] := rfl
theorem rs44 (n0 : Nat) (f : List PV) (B : List (List PV)) (z m : List Nat) : results tcfg Try.f44 44 n0 ⟨f, B, z, m⟩ = outG false n0 z B m (getAll ⟨f, B, z, m⟩ [.cell 2 72]) := results_g rfl rfl
theorem cq44 : consT 44 = [] := rfl
theorem rs45 (n0 : Nat) (f : List PV) (B : List (List PV)) (z m : List Nat) : results tcfg Try.f45 45 n0 ⟨f, B, z, m⟩ = outG false n0 z B m (getAll ⟨f, B, z, m⟩ [.tmp 4, .tmp 5]) := results_g rfl rfl
theorem cq45 : consT 45 = [] := rfl
theorem rs46 (n0 : Nat) (f : List PV) (B : List (List PV)) (z m : List Nat) : results tcfg Try.f46 46 n0 ⟨f, B, z, m⟩ = outG false n0 z B m (getAll ⟨f, B, z, m⟩ [.tmp 4, .tmp 5]) := results_g rfl rfl
theorem cq46 : consT 46 = [] := rfl
theorem rs47 (n0 : Nat) (f : List PV) (B : List (List PV)) (z m : List Nat) : results tcfg Try.f47 47 n0 ⟨f, B, z, m⟩ = outG false n0 z B m (getAll ⟨f, B, z, m⟩ [.tmp 4]) := results_g rfl rfl
theorem cq47 : consT 47 = [] := rfl
theorem rs48 (n0 : Nat) (f : List PV) (B : List (List PV)) (z m : List Nat) : results tcfg Try.f48 48 n0 ⟨f, B, z, m⟩ = outG false n0 z B m (getAll ⟨f, B, z, m⟩ [.tmp 2]) := results_g rfl rfl
theorem cq48 : consT 48 = [] := rfl
theorem rs49 (n0 : Nat) (f : List PV) (B : List (List PV)) (z m : List Nat) : results tcfg Try.f49 49 n0 ⟨f, B, z, m⟩ = outG false n0 z B m (getAll ⟨f, B, z, m⟩ [.tmp 2]) := results_g rfl rfl
theorem cq49 : consT 49 = [] := rfl
theorem rs50 (n0 : Nat) (f : List PV) (B : List (List PV)) (z m : List Nat) : results tcfg Try.f50 50 n0 ⟨f, B, z, m⟩ = outG false n0 z B m (getAll ⟨f, B, z, m⟩ [.tmp 2]) := results_g rfl rfl
theorem cq50 : consT 50 = [] := rfl
theorem rs51 (n0 : Nat) (f : List PV) (B : List (List PV)) (z m : List Nat) : results tcfg Try.f51 51 n0 ⟨f, B, z, m⟩ = outG false n0 z B m (getAll ⟨f, B, z, m⟩ [.tmp 2]) := results_g rfl rfl
theorem cq51 : consT 51 = [] := rfl
theorem rs52 (n0 : Nat) (f : List PV) (B : List (List PV)) (z m : List Nat) : results tcfg Try.f52 52 n0 ⟨f, B, z, m⟩ = outG false n0 z B m (getAll ⟨f, B, z, m⟩ [.tmp 0]) := results_g rfl rfl
theorem cq52 : consT 52 = [] := rfl
theorem rs53 (n0 : Nat) (f : List PV) (B : List (List PV)) (z m : List Nat) : results tcfg Try.f53 53 n0 ⟨f, B, z, m⟩ = outG false n0 z B m (getAll ⟨f, B, z, m⟩ [.cell 2 72]) := results_g rfl rfl
theorem cq53 : consT 53 = [] := rfl
theorem rs54 (n0 : Nat) (f : List PV) (B : List (List PV)) (z m : List Nat) : results tcfg Try.f54 54 n0 ⟨f, B, z, m⟩ = outG false n0 z B m (getAll ⟨f, B, z, m⟩ [.tmp 2]) := results_g rfl rfl
theorem cq54 : consT 54 = [] := rfl
theorem rs55 (n0 : Nat) (f : List PV) (B : List (List PV)) (z m : List Nat) : results tcfg Try.f55 55 n0 ⟨f, B, z, m⟩ = outG false n0 z B m (getAll ⟨f, B, z, m⟩ [.tmp 2, .tmp 3]) := results_g rfl rfl
theorem cq55 : consT 55 = [] := rfl
theorem rs56 (n0 : Nat) (f : List PV) (B : List (List PV)) (z m : List Nat) : results tcfg Try.f56 56 n0 ⟨f, B, z, m⟩ = outG false n0 z B m (getAll ⟨f, B, z, m⟩ [.tmp 2, .tmp 3]) := results_g rfl rfl
theorem cq56 : consT 56 = [] := rfl
theorem rs57 (n0 : Nat) (f : List PV) (B : List (List PV)) (z m : List Nat) : results tcfg Try.f57 57 n0 ⟨f, B, z, m⟩ = outG false n0 z B m (getAll ⟨f, B, z, m⟩ [.tmp 4]) := results_g rfl rfl
theorem cq57 : consT 57 = [] := rfl
theorem rs58 (n0 : Nat) (f : List PV) (B : List (List PV)) (z m : List Nat) : results tcfg Try.f58 58 n0 ⟨f, B, z, m⟩ = outG false n0 z B m (getAll ⟨f, B, z, m⟩ [.tmp 0]) := results_g rfl rfl
theorem cq58 : consT 58 = [] := rfl
theorem rs59 (n0 : Nat) (f : List PV) (B : List (List PV)) (z m : List Nat) : results tcfg Try.f59 59 n0 ⟨f, B, z, m⟩ = outG false n0 z B m (getAll ⟨f, B, z, m⟩ [.cell 2 47]) := results_g rfl rfl
theorem cq59 : consT 59 = [] := rfl
theorem rs60 (n0 : Nat) (f : List PV) (B : List (List PV)) (z m : List Nat) : results tcfg Try.f60 60 n0 ⟨f, B, z, m⟩ = outG false n0 z B m (getAll ⟨f, B, z, m⟩ [.cell 8 70, .tmp 9]) := results_g rfl rfl
theorem cq60 : consT 60 = [] := rfl
theorem rs61 (n0 : Nat) (f : List PV) (B : List (List PV)) (z m : List Nat) : results tcfg Try.f61 61 n0 ⟨f, B, z, m⟩ = outG false n0 z B m (getAll ⟨f, B, z, m⟩ [.tmp 4]) := results_g rfl rfl
theorem cq61 : consT 61 = [] := rfl
theorem rs62 (n0 : Nat) (f : List PV) (B : List (List PV)) (z m : List Nat) : results tcfg Try.f62 62 n0 ⟨f, B, z, m⟩ = outG false n0 z B m (getAll ⟨f, B, z, m⟩ [.cell 6 70, .tmp 7]) := results_g rfl rfl
theorem cq62 : consT 62 = [] := rfl
theorem rs63 (n0 : Nat) (f : List PV) (B : List (List PV)) (z m : List Nat) : results tcfg Try.f63 63 n0 ⟨f, B, z, m⟩ = outG false n0 z B m (getAll ⟨f, B, z, m⟩ [.tmp 2]) := results_g rfl rfl
theorem cq63 : consT 63 = [] := rfl
theorem rs64 (n0 : Nat) (f : List PV) (B : List (List PV)) (z m : List Nat) : results tcfg Try.f64 64 n0 ⟨f, B, z, m⟩ = outG false n0 z B m (getAll ⟨f, B, z, m⟩ [.tmp 2]) := results_g rfl rfl
theorem cq64 : consT 64 = [] := rfl
theorem rs65 (n0 : Nat) (f : List PV) (B : List (List PV)) (z m : List Nat) : results tcfg Try.f65 65 n0 ⟨f, B, z, m⟩ = outG false n0 z B m (getAll ⟨f, B, z, m⟩ [.cell 4 70, .tmp 5]) := results_g rfl rfl
theorem cq65 : consT 65 = [] := rfl
theorem rs66 (n0 : Nat) (f : List PV) (B : List (List PV)) (z m : List Nat) : results tcfg Try.f66 66 n0 ⟨f, B, z, m⟩ = outG false n0 z B m (getAll ⟨f, B, z, m⟩ [.cell 4 70, .tmp 5]) := results_g rfl rfl
theorem cq66 : consT 66 = [] := rfl
theorem rs67 (n0 : Nat) (f : List PV) (B : List (List PV)) (z m : List Nat) : results tcfg Try.f67 67 n0 ⟨f, B, z, m⟩ = outG false n0 z B m (getAll ⟨f, B, z, m⟩ [.cell 8 70, .tmp 9]) := results_g rfl rfl
theorem cq67 : consT 67 = [] := rfl
theorem rs68 (n0 : Nat) (f : List PV) (B : List (List PV)) (z m : List Nat) : results tcfg Try.f68 68 n0 ⟨f, B, z, m⟩ = outG false n0 z B m (getAll ⟨f, B, z, m⟩ [.cell 6 70, .tmp 7]) := results_g rfl rfl
theorem cq68 : consT 68 = [] := rfl
theorem rs69 (n0 : Nat) (f : List PV) (B : List (List PV)) (z m : List Nat) : results tcfg Try.f69 69 n0 ⟨f, B, z, m⟩ = outG false n0 z B m (getAll ⟨f, B, z, m⟩ [.tmp 4]) := results_g rfl rfl
theorem cq69 : consT 69 = [] := rfl
theorem rs70 (n0 : Nat) (f : List PV) (B : List (List PV)) (z m : List Nat) : results tcfg Try.f70 70 n0 ⟨f, B, z, m⟩ = outG false n0 z B m (getAll ⟨f, B, z, m⟩ [.tmp 0]) := results_g rfl rfl
theorem cq70 : consT 70 = [] := rfl
theorem rs71 (n0 : Nat) (f : List PV) (B : List (List PV)) (z m : List Nat) : results tcfg Try.f71 71 n0 ⟨f, B, z, m⟩ = outG false n0 z B m (getAll ⟨f, B, z, m⟩ [.cell 2 72]) := results_g rfl rfl
theorem cq71 : consT 71 = [] := rfl
theorem rs72 (n0 : Nat) (f : List PV) (B : List (List PV)) (z m : List Nat) : results tcfg Try.f72 72 n0 ⟨f, B, z, m⟩ = outG false n0 z B m (getAll ⟨f, B, z, m⟩ [.tmp 2, .tmp 3]) := results_g rfl rfl
theorem cq72 : consT 72 = [] := rfl
theorem rs73 (n0 : Nat) (f : List PV) (B : List (List PV)) (z m : List Nat) : results tcfg Try.f73 73 n0 ⟨f, B, z, m⟩ = outG false n0 z B m (getAll ⟨f, B, z, m⟩ [.tmp 2, .tmp 3]) := results_g rfl rfl
theorem cq73 : consT 73 = [] := rfl
theorem rs74 (n0 : Nat) (f : List PV) (B : List (List PV)) (z m : List Nat) : results tcfg Try.f74 74 n0 ⟨f, B, z, m⟩ = outG false n0 z B m (getAll ⟨f, B, z, m⟩ [.tmp 4]) := results_g rfl rfl
theorem cq74 : consT 74 = [] := rfl
theorem rs75 (n0 : Nat) (f : List PV) (B : List (List PV)) (z m : List Nat) : results tcfg Try.f75 75 n0 ⟨f, B, z, m⟩ = outG false n0 z B m (getAll ⟨f, B, z, m⟩ [.tmp 2]) := results_g rfl rfl
theorem cq75 : consT 75 = [] := rfl
theorem rs76 (n0 : Nat) (f : List PV) (B : List (List PV)) (z m : List Nat) : results tcfg Try.f76 76 n0 ⟨f, B, z, m⟩ = outG false n0 z B m (getAll ⟨f, B, z, m⟩ [.tmp 2]) := results_g rfl rfl
theorem cq76 : consT 76 = [] := rfl
theorem rs77 (n0 : Nat) (f : List PV) (B : List (List PV)) (z m : List Nat) : results tcfg Try.f77 77 n0 ⟨f, B, z, m⟩ = outG false n0 z B m (getAll ⟨f, B, z, m⟩ [.tmp 2]) := results_g rfl rfl
theorem cq77 : consT 77 = [] := rfl
theorem rs78 (n0 : Nat) (f : List PV) (B : List (List PV)) (z m : List Nat) : results tcfg Try.f78 78 n0 ⟨f, B, z, m⟩ = outG false n0 z B m (getAll ⟨f, B, z, m⟩ [.tmp 2]) := results_g rfl rfl
theorem cq78 : consT 78 = [] := rfl
theorem rs79 (n0 : Nat) (f : List PV) (B : List (List PV)) (z m : List Nat) : results tcfg Try.f79 79 n0 ⟨f, B, z, m⟩ = outG false n0 z B m (getAll ⟨f, B, z, m⟩ [.tmp 2]) := results_g rfl rfl
theorem cq79 : consT 79 = [] := rfl
theorem rs80 (n0 : Nat) (f : List PV) (B : List (List PV)) (z m : List Nat) : results tcfg Try.f80 80 n0 ⟨f, B, z, m⟩ = outG false n0 z B m (getAll ⟨f, B, z, m⟩ [.tmp 2]) := results_g rfl rfl
theorem cq80 : consT 80 = [] := rfl
theorem rs81 (n0 : Nat) (f : List PV) (B : List (List PV)) (z m : List Nat) : results tcfg Try.f81 81 n0 ⟨f, B, z, m⟩ = outG false n0 z B m (getAll ⟨f, B, z, m⟩ [.cell 2 72, .tmp 3]) := results_g rfl rfl
theorem cq81 : consT 81 = [] := rfl
theorem rs82 (n0 : Nat) (f : List PV) (B : List (List PV)) (z m : List Nat) : results tcfg Try.f82 82 n0 ⟨f, B, z, m⟩ = outG false n0 z B m (getAll ⟨f, B, z, m⟩ [.tmp 2]) := results_g rfl rfl
theorem cq82 : consT 82 = [] := rfl
theorem rs83 (n0 : Nat) (f : List PV) (B : List (List PV)) (z m : List Nat) : results tcfg Try.f83 83 n0 ⟨f, B, z, m⟩ = outG false n0 z B m (getAll ⟨f, B, z, m⟩ [.tmp 6, .tmp 7]) := results_g rfl rfl
theorem cq83 : consT 83 = [] := rfl
theorem rs84 (n0 : Nat) (f : List PV) (B : List (List PV)) (z m : List Nat) : results tcfg Try.f84 84 n0 ⟨f, B, z, m⟩ = outG false n0 z B m (getAll ⟨f, B, z, m⟩ [.tmp 6]) := results_g rfl rfl
theorem cq84 : consT 84 = [] := rfl
theorem rs85 (n0 : Nat) (f : List PV) (B : List (List PV)) (z m : List Nat) : results tcfg Try.f85 85 n0 ⟨f, B, z, m⟩ = outG false n0 z B m (getAll ⟨f, B, z, m⟩ [.tmp 2]) := results_g rfl rfl
theorem cq85 : consT 85 = [] := rfl
theorem rs86 (n0 : Nat) (f : List PV) (B : List (List PV)) (z m : List Nat) : results tcfg Try.f86 86 n0 ⟨f, B, z, m⟩ = outG false n0 z B m (getAll ⟨f, B, z, m⟩ []) := results_g rfl rfl
theorem cq86 : consT 86 = [] := rfl
theorem rs87 (n0 : Nat) (f : List PV) (B : List (List PV)) (z m : List Nat) : results tcfg Try.f87 87 n0 ⟨f, B, z, m⟩ = outG false n0 z B m (getAll ⟨f, B, z, m⟩ []) := results_g rfl rfl
theorem cq87 : consT 87 = [] := rfl
theorem rs88 (n0 : Nat) (f : List PV) (B : List (List PV)) (z m : List Nat) : results tcfg Try.f88 88 n0 ⟨f, B, z, m⟩ = outG false n0 z B m (getAll ⟨f, B, z, m⟩ [.tmp 2]) := results_g rfl rfl
theorem cq88 : consT 88 = [] := rfl
theorem rs89 (n0 : Nat) (f : List PV) (B : List (List PV)) (z m : List Nat) : results tcfg Try.f89 89 n0 ⟨f, B, z, m⟩ = outG false n0 z B m (getAll ⟨f, B, z, m⟩ [.tmp 6]) := results_g rfl rfl
theorem cq89 : consT 89 = [] := rfl
theorem rs90 (n0 : Nat) (f : List PV) (B : List (List PV)) (z m : List Nat) : results tcfg Try.f90 90 n0 ⟨f, B, z, m⟩ = outG false n0 z B m (getAll ⟨f, B, z, m⟩ [.cell 4 85, .tmp 5]) := results_g rfl rfl
theorem cq90 : consT 90 = [] := rfl
theorem rs91 (n0 : Nat) (f : List PV) (B : List (List PV)) (z m : List Nat) : results tcfg Try.f91 91 n0 ⟨f, B, z, m⟩ = outG false n0 z B m (getAll ⟨f, B, z, m⟩ []) := results_g rfl rfl
theorem cq91 : consT 91 = [] := rfl
theorem rs92 (n0 : Nat) (f : List PV) (B : List (List PV)) (z m : List Nat) : results tcfg Try.f92 92 n0 ⟨f, B, z, m⟩ = outG false n0 z B m (getAll ⟨f, B, z, m⟩ [.tmp 2]) := results_g rfl rfl
theorem cq92 : consT 92 = [] := rfl
theorem rs93 (n0 : Nat) (f : List PV) (B : List (List PV)) (z m : List Nat) : results tcfg Try.f93 93 n0 ⟨f, B, z, m⟩ = outG false n0 z B m (getAll ⟨f, B, z, m⟩ []) := results_g rfl rfl
theorem cq93 : consT 93 = [] := rfl
theorem rs94 (n0 : Nat) (f : List PV) (B : List (List PV)) (z m : List Nat) : results tcfg Try.f94 94 n0 ⟨f, B, z, m⟩ = outG false n0 z B m (getAll ⟨f, B, z, m⟩ [.cell 2 55]) := results_g rfl rfl
theorem cq94 : consT 94 = [] := rfl
theorem rs95 (n0 : Nat) (f : List PV) (B : List (List PV)) (z m : List Nat) : results tcfg Try.f95 95 n0 ⟨f, B, z, m⟩ = outG false n0 z B m (getAll ⟨f, B, z, m⟩ [.tmp 2]) := results_g rfl rfl
theorem cq95 : consT 95 = [] := rfl
theorem rs96 (n0 : Nat) (f : List PV) (B : List (List PV)) (z m : List Nat) : results tcfg Try.f96 96 n0 ⟨f, B, z, m⟩ = outG false n0 z B m (getAll ⟨f, B, z, m⟩ []) := results_g rfl rfl
theorem cq96 : consT 96 = [] := rfl
theorem rs97 (n0 : Nat) (f : List PV) (B : List (List PV)) (z m : List Nat) : results tcfg Try.f97 97 n0 ⟨f, B, z, m⟩ = outG false n0 z B m (getAll ⟨f, B, z, m⟩ [.cell 2 58]) := results_g rfl rfl
theorem cq97 : consT 97 = [] := rfl
theorem rs98 (n0 : Nat) (f : List PV) (B : List (List PV)) (z m : List Nat) : results tcfg Try.f98 98 n0 ⟨f, B, z, m⟩ = outG false n0 z B m (getAll ⟨f, B, z, m⟩ []) := results_g rfl rfl
theorem cq98 : consT 98 = [] := rfl
theorem rs99 (n0 : Nat) (f : List PV) (B : List (List PV)) (z m : List Nat) : results tcfg Try.f99 99 n0 ⟨f, B, z, m⟩ = outG false n0 z B m (getAll ⟨f, B, z, m⟩ [.tmp 4]) := results_g rfl rfl
theorem cq99 : consT 99 = [] := rfl
theorem rs100 (n0 : Nat) (f : List PV) (B : List (List PV)) (z m : List Nat) : results tcfg Try.f100 100 n0 ⟨f, B, z, m⟩ = outG false n0 z B m (getAll ⟨f, B, z, m⟩ [.tmp 4]) := results_g rfl rfl
theorem cq100 : consT 100 = [] := rfl
theorem rs101 (n0 : Nat) (f : List PV) (B : List (List PV)) (z m : List Nat) : results tcfg Try.f101 101 n0 ⟨f, B, z, m⟩ = outG false n0 z B m (getAll ⟨f, B, z, m⟩ [.tmp 4]) := results_g rfl rfl
theorem cq101 : consT 101 = [] := rfl
theorem rs102 (n0 : Nat) (f : List PV) (B : List (List PV)) (z m : List Nat) : results tcfg Try.f102 102 n0 ⟨f, B, z, m⟩ = outG false n0 z B m (getAll ⟨f, B, z, m⟩ [.tmp 4]) := results_g rfl rfl
theorem cq102 : consT 102 = [] := rfl
theorem rs103 (n0 : Nat) (f : List PV) (B : List (List PV)) (z m : List Nat) : results tcfg Try.f103 103 n0 ⟨f, B, z, m⟩ = outG false n0 z B m (getAll ⟨f, B, z, m⟩ [.tmp 4]) := results_g rfl rfl
theorem cq103 : consT 103 = [] := rfl
theorem rs104 (n0 : Nat) (f : List PV) (B : List (List PV)) (z m : List Nat) : results tcfg Try.f104 104 n0 ⟨f, B, z, m⟩ = outG false n0 z B m (getAll ⟨f, B, z, m⟩ [.cell 2 55]) := results_g rfl rfl
theorem cq104 : consT 104 = [] := rfl
theorem rs105 (n0 : Nat) (f : List PV) (B : List (List PV)) (z m : List Nat) : results tcfg Try.f105 105 n0 ⟨f, B, z, m⟩ = outG false n0 z B m (getAll ⟨f, B, z, m⟩ [.tmp 4]) := results_g rfl rfl
theorem cq105 : consT 105 = [] := rfl
theorem rs106 (n0 : Nat) (f : List PV) (B : List (List PV)) (z m : List Nat) : results tcfg Try.f106 106 n0 ⟨f, B, z, m⟩ = outG false n0 z B m (getAll ⟨f, B, z, m⟩ [.cell 2 58]) := results_g rfl rfl
theorem cq106 : consT 106 = [] := rfl
theorem rs107 (n0 : Nat) (f : List PV) (B : List (List PV)) (z m : List Nat) : results tcfg Try.f107 107 n0 ⟨f, B, z, m⟩ = outG false n0 z B m (getAll ⟨f, B, z, m⟩ [.tmp 2]) := results_g rfl rfl
theorem cq107 : consT 107 = [] := rfl
theorem rs108 (n0 : Nat) (f : List PV) (B : List (List PV)) (z m : List Nat) : results tcfg Try.f108 108 n0 ⟨f, B, z, m⟩ = outG false n0 z B m (getAll ⟨f, B, z, m⟩ [.tmp 2, .tmp 3]) := results_g rfl rfl
theorem cq108 : consT 108 = [] := rfl
theorem rs109 (n0 : Nat) (f : List PV) (B : List (List PV)) (z m : List Nat) : results tcfg Try.f109 109 n0 ⟨f, B, z, m⟩ = outG false n0 z B m (getAll ⟨f, B, z, m⟩ [.tmp 4]) := results_g rfl rfl
theorem cq109 : consT 109 = [] := rfl
theorem rs110 (n0 : Nat) (f : List PV) (B : List (List PV)) (z m : List Nat) : results tcfg Try.f110 110 n0 ⟨f, B, z, m⟩ = outG false n0 z B m (getAll ⟨f, B, z, m⟩ [.tmp 2, .tmp 3]) := results_g rfl rfl
theorem cq110 : consT 110 = [] := rfl
theorem rs111 (n0 : Nat) (f : List PV) (B : List (List PV)) (z m : List Nat) : results tcfg Try.f111 111 n0 ⟨f, B, z, m⟩ = outG false n0 z B m (getAll ⟨f, B, z, m⟩ [.tmp 2]) := results_g rfl rfl
theorem cq111 : consT 111 = [] := rfl
theorem rs112 (n0 : Nat) (f : List PV) (B : List (List PV)) (z m : List Nat) : results tcfg Try.f112 112 n0 ⟨f, B, z, m⟩ = outG false n0 z B m (getAll ⟨f, B, z, m⟩ []) := results_g rfl rfl
theorem cq112 : consT 112 = [] := rfl
theorem rs113 (n0 : Nat) (f : List PV) (B : List (List PV)) (z m : List Nat) : results tcfg Try.f113 113 n0 ⟨f, B, z, m⟩ = outG false n0 z B m (getAll ⟨f, B, z, m⟩ [.tmp 8]) := results_g rfl rfl
theorem cq113 : consT 113 = [] := rfl
theorem rs114 (n0 : Nat) (f : List PV) (B : List (List PV)) (z m : List Nat) : results tcfg Try.f114 114 n0 ⟨f, B, z, m⟩ = outG false n0 z B m (getAll ⟨f, B, z, m⟩ [.tmp 2]) := results_g rfl rfl
theorem cq114 : consT 114 = [] := rfl
theorem rs115 (n0 : Nat) (f : List PV) (B : List (List PV)) (z m : List Nat) : results tcfg Try.f115 115 n0 ⟨f, B, z, m⟩ = outG false n0 z B m (getAll ⟨f, B, z, m⟩ [.cell 8 88]) := results_g rfl rfl
theorem cq115 : consT 115 = [] := rfl
theorem rs116 (n0 : Nat) (f : List PV) (B : List (List PV)) (z m : List Nat) : results tcfg Try.f116 116 n0 ⟨f, B, z, m⟩ = outG false n0 z B m (getAll ⟨f, B, z, m⟩ [.cell 6 55]) := results_g rfl rfl
theorem cq116 : consT 116 = [] := rfl
theorem rs117 (n0 : Nat) (f : List PV) (B : List (List PV)) (z m : List Nat) : results tcfg Try.f117 117 n0 ⟨f, B, z, m⟩ = outG false n0 z B m (getAll ⟨f, B, z, m⟩ [.tmp 2]) := results_g rfl rfl
theorem cq117 : consT 117 = [] := rfl
theorem rs118 (n0 : Nat) (f : List PV) (B : List (List PV)) (z m : List Nat) : results tcfg Try.f118 118 n0 ⟨f, B, z, m⟩ = outG false n0 z B m (getAll ⟨f, B, z, m⟩ [.tmp 6]) := results_g rfl rfl
theorem cq118 : consT 118 = [] := rfl
theorem rs119 (n0 : Nat) (f : List PV) (B : List (List PV)) (z m : List Nat) : results tcfg Try.f119 119 n0 ⟨f, B, z, m⟩ = outG false n0 z B m (getAll ⟨f, B, z, m⟩ [.tmp 4]) := results_g rfl rfl
theorem cq119 : consT 119 = [] := rfl
theorem rs120 (n0 : Nat) (f : List PV) (B : List (List PV)) (z m : List Nat) : results tcfg Try.f120 120 n0 ⟨f, B, z, m⟩ = outG false n0 z B m (getAll ⟨f, B, z, m⟩ [.tmp 2]) := results_g rfl rfl
theorem cq120 : consT 120 = [] := rfl
theorem rs121 (n0 : Nat) (f : List PV) (B : List (List PV)) (z m : List Nat) : results tcfg Try.f121 121 n0 ⟨f, B, z, m⟩ = outG false n0 z B m (getAll ⟨f, B, z, m⟩ [.tmp 2, .tmp 3]) := results_g rfl rfl
theorem cq121 : consT 121 = [] := rfl
theorem rs122 (n0 : Nat) (f : List PV) (B : List (List PV)) (z m : List Nat) : results tcfg Try.f122 122 n0 ⟨f, B, z, m⟩ = outG false n0 z B m (getAll ⟨f, B, z, m⟩ [.tmp 6]) := results_g rfl rfl
theorem cq122 : consT 122 = [0] := rfl
theorem rs123 (n0 : Nat) (f : List PV) (B : List (List PV)) (z m : List Nat) : results tcfg Try.f123 123 n0 ⟨f, B, z, m⟩ = outG false n0 z B m (getAll ⟨f, B, z, m⟩ [.tmp 4]) := results_g rfl rfl
theorem cq123 : consT 123 = [0] := rfl
theorem rs124 (n0 : Nat) (f : List PV) (B : List (List PV)) (z m : List Nat) : results tcfg Try.f124 124 n0 ⟨f, B, z, m⟩ = outG false n0 z B m (getAll ⟨f, B, z, m⟩ [.tmp 2]) := results_g rfl rfl
theorem cq124 : consT 124 = [] := rfl
theorem rs125 (n0 : Nat) (f : List PV) (B : List (List PV)) (z m : List Nat) : results tcfg Try.f125 125 n0 ⟨f, B, z, m⟩ = outG false n0 z B m (getAll ⟨f, B, z, m⟩ [.tmp 4]) := results_g rfl rfl
theorem cq125 : consT 125 = [] := rfl
theorem rs126 (n0 : Nat) (f : List PV) (B : List (List PV)) (z m : List Nat) : results tcfg Try.f126 126 n0 ⟨f, B, z, m⟩ = outG false n0 z B m (getAll ⟨f, B, z, m⟩ [.tmp 4]) := results_g rfl rfl
theorem cq126 : consT 126 = [] := rfl
theorem rs127 (n0 : Nat) (f : List PV) (B : List (List PV)) (z m : List Nat) : results tcfg Try.f127 127 n0 ⟨f, B, z, m⟩ = outG false n0 z B m (getAll ⟨f, B, z, m⟩ [.tmp 4]) := results_g rfl rfl
theorem cq127 : consT 127 = [] := rfl
theorem rs128 (n0 : Nat) (f : List PV) (B : List (List PV)) (z m : List Nat) : results tcfg Try.f128 128 n0 ⟨f, B, z, m⟩ = outG false n0 z B m (getAll ⟨f, B, z, m⟩ [.cell 0 47]) := results_g rfl rfl
theorem cq128 : consT 128 = [] := rfl
theorem rs129 (n0 : Nat) (f : List PV) (B : List (List PV)) (z m : List Nat) : results tcfg Try.f129 129 n0 ⟨f, B, z, m⟩ = outG false n0 z B m (getAll ⟨f, B, z, m⟩ [.cell 6 162, .tmp 7]) := results_g rfl rfl
theorem cq129 : consT 129 = [] := rfl
theorem rs130 (n0 : Nat) (f : List PV) (B : List (List PV)) (z m : List Nat) : results tcfg Try.f130 130 n0 ⟨f, B, z, m⟩ = outG false n0 z B m (getAll ⟨f, B, z, m⟩ [.cell 4 70, .tmp 5]) := results_g rfl rfl
theorem cq130 : consT 130 = [] := rfl
theorem rs131 (n0 : Nat) (f : List PV) (B : List (List PV)) (z m : List Nat) : results tcfg Try.f131 131 n0 ⟨f, B, z, m⟩ = outG false n0 z B m (getAll ⟨f, B, z, m⟩ [.tmp 4, .tmp 5]) := results_g rfl rfl
theorem cq131 : consT 131 = [] := rfl
theorem rs132 (n0 : Nat) (f : List PV) (B : List (List PV)) (z m : List Nat) : results tcfg Try.f132 132 n0 ⟨f, B, z, m⟩ = outG false n0 z B m (getAll ⟨f, B, z, m⟩ [.cell 2 70]) := results_g rfl rfl
theorem cq132 : consT 132 = [] := rfl
theorem rs133 (n0 : Nat) (f : List PV) (B : List (List PV)) (z m : List Nat) : results tcfg Try.f133 133 n0 ⟨f, B, z, m⟩ = outG false n0 z B m (getAll ⟨f, B, z, m⟩ [.tmp 6]) := results_g rfl rfl
theorem cq133 : consT 133 = [] := rfl
theorem rs134 (n0 : Nat) (f : List PV) (B : List (List PV)) (z m : List Nat) : results tcfg Try.f134 134 n0 ⟨f, B, z, m⟩ = outG false n0 z B m (getAll ⟨f, B, z, m⟩ [.cell 2 75]) := results_g rfl rfl
theorem cq134 : consT 134 = [] := rfl
theorem rs135 (n0 : Nat) (f : List PV) (B : List (List PV)) (z m : List Nat) : results tcfg Try.f135 135 n0 ⟨f, B, z, m⟩ = outG false n0 z B m (getAll ⟨f, B, z, m⟩ [.cell 2 75]) := results_g rfl rfl
theorem cq135 : consT 135 = [] := rfl
theorem rs136 (n0 : Nat) (f : List PV) (B : List (List PV)) (z m : List Nat) : results tcfg Try.f136 136 n0 ⟨f, B, z, m⟩ = outG false n0 z B m (getAll ⟨f, B, z, m⟩ [.cell 6 172, .tmp 7]) := results_g rfl rfl
theorem cq136 : consT 136 = [] := rfl
theorem rs137 (n0 : Nat) (f : List PV) (B : List (List PV)) (z m : List Nat) : results tcfg Try.f137 137 n0 ⟨f, B, z, m⟩ = outG false n0 z B m (getAll ⟨f, B, z, m⟩ [.tmp 4]) := results_g rfl rfl
theorem cq137 : consT 137 = [] := rfl
theorem rs138 (n0 : Nat) (f : List PV) (B : List (List PV)) (z m : List Nat) : results tcfg Try.f138 138 n0 ⟨f, B, z, m⟩ = outG false n0 z B m (getAll ⟨f, B, z, m⟩ [.tmp 4]) := results_g rfl rfl
theorem cq138 : consT 138 = [] := rfl
theorem rs139 (n0 : Nat) (f : List PV) (B : List (List PV)) (z m : List Nat) : results tcfg Try.f139 139 n0 ⟨f, B, z, m⟩ = outG false n0 z B m (getAll ⟨f, B, z, m⟩ [.cell 4 75]) := results_g rfl rfl
theorem cq139 : consT 139 = [] := rfl
theorem rs140 (n0 : Nat) (f : List PV) (B : List (List PV)) (z m : List Nat) : results tcfg Try.f140 140 n0 ⟨f, B, z, m⟩ = outG false n0 z B m (getAll ⟨f, B, z, m⟩ [.cell 4 75]) := results_g rfl rfl
theorem cq140 : consT 140 = [] := rfl
theorem rs141 (n0 : Nat) (f : List PV) (B : List (List PV)) (z m : List Nat) : results tcfg Try.f141 141 n0 ⟨f, B, z, m⟩ = outG false n0 z B m (getAll ⟨f, B, z, m⟩ [.tmp 4, .tmp 5]) := results_g rfl rfl
theorem cq141 : consT 141 = [] := rfl
theorem rs142 (n0 : Nat) (f : List PV) (B : List (List PV)) (z m : List Nat) : results tcfg Try.f142 142 n0 ⟨f, B, z, m⟩ = outG false n0 z B m (getAll ⟨f, B, z, m⟩ [.tmp 4]) := results_g rfl rfl
theorem cq142 : consT 142 = [] := rfl
theorem rs143 (n0 : Nat) (f : List PV) (B : List (List PV)) (z m : List Nat) : results tcfg Try.f143 143 n0 ⟨f, B, z, m⟩ = outG false n0 z B m (getAll ⟨f, B, z, m⟩ [.tmp 2, .tmp 3]) := results_g rfl rfl
theorem cq143 : consT 143 = [] := rfl
theorem rs144 (n0 : Nat) (f : List PV) (B : List (List PV)) (z m : List Nat) : results tcfg Try.f144 144 n0 ⟨f, B, z, m⟩ = outG false n0 z B m (getAll ⟨f, B, z, m⟩ [.tmp 2]) := results_g rfl rfl
theorem cq144 : consT 144 = [] := rfl
theorem rs145 (n0 : Nat) (f : List PV) (B : List (List PV)) (z m : List Nat) : results tcfg Try.f145 145 n0 ⟨f, B, z, m⟩ = outG false n0 z B m (getAll ⟨f, B, z, m⟩ [.tmp 4]) := results_g rfl rfl
theorem cq145 : consT 145 = [] := rfl
theorem rs146 (n0 : Nat) (f : List PV) (B : List (List PV)) (z m : List Nat) : results tcfg Try.f146 146 n0 ⟨f, B, z, m⟩ = outG false n0 z B m (getAll ⟨f, B, z, m⟩ [.tmp 2]) := results_g rfl rfl
theorem cq146 : consT 146 = [] := rfl
theorem rs147 (n0 : Nat) (f : List PV) (B : List (List PV)) (z m : List Nat) : results tcfg Try.f147 147 n0 ⟨f, B, z, m⟩ = outG false n0 z B m (getAll ⟨f, B, z, m⟩ [.tmp 2]) := results_g rfl rfl
theorem cq147 : consT 147 = [] := rfl
theorem rs148 (n0 : Nat) (f : List PV) (B : List (List PV)) (z m : List Nat) : results tcfg Try.f148 148 n0 ⟨f, B, z, m⟩ = outG false n0 z B m (getAll ⟨f, B, z, m⟩ [.tmp 2]) := results_g rfl rfl
theorem cq148 : consT 148 = [] := rfl
theorem rs149 (n0 : Nat) (f : List PV) (B : List (List PV)) (z m : List Nat) : results tcfg Try.f149 149 n0 ⟨f, B, z, m⟩ = outG false n0 z B m (getAll ⟨f, B, z, m⟩ [.tmp 4]) := results_g rfl rfl
theorem cq149 : consT 149 = [] := rfl
theorem rs150 (n0 : Nat) (f : List PV) (B : List (List PV)) (z m : List Nat) : results tcfg Try.f150 150 n0 ⟨f, B, z, m⟩ = outG false n0 z B m (getAll ⟨f, B, z, m⟩ [.tmp 2]) := results_g rfl rfl
theorem cq150 : consT 150 = [] := rfl
theorem rs151 (n0 : Nat) (f : List PV) (B : List (List PV)) (z m : List Nat) : results tcfg Try.f151 151 n0 ⟨f, B, z, m⟩ = outG false n0 z B m (getAll ⟨f, B, z, m⟩ [.tmp 2, .tmp 3]) := results_g rfl rfl
theorem cq151 : consT 151 = [] := rfl
theorem rs152 (n0 : Nat) (f : List PV) (B : List (List PV)) (z m : List Nat) : results tcfg Try.f152 152 n0 ⟨f, B, z, m⟩ = outG false n0 z B m (getAll ⟨f, B, z, m⟩ [.tmp 4]) := results_g rfl rfl
theorem cq152 : consT 152 = [] := rfl
theorem rs153 (n0 : Nat) (f : List PV) (B : List (List PV)) (z m : List Nat) : results tcfg Try.f153 153 n0 ⟨f, B, z, m⟩ = outG false n0 z B m (getAll ⟨f, B, z, m⟩ [.tmp 2]) := results_g rfl rfl
theorem cq153 : consT 153 = [] := rfl
theorem rs154 (n0 : Nat) (f : List PV) (B : List (List PV)) (z m : List Nat) : results tcfg Try.f154 154 n0 ⟨f, B, z, m⟩ = outG false n0 z B m (getAll ⟨f, B, z, m⟩ [.cell 4 55]) := results_g rfl rfl
theorem cq154 : consT 154 = [] := rfl
theorem rs155 (n0 : Nat) (f : List PV) (B : List (List PV)) (z m : List Nat) : results tcfg Try.f155 155 n0 ⟨f, B, z, m⟩ = outG false n0 z B m (getAll ⟨f, B, z, m⟩ [.tmp 4, .tmp 5]) := results_g rfl rfl
theorem cq155 : consT 155 = [] := rfl
theorem rs156 (n0 : Nat) (f : List PV) (B : List (List PV)) (z m : List Nat) : results tcfg Try.f156 156 n0 ⟨f, B, z, m⟩ = outG false n0 z B m (getAll ⟨f, B, z, m⟩ [.tmp 4]) := results_g rfl rfl
theorem cq156 : consT 156 = [] := rfl
theorem rs157 (n0 : Nat) (f : List PV) (B : List (List PV)) (z m : List Nat) : results tcfg Try.f157 157 n0 ⟨f, B, z, m⟩ = outG false n0 z B m (getAll ⟨f, B, z, m⟩ []) := results_g rfl rfl
theorem cq157 : consT 157 = [] := rfl
theorem rs158 (n0 : Nat) (f : List PV) (B : List (List PV)) (z m : List Nat) : results tcfg Try.f158 158 n0 ⟨f, B, z, m⟩ = outG false n0 z B m (getAll ⟨f, B, z, m⟩ [.tmp 2]) := results_g rfl rfl
theorem cq158 : consT 158 = [] := rfl
theorem rs159 (n0 : Nat) (f : List PV) (B : List (List PV)) (z m : List Nat) : results tcfg Try.f159 159 n0 ⟨f, B, z, m⟩ = outG false n0 z B m (getAll ⟨f, B, z, m⟩ []) := results_g rfl rfl
theorem cq159 : consT 159 = [] := rfl
theorem rs160 (n0 : Nat) (f : List PV) (B : List (List PV)) (z m : List Nat) : results tcfg Try.f160 160 n0 ⟨f, B, z, m⟩ = outG false n0 z B m (getAll ⟨f, B, z, m⟩ []) := results_g rfl rfl
theorem cq160 : consT 160 = [] := rfl
theorem rs161 (n0 : Nat) (f : List PV) (B : List (List PV)) (z m : List Nat) : results tcfg Try.f161 161 n0 ⟨f, B, z, m⟩ = outG false n0 z B m (getAll ⟨f, B, z, m⟩ [.tmp 2]) := results_g rfl rfl
theorem cq161 : consT 161 = [] := rfl
theorem rs162 (n0 : Nat) (f : List PV) (B : List (List PV)) (z m : List Nat) : results tcfg Try.f162 162 n0 ⟨f, B, z, m⟩ = outG false n0 z B m (getAll ⟨f, B, z, m⟩ [.tmp 4]) := results_g rfl rfl
theorem cq162 : consT 162 = [0] := rfl
theorem rs163 (n0 : Nat) (f : List PV) (B : List (List PV)) (z m : List Nat) : results tcfg Try.f163 163 n0 ⟨f, B, z, m⟩ = outG false n0 z B m (getAll ⟨f, B, z, m⟩ [.tmp 4]) := results_g rfl rfl
theorem cq163 : consT 163 = [0] := rfl
theorem rs164 (n0 : Nat) (f : List PV) (B : List (List PV)) (z m : List Nat) : results tcfg Try.f164 164 n0 ⟨f, B, z, m⟩ = outG false n0 z B m (getAll ⟨f, B, z, m⟩ [.tmp 4]) := results_g rfl rfl
theorem cq164 : consT 164 = [] := rfl
theorem rs165 (n0 : Nat) (f : List PV) (B : List (List PV)) (z m : List Nat) : results tcfg Try.f165 165 n0 ⟨f, B, z, m⟩ = outG false n0 z B m (getAll ⟨f, B, z, m⟩ [.tmp 3]) := results_g rfl rfl
theorem cq165 : consT 165 = [] := rfl
theorem rs166 (n0 : Nat) (f : List PV) (B : List (List PV)) (z m : List Nat) : results tcfg Try.f166 166 n0 ⟨f, B, z, m⟩ = outG false n0 z B m (getAll ⟨f, B, z, m⟩ [.tmp 3]) := results_g rfl rfl
theorem cq166 : consT 166 = [] := rfl
theorem rs167 (n0 : Nat) (f : List PV) (B : List (List PV)) (z m : List Nat) : results tcfg Try.f167 167 n0 ⟨f, B, z, m⟩ = outG false n0 z B m (getAll ⟨f, B, z, m⟩ [.tmp 4]) := results_g rfl rfl
theorem cq167 : consT 167 = [] := rfl
theorem rs168 (n0 : Nat) (f : List PV) (B : List (List PV)) (z m : List Nat) : results tcfg Try.f168 168 n0 ⟨f, B, z, m⟩ = outG false n0 z B m (getAll ⟨f, B, z, m⟩ [.tmp 2, .tmp 3]) := results_g rfl rfl
theorem cq168 : consT 168 = [] := rfl
theorem rs169 (n0 : Nat) (f : List PV) (B : List (List PV)) (z m : List Nat) : results tcfg Try.f169 169 n0 ⟨f, B, z, m⟩ = outG false n0 z B m (getAll ⟨f, B, z, m⟩ [.tmp 4, .tmp 5]) := results_g rfl rfl
theorem cq169 : consT 169 = [] := rfl
theorem rs170 (n0 : Nat) (f : List PV) (B : List (List PV)) (z m : List Nat) : results tcfg Try.f170 170 n0 ⟨f, B, z, m⟩ = outG false n0 z B m (getAll ⟨f, B, z, m⟩ [.cell 4 85, .tmp 5]) := results_g rfl rfl
theorem cq170 : consT 170 = [] := rfl
theorem rs171 (n0 : Nat) (f : List PV) (B : List (List PV)) (z m : List Nat) : results tcfg Try.f171 171 n0 ⟨f, B, z, m⟩ = outG false n0 z B m (getAll ⟨f, B, z, m⟩ [.tmp 2, .tmp 3]) := results_g rfl rfl
theorem cq171 : consT 171 = [] := rfl
theorem rs172 (n0 : Nat) (f : List PV) (B : List (List PV)) (z m : List Nat) : results tcfg Try.f172 172 n0 ⟨f, B, z, m⟩ = outG false n0 z B m (getAll ⟨f, B, z, m⟩ [.tmp 2]) := results_g rfl rfl
theorem cq172 : consT 172 = [] := rfl
theorem rs173 (n0 : Nat) (f : List PV) (B : List (List PV)) (z m : List Nat) : results tcfg Try.f173 173 n0 ⟨f, B, z, m⟩ = outG false n0 z B m (getAll ⟨f, B, z, m⟩ [.tmp 6]) := results_g rfl rfl
theorem cq173 : consT 173 = [0] := rfl
theorem rs174 (n0 : Nat) (f : List PV) (B : List (List PV)) (z m : List Nat) : results tcfg Try.f174 174 n0 ⟨f, B, z, m⟩ = outG false n0 z B m (getAll ⟨f, B, z, m⟩ [.tmp 2]) := results_g rfl rfl
theorem cq174 : consT 174 = [] := rfl
theorem rs175 (n0 : Nat) (f : List PV) (B : List (List PV)) (z m : List Nat) : results tcfg Try.f175 175 n0 ⟨f, B, z, m⟩ = outG false n0 z B m (getAll ⟨f, B, z, m⟩ [.tmp 2]) := results_g rfl rfl
theorem cq175 : consT 175 = [] := rfl
theorem rs176 (n0 : Nat) (f : List PV) (B : List (List PV)) (z m : List Nat) : results tcfg Try.f176 176 n0 ⟨f, B, z, m⟩ = outG false n0 z B m (getAll ⟨f, B, z, m⟩ [.tmp 6]) := results_g rfl rfl
theorem cq176 : consT 176 = [] := rfl
theorem rs177 (n0 : Nat) (f : List PV) (B : List (List PV)) (z m : List Nat) : results tcfg Try.f177 177 n0 ⟨f, B, z, m⟩ = outG false n0 z B m (getAll ⟨f, B, z, m⟩ [.tmp 4]) := results_g rfl rfl
theorem cq177 : consT 177 = [] := rfl
theorem rs178 (n0 : Nat) (f : List PV) (B : List (List PV)) (z m : List Nat) : results tcfg Try.f178 178 n0 ⟨f, B, z, m⟩ = outG false n0 z B m (getAll ⟨f, B, z, m⟩ [.tmp 4]) := results_g rfl rfl
theorem cq178 : consT 178 = [] := rfl
theorem rs179 (n0 : Nat) (f : List PV) (B : List (List PV)) (z m : List Nat) : results tcfg Try.f179 179 n0 ⟨f, B, z, m⟩ = outG false n0 z B m (getAll ⟨f, B, z, m⟩ [.tmp 4]) := results_g rfl rfl
theorem cq179 : consT 179 = [] := rfl
theorem rs180 (n0 : Nat) (f : List PV) (B : List (List PV)) (z m : List Nat) : results tcfg Try.f180 180 n0 ⟨f, B, z, m⟩ = outG false n0 z B m (getAll ⟨f, B, z, m⟩ [.tmp 4]) := results_g rfl rfl
theorem cq180 : consT 180 = [] := rfl
theorem rs181 (n0 : Nat) (f : List PV) (B : List (List PV)) (z m : List Nat) : results tcfg Try.f181 181 n0 ⟨f, B, z, m⟩ = outG false n0 z B m (getAll ⟨f, B, z, m⟩ [.tmp 2]) := results_g rfl rfl
theorem cq181 : consT 181 = [] := rfl
theorem rs182 (n0 : Nat) (f : List PV) (B : List (List PV)) (z m : List Nat) : results tcfg Try.f182 182 n0 ⟨f, B, z, m⟩ = outG false n0 z B m (getAll ⟨f, B, z, m⟩ [.cell 6 172, .tmp 7]) := results_g rfl rfl
theorem cq182 : consT 182 = [] := rfl
theorem rs183 (n0 : Nat) (f : List PV) (B : List (List PV)) (z m : List Nat) : results tcfg Try.f183 183 n0 ⟨f, B, z, m⟩ = outG false n0 z B m (getAll ⟨f, B, z, m⟩ [.tmp 4]) := results_g rfl rfl
theorem cq183 : consT 183 = [] := rfl
theorem rs184 (n0 : Nat) (f : List PV) (B : List (List PV)) (z m : List Nat) : results tcfg Try.f184 184 n0 ⟨f, B, z, m⟩ = outG false n0 z B m (getAll ⟨f, B, z, m⟩ [.tmp 2]) := results_g rfl rfl
theorem cq184 : consT 184 = [] := rfl
theorem rs185 (n0 : Nat) (f : List PV) (B : List (List PV)) (z m : List Nat) : results tcfg Try.f185 185 n0 ⟨f, B, z, m⟩ = outG false n0 z B m (getAll ⟨f, B, z, m⟩ [.cell 2 70]) := results_g rfl rfl
theorem cq185 : consT 185 = [] := rfl
theorem rs186 (n0 : Nat) (f : List PV) (B : List (List PV)) (z m : List Nat) : results tcfg Try.f186 186 n0 ⟨f, B, z, m⟩ = outG false n0 z B m (getAll ⟨f, B, z, m⟩ [.tmp 6, .tmp 7]) := results_g rfl rfl
theorem cq186 : consT 186 = [] := rfl
theorem rs187 (n0 : Nat) (f : List PV) (B : List (List PV)) (z m : List Nat) : results tcfg Try.f187 187 n0 ⟨f, B, z, m⟩ = outG false n0 z B m (getAll ⟨f, B, z, m⟩ [.cell 4 75]) := results_g rfl rfl
theorem cq187 : consT 187 = [] := rfl
theorem rs188 (n0 : Nat) (f : List PV) (B : List (List PV)) (z m : List Nat) : results tcfg Try.f188 188 n0 ⟨f, B, z, m⟩ = outG false n0 z B m (getAll ⟨f, B, z, m⟩ [.tmp 6, .tmp 7]) := results_g rfl rfl
theorem cq188 : consT 188 = [] := rfl
theorem rs189 (n0 : Nat) (f : List PV) (B : List (List PV)) (z m : List Nat) : results tcfg Try.f189 189 n0 ⟨f, B, z, m⟩ = outG false n0 z B m (getAll ⟨f, B, z, m⟩ [.cell 6 185, .tmp 7]) := results_g rfl rfl
theorem cq189 : consT 189 = [] := rfl
theorem rs190 (n0 : Nat) (f : List PV) (B : List (List PV)) (z m : List Nat) : results tcfg Try.f190 190 n0 ⟨f, B, z, m⟩ = outG false n0 z B m (getAll ⟨f, B, z, m⟩ [.cell 8 170, .tmp 9]) := results_g rfl rfl
theorem cq190 : consT 190 = [] := rfl
theorem rs191 (n0 : Nat) (f : List PV) (B : List (List PV)) (z m : List Nat) : results tcfg Try.f191 191 n0 ⟨f, B, z, m⟩ = outG false n0 z B m (getAll ⟨f, B, z, m⟩ [.tmp 4]) := results_g rfl rfl
theorem cq191 : consT 191 = [] := rfl
theorem rs192 (n0 : Nat) (f : List PV) (B : List (List PV)) (z m : List Nat) : results tcfg Try.f192 192 n0 ⟨f, B, z, m⟩ = outG false n0 z B m (getAll ⟨f, B, z, m⟩ [.tmp 4]) := results_g rfl rfl
theorem cq192 : consT 192 = [] := rfl
theorem rs193 (n0 : Nat) (f : List PV) (B : List (List PV)) (z m : List Nat) : results tcfg Try.f193 193 n0 ⟨f, B, z, m⟩ = outG false n0 z B m (getAll ⟨f, B, z, m⟩ [.tmp 2]) := results_g rfl rfl
theorem cq193 : consT 193 = [] := rfl
theorem rs194 (n0 : Nat) (f : List PV) (B : List (List PV)) (z m : List Nat) : results tcfg Try.f194 194 n0 ⟨f, B, z, m⟩ = outG false n0 z B m (getAll ⟨f, B, z, m⟩ [.tmp 4]) := results_g rfl rfl
theorem cq194 : consT 194 = [] := rfl
theorem rs195 (n0 : Nat) (f : List PV) (B : List (List PV)) (z m : List Nat) : results tcfg Try.f195 195 n0 ⟨f, B, z, m⟩ = outG false n0 z B m (getAll ⟨f, B, z, m⟩ [.tmp 2, .tmp 3]) := results_g rfl rfl
theorem cq195 : consT 195 = [] := rfl
theorem rs196 (n0 : Nat) (f : List PV) (B : List (List PV)) (z m : List Nat) : results tcfg Try.f196 196 n0 ⟨f, B, z, m⟩ = outG false n0 z B m (getAll ⟨f, B, z, m⟩ [.tmp 4]) := results_g rfl rfl
theorem cq196 : consT 196 = [] := rfl
theorem rs197 (n0 : Nat) (f : List PV) (B : List (List PV)) (z m : List Nat) : results tcfg Try.f197 197 n0 ⟨f, B, z, m⟩ = outG false n0 z B m (getAll ⟨f, B, z, m⟩ [.tmp 2]) := results_g rfl rfl
theorem cq197 : consT 197 = [] := rfl
theorem rs198 (n0 : Nat) (f : List PV) (B : List (List PV)) (z m : List Nat) : results tcfg Try.f198 198 n0 ⟨f, B, z, m⟩ = outG false n0 z B m (getAll ⟨f, B, z, m⟩ [.tmp 2]) := results_g rfl rfl
theorem cq198 : consT 198 = [] := rfl
theorem rs199 (n0 : Nat) (f : List PV) (B : List (List PV)) (z m : List Nat) : results tcfg Try.f199 199 n0 ⟨f, B, z, m⟩ = outG false n0 z B m (getAll ⟨f, B, z, m⟩ [.tmp 8]) := results_g rfl rfl
theorem cq199 : consT 199 = [] := rfl
theorem rs200 (n0 : Nat) (f : List PV) (B : List (List PV)) (z m : List Nat) : results tcfg Try.f200 200 n0 ⟨f, B, z, m⟩ = outG false n0 z B m (getAll ⟨f, B, z, m⟩ [.tmp 6]) := results_g rfl rfl
theorem cq200 : consT 200 = [0] := rfl
theorem rs201 (n0 : Nat) (f : List PV) (B : List (List PV)) (z m : List Nat) : results tcfg Try.f201 201 n0 ⟨f, B, z, m⟩ = outG false n0 z B m (getAll ⟨f, B, z, m⟩ [.tmp 4]) := results_g rfl rfl
theorem cq201 : consT 201 = [] := rfl
theorem rs202 (n0 : Nat) (f : List PV) (B : List (List PV)) (z m : List Nat) : results tcfg Try.f202 202 n0 ⟨f, B, z, m⟩ = outG false n0 z B m (getAll ⟨f, B, z, m⟩ [.tmp 2]) := results_g rfl rfl
theorem cq202 : consT 202 = [] := rfl
theorem rs203 (n0 : Nat) (f : List PV) (B : List (List PV)) (z m : List Nat) : results tcfg Try.f203 203 n0 ⟨f, B, z, m⟩ = outG false n0 z B m (getAll ⟨f, B, z, m⟩ [.tmp 6]) := results_g rfl rfl
theorem cq203 : consT 203 = [] := rfl
theorem rs204 (n0 : Nat) (f : List PV) (B : List (List PV)) (z m : List Nat) : results tcfg Try.f204 204 n0 ⟨f, B, z, m⟩ = outG false n0 z B m (getAll ⟨f, B, z, m⟩ [.tmp 2]) := results_g rfl rfl
theorem cq204 : consT 204 = [] := rfl
theorem rs205 (n0 : Nat) (f : List PV) (B : List (List PV)) (z m : List Nat) : results tcfg Try.f205 205 n0 ⟨f, B, z, m⟩ = outG false n0 z B m (getAll ⟨f, B, z, m⟩ [.cell 2 238, .tmp 3]) := results_g rfl rfl
theorem cq205 : consT 205 = [] := rfl
theorem rs206 (n0 : Nat) (f : List PV) (B : List (List PV)) (z m : List Nat) : results tcfg Try.f206 206 n0 ⟨f, B, z, m⟩ = outG false n0 z B m (getAll ⟨f, B, z, m⟩ [.tmp 6]) := results_g rfl rfl
theorem cq206 : consT 206 = [] := rfl
theorem rs207 (n0 : Nat) (f : List PV) (B : List (List PV)) (z m : List Nat) : results tcfg Try.f207 207 n0 ⟨f, B, z, m⟩ = outG false n0 z B m (getAll ⟨f, B, z, m⟩ [.tmp 4]) := results_g rfl rfl
theorem cq207 : consT 207 = [] := rfl
theorem rs208 (n0 : Nat) (f : List PV) (B : List (List PV)) (z m : List Nat) : results tcfg Try.f208 208 n0 ⟨f, B, z, m⟩ = outG false n0 z B m (getAll ⟨f, B, z, m⟩ [.tmp 3]) := results_g rfl rfl
theorem cq208 : consT 208 = [] := rfl
theorem rs209 (n0 : Nat) (f : List PV) (B : List (List PV)) (z m : List Nat) : results tcfg Try.f209 209 n0 ⟨f, B, z, m⟩ = outG false n0 z B m (getAll ⟨f, B, z, m⟩ [.tmp 2]) := results_g rfl rfl
theorem cq209 : consT 209 = [] := rfl
theorem rs210 (n0 : Nat) (f : List PV) (B : List (List PV)) (z m : List Nat) : results tcfg Try.f210 210 n0 ⟨f, B, z, m⟩ = outG false n0 z B m (getAll ⟨f, B, z, m⟩ [.tmp 4]) := results_g rfl rfl
theorem cq210 : consT 210 = [] := rfl
theorem rs211 (n0 : Nat) (f : List PV) (B : List (List PV)) (z m : List Nat) : results tcfg Try.f211 211 n0 ⟨f, B, z, m⟩ = outG false n0 z B m (getAll ⟨f, B, z, m⟩ [.tmp 2]) := results_g rfl rfl
theorem cq211 : consT 211 = [] := rfl
theorem rs212 (n0 : Nat) (f : List PV) (B : List (List PV)) (z m : List Nat) : results tcfg Try.f212 212 n0 ⟨f, B, z, m⟩ = outG false n0 z B m (getAll ⟨f, B, z, m⟩ [.tmp 2]) := results_g rfl rfl
theorem cq212 : consT 212 = [] := rfl
theorem rs213 (n0 : Nat) (f : List PV) (B : List (List PV)) (z m : List Nat) : results tcfg Try.f213 213 n0 ⟨f, B, z, m⟩ = outG false n0 z B m (getAll ⟨f, B, z, m⟩ [.tmp 4]) := results_g rfl rfl
theorem cq213 : consT 213 = [] := rfl
theorem rs214 (n0 : Nat) (f : List PV) (B : List (List PV)) (z m : List Nat) : results tcfg Try.f214 214 n0 ⟨f, B, z, m⟩ = outG false n0 z B m (getAll ⟨f, B, z, m⟩ [.cell 6 185, .tmp 7]) := results_g rfl rfl
theorem cq214 : consT 214 = [] := rfl
theorem rs215 (n0 : Nat) (f : List PV) (B : List (List PV)) (z m : List Nat) : results tcfg Try.f215 215 n0 ⟨f, B, z, m⟩ = outG false n0 z B m (getAll ⟨f, B, z, m⟩ [.cell 3 73]) := results_g rfl rfl
theorem cq215 : consT 215 = [] := rfl
theorem rs216 (n0 : Nat) (f : List PV) (B : List (List PV)) (z m : List Nat) : results tcfg Try.f216 216 n0 ⟨f, B, z, m⟩ = outG false n0 z B m (getAll ⟨f, B, z, m⟩ [.tmp 4]) := results_g rfl rfl
theorem cq216 : consT 216 = [] := rfl
theorem rs217 (n0 : Nat) (f : List PV) (B : List (List PV)) (z m : List Nat) : results tcfg Try.f217 217 n0 ⟨f, B, z, m⟩ = outG false n0 z B m (getAll ⟨f, B, z, m⟩ [.cell 4 75]) := results_g rfl rfl
theorem cq217 : consT 217 = [] := rfl
theorem rs218 (n0 : Nat) (f : List PV) (B : List (List PV)) (z m : List Nat) : results tcfg Try.f218 218 n0 ⟨f, B, z, m⟩ = outG false n0 z B m (getAll ⟨f, B, z, m⟩ [.cell 4 75]) := results_g rfl rfl
theorem cq218 : consT 218 = [] := rfl
theorem rs219 (n0 : Nat) (f : List PV) (B : List (List PV)) (z m : List Nat) : results tcfg Try.f219 219 n0 ⟨f, B, z, m⟩ = outG false n0 z B m (getAll ⟨f, B, z, m⟩ [.cell 8 185, .tmp 9]) := results_g rfl rfl
theorem cq219 : consT 219 = [] := rfl
theorem rs220 (n0 : Nat) (f : List PV) (B : List (List PV)) (z m : List Nat) : results tcfg Try.f220 220 n0 ⟨f, B, z, m⟩ = outG false n0 z B m (getAll ⟨f, B, z, m⟩ [.tmp 12, .tmp 13]) := results_g rfl rfl
theorem cq220 : consT 220 = [] := rfl
theorem rs221 (n0 : Nat) (f : List PV) (B : List (List PV)) (z m : List Nat) : results tcfg Try.f221 221 n0 ⟨f, B, z, m⟩ = outG false n0 z B m (getAll ⟨f, B, z, m⟩ [.tmp 2]) := results_g rfl rfl
theorem cq221 : consT 221 = [] := rfl
theorem rs222 (n0 : Nat) (f : List PV) (B : List (List PV)) (z m : List Nat) : results tcfg Try.f222 222 n0 ⟨f, B, z, m⟩ = outG false n0 z B m (getAll ⟨f, B, z, m⟩ [.cell 6 55]) := results_g rfl rfl
theorem cq222 : consT 222 = [] := rfl
theorem rs223 (n0 : Nat) (f : List PV) (B : List (List PV)) (z m : List Nat) : results tcfg Try.f223 223 n0 ⟨f, B, z, m⟩ = outG false n0 z B m (getAll ⟨f, B, z, m⟩ [.tmp 4, .tmp 5]) := results_g rfl rfl
theorem cq223 : consT 223 = [] := rfl
theorem rs224 (n0 : Nat) (f : List PV) (B : List (List PV)) (z m : List Nat) : results tcfg Try.f224 224 n0 ⟨f, B, z, m⟩ = outG false n0 z B m (getAll ⟨f, B, z, m⟩ [.cell 6 55]) := results_g rfl rfl
theorem cq224 : consT 224 = [] := rfl
theorem rs225 (n0 : Nat) (f : List PV) (B : List (List PV)) (z m : List Nat) : results tcfg Try.f225 225 n0 ⟨f, B, z, m⟩ = outG false n0 z B m (getAll ⟨f, B, z, m⟩ [.cell 6 55]) := results_g rfl rfl
theorem cq225 : consT 225 = [] := rfl
theorem rs226 (n0 : Nat) (f : List PV) (B : List (List PV)) (z m : List Nat) : results tcfg Try.f226 226 n0 ⟨f, B, z, m⟩ = outG false n0 z B m (getAll ⟨f, B, z, m⟩ [.tmp 4, .tmp 5]) := results_g rfl rfl
theorem cq226 : consT 226 = [] := rfl
theorem rs227 (n0 : Nat) (f : List PV) (B : List (List PV)) (z m : List Nat) : results tcfg Try.f227 227 n0 ⟨f, B, z, m⟩ = outG false n0 z B m (getAll ⟨f, B, z, m⟩ [.cell 6 55]) := results_g rfl rfl
theorem cq227 : consT 227 = [] := rfl
theorem rs228 (n0 : Nat) (f : List PV) (B : List (List PV)) (z m : List Nat) : results tcfg Try.f228 228 n0 ⟨f, B, z, m⟩ = outG false n0 z B m (getAll ⟨f, B, z, m⟩ [.tmp 4, .tmp 5]) := results_g rfl rfl
theorem cq228 : consT 228 = [] := rfl
theorem rs229 (n0 : Nat) (f : List PV) (B : List (List PV)) (z m : List Nat) : results tcfg Try.f229 229 n0 ⟨f, B, z, m⟩ = outG false n0 z B m (getAll ⟨f, B, z, m⟩ [.cell 6 55]) := results_g rfl rfl
theorem cq229 : consT 229 = [] := rfl
theorem rs230 (n0 : Nat) (f : List PV) (B : List (List PV)) (z m : List Nat) : results tcfg Try.f230 230 n0 ⟨f, B, z, m⟩ = outG false n0 z B m (getAll ⟨f, B, z, m⟩ [.tmp 4, .tmp 5]) := results_g rfl rfl
theorem cq230 : consT 230 = [] := rfl
theorem rs231 (n0 : Nat) (f : List PV) (B : List (List PV)) (z m : List Nat) : results tcfg Try.f231 231 n0 ⟨f, B, z, m⟩ = outG false n0 z B m (getAll ⟨f, B, z, m⟩ [.cell 6 55]) := results_g rfl rfl
theorem cq231 : consT 231 = [] := rfl
theorem rs232 (n0 : Nat) (f : List PV) (B : List (List PV)) (z m : List Nat) : results tcfg Try.f232 232 n0 ⟨f, B, z, m⟩ = outG false n0 z B m (getAll ⟨f, B, z, m⟩ [.cell 6 55]) := results_g rfl rfl
theorem cq232 : consT 232 = [] := rfl
theorem rs233 (n0 : Nat) (f : List PV) (B : List (List PV)) (z m : List Nat) : results tcfg Try.f233 233 n0 ⟨f, B, z, m⟩ = outG false n0 z B m (getAll ⟨f, B, z, m⟩ [.cell 6 55]) := results_g rfl rfl
theorem cq233 : consT 233 = [] := rfl
theorem rs234 (n0 : Nat) (f : List PV) (B : List (List PV)) (z m : List Nat) : results tcfg Try.f234 234 n0 ⟨f, B, z, m⟩ = outG false n0 z B m (getAll ⟨f, B, z, m⟩ [.cell 6 55]) := results_g rfl rfl
theorem cq234 : consT 234 = [] := rfl
theorem rs235 (n0 : Nat) (f : List PV) (B : List (List PV)) (z m : List Nat) : results tcfg Try.f235 235 n0 ⟨f, B, z, m⟩ = outG false n0 z B m (getAll ⟨f, B, z, m⟩ [.tmp 4, .tmp 5]) := results_g rfl rfl
theorem cq235 : consT 235 = [] := rfl
theorem rs236 (n0 : Nat) (f : List PV) (B : List (List PV)) (z m : List Nat) : results tcfg Try.f236 236 n0 ⟨f, B, z, m⟩ = outG false n0 z B m (getAll ⟨f, B, z, m⟩ [.tmp 4]) := results_g rfl rfl
theorem cq236 : consT 236 = [] := rfl
theorem rs237 (n0 : Nat) (f : List PV) (B : List (List PV)) (z m : List Nat) : results tcfg Try.f237 237 n0 ⟨f, B, z, m⟩ = outG false n0 z B m (getAll ⟨f, B, z, m⟩ [.tmp 4]) := results_g rfl rfl
theorem cq237 : consT 237 = [] := rfl
theorem rs238 (n0 : Nat) (f : List PV) (B : List (List PV)) (z m : List Nat) : results tcfg Try.f238 238 n0 ⟨f, B, z, m⟩ = outG true n0 z B m (getAll ⟨f, B, z, m⟩ [.tmp 4]) := results_g rfl rfl
theorem cq238 : consT 238 = [] := rfl
theorem rs239 (n0 : Nat) (f : List PV) (B : List (List PV)) (z m : List Nat) : results tcfg Try.f239 239 n0 ⟨f, B, z, m⟩ = outG false n0 z B m (getAll ⟨f, B, z, m⟩ [.tmp 4]) := results_g rfl rfl
theorem cq239 : consT 239 = [] := rfl
theorem rs240 (n0 : Nat) (f : List PV) (B : List (List PV)) (z m : List Nat) : results tcfg Try.f240 240 n0 ⟨f, B, z, m⟩ = outG false n0 z B m (getAll ⟨f, B, z, m⟩ [.cell 8 185, .tmp 9]) := results_g rfl rfl
theorem cq240 : consT 240 = [] := rfl
theorem rs241 (n0 : Nat) (f : List PV) (B : List (List PV)) (z m : List Nat) : results tcfg Try.f241 241 n0 ⟨f, B, z, m⟩ = outG false n0 z B m (getAll ⟨f, B, z, m⟩ [.tmp 4]) := results_g rfl rfl
theorem cq241 : consT 241 = [] := rfl
theorem rs242 (n0 : Nat) (f : List PV) (B : List (List PV)) (z m : List Nat) : results tcfg Try.f242 242 n0 ⟨f, B, z, m⟩ = outG false n0 z B m (getAll ⟨f, B, z, m⟩ [.tmp 8]) := results_g rfl rfl
theorem cq242 : consT 242 = [] := rfl
theorem rs243 (n0 : Nat) (f : List PV) (B : List (List PV)) (z m : List Nat) : results tcfg Try.f243 243 n0 ⟨f, B, z, m⟩ = outG false n0 z B m (getAll ⟨f, B, z, m⟩ [.tmp 4]) := results_g rfl rfl
theorem cq243 : consT 243 = [] := rfl
theorem rs244 (n0 : Nat) (f : List PV) (B : List (List PV)) (z m : List Nat) : results tcfg Try.f244 244 n0 ⟨f, B, z, m⟩ = outG false n0 z B m (getAll ⟨f, B, z, m⟩ [.cell 8 170, .tmp 9]) := results_g rfl rfl
theorem cq244 : consT 244 = [] := rfl
theorem rs245 (n0 : Nat) (f : List PV) (B : List (List PV)) (z m : List Nat) : results tcfg Try.f245 245 n0 ⟨f, B, z, m⟩ = outG false n0 z B m (getAll ⟨f, B, z, m⟩ [.tmp 12, .tmp 13]) := results_g rfl rfl
theorem cq245 : consT 245 = [] := rfl
attribute [push_cast] ev_skip ev_label ev_exit ev_ret ev_seq ev_block ev_loop ev_region ev_draw thenEv_normal thenEv_exit thenEv_ret
attribute [push_cast] blockEv_exit blockEv_exit_ne blockEv_normal blockEv_ret normalOf_some ro_nil ro_cons thenRo_some go_none putR_some retP_some so_move
attribute [push_cast] so_assign so_pick so_load storeR_some so_store so_alloc2 allocR_cons so_box so_makeSlice so_buildSlice so_build so_binOp
attribute [push_cast] so_unOp so_convert so_makeFunc so_fieldAddr so_field so_indexAddr so_index so_extract so_len so_append so_call so_callv
attribute [push_cast] callV_fn norm_int norm_bool norm_list norm_ptr norm_arr norm_eptr norm_agg norm_fn norm_nilp norm_nilf norm_str
attribute [push_cast] assign_int assign_bool assign_nilp assign_nilf assign_ptr assign_arr assign_eptr assign_agg assign_fn assign_ro assign_full assign_slot
attribute [push_cast] assign_cell opv_tmp opv_const opv_func put_some put_none off_mk retag_sc retag_any retag_list retag_ptr retag_arr
attribute [push_cast] retag_fn retag_eptr getD_set_eq getD_set_ne getD_map getD_append_rep List.getD_cons_zero List.getD_cons_succ getD_nil endF_length List.length_map List.length_set
attribute [push_cast] List.length_append List.length_replicate List.length_cons List.length_nil bin_sc sb_add sb_sub sb_mul sb_eql sb_neq sb_lss sb_leq
attribute [push_cast] sb_gtr sb_geq un_not Option.map_some Option.map_none load_ptr load_ptr_agg load1_some box_get box_get0 box_set box_set0
attribute [push_cast] box_push box_take box_take0 box_mod box_mod0 store_eq stB_some settle_sc settle_ptr settle_fn settle_eptr settle_slot
attribute [push_cast] settle_ro settle_full settle_cell settle_agg clean_sc clean_ptr clean_arr clean_fn clean_eptr clean_list clean_agg flat_sc
attribute [push_cast] flat_ptr flat_arr flat_fn flat_eptr flat_list flat_agg roify_ro roify_full roify_slot roify_cell ok_int ok_bool
attribute [push_cast] ok_nilp ok_nilf ok_ro ok_full ok_ptr ok_fn ok_eptr push_eq pushR_true call_eq2 callC_nil callR_mods
attribute [push_cast] asArgs_nil asArgs_list asArgs_sc asArgs_ptr asArgs_arr asArgs_fn asArgs_eptr asArgs_agg import_sc import_fn import_ptr import_agg
attribute [push_cast] import_slot import_ro import_tuple importL_nil importL_cons import1_sc import1_agg import1_slot import1_ro import1_ptr import1_fn extr_tuple
attribute [push_cast] List.all_cons List.all_nil Bool.and_true Bool.and_self List.take_zero List.drop_zero List.take_succ_cons List.drop_succ_cons List.set_cons_zero List.set_cons_succ Nat.zero_add Nat.add_zero
attribute [push_cast] List.length_singleton finR_normal finR_ret roundOf_exit roundOf_ret lpNext_normal lpNext_exit lpNext_ret endRound_mk cutB_nil List.take_length List.filter_nil
attribute [push_cast] List.not_mem_nil not_false_eq_true and_true and_self true_and Nat.lt_add_one Nat.le_refl ite_self ne_eq off_ro off_eq isTag_none
attribute [push_cast] isTag_some ofCell_full ofCell_slot ofCell_cell backD_full backD_slot backD_cell dieB_full dieB_slot dieB_cell tag_ss tag_cc
attribute [push_cast] tag_sc tag_cs tag_sf tag_cf tag_fs beq_self_eq_true List.contains_nil List.set_set bslice bsl_some okElem_sc okElem_agg
attribute [push_cast] one_int one_bool plain_int plain_bool plain_ro range_0 range_1 range_2 range_3 range_4 range_5 List.append_assoc
attribute [push_cast] Nat.add_assoc fa_eq faR_ptr faR_eptr fld_eq fldR_agg pack_one pack_agg retag_tuple loadN_some retag_agg get_tmp
attribute [push_cast] get_cell thaw_sc thaw_agg thaw_list thaw_fn thaw_ptr export_sc export_agg export_fn export_ptr export_ro export_full
attribute [push_cast] export_slot export_cell under_sc under_ptr under_list under_agg under_fn rd_eq rp_done rp_take takeR_some rp_alt
attribute [push_cast] ra_one ra_two altR_some altG_some addL_some join_eq rdEnd_same rdEnd_one rdEnd_two loadId pureKind isLoad
attribute [push_cast] Bool.or_true Bool.true_or Bool.or_false Bool.false_or Option.toList_some Option.toList_none beq_add beq_add0 beq_add1 build_st buildS_cons bparts_nil
attribute [push_cast] bparts_c bp1_some fillR fillPV List.isEmpty_cons List.isEmpty_nil cells_sc cells_list cells_agg cells_ptr cells_arr cells_fn
attribute [push_cast] Option.getD_some Option.getD_none List.map_cons List.map_nil List.append_nil List.nil_append List.cons_append List.toList_toArray Bool.false_eq_true tcfg_P tcfg_Z List.getElem?_toArray
attribute [push_cast] List.getElem?_cons_zero List.getElem?_cons_succ Option.bind_some decide_true decide_false Bool.not_true Bool.not_false roundOf_normal forget_mk mask_t mask_f mask_n
attribute [push_cast] endF_nil endF_cons declR_no declR_some cnd_not cnd_l cnd_r mrg_nil mrg_cons mrgB_app mrgB_nil mrgB_cons
attribute [push_cast] cnd_normal cnd_exit cnd_ret cnd_int cnd_bool cnd_list cnd_agg cnd_tuple cnd_out cnd_tb cnd_bf cnd_fb
attribute [push_cast] cnd_bt filter_cnd cutB_cnd all_cnd retag_cnd under_cnd pick_b thenEv_c blockEv_c finR_c roundOf_c lpNext_c
attribute [push_cast] normalOf_c thenRo_c putR_c retP_c declR_c callR_c getAll_nil getAll_cons consR_some outG_some outH outI_t
attribute [push_cast] outI_f outJ underL_nil underL_cons noDup_nil noDup_cons lin_ro lin_full lin_slot lin_cell tagOf_sc tagOf_list
attribute [push_cast] tagOf_agg tagOf_ptr tagOf_arr tagOf_fn tag_rs tag_sr tag_rc tag_cr tag_fc tag_fr tag_rf exportL_nil
attribute [push_cast] exportL_cons packOut_one packOut_two packOut_nil outT_ro outT_full outT_slot outT_cell thaw_any export_any all_underI under_any
attribute [push_cast] under_arr under_eptr under_tuple ev_cond_tmp ev_cond_const condE_b go_some2 goS_some goE_no goE_un goE_bt goE_bf
attribute [push_cast] altG_c addL_c rdEnd_c join_c cutG_nil cutG_cons cutB_hi lt_add_f lt_self_f le_add_t List.filter_cons idx_list
attribute [push_cast] idxR_some idx_ptr idxA_arr idx_eptr idxE_arr index_agg idxV_arr slice_eq slcE_list slcR_some so_slice2 slS_slice
attribute [push_cast] slS_arr cut_lo cut_hi cut_lohi cut_himx cut_all conv_int convI_int conv_str convS_eq bytesOf_map sb_str
attribute [push_cast] sb_strn sb_shl sb_shr sb_or sb_and sb_xor un_neg mm_nil mm_min mm_max bin_agg eqR_eql
attribute [push_cast] eqR_neq eqc_nil eqc_int eqc_bool bin_ptr ptrNil_eql ptrNil_neq so_nilCheck2 nilR_ptr nilR_eptr nilR_fn newM_nil
attribute [push_cast] newM_0 newM_1 newM_2 newM_3 newM_4 newM_5 newM_6 newM_7 newM_8 List.all_append norm_nil2 nilZ_list
attribute [push_cast] assign_nil2 asg_full norm_tuple norm_any norm_un norm_cnd assign_any assign_un assign_tuple assign_cnd put_cnd assign_str
attribute [push_cast] len_l lenS_some len_arr lenA_some len_agg lenG_arr so_min2 so_max2 mmR_cons load_e ldE_agg ldE_one
attribute [push_cast] appD_full appD_slot appD_cell append_ll append_nl append_ln appL_some appT_full appT_slot appT_cell appC_some maxLenQ_eq
attribute [push_cast] Option.isSome_some Int.toNat_natCast Int.natCast_nonneg List.getElem?_map List.modify_zero_cons List.modify_succ_cons sb_quo sb_rem load_ptr load_ptr_agg List.contains_cons Bool.not_not
attribute [push_cast] Bool.or_self Bool.and_false Bool.false_and Bool.true_and
attribute [push_cast high] condEv_true condEv_false condE_t condE_f goE_tt goE_ff goE_tf goE_ft pick_true pick_false cnd_t cnd_f
attribute [push_cast high] cnd_same endF_any endF_sc mrgB_same callR_some
attribute [push_cast] rs2 cq2 rs3 cq3 klq3_4 klq3_2 klq3_0 rs4 cq4 klq4_0 rs5 cq5
attribute [push_cast] rs6 cq6 rs7 cq7 rs8 cq8 rs9 cq9 rs10 cq10 klq10_2 klq10_0
attribute [push_cast] rs11 cq11 klq11_0 rs12 cq12 klq12_0 rs13 cq13 rs14 cq14 klq14_2 klq14_0
attribute [push_cast] rs15 cq15 klq15_4 klq15_2 klq15_0 rs16 cq16 klq16_4 klq16_2 klq16_0 rs17 cq17
attribute [push_cast] klq17_4 klq17_2 klq17_0 rs18 cq18 rs19 cq19 rs20 cq20 klq20_2 klq20_0 rs21
attribute [push_cast] cq21 rs22 cq22 klq22_2 klq22_0 rs23 cq23 rs24 cq24 rs25 cq25 rs26
attribute [push_cast] cq26 rs27 cq27 rs28 cq28 rs29 cq29 rs30 cq30 rs31 cq31 klq31_2
attribute [push_cast] klq31_0 rs32 cq32 klq32_0 rs33 cq33 rs34 cq34 klq34_0 rs35 cq35 klq35_2
attribute [push_cast] klq35_0 rs36 cq36 klq36_6 klq36_4 klq36_2 klq36_0 rs37 cq37 rs38 cq38 rs39
attribute [push_cast] cq39 klq39_0 rs40 cq40 klq40_2 klq40_0 rs41 cq41 rs42 cq42 rs43 cq43
attribute [push_cast] rs44 cq44 klq44_0 rs45 cq45 klq45_2 rs46 cq46 klq46_5 klq46_1 klq46_3 rs47
attribute [push_cast] cq47 klq47_0 rs48 cq48 rs49 cq49 rs50 cq50 rs51 cq51 rs52 cq52
attribute [push_cast] rs53 cq53 klq53_2 klq53_0 rs54 cq54 klq54_0 rs55 cq55 klq55_0 rs56 cq56
attribute [push_cast] klq56_2 klq56_0 rs57 cq57 klq57_0 rs58 cq58 rs59 cq59 klq59_0 rs60 cq60
attribute [push_cast] rs61 cq61 klq61_0 rs62 cq62 rs63 cq63 klq63_1 rs64 cq64 klq64_0 rs65
attribute [push_cast] cq65 rs66 cq66 rs67 cq67 klq67_4 klq67_2 klq67_0 rs68 cq68 klq68_0 rs69
attribute [push_cast] cq69 klq69_0 rs70 cq70 rs71 cq71 klq71_2 klq71_0 rs72 cq72 klq72_3 klq72_0
attribute [push_cast] rs73 cq73 klq73_2 klq73_0 rs74 cq74 rs75 cq75 klq75_2 klq75_0 rs76 cq76
attribute [push_cast] klq76_2 klq76_0 rs77 cq77 klq77_2 klq77_0 rs78 cq78 klq78_6 klq78_4 klq78_2 klq78_0
attribute [push_cast] rs79 cq79 rs80 cq80 klq80_0 rs81 cq81 klq81_4 klq81_2 klq81_0 rs82 cq82
attribute [push_cast] rs83 cq83 rs84 cq84 rs85 cq85 rs86 cq86 klq86_0 rs87 cq87 klq87_2
attribute [push_cast] klq87_0 rs88 cq88 rs89 cq89 rs90 cq90 klq90_4 klq90_2 klq90_0 rs91 cq91
attribute [push_cast] klq91_0 rs92 cq92 rs93 cq93 rs94 cq94 rs95 cq95 rs96 cq96 rs97
attribute [push_cast] cq97 rs98 cq98 rs99 cq99 rs100 cq100 klq100_0 rs101 cq101 klq101_0 rs102
attribute [push_cast] cq102 klq102_2 klq102_0 rs103 cq103 klq103_0 rs104 cq104 rs105 cq105 rs106 cq106
attribute [push_cast] klq106_2 klq106_0 rs107 cq107 klq107_0 rs108 cq108 klq108_2 klq108_0 rs109 cq109 rs110
attribute [push_cast] cq110 klq110_0 rs111 cq111 klq111_0 rs112 cq112 rs113 cq113 klq113_0 rs114 cq114
attribute [push_cast] rs115 cq115 rs116 cq116 rs117 cq117 rs118 cq118 klq118_0 rs119 cq119 rs120
attribute [push_cast] cq120 rs121 cq121 klq121_2 klq121_0 rs122 cq122 klq122_0 rs123 cq123 klq123_1 rs124
attribute [push_cast] cq124 klq124_0 rs125 cq125 klq125_0 rs126 cq126 rs127 cq127 klq127_0 rs128 cq128
attribute [push_cast] rs129 cq129 klq129_1 rs130 cq130 rs131 cq131 klq131_0 rs132 cq132 rs133 cq133
attribute [push_cast] rs134 cq134 rs135 cq135 rs136 cq136 rs137 cq137 klq137_0 rs138 cq138 klq138_0
attribute [push_cast] rs139 cq139 rs140 cq140 klq140_0 rs141 cq141 klq141_0 rs142 cq142 klq142_0 rs143
attribute [push_cast] cq143 klq143_0 rs144 cq144 rs145 cq145 rs146 cq146 rs147 cq147 rs148 cq148
attribute [push_cast] klq148_2 klq148_0 rs149 cq149 rs150 cq150 rs151 cq151 klq151_2 klq151_0 rs152 cq152
attribute [push_cast] rs153 cq153 rs154 cq154 rs155 cq155 rs156 cq156 rs157 cq157 rs158 cq158
attribute [push_cast] rs159 cq159 rs160 cq160 rs161 cq161 klq161_0 rs162 cq162 klq162_0 rs163 cq163
attribute [push_cast] klq163_2 klq163_0 rs164 cq164 rs165 cq165 rs166 cq166 rs167 cq167 rs168 cq168
attribute [push_cast] klq168_1 rs169 cq169 klq169_0 rs170 cq170 rs171 cq171 klq171_1 rs172 cq172 rs173
attribute [push_cast] cq173 klq173_2 klq173_0 rs174 cq174 klq174_2 klq174_0 rs175 cq175 rs176 cq176 klq176_0
attribute [push_cast] rs177 cq177 rs178 cq178 klq178_0 rs179 cq179 klq179_0 rs180 cq180 klq180_0 rs181
attribute [push_cast] cq181 rs182 cq182 klq182_0 rs183 cq183 klq183_0 rs184 cq184 rs185 cq185 klq185_2
attribute [push_cast] klq185_0 rs186 cq186 klq186_0 rs187 cq187 rs188 cq188 rs189 cq189 klq189_2 klq189_0
attribute [push_cast] rs190 cq190 klq190_0 rs191 cq191 klq191_0 rs192 cq192 klq192_0 rs193 cq193 rs194
attribute [push_cast] cq194 klq194_0 rs195 cq195 klq195_0 rs196 cq196 rs197 cq197 rs198 cq198 rs199
attribute [push_cast] cq199 klq199_0 rs200 cq200 klq200_0 rs201 cq201 klq201_0 rs202 cq202 rs203 cq203
attribute [push_cast] rs204 cq204 rs205 cq205 rs206 cq206 rs207 cq207 rs208 cq208 rs209 cq209
attribute [push_cast] rs210 cq210 rs211 cq211 rs212 cq212 rs213 cq213 rs214 cq214 klq214_3 klq214_1
attribute [push_cast] rs215 cq215 rs216 cq216 klq216_0 rs217 cq217 rs218 cq218 klq218_0 rs219 cq219
attribute [push_cast] klq219_0 rs220 cq220 klq220_2 klq220_0 rs221 cq221 klq221_6 klq221_4 klq221_2 klq221_0 rs222
attribute [push_cast] cq222 rs223 cq223 rs224 cq224 rs225 cq225 rs226 cq226 rs227 cq227 rs228
attribute [push_cast] cq228 rs229 cq229 rs230 cq230 rs231 cq231 rs232 cq232 rs233 cq233 rs234
attribute [push_cast] cq234 rs235 cq235 rs236 cq236 klq236_0 rs237 cq237 klq237_0 rs238 cq238 rs239
attribute [push_cast] cq239 klq239_0 rs240 cq240 klq240_0 rs241 cq241 rs242 cq242 rs243 cq243 klq243_0
attribute [push_cast] rs244 cq244 klq244_1 rs245 cq245 klq245_0 pl3_4 pl3_13 pl3_21 pl4_13 pl5_7 pl9_6
attribute [push_cast] pl10_20 pl10_21 pl10_24 pl10_31 pl12_6 pl13_8 pl14_6 pl14_18 pl14_20 pl16_39 pl17_33 pl17_34
attribute [push_cast] pl17_36 pl19_5 pl19_6 pl21_8 pl22_9 pl22_19 pl31_11 pl31_12 pl32_6 pl38_3 pl38_4 pl38_5
attribute [push_cast] pl39_8 pl40_14 pl40_17 pl40_19 pl45_10 pl46_12 pl46_14 pl46_23 pl46_24 pl46_33 pl46_34 pl47_6
attribute [push_cast] pl57_5 pl61_7 pl65_1 pl66_8 pl67_7 pl67_11 pl67_12 pl67_26 pl69_4 pl73_11 pl73_13 pl75_9
attribute [push_cast] pl81_12 pl90_6 pl90_16 pl93_0 pl94_2 pl96_0 pl97_2 pl97_3 pl97_5 pl97_7 pl97_8 pl98_0
attribute [push_cast] pl100_6 pl101_6 pl102_7 pl102_12 pl103_1 pl103_8 pl106_16 pl106_21 pl110_14 pl111_5 pl113_10 pl113_11
attribute [push_cast] pl113_14 pl113_16 pl114_4 pl120_1 pl121_15 pl123_5 pl123_7 pl123_11 pl123_13 pl125_6 pl127_6 pl129_6
attribute [push_cast] pl129_10 pl130_6 pl132_1 pl132_3 pl138_1 pl138_7 pl139_2 pl140_1 pl140_2 pl140_8 pl142_6 pl143_6
attribute [push_cast] pl143_7 pl143_11 pl148_9 pl151_14 pl154_10 pl154_15 pl154_20 pl154_22 pl154_24 pl155_3 pl155_5 pl155_7
attribute [push_cast] pl157_0 pl158_2 pl159_0 pl160_0 pl170_8 pl170_11 pl171_7 pl171_9 pl171_13 pl171_21 pl178_6 pl179_6
attribute [push_cast] pl180_6 pl185_2 pl185_6 pl185_7 pl185_8 pl185_10 pl185_11 pl185_15 pl189_11 pl189_15 pl212_1 pl216_7
attribute [push_cast] pl217_1 pl217_2 pl218_1 pl218_5 pl219_9 pl225_1 pl226_1 pl228_1 pl230_1 pl234_1 pl240_8 pl241_1
attribute [push_cast] pl244_16 pl244_18 eqt55 eqt85 eqt73 eqt75 eqt88 Ty.c0 Ty.n0 Ty.b0 Ty.k0 Ty.a0
attribute [push_cast] Ty.z0 Ty.c1 Ty.n1 Ty.b1 Ty.k1 Ty.a1 Ty.z1 Ty.u3 Ty.c3 Ty.n3 Ty.b3 Ty.k3
attribute [push_cast] Ty.a3 Ty.z3 Ty.u4 Ty.c4 Ty.n4 Ty.b4 Ty.k4 Ty.a4 Ty.z4 Ty.u5 Ty.c5 Ty.n5
attribute [push_cast] Ty.b5 Ty.k5 Ty.a5 Ty.z5 Ty.u9 Ty.c9 Ty.n9 Ty.b9 Ty.k9 Ty.a9 Ty.z9 Ty.u21
attribute [push_cast] Ty.c21 Ty.n21 Ty.b21 Ty.k21 Ty.a21 Ty.z21 Ty.u22 Ty.el22 Ty.c22 Ty.n22 Ty.b22 Ty.k22
attribute [push_cast] Ty.a22 Ty.z22 Ty.u24 Ty.c24 Ty.n24 Ty.b24 Ty.k24 Ty.a24 Ty.z24 Ty.u26 Ty.c26 Ty.n26
attribute [push_cast] Ty.b26 Ty.k26 Ty.a26 Ty.z26 Ty.u29 Ty.el29 Ty.c29 Ty.n29 Ty.b29 Ty.k29 Ty.a29 Ty.z29
attribute [push_cast] Ty.s31 Ty.c31 Ty.n31 Ty.b31 Ty.k31 Ty.a31 Ty.z31 Ty.u32 Ty.el32 Ty.c32 Ty.n32 Ty.b32
attribute [push_cast] Ty.k32 Ty.a32 Ty.z32 Ty.s34 Ty.c34 Ty.n34 Ty.b34 Ty.k34 Ty.a34 Ty.z34 Ty.u36 Ty.c36
attribute [push_cast] Ty.n36 Ty.b36 Ty.k36 Ty.a36 Ty.z36 Ty.u38 Ty.c38 Ty.n38 Ty.b38 Ty.k38 Ty.a38 Ty.z38
attribute [push_cast] Ty.c39 Ty.n39 Ty.b39 Ty.k39 Ty.a39 Ty.z39 Ty.u43 Ty.el43 Ty.c43 Ty.n43 Ty.b43 Ty.k43
attribute [push_cast] Ty.a43 Ty.z43 Ty.u44 Ty.el44 Ty.c44 Ty.n44 Ty.b44 Ty.k44 Ty.a44 Ty.z44 Ty.u45 Ty.el45
attribute [push_cast] Ty.c45 Ty.n45 Ty.b45 Ty.k45 Ty.a45 Ty.z45 Ty.s47 Ty.c47 Ty.n47 Ty.b47 Ty.k47 Ty.a47
attribute [push_cast] Ty.z47 Ty.u49 Ty.el49 Ty.c49 Ty.n49 Ty.b49 Ty.k49 Ty.a49 Ty.z49 Ty.c50 Ty.n50 Ty.b50
attribute [push_cast] Ty.k50 Ty.a50 Ty.z50 Ty.c52 Ty.n52 Ty.b52 Ty.k52 Ty.a52 Ty.z52 Ty.s55 Ty.c55 Ty.n55
attribute [push_cast] Ty.b55 Ty.k55 Ty.a55 Ty.z55 Ty.u56 Ty.el56 Ty.c56 Ty.n56 Ty.b56 Ty.k56 Ty.a56 Ty.z56
attribute [push_cast] Ty.s58 Ty.c58 Ty.n58 Ty.b58 Ty.k58 Ty.a58 Ty.z58 Ty.c61 Ty.n61 Ty.b61 Ty.k61 Ty.a61
attribute [push_cast] Ty.z61 Ty.c65 Ty.n65 Ty.b65 Ty.k65 Ty.a65 Ty.z65 Ty.u69 Ty.el69 Ty.c69 Ty.n69 Ty.b69
attribute [push_cast] Ty.k69 Ty.a69 Ty.z69 Ty.u70 Ty.c70 Ty.n70 Ty.b70 Ty.k70 Ty.a70 Ty.z70 Ty.s72 Ty.c72
attribute [push_cast] Ty.n72 Ty.b72 Ty.k72 Ty.a72 Ty.z72 Ty.u73 Ty.c73 Ty.n73 Ty.b73 Ty.k73 Ty.a73 Ty.z73
attribute [push_cast] Ty.s75 Ty.c75 Ty.n75 Ty.b75 Ty.k75 Ty.a75 Ty.z75 Ty.u77 Ty.el77 Ty.c77 Ty.n77 Ty.b77
attribute [push_cast] Ty.k77 Ty.a77 Ty.z77 Ty.c78 Ty.n78 Ty.b78 Ty.k78 Ty.a78 Ty.z78 Ty.u83 Ty.c83 Ty.n83
attribute [push_cast] Ty.b83 Ty.k83 Ty.a83 Ty.z83 Ty.s85 Ty.c85 Ty.n85 Ty.b85 Ty.k85 Ty.a85 Ty.z85 Ty.s88
attribute [push_cast] Ty.c88 Ty.n88 Ty.b88 Ty.k88 Ty.a88 Ty.z88 Ty.s97 Ty.c97 Ty.n97 Ty.b97 Ty.k97 Ty.a97
attribute [push_cast] Ty.z97 Ty.c98 Ty.n98 Ty.b98 Ty.k98 Ty.a98 Ty.z98 Ty.c104 Ty.n104 Ty.b104 Ty.k104 Ty.a104
attribute [push_cast] Ty.z104 Ty.c107 Ty.n107 Ty.b107 Ty.k107 Ty.a107 Ty.z107 Ty.c112 Ty.n112 Ty.b112 Ty.k112 Ty.a112
attribute [push_cast] Ty.z112 Ty.s116 Ty.c116 Ty.n116 Ty.b116 Ty.k116 Ty.a116 Ty.z116 Ty.c118 Ty.n118 Ty.b118 Ty.k118
attribute [push_cast] Ty.a118 Ty.z118 Ty.s122 Ty.c122 Ty.n122 Ty.b122 Ty.k122 Ty.a122 Ty.z122 Ty.u124 Ty.c124 Ty.n124
attribute [push_cast] Ty.b124 Ty.k124 Ty.a124 Ty.z124 Ty.s126 Ty.c126 Ty.n126 Ty.b126 Ty.k126 Ty.a126 Ty.z126 Ty.c131
attribute [push_cast] Ty.n131 Ty.b131 Ty.k131 Ty.a131 Ty.z131 Ty.u133 Ty.c133 Ty.n133 Ty.b133 Ty.k133 Ty.a133 Ty.z133
attribute [push_cast] Ty.s135 Ty.c135 Ty.n135 Ty.b135 Ty.k135 Ty.a135 Ty.z135 Ty.c141 Ty.n141 Ty.b141 Ty.k141 Ty.a141
attribute [push_cast] Ty.z141 Ty.u142 Ty.c142 Ty.n142 Ty.b142 Ty.k142 Ty.a142 Ty.z142 Ty.s144 Ty.c144 Ty.n144 Ty.b144
attribute [push_cast] Ty.k144 Ty.a144 Ty.z144 Ty.s148 Ty.c148 Ty.n148 Ty.b148 Ty.k148 Ty.a148 Ty.z148 Ty.c155 Ty.n155
attribute [push_cast] Ty.b155 Ty.k155 Ty.a155 Ty.z155 Ty.s162 Ty.c162 Ty.n162 Ty.b162 Ty.k162 Ty.a162 Ty.z162 Ty.c163
attribute [push_cast] Ty.n163 Ty.b163 Ty.k163 Ty.a163 Ty.z163 Ty.u169 Ty.el169 Ty.c169 Ty.n169 Ty.b169 Ty.k169 Ty.a169
attribute [push_cast] Ty.z169 Ty.u170 Ty.c170 Ty.n170 Ty.b170 Ty.k170 Ty.a170 Ty.z170 Ty.s172 Ty.c172 Ty.n172 Ty.b172
attribute [push_cast] Ty.k172 Ty.a172 Ty.z172 Ty.s174 Ty.c174 Ty.n174 Ty.b174 Ty.k174 Ty.a174 Ty.z174 Ty.c175 Ty.n175
attribute [push_cast] Ty.b175 Ty.k175 Ty.a175 Ty.z175 Ty.u179 Ty.c179 Ty.n179 Ty.b179 Ty.k179 Ty.a179 Ty.z179 Ty.u180
attribute [push_cast] Ty.c180 Ty.n180 Ty.b180 Ty.k180 Ty.a180 Ty.z180 Ty.s182 Ty.c182 Ty.n182 Ty.b182 Ty.k182 Ty.a182
attribute [push_cast] Ty.z182 Ty.c183 Ty.n183 Ty.b183 Ty.k183 Ty.a183 Ty.z183 Ty.u185 Ty.c185 Ty.n185 Ty.b185 Ty.k185
attribute [push_cast] Ty.a185 Ty.z185 Ty.u187 Ty.el187 Ty.c187 Ty.n187 Ty.b187 Ty.k187 Ty.a187 Ty.z187 Ty.c188 Ty.n188
attribute [push_cast] Ty.b188 Ty.k188 Ty.a188 Ty.z188 Ty.c190 Ty.n190 Ty.b190 Ty.k190 Ty.a190 Ty.z190 Ty.c194 Ty.n194
attribute [push_cast] Ty.b194 Ty.k194 Ty.a194 Ty.z194 Ty.c195 Ty.n195 Ty.b195 Ty.k195 Ty.a195 Ty.z195 Ty.c202 Ty.n202
attribute [push_cast] Ty.b202 Ty.k202 Ty.a202 Ty.z202 Ty.c203 Ty.n203 Ty.b203 Ty.k203 Ty.a203 Ty.z203 Ty.u205 Ty.el205
attribute [push_cast] Ty.c205 Ty.n205 Ty.b205 Ty.k205 Ty.a205 Ty.z205 Ty.c206 Ty.n206 Ty.b206 Ty.k206 Ty.a206 Ty.z206
attribute [push_cast] Ty.u208 Ty.c208 Ty.n208 Ty.b208 Ty.k208 Ty.a208 Ty.z208 Ty.u209 Ty.c209 Ty.n209 Ty.b209 Ty.k209
attribute [push_cast] Ty.a209 Ty.z209 Ty.s211 Ty.c211 Ty.n211 Ty.b211 Ty.k211 Ty.a211 Ty.z211 Ty.u212 Ty.c212 Ty.n212
attribute [push_cast] Ty.b212 Ty.k212 Ty.a212 Ty.z212 Ty.u214 Ty.c214 Ty.n214 Ty.b214 Ty.k214 Ty.a214 Ty.z214 Ty.s219
attribute [push_cast] Ty.c219 Ty.n219 Ty.b219 Ty.k219 Ty.a219 Ty.z219 Ty.c222 Ty.n222 Ty.b222 Ty.k222 Ty.a222 Ty.z222
attribute [push_cast] Ty.c224 Ty.n224 Ty.b224 Ty.k224 Ty.a224 Ty.z224 Ty.c228 Ty.n228 Ty.b228 Ty.k228 Ty.a228 Ty.z228
attribute [push_cast] Ty.c230 Ty.n230 Ty.b230 Ty.k230 Ty.a230 Ty.z230 Ty.c236 Ty.n236 Ty.b236 Ty.k236 Ty.a236 Ty.z236
attribute [push_cast] Ty.s238 Ty.c238 Ty.n238 Ty.b238 Ty.k238 Ty.a238 Ty.z238 Ty.c239 Ty.n239 Ty.b239 Ty.k239 Ty.a239
attribute [push_cast] Ty.z239 Ty.c243 Ty.n243 Ty.b243 Ty.k243 Ty.a243 Ty.z243 Ty.c245 Ty.n245 Ty.b245 Ty.k245 Ty.a245
attribute [push_cast] Ty.z245 Ty.u247 Ty.c247 Ty.n247 Ty.b247 Ty.k247 Ty.a247 Ty.z247 Ty.c249 Ty.n249 Ty.b249 Ty.k249
attribute [push_cast] Ty.a249 Ty.z249 Ty.u250 Ty.c250 Ty.n250 Ty.b250 Ty.k250 Ty.a250 Ty.z250 Ty.c257 Ty.n257 Ty.b257
attribute [push_cast] Ty.k257 Ty.a257 Ty.z257 Ty.ff31_0 Ty.ff31_1 Ty.ff34_0 Ty.ff34_1 Ty.ff34_2 Ty.ff34_3 Ty.ff47_0 Ty.ff47_1 Ty.ff47_2
attribute [push_cast] Ty.ff55_0 Ty.ff55_1 Ty.ff55_2 Ty.ff58_0 Ty.ff58_1 Ty.ff58_2 Ty.ff58_3 Ty.ff58_4 Ty.ff58_5 Ty.ff58_6 Ty.ff58_7 Ty.ff58_8
attribute [push_cast] Ty.ff58_9 Ty.ff58_10 Ty.ff58_11 Ty.ff72_0 Ty.ff72_1 Ty.ff72_2 Ty.ff75_0 Ty.ff75_1 Ty.ff75_2 Ty.ff75_3 Ty.ff75_4 Ty.ff75_5
attribute [push_cast] Ty.ff75_6 Ty.ff75_7 Ty.ff75_8 Ty.ff75_9 Ty.ff75_10 Ty.ff85_0 Ty.ff85_1 Ty.ff88_0 Ty.ff88_1 Ty.ff88_2 Ty.ff88_3 Ty.ff97_0
attribute [push_cast] Ty.ff97_1 Ty.ff97_2 Ty.ff97_3 Ty.ff116_0 Ty.ff122_0 Ty.ff122_1 Ty.ff126_0 Ty.ff135_0 Ty.ff135_1 Ty.ff144_0 Ty.ff144_1 Ty.ff144_2
attribute [push_cast] Ty.ff148_0 Ty.ff162_0 Ty.ff162_1 Ty.ff162_2 Ty.ff162_3 Ty.ff162_4 Ty.ff162_5 Ty.ff172_0 Ty.ff172_1 Ty.ff172_2 Ty.ff174_0 Ty.ff174_1
attribute [push_cast] Ty.ff174_2 Ty.ff174_3 Ty.ff174_4 Ty.ff174_5 Ty.ff174_6 Ty.ff174_7 Ty.ff182_0 Ty.ff182_1 Ty.ff211_0 Ty.ff211_1 Ty.ff211_2 Ty.ff211_3
attribute [push_cast] Ty.ff219_0 Ty.ff219_1 Ty.ff219_2 Ty.ff238_0 Ty.ff238_1 Ty.ff238_2 Ty.ff238_3 Ty.ff238_4 Ty.ff238_5 Ty.ff238_6 Ty.ff238_7 Ty.fo31_0
attribute [push_cast] Ty.fo47_0 Ty.fo47_1 Ty.fo47_2 Ty.fo55_0 Ty.fo55_1 Ty.fo55_2 Ty.fo58_0 Ty.fo58_1 Ty.fo58_6 Ty.fo72_0 Ty.fo72_1 Ty.fo75_0
attribute [push_cast] Ty.fo75_1 Ty.fo75_2 Ty.fo75_3 Ty.fo75_4 Ty.fo75_5 Ty.fo75_6 Ty.fo75_7 Ty.fo85_0 Ty.fo85_1 Ty.fo88_0 Ty.fo88_1 Ty.fo88_2
attribute [push_cast] Ty.fo88_3 Ty.fo116_0 Ty.fo122_0 Ty.fo122_1 Ty.fo135_0 Ty.fo144_0 Ty.fo162_0 Ty.fo162_1 Ty.fo162_2 Ty.fo162_3 Ty.fo162_4 Ty.fo172_0
attribute [push_cast] Ty.fo172_1 Ty.fo172_2 Ty.fo174_0 Ty.fo174_1 Ty.fo174_4 Ty.fo174_5 Ty.fo182_0 Ty.fo211_0 Ty.fo211_1 Ty.fo211_2 Ty.fo211_3 Ty.fo219_0
attribute [push_cast] Ty.fo219_1 Ty.fo219_2 Ty.fo238_0 Ty.fo238_6 Ty.fo238_7
end Go.Q
