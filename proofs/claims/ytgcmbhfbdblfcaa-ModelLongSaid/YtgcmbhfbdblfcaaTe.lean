/-
  slices.Clone.
-/
import Derived.Test.YtgcmbhfbdblfcaaTd
import Derived.Test.YtgcmbhfbdblfcaaQu
set_option linter.unusedVariables false
set_option linter.unusedSimpArgs false
set_option maxHeartbeats 4000000
namespace Go.Q
open Go.Proofs

theorem nilq_run {P : Program} {t e : TypeId} (hu : P.underlying t = some (.slice e)) (a : Option Addr) (n c : Nat) (ox oy : Operand) (w : World) :
    (do eqGuard .eql t ox oy (.slice a n c) (.slice none 0 0); binOp .eql t (.slice a n c) (.slice none 0 0) : Sem Value).run P w = .ok (.bool a.isNone) w := by
  have h : ∀ d, (Op.equalIn (d + 1) t (.slice a n c) (.slice none 0 0)).run P w = .ok a.isNone w := by
    intro d
    cases a <;> simp [Op.equalIn, run_und hu]
  have h2 : (Op.equalIn 10000 t (.slice a n c) (.slice none 0 0)).run P w = .ok a.isNone w := h 9999
  simp [eqGuard, binOp, Op.equal, Op.maxDepth, h2]

def call0 : CallF := fun _ _ _ => none
theorem call0_ok : CallsOK tcfg call0 := fun k a B o h => by cases h
theorem call0_grow : CallGrow call0 := fun k a B o h => by cases h

theorem step_of_run {P : Program} {w : World} {a : Act} {o : Oper} {v : Value} (hrun : (execOp a.eval o).run P w = .ok (.value v) w) {K : Act → World → Prop} {Q : Exit → Act → World → Prop} (hK : K (a.put o.dst v) w) : o.wp P a w K Q := by
  unfold Oper.wp
  rw [hrun]
  exact hK

def cBody (fn : Func) : Code := fn.body.getD .skip
def cFst : Code → Code | .seq a _ => a | c => c
def cSnd : Code → Code | .seq _ b => b | c => c
def cThen : Code → Code | .cond _ a _ => a | c => c
def cOps : Code → Array Oper | .region _ o _ => o | _ => #[]
def cl0 (fn : Func) : Array Oper := cOps (cFst (cBody fn))
def cl1 (fn : Func) : Array Oper := cOps (cFst (cFst (cSnd (cBody fn))))
def cl2 (fn : Func) : Array Oper := cOps (cFst (cThen (cSnd (cFst (cSnd (cBody fn))))))
def cl3 (fn : Func) : Array Oper := cOps (cFst (cSnd (cSnd (cBody fn))))
/-- What the evaluator says of its pieces. -/
structure ClE (k : Nat) (fn : Func) (t sz : Nat) (a b : Oper) : Prop where
  get : Try.prog.funcs[k]? = some fn
  body : fn.body = some (.seq (.region 0 (cl0 fn) false) (.seq (.seq (.region 1 (cl1 fn) false) (.cond (.tmp 4) (.seq (.region 2 (cl2 fn) false) .ret) .skip)) (.seq (.region 3 (cl3 fn) false) .ret)))
  r1 : cl1 fn = #[a, b]
  bop : b.op = .binOp .eql t (.tmp 3) (.const (.slice none 0 0)) t
  bdst : b.dst = some 4
  bg : b.guard = none
  tmps : fn.ntmps = 8
  under : ∃ e, Try.prog.underlying t = some (.slice e)
  e0 : ∀ g xs B, ∃ g1, evalCode tcfg call0 k (.region 0 (cl0 fn) false) 0 ⟨[.list sz g xs, .any, .any, .any, .any, .any, .any, .any], B, [], []⟩ = some (.normal, ⟨[.list sz g1 xs, .any, .list sz (.slot 2 0) [], .any, .any, .any, .any, .any], B, [], []⟩)
  e1 : ∀ g xs B, ∃ g1 g2, guardOp tcfg call0 k #[a, b] a ⟨[.list sz g xs, .any, .list sz (.slot 2 0) [], .any, .any, .any, .any, .any], B, [], []⟩ = some ⟨[.list sz g1 xs, .any, .list sz (.slot 2 0) [], .list sz g2 xs, .any, .any, .any, .any], B, [], []⟩
  e2 : ∀ g1 g2 B, ∃ f2, evalCode tcfg call0 k (.seq (.region 2 (cl2 fn) false) .ret) 0 ⟨[.list sz g1 [], .any, .list sz (.slot 2 0) [], .list sz g2 [], .sc (.bool true), .any, .any, .any], B, [], []⟩ = some (.ret, ⟨f2, B, [], []⟩) ∧ results tcfg fn k B.length ⟨f2, B, [], []⟩ = some ⟨.list sz (.slot 0 0) [], B, []⟩
  e3 : ∀ g1 g2 xs B, xs.length ≤ maxLenQ → xs.all (PV.under B.length) = true → ∃ f2, evalCode tcfg call0 k (.seq (.region 3 (cl3 fn) false) .ret) 0 ⟨[.list sz g1 xs, .any, .list sz (.slot 2 0) [], .list sz g2 xs, .sc (.bool false), .any, .any, .any], B, [], []⟩ = some (.ret, ⟨f2, B, [], []⟩) ∧ results tcfg fn k B.length ⟨f2, B, [], []⟩ = some ⟨.list sz (.slot 0 0) xs, B, []⟩
theorem clE82 : ∃ a b, ClE 82 Try.f82 32 1 a b := by
  refine ⟨_, _, ⟨Try.func82, rfl, rfl, rfl, rfl, rfl, rfl, ⟨38, by kernel_rfl⟩, ?_, ?_, ?_, ?_⟩⟩
  · intro g xs B
    simp only [cl0, cBody, cFst, cSnd, cThen, cOps, Option.getD_some, Try.f82, evalCode, runOps, guardOp, stepOp, Bool.false_eq_true, if_false, push_cast, reduceCtorEq, List.reduceReplicate, Nat.reduceBEq, Nat.reduceAdd, Nat.reduceSub, Nat.reduceMul, Nat.reduceLT, Nat.reduceLeDiff, ↓reduceIte, Int.reduceNeg, Int.reduceLT, Int.reduceLE, Int.reduceAdd, Int.reduceSub, Int.reduceMul, Int.reduceToNat, Int.reduceNegSucc, Nat.reduceSucc, Int.reduceEq, Nat.reduceEqDiff, Int.reduceBEq, Int.reduceBNe]
    exact ⟨_, rfl⟩
  · intro g xs B
    simp only [runOps, guardOp, stepOp, pureOp, Option.map_some, push_cast, reduceCtorEq, List.reduceReplicate, Nat.reduceBEq, Nat.reduceAdd, Nat.reduceSub, Nat.reduceMul, Nat.reduceLT, Nat.reduceLeDiff, ↓reduceIte, Int.reduceNeg, Int.reduceLT, Int.reduceLE, Int.reduceAdd, Int.reduceSub, Int.reduceMul, Int.reduceToNat, Int.reduceNegSucc, Nat.reduceSucc, Int.reduceEq, Nat.reduceEqDiff, Int.reduceBEq, Int.reduceBNe]
    exact ⟨_, _, rfl⟩
  · intro g1 g2 B
    have h : evalCode tcfg call0 82 (.seq (.region 2 (cl2 Try.f82) false) .ret) 0 = ev 82 (.seq (.region 2 (cl2 Try.f82) false) .ret) 0 := funext fun s => by
      simp only [cl2, cBody, cFst, cSnd, cThen, cOps, Option.getD_some, Try.f82, ev, evalCode, runOps, guardOp, stepOp, Bool.false_eq_true, if_false]
    have hc : cl2 Try.f82 = (cl2 Try.f82) := rfl
    rw [h]
    conv at hc => rhs; simp only [cl2, cBody, cFst, cSnd, cThen, cOps, Option.getD_some, Try.f82]
    rw [hc]
    simp only [push_cast, reduceCtorEq, List.reduceReplicate, Nat.reduceBEq, Nat.reduceAdd, Nat.reduceSub, Nat.reduceMul, Nat.reduceLT, Nat.reduceLeDiff, ↓reduceIte, Int.reduceNeg, Int.reduceLT, Int.reduceLE, Int.reduceAdd, Int.reduceSub, Int.reduceMul, Int.reduceToNat, Int.reduceNegSucc, Nat.reduceSucc, Int.reduceEq, Nat.reduceEqDiff, Int.reduceBEq, Int.reduceBNe]
    refine ⟨_, rfl, ?_⟩
    simp only [push_cast, reduceCtorEq, List.reduceReplicate, Nat.reduceBEq, Nat.reduceAdd, Nat.reduceSub, Nat.reduceMul, Nat.reduceLT, Nat.reduceLeDiff, ↓reduceIte, Int.reduceNeg, Int.reduceLT, Int.reduceLE, Int.reduceAdd, Int.reduceSub, Int.reduceMul, Int.reduceToNat, Int.reduceNegSucc, Nat.reduceSucc, Int.reduceEq, Nat.reduceEqDiff, Int.reduceBEq, Int.reduceBNe]
  · intro g1 g2 xs B hl hu
    have h : evalCode tcfg call0 82 (.seq (.region 3 (cl3 Try.f82) false) .ret) 0 = ev 82 (.seq (.region 3 (cl3 Try.f82) false) .ret) 0 := funext fun s => by
      simp only [cl3, cBody, cFst, cSnd, cThen, cOps, Option.getD_some, Try.f82, ev, evalCode, runOps, guardOp, stepOp, Bool.false_eq_true, if_false]
    have hc : cl3 Try.f82 = (cl3 Try.f82) := rfl
    rw [h]
    conv at hc => rhs; simp only [cl3, cBody, cFst, cSnd, cThen, cOps, Option.getD_some, Try.f82]
    rw [hc]
    have hl' : xs.length ≤ 4294967296 := hl
    simp only [push_cast, reduceCtorEq, List.reduceReplicate, Nat.reduceBEq, Nat.reduceAdd, Nat.reduceSub, Nat.reduceMul, Nat.reduceLT, Nat.reduceLeDiff, ↓reduceIte, Int.reduceNeg, Int.reduceLT, Int.reduceLE, Int.reduceAdd, Int.reduceSub, Int.reduceMul, Int.reduceToNat, Int.reduceNegSucc, Nat.reduceSucc, Int.reduceEq, Nat.reduceEqDiff, Int.reduceBEq, Int.reduceBNe, hl']
    refine ⟨_, rfl, ?_⟩
    simp only [push_cast, reduceCtorEq, List.reduceReplicate, Nat.reduceBEq, Nat.reduceAdd, Nat.reduceSub, Nat.reduceMul, Nat.reduceLT, Nat.reduceLeDiff, ↓reduceIte, Int.reduceNeg, Int.reduceLT, Int.reduceLE, Int.reduceAdd, Int.reduceSub, Int.reduceMul, Int.reduceToNat, Int.reduceNegSucc, Nat.reduceSucc, Int.reduceEq, Nat.reduceEqDiff, Int.reduceBEq, Int.reduceBNe, hu]
theorem clE175 : ∃ a b, ClE 175 Try.f175 49 1 a b := by
  refine ⟨_, _, ⟨Try.func175, rfl, rfl, rfl, rfl, rfl, rfl, ⟨5, by kernel_rfl⟩, ?_, ?_, ?_, ?_⟩⟩
  · intro g xs B
    simp only [cl0, cBody, cFst, cSnd, cThen, cOps, Option.getD_some, Try.f175, evalCode, runOps, guardOp, stepOp, Bool.false_eq_true, if_false, push_cast, reduceCtorEq, List.reduceReplicate, Nat.reduceBEq, Nat.reduceAdd, Nat.reduceSub, Nat.reduceMul, Nat.reduceLT, Nat.reduceLeDiff, ↓reduceIte, Int.reduceNeg, Int.reduceLT, Int.reduceLE, Int.reduceAdd, Int.reduceSub, Int.reduceMul, Int.reduceToNat, Int.reduceNegSucc, Nat.reduceSucc, Int.reduceEq, Nat.reduceEqDiff, Int.reduceBEq, Int.reduceBNe]
    exact ⟨_, rfl⟩
  · intro g xs B
    simp only [runOps, guardOp, stepOp, pureOp, Option.map_some, push_cast, reduceCtorEq, List.reduceReplicate, Nat.reduceBEq, Nat.reduceAdd, Nat.reduceSub, Nat.reduceMul, Nat.reduceLT, Nat.reduceLeDiff, ↓reduceIte, Int.reduceNeg, Int.reduceLT, Int.reduceLE, Int.reduceAdd, Int.reduceSub, Int.reduceMul, Int.reduceToNat, Int.reduceNegSucc, Nat.reduceSucc, Int.reduceEq, Nat.reduceEqDiff, Int.reduceBEq, Int.reduceBNe]
    exact ⟨_, _, rfl⟩
  · intro g1 g2 B
    have h : evalCode tcfg call0 175 (.seq (.region 2 (cl2 Try.f175) false) .ret) 0 = ev 175 (.seq (.region 2 (cl2 Try.f175) false) .ret) 0 := funext fun s => by
      simp only [cl2, cBody, cFst, cSnd, cThen, cOps, Option.getD_some, Try.f175, ev, evalCode, runOps, guardOp, stepOp, Bool.false_eq_true, if_false]
    have hc : cl2 Try.f175 = (cl2 Try.f175) := rfl
    rw [h]
    conv at hc => rhs; simp only [cl2, cBody, cFst, cSnd, cThen, cOps, Option.getD_some, Try.f175]
    rw [hc]
    simp only [push_cast, reduceCtorEq, List.reduceReplicate, Nat.reduceBEq, Nat.reduceAdd, Nat.reduceSub, Nat.reduceMul, Nat.reduceLT, Nat.reduceLeDiff, ↓reduceIte, Int.reduceNeg, Int.reduceLT, Int.reduceLE, Int.reduceAdd, Int.reduceSub, Int.reduceMul, Int.reduceToNat, Int.reduceNegSucc, Nat.reduceSucc, Int.reduceEq, Nat.reduceEqDiff, Int.reduceBEq, Int.reduceBNe]
    refine ⟨_, rfl, ?_⟩
    simp only [push_cast, reduceCtorEq, List.reduceReplicate, Nat.reduceBEq, Nat.reduceAdd, Nat.reduceSub, Nat.reduceMul, Nat.reduceLT, Nat.reduceLeDiff, ↓reduceIte, Int.reduceNeg, Int.reduceLT, Int.reduceLE, Int.reduceAdd, Int.reduceSub, Int.reduceMul, Int.reduceToNat, Int.reduceNegSucc, Nat.reduceSucc, Int.reduceEq, Nat.reduceEqDiff, Int.reduceBEq, Int.reduceBNe]
  · intro g1 g2 xs B hl hu
    have h : evalCode tcfg call0 175 (.seq (.region 3 (cl3 Try.f175) false) .ret) 0 = ev 175 (.seq (.region 3 (cl3 Try.f175) false) .ret) 0 := funext fun s => by
      simp only [cl3, cBody, cFst, cSnd, cThen, cOps, Option.getD_some, Try.f175, ev, evalCode, runOps, guardOp, stepOp, Bool.false_eq_true, if_false]
    have hc : cl3 Try.f175 = (cl3 Try.f175) := rfl
    rw [h]
    conv at hc => rhs; simp only [cl3, cBody, cFst, cSnd, cThen, cOps, Option.getD_some, Try.f175]
    rw [hc]
    have hl' : xs.length ≤ 4294967296 := hl
    simp only [push_cast, reduceCtorEq, List.reduceReplicate, Nat.reduceBEq, Nat.reduceAdd, Nat.reduceSub, Nat.reduceMul, Nat.reduceLT, Nat.reduceLeDiff, ↓reduceIte, Int.reduceNeg, Int.reduceLT, Int.reduceLE, Int.reduceAdd, Int.reduceSub, Int.reduceMul, Int.reduceToNat, Int.reduceNegSucc, Nat.reduceSucc, Int.reduceEq, Nat.reduceEqDiff, Int.reduceBEq, Int.reduceBNe, hl']
    refine ⟨_, rfl, ?_⟩
    simp only [push_cast, reduceCtorEq, List.reduceReplicate, Nat.reduceBEq, Nat.reduceAdd, Nat.reduceSub, Nat.reduceMul, Nat.reduceLT, Nat.reduceLeDiff, ↓reduceIte, Int.reduceNeg, Int.reduceLT, Int.reduceLE, Int.reduceAdd, Int.reduceSub, Int.reduceMul, Int.reduceToNat, Int.reduceNegSucc, Nat.reduceSucc, Int.reduceEq, Nat.reduceEqDiff, Int.reduceBEq, Int.reduceBNe, hu]
theorem clE204 : ∃ a b, ClE 204 Try.f204 43 4 a b := by
  refine ⟨_, _, ⟨Try.func204, rfl, rfl, rfl, rfl, rfl, rfl, ⟨85, by kernel_rfl⟩, ?_, ?_, ?_, ?_⟩⟩
  · intro g xs B
    simp only [cl0, cBody, cFst, cSnd, cThen, cOps, Option.getD_some, Try.f204, evalCode, runOps, guardOp, stepOp, Bool.false_eq_true, if_false, push_cast, reduceCtorEq, List.reduceReplicate, Nat.reduceBEq, Nat.reduceAdd, Nat.reduceSub, Nat.reduceMul, Nat.reduceLT, Nat.reduceLeDiff, ↓reduceIte, Int.reduceNeg, Int.reduceLT, Int.reduceLE, Int.reduceAdd, Int.reduceSub, Int.reduceMul, Int.reduceToNat, Int.reduceNegSucc, Nat.reduceSucc, Int.reduceEq, Nat.reduceEqDiff, Int.reduceBEq, Int.reduceBNe]
    exact ⟨_, rfl⟩
  · intro g xs B
    simp only [runOps, guardOp, stepOp, pureOp, Option.map_some, push_cast, reduceCtorEq, List.reduceReplicate, Nat.reduceBEq, Nat.reduceAdd, Nat.reduceSub, Nat.reduceMul, Nat.reduceLT, Nat.reduceLeDiff, ↓reduceIte, Int.reduceNeg, Int.reduceLT, Int.reduceLE, Int.reduceAdd, Int.reduceSub, Int.reduceMul, Int.reduceToNat, Int.reduceNegSucc, Nat.reduceSucc, Int.reduceEq, Nat.reduceEqDiff, Int.reduceBEq, Int.reduceBNe]
    exact ⟨_, _, rfl⟩
  · intro g1 g2 B
    have h : evalCode tcfg call0 204 (.seq (.region 2 (cl2 Try.f204) false) .ret) 0 = ev 204 (.seq (.region 2 (cl2 Try.f204) false) .ret) 0 := funext fun s => by
      simp only [cl2, cBody, cFst, cSnd, cThen, cOps, Option.getD_some, Try.f204, ev, evalCode, runOps, guardOp, stepOp, Bool.false_eq_true, if_false]
    have hc : cl2 Try.f204 = (cl2 Try.f204) := rfl
    rw [h]
    conv at hc => rhs; simp only [cl2, cBody, cFst, cSnd, cThen, cOps, Option.getD_some, Try.f204]
    rw [hc]
    simp only [push_cast, reduceCtorEq, List.reduceReplicate, Nat.reduceBEq, Nat.reduceAdd, Nat.reduceSub, Nat.reduceMul, Nat.reduceLT, Nat.reduceLeDiff, ↓reduceIte, Int.reduceNeg, Int.reduceLT, Int.reduceLE, Int.reduceAdd, Int.reduceSub, Int.reduceMul, Int.reduceToNat, Int.reduceNegSucc, Nat.reduceSucc, Int.reduceEq, Nat.reduceEqDiff, Int.reduceBEq, Int.reduceBNe]
    refine ⟨_, rfl, ?_⟩
    simp only [push_cast, reduceCtorEq, List.reduceReplicate, Nat.reduceBEq, Nat.reduceAdd, Nat.reduceSub, Nat.reduceMul, Nat.reduceLT, Nat.reduceLeDiff, ↓reduceIte, Int.reduceNeg, Int.reduceLT, Int.reduceLE, Int.reduceAdd, Int.reduceSub, Int.reduceMul, Int.reduceToNat, Int.reduceNegSucc, Nat.reduceSucc, Int.reduceEq, Nat.reduceEqDiff, Int.reduceBEq, Int.reduceBNe]
  · intro g1 g2 xs B hl hu
    have h : evalCode tcfg call0 204 (.seq (.region 3 (cl3 Try.f204) false) .ret) 0 = ev 204 (.seq (.region 3 (cl3 Try.f204) false) .ret) 0 := funext fun s => by
      simp only [cl3, cBody, cFst, cSnd, cThen, cOps, Option.getD_some, Try.f204, ev, evalCode, runOps, guardOp, stepOp, Bool.false_eq_true, if_false]
    have hc : cl3 Try.f204 = (cl3 Try.f204) := rfl
    rw [h]
    conv at hc => rhs; simp only [cl3, cBody, cFst, cSnd, cThen, cOps, Option.getD_some, Try.f204]
    rw [hc]
    have hl' : xs.length ≤ 4294967296 := hl
    simp only [push_cast, reduceCtorEq, List.reduceReplicate, Nat.reduceBEq, Nat.reduceAdd, Nat.reduceSub, Nat.reduceMul, Nat.reduceLT, Nat.reduceLeDiff, ↓reduceIte, Int.reduceNeg, Int.reduceLT, Int.reduceLE, Int.reduceAdd, Int.reduceSub, Int.reduceMul, Int.reduceToNat, Int.reduceNegSucc, Nat.reduceSucc, Int.reduceEq, Nat.reduceEqDiff, Int.reduceBEq, Int.reduceBNe, hl']
    refine ⟨_, rfl, ?_⟩
    simp only [push_cast, reduceCtorEq, List.reduceReplicate, Nat.reduceBEq, Nat.reduceAdd, Nat.reduceSub, Nat.reduceMul, Nat.reduceLT, Nat.reduceLeDiff, ↓reduceIte, Int.reduceNeg, Int.reduceLT, Int.reduceLE, Int.reduceAdd, Int.reduceSub, Int.reduceMul, Int.reduceToNat, Int.reduceNegSucc, Nat.reduceSucc, Int.reduceEq, Nat.reduceEqDiff, Int.reduceBEq, Int.reduceBNe, hu]
theorem Grow.refl' (f f' : List PV) {B : List (List PV)} : Grow ⟨f, B, [], []⟩ ⟨f', B, [], []⟩ := ⟨[], rfl, Nat.le_refl _, fun n hn id hid _ h => h⟩
theorem clone_ok {k : Nat} {fn : Func} {t sz : Nat} {oa ob : Oper} (E : ClE k fn t sz oa ob) (g : Tag) (xs : List PV) (B : List (List PV)) (hl : xs.length ≤ maxLenQ) :
    ACall tcfg k [.list sz g xs] B ⟨.list sz (.slot 0 0) xs, B, []⟩ := by
  refine ⟨⟨rfl, rfl⟩, ⟨fn, E.get, by rw [E.body]; rfl⟩, fun κ w vs hc hr ht hz => ?_⟩
  obtain ⟨e, hu⟩ := E.under
  refine calls_of_wp E.get E.body ?_
  have hlen := hr.len
  have hi : Inv κ.frz κ w ⟨[.list sz g xs, .any, .any, .any, .any, .any, .any, .any], B, [], []⟩ { tmps := vs.toArray ++ Array.replicate (fn.ntmps - vs.toArray.size) undef, defers := [] } :=
    ⟨hc, by have := FrameRel.start hr ht fn.ntmps; rw [E.tmps] at this; rw [E.tmps]; exact this, fun id hid => .inr hid, rfl⟩
  have hunder : xs.all (PV.under B.length) = true := by
    obtain ⟨v, rfl⟩ : ∃ v, vs = [v] := List.length_eq_one_iff.1 hlen.symm
    have := (hr.at_ 0 _ v rfl rfl).under (n := B.length) fun id b hb => (hc.mu id b hb).1
    simpa [PV.under, PV.underL_eq] using this
  have hB : ∀ id, κ.frz id → id < B.length := fun id hf => hc.frzLt id hf
  have hG : GrowB [] B B := by
    refine ⟨Nat.le_refl _, fun n hn id hid _ h => h⟩
  have fin : ∀ (f2 : List PV) (κ' : Kap) (w' : World) (a' : Act), Inv κ.frz κ' w' ⟨f2, B, [], []⟩ a' → Moved κ w ⟨[.list sz g xs, .any, .any, .any, .any, .any, .any, .any], B, [], []⟩ ⟨f2, B, [], []⟩ κ' w' → results tcfg fn k B.length ⟨f2, B, [], []⟩ = some ⟨.list sz (.slot 0 0) xs, B, []⟩ → bodyPost tcfg.P fn (fun e w' => ∃ v κ', e = .returned v ∧ Post κ w B.length [] κ' w' ∧ Conc κ' w' B ∧ Rep κ' w' (.list sz (.slot 0 0) xs) v ∧ TagsOK κ' w' (.list sz (.slot 0 0) xs) v ∧ (∀ id, κ'.frz id → κ.frz id)) .ret a' w' := by
    intro f2 κ' w' a' hi' hm hres
    obtain ⟨nm, e, hp⟩ := hm.ex
    have e : nm = [] := by simpa using e.symm
    subst e
    obtain ⟨_, v, κ2, hrun, r1, r2, r3, r4, r5⟩ := results_ok hres hc hi' hp hG
    exact ⟨hi'.defers, v, hrun, v, κ2, rfl, r1, r2, r3, r4, r5⟩
  obtain ⟨g1, h0⟩ := E.e0 g xs B
  refine wp_seq (code_ok tcfg_ok call0_ok call0_grow _ 0 rfl h0 hi (fun id hid => by cases hid) hB fun a1 κ1 w1 hi1 hm1 => ?_)
  refine wp_seq (wp_seq (wp_region_list ?_))
  obtain ⟨g2, g3, h1⟩ := E.e1 g1 xs B
  rw [E.r1]
  show wpList _ _ _ [oa, ob] a1 w1
  unfold wpList
  refine guard_ok (Z := κ.frz) tcfg_ok call0_ok h1 hi1 (fun id hid => by cases hid) fun a2 κ2 w2 hi2 hm2 => ?_
  have hm12 := hm1.trans hm2 (Grow.refl' _ _)
  obtain ⟨hrep, htag⟩ := hi2.frame.opv (.tmp 3)
  replace hrep : Rep κ2 w2 (.list sz g3 xs) (a2.eval (.tmp 3)) := hrep
  obtain ⟨a0, cap, hv, hnone⟩ : ∃ (a0 : Option Addr) (cap : Nat), a2.eval (.tmp 3) = .slice a0 xs.length cap ∧ (xs ≠ [] → a0.isSome = true) := by
    generalize a2.eval (.tmp 3) = v3 at hrep
    cases hrep with
    | list _ _ _ a0 cap b off vs _ _ _ _ _ ha _ _ _ => exact ⟨a0, cap, rfl, fun h => by rw [ha h]; rfl⟩
  unfold wpList
  rw [if_pos (by unfold Region.wanted; rw [E.bg])]
  refine .inl (step_of_run (v := .bool a0.isNone) ?_ ?_)
  · have := nilq_run hu a0 xs.length cap (.tmp 3) (.const (.slice none 0 0)) w2
    have hx : execOp a2.eval ob = (do let r ← (do eqGuard .eql t (.tmp 3) (.const (.slice none 0 0)) (a2.eval (.tmp 3)) (.slice none 0 0); binOp .eql t (a2.eval (.tmp 3)) (.slice none 0 0) : Sem Value); pure (Next.value r) : Sem Next) := by
      unfold execOp
      rw [E.bop]
      rfl
    rw [hx, hv, Sem.run_bind, show tcfg.P = Try.prog from rfl, this, Result.andThen_ok, Sem.run_pure]
  rw [E.bdst]
  have key := inv_of_stepped hi2 (.refl (p := .sc (.bool a0.isNone)) (v := .bool a0.isNone) hi2.conc hi2.frame (.sc _) (.of_no_occ fun sz t u ho => by cases ho)) (some 4)
  obtain ⟨hi3, hm3⟩ := key
  have hm13 := hm12.trans hm3 (Grow.refl' _ _)
  unfold wpList
  refine wp_cond (t := a0.isNone) (hi3.frame.opv (.tmp 4)).1.sc_inv ?_
  cases ha0 : a0 with
  | none =>
    have hx : xs = [] := by
      apply Classical.byContradiction
      intro h
      have := hnone h
      rw [ha0] at this
      cases this
    subst hx
    rw [ha0] at hi3 hm13
    obtain ⟨f2, k1, k2⟩ := E.e2 g2 g3 B
    simp only [Option.isNone_none, if_true]
    exact code_ok tcfg_ok call0_ok call0_grow _ 0 rfl k1 hi3 (fun id hid => by cases hid) hB fun a4 κ4 w4 hi4 hm4 => fin f2 κ4 w4 a4 hi4 (hm13.trans hm4 (Grow.refl' _ _)) k2
  | some ad =>
    rw [ha0] at hi3 hm13
    obtain ⟨f2, k1, k2⟩ := E.e3 g2 g3 xs B hl hunder
    simp only [Option.isNone_some, Bool.false_eq_true, if_false]
    refine wp_skip ?_
    exact code_ok tcfg_ok call0_ok call0_grow _ 0 rfl k1 hi3 (fun id hid => by cases hid) hB fun a4 κ4 w4 hi4 hm4 => fin f2 κ4 w4 a4 hi4 (hm13.trans hm4 (Grow.refl' _ _)) k2
theorem prim_ok : PrimOK tcfg := fun k p hk args B o ho => by
  have hk' : primT k = some p := hk
  have cl : ∀ {fn : Func} {t sz : Nat}, (∃ a b, ClE k fn t sz a b) → p = cloneP sz → ACall tcfg k args B o := by
    intro fn t sz ⟨_, _, E⟩ hp
    subst hp
    unfold cloneP at ho
    split at ho
    · split at ho
      · rename_i n g xs hc
        obtain ⟨rfl, hl⟩ := hc
        simp only [Option.some.injEq] at ho
        subst ho
        exact clone_ok E g xs B hl
      · cases ho
    · cases ho
  unfold primT at hk'
  split at hk'
  · simp only [Option.some.injEq] at hk'; exact cl clE82 hk'.symm
  · simp only [Option.some.injEq] at hk'; exact cl clE175 hk'.symm
  · simp only [Option.some.injEq] at hk'; exact cl clE204 hk'.symm
  · cases hk'
theorem prim_grow : PrimGrow tcfg := fun k p hk args B o ho => by
  have hk' : primT k = some p := hk
  have cl : ∀ {sz : Nat}, p = cloneP sz → GrowB o.mods B o.B := by
    intro sz hp
    subst hp
    unfold cloneP at ho
    split at ho
    · split at ho
      · simp only [Option.some.injEq] at ho
        subst ho
        exact ⟨Nat.le_refl _, fun n hn id hid _ h => h⟩
      · cases ho
    · cases ho
  unfold primT at hk'
  split at hk' <;> first | (simp only [Option.some.injEq] at hk'; exact cl hk'.symm) | cases hk'
end Go.Q
