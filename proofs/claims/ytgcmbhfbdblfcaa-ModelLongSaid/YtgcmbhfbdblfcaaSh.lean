/-
  quiltref03.Value.
-/
import Derived.Test.YtgcmbhfbdblfcaaSg
set_option linter.unusedVariables false
set_option linter.unusedSimpArgs false
set_option maxRecDepth 10000
namespace Go.Q
open Go.Proofs
theorem manyW_eq {len : Int} (n : Nod) (a : Shp) (ha : a.may = true) (hn : nodeF n len = true) : manyW n a = manyF n a := by
  have hop : 1 ≤ n.op ∧ n.op ≤ 12 := by
    unfold nodeF at hn
    simp only [Bool.and_eq_true, decide_eq_true_eq] at hn
    exact hn.1
  have h := weights_call n hop a ha hn []
  have : ∀ x : Int × Int, callW tcfg (wK n.op) [n.pv, a.pv] [] = some ⟨.tuple [I x.1, I x.2], [], []⟩ → x = manyF n a := by
    intro x hx
    rw [h] at hx
    simp only [Option.some.injEq, Out.mk.injEq, PV.tuple.injEq, List.cons.injEq, PV.sc.injEq, Value.int.injEq, true_and, and_true] at hx
    exact Prod.ext hx.1.symm hx.2.symm
  refine this _ ?_
  obtain ⟨h, w, c⟩ := a
  rcases op_cases hop with e | e | e | e | e | e | e | e | e | e | e | e <;> simp [wK, manyW, e, cnd, c223 n, c226 n, c228 n, c230 n, c235 n]
theorem eqS (a b : Shp) : (decide (b.h = a.h) && (decide (b.w = a.w) && decide (b.c = a.c))) = decide (a = b) := by
  obtain ⟨h, w, c⟩ := a
  obtain ⟨h', w', c'⟩ := b
  rw [Bool.eq_iff_iff]
  simp only [Bool.and_eq_true, decide_eq_true_eq, Shp.mk.injEq]
  omega
theorem len2 {α : Type} {xs : List α} (h : xs.length = 2) : ∃ a b, xs = [a, b] := by
  match xs, h with
  | [a, b], _ => exact ⟨a, b, rfl⟩
theorem len_cases {n : Nod} {xs : List Vl} (h : nodeF n xs.length = true) : (isTwo n.op = false ∧ ∃ a, xs = [a]) ∨ (isTwo n.op = true ∧ ∃ a b, xs = [a, b]) := by
  have hl : (xs.length : Int) = cnd (isTwo n.op) 2 1 := by
    simp only [nodeF, mayF, Bool.and_eq_true, decide_eq_true_eq] at h
    exact h.2.1.1.1.1.1
  cases ht : isTwo n.op <;> rw [ht] at hl <;> simp only [cnd] at hl
  · exact .inl ⟨rfl, List.length_eq_one_iff.1 (by omega)⟩
  · exact .inr ⟨rfl, len2 (by omega)⟩
theorem nodeF_op {n : Nod} {l : Int} (h : nodeF n l = true) : 1 ≤ n.op ∧ n.op ≤ 12 := by
  unfold nodeF at h
  simp only [Bool.and_eq_true, decide_eq_true_eq] at h
  exact h.1
theorem c154 (n : Nod) (xs : List Vl) (hn : nodeF n xs.length = true) (hm : (xs.any fun v => !v.s.may) = false) (B : List (List PV)) : callW tcfg 154 [n.pv, .list 4 .ro (xs.map Vl.pv)] B = some ⟨(madeF n (headS xs) (lastS xs)).pv, B, []⟩ := by
  have hop := nodeF_op hn
  refine callW_of_fin (n := 115) (ids := none) rfl Try.func154 rfl rfl rfl ?_ rfl
  rcases len_cases hn with ⟨ht, a, rfl⟩ | ⟨ht, a, b, rfl⟩
  · have ha : a.s.may = true := by simpa using hm
    have ⟨a1, a2, a3⟩ := Shp.may_iff.1 ha
    have e1 : IntKind.i64.wrap (a.s.h + 2) = a.s.h + 2 := IntWalk.i64_in _ (by omega)
    have e2 : IntKind.i64.wrap (a.s.w + 2) = a.s.w + 2 := IntWalk.i64_in _ (by omega)
    rcases op_cases hop with e | e | e | e | e | e | e | e | e | e | e | e <;> rw [e] at ht <;> first | (cases ht; done) | skip
    all_goals simp only [push_cast, reduceCtorEq, List.reduceReplicate, Nat.reduceBEq, Nat.reduceAdd, Nat.reduceSub, Nat.reduceMul, Nat.reduceLT, Nat.reduceLeDiff, ↓reduceIte, Int.reduceNeg, Int.reduceLT, Int.reduceLE, Int.reduceAdd, Int.reduceSub, Int.reduceMul, Int.reduceToNat, Int.reduceNegSucc, Nat.reduceSucc, Int.reduceEq, Nat.reduceEqDiff, Int.reduceBEq, Int.reduceBNe, e, c199, c50, madeF, headS, lastS, List.head?_cons, List.getLast?_singleton, slidF, e1, e2, true_or, or_true, or_false, false_or]
    by_cases g : n.to.size = a.s.size <;> simp [g, cnd]
  · have ha : a.s.may = true ∧ b.s.may = true := by simpa using hm
    have ⟨a1, a2, a3⟩ := Shp.may_iff.1 ha.1
    have ⟨b1, b2, b3⟩ := Shp.may_iff.1 ha.2
    have e3 : IntKind.i64.wrap (a.s.c + b.s.c) = a.s.c + b.s.c := IntWalk.i64_in _ (by omega)
    have hlast : lastS [a, b] = b.s := rfl
    have hhead : headS [a, b] = a.s := rfl
    rcases op_cases hop with e | e | e | e | e | e | e | e | e | e | e | e <;> rw [e] at ht <;> first | (cases ht; done) | skip
    all_goals simp only [push_cast, reduceCtorEq, List.reduceReplicate, Nat.reduceBEq, Nat.reduceAdd, Nat.reduceSub, Nat.reduceMul, Nat.reduceLT, Nat.reduceLeDiff, ↓reduceIte, Int.reduceNeg, Int.reduceLT, Int.reduceLE, Int.reduceAdd, Int.reduceSub, Int.reduceMul, Int.reduceToNat, Int.reduceNegSucc, Nat.reduceSucc, Int.reduceEq, Nat.reduceEqDiff, Int.reduceBEq, Int.reduceBNe, e, c199, c50, madeF, hlast, hhead, slidF, e3, true_or, or_true, or_false, false_or]
    · rw [eqS]; cases decide (a.s = b.s) <;> rfl
    · rw [eqS]; cases decide (a.s = b.s) <;> rfl
    · by_cases g1 : a.s.h = b.s.h <;> by_cases g2 : a.s.w = b.s.w <;> simp [g1, g2, cnd, eq_comm]
end Go.Q
