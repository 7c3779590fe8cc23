/-
  ModelLong: the law, by the evaluator.
-/
import Derived.Test.YtgcmbhfbdblfcaaSm
set_option linter.unusedVariables false
set_option linter.unusedSimpArgs false
set_option maxRecDepth 10000
set_option maxHeartbeats 4000000
namespace Go.Q
open Go.Proofs
theorem lessG_small (g : Gr) : (lessG g).Small := by
  have key : ∀ n ∈ (lessG g).nodes, n.ins.length ≤ 20 ∧ n.w.length ≤ 5000 ∧ n.b.length ≤ 20 := by
    intro n hn
    obtain ⟨x, _, rfl⟩ := List.mem_map.1 hn
    simp only [lessN, List.length_take]
    omega
  refine ⟨⟨?_, ?_, fun n hn => ?_⟩, fun n hn => ?_⟩
  · simp only [lessG, List.length_take]; omega
  · simp only [lessG, List.length_take]; omega
  · have := key n hn
    exact ⟨by omega, by omega, by omega⟩
  · have := key n hn; omega
def nodesL (ns : List Nod) : Int := (ns.map fun n => (16 : Int) + n.ins.length + n.w.length + 4 * n.b.length).sum
theorem flatMap_nodeB (ns : List Nod) : ((ns.flatMap nodeB).length : Int) = nodesL ns := by
  induction ns with
  | nil => rfl
  | cons n ns ih =>
    have := nodeB_length n
    simp only [List.flatMap_cons, List.length_append, nodesL, List.map_cons, List.sum_cons] at ih ⊢
    omega
theorem flatMap_vlB (vs : List Vl) : (vs.flatMap vlB).length = 4 * vs.length := by
  induction vs with
  | nil => rfl
  | cons v vs ih => simp only [List.flatMap_cons, List.length_append, List.length_cons, ih, vlB, List.length_nil]; omega
theorem putB_length (g : Gr) : ((putB g).length : Int) = 3 + 4 * g.ins.length + g.outs.length + nodesL g.nodes := by
  have h1 := flatMap_nodeB g.nodes
  have h2 := flatMap_vlB g.ins
  simp only [putB, List.length_append, List.length_map, List.length_cons, List.length_nil]
  omega
theorem byteF_small {n : Int} (h : 0 ≤ n ∧ n ≤ 255) : byteF n = n := IntWalk.u8_in _ h
theorem c4 (g : Gr) (B : List (List PV)) : callW tcfg 4 [g.pv] B = some ⟨Bo true, B, []⟩ := by
  refine callW_of_fin (n := 93) (ids := none) rfl Try.func4 rfl rfl rfl ?_ rfl
  have hs := lessG_small g
  have h34 := c34 g
  generalize lessG g = h at hs h34
  have h35 := c35 h hs
  have h36 := c36 h hs.toFin
  by_cases h0 : (gvals h).2 = 0
  · obtain ⟨e1, e2, e3, e4, e5, e6, e7⟩ := goesF_ok (gvals_ok h0)
    have hw1 : IntKind.i64.wrap (4 * (h.ins.length : Int)) = 4 * h.ins.length := IntWalk.i64_in _ (by omega)
    have hw2 : IntKind.i64.wrap (3 + 4 * (h.ins.length : Int)) = 3 + 4 * h.ins.length := IntWalk.i64_in _ (by omega)
    have hw3 : IntKind.i64.wrap (3 + 4 * (h.ins.length : Int) + h.outs.length) = 3 + 4 * h.ins.length + h.outs.length := IntWalk.i64_in _ (by omega)
    simp only [push_cast, reduceCtorEq, List.reduceReplicate, Nat.reduceBEq, Nat.reduceAdd, Nat.reduceSub, Nat.reduceMul, Nat.reduceLT, Nat.reduceLeDiff, ↓reduceIte, Int.reduceNeg, Int.reduceLT, Int.reduceLE, Int.reduceAdd, Int.reduceSub, Int.reduceMul, Int.reduceToNat, Int.reduceNegSucc, Nat.reduceSucc, Int.reduceEq, Nat.reduceEqDiff, Int.reduceBEq, Int.reduceBNe, c33, h34, h35, h36, h0, hw1, hw2, hw3]
    have hlen := putB_length h
    have hx0 : (putB h)[0]? = some (byteF h.ins.length) := rfl
    have hb0 : byteF (h.ins.length : Int) = h.ins.length := byteF_small (by omega)
    have hb1 : IntKind.i64.wrap (h.ins.length : Int) = h.ins.length := IntWalk.i64_in _ (by omega)
    have hnn : ∀ ns : List Nod, 0 ≤ nodesL ns := by
      intro ns
      induction ns with
      | nil => exact Int.le_refl 0
      | cons n ns ih => simp only [nodesL, List.map_cons, List.sum_cons] at ih ⊢; omega
    have hpos : ((0 : Int) < (putB h).length) := by have := hnn h.nodes; omega
    refine lp_ind (rest := (fun r => finR _ _ _ _ (thenEv _ _ _ (blockEv _ (r))))) (fun p : Nat × Int => ⟨[.any, .ptr B.length 0, .any, Bo true, .list 1 (.slot 4 0) ((putB h).map U8), I 0, .any, .any, I p.2, I p.1, .any, .any, .any, .any, .any, .any, .any, .any, .any, .any, .any, .any, .any, .any, .any, .any, .any, .any, .any, .any, .any, .any, .any, .any, .any, .any, .any, .any, .any, .any, .any, .any, .any, .any, .any, .any, .any, .any, .any, .any, .any, .any, .any, .any, .any, .any, .any, .any, .any, .any, .any, .any, .any, .any, .any, .any, .any, .any, .any, .any, .any, .any, .any, .any, .any, .any, .any, .any, .any, .any, .any, .any, .any, .any, .any, .any, .any, .any, .any, .any, .any, .any, .any, .any], B ++ [h.cs], [], [B.length]⟩)
      (fun p => some ⟨Bo true, B, []⟩) (fun p => h.nodes.length - p.1) (fun p => p.1 ≤ h.nodes.length ∧ p.2 = 3 + 4 * h.ins.length + h.outs.length + nodesL (h.nodes.take p.1) ∧ p.2 ≤ 100 + p.1 * 16777232) ?_ (0, 3 + 4 * h.ins.length + h.outs.length) ⟨Nat.zero_le _, by simp [nodesL], by simp only; omega⟩
    rintro ⟨i, n⟩ ⟨hi, hn, hnb⟩ ih
    simp only at hi hn hnb
    by_cases hlt : i < h.nodes.length
    · have hc : ((i : Int) < h.nodes.length) := by omega
      obtain ⟨x, hv⟩ : ∃ x, x = h.nodes[i] := ⟨_, rfl⟩
      have hx : h.nodes[i]? = some x := by rw [hv]; exact List.getElem?_eq_getElem hlt
      have hsx := hs.small x (List.mem_of_getElem? hx)
      have hw := i64c i (by omega)
      have hn0 := hnn (h.nodes.take i)
      have w1 : IntKind.i64.wrap (n + 16) = n + 16 := IntWalk.i64_in _ (by omega)
      have w2 : IntKind.i64.wrap (n + 16 + x.ins.length) = n + 16 + x.ins.length := IntWalk.i64_in _ (by omega)
      have w3 : IntKind.i64.wrap (n + 16 + x.ins.length + x.w.length) = n + 16 + x.ins.length + x.w.length := IntWalk.i64_in _ (by omega)
      have w4 : IntKind.i64.wrap (4 * (x.b.length : Int)) = 4 * x.b.length := IntWalk.i64_in _ (by omega)
      have w5 : IntKind.i64.wrap (n + 16 + x.ins.length + x.w.length + 4 * x.b.length) = n + 16 + x.ins.length + x.w.length + 4 * x.b.length := IntWalk.i64_in _ (by omega)
      have hnx := ih (i + 1, n + 16 + x.ins.length + x.w.length + 4 * x.b.length) (by show _ < _; omega) ⟨by show _ ≤ _; omega, by
        simp only
        rw [List.take_add_one, hx, hn]
        simp only [nodesL, Option.toList_some, List.map_append, List.map_cons, List.map_nil, List.sum_append, List.sum_cons, List.sum_nil]
        omega, by simp only; omega⟩
      simp only [push_cast, reduceCtorEq, List.reduceReplicate, Nat.reduceBEq, Nat.reduceAdd, Nat.reduceSub, Nat.reduceMul, Nat.reduceLT, Nat.reduceLeDiff, ↓reduceIte, Int.reduceNeg, Int.reduceLT, Int.reduceLE, Int.reduceAdd, Int.reduceSub, Int.reduceMul, Int.reduceToNat, Int.reduceNegSucc, Nat.reduceSucc, Int.reduceEq, Nat.reduceEqDiff, Int.reduceBEq, Int.reduceBNe, hc, hx, hw, w1, w2, w3, w4, w5] at hnx ⊢
      rw [hnx]
    · have hc : ¬ ((i : Int) < h.nodes.length) := by omega
      have : i = h.nodes.length := by omega
      subst this
      rw [List.take_length, ← hlen] at hn
      subst hn
      simp only [push_cast, reduceCtorEq, List.reduceReplicate, Nat.reduceBEq, Nat.reduceAdd, Nat.reduceSub, Nat.reduceMul, Nat.reduceLT, Nat.reduceLeDiff, ↓reduceIte, Int.reduceNeg, Int.reduceLT, Int.reduceLE, Int.reduceAdd, Int.reduceSub, Int.reduceMul, Int.reduceToNat, Int.reduceNegSucc, Nat.reduceSucc, Int.reduceEq, Nat.reduceEqDiff, Int.reduceBEq, Int.reduceBNe, hc, hx0, hb0, hb1, hpos]
  · have h0' : decide ((gvals h).2 = 0) = false := by simp [h0]
    simp only [push_cast, reduceCtorEq, List.reduceReplicate, Nat.reduceBEq, Nat.reduceAdd, Nat.reduceSub, Nat.reduceMul, Nat.reduceLT, Nat.reduceLeDiff, ↓reduceIte, Int.reduceNeg, Int.reduceLT, Int.reduceLE, Int.reduceAdd, Int.reduceSub, Int.reduceMul, Int.reduceToNat, Int.reduceNegSucc, Nat.reduceSucc, Int.reduceEq, Nat.reduceEqDiff, Int.reduceBEq, Int.reduceBNe, c33, h34, h35, h36, h0, h0', if_false]
end Go.Q
