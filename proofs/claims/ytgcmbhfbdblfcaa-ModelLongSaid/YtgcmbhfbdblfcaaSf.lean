/-
  graph.Values, graph.Check.
-/
import Derived.Test.YtgcmbhfbdblfcaaSe
import Derived.Test.YtgcmbhfbdblfcaaQt
set_option linter.unusedVariables false
set_option linter.unusedSimpArgs false
set_option maxRecDepth 10000
namespace Go.Q
open Go.Proofs
theorem pickF_length {vals : List Vl} : ∀ {l : List Int} {xs : List Vl}, pickF vals l = some xs → xs.length = l.length
  | [], xs, h => by simp only [pickF, Option.some.injEq] at h; subst h; rfl
  | a :: l, xs, h => by
    unfold pickF at h
    cases h1 : pick1 vals a with
    | none => simp [h1] at h
    | some v =>
      simp only [h1] at h
      obtain ⟨r, hr, rfl⟩ := Option.map_eq_some_iff.1 h
      simp [pickF_length hr]
def valsR (outs : List Int) : List Nod → List Vl → Int → List Vl × Int
  | [], vals, w => if 4096 < w then ([], 3) else if (pickF vals outs).isSome = true then (vals, 0) else ([], 13)
  | n :: ns, vals, w => match pickF vals n.ins with
    | none => ([], 13)
    | some xs => if (valueF n xs).2 = 0 then valsR outs ns (vals ++ [(valueF n xs).1]) (w + n.w.length) else ([], (valueF n xs).2)
def gvals (g : Gr) : List Vl × Int := if (goesF g).2 = 0 then valsR g.outs g.nodes (goesF g).1 0 else ([], (goesF g).2)
structure Nod.Fin (n : Nod) : Prop where
  ins : n.ins.length < 2^31
  w : n.w.length < 2^31
  b : n.b.length < 2^31
structure Gr.Fin (g : Gr) : Prop where
  ins : g.ins.length < 2^31
  outs : g.outs.length < 2^31
  nodes : ∀ n ∈ g.nodes, n.Fin
theorem goesF_ok {g : Gr} (h : (goesF g).2 = 0) : (goesF g).1 = g.ins ∧ g.ins.length ≤ 4 ∧ g.nodes.length ≤ 12 ∧ g.outs.length ≤ 4 ∧ 1 ≤ g.ins.length ∧ 1 ≤ g.outs.length ∧ insErr g.ins = 0 := by
  unfold goesF at h ⊢
  split at h
  · cases h
  · rename_i h1
    rw [if_neg h1]
    split at h
    · cases h
    · rename_i h2
      rw [if_neg h2]
      split at h
      · rename_i h3
        rw [if_pos h3]
        simp only [Bool.or_eq_true, decide_eq_true_eq] at h1 h2
        refine ⟨rfl, ?_, ?_, ?_, ?_, ?_, h3⟩ <;> omega
      · rename_i h3
        exact absurd h h3
theorem c110 (g : Gr) (hg : g.Fin) (B : List (List PV)) : callW tcfg 110 [g.pv] B = some ⟨.tuple [.list 4 (.slot 0 0) ((gvals g).1.map Vl.pv), I (gvals g).2], B, []⟩ := by
  refine callW_of_fin (n := 69) (ids := none) rfl Try.func110 rfl rfl rfl ?_ rfl
  unfold gvals
  by_cases h0 : (goesF g).2 = 0
  · obtain ⟨e1, e2, e3, e4, e5, e6, e7⟩ := goesF_ok h0
    rw [if_pos h0, e1]
    simp only [push_cast, reduceCtorEq, List.reduceReplicate, Nat.reduceBEq, Nat.reduceAdd, Nat.reduceSub, Nat.reduceMul, Nat.reduceLT, Nat.reduceLeDiff, ↓reduceIte, Int.reduceNeg, Int.reduceLT, Int.reduceLE, Int.reduceAdd, Int.reduceSub, Int.reduceMul, Int.reduceToNat, Int.reduceNegSucc, Nat.reduceSucc, Int.reduceEq, Nat.reduceEqDiff, Int.reduceBEq, Int.reduceBNe, c168 g, h0, e1]
    refine (lp_ind (rest := (fun r => finR _ _ _ _ (thenEv _ _ _ (blockEv _ (r))))) (fun p : Nat × List Vl × Int => ⟨[.any, .ptr B.length 0, .any, .any, .list 4 (.slot 4 0) (p.2.1.map Vl.pv), .any, I p.2.2, .any, .any, .any, .any, .any, .any, .any, .any, .any, .any, .any, .any, .any, .any, .any, .any, .any, .list 14 .ro (g.nodes.map Nod.pv), I g.nodes.length, I p.1, .any, .any, .any, .any, .any, .any, .any, .any, .any, .any, .any, .any, .any, .any, .any, .any, .any, .any, .any, .any, .any, .any, .any, .any, .any, .any, .any, .any, .any, .any, .any, .any, .any, .any, .any, .any, .any, .any, .any, .any, .any, .any, .any], B ++ [g.cs], [], []⟩)
      (fun p => some ⟨.tuple [.list 4 (.slot 0 0) ((valsR g.outs (g.nodes.drop p.1) p.2.1 p.2.2).1.map Vl.pv), I (valsR g.outs (g.nodes.drop p.1) p.2.1 p.2.2).2], B, []⟩)
      (fun p => g.nodes.length - p.1) (fun p => p.1 ≤ g.nodes.length ∧ p.2.1.length = g.ins.length + p.1 ∧ 0 ≤ p.2.2 ∧ p.2.2 ≤ p.1 * 2^31) ?_ (0, g.ins, 0) ⟨Nat.zero_le _, rfl, Int.le_refl 0, by simp⟩).trans ?_
    · rintro ⟨i, vals, w⟩ ⟨hi, hv, hw0, hw1⟩ ih
      simp only at hi hv hw0 hw1
      have hvl : vals.length < 2^40 := by omega
      by_cases hlt : i < g.nodes.length
      · have hc : ((i : Int) < g.nodes.length) := by omega
        obtain ⟨n, hn0⟩ : ∃ n, n = g.nodes[i] := ⟨_, rfl⟩
        have hx : g.nodes[i]? = some n := by rw [hn0]; exact List.getElem?_eq_getElem hlt
        have hf := hg.nodes n (List.mem_of_getElem? hx)
        have hw := i64c i (by omega)
        have h169 := c169 vals hvl n.ins hf.ins
        rw [List.drop_eq_getElem_cons hlt, ← hn0, valsR]
        cases hp : pickF vals n.ins with
        | none =>
          simp only [push_cast, reduceCtorEq, List.reduceReplicate, Nat.reduceBEq, Nat.reduceAdd, Nat.reduceSub, Nat.reduceMul, Nat.reduceLT, Nat.reduceLeDiff, ↓reduceIte, Int.reduceNeg, Int.reduceLT, Int.reduceLE, Int.reduceAdd, Int.reduceSub, Int.reduceMul, Int.reduceToNat, Int.reduceNegSucc, Nat.reduceSucc, Int.reduceEq, Nat.reduceEqDiff, Int.reduceBEq, Int.reduceBNe, hc, hx, h169, hp, Option.getD_none, Option.isSome_none]
        | some xs =>
          have h170 := c170 n xs (by rw [pickF_length hp]; have := hf.ins; omega) (by have := hf.b; omega)
          by_cases he : (valueF n xs).2 = 0
          · have hroom : vals.length + 1 ≤ 4294967296 := by omega
            have hww : IntKind.i64.wrap (w + n.w.length) = w + n.w.length := by have := hf.w; exact IntWalk.i64_in _ (by omega)
            have hn := ih (i + 1, vals ++ [(valueF n xs).1], w + n.w.length) (by show _ < _; omega) ⟨by show _ ≤ _; omega, by simp; omega, by show 0 ≤ w + (n.w.length : Int); omega, by have := hf.w; show w + n.w.length ≤ ((i + 1 : Nat) : Int) * 2 ^ 31; omega⟩
            simp only [push_cast, reduceCtorEq, List.reduceReplicate, Nat.reduceBEq, Nat.reduceAdd, Nat.reduceSub, Nat.reduceMul, Nat.reduceLT, Nat.reduceLeDiff, ↓reduceIte, Int.reduceNeg, Int.reduceLT, Int.reduceLE, Int.reduceAdd, Int.reduceSub, Int.reduceMul, Int.reduceToNat, Int.reduceNegSucc, Nat.reduceSucc, Int.reduceEq, Nat.reduceEqDiff, Int.reduceBEq, Int.reduceBNe, hc, hx, hw, h169, hp, Option.getD_some, Option.isSome_some, h170, he, hroom, hww, List.map_append] at hn ⊢
            rw [hn]
          · have he' : decide ((valueF n xs).2 = 0) = false := by simp [he]
            simp only [push_cast, reduceCtorEq, List.reduceReplicate, Nat.reduceBEq, Nat.reduceAdd, Nat.reduceSub, Nat.reduceMul, Nat.reduceLT, Nat.reduceLeDiff, ↓reduceIte, Int.reduceNeg, Int.reduceLT, Int.reduceLE, Int.reduceAdd, Int.reduceSub, Int.reduceMul, Int.reduceToNat, Int.reduceNegSucc, Nat.reduceSucc, Int.reduceEq, Nat.reduceEqDiff, Int.reduceBEq, Int.reduceBNe, hc, hx, h169, hp, Option.getD_some, Option.isSome_some, h170, he, he']
      · have hc : ¬ ((i : Int) < g.nodes.length) := by omega
        have : i = g.nodes.length := by omega
        subst this
        have h169 := c169 vals hvl g.outs hg.outs
        simp only [push_cast, reduceCtorEq, List.reduceReplicate, Nat.reduceBEq, Nat.reduceAdd, Nat.reduceSub, Nat.reduceMul, Nat.reduceLT, Nat.reduceLeDiff, ↓reduceIte, Int.reduceNeg, Int.reduceLT, Int.reduceLE, Int.reduceAdd, Int.reduceSub, Int.reduceMul, Int.reduceToNat, Int.reduceNegSucc, Nat.reduceSucc, Int.reduceEq, Nat.reduceEqDiff, Int.reduceBEq, Int.reduceBNe, hc, List.drop_length, h169, valsR]
        by_cases h4 : 4096 < w <;> cases hp : (pickF vals g.outs).isSome <;> simp [h4, hp, cnd]
    · rfl
  · rw [if_neg h0]
    have h0' : decide ((goesF g).2 = 0) = false := by simp [h0]
    simp only [push_cast, reduceCtorEq, List.reduceReplicate, Nat.reduceBEq, Nat.reduceAdd, Nat.reduceSub, Nat.reduceMul, Nat.reduceLT, Nat.reduceLeDiff, ↓reduceIte, Int.reduceNeg, Int.reduceLT, Int.reduceLE, Int.reduceAdd, Int.reduceSub, Int.reduceMul, Int.reduceToNat, Int.reduceNegSucc, Nat.reduceSucc, Int.reduceEq, Nat.reduceEqDiff, Int.reduceBEq, Int.reduceBNe, c168 g, h0, h0']
theorem c85 (g : Gr) (hg : g.Fin) (B : List (List PV)) : callW tcfg 85 [g.pv] B = some ⟨I (gvals g).2, B, []⟩ := by
  refine callW_of_fin (n := 10) (ids := none) rfl Try.func85 rfl rfl rfl ?_ rfl
  simp only [push_cast, reduceCtorEq, List.reduceReplicate, Nat.reduceBEq, Nat.reduceAdd, Nat.reduceSub, Nat.reduceMul, Nat.reduceLT, Nat.reduceLeDiff, ↓reduceIte, Int.reduceNeg, Int.reduceLT, Int.reduceLE, Int.reduceAdd, Int.reduceSub, Int.reduceMul, Int.reduceToNat, Int.reduceNegSucc, Nat.reduceSucc, Int.reduceEq, Nat.reduceEqDiff, Int.reduceBEq, Int.reduceBNe, c110 g hg]
end Go.Q
