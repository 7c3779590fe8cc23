/-
  graph.Values.
-/
import Derived.Test.YtgcmbhfbdblfcaaSd
set_option linter.unusedVariables false
set_option linter.unusedSimpArgs false
set_option maxRecDepth 10000
namespace Go.Q
open Go.Proofs
structure Gr where
  ins : List Vl
  nodes : List Nod
  outs : List Int
  deriving DecidableEq
abbrev Gr.pv (g : Gr) : PV := .agg [.list 4 .ro (g.ins.map Vl.pv), .list 14 .ro (g.nodes.map Nod.pv), .list 1 .ro (g.outs.map I)]
abbrev Gr.cs (g : Gr) : List PV := [.list 4 .ro (g.ins.map Vl.pv), .list 14 .ro (g.nodes.map Nod.pv), .list 1 .ro (g.outs.map I)]
def pick1 (vals : List Vl) (at_ : Int) : Option Vl := if wi 0 ((vals.length : Int) - 1) at_ = true then vals[at_.toNat]? else none
def pickF (vals : List Vl) : List Int → Option (List Vl)
  | [] => some []
  | a :: r => match pick1 vals a with
    | none => none
    | some v => (pickF vals r).map fun r => v :: r
abbrev pickR (r : Option (List Vl)) : PV := .tuple [.list 4 (.slot 0 0) ((r.getD []).map Vl.pv), Bo r.isSome]
theorem i64c (n : Nat) (h : n < 2^62) : IntKind.i64.wrap ((n : Int) + 1) = ((n + 1 : Nat) : Int) := by rw [IntWalk.i64_in _ (by omega)]; rfl
theorem c169 (vals : List Vl) (hv : vals.length < 2^40) (l : List Int) (hl : l.length < 2^31) (B : List (List PV)) : callW tcfg 169 [.list 4 .ro (vals.map Vl.pv), .list 1 .ro (l.map I)] B = some ⟨pickR (pickF vals l), B, []⟩ := by
  refine callW_of_fin (n := 27) (ids := none) rfl Try.func169 rfl rfl rfl ?_ rfl
  have hw1 : IntKind.i64.wrap ((vals.length : Int) - 1) = (vals.length : Int) - 1 := IntWalk.i64_in _ (by omega)
  simp only [push_cast, reduceCtorEq, List.reduceReplicate, Nat.reduceBEq, Nat.reduceAdd, Nat.reduceSub, Nat.reduceMul, Nat.reduceLT, Nat.reduceLeDiff, ↓reduceIte, Int.reduceNeg, Int.reduceLT, Int.reduceLE, Int.reduceAdd, Int.reduceSub, Int.reduceMul, Int.reduceToNat, Int.reduceNegSucc, Nat.reduceSucc, Int.reduceEq, Nat.reduceEqDiff, Int.reduceBEq, Int.reduceBNe]
  refine (lp_ind (rest := (fun r => finR _ _ _ _ (thenEv _ _ _ (blockEv _ (r))))) (fun p : Nat × List Vl => ⟨[.list 4 .ro (vals.map Vl.pv), .any, .any, .any, .list 4 (.slot 4 0) (p.2.map Vl.pv), .any, .any, .any, .list 1 .ro (l.map I), I l.length, I p.1, .any, .any, .any, .any, .any, .any, .any, .any, .any, .any, .any, .any, .any, .any, .any, .any, .any, .any], B, [], []⟩)
    (fun p => some ⟨pickR ((pickF vals (l.drop p.1)).map fun r => p.2 ++ r), B, []⟩) (fun p => l.length - p.1) (fun p => p.1 ≤ l.length ∧ p.2.length = p.1) ?_ (0, []) ⟨Nat.zero_le _, rfl⟩).trans ?_
  · rintro ⟨i, acc⟩ ⟨hi, hacc⟩ ih
    simp only at hi hacc
    by_cases hlt : i < l.length
    · have hc : ((i : Int) < l.length) := by omega
      have hx : l[i]? = some l[i] := List.getElem?_eq_getElem hlt
      have hw := i64c i (by omega)
      rw [List.drop_eq_getElem_cons hlt, pickF]
      cases hp : wi 0 ((vals.length : Int) - 1) l[i]
      · have e : pick1 vals l[i] = none := by simp [pick1, hp]
        simp only [push_cast, reduceCtorEq, List.reduceReplicate, Nat.reduceBEq, Nat.reduceAdd, Nat.reduceSub, Nat.reduceMul, Nat.reduceLT, Nat.reduceLeDiff, ↓reduceIte, Int.reduceNeg, Int.reduceLT, Int.reduceLE, Int.reduceAdd, Int.reduceSub, Int.reduceMul, Int.reduceToNat, Int.reduceNegSucc, Nat.reduceSucc, Int.reduceEq, Nat.reduceEqDiff, Int.reduceBEq, Int.reduceBNe, hc, hx, hw, hw1, c203, hp, e, Option.map_none, Option.getD_none, Option.isSome_none]
        rfl
      · have hb := wi_iff.1 hp
        obtain ⟨k, hk⟩ : ∃ k : Nat, (k : Int) = l[i] := ⟨l[i].toNat, by omega⟩
        have hk2 : k < vals.length := by omega
        have hv2 : vals[k]? = some vals[k] := List.getElem?_eq_getElem hk2
        have e : pick1 vals l[i] = some vals[k] := by rw [pick1, hp, ← hk]; simp [hv2]
        have hn := ih (i + 1, acc ++ [vals[k]]) (by show _ < _; omega) ⟨by show _ ≤ _; omega, by simp [hacc]⟩
        have hkc : ((k : Int) < vals.length) := by omega
        have hroom : acc.length + 1 ≤ 4294967296 := by omega
        rw [e]
        rw [← hk] at hp
        simp only [push_cast, reduceCtorEq, List.reduceReplicate, Nat.reduceBEq, Nat.reduceAdd, Nat.reduceSub, Nat.reduceMul, Nat.reduceLT, Nat.reduceLeDiff, ↓reduceIte, Int.reduceNeg, Int.reduceLT, Int.reduceLE, Int.reduceAdd, Int.reduceSub, Int.reduceMul, Int.reduceToNat, Int.reduceNegSucc, Nat.reduceSucc, Int.reduceEq, Nat.reduceEqDiff, Int.reduceBEq, Int.reduceBNe, hc, hx, hw, hw1, c203, hp, ← hk, hv2, hkc, hroom, List.map_append] at hn ⊢
        rw [hn]
        cases pickF vals (l.drop (i + 1)) <;> simp
    · have hc : ¬ ((i : Int) < l.length) := by omega
      have : i = l.length := by omega
      subst this
      simp only [push_cast, reduceCtorEq, List.reduceReplicate, Nat.reduceBEq, Nat.reduceAdd, Nat.reduceSub, Nat.reduceMul, Nat.reduceLT, Nat.reduceLeDiff, ↓reduceIte, Int.reduceNeg, Int.reduceLT, Int.reduceLE, Int.reduceAdd, Int.reduceSub, Int.reduceMul, Int.reduceToNat, Int.reduceNegSucc, Nat.reduceSucc, Int.reduceEq, Nat.reduceEqDiff, Int.reduceBEq, Int.reduceBNe, hc, List.drop_length, pickF, Option.map_some, Option.getD_some, Option.isSome_some, List.append_nil]
      rfl
  · simp only [List.drop_zero, List.nil_append]
    cases pickF vals l <;> rfl
theorem c204 (xs : List Vl) (hl : xs.length < 2^31) (B : List (List PV)) : callW tcfg 204 [.list 4 .ro (xs.map Vl.pv)] B = some ⟨.list 4 (.slot 0 0) (xs.map Vl.pv), B, []⟩ :=
  clone_call rfl _ _ (by simp [maxLenQ]; omega) B
def insErr : List Vl → Int
  | [] => 0
  | v :: vs => if v.s.may = false then 10 else if wi (-128) 127 v.z = false then 11 else insErr vs
def goesF (g : Gr) : List Vl × Int :=
  if (decide (4 < g.ins.length) || (decide (12 < g.nodes.length) || decide (4 < g.outs.length))) = true then ([], 3)
  else if (decide (g.ins.length = 0) || decide (g.outs.length = 0)) = true then ([], 13)
  else if insErr g.ins = 0 then (g.ins, 0) else ([], insErr g.ins)
theorem c168 (g : Gr) (B : List (List PV)) : callW tcfg 168 [g.pv] B = some ⟨.tuple [.list 4 (.slot 0 0) ((goesF g).1.map Vl.pv), I (goesF g).2], B, []⟩ := by
  refine callW_of_fin (n := 54) (ids := none) rfl Try.func168 rfl rfl rfl ?_ rfl
  unfold goesF
  by_cases h1 : (decide (4 < g.ins.length) || (decide (12 < g.nodes.length) || decide (4 < g.outs.length))) = true
  · rw [if_pos h1]
    have h1' : (decide ((4 : Int) < g.ins.length) || (decide ((12 : Int) < g.nodes.length) || decide ((4 : Int) < g.outs.length))) = true := by simp at h1 ⊢; omega
    simp only [push_cast, reduceCtorEq, List.reduceReplicate, Nat.reduceBEq, Nat.reduceAdd, Nat.reduceSub, Nat.reduceMul, Nat.reduceLT, Nat.reduceLeDiff, ↓reduceIte, Int.reduceNeg, Int.reduceLT, Int.reduceLE, Int.reduceAdd, Int.reduceSub, Int.reduceMul, Int.reduceToNat, Int.reduceNegSucc, Nat.reduceSucc, Int.reduceEq, Nat.reduceEqDiff, Int.reduceBEq, Int.reduceBNe, h1']
  · rw [if_neg h1]
    have h1' : (decide ((4 : Int) < g.ins.length) || (decide ((12 : Int) < g.nodes.length) || decide ((4 : Int) < g.outs.length))) = false := by simp at h1 ⊢; omega
    by_cases h2 : (decide (g.ins.length = 0) || decide (g.outs.length = 0)) = true
    · rw [if_pos h2]
      have h2' : (decide ((g.ins.length : Int) = 0) || decide ((g.outs.length : Int) = 0)) = true := by simp at h2 ⊢; omega
      simp only [push_cast, reduceCtorEq, List.reduceReplicate, Nat.reduceBEq, Nat.reduceAdd, Nat.reduceSub, Nat.reduceMul, Nat.reduceLT, Nat.reduceLeDiff, ↓reduceIte, Int.reduceNeg, Int.reduceLT, Int.reduceLE, Int.reduceAdd, Int.reduceSub, Int.reduceMul, Int.reduceToNat, Int.reduceNegSucc, Nat.reduceSucc, Int.reduceEq, Nat.reduceEqDiff, Int.reduceBEq, Int.reduceBNe, h1', h2']
    · rw [if_neg h2]
      have h2' : (decide ((g.ins.length : Int) = 0) || decide ((g.outs.length : Int) = 0)) = false := by simp at h2 ⊢; omega
      have hlen : g.ins.length ≤ 4 := by simp at h1; omega
      simp only [push_cast, reduceCtorEq, List.reduceReplicate, Nat.reduceBEq, Nat.reduceAdd, Nat.reduceSub, Nat.reduceMul, Nat.reduceLT, Nat.reduceLeDiff, ↓reduceIte, Int.reduceNeg, Int.reduceLT, Int.reduceLE, Int.reduceAdd, Int.reduceSub, Int.reduceMul, Int.reduceToNat, Int.reduceNegSucc, Nat.reduceSucc, Int.reduceEq, Nat.reduceEqDiff, Int.reduceBEq, Int.reduceBNe, h1', h2']
      refine (lp_ind (rest := (fun r => finR _ _ _ _ (thenEv _ _ _ (blockEv _ (r))))) (fun i : Nat => ⟨[.any, .ptr B.length 0, .any, .any, .any, .any, .any, .any, .any, .any, .any, .any, .any, .any, .any, .any, .any, .any, .any, .any, .any, .any, .any, .any, .any, .any, .any, .any, .any, .any, .any, .any, .any, .any, .any, .list 4 .ro (g.ins.map Vl.pv), I g.ins.length, I i, .any, .any, .any, .any, .any, .any, .any, .any, .any, .any, .any, .any, .any, .any, .any, .any, .any], B ++ [g.cs], [], []⟩)
        (fun i => some ⟨.tuple [.list 4 (.slot 0 0) ((if insErr (g.ins.drop i) = 0 then g.ins else []).map Vl.pv), I (insErr (g.ins.drop i))], B, []⟩) (fun i => g.ins.length - i) (fun i => i ≤ g.ins.length) ?_ 0 (Nat.zero_le _)).trans ?_
      · intro i hi ih
        by_cases hlt : i < g.ins.length
        · have hc : ((i : Int) < g.ins.length) := by omega
          have hx : g.ins[i]? = some g.ins[i] := List.getElem?_eq_getElem hlt
          have hw := i64c i (by omega)
          have hn := ih (i + 1) (by omega) (by omega)
          rw [List.drop_eq_getElem_cons hlt, insErr]
          cases hm : g.ins[i].s.may
          · simp only [push_cast, reduceCtorEq, List.reduceReplicate, Nat.reduceBEq, Nat.reduceAdd, Nat.reduceSub, Nat.reduceMul, Nat.reduceLT, Nat.reduceLeDiff, ↓reduceIte, Int.reduceNeg, Int.reduceLT, Int.reduceLE, Int.reduceAdd, Int.reduceSub, Int.reduceMul, Int.reduceToNat, Int.reduceNegSucc, Nat.reduceSucc, Int.reduceEq, Nat.reduceEqDiff, Int.reduceBEq, Int.reduceBNe, hc, hx, hw, c202, hm]
          · cases hz : wi (-128) 127 g.ins[i].z
            · simp only [push_cast, reduceCtorEq, List.reduceReplicate, Nat.reduceBEq, Nat.reduceAdd, Nat.reduceSub, Nat.reduceMul, Nat.reduceLT, Nat.reduceLeDiff, ↓reduceIte, Int.reduceNeg, Int.reduceLT, Int.reduceLE, Int.reduceAdd, Int.reduceSub, Int.reduceMul, Int.reduceToNat, Int.reduceNegSucc, Nat.reduceSucc, Int.reduceEq, Nat.reduceEqDiff, Int.reduceBEq, Int.reduceBNe, hc, hx, hw, c202, hm, c203, hz]
            · simp only [push_cast, reduceCtorEq, List.reduceReplicate, Nat.reduceBEq, Nat.reduceAdd, Nat.reduceSub, Nat.reduceMul, Nat.reduceLT, Nat.reduceLeDiff, ↓reduceIte, Int.reduceNeg, Int.reduceLT, Int.reduceLE, Int.reduceAdd, Int.reduceSub, Int.reduceMul, Int.reduceToNat, Int.reduceNegSucc, Nat.reduceSucc, Int.reduceEq, Nat.reduceEqDiff, Int.reduceBEq, Int.reduceBNe, hc, hx, hw, c202, hm, c203, hz] at hn ⊢
              rw [hn]
        · have hc : ¬ ((i : Int) < g.ins.length) := by omega
          have : i = g.ins.length := by omega
          subst this
          simp only [push_cast, reduceCtorEq, List.reduceReplicate, Nat.reduceBEq, Nat.reduceAdd, Nat.reduceSub, Nat.reduceMul, Nat.reduceLT, Nat.reduceLeDiff, ↓reduceIte, Int.reduceNeg, Int.reduceLT, Int.reduceLE, Int.reduceAdd, Int.reduceSub, Int.reduceMul, Int.reduceToNat, Int.reduceNegSucc, Nat.reduceSucc, Int.reduceEq, Nat.reduceEqDiff, Int.reduceBEq, Int.reduceBNe, hc, List.drop_length, insErr, c204 g.ins (by omega)]
      · simp only [List.drop_zero]
        split
        · rename_i h; simp [h]
        · rfl
end Go.Q
