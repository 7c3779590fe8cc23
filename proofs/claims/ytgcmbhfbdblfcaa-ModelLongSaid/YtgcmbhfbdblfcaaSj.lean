/-
  quiltref03.Values.
-/
import Derived.Test.YtgcmbhfbdblfcaaSi
set_option linter.unusedVariables false
set_option linter.unusedSimpArgs false
set_option maxRecDepth 10000
set_option maxHeartbeats 4000000
namespace Go.Q
open Go.Proofs
theorem pick1_some {vals : List Vl} {a : Int} : (pick1 vals a).isSome = wi 0 ((vals.length : Int) - 1) a := by
  unfold pick1
  cases h : wi 0 ((vals.length : Int) - 1) a
  · rfl
  · have := wi_iff.1 h
    rw [if_pos rfl, List.getElem?_eq_getElem (by omega)]; rfl
theorem pickF_isSome (vals : List Vl) : ∀ l : List Int, (pickF vals l).isSome = l.all (wi 0 ((vals.length : Int) - 1))
  | [] => rfl
  | a :: l => by
    rw [List.all_cons, ← pick1_some, ← pickF_isSome vals l, pickF]
    cases pick1 vals a <;> simp
abbrev valsP (B : List (List PV)) (v : List Vl × Int) : Option Out := some ⟨.tuple [.list 4 (.slot 0 0) (v.1.map Vl.pv), I v.2], B, []⟩
theorem c36 (g : Gr) (hg : g.Fin) (B : List (List PV)) : callW tcfg 36 [g.pv] B = valsP B (gvals g) := by
  refine callW_of_fin (n := 150) (ids := none) rfl Try.func36 rfl rfl rfl ?_ rfl
  unfold gvals goesF
  by_cases h1 : (decide (4 < g.ins.length) || (decide (12 < g.nodes.length) || decide (4 < g.outs.length))) = true
  · rw [if_pos h1]
    have h1' : (decide ((4 : Int) < g.ins.length) || (decide ((12 : Int) < g.nodes.length) || decide ((4 : Int) < g.outs.length))) = true := by simp at h1 ⊢; omega
    simp only [push_cast, reduceCtorEq, List.reduceReplicate, Nat.reduceBEq, Nat.reduceAdd, Nat.reduceSub, Nat.reduceMul, Nat.reduceLT, Nat.reduceLeDiff, ↓reduceIte, Int.reduceNeg, Int.reduceLT, Int.reduceLE, Int.reduceAdd, Int.reduceSub, Int.reduceMul, Int.reduceToNat, Int.reduceNegSucc, Nat.reduceSucc, Int.reduceEq, Nat.reduceEqDiff, Int.reduceBEq, Int.reduceBNe, h1']
    rfl
  · rw [if_neg h1]
    have h1' : (decide ((4 : Int) < g.ins.length) || (decide ((12 : Int) < g.nodes.length) || decide ((4 : Int) < g.outs.length))) = false := by simp at h1 ⊢; omega
    by_cases h2 : (decide (g.ins.length = 0) || decide (g.outs.length = 0)) = true
    · rw [if_pos h2]
      have h2' : (decide ((g.ins.length : Int) = 0) || decide ((g.outs.length : Int) = 0)) = true := by simp at h2 ⊢; omega
      simp only [push_cast, reduceCtorEq, List.reduceReplicate, Nat.reduceBEq, Nat.reduceAdd, Nat.reduceSub, Nat.reduceMul, Nat.reduceLT, Nat.reduceLeDiff, ↓reduceIte, Int.reduceNeg, Int.reduceLT, Int.reduceLE, Int.reduceAdd, Int.reduceSub, Int.reduceMul, Int.reduceToNat, Int.reduceNegSucc, Nat.reduceSucc, Int.reduceEq, Nat.reduceEqDiff, Int.reduceBEq, Int.reduceBNe, h1', h2']
      rfl
    · rw [if_neg h2]
      have h2' : (decide ((g.ins.length : Int) = 0) || decide ((g.outs.length : Int) = 0)) = false := by simp at h2 ⊢; omega
      have hlen : g.ins.length ≤ 4 ∧ g.nodes.length ≤ 12 ∧ g.outs.length ≤ 4 := by simp at h1; omega
      simp only [push_cast, reduceCtorEq, List.reduceReplicate, Nat.reduceBEq, Nat.reduceAdd, Nat.reduceSub, Nat.reduceMul, Nat.reduceLT, Nat.reduceLeDiff, ↓reduceIte, Int.reduceNeg, Int.reduceLT, Int.reduceLE, Int.reduceAdd, Int.reduceSub, Int.reduceMul, Int.reduceToNat, Int.reduceNegSucc, Nat.reduceSucc, Int.reduceEq, Nat.reduceEqDiff, Int.reduceBEq, Int.reduceBNe, h1', h2']
      refine (lp_ind (rest := (fun r => finR _ _ _ _ (thenEv _ _ _ (blockEv _ (r))))) (fun i : Nat => ⟨[.any, .ptr B.length 0, .any, .any, .list 4 (.slot 4 0) ((g.ins.take i).map Vl.pv), I i, .any, .any, .any, .any, .any, .any, .any, .any, .any, .any, .any, .any, .any, .any, .any, .any, .any, .any, .any, .any, .any, .any, .any, .any, .any, .any, .any, .any, .any, .any, .any, .any, .any, .any, .any, .any, .any, .any, .any, .any, .any, .any, .any, .any, .any, .any, .any, .any, .any, .any, .any, .any, .any, .any, .any, .any, .any, .any, .any, .any, .any, .any, .any, .any, .any, .any, .any, .any, .any, .any, .any, .any, .any, .any, .any, .any, .any, .any, .any, .any, .any, .any, .any, .any, .any, .any, .any, .any, .any, .any, .any, .any, .any, .any, .any, .any, .any, .any, .any, .any, .any, .any, .any, .any, .any, .any, .any, .any, .any, .any, .any, .any, .any, .any, .any, .any, .any, .any, .any, .any, .any, .any, .any, .any, .any, .any, .any, .any, .any, .any, .any, .any, .any, .any, .any, .any, .any, .any, .any, .any, .any, .any, .any, .any, .any], B ++ [g.cs], [], []⟩)
        (fun i => valsP B (if insErr (g.ins.drop i) = 0 then valsR g.outs g.nodes g.ins 0 else ([], insErr (g.ins.drop i)))) (fun i => g.ins.length - i) (fun i => i ≤ g.ins.length) ?_ 0 (Nat.zero_le _)).trans ?_
      · intro i hi ih
        by_cases hlt : i < g.ins.length
        · have hc : ((i : Int) < g.ins.length) := by omega
          obtain ⟨v, hv⟩ : ∃ v, v = g.ins[i] := ⟨_, rfl⟩
          have hx : g.ins[i]? = some v := by rw [hv]; exact List.getElem?_eq_getElem hlt
          have hw := i64c i (by omega)
          rw [List.drop_eq_getElem_cons hlt, ← hv, insErr]
          cases hm : v.s.may
          · simp only [push_cast, reduceCtorEq, List.reduceReplicate, Nat.reduceBEq, Nat.reduceAdd, Nat.reduceSub, Nat.reduceMul, Nat.reduceLT, Nat.reduceLeDiff, ↓reduceIte, Int.reduceNeg, Int.reduceLT, Int.reduceLE, Int.reduceAdd, Int.reduceSub, Int.reduceMul, Int.reduceToNat, Int.reduceNegSucc, Nat.reduceSucc, Int.reduceEq, Nat.reduceEqDiff, Int.reduceBEq, Int.reduceBNe, hc, hx, hw, c88, hm]
            rfl
          · cases hz : wi (-128) 127 v.z
            · simp only [push_cast, reduceCtorEq, List.reduceReplicate, Nat.reduceBEq, Nat.reduceAdd, Nat.reduceSub, Nat.reduceMul, Nat.reduceLT, Nat.reduceLeDiff, ↓reduceIte, Int.reduceNeg, Int.reduceLT, Int.reduceLE, Int.reduceAdd, Int.reduceSub, Int.reduceMul, Int.reduceToNat, Int.reduceNegSucc, Nat.reduceSucc, Int.reduceEq, Nat.reduceEqDiff, Int.reduceBEq, Int.reduceBNe, hc, hx, hw, c88, hm, c89, hz]
              rfl
            · have hn := ih (i + 1) (by omega) (by omega)
              have ht : g.ins.take (i + 1) = g.ins.take i ++ [v] := by rw [List.take_add_one, hx]; rfl
              have hroom : (g.ins.take i).length + 1 ≤ 4294967296 := by rw [List.length_take]; omega
              simp only [Bool.true_eq_false, if_false]
              rw [ht] at hn
              simp only [push_cast, reduceCtorEq, List.reduceReplicate, Nat.reduceBEq, Nat.reduceAdd, Nat.reduceSub, Nat.reduceMul, Nat.reduceLT, Nat.reduceLeDiff, ↓reduceIte, Int.reduceNeg, Int.reduceLT, Int.reduceLE, Int.reduceAdd, Int.reduceSub, Int.reduceMul, Int.reduceToNat, Int.reduceNegSucc, Nat.reduceSucc, Int.reduceEq, Nat.reduceEqDiff, Int.reduceBEq, Int.reduceBNe, hc, hx, hw, c88, hm, c89, hz, hroom, List.map_append] at hn ⊢
              rw [hn]
        · have hc : ¬ ((i : Int) < g.ins.length) := by omega
          have : i = g.ins.length := by omega
          subst this
          simp only [push_cast, reduceCtorEq, List.reduceReplicate, Nat.reduceBEq, Nat.reduceAdd, Nat.reduceSub, Nat.reduceMul, Nat.reduceLT, Nat.reduceLeDiff, ↓reduceIte, Int.reduceNeg, Int.reduceLT, Int.reduceLE, Int.reduceAdd, Int.reduceSub, Int.reduceMul, Int.reduceToNat, Int.reduceNegSucc, Nat.reduceSucc, Int.reduceEq, Nat.reduceEqDiff, Int.reduceBEq, Int.reduceBNe, hc, List.drop_length, insErr, List.take_length, if_true]
          refine (lp_ind (rest := (fun r => finR _ _ _ _ (thenEv _ _ _ (blockEv _ (r))))) (fun p : Nat × List Vl × Int => ⟨[.any, .ptr B.length 0, .any, .any, .list 4 (.slot 4 0) (p.2.1.map Vl.pv), .any, I p.2.2, I p.1, .any, .any, .any, .any, .any, .any, .any, .any, .any, .any, .any, .any, .any, .any, .any, .any, .any, .any, .any, .any, .any, .any, .any, .any, .any, .any, .any, .any, .any, .any, .any, .any, .any, .any, .any, .any, .any, .any, .any, .any, .any, .any, .any, .any, .any, .any, .any, .any, .any, .any, .any, .any, .any, .any, .any, .any, .any, .any, .any, .any, .any, .any, .any, .any, .any, .any, .any, .any, .any, .any, .any, .any, .any, .any, .any, .any, .any, .any, .any, .any, .any, .any, .any, .any, .any, .any, .any, .any, .any, .any, .any, .any, .any, .any, .any, .any, .any, .any, .any, .any, .any, .any, .any, .any, .any, .any, .any, .any, .any, .any, .any, .any, .any, .any, .any, .any, .any, .any, .any, .any, .any, .any, .any, .any, .any, .any, .any, .any, .any, .any, .any, .any, .any, .any, .any, .any, .any, .any, .any, .any, .any, .any, .any], B ++ [g.cs], [], []⟩)
            (fun p => valsP B (valsR g.outs (g.nodes.drop p.1) p.2.1 p.2.2))
            (fun p => g.nodes.length - p.1) (fun p => p.1 ≤ g.nodes.length ∧ p.2.1.length = g.ins.length + p.1 ∧ 0 ≤ p.2.2 ∧ p.2.2 ≤ p.1 * 2^31) ?_ (0, g.ins, 0) ⟨Nat.zero_le _, rfl, Int.le_refl 0, by simp⟩).trans ?_
          · rintro ⟨i, vals, w⟩ ⟨hi, hv, hw0, hw1⟩ ih
            simp only at hi hv hw0 hw1
            have hvl : vals.length < 2^40 := by omega
            have hwv : IntKind.i64.wrap ((vals.length : Int) - 1) = (vals.length : Int) - 1 := IntWalk.i64_in _ (by omega)
            by_cases hlt : i < g.nodes.length
            · have hc : ((i : Int) < g.nodes.length) := by omega
              obtain ⟨n, hn0⟩ : ∃ n, n = g.nodes[i] := ⟨_, rfl⟩
              have hx : g.nodes[i]? = some n := by rw [hn0]; exact List.getElem?_eq_getElem hlt
              have hf := hg.nodes n (List.mem_of_getElem? hx)
              have hfi := hf.ins
              have hw := i64c i (by omega)
              rw [List.drop_eq_getElem_cons hlt, ← hn0, valsR]
              simp only [push_cast, reduceCtorEq, List.reduceReplicate, Nat.reduceBEq, Nat.reduceAdd, Nat.reduceSub, Nat.reduceMul, Nat.reduceLT, Nat.reduceLeDiff, ↓reduceIte, Int.reduceNeg, Int.reduceLT, Int.reduceLE, Int.reduceAdd, Int.reduceSub, Int.reduceMul, Int.reduceToNat, Int.reduceNegSucc, Nat.reduceSucc, Int.reduceEq, Nat.reduceEqDiff, Int.reduceBEq, Int.reduceBNe, hc, hx]
              refine (lp_ind (rest := (fun r => finR _ _ _ _ (thenEv _ _ _ (blockEv _ (lpNext _ _ _ (roundOf _ _ _ (thenEv _ _ _ (blockEv _ (thenEv _ _ _ (blockEv _ (r))))))))))) (fun p : Nat × List Vl => ⟨[.any, .ptr B.length 0, .any, .any, .list 4 (.slot 4 0) (vals.map Vl.pv), .any, I w, I i, .ptr (B.length + 1) 0, .list 4 (.slot 9 0) (p.2.map Vl.pv), I p.1, .any, .any, .any, .any, .any, .any, .any, .any, .any, .any, .any, .any, .any, .any, .any, .any, .any, .any, .any, .any, .any, .any, .any, .any, .any, .any, .any, .any, .any, .any, .any, .any, .any, .any, .any, .any, .any, .any, .any, .any, .any, .any, .any, .any, .any, .any, .any, .any, .any, .any, .any, .any, .any, .any, .any, .any, .any, .any, .any, .any, .any, .any, .any, .any, .any, .any, .any, .any, .any, .any, .any, .any, .any, .any, .any, .any, .any, .any, .any, .any, .any, .any, .any, .any, .any, .any, .any, .any, .any, .any, .any, .any, .any, .any, .any, .any, .any, .any, .any, .any, .any, .any, .any, .any, .any, .any, .any, .any, .any, .any, .any, .any, .any, .any, .any, .any, .any, .any, .any, .any, .any, .any, .any, .any, .any, .any, .any, .any, .any, .any, .any, .any, .any, .any, .any, .any, .any, .any, .any, .any], B ++ [g.cs, n.cs], [], [B.length + 1]⟩)
                (fun p => match pickF vals (n.ins.drop p.1) with
                  | none => valsP B ([], 13)
                  | some r => valsP B (if (valueF n (p.2 ++ r)).2 = 0 then valsR g.outs (g.nodes.drop (i + 1)) (vals ++ [(valueF n (p.2 ++ r)).1]) (w + n.w.length) else ([], (valueF n (p.2 ++ r)).2)))
                (fun p => n.ins.length - p.1) (fun p => p.1 ≤ n.ins.length ∧ p.2.length = p.1) ?_ (0, []) ⟨Nat.zero_le _, rfl⟩).trans ?_
              · rintro ⟨k, acc⟩ ⟨hk, hacc⟩ ihk
                simp only at hk hacc
                by_cases hlk : k < n.ins.length
                · have hck : ((k : Int) < n.ins.length) := by omega
                  obtain ⟨a, ha⟩ : ∃ a, a = n.ins[k] := ⟨_, rfl⟩
                  have hxk : n.ins[k]? = some a := by rw [ha]; exact List.getElem?_eq_getElem hlk
                  have hwk := i64c k (by omega)
                  rw [List.drop_eq_getElem_cons hlk, ← ha, pickF]
                  cases hp : wi 0 ((vals.length : Int) - 1) a
                  · have e : pick1 vals a = none := by simp [pick1, hp]
                    simp only [push_cast, reduceCtorEq, List.reduceReplicate, Nat.reduceBEq, Nat.reduceAdd, Nat.reduceSub, Nat.reduceMul, Nat.reduceLT, Nat.reduceLeDiff, ↓reduceIte, Int.reduceNeg, Int.reduceLT, Int.reduceLE, Int.reduceAdd, Int.reduceSub, Int.reduceMul, Int.reduceToNat, Int.reduceNegSucc, Nat.reduceSucc, Int.reduceEq, Nat.reduceEqDiff, Int.reduceBEq, Int.reduceBNe, hck, hxk, hwv, c89, hp, e]
                    rfl
                  · have hb := wi_iff.1 hp
                    obtain ⟨j, hj⟩ : ∃ j : Nat, (j : Int) = a := ⟨a.toNat, by omega⟩
                    have hj2 : j < vals.length := by omega
                    have hv2 : vals[j]? = some vals[j] := List.getElem?_eq_getElem hj2
                    have e : pick1 vals a = some vals[j] := by rw [pick1, hp, ← hj]; simp [hv2]
                    have hn := ihk (k + 1, acc ++ [vals[j]]) (by show _ < _; omega) ⟨by show _ ≤ _; omega, by simp [hacc]⟩
                    have hjc : ((j : Int) < vals.length) := by omega
                    have hroom : acc.length + 1 ≤ 4294967296 := by omega
                    rw [e]
                    rw [← hj] at hp
                    simp only [push_cast, reduceCtorEq, List.reduceReplicate, Nat.reduceBEq, Nat.reduceAdd, Nat.reduceSub, Nat.reduceMul, Nat.reduceLT, Nat.reduceLeDiff, ↓reduceIte, Int.reduceNeg, Int.reduceLT, Int.reduceLE, Int.reduceAdd, Int.reduceSub, Int.reduceMul, Int.reduceToNat, Int.reduceNegSucc, Nat.reduceSucc, Int.reduceEq, Nat.reduceEqDiff, Int.reduceBEq, Int.reduceBNe, hck, hxk, hwk, hwv, c89, hp, ← hj, hv2, hjc, hroom, List.map_append] at hn ⊢
                    rw [hn]
                    cases pickF vals (n.ins.drop (k + 1)) <;> simp
                · have hck : ¬ ((k : Int) < n.ins.length) := by omega
                  have : k = n.ins.length := by omega
                  subst this
                  rw [List.drop_length, pickF]
                  simp only [List.append_nil]
                  have h90 := c90 n acc (by omega) (by have := hf.b; omega)
                  by_cases he : (valueF n acc).2 = 0
                  · have hroom : vals.length + 1 ≤ 4294967296 := by omega
                    have hww : IntKind.i64.wrap (w + n.w.length) = w + n.w.length := by have := hf.w; exact IntWalk.i64_in _ (by omega)
                    have hn := ih (i + 1, vals ++ [(valueF n acc).1], w + n.w.length) (by show _ < _; omega) ⟨by show _ ≤ _; omega, by simp; omega, by show 0 ≤ w + (n.w.length : Int); omega, by have := hf.w; show w + n.w.length ≤ ((i + 1 : Nat) : Int) * 2 ^ 31; omega⟩
                    simp only [push_cast, reduceCtorEq, List.reduceReplicate, Nat.reduceBEq, Nat.reduceAdd, Nat.reduceSub, Nat.reduceMul, Nat.reduceLT, Nat.reduceLeDiff, ↓reduceIte, Int.reduceNeg, Int.reduceLT, Int.reduceLE, Int.reduceAdd, Int.reduceSub, Int.reduceMul, Int.reduceToNat, Int.reduceNegSucc, Nat.reduceSucc, Int.reduceEq, Nat.reduceEqDiff, Int.reduceBEq, Int.reduceBNe, hck, hw, h90, he, hroom, hww, List.map_append] at hn ⊢
                    rw [hn]
                  · have he' : decide ((valueF n acc).2 = 0) = false := by simp [he]
                    simp only [push_cast, reduceCtorEq, List.reduceReplicate, Nat.reduceBEq, Nat.reduceAdd, Nat.reduceSub, Nat.reduceMul, Nat.reduceLT, Nat.reduceLeDiff, ↓reduceIte, Int.reduceNeg, Int.reduceLT, Int.reduceLE, Int.reduceAdd, Int.reduceSub, Int.reduceMul, Int.reduceToNat, Int.reduceNegSucc, Nat.reduceSucc, Int.reduceEq, Nat.reduceEqDiff, Int.reduceBEq, Int.reduceBNe, hck, hw, h90, he, he']
                    rfl
              · simp only [List.drop_zero, List.nil_append]
                cases pickF vals n.ins with
                | none => rfl
                | some r => rfl
            · have hc : ¬ ((i : Int) < g.nodes.length) := by omega
              have : i = g.nodes.length := by omega
              subst this
              rw [List.drop_length, valsR]
              by_cases h4 : 4096 < w
              · simp only [push_cast, reduceCtorEq, List.reduceReplicate, Nat.reduceBEq, Nat.reduceAdd, Nat.reduceSub, Nat.reduceMul, Nat.reduceLT, Nat.reduceLeDiff, ↓reduceIte, Int.reduceNeg, Int.reduceLT, Int.reduceLE, Int.reduceAdd, Int.reduceSub, Int.reduceMul, Int.reduceToNat, Int.reduceNegSucc, Nat.reduceSucc, Int.reduceEq, Nat.reduceEqDiff, Int.reduceBEq, Int.reduceBNe, hc, h4]
                rfl
              · simp only [push_cast, reduceCtorEq, List.reduceReplicate, Nat.reduceBEq, Nat.reduceAdd, Nat.reduceSub, Nat.reduceMul, Nat.reduceLT, Nat.reduceLeDiff, ↓reduceIte, Int.reduceNeg, Int.reduceLT, Int.reduceLE, Int.reduceAdd, Int.reduceSub, Int.reduceMul, Int.reduceToNat, Int.reduceNegSucc, Nat.reduceSucc, Int.reduceEq, Nat.reduceEqDiff, Int.reduceBEq, Int.reduceBNe, hc, h4, pickF_isSome]
                refine (lp_ind (rest := (fun r => finR _ _ _ _ (thenEv _ _ _ (blockEv _ (r))))) (fun i : Nat => ⟨[.any, .ptr B.length 0, .any, .any, .list 4 (.slot 4 0) (vals.map Vl.pv), .any, .any, .any, .any, .any, .any, .any, .any, I i, .any, .any, .any, .any, .any, .any, .any, .any, .any, .any, .any, .any, .any, .any, .any, .any, .any, .any, .any, .any, .any, .any, .any, .any, .any, .any, .any, .any, .any, .any, .any, .any, .any, .any, .any, .any, .any, .any, .any, .any, .any, .any, .any, .any, .any, .any, .any, .any, .any, .any, .any, .any, .any, .any, .any, .any, .any, .any, .any, .any, .any, .any, .any, .any, .any, .any, .any, .any, .any, .any, .any, .any, .any, .any, .any, .any, .any, .any, .any, .any, .any, .any, .any, .any, .any, .any, .any, .any, .any, .any, .any, .any, .any, .any, .any, .any, .any, .any, .any, .any, .any, .any, .any, .any, .any, .any, .any, .any, .any, .any, .any, .any, .any, .any, .any, .any, .any, .any, .any, .any, .any, .any, .any, .any, .any, .any, .any, .any, .any, .any, .any, .any, .any, .any, .any, .any, .any], B ++ [g.cs], [], []⟩)
                  (fun i => valsP B (if ((g.outs.drop i).all (wi 0 ((vals.length : Int) - 1))) = true then (vals, 0) else ([], 13))) (fun i => g.outs.length - i) (fun i => i ≤ g.outs.length) ?_ 0 (Nat.zero_le _)).trans ?_
                · intro i hi ih
                  by_cases hlt : i < g.outs.length
                  · have hc : ((i : Int) < g.outs.length) := by omega
                    obtain ⟨v, hv⟩ : ∃ v, v = g.outs[i] := ⟨_, rfl⟩
                    have hx : g.outs[i]? = some v := by rw [hv]; exact List.getElem?_eq_getElem hlt
                    have hw := i64c i (by omega)
                    rw [List.drop_eq_getElem_cons hlt, ← hv, List.all_cons]
                    cases hz : wi 0 ((vals.length : Int) - 1) v
                    · simp only [push_cast, reduceCtorEq, List.reduceReplicate, Nat.reduceBEq, Nat.reduceAdd, Nat.reduceSub, Nat.reduceMul, Nat.reduceLT, Nat.reduceLeDiff, ↓reduceIte, Int.reduceNeg, Int.reduceLT, Int.reduceLE, Int.reduceAdd, Int.reduceSub, Int.reduceMul, Int.reduceToNat, Int.reduceNegSucc, Nat.reduceSucc, Int.reduceEq, Nat.reduceEqDiff, Int.reduceBEq, Int.reduceBNe, hc, hx, hw, hwv, c89, hz, Bool.false_and]
                      rfl
                    · have hn := ih (i + 1) (by omega) (by omega)
                      simp only [Bool.true_and]
                      simp only [push_cast, reduceCtorEq, List.reduceReplicate, Nat.reduceBEq, Nat.reduceAdd, Nat.reduceSub, Nat.reduceMul, Nat.reduceLT, Nat.reduceLeDiff, ↓reduceIte, Int.reduceNeg, Int.reduceLT, Int.reduceLE, Int.reduceAdd, Int.reduceSub, Int.reduceMul, Int.reduceToNat, Int.reduceNegSucc, Nat.reduceSucc, Int.reduceEq, Nat.reduceEqDiff, Int.reduceBEq, Int.reduceBNe, hc, hx, hw, hwv, c89, hz] at hn ⊢
                      rw [hn]
                  · have hc : ¬ ((i : Int) < g.outs.length) := by omega
                    have : i = g.outs.length := by omega
                    subst this
                    simp only [push_cast, reduceCtorEq, List.reduceReplicate, Nat.reduceBEq, Nat.reduceAdd, Nat.reduceSub, Nat.reduceMul, Nat.reduceLT, Nat.reduceLeDiff, ↓reduceIte, Int.reduceNeg, Int.reduceLT, Int.reduceLE, Int.reduceAdd, Int.reduceSub, Int.reduceMul, Int.reduceToNat, Int.reduceNegSucc, Nat.reduceSucc, Int.reduceEq, Nat.reduceEqDiff, Int.reduceBEq, Int.reduceBNe, hc, List.drop_length, List.all_nil]
                · rfl
          · rfl
      · simp only [List.drop_zero]
        split <;> rename_i h <;> simp [h]
end Go.Q
