/-
  quiltref03.Value, whole.
-/
import Derived.Test.YtgcmbhfbdblfcaaSh
set_option linter.unusedVariables false
set_option linter.unusedSimpArgs false
set_option maxRecDepth 10000
namespace Go.Q
open Go.Proofs
abbrev pairV (B : List (List PV)) (v : Vl × Int) : Option Out := some ⟨.tuple [v.1.pv, I v.2], B, []⟩
def err0 (e : Int) : Vl × Int := (⟨⟨0, 0, 0⟩, 0⟩, e)
theorem c90 (n : Nod) (xs : List Vl) (hl : xs.length < 2^40) (hbl : n.b.length < 2^40) (B : List (List PV)) : callW tcfg 90 [n.pv, .list 4 .ro (xs.map Vl.pv)] B = pairV B (valueF n xs) := by
  refine callW_of_fin (n := 99) (ids := none) rfl Try.func90 rfl rfl rfl ?_ rfl
  cases hm : nodeF n xs.length
  · simp only [push_cast, reduceCtorEq, List.reduceReplicate, Nat.reduceBEq, Nat.reduceAdd, Nat.reduceSub, Nat.reduceMul, Nat.reduceLT, Nat.reduceLeDiff, ↓reduceIte, Int.reduceNeg, Int.reduceLT, Int.reduceLE, Int.reduceAdd, Int.reduceSub, Int.reduceMul, Int.reduceToNat, Int.reduceNegSucc, Nat.reduceSucc, Int.reduceEq, Nat.reduceEqDiff, Int.reduceBEq, Int.reduceBNe, c152, hm, valueF]
  · have hop := nodeF_op hm
    simp only [push_cast, reduceCtorEq, List.reduceReplicate, Nat.reduceBEq, Nat.reduceAdd, Nat.reduceSub, Nat.reduceMul, Nat.reduceLT, Nat.reduceLeDiff, ↓reduceIte, Int.reduceNeg, Int.reduceLT, Int.reduceLE, Int.reduceAdd, Int.reduceSub, Int.reduceMul, Int.reduceToNat, Int.reduceNegSucc, Nat.reduceSucc, Int.reduceEq, Nat.reduceEqDiff, Int.reduceBEq, Int.reduceBNe, c152, hm, valueF, c153]
    refine (lp_ind (rest := (fun r => finR _ _ _ _ (thenEv _ _ _ (blockEv _ (r))))) (fun i : Nat => ⟨[.any, .list 4 .ro (xs.map Vl.pv), .ptr B.length 0, .any, .ptr (B.length + 1) 0, .any, I i, .any, .any, .any, .any, .any, .any, .any, .any, .any, .any, .any, .any, .any, .any, .any, .any, .any, .any, .any, .any, .any, .any, .any, .any, .any, .any, .any, .any, .any, .any, .any, .any, .any, .any, .any, .any, .any, .any, .any, .any, .any, .any, .any, .any, .any, .any, .any, .any, .any, .any, .any, .any, .any, .any, .any, .any, .any, .any, .any, .any, .any, .any, .any, .any, .any, .any, .any, .any, .any, .any, .any, .any, .any, .any, .any, .any, .any, .any, .any, .any, .any, .any, .any, .any, .any, .any, .any, .any, .any, .any, .any, .any, .any, .any], B ++ [n.cs, [I 0, I 0, I 0, I 0]], [], []⟩)
      (fun i => pairV B (if (keepsF n.op && (xs.drop i).any fun v => !decide (v.z = n.zero)) = true then err0 11
         else if (xs.any fun v => !v.s.may) = true then err0 10
         else if (madeF n (headS xs) (lastS xs)).may = false then err0 10
         else if (decide ((n.w.length : Int) = (manyF n (headS xs)).1) && decide ((n.b.length : Int) = (manyF n (headS xs)).2) && !biasBad n) = true then (⟨madeF n (headS xs) (lastS xs), n.zero⟩, 0)
         else err0 12)) (fun i => xs.length - i) (fun i => i ≤ xs.length) ?_ 0 (Nat.zero_le _)).trans ?_
    · intro i hi ih
      by_cases hlt : i < xs.length
      · have hc : ((i : Int) < xs.length) := by omega
        obtain ⟨v, hv⟩ : ∃ v, v = xs[i] := ⟨_, rfl⟩
        have hx : xs[i]? = some v := by rw [hv]; exact List.getElem?_eq_getElem hlt
        have hw := i64c i (by omega)
        have hn := ih (i + 1) (by omega) (by omega)
        rw [List.drop_eq_getElem_cons hlt, ← hv, List.any_cons]
        cases hk : keepsF n.op
        · simp only [hk, Bool.false_and] at hn ⊢
          simp only [push_cast, reduceCtorEq, List.reduceReplicate, Nat.reduceBEq, Nat.reduceAdd, Nat.reduceSub, Nat.reduceMul, Nat.reduceLT, Nat.reduceLeDiff, ↓reduceIte, Int.reduceNeg, Int.reduceLT, Int.reduceLE, Int.reduceAdd, Int.reduceSub, Int.reduceMul, Int.reduceToNat, Int.reduceNegSucc, Nat.reduceSucc, Int.reduceEq, Nat.reduceEqDiff, Int.reduceBEq, Int.reduceBNe, hc, hx, hw, c153, hk] at hn ⊢
          rw [hn]
        · cases hz : decide (v.z = n.zero)
          · simp only [push_cast, reduceCtorEq, List.reduceReplicate, Nat.reduceBEq, Nat.reduceAdd, Nat.reduceSub, Nat.reduceMul, Nat.reduceLT, Nat.reduceLeDiff, ↓reduceIte, Int.reduceNeg, Int.reduceLT, Int.reduceLE, Int.reduceAdd, Int.reduceSub, Int.reduceMul, Int.reduceToNat, Int.reduceNegSucc, Nat.reduceSucc, Int.reduceEq, Nat.reduceEqDiff, Int.reduceBEq, Int.reduceBNe, hc, hx, hw, c153, hk, hz, Bool.not_false, Bool.true_or]
            rfl
          · simp only [hk, hz, Bool.true_and, Bool.not_true, Bool.false_or] at hn ⊢
            simp only [push_cast, reduceCtorEq, List.reduceReplicate, Nat.reduceBEq, Nat.reduceAdd, Nat.reduceSub, Nat.reduceMul, Nat.reduceLT, Nat.reduceLeDiff, ↓reduceIte, Int.reduceNeg, Int.reduceLT, Int.reduceLE, Int.reduceAdd, Int.reduceSub, Int.reduceMul, Int.reduceToNat, Int.reduceNegSucc, Nat.reduceSucc, Int.reduceEq, Nat.reduceEqDiff, Int.reduceBEq, Int.reduceBNe, hc, hx, hw, c153, hk, hz] at hn ⊢
            rw [hn]
      · have hc : ¬ ((i : Int) < xs.length) := by omega
        have : i = xs.length := by omega
        subst this
        simp only [push_cast, reduceCtorEq, List.reduceReplicate, Nat.reduceBEq, Nat.reduceAdd, Nat.reduceSub, Nat.reduceMul, Nat.reduceLT, Nat.reduceLeDiff, ↓reduceIte, Int.reduceNeg, Int.reduceLT, Int.reduceLE, Int.reduceAdd, Int.reduceSub, Int.reduceMul, Int.reduceToNat, Int.reduceNegSucc, Nat.reduceSucc, Int.reduceEq, Nat.reduceEqDiff, Int.reduceBEq, Int.reduceBNe, hc, List.drop_length, List.any_nil]
        refine (lp_ind (rest := (fun r => finR _ _ _ _ (thenEv _ _ _ (blockEv _ (r))))) (fun i : Nat => ⟨[.any, .list 4 .ro (xs.map Vl.pv), .ptr B.length 0, .any, .ptr (B.length + 1) 0, .any, .any, I i, .any, .any, .any, .any, .any, .any, .any, .any, .any, .any, .any, .any, .any, .any, .any, .any, .any, .any, .any, .any, .any, .any, .any, .any, .any, .any, .any, .any, .any, .any, .any, .any, .any, .any, .any, .any, .any, .any, .any, .any, .any, .any, .any, .any, .any, .any, .any, .any, .any, .any, .any, .any, .any, .any, .any, .any, .any, .any, .any, .any, .any, .any, .any, .any, .any, .any, .any, .any, .any, .any, .any, .any, .any, .any, .any, .any, .any, .any, .any, .any, .any, .any, .any, .any, .any, .any, .any, .any, .any, .any, .any, .any, .any], B ++ [n.cs, [I 0, I 0, I 0, I 0]], [], []⟩)
          (fun i => pairV B (if ((xs.drop i).any fun v => !v.s.may) = true then err0 10
             else if (madeF n (headS xs) (lastS xs)).may = false then err0 10
             else if (decide ((n.w.length : Int) = (manyF n (headS xs)).1) && decide ((n.b.length : Int) = (manyF n (headS xs)).2) && !biasBad n) = true then (⟨madeF n (headS xs) (lastS xs), n.zero⟩, 0)
             else err0 12)) (fun i => xs.length - i) (fun i => i ≤ xs.length ∧ ((xs.take i).any fun v => !v.s.may) = false) ?_ 0 ⟨Nat.zero_le _, rfl⟩).trans ?_
        · rintro i ⟨hi, hpre⟩ ih
          by_cases hlt : i < xs.length
          · have hc : ((i : Int) < xs.length) := by omega
            obtain ⟨v, hv⟩ : ∃ v, v = xs[i] := ⟨_, rfl⟩
            have hx : xs[i]? = some v := by rw [hv]; exact List.getElem?_eq_getElem hlt
            have hw := i64c i (by omega)
            rw [List.drop_eq_getElem_cons hlt, ← hv, List.any_cons]
            cases hs : v.s.may
            · simp only [push_cast, reduceCtorEq, List.reduceReplicate, Nat.reduceBEq, Nat.reduceAdd, Nat.reduceSub, Nat.reduceMul, Nat.reduceLT, Nat.reduceLeDiff, ↓reduceIte, Int.reduceNeg, Int.reduceLT, Int.reduceLE, Int.reduceAdd, Int.reduceSub, Int.reduceMul, Int.reduceToNat, Int.reduceNegSucc, Nat.reduceSucc, Int.reduceEq, Nat.reduceEqDiff, Int.reduceBEq, Int.reduceBNe, hc, hx, hw, c88, hs, Bool.not_false, Bool.true_or]
              rfl
            · have hn := ih (i + 1) (by omega) ⟨by omega, by rw [List.take_add_one, hx, List.any_append, hpre]; simp [hs]⟩
              simp only [hs, Bool.not_true, Bool.false_or]
              simp only [push_cast, reduceCtorEq, List.reduceReplicate, Nat.reduceBEq, Nat.reduceAdd, Nat.reduceSub, Nat.reduceMul, Nat.reduceLT, Nat.reduceLeDiff, ↓reduceIte, Int.reduceNeg, Int.reduceLT, Int.reduceLE, Int.reduceAdd, Int.reduceSub, Int.reduceMul, Int.reduceToNat, Int.reduceNegSucc, Nat.reduceSucc, Int.reduceEq, Nat.reduceEqDiff, Int.reduceBEq, Int.reduceBNe, hc, hx, hw, c88, hs] at hn ⊢
              rw [hn]
          · have hc2 : ¬ ((i : Int) < xs.length) := by omega
            have : i = xs.length := by omega
            subst this
            have hall : (xs.any fun v => !v.s.may) = false := by rw [List.take_length] at hpre; exact hpre
            have hlen := nodeF_len hm
            obtain ⟨a, ha⟩ : ∃ a, xs[0]? = some a := ⟨xs[0], List.getElem?_eq_getElem (by omega)⟩
            have hk3 : ((0 : Int) < xs.length) := by omega
            have hma : a.s.may = true := by simpa using (List.any_eq_false.1 hall) a (List.mem_of_getElem? ha)
            have e1 : headS xs = a.s := by rw [headS, List.head?_eq_getElem?, ha]; rfl
            have h154 := c154 n xs hm hall
            have hmw := manyW_eq n a.s hma hm
            rw [e1] at h154 ⊢
            simp only [push_cast, reduceCtorEq, List.reduceReplicate, Nat.reduceBEq, Nat.reduceAdd, Nat.reduceSub, Nat.reduceMul, Nat.reduceLT, Nat.reduceLeDiff, ↓reduceIte, Int.reduceNeg, Int.reduceLT, Int.reduceLE, Int.reduceAdd, Int.reduceSub, Int.reduceMul, Int.reduceToNat, Int.reduceNegSucc, Nat.reduceSucc, Int.reduceEq, Nat.reduceEqDiff, Int.reduceBEq, Int.reduceBNe, hc2, List.drop_length, List.any_nil, h154, c88]
            generalize hs : madeF n a.s (lastS xs) = s
            cases hsm : s.may
            · simp only [cnd_f, cnd_t, push_cast, reduceCtorEq, List.reduceReplicate, Nat.reduceBEq, Nat.reduceAdd, Nat.reduceSub, Nat.reduceMul, Nat.reduceLT, Nat.reduceLeDiff, ↓reduceIte, Int.reduceNeg, Int.reduceLT, Int.reduceLE, Int.reduceAdd, Int.reduceSub, Int.reduceMul, Int.reduceToNat, Int.reduceNegSucc, Nat.reduceSucc, Int.reduceEq, Nat.reduceEqDiff, Int.reduceBEq, Int.reduceBNe]
              rfl
            · simp only [push_cast, reduceCtorEq, List.reduceReplicate, Nat.reduceBEq, Nat.reduceAdd, Nat.reduceSub, Nat.reduceMul, Nat.reduceLT, Nat.reduceLeDiff, ↓reduceIte, Int.reduceNeg, Int.reduceLT, Int.reduceLE, Int.reduceAdd, Int.reduceSub, Int.reduceMul, Int.reduceToNat, Int.reduceNegSucc, Nat.reduceSucc, Int.reduceEq, Nat.reduceEqDiff, Int.reduceBEq, Int.reduceBNe, ha, hk3, c155, hmw]
              by_cases g1 : (n.w.length : Int) = (manyF n a.s).1
              · by_cases g2 : (n.b.length : Int) = (manyF n a.s).2
                · simp only [g1, g2, decide_true, Bool.not_true, Bool.or_self, cnd_f, Bool.and_self, Bool.true_and]
                  refine (lp_ind (rest := (fun r => finR _ _ _ _ (thenEv _ _ _ (blockEv _ (r))))) (fun i : Nat => ⟨[.any, .any, .ptr B.length 0, .any, .ptr (B.length + 1) 0, .any, .any, .any, .ptr (B.length + 2) 0, .any, .any, I i, .any, .any, .any, .any, .any, .any, .any, .any, .any, .any, .any, .any, .any, .any, .any, .any, .any, .any, .any, .any, .any, .any, .any, .any, .any, .any, .any, .any, .any, .any, .any, .any, .any, .any, .any, .any, .any, .any, .any, .any, .any, .any, .any, .any, .any, .any, .any, .any, .any, .any, .any, .any, .any, .any, .any, .any, .any, .any, .any, .any, .any, .any, .any, .any, .any, .any, .any, .any, .any, .any, .any, .any, .any, .any, .any, .any, .any, .any, .any, .any, .any, .any, .any, .any, .any, .any, .any, .any, .any], B ++ [n.cs, [I 0, I 0, I 0, I 0], [I s.h, I s.w, I s.c]], [], [B.length + 2]⟩)
                    (fun i => pairV B (if (!(n.b.drop i).any fun x => !wi (-16777216) 16777216 (w64 x)) = true then (⟨s, n.zero⟩, 0) else err0 12)) (fun i => n.b.length - i) (fun i => i ≤ n.b.length) ?_ 0 (Nat.zero_le _)).trans ?_
                  · intro i hi ih
                    by_cases hlt : i < n.b.length
                    · have hc : ((i : Int) < n.b.length) := by omega
                      obtain ⟨v, hv⟩ : ∃ v, v = n.b[i] := ⟨_, rfl⟩
                      have hx : n.b[i]? = some v := by rw [hv]; exact List.getElem?_eq_getElem hlt
                      have hw := i64c i (by omega)
                      rw [List.drop_eq_getElem_cons hlt, ← hv, List.any_cons]
                      cases hz : wi (-16777216) 16777216 (w64 v)
                      · simp only [push_cast, reduceCtorEq, List.reduceReplicate, Nat.reduceBEq, Nat.reduceAdd, Nat.reduceSub, Nat.reduceMul, Nat.reduceLT, Nat.reduceLeDiff, ↓reduceIte, Int.reduceNeg, Int.reduceLT, Int.reduceLE, Int.reduceAdd, Int.reduceSub, Int.reduceMul, Int.reduceToNat, Int.reduceNegSucc, Nat.reduceSucc, Int.reduceEq, Nat.reduceEqDiff, Int.reduceBEq, Int.reduceBNe, hc, hx, hw, c89, hz, Bool.not_false, Bool.true_or, Bool.not_true]
                        rfl
                      · have hn := ih (i + 1) (by omega) (by omega)
                        simp only [hz, Bool.not_true, Bool.false_or]
                        simp only [push_cast, reduceCtorEq, List.reduceReplicate, Nat.reduceBEq, Nat.reduceAdd, Nat.reduceSub, Nat.reduceMul, Nat.reduceLT, Nat.reduceLeDiff, ↓reduceIte, Int.reduceNeg, Int.reduceLT, Int.reduceLE, Int.reduceAdd, Int.reduceSub, Int.reduceMul, Int.reduceToNat, Int.reduceNegSucc, Nat.reduceSucc, Int.reduceEq, Nat.reduceEqDiff, Int.reduceBEq, Int.reduceBNe, hc, hx, hw, c89, hz] at hn ⊢
                        rw [hn]
                    · have hc : ¬ ((i : Int) < n.b.length) := by omega
                      have : i = n.b.length := by omega
                      subst this
                      simp only [push_cast, reduceCtorEq, List.reduceReplicate, Nat.reduceBEq, Nat.reduceAdd, Nat.reduceSub, Nat.reduceMul, Nat.reduceLT, Nat.reduceLeDiff, ↓reduceIte, Int.reduceNeg, Int.reduceLT, Int.reduceLE, Int.reduceAdd, Int.reduceSub, Int.reduceMul, Int.reduceToNat, Int.reduceNegSucc, Nat.reduceSucc, Int.reduceEq, Nat.reduceEqDiff, Int.reduceBEq, Int.reduceBNe, hc, List.drop_length, List.any_nil, Bool.not_false]
                  · rfl
                · simp [g1, g2, cnd, err0]
              · simp [g1, cnd, err0]
        · rfl
    · rfl
end Go.Q
