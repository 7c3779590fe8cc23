/-
  The statements of chapter 4: what they share.
-/
import Derived.Test.YtgcmbhfbdblfcaaSl
import Derived.Test.YtgcmbhfbdblfcaaQu
set_option linter.unusedVariables false
set_option linter.unusedSimpArgs false
set_option maxRecDepth 10000
set_option maxHeartbeats 4000000
namespace Go.Q
open Go.Proofs
def shownG : Gr := ⟨[⟨⟨1, 2, 3⟩, 0⟩], [], [0]⟩
theorem c33 (B : List (List PV)) : callW tcfg 33 [] B = some ⟨Bo true, B, []⟩ := by
  refine callW_of_fin (n := 21) (ids := none) rfl Try.func33 rfl rfl rfl ?_ rfl
  have h := c35 shownG ⟨⟨by decide, by decide, by intro n hn; cases hn⟩, by intro n hn; cases hn⟩
  have e1 : (gvals shownG).2 = 0 := by decide
  have e2 : putB shownG = [1, 1, 2, 3, 0, 0, 1, 0] := by decide
  simp only [e1, e2, if_true] at h
  simp only [shownG, Gr.pv, Vl.pv, List.map_cons, List.map_nil] at h
  simp only [push_cast, reduceCtorEq, List.reduceReplicate, Nat.reduceBEq, Nat.reduceAdd, Nat.reduceSub, Nat.reduceMul, Nat.reduceLT, Nat.reduceLeDiff, ↓reduceIte, Int.reduceNeg, Int.reduceLT, Int.reduceLE, Int.reduceAdd, Int.reduceSub, Int.reduceMul, Int.reduceToNat, Int.reduceNegSucc, Nat.reduceSucc, Int.reduceEq, Nat.reduceEqDiff, Int.reduceBEq, Int.reduceBNe, h, convS_eq]
def lessN (n : Nod) : Nod := { n with ins := n.ins.take 20, w := n.w.take 5000, b := n.b.take 20 }
def lessG (g : Gr) : Gr := ⟨g.ins.take 6, (g.nodes.take 14).map lessN, g.outs.take 6⟩
theorem L34 (ins : List Vl) (nodes : List Nod) (outs : List Int) (m : List Nat) (B : List (List PV)) (hm : ∀ x ∈ m, x = B.length) :
    fromL Try.f34 34 0 B.length none (lp 34 (bodyAt Try.f34 0) 0 ⟨[.any, .ptr B.length 0, .ptr (B.length + 1) 0, .list 14 (.slot 3 0) [], I 0, .any, .any, .any, .any, .any, .any, .any, .any, .any, .any, .any, .any, .any, .any, .any, .any, .any, .any, .any, .any, .any, .any, .any, .any, .any, .any, .any, .any, .any, .any, .any, .any, .any, .any, .any, .any, .any, .any, .any, .any, .any, .any, .any, .any, .any, .any, .any, .any, .any, .any, .any, .any, .any, .any, .any, .any, .any, .any, .any, .any, .any, .any, .any, .any, .any], B ++ [[.list 4 .ro (ins.map Vl.pv), .list 14 .ro (nodes.map Nod.pv), .list 1 .ro (outs.map I)], [.list 4 .full [], .list 14 .full [], .list 1 .full []]], [], m⟩) = some ⟨(Gr.mk ins ((nodes.take 14).map lessN) outs).pv, B, []⟩ := by
  have hge : ∀ x ∈ m, B.length ≤ x := fun x hx => by have := hm x hx; omega
  show (fun r => finR _ _ _ _ (thenEv _ _ _ (blockEv _ (r)))) _ = _
  refine lp_ind (rest := (fun r => finR _ _ _ _ (thenEv _ _ _ (blockEv _ (r))))) (fun p : Nat × List Nod => ⟨[.any, .ptr B.length 0, .ptr (B.length + 1) 0, .list 14 (.slot 3 0) (p.2.map Nod.pv), I p.1, .any, .any, .any, .any, .any, .any, .any, .any, .any, .any, .any, .any, .any, .any, .any, .any, .any, .any, .any, .any, .any, .any, .any, .any, .any, .any, .any, .any, .any, .any, .any, .any, .any, .any, .any, .any, .any, .any, .any, .any, .any, .any, .any, .any, .any, .any, .any, .any, .any, .any, .any, .any, .any, .any, .any, .any, .any, .any, .any, .any, .any, .any, .any, .any, .any], B ++ [[.list 4 .ro (ins.map Vl.pv), .list 14 .ro (nodes.map Nod.pv), .list 1 .ro (outs.map I)], [.list 4 .full [], .list 14 .full [], .list 1 .full []]], [], m⟩)
    (fun p => some ⟨(Gr.mk ins ((nodes.take 14).map lessN) outs).pv, B, []⟩) (fun p => nodes.length - p.1) (fun p => p.1 ≤ nodes.length ∧ p.1 ≤ 14 ∧ p.2 = (nodes.take p.1).map lessN) ?_ (0, []) ⟨Nat.zero_le _, Nat.zero_le _, rfl⟩
  rintro ⟨i, acc⟩ ⟨hi, hi2, hacc⟩ ih
  simp only at hi hi2 hacc
  have hal : acc.length = i := by rw [hacc]; simp; omega
  generalize hF : finR Try.f34 34 B.length none = F at ih ⊢
  simp only [bodyAt, Try.f34, findLoop, beq_self_eq_true, ↓reduceIte] at ih ⊢
  subst hF
  by_cases hlt : i < nodes.length ∧ i < 14
  · have hc : ((i : Int) < nodes.length) := by omega
    have hc14 : ((i : Int) < 14) := by omega
    obtain ⟨n, hv⟩ : ∃ n, n = nodes[i]'hlt.1 := ⟨_, rfl⟩
    have hx : nodes[i]? = some n := by rw [hv]; exact List.getElem?_eq_getElem hlt.1
    have hw := i64c i (by omega)
    have hnx := ih (i + 1, acc ++ [lessN n]) (by show _ < _; omega) ⟨by show _ ≤ _; omega, by show _ ≤ _; omega, by show acc ++ [lessN n] = _; rw [hacc, List.take_add_one, hx]; simp⟩
    have hroom : acc.length + 1 ≤ 4294967296 := by omega
    have hcut : ∀ L, cutB (B.length + 2) m (B ++ [.list 4 .ro (ins.map Vl.pv), .list 14 .ro (nodes.map Nod.pv), .list 1 .ro (outs.map I)] :: L) = (B ++ [.list 4 .ro (ins.map Vl.pv), .list 14 .ro (nodes.map Nod.pv), .list 1 .ro (outs.map I)] :: L).take (B.length + 2) := fun L => cutB_at (X := [.list 4 .ro (ins.map Vl.pv), .list 14 .ro (nodes.map Nod.pv), .list 1 .ro (outs.map I)]) hm (by simp only [push_cast, reduceCtorEq, List.reduceReplicate, Nat.reduceBEq, Nat.reduceAdd, Nat.reduceSub, Nat.reduceMul, Nat.reduceLT, Nat.reduceLeDiff, ↓reduceIte, Int.reduceNeg, Int.reduceLT, Int.reduceLE, Int.reduceAdd, Int.reduceSub, Int.reduceMul, Int.reduceToNat, Int.reduceNegSucc, Nat.reduceSucc, Int.reduceEq, Nat.reduceEqDiff, Int.reduceBEq, Int.reduceBNe]) (by simp only [List.mem_cons, List.not_mem_nil, or_false]; rintro c (rfl | rfl | rfl) <;> simp only [push_cast, reduceCtorEq, List.reduceReplicate, Nat.reduceBEq, Nat.reduceAdd, Nat.reduceSub, Nat.reduceMul, Nat.reduceLT, Nat.reduceLeDiff, ↓reduceIte, Int.reduceNeg, Int.reduceLT, Int.reduceLE, Int.reduceAdd, Int.reduceSub, Int.reduceMul, Int.reduceToNat, Int.reduceNegSucc, Nat.reduceSucc, Int.reduceEq, Nat.reduceEqDiff, Int.reduceBEq, Int.reduceBNe])
    have f1 : (((20 : Int) < n.ins.length) ∧ ((20 : Int) ≤ n.ins.length)) ∨ (¬ ((20 : Int) < n.ins.length) ∧ n.ins.take 20 = n.ins) := by
      by_cases h : (20 : Int) < n.ins.length
      · exact .inl ⟨h, by omega⟩
      · exact .inr ⟨h, List.take_of_length_le (by omega)⟩
    have f2 : (((5000 : Int) < n.w.length) ∧ ((5000 : Int) ≤ n.w.length)) ∨ (¬ ((5000 : Int) < n.w.length) ∧ n.w.take 5000 = n.w) := by
      by_cases h : (5000 : Int) < n.w.length
      · exact .inl ⟨h, by omega⟩
      · exact .inr ⟨h, List.take_of_length_le (by omega)⟩
    have f3 : (((20 : Int) < n.b.length) ∧ ((20 : Int) ≤ n.b.length)) ∨ (¬ ((20 : Int) < n.b.length) ∧ n.b.take 20 = n.b) := by
      by_cases h : (20 : Int) < n.b.length
      · exact .inl ⟨h, by omega⟩
      · exact .inr ⟨h, List.take_of_length_le (by omega)⟩
    rcases f1 with ⟨a1, a2⟩ | ⟨a1, a2⟩ <;> rcases f2 with ⟨b1, b2⟩ | ⟨b1, b2⟩ <;> rcases f3 with ⟨c1, c2⟩ | ⟨c1, c2⟩ <;>
    · simp only [push_cast, reduceCtorEq, List.reduceReplicate, Nat.reduceBEq, Nat.reduceAdd, Nat.reduceSub, Nat.reduceMul, Nat.reduceLT, Nat.reduceLeDiff, ↓reduceIte, Int.reduceNeg, Int.reduceLT, Int.reduceLE, Int.reduceAdd, Int.reduceSub, Int.reduceMul, Int.reduceToNat, Int.reduceNegSucc, Nat.reduceSucc, Int.reduceEq, Nat.reduceEqDiff, Int.reduceBEq, Int.reduceBNe, hc, hc14, hx, hw, hroom, hcut, a1, a2, b1, b2, c1, c2, lessN, List.map_append, ← List.map_take] at hnx ⊢
      rw [hnx]
  · have h14 : nodes.take i = nodes.take 14 := by
      by_cases h : i < nodes.length
      · have : i = 14 := by omega
        rw [this]
      · rw [List.take_of_length_le (by omega), List.take_of_length_le (by omega)]
    rw [h14] at hacc
    subst hacc
    have hcut : ∀ L, cutB B.length m (B ++ L) = B := fun L => by rw [cutB_above hge]; simp
    by_cases hc : ((i : Int) < nodes.length)
    · have hc14 : ¬ ((i : Int) < 14) := by omega
      simp only [push_cast, reduceCtorEq, List.reduceReplicate, Nat.reduceBEq, Nat.reduceAdd, Nat.reduceSub, Nat.reduceMul, Nat.reduceLT, Nat.reduceLeDiff, ↓reduceIte, Int.reduceNeg, Int.reduceLT, Int.reduceLE, Int.reduceAdd, Int.reduceSub, Int.reduceMul, Int.reduceToNat, Int.reduceNegSucc, Nat.reduceSucc, Int.reduceEq, Nat.reduceEqDiff, Int.reduceBEq, Int.reduceBNe, hc, hc14, hcut, filt_none hge]
    · simp only [push_cast, reduceCtorEq, List.reduceReplicate, Nat.reduceBEq, Nat.reduceAdd, Nat.reduceSub, Nat.reduceMul, Nat.reduceLT, Nat.reduceLeDiff, ↓reduceIte, Int.reduceNeg, Int.reduceLT, Int.reduceLE, Int.reduceAdd, Int.reduceSub, Int.reduceMul, Int.reduceToNat, Int.reduceNegSucc, Nat.reduceSucc, Int.reduceEq, Nat.reduceEqDiff, Int.reduceBEq, Int.reduceBNe, hc, hcut, filt_none hge]
theorem c34 (g : Gr) (B : List (List PV)) : callW tcfg 34 [g.pv] B = some ⟨(lessG g).pv, B, []⟩ := by
  refine callW_of_fin (n := 69) (ids := none) rfl Try.func34 rfl rfl rfl ?_ rfl
  have f1 : (((6 : Int) < g.ins.length) ∧ ((6 : Int) ≤ g.ins.length)) ∨ (¬ ((6 : Int) < g.ins.length) ∧ g.ins.take 6 = g.ins) := by
    by_cases h : (6 : Int) < g.ins.length
    · exact .inl ⟨h, by omega⟩
    · exact .inr ⟨h, List.take_of_length_le (by omega)⟩
  have f2 : (((6 : Int) < g.outs.length) ∧ ((6 : Int) ≤ g.outs.length)) ∨ (¬ ((6 : Int) < g.outs.length) ∧ g.outs.take 6 = g.outs) := by
    by_cases h : (6 : Int) < g.outs.length
    · exact .inl ⟨h, by omega⟩
    · exact .inr ⟨h, List.take_of_length_le (by omega)⟩
  rcases f1 with ⟨a1, a2⟩ | ⟨a1, a2⟩ <;> rcases f2 with ⟨b1, b2⟩ | ⟨b1, b2⟩ <;> unfold lessG
  · simp only [push_cast, reduceCtorEq, List.reduceReplicate, Nat.reduceBEq, Nat.reduceAdd, Nat.reduceSub, Nat.reduceMul, Nat.reduceLT, Nat.reduceLeDiff, ↓reduceIte, Int.reduceNeg, Int.reduceLT, Int.reduceLE, Int.reduceAdd, Int.reduceSub, Int.reduceMul, Int.reduceToNat, Int.reduceNegSucc, Nat.reduceSucc, Int.reduceEq, Nat.reduceEqDiff, Int.reduceBEq, Int.reduceBNe, a1, a2, b1, b2, ← List.map_take]
    exact L34 (g.ins.take 6) g.nodes (g.outs.take 6) [B.length, B.length] B (by simp)
  · simp only [push_cast, reduceCtorEq, List.reduceReplicate, Nat.reduceBEq, Nat.reduceAdd, Nat.reduceSub, Nat.reduceMul, Nat.reduceLT, Nat.reduceLeDiff, ↓reduceIte, Int.reduceNeg, Int.reduceLT, Int.reduceLE, Int.reduceAdd, Int.reduceSub, Int.reduceMul, Int.reduceToNat, Int.reduceNegSucc, Nat.reduceSucc, Int.reduceEq, Nat.reduceEqDiff, Int.reduceBEq, Int.reduceBNe, a1, a2, b1, b2, ← List.map_take]
    exact L34 (g.ins.take 6) g.nodes g.outs [B.length] B (by simp)
  · simp only [push_cast, reduceCtorEq, List.reduceReplicate, Nat.reduceBEq, Nat.reduceAdd, Nat.reduceSub, Nat.reduceMul, Nat.reduceLT, Nat.reduceLeDiff, ↓reduceIte, Int.reduceNeg, Int.reduceLT, Int.reduceLE, Int.reduceAdd, Int.reduceSub, Int.reduceMul, Int.reduceToNat, Int.reduceNegSucc, Nat.reduceSucc, Int.reduceEq, Nat.reduceEqDiff, Int.reduceBEq, Int.reduceBNe, a1, a2, b1, b2, ← List.map_take]
    exact L34 g.ins g.nodes (g.outs.take 6) [B.length] B (by simp)
  · simp only [push_cast, reduceCtorEq, List.reduceReplicate, Nat.reduceBEq, Nat.reduceAdd, Nat.reduceSub, Nat.reduceMul, Nat.reduceLT, Nat.reduceLeDiff, ↓reduceIte, Int.reduceNeg, Int.reduceLT, Int.reduceLE, Int.reduceAdd, Int.reduceSub, Int.reduceMul, Int.reduceToNat, Int.reduceNegSucc, Nat.reduceSucc, Int.reduceEq, Nat.reduceEqDiff, Int.reduceBEq, Int.reduceBNe, a1, a2, b1, b2, ← List.map_take]
    exact L34 g.ins g.nodes g.outs [] B (by simp)
end Go.Q
