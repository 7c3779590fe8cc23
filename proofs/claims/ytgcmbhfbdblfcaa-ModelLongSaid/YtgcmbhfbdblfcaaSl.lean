/-
  model.Put.
-/
import Derived.Test.YtgcmbhfbdblfcaaSk
set_option linter.unusedVariables false
set_option linter.unusedSimpArgs false
set_option maxRecDepth 10000
set_option maxHeartbeats 4000000
namespace Go.Q
open Go.Proofs
theorem cutB_at {n id : Nat} {m : List Nat} {D : List (List PV)} {X : List PV} (hm : ∀ x ∈ m, x = id) (h : D[id]? = some X) (hX : ∀ c ∈ X, c.under n = true) : cutB n m D = D.take n := by
  refine cutB_id fun i hi cs hcs c hc => ?_
  have := hm i hi
  subst this
  rw [h] at hcs
  simp only [Option.some.injEq] at hcs
  subst hcs
  exact hX c hc
theorem cutB_above {n : Nat} {m : List Nat} {D : List (List PV)} (hm : ∀ x ∈ m, n ≤ x) : cutB n m D = D.take n := by
  induction m with
  | nil => rfl
  | cons x m ih => rw [cutB_hi, if_pos (hm x (List.mem_cons_self ..)), ih fun y hy => hm y (List.mem_cons_of_mem _ hy)]
theorem filt_none {n : Nat} {m : List Nat} (hm : ∀ x ∈ m, n ≤ x) : m.filter (fun x => decide (x < n)) = [] := by
  rw [List.filter_eq_nil_iff]
  intro x hx
  have := hm x hx
  simp; omega
theorem set_same {D : List (List PV)} {id : Nat} {X : List PV} (h : D[id]? = some X) : D.set id X = D := by
  obtain ⟨hlt, e⟩ := List.getElem?_eq_some_iff.1 h
  rw [← e]; exact List.set_getElem_self ..
theorem c86h (id : Nat) (D : List (List PV)) (zs l : List Int) (h : D[id]? = some (wbox id zs)) (hr : zs.length + l.length ≤ 4294967296) :
    callW tcfg 86 [.ptr id 0, .list 1 .ro (l.map I)] D = some ⟨.tuple [], D.set id (wbox id (zs ++ l.map byteF)), [id]⟩ := by
  have := c86 id D zs l (lt_of_get h) hr
  rwa [set_same h] at this
theorem c87h (id : Nat) (D : List (List PV)) (zs : List Int) (n : Nod) (hn : n.Fin) (h : D[id]? = some (wbox id zs)) (hr : zs.length + (16 + n.ins.length + n.w.length + 4 * n.b.length) ≤ 4294967296) :
    callW tcfg 87 [.ptr id 0, n.pv] D = some ⟨.tuple [], D.set id (wbox id (zs ++ nodeB n)), [id]⟩ := by
  have := c87 id D zs n hn (lt_of_get h) hr
  rwa [set_same h] at this
/-- The first number that is laid down. -/
theorem c86f (id : Nat) (D : List (List PV)) (x : Int) (h : D[id]? = some [.list 1 .full []]) :
    callW tcfg 86 [.ptr id 0, .list 1 .ro [I x]] D = some ⟨.tuple [], D.set id (wbox id [byteF x]), [id]⟩ := by
  refine callW_of_fin (n := 22) (ids := some [id]) rfl Try.func86 rfl rfl rfl ?_ rfl
  have hlt := lt_of_get h
  have hl : ¬ D.length ≤ id := by omega
  have hw : IntKind.i64.wrap 1 = 1 := rfl
  simp only [push_cast, reduceCtorEq, List.reduceReplicate, Nat.reduceBEq, Nat.reduceAdd, Nat.reduceSub, Nat.reduceMul, Nat.reduceLT, Nat.reduceLeDiff, ↓reduceIte, Int.reduceNeg, Int.reduceLT, Int.reduceLE, Int.reduceAdd, Int.reduceSub, Int.reduceMul, Int.reduceToNat, Int.reduceNegSucc, Nat.reduceSucc, Int.reduceEq, Nat.reduceEqDiff, Int.reduceBEq, Int.reduceBNe]
  rw [lp_eq]
  simp only [push_cast, reduceCtorEq, List.reduceReplicate, Nat.reduceBEq, Nat.reduceAdd, Nat.reduceSub, Nat.reduceMul, Nat.reduceLT, Nat.reduceLeDiff, ↓reduceIte, Int.reduceNeg, Int.reduceLT, Int.reduceLE, Int.reduceAdd, Int.reduceSub, Int.reduceMul, Int.reduceToNat, Int.reduceNegSucc, Nat.reduceSucc, Int.reduceEq, Nat.reduceEqDiff, Int.reduceBEq, Int.reduceBNe, h, hlt, hl, hw]
  rw [lp_eq]
  simp only [push_cast, reduceCtorEq, List.reduceReplicate, Nat.reduceBEq, Nat.reduceAdd, Nat.reduceSub, Nat.reduceMul, Nat.reduceLT, Nat.reduceLeDiff, ↓reduceIte, Int.reduceNeg, Int.reduceLT, Int.reduceLE, Int.reduceAdd, Int.reduceSub, Int.reduceMul, Int.reduceToNat, Int.reduceNegSucc, Nat.reduceSucc, Int.reduceEq, Nat.reduceEqDiff, Int.reduceBEq, Int.reduceBNe, h, hlt, hl, hw]
  rfl
def vlB (v : Vl) : List Int := [byteF v.s.h, byteF v.s.w, byteF v.s.c, byteF v.z]
def putB (g : Gr) : List Int := [byteF g.ins.length] ++ g.ins.flatMap vlB ++ [byteF g.nodes.length] ++ g.nodes.flatMap nodeB ++ [byteF g.outs.length] ++ g.outs.map byteF
structure Gr.Small (g : Gr) : Prop extends g.Fin where
  small : ∀ n ∈ g.nodes, n.ins.length + n.w.length + 4 * n.b.length ≤ 2^24
theorem gvals_ok {g : Gr} (h : (gvals g).2 = 0) : (goesF g).2 = 0 := by
  unfold gvals at h
  split at h
  · assumption
  · exact h
theorem flatMap_len {α β : Type} (f : α → List β) (k : Nat) : ∀ (xs : List α), (∀ x ∈ xs, (f x).length ≤ k) → (xs.flatMap f).length ≤ xs.length * k
  | [], _ => by simp
  | x :: xs, h => by
    rw [List.flatMap_cons, List.length_append, List.length_cons]
    have h1 := h x (List.mem_cons_self ..)
    have h2 := flatMap_len f k xs fun y hy => h y (List.mem_cons_of_mem _ hy)
    rw [Nat.add_mul]
    omega
abbrev putP (B : List (List PV)) (bs : List Int) (e : Int) : Option Out := some ⟨.tuple [.list 1 (.slot 0 0) (bs.map U8), I e], B, []⟩
theorem c35 (g : Gr) (hg : g.Small) (B : List (List PV)) : callW tcfg 35 [g.pv] B = putP B (if (gvals g).2 = 0 then putB g else []) (gvals g).2 := by
  refine callW_of_fin (n := 75) (ids := none) rfl Try.func35 rfl rfl rfl ?_ rfl
  have h85 := c85 g hg.toFin
  by_cases h0 : (gvals g).2 = 0
  · obtain ⟨e1, e2, e3, e4, e5, e6, e7⟩ := goesF_ok (gvals_ok h0)
    rw [if_pos h0]
    have q0 := c86f (B.length + 1) (B ++ [g.cs, [.list 1 .full []]]) g.ins.length (by simp only [push_cast, reduceCtorEq, List.reduceReplicate, Nat.reduceBEq, Nat.reduceAdd, Nat.reduceSub, Nat.reduceMul, Nat.reduceLT, Nat.reduceLeDiff, ↓reduceIte, Int.reduceNeg, Int.reduceLT, Int.reduceLE, Int.reduceAdd, Int.reduceSub, Int.reduceMul, Int.reduceToNat, Int.reduceNegSucc, Nat.reduceSucc, Int.reduceEq, Nat.reduceEqDiff, Int.reduceBEq, Int.reduceBNe])
    simp only [push_cast, reduceCtorEq, List.reduceReplicate, Nat.reduceBEq, Nat.reduceAdd, Nat.reduceSub, Nat.reduceMul, Nat.reduceLT, Nat.reduceLeDiff, ↓reduceIte, Int.reduceNeg, Int.reduceLT, Int.reduceLE, Int.reduceAdd, Int.reduceSub, Int.reduceMul, Int.reduceToNat, Int.reduceNegSucc, Nat.reduceSucc, Int.reduceEq, Nat.reduceEqDiff, Int.reduceBEq, Int.reduceBNe, h85, h0, q0]
    refine lp_ind (rest := (fun r => finR _ _ _ _ (thenEv _ _ _ (blockEv _ (r))))) (fun p : Nat × List Int × List Nat => ⟨[.any, .ptr B.length 0, .any, .any, .any, .ptr (B.length + 1) 0, .any, .any, .any, .any, .any, .any, .any, .any, .any, .any, .any, .any, .any, .any, .any, .any, .any, .any, .list 4 .ro (g.ins.map Vl.pv), I g.ins.length, I p.1, .any, .any, .any, .any, .any, .any, .any, .any, .any, .any, .any, .any, .any, .any, .any, .any, .any, .any, .any, .any, .any, .any, .any, .any, .any, .any, .any, .any, .any, .any, .any, .any, .any, .any, .any, .any, .any, .any, .any, .any, .any, .any, .any, .any, .any, .any, .any, .any, .any], B ++ [g.cs, wbox (B.length + 1) p.2.1], [], p.2.2⟩)
      (fun p => putP B (putB g) 0) (fun p => g.ins.length - p.1) (fun p => p.1 ≤ g.ins.length ∧ p.2.1 = [byteF g.ins.length] ++ (g.ins.take p.1).flatMap vlB ∧ p.2.1.length = 1 + 4 * p.1 ∧ ∀ x ∈ p.2.2, x = B.length + 1) ?_ (0, [byteF g.ins.length], [B.length + 1]) ⟨Nat.zero_le _, by simp, rfl, by simp⟩
    rintro ⟨i, ys, m⟩ ⟨hi, hy, hyl, hm⟩ ih
    simp only at hi hy hm hyl
    by_cases hlt : i < g.ins.length
    · have hc : ((i : Int) < g.ins.length) := by omega
      obtain ⟨v, hv⟩ : ∃ v, v = g.ins[i] := ⟨_, rfl⟩
      have hx : g.ins[i]? = some v := by rw [hv]; exact List.getElem?_eq_getElem hlt
      have hw := i64c i (by omega)
      have hnx := ih (i + 1, ys ++ vlB v, (B.length + 1) :: m) (by show _ < _; omega) ⟨by show _ ≤ _; omega, by rw [hy, List.take_add_one, hx]; simp, by simp [vlB, hyl]; omega, by intro x hx; simp at hx; rcases hx with hx | hx; exact hx; exact hm x hx⟩
      have q1 := c86h (B.length + 1) (B ++ [g.cs, wbox (B.length + 1) ys, [I v.s.h, I v.s.w, I v.s.c, I v.z]]) ys [v.s.h, v.s.w, v.s.c, v.z] (by simp only [push_cast, reduceCtorEq, List.reduceReplicate, Nat.reduceBEq, Nat.reduceAdd, Nat.reduceSub, Nat.reduceMul, Nat.reduceLT, Nat.reduceLeDiff, ↓reduceIte, Int.reduceNeg, Int.reduceLT, Int.reduceLE, Int.reduceAdd, Int.reduceSub, Int.reduceMul, Int.reduceToNat, Int.reduceNegSucc, Nat.reduceSucc, Int.reduceEq, Nat.reduceEqDiff, Int.reduceBEq, Int.reduceBNe]) (by simp; omega)
      have hcut := cutB_at (n := B.length + 2) (m := m) (D := B ++ [g.cs, wbox (B.length + 1) (ys ++ vlB v), [I v.s.h, I v.s.w, I v.s.c, I v.z]]) hm (by simp only [push_cast, reduceCtorEq, List.reduceReplicate, Nat.reduceBEq, Nat.reduceAdd, Nat.reduceSub, Nat.reduceMul, Nat.reduceLT, Nat.reduceLeDiff, ↓reduceIte, Int.reduceNeg, Int.reduceLT, Int.reduceLE, Int.reduceAdd, Int.reduceSub, Int.reduceMul, Int.reduceToNat, Int.reduceNegSucc, Nat.reduceSucc, Int.reduceEq, Nat.reduceEqDiff, Int.reduceBEq, Int.reduceBNe]; rfl) (wbox_under _ _ _)
      simp only [wbox, vlB, List.map_append, List.map_cons, List.map_nil] at hcut hnx q1
      simp only [push_cast, reduceCtorEq, List.reduceReplicate, Nat.reduceBEq, Nat.reduceAdd, Nat.reduceSub, Nat.reduceMul, Nat.reduceLT, Nat.reduceLeDiff, ↓reduceIte, Int.reduceNeg, Int.reduceLT, Int.reduceLE, Int.reduceAdd, Int.reduceSub, Int.reduceMul, Int.reduceToNat, Int.reduceNegSucc, Nat.reduceSucc, Int.reduceEq, Nat.reduceEqDiff, Int.reduceBEq, Int.reduceBNe, hc, hx, hw, q1, hcut] at hnx ⊢
      rw [hnx]
    · have hc : ¬ ((i : Int) < g.ins.length) := by omega
      have : i = g.ins.length := by omega
      subst this
      rw [List.take_length] at hy
      have q2 := c86h (B.length + 1) (B ++ [g.cs, wbox (B.length + 1) ys]) ys [g.nodes.length] (by simp only [push_cast, reduceCtorEq, List.reduceReplicate, Nat.reduceBEq, Nat.reduceAdd, Nat.reduceSub, Nat.reduceMul, Nat.reduceLT, Nat.reduceLeDiff, ↓reduceIte, Int.reduceNeg, Int.reduceLT, Int.reduceLE, Int.reduceAdd, Int.reduceSub, Int.reduceMul, Int.reduceToNat, Int.reduceNegSucc, Nat.reduceSucc, Int.reduceEq, Nat.reduceEqDiff, Int.reduceBEq, Int.reduceBNe]) (by simp; omega)
      obtain ⟨zs1, hz1⟩ : ∃ z, z = ys ++ [byteF g.nodes.length] := ⟨_, rfl⟩
      have hl1 : zs1.length ≤ 100 := by rw [hz1]; simp; omega
      simp only [List.map_cons, List.map_nil, ← hz1] at q2
      have hfin : putB g = zs1 ++ g.nodes.flatMap nodeB ++ [byteF g.outs.length] ++ g.outs.map byteF := by rw [hz1, hy]; rfl
      rw [hfin]
      simp only [push_cast, reduceCtorEq, List.reduceReplicate, Nat.reduceBEq, Nat.reduceAdd, Nat.reduceSub, Nat.reduceMul, Nat.reduceLT, Nat.reduceLeDiff, ↓reduceIte, Int.reduceNeg, Int.reduceLT, Int.reduceLE, Int.reduceAdd, Int.reduceSub, Int.reduceMul, Int.reduceToNat, Int.reduceNegSucc, Nat.reduceSucc, Int.reduceEq, Nat.reduceEqDiff, Int.reduceBEq, Int.reduceBNe, hc, q2]
      have hm1 : ∀ x ∈ (B.length + 1) :: m, x = B.length + 1 := by intro x hx; simp at hx; rcases hx with hx | hx; exact hx; exact hm x hx
      refine lp_ind (rest := (fun r => finR _ _ _ _ (thenEv _ _ _ (blockEv _ (r))))) (fun p : Nat × List Int × List Nat => ⟨[.any, .ptr B.length 0, .any, .any, .any, .ptr (B.length + 1) 0, .any, .any, .any, .any, .any, .any, .any, .any, .any, .any, .any, .any, .any, .any, .any, .any, .any, .any, .any, .any, .any, .any, .any, .any, .any, .any, .any, .any, .any, .any, .any, .any, .any, .any, .any, .any, .any, .any, .any, .any, .any, .any, .any, .any, .any, .any, .list 14 .ro (g.nodes.map Nod.pv), I g.nodes.length, I p.1, .any, .any, .any, .any, .any, .any, .any, .any, .any, .any, .any, .any, .any, .any, .any, .any, .any, .any, .any, .any, .any], B ++ [g.cs, wbox (B.length + 1) p.2.1], [], p.2.2⟩)
        (fun p => putP B (zs1 ++ g.nodes.flatMap nodeB ++ [byteF g.outs.length] ++ g.outs.map byteF) 0) (fun p => g.nodes.length - p.1) (fun p => p.1 ≤ g.nodes.length ∧ p.2.1 = zs1 ++ (g.nodes.take p.1).flatMap nodeB ∧ p.2.1.length ≤ 100 + p.1 * 16777232 ∧ ∀ x ∈ p.2.2, x = B.length + 1) ?_ (0, zs1, (B.length + 1) :: m) ⟨Nat.zero_le _, by simp, by simp only; omega, hm1⟩ |>.trans ?_
      · clear hm hm1 ih
        rintro ⟨i, ys, m⟩ ⟨hi, hy, hyl, hm⟩ ih
        simp only at hi hy hm hyl
        by_cases hlt : i < g.nodes.length
        · have hc : ((i : Int) < g.nodes.length) := by omega
          obtain ⟨n, hv⟩ : ∃ n, n = g.nodes[i] := ⟨_, rfl⟩
          have hx : g.nodes[i]? = some n := by rw [hv]; exact List.getElem?_eq_getElem hlt
          have hmem := List.mem_of_getElem? hx
          have hs := hg.small n hmem
          have hw := i64c i (by omega)
          have hnl := nodeB_length n
          have hnx := ih (i + 1, ys ++ nodeB n, (B.length + 1) :: m) (by show _ < _; omega) ⟨by show _ ≤ _; omega, by rw [hy, List.take_add_one, hx]; simp, by show (ys ++ nodeB n).length ≤ _; rw [List.length_append, hnl, Nat.add_mul]; omega, by intro x hx; simp at hx; rcases hx with hx | hx; exact hx; exact hm x hx⟩
          have q1 := c87h (B.length + 1) (B ++ [g.cs, wbox (B.length + 1) ys, n.cs]) ys n (hg.nodes n hmem) (by simp only [push_cast, reduceCtorEq, List.reduceReplicate, Nat.reduceBEq, Nat.reduceAdd, Nat.reduceSub, Nat.reduceMul, Nat.reduceLT, Nat.reduceLeDiff, ↓reduceIte, Int.reduceNeg, Int.reduceLT, Int.reduceLE, Int.reduceAdd, Int.reduceSub, Int.reduceMul, Int.reduceToNat, Int.reduceNegSucc, Nat.reduceSucc, Int.reduceEq, Nat.reduceEqDiff, Int.reduceBEq, Int.reduceBNe]) (by omega)
          have hcut := cutB_at (n := B.length + 2) (m := m) (D := B ++ [g.cs, wbox (B.length + 1) (ys ++ nodeB n), n.cs]) hm (by simp only [push_cast, reduceCtorEq, List.reduceReplicate, Nat.reduceBEq, Nat.reduceAdd, Nat.reduceSub, Nat.reduceMul, Nat.reduceLT, Nat.reduceLeDiff, ↓reduceIte, Int.reduceNeg, Int.reduceLT, Int.reduceLE, Int.reduceAdd, Int.reduceSub, Int.reduceMul, Int.reduceToNat, Int.reduceNegSucc, Nat.reduceSucc, Int.reduceEq, Nat.reduceEqDiff, Int.reduceBEq, Int.reduceBNe]; rfl) (wbox_under _ _ _)
          simp only [wbox, List.map_append] at hcut hnx q1
          simp only [push_cast, reduceCtorEq, List.reduceReplicate, Nat.reduceBEq, Nat.reduceAdd, Nat.reduceSub, Nat.reduceMul, Nat.reduceLT, Nat.reduceLeDiff, ↓reduceIte, Int.reduceNeg, Int.reduceLT, Int.reduceLE, Int.reduceAdd, Int.reduceSub, Int.reduceMul, Int.reduceToNat, Int.reduceNegSucc, Nat.reduceSucc, Int.reduceEq, Nat.reduceEqDiff, Int.reduceBEq, Int.reduceBNe, hc, hx, hw, q1, hcut] at hnx ⊢
          rw [hnx]
        · have hc : ¬ ((i : Int) < g.nodes.length) := by omega
          have : i = g.nodes.length := by omega
          subst this
          rw [List.take_length] at hy
          rw [← hy]
          have hyl2 : ys.length ≤ 100 + 12 * 16777232 := Nat.le_trans hyl (by omega)
          have q3 := c86h (B.length + 1) (B ++ [g.cs, wbox (B.length + 1) ys]) ys [g.outs.length] (by simp only [push_cast, reduceCtorEq, List.reduceReplicate, Nat.reduceBEq, Nat.reduceAdd, Nat.reduceSub, Nat.reduceMul, Nat.reduceLT, Nat.reduceLeDiff, ↓reduceIte, Int.reduceNeg, Int.reduceLT, Int.reduceLE, Int.reduceAdd, Int.reduceSub, Int.reduceMul, Int.reduceToNat, Int.reduceNegSucc, Nat.reduceSucc, Int.reduceEq, Nat.reduceEqDiff, Int.reduceBEq, Int.reduceBNe]) (by simp; omega)
          obtain ⟨zs2, hz2⟩ : ∃ z, z = ys ++ [byteF g.outs.length] := ⟨_, rfl⟩
          have hl2 : zs2.length = ys.length + 1 := by rw [hz2]; simp
          simp only [List.map_cons, List.map_nil, ← hz2] at q3
          have q4 := c86h (B.length + 1) (B ++ [g.cs, wbox (B.length + 1) zs2]) zs2 g.outs (by simp only [push_cast, reduceCtorEq, List.reduceReplicate, Nat.reduceBEq, Nat.reduceAdd, Nat.reduceSub, Nat.reduceMul, Nat.reduceLT, Nat.reduceLeDiff, ↓reduceIte, Int.reduceNeg, Int.reduceLT, Int.reduceLE, Int.reduceAdd, Int.reduceSub, Int.reduceMul, Int.reduceToNat, Int.reduceNegSucc, Nat.reduceSucc, Int.reduceEq, Nat.reduceEqDiff, Int.reduceBEq, Int.reduceBNe]) (by omega)
          have hge : ∀ x ∈ m, B.length ≤ x := fun x hx => by have := hm x hx; omega
          rw [← hz2]
          simp only [push_cast, reduceCtorEq, List.reduceReplicate, Nat.reduceBEq, Nat.reduceAdd, Nat.reduceSub, Nat.reduceMul, Nat.reduceLT, Nat.reduceLeDiff, ↓reduceIte, Int.reduceNeg, Int.reduceLT, Int.reduceLE, Int.reduceAdd, Int.reduceSub, Int.reduceMul, Int.reduceToNat, Int.reduceNegSucc, Nat.reduceSucc, Int.reduceEq, Nat.reduceEqDiff, Int.reduceBEq, Int.reduceBNe, hc, q3, q4]
          rw [cutB_above hge, filt_none hge]
          simp only [push_cast, reduceCtorEq, List.reduceReplicate, Nat.reduceBEq, Nat.reduceAdd, Nat.reduceSub, Nat.reduceMul, Nat.reduceLT, Nat.reduceLeDiff, ↓reduceIte, Int.reduceNeg, Int.reduceLT, Int.reduceLE, Int.reduceAdd, Int.reduceSub, Int.reduceMul, Int.reduceToNat, Int.reduceNegSucc, Nat.reduceSucc, Int.reduceEq, Nat.reduceEqDiff, Int.reduceBEq, Int.reduceBNe]
      · simp
  · rw [if_neg h0]
    have h0' : decide ((gvals g).2 = 0) = false := by simp [h0]
    simp only [push_cast, reduceCtorEq, List.reduceReplicate, Nat.reduceBEq, Nat.reduceAdd, Nat.reduceSub, Nat.reduceMul, Nat.reduceLT, Nat.reduceLeDiff, ↓reduceIte, Int.reduceNeg, Int.reduceLT, Int.reduceLE, Int.reduceAdd, Int.reduceSub, Int.reduceMul, Int.reduceToNat, Int.reduceNegSucc, Nat.reduceSucc, Int.reduceEq, Nat.reduceEqDiff, Int.reduceBEq, Int.reduceBNe, h85, h0, h0']
    rfl
end Go.Q
