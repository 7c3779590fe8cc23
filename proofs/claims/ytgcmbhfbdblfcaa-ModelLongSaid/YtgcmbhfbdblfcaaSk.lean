/-
  model.writer.
-/
import Derived.Test.YtgcmbhfbdblfcaaSj
set_option linter.unusedVariables false
set_option linter.unusedSimpArgs false
set_option maxRecDepth 10000
set_option maxHeartbeats 4000000
namespace Go.Q
open Go.Proofs
abbrev byteF (x : Int) : Int := IntKind.u8.wrap x
abbrev wbox (id : Nat) (zs : List Int) : List PV := [.list 1 (.cell id 0) (zs.map U8)]
theorem wbox_under (n id : Nat) (zs : List Int) : ∀ c ∈ wbox id zs, c.under n = true := by
  intro c hc
  simp only [wbox, List.mem_singleton] at hc
  subst hc
  rw [under_list]
  exact all_underS n zs _
theorem c86 (id : Nat) (D : List (List PV)) (zs l : List Int) (h : id < D.length) (hr : zs.length + l.length ≤ 4294967296) :
    callW tcfg 86 [.ptr id 0, .list 1 .ro (l.map I)] (D.set id (wbox id zs)) = some ⟨.tuple [], D.set id (wbox id (zs ++ l.map byteF)), [id]⟩ := by
  refine callW_of_fin (n := 22) (ids := some [id]) rfl Try.func86 rfl rfl rfl ?_ rfl
  have hl : ¬ D.length ≤ id := by omega
  simp only [push_cast, reduceCtorEq, List.reduceReplicate, Nat.reduceBEq, Nat.reduceAdd, Nat.reduceSub, Nat.reduceMul, Nat.reduceLT, Nat.reduceLeDiff, ↓reduceIte, Int.reduceNeg, Int.reduceLT, Int.reduceLE, Int.reduceAdd, Int.reduceSub, Int.reduceMul, Int.reduceToNat, Int.reduceNegSucc, Nat.reduceSucc, Int.reduceEq, Nat.reduceEqDiff, Int.reduceBEq, Int.reduceBNe, h]
  refine lp_ind (rest := (fun r => finR _ _ _ _ (blockEv _ (r)))) (fun p : Nat × List Int × List Nat => ⟨[.ptr id 0, .any, .any, .any, .any, .any, .list 1 .ro (l.map I), I l.length, I p.1, .any, .any, .any, .any, .any, .any, .any, .any, .any, .any, .any, .any, .any, .any, .any], D.set id (wbox id p.2.1), [], p.2.2⟩)
    (fun p => some ⟨.tuple [], D.set id (wbox id (zs ++ l.map byteF)), [id]⟩) (fun p => l.length - p.1) (fun p => p.1 ≤ l.length ∧ p.2.1 = zs ++ (l.take p.1).map byteF ∧ ∀ x ∈ p.2.2, x = id) ?_ (0, zs, []) ⟨Nat.zero_le _, by simp, fun x hx => by cases hx⟩
  rintro ⟨i, ys, m⟩ ⟨hi, hy, hm⟩ ih
  simp only at hi hy hm
  by_cases hlt : i < l.length
  · have hc : ((i : Int) < l.length) := by omega
    obtain ⟨v, hv⟩ : ∃ v, v = l[i] := ⟨_, rfl⟩
    have hx : l[i]? = some v := by rw [hv]; exact List.getElem?_eq_getElem hlt
    have hw := i64c i (by omega)
    have hn := ih (i + 1, ys ++ [byteF v], id :: id :: m) (by show _ < _; omega) ⟨by show _ ≤ _; omega, by rw [hy, List.take_add_one, hx]; simp, by intro x hx; simp at hx; rcases hx with hx | hx; exact hx; exact hm x hx⟩
    have hroom : ys.length + 1 ≤ 4294967296 := by rw [hy]; simp; omega
    have hcut := cutB_set (n := D.length) (m := m) (wbox id (ys ++ [byteF v])) [] hm h (wbox_under _ _ _)
    simp only [wbox, List.append_nil, List.map_append, List.map_cons, List.map_nil] at hcut hn
    simp only [push_cast, reduceCtorEq, List.reduceReplicate, Nat.reduceBEq, Nat.reduceAdd, Nat.reduceSub, Nat.reduceMul, Nat.reduceLT, Nat.reduceLeDiff, ↓reduceIte, Int.reduceNeg, Int.reduceLT, Int.reduceLE, Int.reduceAdd, Int.reduceSub, Int.reduceMul, Int.reduceToNat, Int.reduceNegSucc, Nat.reduceSucc, Int.reduceEq, Nat.reduceEqDiff, Int.reduceBEq, Int.reduceBNe, hc, hx, hw, h, hl, hroom, hcut] at hn ⊢
    rw [hn]
    simp only [wbox, List.map_append]
  · have hc : ¬ ((i : Int) < l.length) := by omega
    have : i = l.length := by omega
    subst this
    rw [List.take_length] at hy
    subst hy
    have hcut := cutB_set (n := D.length) (m := m) (wbox id (zs ++ l.map byteF)) [] hm h (wbox_under _ _ _)
    simp only [List.append_nil] at hcut
    simp only [push_cast, reduceCtorEq, List.reduceReplicate, Nat.reduceBEq, Nat.reduceAdd, Nat.reduceSub, Nat.reduceMul, Nat.reduceLT, Nat.reduceLeDiff, ↓reduceIte, Int.reduceNeg, Int.reduceLT, Int.reduceLE, Int.reduceAdd, Int.reduceSub, Int.reduceMul, Int.reduceToNat, Int.reduceNegSucc, Nat.reduceSucc, Int.reduceEq, Nat.reduceEqDiff, Int.reduceBEq, Int.reduceBNe, hc, h, all_eq _ hm]
    rw [hcut, set_take1]
theorem c86a (id : Nat) (D : List (List PV)) (L : List (List PV)) (zs l : List Int) (h : id < D.length) (hr : zs.length + l.length ≤ 4294967296) :
    callW tcfg 86 [.ptr id 0, .list 1 .ro (l.map I)] (D.set id (wbox id zs) ++ L) = some ⟨.tuple [], D.set id (wbox id (zs ++ l.map byteF)) ++ L, [id]⟩ := by
  have := c86 id (D ++ L) zs l (by simp; omega) hr
  rwa [app_set _ _ h, app_set _ _ h] at this
theorem c86_1 (id : Nat) (D : List (List PV)) (zs : List Int) (x : Int) (h : id < D.length) (hr : zs.length + 1 ≤ 4294967296) :
    callW tcfg 86 [.ptr id 0, .list 1 .ro [I x]] (D.set id (wbox id zs)) = some ⟨.tuple [], D.set id (wbox id (zs ++ [byteF x])), [id]⟩ := c86 id D zs [x] h hr
def B32 (x : Int) : List Int := [byteF (w64 (x.fdiv 16777216)), byteF (w64 (x.fdiv 65536)), byteF (w64 (x.fdiv 256)), byteF (w64 x)]
def nodeB (n : Nod) : List Int :=
  [byteF n.op, byteF n.ins.length] ++ n.ins.map byteF ++ [byteF n.k, byteF n.st, byteF n.pad, byteF n.out, byteF (n.mul.fdiv 256), byteF n.mul, byteF n.sh, byteF n.zero, byteF n.to.h, byteF n.to.w, byteF n.to.c, byteF ((n.w.length : Int).fdiv 256), byteF n.w.length]
    ++ n.w.map (fun x => byteF (w64 x)) ++ [byteF n.b.length] ++ n.b.flatMap B32
theorem nodeB_length (n : Nod) : (nodeB n).length = 16 + n.ins.length + n.w.length + 4 * n.b.length := by
  have : (n.b.flatMap B32).length = 4 * n.b.length := by
    induction n.b with
    | nil => rfl
    | cons x xs ih => simp only [List.flatMap_cons, List.length_append, ih, List.length_cons]; simp [B32]; omega
  simp only [nodeB, List.length_append, List.length_map, List.length_cons, List.length_nil, this]
  omega
def ys_len (zs : List Int) (i : Nat) (ys : List Int) : Prop := ys.length = zs.length + 4 * i
theorem c87 (id : Nat) (D : List (List PV)) (zs : List Int) (n : Nod) (hn : n.Fin) (h : id < D.length) (hr : zs.length + (16 + n.ins.length + n.w.length + 4 * n.b.length) ≤ 4294967296) :
    callW tcfg 87 [.ptr id 0, n.pv] (D.set id (wbox id zs)) = some ⟨.tuple [], D.set id (wbox id (zs ++ nodeB n)), [id]⟩ := by
  refine callW_of_fin (n := 95) (ids := some [id]) rfl Try.func87 rfl rfl rfl ?_ rfl
  have hl : ¬ D.length ≤ id := by omega
  have hl1 : id < D.length + 1 := by omega
  have p1 := c86a id D [n.cs] zs [n.op, n.ins.length] h (by simp; omega)
  have p2 := c86a id D [n.cs] (zs ++ [byteF n.op, byteF n.ins.length]) n.ins h (by simp; omega)
  have p3 := c86a id D [n.cs] (zs ++ [byteF n.op, byteF n.ins.length] ++ n.ins.map byteF) [n.k, n.st, n.pad, n.out, n.mul.fdiv 256, n.mul, n.sh, n.zero, n.to.h, n.to.w, n.to.c, (n.w.length : Int).fdiv 256, n.w.length] h (by simp; omega)
  simp only [List.map_cons, List.map_nil, List.append_assoc, List.cons_append, List.nil_append] at p1 p2 p3
  have hwl := hn.w
  have hbl := hn.b
  obtain ⟨zs1, hz⟩ : ∃ z, z = zs ++ [byteF n.op, byteF n.ins.length] ++ n.ins.map byteF ++ [byteF n.k, byteF n.st, byteF n.pad, byteF n.out, byteF (n.mul.fdiv 256), byteF n.mul, byteF n.sh, byteF n.zero, byteF n.to.h, byteF n.to.w, byteF n.to.c, byteF ((n.w.length : Int).fdiv 256), byteF n.w.length] := ⟨_, rfl⟩
  have hlen : zs1.length = zs.length + 15 + n.ins.length := by rw [hz]; simp; omega
  have hfin : zs ++ nodeB n = zs1 ++ n.w.map (fun x => byteF (w64 x)) ++ [byteF n.b.length] ++ n.b.flatMap B32 := by rw [hz]; simp [nodeB]
  simp only [List.append_assoc, List.cons_append, List.nil_append] at hz
  simp only [push_cast, reduceCtorEq, List.reduceReplicate, Nat.reduceBEq, Nat.reduceAdd, Nat.reduceSub, Nat.reduceMul, Nat.reduceLT, Nat.reduceLeDiff, ↓reduceIte, Int.reduceNeg, Int.reduceLT, Int.reduceLE, Int.reduceAdd, Int.reduceSub, Int.reduceMul, Int.reduceToNat, Int.reduceNegSucc, Nat.reduceSucc, Int.reduceEq, Nat.reduceEqDiff, Int.reduceBEq, Int.reduceBNe, app_set _ _ h, h, hl, hl1, p1, p2, p3]
  rw [hfin, ← hz]
  refine lp_ind (rest := (fun r => finR _ _ _ _ (thenEv _ _ _ (blockEv _ (r))))) (fun p : Nat × List Int × List Nat => ⟨[.ptr id 0, .any, .any, .ptr D.length 0, .any, .any, .any, .any, .any, .any, .any, .any, .any, .any, .any, .any, .any, .any, .any, .any, .any, .any, .any, .any, .any, .any, .any, .any, .any, .any, .any, .any, .any, .any, .any, .any, .any, .any, .any, .any, .any, .any, .any, .any, .any, .any, .any, .any, .any, .any, .any, .any, .any, .any, .any, .any, .any, .list 1 .ro (n.w.map I8), I n.w.length, I p.1, .any, .any, .any, .any, .any, .any, .any, .any, .any, .any, .any, .any, .any, .any, .any, .any, .any, .any, .any, .any, .any, .any, .any, .any, .any, .any, .any, .any, .any, .any, .any, .any, .any, .any, .any, .any, .any], D.set id (wbox id p.2.1) ++ [n.cs], [], p.2.2⟩)
    (fun p => some ⟨.tuple [], D.set id (wbox id (zs1 ++ n.w.map (fun x => byteF (w64 x)) ++ [byteF n.b.length] ++ n.b.flatMap B32)), [id]⟩) (fun p => n.w.length - p.1) (fun p => p.1 ≤ n.w.length ∧ p.2.1 = zs1 ++ (n.w.take p.1).map (fun x => byteF (w64 x)) ∧ ∀ x ∈ p.2.2, x = id) ?_ (0, zs1, [id, id, id]) ⟨Nat.zero_le _, by simp, by simp⟩
  rintro ⟨i, ys, m⟩ ⟨hi, hy, hm⟩ ih
  simp only at hi hy hm
  by_cases hlt : i < n.w.length
  · have hc : ((i : Int) < n.w.length) := by omega
    obtain ⟨v, hv⟩ : ∃ v, v = n.w[i] := ⟨_, rfl⟩
    have hx : n.w[i]? = some v := by rw [hv]; exact List.getElem?_eq_getElem hlt
    have hw := i64c i (by omega)
    have hnx := ih (i + 1, ys ++ [byteF (w64 v)], id :: m) (by show _ < _; omega) ⟨by show _ ≤ _; omega, by rw [hy, List.take_add_one, hx]; simp, by intro x hx; simp at hx; rcases hx with hx | hx; exact hx; exact hm x hx⟩
    have hyl : ys.length ≤ zs1.length + n.w.length := by rw [hy]; simp; omega
    have q1 := c86a id D [n.cs] ys [w64 v] h (by simp; omega)
    have hcut := cutB_set (n := D.length + 1) (m := m) (wbox id (ys ++ [byteF (w64 v)])) [n.cs] hm h (wbox_under _ _ _)
    simp only [wbox, List.append_nil, List.map_append, List.map_cons, List.map_nil] at hcut hnx q1
    simp only [push_cast, reduceCtorEq, List.reduceReplicate, Nat.reduceBEq, Nat.reduceAdd, Nat.reduceSub, Nat.reduceMul, Nat.reduceLT, Nat.reduceLeDiff, ↓reduceIte, Int.reduceNeg, Int.reduceLT, Int.reduceLE, Int.reduceAdd, Int.reduceSub, Int.reduceMul, Int.reduceToNat, Int.reduceNegSucc, Nat.reduceSucc, Int.reduceEq, Nat.reduceEqDiff, Int.reduceBEq, Int.reduceBNe, hc, hx, hw, h, hl, hl1, q1, hcut] at hnx ⊢
    rw [hnx]
    simp only [wbox, List.map_append, List.map_cons]
  · have hc : ¬ ((i : Int) < n.w.length) := by omega
    have : i = n.w.length := by omega
    subst this
    rw [List.take_length] at hy
    subst hy
    have p4 := c86a id D [n.cs] (zs1 ++ n.w.map (fun x => byteF (w64 x))) [n.b.length] h (by simp; omega)
    obtain ⟨zs2, hz2⟩ : ∃ z, z = zs1 ++ n.w.map (fun x => byteF (w64 x)) ++ [byteF n.b.length] := ⟨_, rfl⟩
    have hlen2 : zs2.length = zs1.length + n.w.length + 1 := by rw [hz2]; simp; omega
    simp only [List.map_cons, List.map_nil, ← hz2] at p4
    simp only [← hz2]
    simp only [push_cast, reduceCtorEq, List.reduceReplicate, Nat.reduceBEq, Nat.reduceAdd, Nat.reduceSub, Nat.reduceMul, Nat.reduceLT, Nat.reduceLeDiff, ↓reduceIte, Int.reduceNeg, Int.reduceLT, Int.reduceLE, Int.reduceAdd, Int.reduceSub, Int.reduceMul, Int.reduceToNat, Int.reduceNegSucc, Nat.reduceSucc, Int.reduceEq, Nat.reduceEqDiff, Int.reduceBEq, Int.reduceBNe, hc, h, hl, hl1, p4]
    refine lp_ind (rest := (fun r => finR _ _ _ _ (blockEv _ (r)))) (fun p : Nat × List Int × List Nat => ⟨[.ptr id 0, .any, .any, .any, .any, .any, .any, .any, .any, .any, .any, .any, .any, .any, .any, .any, .any, .any, .any, .any, .any, .any, .any, .any, .any, .any, .any, .any, .any, .any, .any, .any, .any, .any, .any, .any, .any, .any, .any, .any, .any, .any, .any, .any, .any, .any, .any, .any, .any, .any, .any, .any, .any, .any, .any, .any, .any, .any, .any, .any, .any, .any, .any, .any, .any, .any, .any, .any, .any, .any, .any, .any, .any, .any, .any, .any, .list 1 .ro (n.b.map I32), I n.b.length, I p.1, .any, .any, .any, .any, .any, .any, .any, .any, .any, .any, .any, .any, .any, .any, .any, .any, .any, .any], D.set id (wbox id p.2.1) ++ [n.cs], [], p.2.2⟩)
      (fun p => some ⟨.tuple [], D.set id (wbox id (zs2 ++ n.b.flatMap B32)), [id]⟩) (fun p => n.b.length - p.1) (fun p => p.1 ≤ n.b.length ∧ p.2.1 = zs2 ++ (n.b.take p.1).flatMap B32 ∧ ys_len zs2 p.1 p.2.1 ∧ ∀ x ∈ p.2.2, x = id) ?_ (0, zs2, id :: m) ⟨Nat.zero_le _, by simp, by simp [ys_len], by intro x hx; simp at hx; rcases hx with hx | hx; exact hx; exact hm x hx⟩
    rintro ⟨i, ys, m⟩ ⟨hi, hy, hyl, hm⟩ ih
    simp only [ys_len] at hi hy hm hyl
    by_cases hlt : i < n.b.length
    · have hc : ((i : Int) < n.b.length) := by omega
      obtain ⟨v, hv⟩ : ∃ v, v = n.b[i] := ⟨_, rfl⟩
      have hx : n.b[i]? = some v := by rw [hv]; exact List.getElem?_eq_getElem hlt
      have hw := i64c i (by omega)
      have hnx := ih (i + 1, ys ++ B32 v, id :: m) (by show _ < _; omega) ⟨by show _ ≤ _; omega, by rw [hy, List.take_add_one, hx]; simp, by simp [ys_len, B32, hyl]; omega, by intro x hx; simp at hx; rcases hx with hx | hx; exact hx; exact hm x hx⟩
      have q1 := c86a id D [n.cs] ys [w64 (v.fdiv 16777216), w64 (v.fdiv 65536), w64 (v.fdiv 256), w64 v] h (by simp; omega)
      have hcut := cutB_set (n := D.length + 1) (m := m) (wbox id (ys ++ B32 v)) [n.cs] hm h (wbox_under _ _ _)
      simp only [wbox, B32, List.append_nil, List.map_append, List.map_cons, List.map_nil] at hcut hnx q1
      simp only [push_cast, reduceCtorEq, List.reduceReplicate, Nat.reduceBEq, Nat.reduceAdd, Nat.reduceSub, Nat.reduceMul, Nat.reduceLT, Nat.reduceLeDiff, ↓reduceIte, Int.reduceNeg, Int.reduceLT, Int.reduceLE, Int.reduceAdd, Int.reduceSub, Int.reduceMul, Int.reduceToNat, Int.reduceNegSucc, Nat.reduceSucc, Int.reduceEq, Nat.reduceEqDiff, Int.reduceBEq, Int.reduceBNe, hc, hx, hw, h, hl, hl1, q1, hcut] at hnx ⊢
      rw [hnx]
      simp only [wbox, List.map_append]
    · have hc : ¬ ((i : Int) < n.b.length) := by omega
      have : i = n.b.length := by omega
      subst this
      rw [List.take_length] at hy
      subst hy
      have hcut := cutB_set (n := D.length) (m := m) (wbox id (zs2 ++ n.b.flatMap B32)) [n.cs] hm h (wbox_under _ _ _)
      rw [set_take0] at hcut
      simp only [push_cast, reduceCtorEq, List.reduceReplicate, Nat.reduceBEq, Nat.reduceAdd, Nat.reduceSub, Nat.reduceMul, Nat.reduceLT, Nat.reduceLeDiff, ↓reduceIte, Int.reduceNeg, Int.reduceLT, Int.reduceLE, Int.reduceAdd, Int.reduceSub, Int.reduceMul, Int.reduceToNat, Int.reduceNegSucc, Nat.reduceSucc, Int.reduceEq, Nat.reduceEqDiff, Int.reduceBEq, Int.reduceBNe, hc, h, hl, hl1, all_eq _ hm]
      rw [hcut]
end Go.Q
