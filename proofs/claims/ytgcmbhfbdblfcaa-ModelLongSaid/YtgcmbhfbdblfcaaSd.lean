/-
  graph.Value.
-/
import Derived.Test.YtgcmbhfbdblfcaaSc
set_option linter.unusedVariables false
set_option linter.unusedSimpArgs false
set_option maxRecDepth 10000
namespace Go.Q
open Go.Proofs
def nodeF (n : Nod) (len : Int) : Bool := (decide (1 ≤ n.op) && decide (n.op ≤ 12)) && mayF (cnd (isTwo n.op) 2 1) (isWin n.op) (decide (n.op = 1) || decide (n.op = 2)) (decide (n.op = 9)) (decide (n.op = 1) || decide (n.op = 3)) n len
def Shp.zero : Shp := ⟨0, 0, 0⟩
def madeF (n : Nod) (a b : Shp) : Shp :=
  if n.op = 1 then slidF n a n.out else if n.op = 2 ∨ n.op = 4 ∨ n.op = 5 then slidF n a a.c else if n.op = 3 then ⟨1, 1, n.out⟩
  else if n.op = 6 ∨ n.op = 7 then cnd (decide (a = b)) a ⟨0, 0, 0⟩ else if n.op = 9 then ⟨a.h + 2, a.w + 2, a.c⟩
  else if n.op = 10 then cnd (decide (a.h = b.h) && decide (a.w = b.w)) ⟨a.h, a.w, a.c + b.c⟩ ⟨0, 0, 0⟩
  else if n.op = 11 then cnd (decide (n.to.size = a.size)) n.to ⟨0, 0, 0⟩ else a
def manyF (n : Nod) (a : Shp) : Int × Int :=
  if n.op = 1 then (n.k * n.k * a.c * n.out, n.out) else if n.op = 2 then (n.k * n.k * a.c, a.c) else if n.op = 3 then (a.size * n.out, n.out) else if n.op = 12 then (256, 0) else (0, 0)
theorem op_cases {op : Int} (h : 1 ≤ op ∧ op ≤ 12) : op = 1 ∨ op = 2 ∨ op = 3 ∨ op = 4 ∨ op = 5 ∨ op = 6 ∨ op = 7 ∨ op = 8 ∨ op = 9 ∨ op = 10 ∨ op = 11 ∨ op = 12 := by omega
theorem made_call (n : Nod) (hop : 1 ≤ n.op ∧ n.op ≤ 12) (a b : Shp) (ha : a.may = true) (hb : b.may = true) (B : List (List PV)) : callW tcfg (madeK n.op) [n.pv, a.pv, b.pv] B = some ⟨(madeF n a b).pv, B, []⟩ := by
  obtain ⟨h, w, c⟩ := a
  obtain ⟨h', w', c'⟩ := b
  have ⟨a1, a2, a3⟩ := Shp.may_iff.1 ha
  have ⟨b1, b2, b3⟩ := Shp.may_iff.1 hb
  simp only at a1 a2 a3 b1 b2 b3
  have e1 : w64 (h + 2) = h + 2 := IntWalk.i64_in _ (by omega)
  have e2 : w64 (w + 2) = w + 2 := IntWalk.i64_in _ (by omega)
  have e3 : w64 (c + c') = c + c' := IntWalk.i64_in _ (by omega)
  rcases op_cases hop with e | e | e | e | e | e | e | e | e | e | e | e <;> simp [madeK, madeF, e, c224 n, c227 n, c229 n, c222 n, c231 n, c232 n, c233 n, c234 n, e1, e2, e3]
theorem size_bound (s : Shp) : 0 ≤ s.size ∧ s.size ≤ 2048 := by
  unfold Shp.size Shp.row
  cases hm : s.may
  · simp [cnd]
  · have ⟨h1, h2, h3⟩ := Shp.may_iff.1 hm
    show 0 ≤ s.w * s.c * s.h ∧ s.w * s.c * s.h ≤ 2048
    have : 0 ≤ s.w * s.c := Int.mul_nonneg (by omega) (by omega)
    have : s.w * s.c ≤ 16 * 8 := Int.mul_le_mul (by omega) (by omega) (by omega) (by omega)
    have : 0 ≤ s.w * s.c * s.h := Int.mul_nonneg (by omega) (by omega)
    have : s.w * s.c * s.h ≤ (16 * 8) * 16 := Int.mul_le_mul (by omega) (by omega) (by omega) (by omega)
    omega
theorem row_bound (s : Shp) : 0 ≤ s.row ∧ s.row ≤ 128 := by
  unfold Shp.row
  cases hm : s.may
  · simp [cnd]
  · have ⟨h1, h2, h3⟩ := Shp.may_iff.1 hm
    show 0 ≤ s.w * s.c ∧ s.w * s.c ≤ 128
    have : 0 ≤ s.w * s.c := Int.mul_nonneg (by omega) (by omega)
    have : s.w * s.c ≤ 16 * 8 := Int.mul_le_mul (by omega) (by omega) (by omega) (by omega)
    omega
theorem weights_call {len : Int} (n : Nod) (hop : 1 ≤ n.op ∧ n.op ≤ 12) (a : Shp) (ha : a.may = true) (hn : nodeF n len = true) (B : List (List PV)) : callW tcfg (wK n.op) [n.pv, a.pv] B = some ⟨.tuple [I (manyF n a).1, I (manyF n a).2], B, []⟩ := by
  have ⟨a1, a2, a3⟩ := Shp.may_iff.1 ha
  simp only [nodeF, mayF, Bool.and_eq_true] at hn
  have hk := hn.2.1.1.2
  have ho := hn.2.2
  have hs := size_bound a
  have mb : ∀ {x y X Y : Int}, 0 ≤ x → x ≤ X → 0 ≤ y → y ≤ Y → 0 ≤ X → 0 ≤ x * y ∧ x * y ≤ X * Y := fun h1 h2 h3 h4 h5 => ⟨Int.mul_nonneg h1 h3, Int.mul_le_mul h2 h4 h3 h5⟩
  rcases op_cases hop with e | e | e | e | e | e | e | e | e | e | e | e
  · simp only [isWin, e, cnd, decide_true, Bool.true_or, wi, Bool.and_eq_true, decide_eq_true_eq] at hk ho
    have k2 := mb (x := n.k) (y := n.k) (X := 3) (Y := 3) (by omega) (by omega) (by omega) (by omega) (by omega)
    have k3 := mb (x := n.k * n.k) (y := a.c) (X := 9) (Y := 8) (by omega) (by omega) (by omega) (by omega) (by omega)
    have k4 := mb (x := n.k * n.k * a.c) (y := n.out) (X := 72) (Y := 8) (by omega) (by omega) (by omega) (by omega) (by omega)
    have e1 : w64 (n.k * n.k) = n.k * n.k := IntWalk.i64_in _ (by omega)
    have e2 : w64 (n.k * n.k * a.c) = n.k * n.k * a.c := IntWalk.i64_in _ (by omega)
    have e3 : w64 (n.k * n.k * a.c * n.out) = n.k * n.k * a.c * n.out := IntWalk.i64_in _ (by omega)
    simp [wK, manyF, e, c226 n, e1, e2, e3]
  · simp only [isWin, e, cnd, decide_true, Bool.true_or, Bool.or_true, wi, Bool.and_eq_true, decide_eq_true_eq] at hk
    have k2 := mb (x := n.k) (y := n.k) (X := 3) (Y := 3) (by omega) (by omega) (by omega) (by omega) (by omega)
    have k3 := mb (x := n.k * n.k) (y := a.c) (X := 9) (Y := 8) (by omega) (by omega) (by omega) (by omega) (by omega)
    have e1 : w64 (n.k * n.k) = n.k * n.k := IntWalk.i64_in _ (by omega)
    have e2 : w64 (n.k * n.k * a.c) = n.k * n.k * a.c := IntWalk.i64_in _ (by omega)
    simp [wK, manyF, e, c228 n, e1, e2]
  · simp only [e, cnd, decide_true, Bool.true_or, Bool.or_true, wi, Bool.and_eq_true, decide_eq_true_eq] at ho
    have k2 := mb (x := a.size) (y := n.out) (X := 2048) (Y := 8) (by omega) (by omega) (by omega) (by omega) (by omega)
    have e1 : w64 (a.size * n.out) = a.size * n.out := IntWalk.i64_in _ (by omega)
    simp [wK, manyF, e, c230 n, e1, Shp.eta]
  all_goals simp [wK, manyF, e, c223 n, c235 n]
def lastS (xs : List Vl) : Shp := (xs.getLast?.map Vl.s).getD ⟨0, 0, 0⟩
def headS (xs : List Vl) : Shp := (xs.head?.map Vl.s).getD ⟨0, 0, 0⟩
def biasBad (n : Nod) : Bool := n.b.any fun x => !wi (-16777216) 16777216 (w64 x)
def valueF (n : Nod) (xs : List Vl) : Vl × Int :=
  if nodeF n xs.length = false then (⟨⟨0, 0, 0⟩, 0⟩, 11)
  else if (keepsF n.op && xs.any fun v => !decide (v.z = n.zero)) = true then (⟨⟨0, 0, 0⟩, 0⟩, 11)
  else if (xs.any fun v => !v.s.may) = true then (⟨⟨0, 0, 0⟩, 0⟩, 10)
  else if (madeF n (headS xs) (lastS xs)).may = false then (⟨⟨0, 0, 0⟩, 0⟩, 10)
  else if (decide ((n.w.length : Int) = (manyF n (headS xs)).1) && decide ((n.b.length : Int) = (manyF n (headS xs)).2) && !biasBad n) = true then (⟨madeF n (headS xs) (lastS xs), n.zero⟩, 0)
  else (⟨⟨0, 0, 0⟩, 0⟩, 12)
theorem nodeF_len {n : Nod} {xs : List Vl} (h : nodeF n xs.length = true) : 1 ≤ xs.length ∧ xs.length ≤ 2 := by
  simp only [nodeF, mayF, Bool.and_eq_true, decide_eq_true_eq] at h
  have := h.2.1.1.1.1.1
  unfold isTwo cnd at this
  split at this <;> omega
theorem consT_madeK {op : Int} (h : 1 ≤ op ∧ op ≤ 12) : consT (madeK op) = [] := by
  rcases op_cases h with e | e | e | e | e | e | e | e | e | e | e | e <;> subst e <;> rfl
theorem consT_wK {op : Int} (h : 1 ≤ op ∧ op ≤ 12) : consT (wK op) = [] := by
  rcases op_cases h with e | e | e | e | e | e | e | e | e | e | e | e <;> subst e <;> rfl
theorem c170 (n : Nod) (xs : List Vl) (hl : xs.length < 2^40) (hbl : n.b.length < 2^40) (B : List (List PV)) : callW tcfg 170 [n.pv, .list 4 .ro (xs.map Vl.pv)] B = some ⟨.tuple [(valueF n xs).1.pv, I (valueF n xs).2], B, []⟩ := by
  refine callW_of_fin (n := 88) (ids := none) rfl Try.func170 rfl rfl rfl ?_ rfl
  by_cases hop : 1 ≤ n.op ∧ n.op ≤ 12
  · have h205 := c205 n.op hop
    have hopb : (decide (1 ≤ n.op) && decide (n.op ≤ 12)) = true := by simp [hop]
    cases hm : nodeF n xs.length
    · have hm' := hm
      simp only [nodeF, hopb, Bool.true_and] at hm'
      simp only [push_cast, reduceCtorEq, List.reduceReplicate, Nat.reduceBEq, Nat.reduceAdd, Nat.reduceSub, Nat.reduceMul, Nat.reduceLT, Nat.reduceLeDiff, ↓reduceIte, Int.reduceNeg, Int.reduceLT, Int.reduceLE, Int.reduceAdd, Int.reduceSub, Int.reduceMul, Int.reduceToNat, Int.reduceNegSucc, Nat.reduceSucc, Int.reduceEq, Nat.reduceEqDiff, Int.reduceBEq, Int.reduceBNe, h205, c206, hm', valueF, hm]
    · have hm' := hm
      simp only [nodeF, hopb, Bool.true_and] at hm'
      have c208' := fun (v : Vl) (_ : v ∈ xs) => c208 n B.length (B ++ [n.cs, [I 0, I 0, I 0, I 0], kPV n.op]) (by simp only [push_cast, reduceCtorEq, List.reduceReplicate, Nat.reduceBEq, Nat.reduceAdd, Nat.reduceSub, Nat.reduceMul, Nat.reduceLT, Nat.reduceLeDiff, ↓reduceIte, Int.reduceNeg, Int.reduceLT, Int.reduceLE, Int.reduceAdd, Int.reduceSub, Int.reduceMul, Int.reduceToNat, Int.reduceNegSucc, Nat.reduceSucc, Int.reduceEq, Nat.reduceEqDiff, Int.reduceBEq, Int.reduceBNe]) v
      have h207a := c207 xs hl 208 [.ptr B.length 0] (fun v => !decide (v.z = n.zero)) (B ++ [n.cs, [I 0, I 0, I 0, I 0], kPV n.op]) rfl (by simp only [push_cast, reduceCtorEq, List.reduceReplicate, Nat.reduceBEq, Nat.reduceAdd, Nat.reduceSub, Nat.reduceMul, Nat.reduceLT, Nat.reduceLeDiff, ↓reduceIte, Int.reduceNeg, Int.reduceLT, Int.reduceLE, Int.reduceAdd, Int.reduceSub, Int.reduceMul, Int.reduceToNat, Int.reduceNegSucc, Nat.reduceSucc, Int.reduceEq, Nat.reduceEqDiff, Int.reduceBEq, Int.reduceBNe]) (fun i => by simp only [push_cast, reduceCtorEq, List.reduceReplicate, Nat.reduceBEq, Nat.reduceAdd, Nat.reduceSub, Nat.reduceMul, Nat.reduceLT, Nat.reduceLeDiff, ↓reduceIte, Int.reduceNeg, Int.reduceLT, Int.reduceLE, Int.reduceAdd, Int.reduceSub, Int.reduceMul, Int.reduceToNat, Int.reduceNegSucc, Nat.reduceSucc, Int.reduceEq, Nat.reduceEqDiff, Int.reduceBEq, Int.reduceBNe]) (by simp only [push_cast, reduceCtorEq, List.reduceReplicate, Nat.reduceBEq, Nat.reduceAdd, Nat.reduceSub, Nat.reduceMul, Nat.reduceLT, Nat.reduceLeDiff, ↓reduceIte, Int.reduceNeg, Int.reduceLT, Int.reduceLE, Int.reduceAdd, Int.reduceSub, Int.reduceMul, Int.reduceToNat, Int.reduceNegSucc, Nat.reduceSucc, Int.reduceEq, Nat.reduceEqDiff, Int.reduceBEq, Int.reduceBNe]; simp) c208'
      have h207b := c207 xs hl 209 [] (fun v => !v.s.may) (B ++ [n.cs, [I 0, I 0, I 0, I 0], kPV n.op]) rfl rfl (fun i => rfl) rfl (fun v _ => c209 v _)
      cases hk : (keepsF n.op && xs.any fun v => !decide (v.z = n.zero))
      · cases hs : (xs.any fun v => !v.s.may)
        · have hlen := nodeF_len hm
          obtain ⟨a, ha⟩ : ∃ a, xs[0]? = some a := ⟨xs[0], List.getElem?_eq_getElem (by omega)⟩
          obtain ⟨k, hk0⟩ : ∃ k, k + 1 = xs.length := ⟨xs.length - 1, by omega⟩
          obtain ⟨b, hb⟩ : ∃ b, xs[k]? = some b := ⟨xs[k], List.getElem?_eq_getElem (by omega)⟩
          have hk1 : IntKind.i64.wrap ((xs.length : Int) - 1) = (k : Int) := by rw [IntWalk.i64_in _ (by omega)]; omega
          have hk2 : ((k : Int) < xs.length) := by omega
          have hk3 : ((0 : Int) < xs.length) := by omega
          have hmem := List.any_eq_false.1 hs
          have hma : a.s.may = true := by simpa using hmem a (List.mem_of_getElem? ha)
          have hmb : b.s.may = true := by simpa using hmem b (List.mem_of_getElem? hb)
          have e1 : headS xs = a.s := by rw [headS, List.head?_eq_getElem?, ha]; rfl
          have e2 : lastS xs = b.s := by rw [lastS, List.getLast?_eq_getElem?, (by omega : xs.length - 1 = k), hb]; rfl
          have h1 := made_call n hop a.s b.s hma hmb
          have h2 := weights_call n hop a.s hma hm
          have h210 := c210 n.b hbl 211 [] (fun x => !wi (-16777216) 16777216 (w64 x)) (B ++ [n.cs, [I 0, I 0, I 0, I 0], kPV n.op, [I (madeF n a.s b.s).h, I (madeF n a.s b.s).w, I (madeF n a.s b.s).c]]) rfl rfl (fun i => rfl) rfl (fun v _ => c211 v _)
          simp only [push_cast, reduceCtorEq, List.reduceReplicate, Nat.reduceBEq, Nat.reduceAdd, Nat.reduceSub, Nat.reduceMul, Nat.reduceLT, Nat.reduceLeDiff, ↓reduceIte, Int.reduceNeg, Int.reduceLT, Int.reduceLE, Int.reduceAdd, Int.reduceSub, Int.reduceMul, Int.reduceToNat, Int.reduceNegSucc, Nat.reduceSucc, Int.reduceEq, Nat.reduceEqDiff, Int.reduceBEq, Int.reduceBNe, h205, c206, hm', valueF, hm, h207a, h207b, hk, hs, ha, hb, hk1, hk2, hk3, e1, e2, consT_madeK hop, consT_wK hop, h1, h2, c202, h210]
          cases hs2 : (madeF n a.s b.s).may
          · simp [hs2, cnd]
          · by_cases g1 : (n.w.length : Int) = (manyF n a.s).1 <;> by_cases g2 : (n.b.length : Int) = (manyF n a.s).2 <;> cases g3 : biasBad n <;> unfold biasBad at g3 <;> simp [hs2, cnd, g1, g2, g3, biasBad]
        · simp only [push_cast, reduceCtorEq, List.reduceReplicate, Nat.reduceBEq, Nat.reduceAdd, Nat.reduceSub, Nat.reduceMul, Nat.reduceLT, Nat.reduceLeDiff, ↓reduceIte, Int.reduceNeg, Int.reduceLT, Int.reduceLE, Int.reduceAdd, Int.reduceSub, Int.reduceMul, Int.reduceToNat, Int.reduceNegSucc, Nat.reduceSucc, Int.reduceEq, Nat.reduceEqDiff, Int.reduceBEq, Int.reduceBNe, h205, c206, hm', valueF, hm, h207a, h207b, hk, hs]
      · simp only [push_cast, reduceCtorEq, List.reduceReplicate, Nat.reduceBEq, Nat.reduceAdd, Nat.reduceSub, Nat.reduceMul, Nat.reduceLT, Nat.reduceLeDiff, ↓reduceIte, Int.reduceNeg, Int.reduceLT, Int.reduceLE, Int.reduceAdd, Int.reduceSub, Int.reduceMul, Int.reduceToNat, Int.reduceNegSucc, Nat.reduceSucc, Int.reduceEq, Nat.reduceEqDiff, Int.reduceBEq, Int.reduceBNe, h205, c206, hm', valueF, hm, h207a, h207b, hk]
  · have h205 := c205n n.op hop
    have hnn : nodeF n xs.length = false := by
      have : (decide (1 ≤ n.op) && decide (n.op ≤ 12)) = false := by simp; omega
      simp only [nodeF, this, Bool.false_and]
    simp only [push_cast, reduceCtorEq, List.reduceReplicate, Nat.reduceBEq, Nat.reduceAdd, Nat.reduceSub, Nat.reduceMul, Nat.reduceLT, Nat.reduceLeDiff, ↓reduceIte, Int.reduceNeg, Int.reduceLT, Int.reduceLE, Int.reduceAdd, Int.reduceSub, Int.reduceMul, Int.reduceToNat, Int.reduceNegSucc, Nat.reduceSucc, Int.reduceEq, Nat.reduceEqDiff, Int.reduceBEq, Int.reduceBNe, h205, valueF, hnn]
end Go.Q
