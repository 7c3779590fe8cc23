/-
  The references of shapes and graphs.
-/
import Derived.Test.YtgcmbhfbdblfcaaSf
set_option linter.unusedVariables false
set_option linter.unusedSimpArgs false
set_option maxRecDepth 10000
namespace Go.Q
open Go.Proofs
theorem c88 (h w c : Int) (B : List (List PV)) : callW tcfg 88 [sp h w c] B = some ⟨I (cnd (Shp.mk h w c).may 0 10), B, []⟩ := by
  refine callW_of_fin (n := 30) (ids := none) rfl Try.func88 rfl rfl rfl ?_ rfl
  have e : (decide (h < 1) || (decide (16 < h) || (decide (w < 1) || (decide (16 < w) || (decide (c < 1) || decide (8 < c)))))) = !(Shp.mk h w c).may := by
    rw [Bool.eq_iff_iff]; simp [Shp.may, wi]; omega
  simp only [push_cast, reduceCtorEq, List.reduceReplicate, Nat.reduceBEq, Nat.reduceAdd, Nat.reduceSub, Nat.reduceMul, Nat.reduceLT, Nat.reduceLeDiff, ↓reduceIte, Int.reduceNeg, Int.reduceLT, Int.reduceLE, Int.reduceAdd, Int.reduceSub, Int.reduceMul, Int.reduceToNat, Int.reduceNegSucc, Nat.reduceSucc, Int.reduceEq, Nat.reduceEqDiff, Int.reduceBEq, Int.reduceBNe, e]
theorem c50 (h w c : Int) (B : List (List PV)) : callW tcfg 50 [sp h w c] B = some ⟨I (Shp.mk h w c).size, B, []⟩ := by
  refine callW_of_fin (n := 13) (ids := none) rfl Try.func50 rfl rfl rfl ?_ rfl
  have hs := size_bound ⟨h, w, c⟩
  cases hm : (Shp.mk h w c).may
  · have e : (Shp.mk h w c).size = 0 := by simp [Shp.size, Shp.row, hm, cnd]
    simp only [push_cast, reduceCtorEq, List.reduceReplicate, Nat.reduceBEq, Nat.reduceAdd, Nat.reduceSub, Nat.reduceMul, Nat.reduceLT, Nat.reduceLeDiff, ↓reduceIte, Int.reduceNeg, Int.reduceLT, Int.reduceLE, Int.reduceAdd, Int.reduceSub, Int.reduceMul, Int.reduceToNat, Int.reduceNegSucc, Nat.reduceSucc, Int.reduceEq, Nat.reduceEqDiff, Int.reduceBEq, Int.reduceBNe, c88, hm, e]
  · have ⟨h1, h2, h3⟩ := Shp.may_iff.1 hm
    simp only at h1 h2 h3
    have e : (Shp.mk h w c).size = h * w * c := by simp only [Shp.size, Shp.row, hm, cnd]; rw [Int.mul_comm, ← Int.mul_assoc]
    have e1 : IntKind.i64.wrap (h * w) = h * w := by
      have : 0 ≤ h * w := Int.mul_nonneg (by omega) (by omega)
      have : h * w ≤ 16 * 16 := Int.mul_le_mul (by omega) (by omega) (by omega) (by omega)
      exact IntWalk.i64_in _ (by omega)
    have e2 : IntKind.i64.wrap (h * w * c) = h * w * c := by rw [e] at hs; exact IntWalk.i64_in _ (by omega)
    simp only [push_cast, reduceCtorEq, List.reduceReplicate, Nat.reduceBEq, Nat.reduceAdd, Nat.reduceSub, Nat.reduceMul, Nat.reduceLT, Nat.reduceLeDiff, ↓reduceIte, Int.reduceNeg, Int.reduceLT, Int.reduceLE, Int.reduceAdd, Int.reduceSub, Int.reduceMul, Int.reduceToNat, Int.reduceNegSucc, Nat.reduceSucc, Int.reduceEq, Nat.reduceEqDiff, Int.reduceBEq, Int.reduceBNe, c88, hm, e, e1, e2]
theorem c51 (h w c : Int) (B : List (List PV)) : callW tcfg 51 [sp h w c] B = some ⟨I (Shp.mk h w c).row, B, []⟩ := by
  refine callW_of_fin (n := 10) (ids := none) rfl Try.func51 rfl rfl rfl ?_ rfl
  have hs := row_bound ⟨h, w, c⟩
  cases hm : (Shp.mk h w c).may
  · have e : (Shp.mk h w c).row = 0 := by simp [Shp.row, hm, cnd]
    simp only [push_cast, reduceCtorEq, List.reduceReplicate, Nat.reduceBEq, Nat.reduceAdd, Nat.reduceSub, Nat.reduceMul, Nat.reduceLT, Nat.reduceLeDiff, ↓reduceIte, Int.reduceNeg, Int.reduceLT, Int.reduceLE, Int.reduceAdd, Int.reduceSub, Int.reduceMul, Int.reduceToNat, Int.reduceNegSucc, Nat.reduceSucc, Int.reduceEq, Nat.reduceEqDiff, Int.reduceBEq, Int.reduceBNe, c88, hm, e]
  · have e : (Shp.mk h w c).row = w * c := by simp only [Shp.row, hm, cnd]
    have e2 : IntKind.i64.wrap (w * c) = w * c := by rw [e] at hs; exact IntWalk.i64_in _ (by omega)
    simp only [push_cast, reduceCtorEq, List.reduceReplicate, Nat.reduceBEq, Nat.reduceAdd, Nat.reduceSub, Nat.reduceMul, Nat.reduceLT, Nat.reduceLeDiff, ↓reduceIte, Int.reduceNeg, Int.reduceLT, Int.reduceLE, Int.reduceAdd, Int.reduceSub, Int.reduceMul, Int.reduceToNat, Int.reduceNegSucc, Nat.reduceSucc, Int.reduceEq, Nat.reduceEqDiff, Int.reduceBEq, Int.reduceBNe, c88, hm, e, e2]
def cntF (x k st p a : Int) : Int := if a + k ≤ x + p then (x + p - k - a) / st + 1 else 0
theorem cntF_step {x k st p a : Int} (h : a + k ≤ x + p) (hs : 1 ≤ st) : cntF x k st p a = cntF x k st p (a + st) + 1 := by
  unfold cntF
  rw [if_pos h]
  have e : (x + p - k - a) / st = (x + p - k - (a + st)) / st + 1 := by
    rw [← Int.add_mul_ediv_right _ 1 (by omega)]
    congr 1; omega
  split
  · omega
  · rw [Int.ediv_eq_zero_of_lt (by omega) (by omega)]
theorem c199 (x k st p : Int) (B : List (List PV)) : callW tcfg 199 [I x, I k, I st, I p] B = some ⟨I (outF x k st p), B, []⟩ := by
  refine callW_of_fin (n := 52) (ids := none) rfl Try.func199 rfl rfl rfl ?_ rfl
  cases hb : (decide (x < 1) || (decide (64 < x) || (decide (k < 1) || (decide (16 < k) || (decide (st < 1) || (decide (16 < st) || (decide (p < 0) || decide (16 < p))))))))
  · have hb' : (1 ≤ x ∧ x ≤ 64) ∧ (1 ≤ k ∧ k ≤ 16) ∧ (1 ≤ st ∧ st ≤ 16) ∧ (0 ≤ p ∧ p ≤ 16) := by simp at hb; omega
    have e0 : IntKind.i64.wrap (0 - p) = - p := by rw [IntWalk.i64_in _ (by omega)]; omega
    have e2 : IntKind.i64.wrap (x + p) = x + p := IntWalk.i64_in _ (by omega)
    have e : outF x k st p = 0 + cntF x k st p (-p) := by
      unfold outF cntF
      have w1 : wi 1 64 x = true := wi_iff.2 (by omega)
      have w2 : wi 1 16 k = true := wi_iff.2 (by omega)
      have w3 : wi 1 16 st = true := wi_iff.2 (by omega)
      have w4 : wi 0 16 p = true := wi_iff.2 (by omega)
      by_cases h : x + 2 * p < k
      · rw [if_neg (by simp [h]), if_neg (by omega)]; rfl
      · rw [if_pos (by simp [w1, w2, w3, w4]; omega), if_pos (by omega), Int.tdiv_eq_ediv_of_nonneg (by omega)]
        have : x + p - k - -p = x + 2 * p - k := by omega
        rw [this]; omega
    simp only [push_cast, reduceCtorEq, List.reduceReplicate, Nat.reduceBEq, Nat.reduceAdd, Nat.reduceSub, Nat.reduceMul, Nat.reduceLT, Nat.reduceLeDiff, ↓reduceIte, Int.reduceNeg, Int.reduceLT, Int.reduceLE, Int.reduceAdd, Int.reduceSub, Int.reduceMul, Int.reduceToNat, Int.reduceNegSucc, Nat.reduceSucc, Int.reduceEq, Nat.reduceEqDiff, Int.reduceBEq, Int.reduceBNe, hb, e0]
    rw [e]
    refine lp_ind (rest := (fun r => finR _ _ _ _ (thenEv _ _ _ (blockEv _ (r))))) (fun q : Int × Int => ⟨[I x, I k, I st, I p, .any, .any, .any, .any, .any, I q.1, I q.2, .any, .any, .any, .any, .any, .any, .any, .any, .any, .any, .any, .any, .any, .any, .any, .any, .any, .any, .any, .any, .any, .any, .any, .any, .any, .any, .any, .any, .any, .any, .any, .any, .any, .any, .any, .any, .any, .any, .any, .any, .any, .any, .any, .any, .any], B, [], []⟩) (fun q => some ⟨I (q.1 + cntF x k st p q.2), B, []⟩)
      (fun q => (200 - q.2).toNat) (fun q => - p ≤ q.2 ∧ q.2 ≤ 150 ∧ 0 ≤ q.1 ∧ q.1 ≤ q.2 + p) ?_ (0, -p) ⟨Int.le_refl _, by show -p ≤ 150; omega, Int.le_refl 0, by show 0 ≤ -p + p; omega⟩
    rintro ⟨n, a⟩ ⟨h1, h2, h3, h4⟩ ih
    simp only at h1 h2 h3 h4
    have e1 : IntKind.i64.wrap (a + k) = a + k := IntWalk.i64_in _ (by omega)
    by_cases h : a + k ≤ x + p
    · have e3 : IntKind.i64.wrap (n + 1) = n + 1 := IntWalk.i64_in _ (by omega)
      have e4 : IntKind.i64.wrap (a + st) = a + st := IntWalk.i64_in _ (by omega)
      have hn := ih (n + 1, a + st) (by show (200 - (a + st)).toNat < (200 - a).toNat; omega) ⟨by show -p ≤ a + st; omega, by show a + st ≤ 150; omega, by show 0 ≤ n + 1; omega, by show n + 1 ≤ a + st + p; omega⟩
      rw [cntF_step h (by omega)]
      simp only [push_cast, reduceCtorEq, List.reduceReplicate, Nat.reduceBEq, Nat.reduceAdd, Nat.reduceSub, Nat.reduceMul, Nat.reduceLT, Nat.reduceLeDiff, ↓reduceIte, Int.reduceNeg, Int.reduceLT, Int.reduceLE, Int.reduceAdd, Int.reduceSub, Int.reduceMul, Int.reduceToNat, Int.reduceNegSucc, Nat.reduceSucc, Int.reduceEq, Nat.reduceEqDiff, Int.reduceBEq, Int.reduceBNe, e1, e2, e3, e4, h] at hn ⊢
      rw [hn, Int.add_assoc, Int.add_comm 1 (cntF _ _ _ _ _)]
    · simp only [push_cast, reduceCtorEq, List.reduceReplicate, Nat.reduceBEq, Nat.reduceAdd, Nat.reduceSub, Nat.reduceMul, Nat.reduceLT, Nat.reduceLeDiff, ↓reduceIte, Int.reduceNeg, Int.reduceLT, Int.reduceLE, Int.reduceAdd, Int.reduceSub, Int.reduceMul, Int.reduceToNat, Int.reduceNegSucc, Nat.reduceSucc, Int.reduceEq, Nat.reduceEqDiff, Int.reduceBEq, Int.reduceBNe, e1, e2, h, cntF, if_false, Int.add_zero]
  · have e : outF x k st p = 0 := by
      unfold outF
      rw [if_neg]
      rintro ⟨w1, w2, w3, w4⟩
      simp only [Bool.and_eq_true] at w2
      have w1 := wi_iff.1 w1
      have w2' := wi_iff.1 w2.1
      have w2'' := wi_iff.1 w2.2
      have w3 := wi_iff.1 w3
      simp at hb
      omega
    simp only [push_cast, reduceCtorEq, List.reduceReplicate, Nat.reduceBEq, Nat.reduceAdd, Nat.reduceSub, Nat.reduceMul, Nat.reduceLT, Nat.reduceLeDiff, ↓reduceIte, Int.reduceNeg, Int.reduceLT, Int.reduceLE, Int.reduceAdd, Int.reduceSub, Int.reduceMul, Int.reduceToNat, Int.reduceNegSucc, Nat.reduceSucc, Int.reduceEq, Nat.reduceEqDiff, Int.reduceBEq, Int.reduceBNe, hb, e]
theorem c89 (x lo hi : Int) (B : List (List PV)) : callW tcfg 89 [I x, I lo, I hi] B = some ⟨Bo (wi lo hi x), B, []⟩ := by
  refine callW_of_fin (n := 12) (ids := none) rfl Try.func89 rfl rfl rfl ?_ rfl
  simp only [push_cast, reduceCtorEq, List.reduceReplicate, Nat.reduceBEq, Nat.reduceAdd, Nat.reduceSub, Nat.reduceMul, Nat.reduceLT, Nat.reduceLeDiff, ↓reduceIte, Int.reduceNeg, Int.reduceLT, Int.reduceLE, Int.reduceAdd, Int.reduceSub, Int.reduceMul, Int.reduceToNat, Int.reduceNegSucc, Nat.reduceSucc, Int.reduceEq, Nat.reduceEqDiff, Int.reduceBEq, Int.reduceBNe, wi]
theorem c197 (op : Int) (B : List (List PV)) : callW tcfg 197 [I op] B = some ⟨Bo (isTwo op), B, []⟩ := by
  refine callW_of_fin (n := 12) (ids := none) rfl Try.func197 rfl rfl rfl ?_ rfl
  simp only [push_cast, reduceCtorEq, List.reduceReplicate, Nat.reduceBEq, Nat.reduceAdd, Nat.reduceSub, Nat.reduceMul, Nat.reduceLT, Nat.reduceLeDiff, ↓reduceIte, Int.reduceNeg, Int.reduceLT, Int.reduceLE, Int.reduceAdd, Int.reduceSub, Int.reduceMul, Int.reduceToNat, Int.reduceNegSucc, Nat.reduceSucc, Int.reduceEq, Nat.reduceEqDiff, Int.reduceBEq, Int.reduceBNe, isTwo, Bool.or_assoc]
theorem c198 (op : Int) (B : List (List PV)) : callW tcfg 198 [I op] B = some ⟨Bo (isWin op), B, []⟩ := by
  refine callW_of_fin (n := 12) (ids := none) rfl Try.func198 rfl rfl rfl ?_ rfl
  simp only [push_cast, reduceCtorEq, List.reduceReplicate, Nat.reduceBEq, Nat.reduceAdd, Nat.reduceSub, Nat.reduceMul, Nat.reduceLT, Nat.reduceLeDiff, ↓reduceIte, Int.reduceNeg, Int.reduceLT, Int.reduceLE, Int.reduceAdd, Int.reduceSub, Int.reduceMul, Int.reduceToNat, Int.reduceNegSucc, Nat.reduceSucc, Int.reduceEq, Nat.reduceEqDiff, Int.reduceBEq, Int.reduceBNe]
  congr 4
  rw [Bool.eq_iff_iff]; simp [isWin]; omega
theorem c153 (op : Int) (B : List (List PV)) : callW tcfg 153 [I op] B = some ⟨Bo (keepsF op), B, []⟩ := by
  refine callW_of_fin (n := 24) (ids := none) rfl Try.func153 rfl rfl rfl ?_ rfl
  simp only [push_cast, reduceCtorEq, List.reduceReplicate, Nat.reduceBEq, Nat.reduceAdd, Nat.reduceSub, Nat.reduceMul, Nat.reduceLT, Nat.reduceLeDiff, ↓reduceIte, Int.reduceNeg, Int.reduceLT, Int.reduceLE, Int.reduceAdd, Int.reduceSub, Int.reduceMul, Int.reduceToNat, Int.reduceNegSucc, Nat.reduceSucc, Int.reduceEq, Nat.reduceEqDiff, Int.reduceBEq, Int.reduceBNe, keepsF, Bool.or_assoc]
def manyW (n : Nod) (a : Shp) : Int × Int :=
  (cnd (decide (n.op = 1)) (w64 (w64 (w64 (n.k * n.k) * a.c) * n.out)) (cnd (decide (n.op = 2)) (w64 (w64 (n.k * n.k) * a.c)) (cnd (decide (n.op = 3)) (w64 (a.size * n.out)) (cnd (decide (n.op = 12)) 256 0))),
   cnd (decide (n.op = 1)) n.out (cnd (decide (n.op = 2)) a.c (cnd (decide (n.op = 3)) n.out 0)))
theorem c155 (n : Nod) (h w c : Int) (B : List (List PV)) : callW tcfg 155 [n.pv, sp h w c] B = some ⟨.tuple [I (manyW n ⟨h, w, c⟩).1, I (manyW n ⟨h, w, c⟩).2], B, []⟩ := by
  refine callW_of_fin (n := 44) (ids := none) rfl Try.func155 rfl rfl rfl ?_ rfl
  simp only [push_cast, reduceCtorEq, List.reduceReplicate, Nat.reduceBEq, Nat.reduceAdd, Nat.reduceSub, Nat.reduceMul, Nat.reduceLT, Nat.reduceLeDiff, ↓reduceIte, Int.reduceNeg, Int.reduceLT, Int.reduceLE, Int.reduceAdd, Int.reduceSub, Int.reduceMul, Int.reduceToNat, Int.reduceNegSucc, Nat.reduceSucc, Int.reduceEq, Nat.reduceEqDiff, Int.reduceBEq, Int.reduceBNe, c50, manyW]
theorem nodeG_eq (n : Nod) (m : Int) : (wi 1 12 n.op &&
  (decide (m = cnd (isTwo n.op) 2 1) &&
  (cnd (isWin n.op) (wi 1 3 n.k && wi 1 2 n.st) (decide (n.k = 0) && decide (n.st = 0)) &&
  (cnd (decide (n.op = 9)) (decide (n.pad = 1))
  (cnd (decide (n.op = 1) || decide (n.op = 2)) (wi 0 1 n.pad && decide (n.pad < n.k))
  (decide (n.pad = 0))) &&
  (cnd (decide (n.op = 1) || decide (n.op = 3)) (wi 1 8 n.out) (decide (n.out = 0)) &&
  ((decide (n.to.h = 0) && (decide (n.to.w = 0) && decide (n.to.c = 0)) || decide (n.op = 11)) &&
  (wi 1 32767 n.mul && (wi 0 31 n.sh && wi (-128) 127 n.zero)))))))) = nodeF n m := by
  have e0 : wi 1 12 n.op = (decide (1 ≤ n.op) && decide (n.op ≤ 12)) := rfl
  unfold nodeF
  rw [e0]
  cases ho : (decide (1 ≤ n.op) && decide (n.op ≤ 12))
  · rfl
  · have hop : 1 ≤ n.op ∧ n.op ≤ 12 := by simpa using ho
    have hk : (1 ≤ n.k ∧ n.k ≤ 3) → (((0 ≤ n.pad ∧ n.pad ≤ 1) ∧ n.pad < n.k) ↔ (0 ≤ n.pad ∧ n.pad ≤ if w64 (n.k - 1) < 1 then w64 (n.k - 1) else 1)) := by
      intro h
      have e : w64 (n.k - 1) = n.k - 1 := IntWalk.i64_in _ (by omega)
      rw [e]
      split <;> omega
    unfold mayF z3
    by_cases hkk : 1 ≤ n.k ∧ n.k ≤ 3
    · have hk := hk hkk
      rcases op_cases hop with e | e | e | e | e | e | e | e | e | e | e | e <;>
      · simp only [e, isTwo, isWin, Int.reduceEq, decide_true, decide_false, Bool.or_true, Bool.true_or, Bool.or_false, cnd_t, cnd_f, Bool.true_and, Bool.and_true, Bool.false_or]
        rw [Bool.eq_iff_iff]
        simp only [Bool.and_eq_true, Bool.or_eq_true, wi_iff, decide_eq_true_eq, hk]
        constructor <;> intro h <;> simp only [h, and_self, true_or, or_true]
    · rcases op_cases hop with e | e | e | e | e | e | e | e | e | e | e | e <;>
      · simp only [e, isTwo, isWin, Int.reduceEq, decide_true, decide_false, Bool.or_true, Bool.true_or, Bool.or_false, cnd_t, cnd_f, Bool.true_and, Bool.and_true, Bool.false_or]
        rw [Bool.eq_iff_iff]
        simp only [Bool.and_eq_true, Bool.or_eq_true, wi_iff, decide_eq_true_eq, hkk, false_and, and_false]
        try (constructor <;> intro h <;> simp only [h, and_self, true_or, or_true])
theorem c152 (n : Nod) (m : Int) (B : List (List PV)) : callW tcfg 152 [n.pv, I m] B = some ⟨Bo (nodeF n m), B, []⟩ := by
  refine callW_of_fin (n := 117) (ids := none) rfl Try.func152 rfl rfl rfl ?_ rfl
  simp (config := { maxSteps := 3000000 }) only [push_cast, reduceCtorEq, List.reduceReplicate, Nat.reduceBEq, Nat.reduceAdd, Nat.reduceSub, Nat.reduceMul, Nat.reduceLT, Nat.reduceLeDiff, ↓reduceIte, Int.reduceNeg, Int.reduceLT, Int.reduceLE, Int.reduceAdd, Int.reduceSub, Int.reduceMul, Int.reduceToNat, Int.reduceNegSucc, Nat.reduceSucc, Int.reduceEq, Nat.reduceEqDiff, Int.reduceBEq, Int.reduceBNe, c89, c197, c198, nodeG_eq]
end Go.Q
