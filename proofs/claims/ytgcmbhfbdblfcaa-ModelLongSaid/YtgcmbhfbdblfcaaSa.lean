/-
  The functions of shapes.
-/
import Derived.Test.YtgcmbhfbdblfcaaQs
import Derived.IntWalk
set_option linter.unusedVariables false
set_option linter.unusedSimpArgs false
set_option maxRecDepth 10000
namespace Go.Q
open Go.Proofs
structure Shp where
  h : Int
  w : Int
  c : Int
  deriving DecidableEq
abbrev Shp.pv (s : Shp) : PV := .agg [I s.h, I s.w, I s.c]
def wi (low high x : Int) : Bool := decide (low ≤ x) && decide (x ≤ high)
def Shp.may (s : Shp) : Bool := wi 1 16 s.h && wi 1 16 s.w && wi 1 8 s.c
theorem Shp.eta (s : Shp) : Shp.mk s.h s.w s.c = s := rfl
attribute [push_cast] Shp.eta
theorem wi_iff {a b x : Int} : wi a b x = true ↔ a ≤ x ∧ x ≤ b := by simp [wi]

theorem Shp.may_iff {s : Shp} : s.may = true ↔ (1 ≤ s.h ∧ s.h ≤ 16) ∧ (1 ≤ s.w ∧ s.w ≤ 16) ∧ (1 ≤ s.c ∧ s.c ≤ 8) := by simp only [Shp.may, Bool.and_eq_true, wi_iff, and_assoc]

theorem c243 (low high : Int) (xs : List Int) (hl : xs.length < 2^40) (i1 i2 : Nat) (B : List (List PV)) (h1 : B[i1]? = some [I low]) (h2 : B[i2]? = some [I high]) :
    callW tcfg 243 [.list 1 .ro (xs.map I), .ptr i1 0, .ptr i2 0] B = some ⟨Bo (xs.all (wi low high)), B, []⟩ := by
  refine callW_of_fin (n := 19) (ids := none) rfl Try.func243 rfl rfl rfl ?_ rfl
  have l1 := lt_of_get h1
  have l2 := lt_of_get h2
  simp only [push_cast, reduceCtorEq, List.reduceReplicate, Nat.reduceBEq, Nat.reduceAdd, Nat.reduceSub, Nat.reduceMul, Nat.reduceLT, Nat.reduceLeDiff, ↓reduceIte, Int.reduceNeg, Int.reduceLT, Int.reduceLE, Int.reduceAdd, Int.reduceSub, Int.reduceMul, Int.reduceToNat, Int.reduceNegSucc, Nat.reduceSucc, Int.reduceEq, Nat.reduceEqDiff, Int.reduceBEq, Int.reduceBNe, h1, h2]
  refine lp_ind (rest := (fun r => finR _ _ _ _ (thenEv _ _ _ (blockEv _ (r))))) (fun i : Nat => ⟨[.any, .ptr i1 0, .ptr i2 0, .any, .any, .any, .any, .list 1 .ro (xs.map I), I xs.length, I i, .any, .any, .any, .any, .any, .any, .any, .any, .any, .any, .any, .any], B, [], []⟩) (fun i => some ⟨Bo ((xs.drop i).all (wi low high)), B, []⟩) (fun i => xs.length - i) (fun i => i ≤ xs.length) ?_ 0 (Nat.zero_le _)
  intro i hi ih
  by_cases hlt : i < xs.length
  · have hc : ((i : Int) < xs.length) := by omega
    have hx : xs[i]? = some xs[i] := List.getElem?_eq_getElem hlt
    have hw : IntKind.i64.wrap ((i : Int) + 1) = ((i + 1 : Nat) : Int) := by rw [IntWalk.i64_in _ (by omega)]; rfl
    have hn := ih (i + 1) (by omega) (by omega)
    have e : (xs.drop i).all (wi low high) = (wi low high xs[i] && (xs.drop (i + 1)).all (wi low high)) := by rw [List.drop_eq_getElem_cons hlt, List.all_cons]
    simp only [push_cast, reduceCtorEq, List.reduceReplicate, Nat.reduceBEq, Nat.reduceAdd, Nat.reduceSub, Nat.reduceMul, Nat.reduceLT, Nat.reduceLeDiff, ↓reduceIte, Int.reduceNeg, Int.reduceLT, Int.reduceLE, Int.reduceAdd, Int.reduceSub, Int.reduceMul, Int.reduceToNat, Int.reduceNegSucc, Nat.reduceSucc, Int.reduceEq, Nat.reduceEqDiff, Int.reduceBEq, Int.reduceBNe, h1, h2, hc, hx, hw, l1, l2] at hn ⊢
    rw [hn, e]
    simp only [wi]
    by_cases a1 : xs[i] < low <;> by_cases a2 : high < xs[i] <;> simp [a1, a2, cnd] <;> omega
  · have hc : ¬ ((i : Int) < xs.length) := by omega
    have : i = xs.length := by omega
    subst this
    simp only [push_cast, reduceCtorEq, List.reduceReplicate, Nat.reduceBEq, Nat.reduceAdd, Nat.reduceSub, Nat.reduceMul, Nat.reduceLT, Nat.reduceLeDiff, ↓reduceIte, Int.reduceNeg, Int.reduceLT, Int.reduceLE, Int.reduceAdd, Int.reduceSub, Int.reduceMul, Int.reduceToNat, Int.reduceNegSucc, Nat.reduceSucc, Int.reduceEq, Nat.reduceEqDiff, Int.reduceBEq, Int.reduceBNe, h1, h2, hc, List.drop_length]
theorem c243a (low high : Int) (x y : Int) (B : List (List PV)) (i j : Nat) (h1 : B[i]? = some [I low]) (h2 : B[j]? = some [I high]) : callW tcfg 243 [.list 1 .ro [I x, I y], .ptr i 0, .ptr j 0] B = some ⟨Bo (wi low high x && wi low high y), B, []⟩ := by
  have := c243 low high [x, y] (by simp) i j B h1 h2
  simpa using this
theorem c243b (low high : Int) (x : Int) (B : List (List PV)) (i j : Nat) (h1 : B[i]? = some [I low]) (h2 : B[j]? = some [I high]) : callW tcfg 243 [.list 1 .ro [I x], .ptr i 0, .ptr j 0] B = some ⟨Bo (wi low high x), B, []⟩ := by
  have := c243 low high [x] (by simp) i j B h1 h2
  simpa using this
theorem c238 (low high : Int) (B : List (List PV)) : callW tcfg 238 [I low, I high] B = some ⟨.fn 243 [.ptr B.length 0, .ptr (B.length + 1) 0], B ++ [[I low], [I high]], []⟩ := by
  refine callW_of_fin (n := 4) (ids := none) rfl Try.func238 rfl rfl rfl ?_ rfl
  simp only [push_cast, reduceCtorEq, List.reduceReplicate, Nat.reduceBEq, Nat.reduceAdd, Nat.reduceSub, Nat.reduceMul, Nat.reduceLT, Nat.reduceLeDiff, ↓reduceIte, Int.reduceNeg, Int.reduceLT, Int.reduceLE, Int.reduceAdd, Int.reduceSub, Int.reduceMul, Int.reduceToNat, Int.reduceNegSucc, Nat.reduceSucc, Int.reduceEq, Nat.reduceEqDiff, Int.reduceBEq, Int.reduceBNe]
theorem c212 (h w c : Int) (B : List (List PV)) : callW tcfg 212 [.agg [I h, I w, I c]] B = some ⟨Bo (Shp.mk h w c).may, B, []⟩ := by
  refine callW_of_fin (n := 16) (ids := none) rfl Try.func212 rfl rfl rfl ?_ rfl
  simp only [push_cast, reduceCtorEq, List.reduceReplicate, Nat.reduceBEq, Nat.reduceAdd, Nat.reduceSub, Nat.reduceMul, Nat.reduceLT, Nat.reduceLeDiff, ↓reduceIte, Int.reduceNeg, Int.reduceLT, Int.reduceLE, Int.reduceAdd, Int.reduceSub, Int.reduceMul, Int.reduceToNat, Int.reduceNegSucc, Nat.reduceSucc, Int.reduceEq, Nat.reduceEqDiff, Int.reduceBEq, Int.reduceBNe, Shp.may, c238, c243a 1 16, c243b 1 8]
theorem c202 (h w c : Int) (B : List (List PV)) : callW tcfg 202 [.agg [I h, I w, I c]] B = some ⟨I (cnd (Shp.mk h w c).may 0 10), B, []⟩ := by
  refine callW_of_fin (n := 5) (ids := none) rfl Try.func202 rfl rfl rfl ?_ rfl
  simp only [push_cast, reduceCtorEq, List.reduceReplicate, Nat.reduceBEq, Nat.reduceAdd, Nat.reduceSub, Nat.reduceMul, Nat.reduceLT, Nat.reduceLeDiff, ↓reduceIte, Int.reduceNeg, Int.reduceLT, Int.reduceLE, Int.reduceAdd, Int.reduceSub, Int.reduceMul, Int.reduceToNat, Int.reduceNegSucc, Nat.reduceSucc, Int.reduceEq, Nat.reduceEqDiff, Int.reduceBEq, Int.reduceBNe, c212]
def Shp.row (s : Shp) : Int := cnd s.may (s.w * s.c) 0
def Shp.size (s : Shp) : Int := s.row * s.h
theorem c172 (h w c : Int) (B : List (List PV)) : callW tcfg 172 [.agg [I h, I w, I c]] B = some ⟨I (Shp.mk h w c).row, B, []⟩ := by
  refine callW_of_fin (n := 10) (ids := none) rfl Try.func172 rfl rfl rfl ?_ rfl
  have e : cnd (Shp.mk h w c).may (IntKind.i64.wrap (w * c)) 0 = (Shp.mk h w c).row := by
    unfold Shp.row
    cases hm : (Shp.mk h w c).may
    · rfl
    · have ⟨h1, h2, h3⟩ := Shp.may_iff.1 hm
      show IntKind.i64.wrap (w * c) = w * c
      refine IntWalk.i64_in _ ?_
      have : 0 ≤ w * c := Int.mul_nonneg (by simp at h2; omega) (by simp at h3; omega)
      have : w * c ≤ 16 * 8 := Int.mul_le_mul (by simp at h2; omega) (by simp at h3; omega) (by simp at h3; omega) (by omega)
      omega
  simp only [push_cast, reduceCtorEq, List.reduceReplicate, Nat.reduceBEq, Nat.reduceAdd, Nat.reduceSub, Nat.reduceMul, Nat.reduceLT, Nat.reduceLeDiff, ↓reduceIte, Int.reduceNeg, Int.reduceLT, Int.reduceLE, Int.reduceAdd, Int.reduceSub, Int.reduceMul, Int.reduceToNat, Int.reduceNegSucc, Nat.reduceSucc, Int.reduceEq, Nat.reduceEqDiff, Int.reduceBEq, Int.reduceBNe, c212, e]
theorem c120 (h w c : Int) (B : List (List PV)) : callW tcfg 120 [.agg [I h, I w, I c]] B = some ⟨I (Shp.mk h w c).size, B, []⟩ := by
  refine callW_of_fin (n := 7) (ids := none) rfl Try.func120 rfl rfl rfl ?_ rfl
  have e : IntKind.i64.wrap ((Shp.mk h w c).row * h) = (Shp.mk h w c).size := by
    show IntKind.i64.wrap ((Shp.mk h w c).row * h) = (Shp.mk h w c).row * h
    refine IntWalk.i64_in _ ?_
    unfold Shp.row
    cases hm : (Shp.mk h w c).may
    · simp [cnd]
    · have ⟨h1, h2, h3⟩ := Shp.may_iff.1 hm
      show _ ≤ w * c * h ∧ w * c * h ≤ _
      simp at h1 h2 h3
      have : 0 ≤ w * c := Int.mul_nonneg (by omega) (by omega)
      have : w * c ≤ 16 * 8 := Int.mul_le_mul (by omega) (by omega) (by omega) (by omega)
      have : 0 ≤ w * c * h := Int.mul_nonneg (by omega) (by omega)
      have : w * c * h ≤ (16 * 8) * 16 := Int.mul_le_mul (by omega) (by omega) (by omega) (by omega)
      omega
  simp only [push_cast, reduceCtorEq, List.reduceReplicate, Nat.reduceBEq, Nat.reduceAdd, Nat.reduceSub, Nat.reduceMul, Nat.reduceLT, Nat.reduceLeDiff, ↓reduceIte, Int.reduceNeg, Int.reduceLT, Int.reduceLE, Int.reduceAdd, Int.reduceSub, Int.reduceMul, Int.reduceToNat, Int.reduceNegSucc, Nat.reduceSucc, Int.reduceEq, Nat.reduceEqDiff, Int.reduceBEq, Int.reduceBNe, c172, e]
end Go.Q
