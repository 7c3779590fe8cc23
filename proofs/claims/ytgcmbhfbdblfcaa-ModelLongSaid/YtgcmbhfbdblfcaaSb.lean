/-
  The functions of package graph: what nodes make.
-/
import Derived.Test.YtgcmbhfbdblfcaaSa
set_option linter.unusedVariables false
set_option linter.unusedSimpArgs false
set_option maxRecDepth 10000
namespace Go.Q
open Go.Proofs
/-- shape.Out -/
def outF (x k st p : Int) : Int :=
  if wi 1 64 x = true ∧ (wi 1 16 k && wi 1 16 st) = true ∧ wi 0 16 p = true ∧ ¬ (x + 2 * p < k) then 1 + (x + 2 * p - k).tdiv st else 0
theorem c242 (x k st p : Int) (B : List (List PV)) : callW tcfg 242 [I x, I k, I st, I p] B = some ⟨I (outF x k st p), B, []⟩ := by
  refine callW_of_fin (n := 42) (ids := none) rfl Try.func242 rfl rfl rfl ?_ rfl
  unfold outF
  by_cases h : wi 1 64 x = true ∧ (wi 1 16 k && wi 1 16 st) = true ∧ wi 0 16 p = true
  · obtain ⟨h1, h2, h3⟩ := h
    have h2' := h2
    simp only [Bool.and_eq_true] at h2
    have k2 := wi_iff.1 h2.1
    have k3 := wi_iff.1 h2.2
    have k1 := wi_iff.1 h1
    have k4 := wi_iff.1 h3
    have w1 : IntKind.i64.wrap (2 * p) = 2 * p := IntWalk.i64_in _ (by omega)
    have w2 : IntKind.i64.wrap (x + 2 * p) = x + 2 * p := IntWalk.i64_in _ (by omega)
    by_cases h4 : x + 2 * p < k
    · simp only [push_cast, reduceCtorEq, List.reduceReplicate, Nat.reduceBEq, Nat.reduceAdd, Nat.reduceSub, Nat.reduceMul, Nat.reduceLT, Nat.reduceLeDiff, ↓reduceIte, Int.reduceNeg, Int.reduceLT, Int.reduceLE, Int.reduceAdd, Int.reduceSub, Int.reduceMul, Int.reduceToNat, Int.reduceNegSucc, Nat.reduceSucc, Int.reduceEq, Nat.reduceEqDiff, Int.reduceBEq, Int.reduceBNe, c238, c243b 1 64, c243a 1 16, c243b 0 16, h1, h2', h3, h4, w1, w2, false_and, and_false, not_true_eq_false]
    · have w3 : IntKind.i64.wrap (x + 2 * p - k) = x + 2 * p - k := IntWalk.i64_in _ (by omega)
      have hz : (st = 0) = False := by simp; omega
      have hd : 0 ≤ (x + 2 * p - k).tdiv st ∧ (x + 2 * p - k).tdiv st ≤ x + 2 * p - k := ⟨Int.tdiv_nonneg (by omega) (by omega), by
        rw [Int.tdiv_eq_ediv_of_nonneg (by omega)]; exact Int.ediv_le_self _ (by omega)⟩
      have w4 : IntKind.i64.wrap ((x + 2 * p - k).tdiv st) = (x + 2 * p - k).tdiv st := IntWalk.i64_in _ (by omega)
      have w5 : IntKind.i64.wrap (1 + (x + 2 * p - k).tdiv st) = 1 + (x + 2 * p - k).tdiv st := IntWalk.i64_in _ (by omega)
      simp only [push_cast, reduceCtorEq, List.reduceReplicate, Nat.reduceBEq, Nat.reduceAdd, Nat.reduceSub, Nat.reduceMul, Nat.reduceLT, Nat.reduceLeDiff, ↓reduceIte, Int.reduceNeg, Int.reduceLT, Int.reduceLE, Int.reduceAdd, Int.reduceSub, Int.reduceMul, Int.reduceToNat, Int.reduceNegSucc, Nat.reduceSucc, Int.reduceEq, Nat.reduceEqDiff, Int.reduceBEq, Int.reduceBNe, c238, c243b 1 64, c243a 1 16, c243b 0 16, h1, h2', h3, h4, w1, w2, w3, sb_quo _ _ _ hz, w4, w5, false_and, and_false, not_false_eq_true, and_self]
  · rw [if_neg (fun hh => h ⟨hh.1, hh.2.1, hh.2.2.1⟩)]
    cases h1 : wi 1 64 x
    · simp only [push_cast, reduceCtorEq, List.reduceReplicate, Nat.reduceBEq, Nat.reduceAdd, Nat.reduceSub, Nat.reduceMul, Nat.reduceLT, Nat.reduceLeDiff, ↓reduceIte, Int.reduceNeg, Int.reduceLT, Int.reduceLE, Int.reduceAdd, Int.reduceSub, Int.reduceMul, Int.reduceToNat, Int.reduceNegSucc, Nat.reduceSucc, Int.reduceEq, Nat.reduceEqDiff, Int.reduceBEq, Int.reduceBNe, c238, c243b 1 64, h1]
    · cases h2 : (wi 1 16 k && wi 1 16 st)
      · simp only [push_cast, reduceCtorEq, List.reduceReplicate, Nat.reduceBEq, Nat.reduceAdd, Nat.reduceSub, Nat.reduceMul, Nat.reduceLT, Nat.reduceLeDiff, ↓reduceIte, Int.reduceNeg, Int.reduceLT, Int.reduceLE, Int.reduceAdd, Int.reduceSub, Int.reduceMul, Int.reduceToNat, Int.reduceNegSucc, Nat.reduceSucc, Int.reduceEq, Nat.reduceEqDiff, Int.reduceBEq, Int.reduceBNe, c238, c243b 1 64, c243a 1 16, h1, h2]
      · cases h3 : wi 0 16 p
        · simp only [push_cast, reduceCtorEq, List.reduceReplicate, Nat.reduceBEq, Nat.reduceAdd, Nat.reduceSub, Nat.reduceMul, Nat.reduceLT, Nat.reduceLeDiff, ↓reduceIte, Int.reduceNeg, Int.reduceLT, Int.reduceLE, Int.reduceAdd, Int.reduceSub, Int.reduceMul, Int.reduceToNat, Int.reduceNegSucc, Nat.reduceSucc, Int.reduceEq, Nat.reduceEqDiff, Int.reduceBEq, Int.reduceBNe, c238, c243b 1 64, c243a 1 16, c243b 0 16, h1, h2, h3]
        · exact absurd ⟨h1, h2, h3⟩ h

/-- A node. -/
structure Nod where
  op : Int
  ins : List Int
  k : Int
  st : Int
  pad : Int
  out : Int
  mul : Int
  sh : Int
  zero : Int
  to : Shp
  w : List Int
  b : List Int
  deriving DecidableEq
abbrev I8 (n : Int) : PV := .sc (.int .i8 n)
abbrev I32 (n : Int) : PV := .sc (.int .i32 n)
abbrev U8 (n : Int) : PV := .sc (.int .u8 n)
abbrev Nod.pv (n : Nod) : PV := .agg [I n.op, .list 1 .ro (n.ins.map I), I n.k, I n.st, I n.pad, I n.out, I n.mul, I n.sh, I n.zero, I n.to.h, I n.to.w, I n.to.c, .list 1 .ro (n.w.map I8), .list 1 .ro (n.b.map I32)]
structure Vl where
  s : Shp
  z : Int
  deriving DecidableEq
abbrev Vl.pv (v : Vl) : PV := .agg [I v.s.h, I v.s.w, I v.s.c, I v.z]
theorem all_underS {α : Type} (n : Nat) (xs : List α) (g : α → Value) : (xs.map fun x => PV.sc (g x)).all (PV.under n) = true := by simp [under_sc]
theorem Vl.under (n : Nat) (v : Vl) : v.pv.under n = true := by simp [Vl.pv, under_agg, under_sc, I]
theorem all_underV (n : Nat) (xs : List Vl) : (xs.map Vl.pv).all (PV.under n) = true := all_under_map n _ xs (Vl.under n)
theorem Nod.under (n : Nat) (v : Nod) : v.pv.under n = true := by simp [Nod.pv, under_agg, under_sc, under_list, I, I8, I32]
theorem all_underN (n : Nat) (xs : List Nod) : (xs.map Nod.pv).all (PV.under n) = true := all_under_map n _ xs (Nod.under n)
theorem flat_I8 (xs : List Int) : (xs.map I8).map PV.flat = xs.map I8 := by simp [I8, flat_sc]
attribute [push_cast] all_underS all_underV all_underN

def slidF (n : Nod) (s : Shp) (c : Int) : Shp := ⟨outF s.h n.k n.st n.pad, outF s.w n.k n.st n.pad, c⟩
theorem c225 (n : Nod) (h w c' : Int) (c : Int) (B : List (List PV)) : callW tcfg 225 [n.pv, .agg [I h, I w, I c'], I c] B = some ⟨(slidF n ⟨h, w, c'⟩ c).pv, B, []⟩ := by
  refine callW_of_fin (n := 24) (ids := none) rfl Try.func225 rfl rfl rfl ?_ rfl
  simp only [push_cast, reduceCtorEq, List.reduceReplicate, Nat.reduceBEq, Nat.reduceAdd, Nat.reduceSub, Nat.reduceMul, Nat.reduceLT, Nat.reduceLeDiff, ↓reduceIte, Int.reduceNeg, Int.reduceLT, Int.reduceLE, Int.reduceAdd, Int.reduceSub, Int.reduceMul, Int.reduceToNat, Int.reduceNegSucc, Nat.reduceSucc, Int.reduceEq, Nat.reduceEqDiff, Int.reduceBEq, Int.reduceBNe, c242, slidF]
theorem c203 (x lo hi : Int) (B : List (List PV)) : callW tcfg 203 [I x, I lo, I hi] B = some ⟨Bo (wi lo hi x), B, []⟩ := by
  refine callW_of_fin (n := 12) (ids := none) rfl Try.func203 rfl rfl rfl ?_ rfl
  simp only [push_cast, reduceCtorEq, List.reduceReplicate, Nat.reduceBEq, Nat.reduceAdd, Nat.reduceSub, Nat.reduceMul, Nat.reduceLT, Nat.reduceLeDiff, ↓reduceIte, Int.reduceNeg, Int.reduceLT, Int.reduceLE, Int.reduceAdd, Int.reduceSub, Int.reduceMul, Int.reduceToNat, Int.reduceNegSucc, Nat.reduceSucc, Int.reduceEq, Nat.reduceEqDiff, Int.reduceBEq, Int.reduceBNe, wi]
abbrev w64 (n : Int) : Int := IntKind.i64.wrap n
abbrev sp (h w c : Int) : PV := .agg [I h, I w, I c]
section
variable (n : Nod) (h w c h' w' c' : Int) (B : List (List PV))
theorem c222 : callW tcfg 222 [n.pv, sp h w c, sp h' w' c'] B = some ⟨sp h w c, B, []⟩ := by
  refine callW_of_fin (n := 5) (ids := none) rfl Try.func222 rfl rfl rfl ?_ rfl
  simp only [push_cast, reduceCtorEq, List.reduceReplicate, Nat.reduceBEq, Nat.reduceAdd, Nat.reduceSub, Nat.reduceMul, Nat.reduceLT, Nat.reduceLeDiff, ↓reduceIte, Int.reduceNeg, Int.reduceLT, Int.reduceLE, Int.reduceAdd, Int.reduceSub, Int.reduceMul, Int.reduceToNat, Int.reduceNegSucc, Nat.reduceSucc, Int.reduceEq, Nat.reduceEqDiff, Int.reduceBEq, Int.reduceBNe]
theorem c223 : callW tcfg 223 [n.pv, sp h w c] B = some ⟨.tuple [I 0, I 0], B, []⟩ := by
  refine callW_of_fin (n := 4) (ids := none) rfl Try.func223 rfl rfl rfl ?_ rfl
  simp only [push_cast, reduceCtorEq, List.reduceReplicate, Nat.reduceBEq, Nat.reduceAdd, Nat.reduceSub, Nat.reduceMul, Nat.reduceLT, Nat.reduceLeDiff, ↓reduceIte, Int.reduceNeg, Int.reduceLT, Int.reduceLE, Int.reduceAdd, Int.reduceSub, Int.reduceMul, Int.reduceToNat, Int.reduceNegSucc, Nat.reduceSucc, Int.reduceEq, Nat.reduceEqDiff, Int.reduceBEq, Int.reduceBNe]
theorem c224 : callW tcfg 224 [n.pv, sp h w c, sp h' w' c'] B = some ⟨(slidF n ⟨h, w, c⟩ n.out).pv, B, []⟩ := by
  refine callW_of_fin (n := 9) (ids := none) rfl Try.func224 rfl rfl rfl ?_ rfl
  simp only [push_cast, reduceCtorEq, List.reduceReplicate, Nat.reduceBEq, Nat.reduceAdd, Nat.reduceSub, Nat.reduceMul, Nat.reduceLT, Nat.reduceLeDiff, ↓reduceIte, Int.reduceNeg, Int.reduceLT, Int.reduceLE, Int.reduceAdd, Int.reduceSub, Int.reduceMul, Int.reduceToNat, Int.reduceNegSucc, Nat.reduceSucc, Int.reduceEq, Nat.reduceEqDiff, Int.reduceBEq, Int.reduceBNe, c225 n]
theorem c226 : callW tcfg 226 [n.pv, sp h w c] B = some ⟨.tuple [I (w64 (w64 (w64 (n.k * n.k) * c) * n.out)), I n.out], B, []⟩ := by
  refine callW_of_fin (n := 17) (ids := none) rfl Try.func226 rfl rfl rfl ?_ rfl
  simp only [push_cast, reduceCtorEq, List.reduceReplicate, Nat.reduceBEq, Nat.reduceAdd, Nat.reduceSub, Nat.reduceMul, Nat.reduceLT, Nat.reduceLeDiff, ↓reduceIte, Int.reduceNeg, Int.reduceLT, Int.reduceLE, Int.reduceAdd, Int.reduceSub, Int.reduceMul, Int.reduceToNat, Int.reduceNegSucc, Nat.reduceSucc, Int.reduceEq, Nat.reduceEqDiff, Int.reduceBEq, Int.reduceBNe]
theorem c227 : callW tcfg 227 [n.pv, sp h w c, sp h' w' c'] B = some ⟨(slidF n ⟨h, w, c⟩ c).pv, B, []⟩ := by
  refine callW_of_fin (n := 9) (ids := none) rfl Try.func227 rfl rfl rfl ?_ rfl
  simp only [push_cast, reduceCtorEq, List.reduceReplicate, Nat.reduceBEq, Nat.reduceAdd, Nat.reduceSub, Nat.reduceMul, Nat.reduceLT, Nat.reduceLeDiff, ↓reduceIte, Int.reduceNeg, Int.reduceLT, Int.reduceLE, Int.reduceAdd, Int.reduceSub, Int.reduceMul, Int.reduceToNat, Int.reduceNegSucc, Nat.reduceSucc, Int.reduceEq, Nat.reduceEqDiff, Int.reduceBEq, Int.reduceBNe, c225 n]
theorem c228 : callW tcfg 228 [n.pv, sp h w c] B = some ⟨.tuple [I (w64 (w64 (n.k * n.k) * c)), I c], B, []⟩ := by
  refine callW_of_fin (n := 14) (ids := none) rfl Try.func228 rfl rfl rfl ?_ rfl
  simp only [push_cast, reduceCtorEq, List.reduceReplicate, Nat.reduceBEq, Nat.reduceAdd, Nat.reduceSub, Nat.reduceMul, Nat.reduceLT, Nat.reduceLeDiff, ↓reduceIte, Int.reduceNeg, Int.reduceLT, Int.reduceLE, Int.reduceAdd, Int.reduceSub, Int.reduceMul, Int.reduceToNat, Int.reduceNegSucc, Nat.reduceSucc, Int.reduceEq, Nat.reduceEqDiff, Int.reduceBEq, Int.reduceBNe]
theorem c229 : callW tcfg 229 [n.pv, sp h w c, sp h' w' c'] B = some ⟨sp 1 1 n.out, B, []⟩ := by
  refine callW_of_fin (n := 7) (ids := none) rfl Try.func229 rfl rfl rfl ?_ rfl
  simp only [push_cast, reduceCtorEq, List.reduceReplicate, Nat.reduceBEq, Nat.reduceAdd, Nat.reduceSub, Nat.reduceMul, Nat.reduceLT, Nat.reduceLeDiff, ↓reduceIte, Int.reduceNeg, Int.reduceLT, Int.reduceLE, Int.reduceAdd, Int.reduceSub, Int.reduceMul, Int.reduceToNat, Int.reduceNegSucc, Nat.reduceSucc, Int.reduceEq, Nat.reduceEqDiff, Int.reduceBEq, Int.reduceBNe]
theorem c230 : callW tcfg 230 [n.pv, sp h w c] B = some ⟨.tuple [I (w64 ((Shp.mk h w c).size * n.out)), I n.out], B, []⟩ := by
  refine callW_of_fin (n := 11) (ids := none) rfl Try.func230 rfl rfl rfl ?_ rfl
  simp only [push_cast, reduceCtorEq, List.reduceReplicate, Nat.reduceBEq, Nat.reduceAdd, Nat.reduceSub, Nat.reduceMul, Nat.reduceLT, Nat.reduceLeDiff, ↓reduceIte, Int.reduceNeg, Int.reduceLT, Int.reduceLE, Int.reduceAdd, Int.reduceSub, Int.reduceMul, Int.reduceToNat, Int.reduceNegSucc, Nat.reduceSucc, Int.reduceEq, Nat.reduceEqDiff, Int.reduceBEq, Int.reduceBNe, c120]
theorem c231 : callW tcfg 231 [n.pv, sp h w c, sp h' w' c'] B = some ⟨(cnd (decide (Shp.mk h w c = ⟨h', w', c'⟩)) (Shp.mk h w c) ⟨0, 0, 0⟩).pv, B, []⟩ := by
  refine callW_of_fin (n := 9) (ids := none) rfl Try.func231 rfl rfl rfl ?_ rfl
  simp only [push_cast, reduceCtorEq, List.reduceReplicate, Nat.reduceBEq, Nat.reduceAdd, Nat.reduceSub, Nat.reduceMul, Nat.reduceLT, Nat.reduceLeDiff, ↓reduceIte, Int.reduceNeg, Int.reduceLT, Int.reduceLE, Int.reduceAdd, Int.reduceSub, Int.reduceMul, Int.reduceToNat, Int.reduceNegSucc, Nat.reduceSucc, Int.reduceEq, Nat.reduceEqDiff, Int.reduceBEq, Int.reduceBNe]
  by_cases e1 : h = h' <;> by_cases e2 : w = w' <;> by_cases e3 : c = c' <;> simp [e1, e2, e3, cnd]
theorem c232 : callW tcfg 232 [n.pv, sp h w c, sp h' w' c'] B = some ⟨sp (w64 (h + 2)) (w64 (w + 2)) c, B, []⟩ := by
  refine callW_of_fin (n := 13) (ids := none) rfl Try.func232 rfl rfl rfl ?_ rfl
  simp only [push_cast, reduceCtorEq, List.reduceReplicate, Nat.reduceBEq, Nat.reduceAdd, Nat.reduceSub, Nat.reduceMul, Nat.reduceLT, Nat.reduceLeDiff, ↓reduceIte, Int.reduceNeg, Int.reduceLT, Int.reduceLE, Int.reduceAdd, Int.reduceSub, Int.reduceMul, Int.reduceToNat, Int.reduceNegSucc, Nat.reduceSucc, Int.reduceEq, Nat.reduceEqDiff, Int.reduceBEq, Int.reduceBNe]
theorem c233 : callW tcfg 233 [n.pv, sp h w c, sp h' w' c'] B = some ⟨(cnd (decide (h = h') && decide (w = w')) (Shp.mk h w (w64 (c + c'))) ⟨0, 0, 0⟩).pv, B, []⟩ := by
  refine callW_of_fin (n := 27) (ids := none) rfl Try.func233 rfl rfl rfl ?_ rfl
  simp only [push_cast, reduceCtorEq, List.reduceReplicate, Nat.reduceBEq, Nat.reduceAdd, Nat.reduceSub, Nat.reduceMul, Nat.reduceLT, Nat.reduceLeDiff, ↓reduceIte, Int.reduceNeg, Int.reduceLT, Int.reduceLE, Int.reduceAdd, Int.reduceSub, Int.reduceMul, Int.reduceToNat, Int.reduceNegSucc, Nat.reduceSucc, Int.reduceEq, Nat.reduceEqDiff, Int.reduceBEq, Int.reduceBNe]
  by_cases e : h = h' <;> by_cases e' : w = w' <;> simp [e, e', cnd]
theorem c234 : callW tcfg 234 [n.pv, sp h w c, sp h' w' c'] B = some ⟨(cnd (decide (n.to.size = (Shp.mk h w c).size)) n.to ⟨0, 0, 0⟩).pv, B, []⟩ := by
  refine callW_of_fin (n := 13) (ids := none) rfl Try.func234 rfl rfl rfl ?_ rfl
  simp only [push_cast, reduceCtorEq, List.reduceReplicate, Nat.reduceBEq, Nat.reduceAdd, Nat.reduceSub, Nat.reduceMul, Nat.reduceLT, Nat.reduceLeDiff, ↓reduceIte, Int.reduceNeg, Int.reduceLT, Int.reduceLE, Int.reduceAdd, Int.reduceSub, Int.reduceMul, Int.reduceToNat, Int.reduceNegSucc, Nat.reduceSucc, Int.reduceEq, Nat.reduceEqDiff, Int.reduceBEq, Int.reduceBNe, c120]
  by_cases e : n.to.size = (Shp.mk h w c).size <;> simp [e, cnd]
theorem c235 : callW tcfg 235 [n.pv, sp h w c] B = some ⟨.tuple [I 256, I 0], B, []⟩ := by
  refine callW_of_fin (n := 4) (ids := none) rfl Try.func235 rfl rfl rfl ?_ rfl
  simp only [push_cast, reduceCtorEq, List.reduceReplicate, Nat.reduceBEq, Nat.reduceAdd, Nat.reduceSub, Nat.reduceMul, Nat.reduceLT, Nat.reduceLeDiff, ↓reduceIte, Int.reduceNeg, Int.reduceLT, Int.reduceLE, Int.reduceAdd, Int.reduceSub, Int.reduceMul, Int.reduceToNat, Int.reduceNegSucc, Nat.reduceSucc, Int.reduceEq, Nat.reduceEqDiff, Int.reduceBEq, Int.reduceBNe]
end

/-! ### Kinds -/
def isTwo (op : Int) : Bool := decide (op = 6) || decide (op = 7) || decide (op = 10)
def isWin (op : Int) : Bool := decide (op = 1) || decide (op = 2) || decide (op = 4) || decide (op = 5)
def keepsF (op : Int) : Bool := decide (op = 4) || decide (op = 5) || decide (op = 8) || decide (op = 9) || decide (op = 10) || decide (op = 11)
def madeK (op : Int) : Nat := if op = 1 then 224 else if op = 2 ∨ op = 4 ∨ op = 5 then 227 else if op = 3 then 229 else if op = 6 ∨ op = 7 then 231 else if op = 9 then 232 else if op = 10 then 233 else if op = 11 then 234 else 222
def wK (op : Int) : Nat := if op = 1 then 226 else if op = 2 then 228 else if op = 3 then 230 else if op = 12 then 235 else 223
abbrev kPV (op : Int) : List PV := [I (cnd (isTwo op) 2 1), Bo (isWin op), Bo (decide (op = 1) || decide (op = 2)), Bo (decide (op = 9)), Bo (decide (op = 1) || decide (op = 3)), Bo (keepsF op), .fn (madeK op) [], .fn (wK op) []]
theorem c205 (op : Int) (h : 1 ≤ op ∧ op ≤ 12) (B : List (List PV)) : callW tcfg 205 [I op] B = some ⟨.tuple [.agg (kPV op), Bo true], B, []⟩ := by
  refine callW_of_fin (n := 57) (ids := none) rfl Try.func205 rfl rfl rfl ?_ rfl
  rcases (by omega : op = 1 ∨ op = 2 ∨ op = 3 ∨ op = 4 ∨ op = 5 ∨ op = 6 ∨ op = 7 ∨ op = 8 ∨ op = 9 ∨ op = 10 ∨ op = 11 ∨ op = 12) with rfl | rfl | rfl | rfl | rfl | rfl | rfl | rfl | rfl | rfl | rfl | rfl <;>
  · simp only [push_cast, reduceCtorEq, List.reduceReplicate, Nat.reduceBEq, Nat.reduceAdd, Nat.reduceSub, Nat.reduceMul, Nat.reduceLT, Nat.reduceLeDiff, ↓reduceIte, Int.reduceNeg, Int.reduceLT, Int.reduceLE, Int.reduceAdd, Int.reduceSub, Int.reduceMul, Int.reduceToNat, Int.reduceNegSucc, Nat.reduceSucc, Int.reduceEq, Nat.reduceEqDiff, Int.reduceBEq, Int.reduceBNe]
    rfl
theorem c205n (op : Int) (h : ¬ (1 ≤ op ∧ op ≤ 12)) (B : List (List PV)) : callW tcfg 205 [I op] B = some ⟨.tuple [.agg [I 0, Bo false, Bo false, Bo false, Bo false, Bo false, .sc .nilFunc, .sc .nilFunc], Bo false], B, []⟩ := by
  refine callW_of_fin (n := 57) (ids := none) rfl Try.func205 rfl rfl rfl ?_ rfl
  have e1 : decide (op = 1) = false := by simp; omega
  have e2 : decide (op = 2) = false := by simp; omega
  have e3 : decide (op = 3) = false := by simp; omega
  have e4 : decide (op = 4) = false := by simp; omega
  have e5 : decide (op = 5) = false := by simp; omega
  have e6 : decide (op = 6) = false := by simp; omega
  have e7 : decide (op = 7) = false := by simp; omega
  have e8 : decide (op = 8) = false := by simp; omega
  have e9 : decide (op = 9) = false := by simp; omega
  have e10 : decide (op = 10) = false := by simp; omega
  have e11 : decide (op = 11) = false := by simp; omega
  have e12 : decide (op = 12) = false := by simp; omega
  simp only [push_cast, reduceCtorEq, List.reduceReplicate, Nat.reduceBEq, Nat.reduceAdd, Nat.reduceSub, Nat.reduceMul, Nat.reduceLT, Nat.reduceLeDiff, ↓reduceIte, Int.reduceNeg, Int.reduceLT, Int.reduceLE, Int.reduceAdd, Int.reduceSub, Int.reduceMul, Int.reduceToNat, Int.reduceNegSucc, Nat.reduceSucc, Int.reduceEq, Nat.reduceEqDiff, Int.reduceBEq, Int.reduceBNe, e1, e2, e3, e4, e5, e6, e7, e8, e9, e10, e11, e12]
end Go.Q
