/-
  The functions of package graph: nodes and values.
-/
import Derived.Test.YtgcmbhfbdblfcaaSb
set_option linter.unusedVariables false
set_option linter.unusedSimpArgs false
set_option maxRecDepth 10000
namespace Go.Q
open Go.Proofs
def z3 (s : Shp) : Bool := decide (s.h = 0) && (decide (s.w = 0) && decide (s.c = 0))
def mayF (many : Int) (win pads padded out : Bool) (n : Nod) (len : Int) : Bool :=
  (decide (len = many) && (wi 1 32767 n.mul && (wi 0 31 n.sh && wi (-128) 127 n.zero))) && (decide (n.op = 11) || z3 n.to) &&
  cnd win (wi 1 3 n.k && wi 1 2 n.st) (decide (n.k = 0) && decide (n.st = 0)) &&
  cnd pads (wi 0 (if w64 (n.k - 1) < 1 then w64 (n.k - 1) else 1) n.pad) (cnd padded (decide (n.pad = 1)) (decide (n.pad = 0))) &&
  cnd out (wi 1 8 n.out) (decide (n.out = 0))
theorem c206 (many : Int) (win pads padded out keeps : Bool) (f g : Nat) (n : Nod) (xs : List Vl) (B : List (List PV)) : callW tcfg 206 [.agg [I many, Bo win, Bo pads, Bo padded, Bo out, Bo keeps, .fn f [], .fn g []], n.pv, .list 4 .ro (xs.map Vl.pv)] B = some ⟨Bo (mayF many win pads padded out n xs.length), B, []⟩ := by
  refine callW_of_fin (n := 103) (ids := none) rfl Try.func206 rfl rfl rfl ?_ rfl
  simp only [push_cast, reduceCtorEq, List.reduceReplicate, Nat.reduceBEq, Nat.reduceAdd, Nat.reduceSub, Nat.reduceMul, Nat.reduceLT, Nat.reduceLeDiff, ↓reduceIte, Int.reduceNeg, Int.reduceLT, Int.reduceLE, Int.reduceAdd, Int.reduceSub, Int.reduceMul, Int.reduceToNat, Int.reduceNegSucc, Nat.reduceSucc, Int.reduceEq, Nat.reduceEqDiff, Int.reduceBEq, Int.reduceBNe, c203]
  unfold mayF z3
  cases win <;> cases pads <;> cases padded <;> cases out <;> simp only [cnd_t, cnd_f, Bool.and_assoc]

/-! ### The library's searches -/
def findI {α : Type} (p : α → Bool) (xs : List α) : Int := match xs.findIdx? p with | some i => i | none => -1
theorem findI_any {α : Type} (p : α → Bool) (xs : List α) : decide (0 ≤ findI p xs) = xs.any p := by
  unfold findI
  cases h : xs.findIdx? p with
  | none =>
    rw [List.findIdx?_eq_none_iff] at h
    have : xs.any p = false := by simpa using h
    rw [this]; decide
  | some i =>
    obtain ⟨hi, hp, _⟩ := List.findIdx?_eq_some_iff_getElem.1 h
    have : xs.any p = true := List.any_eq_true.2 ⟨_, List.getElem_mem hi, hp⟩
    rw [this]
    simp
theorem findI_cons {α : Type} (p : α → Bool) (x : α) (xs : List α) : findI p (x :: xs) = if p x = true then 0 else (if findI p xs < 0 then -1 else findI p xs + 1) := by
  unfold findI
  rw [List.findIdx?_cons]
  cases p x
  · cases h : xs.findIdx? p with
    | none => simp
    | some i => simp; omega
  · simp
theorem findI_lt {α : Type} (p : α → Bool) (xs : List α) : -1 ≤ findI p xs ∧ findI p xs < xs.length := by
  induction xs with
  | nil => exact ⟨by simp [findI], by simp [findI]⟩
  | cons x xs ih => rw [findI_cons, List.length_cons]; split; omega; split <;> omega
def offI (i : Nat) (j : Int) : Int := if j < 0 then -1 else i + j

theorem c236 (xs : List Vl) (hl : xs.length < 2^40) (g : Nat) (cap : List PV) (p : Vl → Bool) (B : List (List PV)) (hg : consT g = []) (hf : cap.map PV.flat = cap) (ha : ∀ i, asArgs [] i cap = cap) (hu : cap.all (PV.under B.length) = true)
    (hp : ∀ v ∈ xs, callW tcfg g (Vl.pv v :: cap) B = some ⟨Bo (p v), B, []⟩) : callW tcfg 236 [.list 4 .ro (xs.map Vl.pv), .fn g cap] B = some ⟨I (findI p xs), B, []⟩ := by
  refine callW_of_fin (n := 17) (ids := none) rfl Try.func236 rfl rfl rfl ?_ rfl
  simp only [push_cast, reduceCtorEq, List.reduceReplicate, Nat.reduceBEq, Nat.reduceAdd, Nat.reduceSub, Nat.reduceMul, Nat.reduceLT, Nat.reduceLeDiff, ↓reduceIte, Int.reduceNeg, Int.reduceLT, Int.reduceLE, Int.reduceAdd, Int.reduceSub, Int.reduceMul, Int.reduceToNat, Int.reduceNegSucc, Nat.reduceSucc, Int.reduceEq, Nat.reduceEqDiff, Int.reduceBEq, Int.reduceBNe]
  refine (lp_ind (rest := (fun r => finR _ _ _ _ (thenEv _ _ _ (blockEv _ (r))))) (fun i : Nat => ⟨[.list 4 .ro (xs.map Vl.pv), .fn g cap, .any, .any, .any, .any, .any, I xs.length, I i, .any, .any, .any, .any, .any, .any, .any, .any, .any, .any], B, [], []⟩) (fun i => some ⟨I (offI i (findI p (xs.drop i))), B, []⟩) (fun i => xs.length - i) (fun i => i ≤ xs.length) ?_ 0 (Nat.zero_le _)).trans ?_
  · intro i hi ih
    by_cases hlt : i < xs.length
    · have hc : ((i : Int) < xs.length) := by omega
      have hx : xs[i]? = some xs[i] := List.getElem?_eq_getElem hlt
      have hw : IntKind.i64.wrap ((i : Int) + 1) = ((i + 1 : Nat) : Int) := by rw [IntWalk.i64_in _ (by omega)]; rfl
      have hn := ih (i + 1) (by omega) (by omega)
      have hq := hp xs[i] (List.getElem_mem hlt)
      rw [List.drop_eq_getElem_cons hlt, findI_cons]
      cases hpx : p xs[i] <;> rw [hpx] at hq
      · simp only [push_cast, reduceCtorEq, List.reduceReplicate, Nat.reduceBEq, Nat.reduceAdd, Nat.reduceSub, Nat.reduceMul, Nat.reduceLT, Nat.reduceLeDiff, ↓reduceIte, Int.reduceNeg, Int.reduceLT, Int.reduceLE, Int.reduceAdd, Int.reduceSub, Int.reduceMul, Int.reduceToNat, Int.reduceNegSucc, Nat.reduceSucc, Int.reduceEq, Nat.reduceEqDiff, Int.reduceBEq, Int.reduceBNe, hc, hx, hw, hg, hf, ha, hu, hq] at hn ⊢
        have := findI_lt p (xs.drop (i + 1))
        have e : offI (i + 1) (findI p (xs.drop (i + 1))) = offI i (if findI p (xs.drop (i + 1)) < 0 then -1 else findI p (xs.drop (i + 1)) + 1) := by
          unfold offI; split <;> split <;> omega
        rw [hn, e]
      · simp only [push_cast, reduceCtorEq, List.reduceReplicate, Nat.reduceBEq, Nat.reduceAdd, Nat.reduceSub, Nat.reduceMul, Nat.reduceLT, Nat.reduceLeDiff, ↓reduceIte, Int.reduceNeg, Int.reduceLT, Int.reduceLE, Int.reduceAdd, Int.reduceSub, Int.reduceMul, Int.reduceToNat, Int.reduceNegSucc, Nat.reduceSucc, Int.reduceEq, Nat.reduceEqDiff, Int.reduceBEq, Int.reduceBNe, hc, hx, hw, hg, hf, ha, hu, hq, offI, Int.lt_irrefl, Int.add_zero]
    · have hc : ¬ ((i : Int) < xs.length) := by omega
      have : i = xs.length := by omega
      subst this
      simp only [push_cast, reduceCtorEq, List.reduceReplicate, Nat.reduceBEq, Nat.reduceAdd, Nat.reduceSub, Nat.reduceMul, Nat.reduceLT, Nat.reduceLeDiff, ↓reduceIte, Int.reduceNeg, Int.reduceLT, Int.reduceLE, Int.reduceAdd, Int.reduceSub, Int.reduceMul, Int.reduceToNat, Int.reduceNegSucc, Nat.reduceSucc, Int.reduceEq, Nat.reduceEqDiff, Int.reduceBEq, Int.reduceBNe, hc, List.drop_length]
      rfl
  · have := findI_lt p xs
    have e : offI 0 (findI p (xs.drop 0)) = findI p xs := by
      rw [List.drop_zero]; unfold offI; split <;> omega
    simp only [e]
theorem c207 (xs : List Vl) (hl : xs.length < 2^40) (g : Nat) (cap : List PV) (p : Vl → Bool) (B : List (List PV)) (hg : consT g = []) (hf : cap.map PV.flat = cap) (ha : ∀ i, asArgs [] i cap = cap) (hu : cap.all (PV.under B.length) = true)
    (hp : ∀ v ∈ xs, callW tcfg g (Vl.pv v :: cap) B = some ⟨Bo (p v), B, []⟩) : callW tcfg 207 [.list 4 .ro (xs.map Vl.pv), .fn g cap] B = some ⟨Bo (xs.any p), B, []⟩ := by
  refine callW_of_fin (n := 7) (ids := none) rfl Try.func207 rfl rfl rfl ?_ rfl
  simp only [push_cast, reduceCtorEq, List.reduceReplicate, Nat.reduceBEq, Nat.reduceAdd, Nat.reduceSub, Nat.reduceMul, Nat.reduceLT, Nat.reduceLeDiff, ↓reduceIte, Int.reduceNeg, Int.reduceLT, Int.reduceLE, Int.reduceAdd, Int.reduceSub, Int.reduceMul, Int.reduceToNat, Int.reduceNegSucc, Nat.reduceSucc, Int.reduceEq, Nat.reduceEqDiff, Int.reduceBEq, Int.reduceBNe, c236 xs hl g cap p B hg hf ha hu hp, findI_any]

theorem c237 (xs : List Int) (hl : xs.length < 2^40) (g : Nat) (cap : List PV) (p : Int → Bool) (B : List (List PV)) (hg : consT g = []) (hf : cap.map PV.flat = cap) (ha : ∀ i, asArgs [] i cap = cap) (hu : cap.all (PV.under B.length) = true)
    (hp : ∀ v ∈ xs, callW tcfg g (I32 v :: cap) B = some ⟨Bo (p v), B, []⟩) : callW tcfg 237 [.list 1 .ro (xs.map I32), .fn g cap] B = some ⟨I (findI p xs), B, []⟩ := by
  refine callW_of_fin (n := 17) (ids := none) rfl Try.func237 rfl rfl rfl ?_ rfl
  simp only [push_cast, reduceCtorEq, List.reduceReplicate, Nat.reduceBEq, Nat.reduceAdd, Nat.reduceSub, Nat.reduceMul, Nat.reduceLT, Nat.reduceLeDiff, ↓reduceIte, Int.reduceNeg, Int.reduceLT, Int.reduceLE, Int.reduceAdd, Int.reduceSub, Int.reduceMul, Int.reduceToNat, Int.reduceNegSucc, Nat.reduceSucc, Int.reduceEq, Nat.reduceEqDiff, Int.reduceBEq, Int.reduceBNe]
  refine (lp_ind (rest := (fun r => finR _ _ _ _ (thenEv _ _ _ (blockEv _ (r))))) (fun i : Nat => ⟨[.list 1 .ro (xs.map I32), .fn g cap, .any, .any, .any, .any, .any, I xs.length, I i, .any, .any, .any, .any, .any, .any, .any, .any, .any, .any], B, [], []⟩) (fun i => some ⟨I (offI i (findI p (xs.drop i))), B, []⟩) (fun i => xs.length - i) (fun i => i ≤ xs.length) ?_ 0 (Nat.zero_le _)).trans ?_
  · intro i hi ih
    by_cases hlt : i < xs.length
    · have hc : ((i : Int) < xs.length) := by omega
      have hx : xs[i]? = some xs[i] := List.getElem?_eq_getElem hlt
      have hw : IntKind.i64.wrap ((i : Int) + 1) = ((i + 1 : Nat) : Int) := by rw [IntWalk.i64_in _ (by omega)]; rfl
      have hn := ih (i + 1) (by omega) (by omega)
      have hq := hp xs[i] (List.getElem_mem hlt)
      rw [List.drop_eq_getElem_cons hlt, findI_cons]
      cases hpx : p xs[i] <;> rw [hpx] at hq
      · simp only [push_cast, reduceCtorEq, List.reduceReplicate, Nat.reduceBEq, Nat.reduceAdd, Nat.reduceSub, Nat.reduceMul, Nat.reduceLT, Nat.reduceLeDiff, ↓reduceIte, Int.reduceNeg, Int.reduceLT, Int.reduceLE, Int.reduceAdd, Int.reduceSub, Int.reduceMul, Int.reduceToNat, Int.reduceNegSucc, Nat.reduceSucc, Int.reduceEq, Nat.reduceEqDiff, Int.reduceBEq, Int.reduceBNe, hc, hx, hw, hg, hf, ha, hu, hq] at hn ⊢
        have := findI_lt p (xs.drop (i + 1))
        have e : offI (i + 1) (findI p (xs.drop (i + 1))) = offI i (if findI p (xs.drop (i + 1)) < 0 then -1 else findI p (xs.drop (i + 1)) + 1) := by
          unfold offI; split <;> split <;> omega
        rw [hn, e]
      · simp only [push_cast, reduceCtorEq, List.reduceReplicate, Nat.reduceBEq, Nat.reduceAdd, Nat.reduceSub, Nat.reduceMul, Nat.reduceLT, Nat.reduceLeDiff, ↓reduceIte, Int.reduceNeg, Int.reduceLT, Int.reduceLE, Int.reduceAdd, Int.reduceSub, Int.reduceMul, Int.reduceToNat, Int.reduceNegSucc, Nat.reduceSucc, Int.reduceEq, Nat.reduceEqDiff, Int.reduceBEq, Int.reduceBNe, hc, hx, hw, hg, hf, ha, hu, hq, offI, Int.lt_irrefl, Int.add_zero]
    · have hc : ¬ ((i : Int) < xs.length) := by omega
      have : i = xs.length := by omega
      subst this
      simp only [push_cast, reduceCtorEq, List.reduceReplicate, Nat.reduceBEq, Nat.reduceAdd, Nat.reduceSub, Nat.reduceMul, Nat.reduceLT, Nat.reduceLeDiff, ↓reduceIte, Int.reduceNeg, Int.reduceLT, Int.reduceLE, Int.reduceAdd, Int.reduceSub, Int.reduceMul, Int.reduceToNat, Int.reduceNegSucc, Nat.reduceSucc, Int.reduceEq, Nat.reduceEqDiff, Int.reduceBEq, Int.reduceBNe, hc, List.drop_length]
      rfl
  · have := findI_lt p xs
    have e : offI 0 (findI p (xs.drop 0)) = findI p xs := by
      rw [List.drop_zero]; unfold offI; split <;> omega
    simp only [e]
theorem c210 (xs : List Int) (hl : xs.length < 2^40) (g : Nat) (cap : List PV) (p : Int → Bool) (B : List (List PV)) (hg : consT g = []) (hf : cap.map PV.flat = cap) (ha : ∀ i, asArgs [] i cap = cap) (hu : cap.all (PV.under B.length) = true)
    (hp : ∀ v ∈ xs, callW tcfg g (I32 v :: cap) B = some ⟨Bo (p v), B, []⟩) : callW tcfg 210 [.list 1 .ro (xs.map I32), .fn g cap] B = some ⟨Bo (xs.any p), B, []⟩ := by
  refine callW_of_fin (n := 7) (ids := none) rfl Try.func210 rfl rfl rfl ?_ rfl
  simp only [push_cast, reduceCtorEq, List.reduceReplicate, Nat.reduceBEq, Nat.reduceAdd, Nat.reduceSub, Nat.reduceMul, Nat.reduceLT, Nat.reduceLeDiff, ↓reduceIte, Int.reduceNeg, Int.reduceLT, Int.reduceLE, Int.reduceAdd, Int.reduceSub, Int.reduceMul, Int.reduceToNat, Int.reduceNegSucc, Nat.reduceSucc, Int.reduceEq, Nat.reduceEqDiff, Int.reduceBEq, Int.reduceBNe, c237 xs hl g cap p B hg hf ha hu hp, findI_any]

abbrev Nod.cs (n : Nod) : List PV := [I n.op, .list 1 .ro (n.ins.map I), I n.k, I n.st, I n.pad, I n.out, I n.mul, I n.sh, I n.zero, I n.to.h, I n.to.w, I n.to.c, .list 1 .ro (n.w.map I8), .list 1 .ro (n.b.map I32)]
theorem c208 (n : Nod) (i : Nat) (B : List (List PV)) (h : B[i]? = some n.cs) (v : Vl) : callW tcfg 208 [v.pv, .ptr i 0] B = some ⟨Bo (!decide (v.z = n.zero)), B, []⟩ := by
  have hl := lt_of_get h
  have hb : ∀ L, (B ++ L)[i]? = some n.cs := fun L => by rw [box_old B L i hl, h]
  refine callW_of_fin (n := 7) (ids := none) rfl Try.func208 rfl rfl rfl ?_ rfl
  simp only [push_cast, reduceCtorEq, List.reduceReplicate, Nat.reduceBEq, Nat.reduceAdd, Nat.reduceSub, Nat.reduceMul, Nat.reduceLT, Nat.reduceLeDiff, ↓reduceIte, Int.reduceNeg, Int.reduceLT, Int.reduceLE, Int.reduceAdd, Int.reduceSub, Int.reduceMul, Int.reduceToNat, Int.reduceNegSucc, Nat.reduceSucc, Int.reduceEq, Nat.reduceEqDiff, Int.reduceBEq, Int.reduceBNe, hb]
theorem c209 (v : Vl) (B : List (List PV)) : callW tcfg 209 [v.pv] B = some ⟨Bo (!v.s.may), B, []⟩ := by
  refine callW_of_fin (n := 6) (ids := none) rfl Try.func209 rfl rfl rfl ?_ rfl
  simp only [push_cast, reduceCtorEq, List.reduceReplicate, Nat.reduceBEq, Nat.reduceAdd, Nat.reduceSub, Nat.reduceMul, Nat.reduceLT, Nat.reduceLeDiff, ↓reduceIte, Int.reduceNeg, Int.reduceLT, Int.reduceLE, Int.reduceAdd, Int.reduceSub, Int.reduceMul, Int.reduceToNat, Int.reduceNegSucc, Nat.reduceSucc, Int.reduceEq, Nat.reduceEqDiff, Int.reduceBEq, Int.reduceBNe, c202]
  cases v.s.may <;> rfl
theorem c211 (x : Int) (B : List (List PV)) : callW tcfg 211 [I32 x] B = some ⟨Bo (!wi (-16777216) 16777216 (w64 x)), B, []⟩ := by
  refine callW_of_fin (n := 6) (ids := none) rfl Try.func211 rfl rfl rfl ?_ rfl
  simp only [push_cast, reduceCtorEq, List.reduceReplicate, Nat.reduceBEq, Nat.reduceAdd, Nat.reduceSub, Nat.reduceMul, Nat.reduceLT, Nat.reduceLeDiff, ↓reduceIte, Int.reduceNeg, Int.reduceLT, Int.reduceLE, Int.reduceAdd, Int.reduceSub, Int.reduceMul, Int.reduceToNat, Int.reduceNegSucc, Nat.reduceSucc, Int.reduceEq, Nat.reduceEqDiff, Int.reduceBEq, Int.reduceBNe, c203]
end Go.Q
