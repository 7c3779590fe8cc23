/-
  More lemmas for the set.
-/
import Derived.Test.YtgcmbhfbdblfcaaQs
set_option linter.unusedVariables false
set_option linter.unusedSimpArgs false
namespace Go.Q
open Go.Proofs
theorem lt_add_pos (n k : Nat) : (n < n + k) = (0 < k) := by simp
attribute [push_cast] lt_add_pos Nat.add_lt_add_iff_left Nat.add_le_add_iff_left
/-! A box of the caller's -/
section
variable {id : Nat} {D : List (List PV)}
theorem set_get (X : List PV) (L : List (List PV)) (h : id < D.length) : (D.set id X ++ L)[id]? = some X := by
  rw [List.getElem?_append_left (by rw [List.length_set]; exact h)]; simp [h]
theorem set_get0 (X : List PV) (h : id < D.length) : (D.set id X)[id]? = some X := by simp [h]
theorem set_box (X : List PV) (L : List (List PV)) (i : Nat) : (D.set id X ++ L)[D.length + i]? = L[i]? := by
  have := box_get (D.set id X) L i
  rwa [List.length_set] at this
theorem set_box0 (X : List PV) (L : List (List PV)) : (D.set id X ++ L)[D.length]? = L[0]? := set_box X L 0
theorem set_set' (X Y : List PV) (L : List (List PV)) (h : id < D.length) : (D.set id X ++ L).set id Y = D.set id Y ++ L := by
  rw [List.set_append_left _ _ (by rw [List.length_set]; exact h), List.set_set]
theorem app_set (Y : List PV) (L : List (List PV)) (h : id < D.length) : (D ++ L).set id Y = D.set id Y ++ L := by
  rw [List.set_append_left _ _ h]
theorem set_take (X : List PV) (L : List (List PV)) (i : Nat) : (D.set id X ++ L).take (D.length + i) = D.set id X ++ L.take i := by
  have := box_take (D.set id X) L i
  rwa [List.length_set] at this
theorem set_take0 (X : List PV) (L : List (List PV)) : (D.set id X ++ L).take D.length = D.set id X := by
  have := box_take0 (D.set id X) L
  rwa [List.length_set] at this
theorem set_take1 (X : List PV) : (D.set id X).take D.length = D.set id X := by
  rw [List.take_of_length_le (by rw [List.length_set]; exact Nat.le_refl _)]
theorem set_modify (X : List PV) (L : List (List PV)) (g : List PV → List PV) (h : id < D.length) : (D.set id X ++ L).modify id g = D.set id (g X) ++ L := by
  apply List.ext_getElem?
  intro j
  rw [List.getElem?_modify, List.getElem?_append, List.getElem?_append]
  simp only [List.length_set, List.getElem?_set]
  by_cases hj : j < D.length
  · simp only [hj, if_true]
    by_cases e : id = j
    · subst e; simp [h]
    · simp [e]
  · have e : ¬ id = j := by omega
    simp [hj, e]
theorem set_modify0 (X : List PV) (g : List PV → List PV) (h : id < D.length) : (D.set id X).modify id g = D.set id (g X) := by
  have := set_modify X [] g h
  simpa using this
theorem set_modify1 (X : List PV) (L : List (List PV)) (i : Nat) (g : List PV → List PV) : (D.set id X ++ L).modify (D.length + i) g = D.set id X ++ L.modify i g := by
  have := box_mod (D.set id X) L i g
  rwa [List.length_set] at this
theorem set_modify2 (X : List PV) (L : List (List PV)) (g : List PV → List PV) : (D.set id X ++ L).modify D.length g = D.set id X ++ L.modify 0 g := set_modify1 X L 0 g
/-- What is changed is one box, and what it holds lives on. -/
theorem cutB_set {n : Nat} {m : List Nat} (X : List PV) (L : List (List PV)) (hm : ∀ x ∈ m, x = id) (h : id < D.length) (hX : ∀ c ∈ X, c.under n = true) : cutB n m (D.set id X ++ L) = (D.set id X ++ L).take n := by
  refine cutB_id fun i hi cs hcs c hc => ?_
  have := hm i hi
  subst this
  rw [set_get X L h] at hcs
  simp only [Option.some.injEq] at hcs
  subst hcs
  exact hX c hc
end
theorem all_eq {m : List Nat} {id : Nat} (p : Nat → Bool) (hm : ∀ x ∈ m, x = id) : (m.filter p).all (fun x => x == id) = true := by
  simp only [List.all_eq_true, List.mem_filter, beq_iff_eq]
  exact fun x hx => hm x hx.1
attribute [push_cast] set_get set_get0 set_box set_box0 set_set' set_take set_take0 set_take1 set_modify set_modify0 set_modify1 set_modify2
/-! Shifts by so many -/
theorem shr8_i64 (a : Int) : scBin .shr (.int .i64 a) (.int .u64 8) = some (.int .i64 (a.fdiv 256)) := rfl
theorem shr8_i32 (a : Int) : scBin .shr (.int .i32 a) (.int .u64 8) = some (.int .i32 (a.fdiv 256)) := rfl
theorem shr16_i32 (a : Int) : scBin .shr (.int .i32 a) (.int .u64 16) = some (.int .i32 (a.fdiv 65536)) := rfl
theorem shr24_i32 (a : Int) : scBin .shr (.int .i32 a) (.int .u64 24) = some (.int .i32 (a.fdiv 16777216)) := rfl
attribute [push_cast high] shr8_i64 shr8_i32 shr16_i32 shr24_i32
/-! Ranges -/
theorem range_6 : List.range 6 = [0, 1, 2, 3, 4, 5] := rfl
theorem range_7 : List.range 7 = [0, 1, 2, 3, 4, 5, 6] := rfl
theorem range_8 : List.range 8 = [0, 1, 2, 3, 4, 5, 6, 7] := rfl
theorem range_9 : List.range 9 = [0, 1, 2, 3, 4, 5, 6, 7, 8] := rfl
theorem range_10 : List.range 10 = [0, 1, 2, 3, 4, 5, 6, 7, 8, 9] := rfl
theorem range_11 : List.range 11 = [0, 1, 2, 3, 4, 5, 6, 7, 8, 9, 10] := rfl
theorem range_12 : List.range 12 = [0, 1, 2, 3, 4, 5, 6, 7, 8, 9, 10, 11] := rfl
theorem range_13 : List.range 13 = [0, 1, 2, 3, 4, 5, 6, 7, 8, 9, 10, 11, 12] := rfl
theorem range_14 : List.range 14 = [0, 1, 2, 3, 4, 5, 6, 7, 8, 9, 10, 11, 12, 13] := rfl
theorem range_15 : List.range 15 = [0, 1, 2, 3, 4, 5, 6, 7, 8, 9, 10, 11, 12, 13, 14] := rfl
theorem range_16 : List.range 16 = [0, 1, 2, 3, 4, 5, 6, 7, 8, 9, 10, 11, 12, 13, 14, 15] := rfl
attribute [push_cast] range_6 range_7 range_8 range_9 range_10 range_11 range_12 range_13 range_14 range_15 range_16
end Go.Q
