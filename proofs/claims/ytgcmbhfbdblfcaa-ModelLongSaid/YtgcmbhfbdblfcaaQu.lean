/-
  More lemmas for the set: strings; what follows a loop.
-/
import Derived.Test.YtgcmbhfbdblfcaaQt
set_option linter.unusedVariables false
set_option linter.unusedSimpArgs false
namespace Go.Q
open Go.Proofs
/-! What follows a loop -/
noncomputable def ctxL (k id : Nat) : Nat → Code → R → R
  | cur, .seq a b, r => if (findLoop id cur a).isSome = true then thenEv k b cur (ctxL k id cur a r) else ctxL k id cur b r
  | cur, .cond _ a b, r => if (findLoop id cur a).isSome = true then ctxL k id cur a r else ctxL k id cur b r
  | _, .block i c, r => blockEv i (ctxL k id i c r)
  | _, _, r => r
noncomputable def fromL (fn : Func) (k id n0 : Nat) (ids : Option (List Nat)) (r : R) : Option Out := finR fn k n0 ids (match fn.body with | some c => ctxL k id 0 c r | none => none)
/-! Strings -/
theorem toList_mk (l : List UInt8) : (ByteArray.mk l.toArray).toList = l := by
  have key : ∀ n i r, l.length - i = n → ByteArray.toList.loop ⟨l.toArray⟩ i r = r.reverse ++ l.drop i := by
    intro n
    induction n with
    | zero =>
      intro i r h
      rw [ByteArray.toList.loop]
      have : ¬ i < (ByteArray.mk l.toArray).size := by show ¬ i < l.toArray.size; simp; omega
      rw [if_neg this, List.drop_of_length_le (by omega)]; simp
    | succ n ih =>
      intro i r h
      rw [ByteArray.toList.loop]
      have hi : i < l.length := by omega
      have : i < (ByteArray.mk l.toArray).size := by show i < l.toArray.size; simpa using hi
      rw [if_pos this, ih (i + 1) _ (by omega), List.drop_eq_getElem_cons hi]
      have e : (ByteArray.mk l.toArray).get! i = l[i] := by
        show l.toArray[i]! = l[i]
        simp [hi]
      rw [e]
      simp
  exact key l.length 0 [] (by omega)
theorem bytes_nil : bytesOf [] = some [] := rfl
theorem bytes_cons (n : Int) (xs : List PV) : bytesOf (.sc (.int .u8 n) :: xs) = (bytesOf xs).map (fun r => UInt8.ofNat n.toNat :: r) := rfl
attribute [push_cast] toList_mk bytes_nil bytes_cons
end Go.Q
