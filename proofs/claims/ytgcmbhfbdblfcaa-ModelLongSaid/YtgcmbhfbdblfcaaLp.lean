/-
  What the statements ask of the program alone.
-/
import Derived.Test.YtgcmbhfbdblfcaaRows
import Derived.ProofKit
namespace Go.Proofs.Ytgcmbhfbdblfcaa
open Go.ChangeShapes Go.WideShapes Go.ChangeAt Go.RowKit
theorem cl1 : (laidOutB Try.prog) = true := by kernel_rfl
theorem cl2 : (mapsRowed Try.prog) = true := by kernel_rfl
theorem cl6 : ((Try.prog.stops == [])) = true := by kernel_rfl
theorem cl8 : ((Try.prog.stopKnobs == [])) = true := by kernel_rfl
theorem cl22 : (Try.prog.plainKeys) = true := by kernel_rfl
theorem cl24 : (Try.prog.stopsHeard) = true := by kernel_rfl
theorem cl25 : (Try.prog.mayEnter) = true := by kernel_rfl
theorem cl26 : (Try.prog.liftsFinal) = false := by kernel_rfl
theorem and_tt {a b : Bool} (h : a = true) (k : b = true) : (a && b) = true := by rw [h, k]; rfl
end Go.Proofs.Ytgcmbhfbdblfcaa
