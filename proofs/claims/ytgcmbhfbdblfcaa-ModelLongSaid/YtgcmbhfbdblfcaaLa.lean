/-
  Whatever graph it is given, ModelLong returns true and leaves its argument as it was. No condition.
-/
import Derived.Test.YtgcmbhfbdblfcaaLp
import Derived.Test.YtgcmbhfbdblfcaaTg
import Derived.Test.YtgcmbhfbdblfcaaSn
import Derived.ProofKit
import Derived.OpenShut
namespace Go.Proofs.Ytgcmbhfbdblfcaa
open Go.ChangeShapes Go.WideShapes Go.ChangeAt Go.RowKit Go.Q

theorem own : ownKnob Try.prog.godebug = none := by kernel_rfl
theorem laidOut : laidOutB Try.prog = true := cl1
-- FACTS
theorem modelLong_j0 : (Rows.modelLongRow.wf (OpenSpec.ofChange Rows.modelLongSpec)) = true := by kernel_rfl
theorem modelLong_j3 : (Try.f4.params.all (Try.prog.readableRec ·)) = true := by kernel_rfl
theorem modelLong_j4 : (namedTie Try.prog Rows.modelLongRow.named Rows.modelLongSpec.vars) = true := by kernel_rfl
theorem modelLong_j5 : ((Rows.modelLongRow.stops == [])) = true := by kernel_rfl
theorem modelLong_j7 : ((Rows.modelLongRow.knobs == [])) = true := by kernel_rfl
theorem modelLong_j9 : ((Rows.modelLongRow.inPlace == Try.prog.inPlace 4)) = true := by kernel_rfl
theorem modelLong_j10 : ((Rows.modelLongRow.unfollowed == Try.prog.unfollowed 4)) = true := by kernel_rfl
theorem modelLong_j11 : ((Rows.modelLongRow.recurses == Try.prog.recurses 4)) = true := by kernel_rfl
theorem modelLong_j12 : ((Rows.modelLongRow.named == Try.prog.varsNamed 4)) = true := by kernel_rfl
theorem modelLong_j13 : ((Rows.modelLongRow.maps == (Try.f4.params.toList ++ Rows.modelLongSpec.plain.varTypes Try.prog).any (Try.prog.mapsRec ·))) = true := by kernel_rfl
theorem modelLong_j14 : ((Rows.modelLongRow.ifaces == (Try.f4.params.toList ++ Rows.modelLongSpec.plain.varTypes Try.prog).any (Try.prog.ifacesRec ·))) = true := by kernel_rfl
theorem modelLong_j15 : ((Rows.modelLongRow.mapsOut == Try.prog.mapsAmong Try.f4.resultTypes.toList)) = true := by kernel_rfl
theorem modelLong_j16 : ((Rows.modelLongRow.loops == (Try.f4.params.toList ++ Rows.modelLongSpec.plain.varTypes Try.prog).any (Try.prog.loopsFrom ·))) = true := by kernel_rfl
theorem modelLong_j17 : ((Rows.modelLongRow.wideKeys == (Try.f4.params.toList ++ Rows.modelLongSpec.plain.varTypes Try.prog ++ Try.f4.resultTypes.toList).any (Try.prog.wideKeysFrom ·))) = true := by kernel_rfl
theorem modelLong_j18 : (Rows.modelLongSpec.vars.all (Try.prog.varReadable ·)) = true := by kernel_rfl
theorem modelLong_j19 : (Try.f4.resultTypes.all (fun t => Try.prog.readableRec t && decide (t < Try.prog.types.size))) = true := by kernel_rfl
theorem modelLong_j20 : ((Rows.modelLongRow.ifacesOut == Try.f4.resultTypes.toList.any (Try.prog.ifacesRec ·))) = true := by kernel_rfl
theorem modelLong_j21 : ((Rows.modelLongRow.loopsOut == Try.f4.resultTypes.toList.any (Try.prog.loopsFrom ·))) = true := by kernel_rfl
theorem modelLong_j22 : ((Rows.modelLongRow.plainKeys == Try.prog.plainKeys)) = true := by rw [cl22]; rfl
theorem modelLong_j23 : (Rows.modelLongRow.shortTexts.isNone) = true := by kernel_rfl
theorem modelLong_j26 : ((Rows.modelLongRow.lifted == Try.prog.liftsFinal)) = true := by rw [cl26]; rfl
theorem modelLong_j27 : ((Try.prog.make == some Rows.modelLongRow.make)) = true := by kernel_rfl
theorem modelLong_j29 : ((Rows.modelLongRow.pinned == Rows.modelLongRow.pinnedBy)) = true := by kernel_rfl
theorem modelLong_j30 : ((Rows.modelLongRow.veiled == (Try.f4.params.toList ++ Rows.modelLongSpec.plain.varTypes Try.prog ++ Try.f4.resultTypes.toList).any (Try.prog.veiledRec ·))) = true := by kernel_rfl
theorem modelLong_j31 : (Rows.modelLongRow.veiledFits Try.prog Try.f4.params.toList (Try.f4.params.toList ++ Rows.modelLongSpec.plain.varTypes Try.prog ++ Try.f4.resultTypes.toList)) = true := by kernel_rfl
theorem modelLong_closed : joinedFacts Try.prog 4 Try.f4 Rows.modelLongSpec Rows.modelLongRow = true := by
  unfold joinedFacts
  refine (and_tt (and_tt (and_tt (and_tt (and_tt (and_tt (and_tt (and_tt (and_tt (and_tt (and_tt (and_tt (and_tt (and_tt (and_tt (and_tt (and_tt (and_tt (and_tt (and_tt (and_tt (and_tt (and_tt (and_tt (and_tt (and_tt (and_tt (and_tt (and_tt (and_tt (and_tt modelLong_j0 cl1) cl2) modelLong_j3) modelLong_j4) modelLong_j5) cl6) modelLong_j7) cl8) modelLong_j9) modelLong_j10) modelLong_j11) modelLong_j12) modelLong_j13) modelLong_j14) modelLong_j15) modelLong_j16) modelLong_j17) modelLong_j18) modelLong_j19) modelLong_j20) modelLong_j21) modelLong_j22) modelLong_j23) cl24) cl25) modelLong_j26) modelLong_j27) ?_) modelLong_j29) modelLong_j30) modelLong_j31)
  kernel_rfl
-- END
theorem under4 : Try.prog.underlying 4 = some .bool := by kernel_rfl
theorem read47 : Try.prog.readableRec 47 = true ∧ 47 < Try.prog.types.size := ⟨by kernel_rfl, of_decide_eq_true (by kernel_rfl)⟩

set_option maxRecDepth 100000 in
theorem modelLong_lifted (os : Os) (started : os.Started) (H : Type) (enc : TypeId × Value → H) :
    ReturnsInHanded {} Try.checked os 4 .any (Rows.modelLongSpec.pre6 enc Try.prog Try.f4 Rows.modelLongRow.domain false) (Rows.modelLongSpec.post enc Try.prog Try.f4 false true false false) := by
  refine returnsInHanded_of_change (C := Try.checked) own started (by kernel_rfl) Try.func4
    (ChangeSpec.witness6 (enc := enc) (C := Try.checked) false ⟨#[], #[.agg #[.slice none 0 0, .slice none 0 0, .slice none 0 0]], []⟩ 8 (by kernel_rfl) (by kernel_rfl) (by kernel_rfl) (by kernel_rfl)) ?_
  intro W base args ds gs before hval0 hW hcnd _
  have hval : ∀ (j : Nat) t v, Try.f4.params[j]? = some t → args[j]? = some v → Value.okWide Try.prog W .any base t v := hval0
  have hW' := hW
  obtain ⟨p, q, hA0, hV, rfl, hfz, hnd⟩ := hW
  have hA : DataW.TrodAll enc Try.prog W 0 (fun _ => true) true Try.f4.params.toList args.toList ds p := hA0
  rw [show Try.f4.params = #[47] from rfl] at hA hval
  obtain ⟨v0, vs0, d0, ds0, p0, q0, hargs, rfl, rfl, h0, r0⟩ := trodAll_cons hA
  obtain ⟨rfl, rfl, rfl⟩ := trodAll_nil r0
  obtain rfl : args = #[v0] := by cases args; simp_all
  obtain ⟨x, hx, hr, ht⟩ := arg_read (base := base) 8 good47 h0 (hval 0 47 v0 rfl rfl)
  obtain ⟨g, hg, rfl⟩ := is_gr kinds_ok hx
  rw [kinds_ok.kt47] at hr ht
  refine (law_calls (k := 4) (c4 g []) (Reps.one hr) (fun i p v hp hv => ?_)).mono fun e W' ⟨he, hb⟩ => ?_
  · cases i with
    | zero => cases hp; cases hv; exact ht
    | succ i => cases hp
  · exact ⟨_, he, law_post laidOut hW' rfl rfl rfl rfl hb (by rw [show Try.f4.params = #[47] from rfl]; intro t ht; cases ht with | head => exact read47 | tail _ h => cases h) rfl under4⟩

theorem modelLong_named : Try.prog.funcNamed Rows.modelLongRow.func = some 4 := by kernel_rfl
theorem modelLong_inst : Try.f4.isInstance Try.prog Rows.modelLongRow.origin Rows.modelLongRow.targs := of_decide_eq_true (by kernel_rfl)
theorem modelLong_wrap : Try.f4.isWrapper Try.prog Rows.modelLongRow.wrapper Rows.modelLongRow.mainSum := by
  unfold Func.isWrapper
  rw [if_neg (by decide +kernel)]
  exact ⟨rfl, rfl⟩
theorem modelLong_holds : Rows.ModelLongSaid :=
  OpenClaim.holds_of_wide (p := Try.pinned) 4 Try.f4 rfl rfl rfl rfl rfl rfl rfl ⟨rfl, rfl, rfl, rfl, rfl⟩ rfl rfl rfl rfl rfl modelLong_named Try.func4 modelLong_closed modelLong_inst modelLong_wrap
    (fun os started H enc _ => modelLong_lifted os started H enc)
end Go.Proofs.Ytgcmbhfbdblfcaa
