/-
  The tables hold.
-/
import Derived.Test.YtgcmbhfbdblfcaaTc
import Derived.Test.YtgcmbhfbdblfcaaQr
set_option linter.unusedVariables false
set_option linter.unusedSimpArgs false
namespace Go.Q
open Go.Proofs Go.WideShapes

theorem names_get (k : Nat) (fn : Func) (h : Try.prog.funcs[k]? = some fn) : (fn.name == "runtime.NumGoroutine") = false := by
  have h1 : fn ∈ Try.prog.funcs.toList := by
    rw [← Array.getElem?_toList] at h
    exact List.mem_of_getElem? h
  have := List.all_eq_true.1 names_ok fn h1
  simpa using this
theorem zOf_big (t : Nat) (h : zTab.length ≤ t) : zOf t = [] := by
  unfold zOf
  simp [List.getD_eq_getElem?_getD, List.getElem?_eq_none h]
theorem zOf_lt (t : TypeId) (h : zOf t ≠ []) : t < zTab.length := by
  apply Classical.byContradiction
  intro hge
  exact h (zOf_big t (Nat.not_lt.1 hge))
theorem zTab_len : zTab.length ≤ Try.prog.types.size := by
  have : decide (zTab.length ≤ Try.prog.types.size) = true := by kernel_rfl
  exact of_decide_eq_true this
theorem flds_get (t : TypeId) (fs : Array Field) (ht : zOf t ≠ []) (h : Try.prog.underlying t = some (.struct fs)) : ∀ f ∈ fs.toList, (Try.prog.info? f.type).isSome = true := by
  have := List.all_eq_true.1 flds_ok t (List.mem_range.2 (Nat.lt_of_lt_of_le (zOf_lt t ht) zTab_len))
  rw [h] at this
  exact List.all_eq_true.1 this
theorem eqV_ok {P : Program} {t : TypeId} {ks : List (Option IntKind)} (h : kindsE P 8 t = some ks) (hag : isAggT P t = true) (hg : P.eqGuardType P.depth t = false) (vx vy : List Value) (hx : HasK ks vx) (hy : HasK ks vy) (x y : Operand) (w : World) :
    (do eqGuard .eql t x y (.agg vx.toArray) (.agg vy.toArray); binOp .eql t (.agg vx.toArray) (.agg vy.toArray) : Sem Value).run P w = .ok (.bool (eqVals vx vy)) w ∧
    (do eqGuard .neq t x y (.agg vx.toArray) (.agg vy.toArray); binOp .neq t (.agg vx.toArray) (.agg vy.toArray) : Sem Value).run P w = .ok (.bool (!eqVals vx vy)) w := by
  have h1 := eqE w 8 t ks h 9992 vx vy hx hy
  unfold packE at h1
  rw [if_pos hag, if_pos hag, show 8 + 9992 = 10000 from rfl] at h1
  constructor <;> simp [eqGuard, hg, binOp, Op.equal, Op.maxDepth, h1]
theorem one_plan {k : Nat} {f : Func} (h : okBody f k = true) (hf : Try.prog.funcs[k]? = some f) (fn : Func) (h2 : Try.prog.funcs[k]? = some fn) : okBody fn k = true := by
  rw [hf] at h2
  simp only [Option.some.injEq] at h2
  subst h2
  exact h
theorem plans_get : ∀ k ∈ planKs, ∀ fn, Try.prog.funcs[k]? = some fn → okBody fn k = true := by
  unfold planKs
  refine List.forall_mem_cons.2 ⟨one_plan pk3 Try.func3, ?_⟩
  refine List.forall_mem_cons.2 ⟨one_plan pk4 Try.func4, ?_⟩
  refine List.forall_mem_cons.2 ⟨one_plan pk5 Try.func5, ?_⟩
  refine List.forall_mem_cons.2 ⟨one_plan pk9 Try.func9, ?_⟩
  refine List.forall_mem_cons.2 ⟨one_plan pk10 Try.func10, ?_⟩
  refine List.forall_mem_cons.2 ⟨one_plan pk12 Try.func12, ?_⟩
  refine List.forall_mem_cons.2 ⟨one_plan pk13 Try.func13, ?_⟩
  refine List.forall_mem_cons.2 ⟨one_plan pk14 Try.func14, ?_⟩
  refine List.forall_mem_cons.2 ⟨one_plan pk16 Try.func16, ?_⟩
  refine List.forall_mem_cons.2 ⟨one_plan pk17 Try.func17, ?_⟩
  refine List.forall_mem_cons.2 ⟨one_plan pk19 Try.func19, ?_⟩
  refine List.forall_mem_cons.2 ⟨one_plan pk21 Try.func21, ?_⟩
  refine List.forall_mem_cons.2 ⟨one_plan pk22 Try.func22, ?_⟩
  refine List.forall_mem_cons.2 ⟨one_plan pk31 Try.func31, ?_⟩
  refine List.forall_mem_cons.2 ⟨one_plan pk32 Try.func32, ?_⟩
  refine List.forall_mem_cons.2 ⟨one_plan pk38 Try.func38, ?_⟩
  refine List.forall_mem_cons.2 ⟨one_plan pk39 Try.func39, ?_⟩
  refine List.forall_mem_cons.2 ⟨one_plan pk40 Try.func40, ?_⟩
  refine List.forall_mem_cons.2 ⟨one_plan pk45 Try.func45, ?_⟩
  refine List.forall_mem_cons.2 ⟨one_plan pk46 Try.func46, ?_⟩
  refine List.forall_mem_cons.2 ⟨one_plan pk47 Try.func47, ?_⟩
  refine List.forall_mem_cons.2 ⟨one_plan pk57 Try.func57, ?_⟩
  refine List.forall_mem_cons.2 ⟨one_plan pk61 Try.func61, ?_⟩
  refine List.forall_mem_cons.2 ⟨one_plan pk65 Try.func65, ?_⟩
  refine List.forall_mem_cons.2 ⟨one_plan pk66 Try.func66, ?_⟩
  refine List.forall_mem_cons.2 ⟨one_plan pk67 Try.func67, ?_⟩
  refine List.forall_mem_cons.2 ⟨one_plan pk69 Try.func69, ?_⟩
  refine List.forall_mem_cons.2 ⟨one_plan pk73 Try.func73, ?_⟩
  refine List.forall_mem_cons.2 ⟨one_plan pk75 Try.func75, ?_⟩
  refine List.forall_mem_cons.2 ⟨one_plan pk81 Try.func81, ?_⟩
  refine List.forall_mem_cons.2 ⟨one_plan pk90 Try.func90, ?_⟩
  refine List.forall_mem_cons.2 ⟨one_plan pk93 Try.func93, ?_⟩
  refine List.forall_mem_cons.2 ⟨one_plan pk94 Try.func94, ?_⟩
  refine List.forall_mem_cons.2 ⟨one_plan pk96 Try.func96, ?_⟩
  refine List.forall_mem_cons.2 ⟨one_plan pk97 Try.func97, ?_⟩
  refine List.forall_mem_cons.2 ⟨one_plan pk98 Try.func98, ?_⟩
  refine List.forall_mem_cons.2 ⟨one_plan pk100 Try.func100, ?_⟩
  refine List.forall_mem_cons.2 ⟨one_plan pk101 Try.func101, ?_⟩
  refine List.forall_mem_cons.2 ⟨one_plan pk102 Try.func102, ?_⟩
  refine List.forall_mem_cons.2 ⟨one_plan pk103 Try.func103, ?_⟩
  refine List.forall_mem_cons.2 ⟨one_plan pk106 Try.func106, ?_⟩
  refine List.forall_mem_cons.2 ⟨one_plan pk110 Try.func110, ?_⟩
  refine List.forall_mem_cons.2 ⟨one_plan pk111 Try.func111, ?_⟩
  refine List.forall_mem_cons.2 ⟨one_plan pk113 Try.func113, ?_⟩
  refine List.forall_mem_cons.2 ⟨one_plan pk114 Try.func114, ?_⟩
  refine List.forall_mem_cons.2 ⟨one_plan pk120 Try.func120, ?_⟩
  refine List.forall_mem_cons.2 ⟨one_plan pk121 Try.func121, ?_⟩
  refine List.forall_mem_cons.2 ⟨one_plan pk123 Try.func123, ?_⟩
  refine List.forall_mem_cons.2 ⟨one_plan pk125 Try.func125, ?_⟩
  refine List.forall_mem_cons.2 ⟨one_plan pk127 Try.func127, ?_⟩
  refine List.forall_mem_cons.2 ⟨one_plan pk129 Try.func129, ?_⟩
  refine List.forall_mem_cons.2 ⟨one_plan pk130 Try.func130, ?_⟩
  refine List.forall_mem_cons.2 ⟨one_plan pk132 Try.func132, ?_⟩
  refine List.forall_mem_cons.2 ⟨one_plan pk138 Try.func138, ?_⟩
  refine List.forall_mem_cons.2 ⟨one_plan pk139 Try.func139, ?_⟩
  refine List.forall_mem_cons.2 ⟨one_plan pk140 Try.func140, ?_⟩
  refine List.forall_mem_cons.2 ⟨one_plan pk142 Try.func142, ?_⟩
  refine List.forall_mem_cons.2 ⟨one_plan pk143 Try.func143, ?_⟩
  refine List.forall_mem_cons.2 ⟨one_plan pk148 Try.func148, ?_⟩
  refine List.forall_mem_cons.2 ⟨one_plan pk151 Try.func151, ?_⟩
  refine List.forall_mem_cons.2 ⟨one_plan pk154 Try.func154, ?_⟩
  refine List.forall_mem_cons.2 ⟨one_plan pk155 Try.func155, ?_⟩
  refine List.forall_mem_cons.2 ⟨one_plan pk157 Try.func157, ?_⟩
  refine List.forall_mem_cons.2 ⟨one_plan pk158 Try.func158, ?_⟩
  refine List.forall_mem_cons.2 ⟨one_plan pk159 Try.func159, ?_⟩
  refine List.forall_mem_cons.2 ⟨one_plan pk160 Try.func160, ?_⟩
  refine List.forall_mem_cons.2 ⟨one_plan pk170 Try.func170, ?_⟩
  refine List.forall_mem_cons.2 ⟨one_plan pk171 Try.func171, ?_⟩
  refine List.forall_mem_cons.2 ⟨one_plan pk178 Try.func178, ?_⟩
  refine List.forall_mem_cons.2 ⟨one_plan pk179 Try.func179, ?_⟩
  refine List.forall_mem_cons.2 ⟨one_plan pk180 Try.func180, ?_⟩
  refine List.forall_mem_cons.2 ⟨one_plan pk185 Try.func185, ?_⟩
  refine List.forall_mem_cons.2 ⟨one_plan pk189 Try.func189, ?_⟩
  refine List.forall_mem_cons.2 ⟨one_plan pk212 Try.func212, ?_⟩
  refine List.forall_mem_cons.2 ⟨one_plan pk216 Try.func216, ?_⟩
  refine List.forall_mem_cons.2 ⟨one_plan pk217 Try.func217, ?_⟩
  refine List.forall_mem_cons.2 ⟨one_plan pk218 Try.func218, ?_⟩
  refine List.forall_mem_cons.2 ⟨one_plan pk219 Try.func219, ?_⟩
  refine List.forall_mem_cons.2 ⟨one_plan pk225 Try.func225, ?_⟩
  refine List.forall_mem_cons.2 ⟨one_plan pk226 Try.func226, ?_⟩
  refine List.forall_mem_cons.2 ⟨one_plan pk228 Try.func228, ?_⟩
  refine List.forall_mem_cons.2 ⟨one_plan pk230 Try.func230, ?_⟩
  refine List.forall_mem_cons.2 ⟨one_plan pk234 Try.func234, ?_⟩
  refine List.forall_mem_cons.2 ⟨one_plan pk240 Try.func240, ?_⟩
  refine List.forall_mem_cons.2 ⟨one_plan pk241 Try.func241, ?_⟩
  refine List.forall_mem_cons.2 ⟨one_plan pk244 Try.func244, ?_⟩
  exact fun k hk => by simp at hk
theorem noDraw_get (k : Nat) (fn : Func) (c : Code) (hk : Try.prog.funcs[k]? = some fn) (hc : fn.body = some c) : planKs.contains k = true ∨ noDraw c = true := by
  have h1 : k < Try.prog.funcs.size := (Array.getElem?_eq_some_iff.1 hk).1
  have := List.all_eq_true.1 noDraw_ok k (by simpa using h1)
  rw [hk] at this
  simp only [hc, Bool.or_eq_true] at this
  exact this
theorem plans_ok_all (k : Nat) (fn : Func) (c : Code) (hk : Try.prog.funcs[k]? = some fn) (hc : fn.body = some c) : plansB (planT k) c = true := by
  rcases noDraw_get k fn c hk hc with h | h
  · have := plans_get k (by simpa using h) fn hk
    unfold okBody at this
    rw [hc] at this
    exact this
  · exact plansB_noDraw _ c h
theorem tcfg_ok : CfgOK tcfg where
  mixed := by kernel_rfl
  names := names_get
  zero := fun t ht => by
    exact zcheck_ok (List.all_eq_true.1 zTab_ok t (List.mem_range.2 (zOf_lt t ht))) ht
  plans := plans_ok_all
  flds := flds_get
  eq := fun t ks h => by
    have h' : eqTab t = some ks := h
    unfold eqTab at h'
    split at h' <;> first | (cases h'; done) | skip
    all_goals
      simp only [Option.some.injEq] at h'
      subst h'
      exact eqV_ok (by kernel_rfl) (by kernel_rfl) (by kernel_rfl)
end Go.Q
