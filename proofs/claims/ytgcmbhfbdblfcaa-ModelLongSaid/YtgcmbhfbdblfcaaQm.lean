/-
  Calls as deep as they go, and the rounds of loops, by equations.
-/
import Derived.Test.YtgcmbhfbdblfcaaQl
set_option linter.unusedVariables false
set_option linter.unusedSimpArgs false
namespace Go.Q

abbrev CallF := FuncId → List PV → List (List PV) → Option Out

/-! ### An evaluation asks for finitely many calls -/
def Has (L : List ((FuncId × List PV × List (List PV)) × Out)) (call : CallF) : Prop := ∀ e ∈ L, call e.1.1 e.1.2.1 e.1.2.2 = some e.2
def Fin_ {β : Type} (F : CallF → Option β) : Prop := ∀ call r, F call = some r → ∃ L, Has L call ∧ ∀ call', Has L call' → F call' = some r

theorem Fin_.const {β : Type} (r : Option β) : Fin_ fun _ => r := fun call r h => ⟨[], fun e he => by simp at he, fun _ _ => h⟩
theorem Fin_.bind {α β : Type} {F : CallF → Option α} {G : α → CallF → Option β} (h : Fin_ F) (k : ∀ x, Fin_ (G x)) : Fin_ fun c => (F c).bind fun x => G x c := by
  intro call r hr
  cases hF : F call with
  | none => simp [hF] at hr
  | some x =>
    simp only [hF, Option.bind_some] at hr
    obtain ⟨L, h1, h2⟩ := h call x hF
    obtain ⟨M, k1, k2⟩ := k x call r hr
    refine ⟨L ++ M, fun e he => ?_, fun call' hc => ?_⟩
    · rcases List.mem_append.1 he with he | he
      · exact h1 e he
      · exact k1 e he
    · have e1 := h2 call' fun e he => hc e (List.mem_append_left _ he)
      have e2 := k2 call' fun e he => hc e (List.mem_append_right _ he)
      simp only [e1, Option.bind_some, e2]
theorem Fin_.of_eq {β : Type} {F G : CallF → Option β} (h : Fin_ F) (e : ∀ c, G c = F c) : Fin_ G := by
  have : G = F := funext e
  rw [this]; exact h
theorem Fin_.call (k : FuncId) (a : List PV) (B : List (List PV)) : Fin_ fun c => c k a B := fun call r h =>
  ⟨[((k, a, B), r)], fun e he => (by simp only [List.mem_singleton] at he; subst he; exact h), fun call' hc => hc _ (List.mem_singleton_self _)⟩
theorem Fin_.map {α β : Type} {F : CallF → Option α} (g : α → β) (h : Fin_ F) : Fin_ fun c => (F c).map g :=
  (h.bind fun x => Fin_.const (some (g x))).of_eq fun c => by cases F c <;> rfl

theorem callOp_fin (C : Cfg) (d : Nat) (s : St) (k : FuncId) (args : List PV) : Fin_ fun c => callOp C c d s k args := by
  refine ((Fin_.call k (asArgs (C.cons k) 0 args) (unhold (usedTags (C.cons k) 0 args) s.B)).bind (G := fun o _ =>
    if (o.mods.all (fun id => !s.fz.contains id) && noDup (usedTags (C.cons k) 0 args)) = true then
    some (importR d o.r, { s.off (fun h => ((usedTags (C.cons k) 0 args).contains h && h.lin) || (match h with | .slot d' _ => d' == d | .cell id _ => o.mods.contains id || (cellIds (usedTags (C.cons k) 0 args)).contains id || decide (s.B.length ≤ id) | _ => false)) with B := o.B, mods := (o.mods ++ cellIds (usedTags (C.cons k) 0 args)) ++ s.mods })
    else none) fun o => .const _).of_eq fun c => ?_
  unfold callOp
  cases c k (asArgs (C.cons k) 0 args) (unhold (usedTags (C.cons k) 0 args) s.B) <;> rfl

theorem stepOp_fin (C : Cfg) (fid : Nat) (o : Oper) (s : St) : Fin_ fun c => stepOp C c fid o s := by
  obtain ⟨dst, op, ty, pos, aft, gd⟩ := o
  cases op with
  | call c =>
    obtain ⟨callee, args, argTypes⟩ := c
    cases callee with
    | value f =>
      cases f with
      | func k => exact callOp_fin C _ s k _
      | tmp t =>
        cases hf : s.f.getD t .any with
        | fn k cap => exact (callOp_fin C (dst.getD 0) s k (args.toList.map (opv s.f) ++ cap.map PV.flat)).of_eq fun c => by simp only [stepOp, hf]
        | _ => exact (Fin_.const none).of_eq fun c => by simp only [stepOp, hf]
      | _ => exact .const _
    | builtin b => cases b <;> exact .const _
    | _ => exact .const _
  | slice t x lo hi mx => exact .const _
  | _ => exact .const _

theorem guardOp_fin (C : Cfg) (fid : Nat) (ops : Array Oper) (o : Oper) (s : St) : Fin_ fun c => guardOp C c fid ops o s := by
  have one : Fin_ fun c => (stepOp C c fid o s).map fun r => r.2.put o.dst r.1 := (stepOp_fin C fid o s).map _
  unfold guardOp
  split
  · exact one
  · split
    · split
      · exact one
      · exact .const _
    · exact .const _
    · exact .const _

theorem runOps_fin (C : Cfg) (fid : Nat) (ops : Array Oper) : ∀ (l : List Oper) (s : St), Fin_ fun c => runOps C c fid ops l s
  | [], s => (Fin_.const (some s)).of_eq fun c => by simp only [runOps]
  | o :: l, s => ((guardOp_fin C fid ops o s).bind fun s' => runOps_fin C fid ops l s').of_eq fun c => by
      simp only [runOps]
      cases guardOp C c fid ops o s <;> rfl

theorem joinAlts_fin {b : Bool} {F G : CallF → Option (St × List Nat)} (h : Fin_ F) (k : Fin_ G) : Fin_ fun c => joinAlts b (F c) (G c) := by
  cases b with
  | true => exact h.of_eq fun c => by simp only [joinAlts]
  | false =>
    refine (h.bind (G := fun x c => (G c).bind fun y => joinAlts false (some x) (some y)) fun x => k.bind fun y => .const _).of_eq fun c => ?_
    cases F c with
    | none => simp [joinAlts]
    | some x => cases G c with
      | none => simp [joinAlts]
      | some y => rfl

mutual
theorem runPlan_fin (C : Cfg) (fid : Nat) (ops : Array Oper) : ∀ (p : Plan) (s : St), Fin_ fun c => runPlan C c fid ops p s
  | .done, s => (Fin_.const (some (s, []))).of_eq fun c => by simp only [runPlan]
  | .take i p, s => by
    cases ho : ops[i]? with
    | none => exact (Fin_.const none).of_eq fun c => by simp only [runPlan, ho]
    | some o =>
      by_cases hk : (pureKind o || isLoad o) = true
      · refine ((guardOp_fin C fid ops o s).bind (G := fun s' c => (runPlan C c fid ops p s').map fun r => (r.1, (loadId s.f o).toList ++ r.2)) fun s' => (runPlan_fin C fid ops p s').map _).of_eq fun c => ?_
        simp only [runPlan, ho, hk, if_true]
        cases guardOp C c fid ops o s <;> rfl
      · exact (Fin_.const none).of_eq fun c => by simp only [runPlan, ho, hk]; rfl
  | .alt l, s => (runAlts_fin C fid ops l s).of_eq fun c => by simp only [runPlan]
theorem runAlts_fin (C : Cfg) (fid : Nat) (ops : Array Oper) : ∀ (l : List (Nat × Plan)) (s : St), Fin_ fun c => runAlts C c fid ops l s
  | [], s => (Fin_.const none).of_eq fun c => by simp only [runAlts]
  | (i, p) :: l, s => by
    have h1 : Fin_ fun c => (match ops[i]? with
      | some o => match guardOp C c fid ops o s with
        | some s' => runPlan C c fid ops p s'
        | none => none
      | none => none) := by
      cases ho : ops[i]? with
      | none => exact .const _
      | some o => exact ((guardOp_fin C fid ops o s).bind fun s' => runPlan_fin C fid ops p s').of_eq fun c => (by
          show (match guardOp C c fid ops o s with | some s' => runPlan C c fid ops p s' | none => none) = _
          cases guardOp C c fid ops o s <;> rfl)
    exact (joinAlts_fin (b := l.isEmpty) h1 (runAlts_fin C fid ops l s)).of_eq fun c => by simp only [runAlts]; rfl
end

theorem runDraw_fin (C : Cfg) (fid id : Nat) (ops : Array Oper) (s : St) : Fin_ fun c => runDraw C c fid id ops s := by
  refine ((runPlan_fin C fid ops (C.plan fid id) s).bind (G := fun r _ => if r.2.all (fun x => !(newMods s r.1).contains x) = true then some r.1 else none) fun r => .const _).of_eq fun c => ?_
  unfold runDraw
  cases runPlan C c fid ops (C.plan fid id) s <;> rfl

/-! ### Rounds -/
theorem loopN_more {body : St → R} : ∀ {n : Nat} {s : St} {r : Ex × St}, loopN body n s = some r → ∀ m, n ≤ m → loopN body m s = some r
  | 0, s, r, h, m, hm => by simp [loopN] at h
  | n + 1, s, r, h, 0, hm => by omega
  | n + 1, s, r, h, m + 1, hm => by
    simp only [loopN] at h ⊢
    cases hb : body s with
    | none => rw [hb] at h; exact h
    | some x =>
      obtain ⟨ex, s'⟩ := x
      rw [hb] at h
      cases ex with
      | normal => exact loopN_more (n := n) h m (by omega)
      | exit id => exact h
      | ret => exact h

theorem loopW_of {body : St → R} {n : Nat} {s : St} {r : Ex × St} (h : loopN body n s = some r) : loopW body s = some r := by
  unfold loopW
  have hex : ∃ n, (loopN body n s).isSome = true := ⟨n, by rw [h]; rfl⟩
  rw [dif_pos hex]
  obtain ⟨r', hr'⟩ := Option.isSome_iff_exists.1 hex.choose_spec
  have h1 := loopN_more hr' (max n hex.choose) (Nat.le_max_right ..)
  have h2 := loopN_more h (max n hex.choose) (Nat.le_max_left ..)
  rw [hr', ← h1, h2]

theorem loopW_none {body : St → R} {s : St} (h : ∀ n, loopN body n s = none) : loopW body s = none := by
  unfold loopW
  rw [dif_neg]
  rintro ⟨n, hn⟩
  rw [h n] at hn
  cases hn

/-- **One round.** -/
theorem loopW_eq (body : St → R) (s : St) : loopW body s = match body s with
    | some (.normal, s') => loopW body s'
    | r => r := by
  cases hb : body s with
  | none => exact loopW_none fun n => by cases n <;> simp [loopN, hb]
  | some x =>
    obtain ⟨ex, s'⟩ := x
    cases ex with
    | normal =>
      simp only
      cases hl : loopW body s' with
      | some r =>
        obtain ⟨n, hn⟩ := loopW_some hl
        exact loopW_of (n := n + 1) (by simp [loopN, hb, hn])
      | none =>
        refine loopW_none fun n => ?_
        cases n with
        | zero => rfl
        | succ n =>
          simp only [loopN, hb]
          cases hn : loopN body n s' with
          | none => rfl
          | some r => rw [loopW_of hn] at hl; cases hl
    | exit id => exact loopW_of (n := 1) (by simp [loopN, hb])
    | ret => exact loopW_of (n := 1) (by simp [loopN, hb])

theorem loopW_go {body : St → R} {s s' : St} (h : body s = some (.normal, s')) : loopW body s = loopW body s' := by rw [loopW_eq, h]
theorem loopW_ret {body : St → R} {s s' : St} (h : body s = some (.ret, s')) : loopW body s = some (.ret, s') := by rw [loopW_eq, h]
theorem loopW_exit {body : St → R} {s s' : St} {id : Nat} (h : body s = some (.exit id, s')) : loopW body s = some (.exit id, s') := by rw [loopW_eq, h]

theorem loopN_fin {body : CallF → St → R} (h : ∀ s, Fin_ fun c => body c s) : ∀ (n : Nat) (s : St), Fin_ fun c => loopN (body c) n s
  | 0, s => .const _
  | n + 1, s => by
    refine ((h s).bind (G := fun r c => match r with | (.normal, s') => loopN (body c) n s' | r => some r) fun r => ?_).of_eq fun c => ?_
    · obtain ⟨ex, s'⟩ := r
      cases ex with
      | normal => exact loopN_fin h n s'
      | exit id => exact .const _
      | ret => exact .const _
    · simp only [loopN]
      cases body c s with
      | none => rfl
      | some r => obtain ⟨ex, s'⟩ := r; cases ex <;> rfl

theorem loopW_fin {body : CallF → St → R} (h : ∀ s, Fin_ fun c => body c s) (s : St) : Fin_ fun c => loopW (body c) s := by
  intro call r hr
  obtain ⟨n, hn⟩ := loopW_some hr
  obtain ⟨L, h1, h2⟩ := loopN_fin h n s call r hn
  exact ⟨L, h1, fun call' hc => loopW_of (h2 call' hc)⟩

theorem evalCode_fin (C : Cfg) (fid : Nat) : ∀ (c : Code) (bid : Nat) (s : St), Fin_ fun call => evalCode C call fid c bid s := by
  intro c
  induction c with
  | region id ops draw =>
    intro bid s
    cases draw with
    | true => exact ((runDraw_fin C fid id ops s).map fun s' => (Ex.normal, s')).of_eq fun c => by simp only [evalCode, if_true]
    | false => exact ((runOps_fin C fid ops ops.toList s).map fun s' => (Ex.normal, s')).of_eq fun c => by simp only [evalCode, Bool.false_eq_true, if_false]
  | seq a b iha ihb =>
    intro bid s
    refine ((iha bid s).bind (G := fun r c => match r with | (.normal, s') => evalCode C c fid b bid s' | r => some r) fun r => ?_).of_eq fun c => ?_
    · obtain ⟨ex, s'⟩ := r
      cases ex with
      | normal => exact ihb bid s'
      | exit id => exact .const _
      | ret => exact .const _
    · simp only [evalCode]
      cases evalCode C c fid a bid s with
      | none => rfl
      | some r => obtain ⟨ex, s'⟩ := r; cases ex <;> rfl
  | cond c a b iha ihb =>
    intro bid s
    cases ho : opv s.f c with
    | sc v =>
      cases v with
      | bool t =>
        cases t with
        | true => exact (iha bid s).of_eq fun c => by simp only [evalCode, ho, if_true]
        | false => exact (ihb bid s).of_eq fun c => by simp only [evalCode, ho, Bool.false_eq_true, if_false]
      | _ => exact (Fin_.const none).of_eq fun c => by simp only [evalCode, ho]
    | _ => exact (Fin_.const none).of_eq fun c => by simp only [evalCode, ho]
  | block id body ih =>
    intro bid s
    refine ((ih id s).bind (G := fun r _ => match r with | (.exit j, s') => if j = id then some (.normal, s') else some (.exit j, s') | r => some r) fun r => .const _).of_eq fun c => ?_
    simp only [evalCode]
    cases evalCode C c fid body id s with
    | none => rfl
    | some r => obtain ⟨ex, s'⟩ := r; cases ex <;> rfl
  | loop body ih =>
    intro bid s
    refine (loopW_fin (body := fun call s1 => match evalCode C call fid body bid s1 with
      | some (.normal, s') => some (.normal, endRound (C.kill fid bid) s1.B.length s1.mods s')
      | r => r) (fun s1 => ?_) (forget (C.kill fid bid) s)).of_eq fun c => by simp only [evalCode]; rfl
    refine ((ih bid s1).bind (G := fun r _ => match r with | (.normal, s') => some (.normal, endRound (C.kill fid bid) s1.B.length s1.mods s') | r => some r) fun r => .const _).of_eq fun c => ?_
    cases evalCode C c fid body bid s1 with
    | none => rfl
    | some r => obtain ⟨ex, s'⟩ := r; cases ex <;> rfl
  | _ => intro bid s; exact (Fin_.const _).of_eq fun c => by simp only [evalCode]; rfl

theorem evalFn_fin (C : Cfg) (k : FuncId) (args : List PV) (B : List (List PV)) : Fin_ fun call => evalFn C call k args B := by
  unfold evalFn
  split
  · exact .const _
  · split
    · exact .const _
    · split
      · exact .const _
      · rename_i fn _ _ c _
        refine ((evalCode_fin C k c 0 { f := args ++ List.replicate (fn.ntmps - args.length) .any, B := B, fz := [], mods := [] }).bind (G := fun r _ => match r with
          | (.normal, s) => declR ((C.decl k).map (declIds args)) (results C fn k B.length s)
          | (.ret, s) => declR ((C.decl k).map (declIds args)) (results C fn k B.length s)
          | _ => none) fun r => .const _).of_eq fun call => ?_
        cases evalCode C call k c 0 { f := args ++ List.replicate (fn.ntmps - args.length) .any, B := B, fz := [], mods := [] } with
        | none => rfl
        | some r => obtain ⟨ex, s'⟩ := r; cases ex <;> rfl

/-! ### Calls -/
noncomputable def callN (C : Cfg) : Nat → CallF
  | 0 => fun _ _ _ => none
  | n + 1 => evalFn C (callN C n)

theorem evalFn_le {C : Cfg} {c c' : CallF} (h : ∀ k a B o, c k a B = some o → c' k a B = some o) : ∀ k a B o, evalFn C c k a B = some o → evalFn C c' k a B = some o := fun k a B o he => by
  obtain ⟨L, h1, h2⟩ := evalFn_fin C k a B c o he
  exact h2 c' fun e hm => h _ _ _ _ (h1 e hm)
theorem callN_succ (C : Cfg) : ∀ n k a B o, callN C n k a B = some o → callN C (n + 1) k a B = some o
  | 0, k, a, B, o, h => by simp [callN] at h
  | n + 1, k, a, B, o, h => evalFn_le (callN_succ C n) k a B o h
theorem callN_more {C : Cfg} {n : Nat} {k : FuncId} {a : List PV} {B : List (List PV)} {o : Out} (h : callN C n k a B = some o) : ∀ m, n ≤ m → callN C m k a B = some o := by
  intro m hm
  induction hm with
  | refl => exact h
  | step _ ih => exact callN_succ C _ k a B o ih

open Classical in
noncomputable def callW (C : Cfg) : CallF := fun k a B => if h : ∃ n, (callN C n k a B).isSome = true then callN C h.choose k a B else none

theorem callW_some {C : Cfg} {k : FuncId} {a : List PV} {B : List (List PV)} {o : Out} (h : callW C k a B = some o) : ∃ n, callN C n k a B = some o := by
  unfold callW at h
  split at h
  · exact ⟨_, h⟩
  · cases h
theorem callW_of {C : Cfg} {n : Nat} {k : FuncId} {a : List PV} {B : List (List PV)} {o : Out} (h : callN C n k a B = some o) : callW C k a B = some o := by
  unfold callW
  have hex : ∃ n, (callN C n k a B).isSome = true := ⟨n, by rw [h]; rfl⟩
  rw [dif_pos hex]
  obtain ⟨r', hr'⟩ := Option.isSome_iff_exists.1 hex.choose_spec
  have h1 := callN_more hr' (max n hex.choose) (Nat.le_max_right ..)
  have h2 := callN_more h (max n hex.choose) (Nat.le_max_left ..)
  rw [hr', ← h1, h2]

/-- **What a function's text comes to is what calling it comes to.** -/
theorem callW_fn {C : Cfg} {k : FuncId} {a : List PV} {B : List (List PV)} {o : Out} (h : evalFn C (callW C) k a B = some o) : callW C k a B = some o := by
  obtain ⟨L, h1, h2⟩ := evalFn_fin C k a B (callW C) o h
  have : ∃ N, Has L (callN C N) := by
    clear h2
    induction L with
    | nil => exact ⟨0, fun e he => by simp at he⟩
    | cons e L ih =>
      obtain ⟨N, hN⟩ := ih fun e he => h1 e (List.mem_cons_of_mem _ he)
      obtain ⟨n, hn⟩ := callW_some (h1 e (List.mem_cons_self ..))
      refine ⟨max n N, fun e' he' => ?_⟩
      rcases List.mem_cons.1 he' with rfl | he'
      · exact callN_more hn _ (Nat.le_max_left ..)
      · exact callN_more (hN e' he') _ (Nat.le_max_right ..)
  obtain ⟨N, hN⟩ := this
  exact callW_of (n := N + 1) (h2 _ hN)

theorem callN_grow {C : Cfg} (hp : PrimGrow C) : ∀ n, CallGrow (callN C n)
  | 0 => fun k a B o h => by simp [callN] at h
  | n + 1 => fun k a B o h => evalFn_grow hp (callN_grow hp n) h
theorem callN_ok {C : Cfg} (hC : CfgOK C) (hp : PrimGrow C) (hprim : PrimOK C) : ∀ n, CallsOK C (callN C n)
  | 0 => fun k a B o h => by simp [callN] at h
  | n + 1 => fun k a B o h => evalFn_ok hC hprim (callN_ok hC hp hprim n) (callN_grow hp n) h

/-- **What calling a function comes to, by the evaluator, is what it does in the model.** -/
theorem callW_ok {C : Cfg} (hC : CfgOK C) (hp : PrimGrow C) (hprim : PrimOK C) : CallsOK C (callW C) := fun k a B o h => by
  obtain ⟨n, hn⟩ := callW_some h
  exact callN_ok hC hp hprim n k a B o hn
end Go.Q
