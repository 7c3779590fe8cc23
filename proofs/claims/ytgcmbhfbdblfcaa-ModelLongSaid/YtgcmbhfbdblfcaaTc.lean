/-
  Structs that are compared.
-/
import Derived.Test.YtgcmbhfbdblfcaaTb
import Derived.ChangeKeysEq
set_option linter.unusedVariables false
set_option linter.unusedSimpArgs false
namespace Go.Q
open Go.Proofs Go.WideShapes

def kindsF (P : Program) (K : TypeId → Option (List (Option IntKind))) : List Field → Nat → Option (List (Option IntKind))
  | [], _ => some []
  | f :: fs, o => if f.offset = o ∧ f.name ≠ "_" then
      match K f.type, kindsF P K fs (o + P.cellsOf f.type) with
      | some a, some b => if a.length = P.cellsOf f.type then some (a ++ b) else none
      | _, _ => none
    else none
/-- Which numbers and truths are compared, one behind the other. -/
def kindsE (P : Program) : Nat → TypeId → Option (List (Option IntKind))
  | 0, _ => none
  | d + 1, t => match P.underlying t with
    | some .bool => some [none]
    | some (.int k) => some [some k]
    | some (.struct fs) => if P.stoodInHeld t = false then kindsF P (kindsE P d) fs.toList 0 else none
    | some (.array n e) => match kindsE P d e with
      | some ks => if ks.length = P.cellsOf e then some (List.replicate n ks).flatten else none
      | none => none
    | _ => none
def packE (P : Program) (t : TypeId) (vs : List Value) : Value := if isAggT P t = true then .agg vs.toArray else vs.headD undef

theorem HasK.length {ks : List (Option IntKind)} {vs : List Value} (h : HasK ks vs) : vs.length = ks.length := by
  induction h <;> simp_all
theorem HasK.split : ∀ {a b : List (Option IntKind)} {vs : List Value}, HasK (a ++ b) vs → ∃ u v, vs = u ++ v ∧ HasK a u ∧ HasK b v
  | [], b, vs, h => ⟨[], vs, rfl, .nil, h⟩
  | k :: a, b, vs, h => by
    rw [List.cons_append] at h
    cases h with
    | int n h =>
      obtain ⟨u, v, rfl, h1, h2⟩ := HasK.split h
      exact ⟨_ :: u, v, rfl, .int n h1, h2⟩
    | bool n h =>
      obtain ⟨u, v, rfl, h1, h2⟩ := HasK.split h
      exact ⟨_ :: u, v, rfl, .bool n h1, h2⟩
theorem eqVals_append {ks : List (Option IntKind)} {a a' b b' : List Value} (h : HasK ks a) (h' : HasK ks a') : eqVals (a ++ b) (a' ++ b') = (eqVals a a' && eqVals b b') := by
  induction h generalizing a' with
  | nil => cases h'; simp [eqVals]
  | int n h ih => cases h' with | int m h' => simp only [List.cons_append, eqVals, ih h', Bool.and_assoc]
  | bool n h ih => cases h' with | bool m h' => simp only [List.cons_append, eqVals, ih h', Bool.and_assoc]

section
variable {P : Program} (w : World)
theorem isAgg_run {t : TypeId} {d : TypeDesc} (h : P.underlying t = some d) : (isAgg t).run P w = .ok (isAggT P t) w := by
  unfold isAgg isAggT
  rw [Sem.run_bind, run_underlying h, Result.andThen_ok, h]
  cases d <;> simp
theorem kindsE_under {d : Nat} {t : TypeId} {ks : List (Option IntKind)} (h : kindsE P d t = some ks) : ∃ u, P.underlying t = some u := by
  cases d with
  | zero => cases h
  | succ d =>
    simp only [kindsE] at h
    cases hu : P.underlying t with
    | none => rw [hu] at h; cases h
    | some u => exact ⟨u, rfl⟩
theorem part_run {d : Nat} {t : TypeId} {ks : List (Option IntKind)} (h : kindsE P d t = some ks) (hl : ks.length = P.cellsOf t) (pre a post : List Value) (ha : HasK ks a) :
    (part t (pre ++ (a ++ post)).toArray pre.length).run P w = .ok (packE P t a) w := by
  obtain ⟨u, hu⟩ := kindsE_under h
  obtain ⟨i, hi⟩ := info_of_underlying hu
  have hal : a.length = P.cellsOf t := by rw [ha.length, hl]
  unfold part
  rw [Sem.run_bind, isAgg_run w hu, Result.andThen_ok]
  unfold packE
  cases hag : isAggT P t
  · simp only [Bool.false_eq_true, if_false]
    have h1 : a.length = 1 := by
      cases d with
      | zero => cases h
      | succ d =>
        simp only [kindsE, hu] at h
        simp only [isAggT, hu] at hag
        cases u <;> simp at h hag
        · subst h; rw [ha.length]; rfl
        · subst h; rw [ha.length]; rfl
    obtain ⟨v, rfl⟩ := List.length_eq_one_iff.1 h1
    simp
  · simp only [if_true]
    rw [Sem.run_bind, run_sizeOf w hi, Result.andThen_ok]
    simp [← hal]
theorem eqE : ∀ (d : Nat) (t : TypeId) (ks : List (Option IntKind)), kindsE P d t = some ks → ∀ (m : Nat) (vx vy : List Value), HasK ks vx → HasK ks vy →
    (Op.equalIn (d + m) t (packE P t vx) (packE P t vy)).run P w = .ok (eqVals vx vy) w
  | 0, t, ks, h, _, _, _, _, _ => by cases h
  | d + 1, t, ks, h, m, vx, vy, hx, hy => by
    have ih := eqE d
    rw [show d + 1 + m = (d + m) + 1 by omega]
    obtain ⟨u, hu⟩ := kindsE_under h
    have h0 := h
    simp only [kindsE, hu] at h
    cases u <;> simp only at h <;> try (cases h; done)
    · simp only [Option.some.injEq] at h
      subst h
      cases hx with | bool a hx => cases hx; cases hy with | bool b hy =>
      cases hy
      have : isAggT P t = false := by simp [isAggT, hu]
      simp only [packE, this, Bool.false_eq_true, if_false, List.headD_cons, eqVals, Bool.and_true]
      exact run_equalIn_bool w _ t a b hu
    · simp only [Option.some.injEq] at h
      subst h
      cases hx with | int a hx => cases hx; cases hy with | int b hy =>
      cases hy
      have : isAggT P t = false := by simp [isAggT, hu]
      simp only [packE, this, Bool.false_eq_true, if_false, List.headD_cons, eqVals, Bool.and_true]
      exact run_equalIn_int w _ t _ _ a b hu
    · rename_i n e
      have : isAggT P t = true := by simp [isAggT, hu]
      simp only [packE, this, if_true]
      cases he : kindsE P d e with
      | none => rw [he] at h; cases h
      | some ke =>
        rw [he] at h
        simp only at h
        split at h
        · rename_i hle
          simp only [Option.some.injEq] at h
          subst h
          obtain ⟨ue, hue⟩ := kindsE_under he
          obtain ⟨i, hi⟩ := info_of_underlying hue
          rw [run_equalIn_array w (d + m) _ _ hu hi]
          have key : ∀ (n j : Nat) (pre pre' vx vy : List Value), pre.length = j * P.cellsOf e → pre'.length = j * P.cellsOf e → HasK (List.replicate n ke).flatten vx → HasK (List.replicate n ke).flatten vy →
              (Op.eqItems (d + m) e (P.cellsOf e) (pre ++ vx).toArray (pre' ++ vy).toArray (List.range' j n)).run P w = .ok (eqVals vx vy) w := by
            intro n
            induction n with
            | zero =>
              intro j pre pre' vx vy _ _ hx hy
              cases hx; cases hy
              simp [Op.eqItems, eqVals]
            | succ n ihn =>
              intro j pre pre' vx vy hp hp' hx hy
              rw [List.replicate_succ, List.flatten_cons] at hx hy
              obtain ⟨a, b, rfl, ha, hb⟩ := hx.split
              obtain ⟨a', b', rfl, ha', hb'⟩ := hy.split
              have hal : a.length = P.cellsOf e := by rw [ha.length, hle]
              have hal' : a'.length = P.cellsOf e := by rw [ha'.length, hle]
              rw [List.range'_succ, Op.eqItems]
              have p1 := part_run w he hle pre a b ha
              have p2 := part_run w he hle pre' a' b' ha'
              rw [hp] at p1
              rw [hp'] at p2
              simp only [Sem.run_bind, p1, p2, Result.andThen_ok, ih e ke he m a a' ha ha']
              rw [eqVals_append ha ha']
              cases hq : eqVals a a'
              · simp
              · have := ihn (j + 1) (pre ++ a) (pre' ++ a') b b' (by rw [List.length_append, hp, hal, Nat.add_mul]; omega) (by rw [List.length_append, hp', hal', Nat.add_mul]; omega) hb hb'
                simp only [List.append_assoc] at this
                simpa using this
          have := key n 0 [] [] vx vy (by simp) (by simp) hx hy
          rw [List.range_eq_range']
          simpa using this
        · cases h
    · rename_i fs
      have : isAggT P t = true := by simp [isAggT, hu]
      simp only [packE, this, if_true]
      split at h
      · rename_i hs
        have hf : P.fieldsOf t = fs := by simp [Program.fieldsOf, hu]
        rw [run_equalIn_struct w (d + m) t _ _ (by rw [hf]; exact hu) hs, hf]
        have key : ∀ (l : List Field) (o : Nat) (ks : List (Option IntKind)) (pre pre' vx vy : List Value), kindsF P (kindsE P d) l o = some ks → pre.length = o → pre'.length = o → HasK ks vx → HasK ks vy →
            (Op.eqFields (d + m) (pre ++ vx).toArray (pre' ++ vy).toArray l).run P w = .ok (eqVals vx vy) w := by
          intro l
          induction l with
          | nil =>
            intro o ks pre pre' vx vy hk _ _ hx hy
            simp only [kindsF, Option.some.injEq] at hk
            subst hk
            cases hx; cases hy
            simp [Op.eqFields, eqVals]
          | cons f l ihl =>
            intro o ks pre pre' vx vy hk hp hp' hx hy
            simp only [kindsF] at hk
            split at hk
            · rename_i hc
              obtain ⟨ho, hn⟩ := hc
              split at hk
              · rename_i ka kb hka hkb
                split at hk
                · rename_i hle
                  simp only [Option.some.injEq] at hk
                  subst hk
                  obtain ⟨a, b, rfl, ha, hb⟩ := hx.split
                  obtain ⟨a', b', rfl, ha', hb'⟩ := hy.split
                  have p1 := part_run w hka hle pre a b ha
                  have p2 := part_run w hka hle pre' a' b' ha'
                  rw [hp, ← ho] at p1
                  rw [hp', ← ho] at p2
                  simp only [Op.eqFields, hn, ne_eq, not_false_eq_true, if_true, Sem.run_bind, p1, p2, Result.andThen_ok, ih f.type ka hka m a a' ha ha']
                  rw [eqVals_append ha ha']
                  cases hq : eqVals a a'
                  · simp
                  · have := ihl (o + P.cellsOf f.type) kb (pre ++ a) (pre' ++ a') b b' hkb (by rw [List.length_append, hp, ha.length, hle]) (by rw [List.length_append, hp', ha'.length, hle]) hb hb'
                    simp only [List.append_assoc] at this
                    simpa using this
                · cases hk
              · cases hk
            · cases hk
        exact key fs.toList 0 ks [] [] vx vy h rfl rfl hx hy
      · cases h
end
end Go.Q
