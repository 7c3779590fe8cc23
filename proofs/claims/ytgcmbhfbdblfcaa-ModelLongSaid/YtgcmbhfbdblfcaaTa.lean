/-
  From the reading of arguments as data to abstract values.
-/
import Derived.Test.YtgcmbhfbdblfcaaQu
import Derived.RowKit3
import Derived.ChangeSame
import Derived.ReadAgain
import Derived.OpenShut
set_option linter.unusedVariables false
set_option linter.unusedSimpArgs false
namespace Go.Q
open Go.Proofs

inductive KT where
  | b
  | i (k : IntKind)
  | s (e sz : Nat)
  | f (ts : List Nat)
  | x
def tilesB (P : Program) : List Field → Nat → Nat → Bool
  | [], o, n => o == n
  | f :: fs, o, n => f.offset == o && tilesB P fs (o + P.cellsOf f.type) n
def kindT (P : Program) (t : TypeId) : KT :=
  match P.underlying t with
  | some .bool => .b
  | some (.int k) => .i k
  | some (.slice e) => .s e (P.cellsOf e)
  | some (.struct fs) => if tilesB P fs.toList 0 (P.cellsOf t) then .f (fs.toList.map (·.type)) else .x
  | some (.array n e) => if n * P.cellsOf e = P.cellsOf t then .f (List.replicate n e) else .x
  | _ => .x
def KT.agg : KT → Bool | .f _ => true | _ => false
/-- An element of a list, out of its cells. -/
def elemP (agg : Bool) (x : List PV) : PV := if agg = true then .agg x else x.headD .any
def IsF (R : Nat → List PV → Prop) : List Nat → List PV → Prop
  | [], cs => cs = []
  | t :: ts, cs => ∃ a c, cs = a ++ c ∧ R t a ∧ IsF R ts c
/-- These cells are those of a value of a type. -/
def IsT (P : Program) : Nat → Nat → List PV → Prop
  | 0, _, _ => False
  | n + 1, t, cs => match kindT P t with
    | .b => ∃ b, cs = [.sc (.bool b)]
    | .i k => ∃ x, cs = [.sc (.int k x)] ∧ (Lit.int k x).wf = true
    | .s e sz => ∃ xs : List (List PV), cs = [.list sz .ro (xs.map (elemP (kindT P e).agg))] ∧ (∀ x ∈ xs, IsT P n e x) ∧ xs.length ≤ maxLen
    | .f ts => IsF (IsT P n) ts cs
    | .x => False
def goodT (P : Program) : Nat → Nat → Bool
  | 0, _ => false
  | n + 1, t => match kindT P t with
    | .b => P.cellsOf t == 1
    | .i _ => P.cellsOf t == 1
    | .s e sz => P.cellsOf t == 1 && decide (0 < sz) && goodT P n e
    | .f ts => ts.all (goodT P n) && ((ts.map (P.cellsOf ·)).sum == P.cellsOf t)
    | .x => false

theorem isF_len {P : Program} {R : Nat → List PV → Prop} (h : ∀ t a, R t a → a.length = P.cellsOf t ∧ ∀ c ∈ a, c.plain = true) : ∀ (ts : List Nat) (cs : List PV), IsF R ts cs → cs.length = (ts.map (P.cellsOf ·)).sum ∧ ∀ c ∈ cs, c.plain = true
  | [], cs, hc => by simp only [IsF] at hc; subst hc; simp
  | t :: ts, cs, hc => by
    obtain ⟨a, c, rfl, h1, h2⟩ := hc
    obtain ⟨l1, p1⟩ := h t a h1
    obtain ⟨l2, p2⟩ := isF_len h ts c h2
    refine ⟨by simp [l1, l2], fun x hx => ?_⟩
    rcases List.mem_append.1 hx with hx | hx
    · exact p1 x hx
    · exact p2 x hx
theorem isT_len {P : Program} : ∀ (n : Nat) (t : Nat) (cs : List PV), goodT P n t = true → IsT P n t cs → cs.length = P.cellsOf t ∧ ∀ c ∈ cs, c.plain = true
  | 0, t, cs, hg, h => by cases hg
  | n + 1, t, cs, hg, h => by
    simp only [IsT, goodT] at h hg
    split at h
    · rename_i hk
      rw [hk] at hg
      obtain ⟨b, rfl⟩ := h
      simp only [beq_iff_eq] at hg
      exact ⟨by rw [hg]; rfl, by simp [PV.plain, Value.oneCell']⟩
    · rename_i k hk
      rw [hk] at hg
      obtain ⟨b, rfl, _⟩ := h
      simp only [beq_iff_eq] at hg
      exact ⟨by rw [hg]; rfl, by simp [PV.plain, Value.oneCell']⟩
    · rename_i e sz hk
      rw [hk] at hg
      obtain ⟨xs, rfl, _⟩ := h
      simp only [Bool.and_eq_true, beq_iff_eq] at hg
      exact ⟨by rw [hg.1.1]; rfl, by simp [PV.plain]⟩
    · rename_i ts hk
      rw [hk] at hg
      simp only [Bool.and_eq_true, beq_iff_eq] at hg
      rw [← hg.2]
      have hall := hg.1
      clear hk hg
      induction ts generalizing cs with
      | nil => simp only [IsF] at h; subst h; simp
      | cons t ts ih =>
        obtain ⟨a, c, rfl, h1, h2⟩ := h
        rw [List.all_cons, Bool.and_eq_true] at hall
        obtain ⟨l1, p1⟩ := isT_len n t a hall.1 h1
        obtain ⟨l2, p2⟩ := ih c h2 hall.2
        refine ⟨by simp [l1, l2], fun x hx => ?_⟩
        rcases List.mem_append.1 hx with hx | hx
        · exact p1 x hx
        · exact p2 x hx
    · cases h
theorem elemP_cells {P : Program} {n t : Nat} {cs : List PV} (hg : goodT P n t = true) (h : IsT P n t cs) : (elemP (kindT P t).agg cs).cells = cs := by
  cases n with
  | zero => cases hg
  | succ n =>
    unfold elemP
    simp only [IsT] at h
    split at h
    · rename_i hk; rw [hk]; obtain ⟨b, rfl⟩ := h; rfl
    · rename_i k hk; rw [hk]; obtain ⟨b, rfl, _⟩ := h; rfl
    · rename_i e sz hk; rw [hk]; obtain ⟨b, rfl, _⟩ := h; rfl
    · rename_i ts hk; rw [hk]; rfl
    · cases h

/-! ### The view at the start -/
def limOf (w : World) (b : Nat) : Nat := match w.heap[b]? with | some (.cells cs _ _) => cs.size | _ => 0
def kap0 (w : World) : Kap where
  base := w.heap.size
  lim := limOf w
  mu := fun _ => none
  perm := fun _ => none
  prot := fun _ => False
  frz := fun _ => False
theorem conc0 (w : World) : Conc (kap0 w) w [] where
  base := Nat.le_refl _
  mu := fun id b h => by cases h
  inj := fun i j b h => by cases h
  box := fun id cs h => by simp at h
  perm := fun h g hg => by cases hg
  pinj := fun h h' g hg => by cases hg
  fresh := fun b hb => by
    show limOf w b = 0
    unfold limOf
    have : w.heap[b]? = none := Array.getElem?_eq_none hb
    rw [this]
  prot := fun b hb => hb.elim
  frzLt := fun id h => h.elim
theorem lim_of_cell {w : World} {a : Addr} {v : Value} (h : w.cell? a = some v) : a.off < limOf w a.block ∧ a.spot = none := by
  unfold World.cell? at h
  unfold limOf
  split at h
  · rename_i c _ _ hc
    rw [hc]
    split at h
    · cases h
    · rename_i hs
      exact ⟨(Array.getElem?_eq_some_iff.1 h).1, by cases hsp : a.spot <;> simp [hsp] at hs ⊢⟩
  · cases h
end Go.Q
