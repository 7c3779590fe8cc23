/-
  Abstract values, the relation between abstract values and values in memory, and that it is kept when memory grows.
-/
import Derived.WalkKit
import Derived.KernelRfl
set_option linter.unusedVariables false
set_option linter.unusedSimpArgs false
namespace Go.Q

/-- What a list value is allowed: 'ro' nothing, 'full' an append makes a new row in any case, 'slot' or 'cell': the named holder alone may append in place. -/
inductive Tag where
  | ro | full
  | slot (d k : Nat)
  | cell (id off : Nat)
  deriving DecidableEq

/-- An abstract value. -/
inductive PV where
  | any
  | sc (v : Value)
  | list (sz : Nat) (t : Tag) (xs : List PV)
  | arr (id n : Nat)
  | ptr (id off : Nat)
  | eptr (cs : List PV)
  | fn (f : FuncId) (cap : List PV)
  | agg (cs : List PV)
  | tuple (vs : List PV)
  deriving Inhabited

def PV.cells : PV → List PV
  | .agg cs => cs
  | p => [p]

/-- What may stand in a cell of a row that is never written again. -/
def PV.plain : PV → Bool
  | .sc v => v.oneCell'
  | .list _ t _ => t == .ro
  | .ptr _ _ => true
  | .eptr _ => true
  | .fn _ _ => true
  | _ => false

def PV.okElem (sz : Nat) (x : PV) : Bool := x.cells.length == sz && x.cells.all PV.plain

structure Kap where
  base : Nat
  lim : Nat → Nat
  mu : Nat → Option Nat
  perm : Tag → Option Nat
  prot : Nat → Prop
  frz : Nat → Prop

/-- 'p' is what value 'v' means in world 'w'. -/
inductive Rep (κ : Kap) (w : World) : PV → Value → Prop where
  | any (v : Value) : Rep κ w .any v
  | sc (v : Value) : Rep κ w (.sc v) v
  | list (sz : Nat) (t : Tag) (xs : List PV) (a : Option Addr) (cap b off : Nat) (vs : List Value)
      (hpos : 0 < sz) (hok : ∀ x ∈ xs, x.okElem sz = true) (hcap : xs.length ≤ cap) (hmax : cap ≤ maxLen) (hfull : t = .full → cap = xs.length)
      (ha : xs ≠ [] → a = some ⟨b, off, none⟩) (hl : (xs.flatMap PV.cells).length = vs.length)
      (hc : ∀ (i : Nat) v, vs[i]? = some v → off + i < κ.lim b ∧ w.cell? ⟨b, off + i, none⟩ = some v)
      (hr : ∀ (i : Nat) c v, (xs.flatMap PV.cells)[i]? = some c → vs[i]? = some v → Rep κ w c v) :
      Rep κ w (.list sz t xs) (.slice a xs.length cap)
  | arr (id n b : Nat) (h : κ.mu id = some b) (hn : n ≤ maxLen) : Rep κ w (.arr id n) (.slice (some ⟨b, 0, none⟩) n n)
  | ptr (id off b : Nat) (h : κ.mu id = some b) : Rep κ w (.ptr id off) (.pointer (some ⟨b, off, none⟩))
  | eptr (cs : List PV) (b off : Nat) (vs : List Value) (hok : ∀ c ∈ cs, c.plain = true) (hl : cs.length = vs.length)
      (hc : ∀ (i : Nat) v, vs[i]? = some v → off + i < κ.lim b ∧ w.cell? ⟨b, off + i, none⟩ = some v)
      (hr : ∀ (i : Nat) c v, cs[i]? = some c → vs[i]? = some v → Rep κ w c v) : Rep κ w (.eptr cs) (.pointer (some ⟨b, off, none⟩))
  | fn (f : FuncId) (cap : List PV) (vs : List Value) (hl : cap.length = vs.length)
      (hr : ∀ (i : Nat) c v, cap[i]? = some c → vs[i]? = some v → Rep κ w c v) : Rep κ w (.fn f cap) (.func (.func f) #[] vs.toArray)
  | agg (cs : List PV) (vs : List Value) (hl : cs.length = vs.length)
      (hr : ∀ (i : Nat) c v, cs[i]? = some c → vs[i]? = some v → Rep κ w c v) : Rep κ w (.agg cs) (.agg vs.toArray)
  | tuple (cs : List PV) (vs : List Value) (hl : cs.length = vs.length)
      (hr : ∀ (i : Nat) c v, cs[i]? = some c → vs[i]? = some v → Rep κ w c v) : Rep κ w (.tuple cs) (.tuple vs.toArray)

structure Reps (κ : Kap) (w : World) (cs : List PV) (vs : List Value) : Prop where
  len : cs.length = vs.length
  at_ : ∀ (i : Nat) c v, cs[i]? = some c → vs[i]? = some v → Rep κ w c v

/-- Memory has grown: what was laid down for good is as it was. -/
structure Le (κ : Kap) (w : World) (κ' : Kap) (w' : World) : Prop where
  lim : ∀ b, κ.lim b ≤ κ'.lim b
  cell : ∀ b o v, o < κ.lim b → w.cell? ⟨b, o, none⟩ = some v → w'.cell? ⟨b, o, none⟩ = some v
  mu : ∀ id b, κ.mu id = some b → κ'.mu id = some b

theorem Le.refl (κ : Kap) (w : World) : Le κ w κ w := ⟨fun _ => Nat.le_refl _, fun _ _ _ _ h => h, fun _ _ h => h⟩
theorem Le.trans {κ κ' κ'' : Kap} {w w' w'' : World} (h : Le κ w κ' w') (k : Le κ' w' κ'' w'') : Le κ w κ'' w'' :=
  ⟨fun b => Nat.le_trans (h.lim b) (k.lim b), fun b o v ho hv => k.cell b o v (Nat.lt_of_lt_of_le ho (h.lim b)) (h.cell b o v ho hv), fun id b hb => k.mu id b (h.mu id b hb)⟩

theorem Rep.mono {κ κ' : Kap} {w w' : World} {p : PV} {v : Value} (h : Rep κ w p v) (k : Le κ w κ' w') : Rep κ' w' p v := by
  induction h with
  | any v => exact .any v
  | sc v => exact .sc v
  | list sz t xs a cap b off vs hpos hok hcap hmax hfull ha hl hc hr ih =>
    exact .list sz t xs a cap b off vs hpos hok hcap hmax hfull ha hl (fun i v hv => ⟨Nat.lt_of_lt_of_le (hc i v hv).1 (k.lim b), k.cell _ _ _ (hc i v hv).1 (hc i v hv).2⟩) ih
  | arr id n b h hn => exact .arr id n b (k.mu _ _ h) hn
  | ptr id off b h => exact .ptr id off b (k.mu _ _ h)
  | eptr cs b off vs hok hl hc hr ih =>
    exact .eptr cs b off vs hok hl (fun i v hv => ⟨Nat.lt_of_lt_of_le (hc i v hv).1 (k.lim b), k.cell _ _ _ (hc i v hv).1 (hc i v hv).2⟩) ih
  | fn f cap vs hl hr ih => exact .fn f cap vs hl ih
  | agg cs vs hl hr ih => exact .agg cs vs hl ih
  | tuple cs vs hl hr ih => exact .tuple cs vs hl ih

theorem Reps.mono {κ κ' : Kap} {w w' : World} {p : List PV} {v : List Value} (h : Reps κ w p v) (k : Le κ w κ' w') : Reps κ' w' p v :=
  ⟨h.len, fun i c v hc hv => (h.at_ i c v hc hv).mono k⟩

/-! ### Where a tagged list stands in a value -/
inductive Occ : PV → Value → Nat → Tag → Value → Prop where
  | here {sz : Nat} {t : Tag} {xs : List PV} {v : Value} : Occ (.list sz t xs) v sz t v
  | agg {cs : List PV} {vs : Array Value} {i : Nat} {c : PV} {u : Value} {sz : Nat} {t : Tag} {v : Value} (hc : cs[i]? = some c) (hv : vs[i]? = some u) (h : Occ c u sz t v) : Occ (.agg cs) (.agg vs) sz t v
  | tuple {cs : List PV} {vs : Array Value} {i : Nat} {c : PV} {u : Value} {sz : Nat} {t : Tag} {v : Value} (hc : cs[i]? = some c) (hv : vs[i]? = some u) (h : Occ c u sz t v) : Occ (.tuple cs) (.tuple vs) sz t v

/-- The holder of a list may append to it in place: there is no room at all, or the list ends where the row's written part ends. -/
def TagOK (κ : Kap) (w : World) (t : Tag) (sz : Nat) (v : Value) : Prop :=
  match t with
  | .ro | .full => True
  | h => ∀ a len cap, v = .slice a len cap → match κ.perm h with
    | none => cap = len
    | some g => a = some ⟨g, 0, none⟩ ∧ len * sz = κ.lim g ∧ ∃ cs e, w.heap[g]? = some (.cells cs e (0, 0)) ∧ cap * sz ≤ cs.size

def TagsOK (κ : Kap) (w : World) (p : PV) (v : Value) : Prop := ∀ sz t u, Occ p v sz t u → TagOK κ w t sz u

mutual
def PV.retag (g : Tag → Tag) : PV → PV
  | .list sz t xs => .list sz (g t) xs
  | .agg cs => .agg (PV.retagL g cs)
  | .tuple cs => .tuple (PV.retagL g cs)
  | .any => .any
  | .sc v => .sc v
  | .arr id n => .arr id n
  | .ptr id off => .ptr id off
  | .eptr cs => .eptr cs
  | .fn f cap => .fn f cap
def PV.retagL (g : Tag → Tag) : List PV → List PV
  | [] => []
  | c :: cs => c.retag g :: PV.retagL g cs
end

theorem PV.retagL_eq (g : Tag → Tag) : ∀ cs, PV.retagL g cs = cs.map (PV.retag g)
  | [] => by simp [PV.retagL]
  | c :: cs => by simp [PV.retagL, PV.retagL_eq g cs]

/-- A tag is turned into one that asks less: 'full' is turned into nothing else, or the list is full. -/
theorem Rep.retag {κ : Kap} {w : World} (g : Tag → Tag) (hg : ∀ t, g t = .full → t = .full) {p : PV} {v : Value} (h : Rep κ w p v) : Rep κ w (p.retag g) v := by
  induction h with
  | any v => simp only [PV.retag]; exact .any v
  | sc v => simp only [PV.retag]; exact .sc v
  | list sz t xs a cap b off vs hpos hok hcap hmax hfull ha hl hc hr ih =>
    simp only [PV.retag]
    exact .list sz (g t) xs a cap b off vs hpos hok hcap hmax (fun e => hfull (hg _ e)) ha hl hc hr
  | arr id n b h hn => simp only [PV.retag]; exact .arr id n b h hn
  | ptr id off b h => simp only [PV.retag]; exact .ptr id off b h
  | eptr cs b off vs hok hl hc hr ih => simp only [PV.retag]; exact .eptr cs b off vs hok hl hc hr
  | fn f cap vs hl hr ih => simp only [PV.retag]; exact .fn f cap vs hl hr
  | agg cs vs hl hr ih =>
    simp only [PV.retag, PV.retagL_eq]
    refine .agg _ vs (by simpa using hl) fun i c v hc hv => ?_
    rw [List.getElem?_map] at hc
    obtain ⟨c0, hc0, rfl⟩ := Option.map_eq_some_iff.1 hc
    exact ih i c0 v hc0 hv
  | tuple cs vs hl hr ih =>
    simp only [PV.retag, PV.retagL_eq]
    refine .tuple _ vs (by simpa using hl) fun i c v hc hv => ?_
    rw [List.getElem?_map] at hc
    obtain ⟨c0, hc0, rfl⟩ := Option.map_eq_some_iff.1 hc
    exact ih i c0 v hc0 hv

theorem Occ.of_retag (g : Tag → Tag) {q : PV} {v : Value} {sz : Nat} {t : Tag} {u : Value} (h : Occ q v sz t u) : ∀ p, q = p.retag g → ∃ t0, Occ p v sz t0 u ∧ t = g t0 := by
  induction h with
  | here =>
    intro p hp
    cases p <;> simp only [PV.retag] at hp <;> try (cases hp)
    exact ⟨_, .here, rfl⟩
  | agg hc hv h ih =>
    intro p hp
    cases p <;> simp only [PV.retag] at hp <;> try (cases hp)
    rw [PV.retagL_eq, List.getElem?_map] at hc
    obtain ⟨c0, hc0, rfl⟩ := Option.map_eq_some_iff.1 hc
    obtain ⟨t0, h0, rfl⟩ := ih c0 rfl
    exact ⟨t0, .agg hc0 hv h0, rfl⟩
  | tuple hc hv h ih =>
    intro p hp
    cases p <;> simp only [PV.retag] at hp <;> try (cases hp)
    rw [PV.retagL_eq, List.getElem?_map] at hc
    obtain ⟨c0, hc0, rfl⟩ := Option.map_eq_some_iff.1 hc
    obtain ⟨t0, h0, rfl⟩ := ih c0 rfl
    exact ⟨t0, .tuple hc0 hv h0, rfl⟩

/-! ### What lies below a number of boxes -/
mutual
def PV.under (n : Nat) : PV → Bool
  | .any => true
  | .sc _ => true
  | .list _ _ xs => PV.underL n xs
  | .arr id _ => decide (id < n)
  | .ptr id _ => decide (id < n)
  | .eptr cs => PV.underL n cs
  | .fn _ cap => PV.underL n cap
  | .agg cs => PV.underL n cs
  | .tuple cs => PV.underL n cs
def PV.underL (n : Nat) : List PV → Bool
  | [] => true
  | c :: cs => c.under n && PV.underL n cs
end

theorem PV.underL_eq (n : Nat) : ∀ cs, PV.underL n cs = cs.all (PV.under n)
  | [] => by simp [PV.underL]
  | c :: cs => by simp [PV.underL, PV.underL_eq n cs]

theorem PV.under_cells {n : Nat} {x : PV} (h : x.under n = true) : ∀ c ∈ x.cells, c.under n = true := by
  cases x with
  | agg cs => simpa [PV.cells, PV.under, PV.underL_eq] using h
  | _ => simpa [PV.cells] using h

def Kap.trunc (κ : Kap) (n : Nat) : Kap :=
  { κ with mu := fun id => if id < n then κ.mu id else none, perm := fun h => match h with | .cell id _ => if id < n then κ.perm h else none | _ => κ.perm h }

theorem Rep.trunc {κ : Kap} {w : World} {n : Nat} {p : PV} {v : Value} (h : Rep κ w p v) : p.under n = true → Rep (κ.trunc n) w p v := by
  induction h with
  | any v => intro _; exact .any v
  | sc v => intro _; exact .sc v
  | list sz t xs a cap b off vs hpos hok hcap hmax hfull ha hl hc hr ih =>
    intro hb
    refine .list sz t xs a cap b off vs hpos hok hcap hmax hfull ha hl hc fun i c v hci hvi => ih i c v hci hvi ?_
    obtain ⟨x, hx, hcx⟩ := List.mem_flatMap.1 (List.mem_of_getElem? hci)
    simp only [PV.under, PV.underL_eq, List.all_eq_true] at hb
    exact PV.under_cells (hb x hx) c hcx
  | arr id n b h hn => intro hb; refine .arr id n b ?_ hn; simp only [PV.under, decide_eq_true_eq] at hb; simp [Kap.trunc, hb, h]
  | ptr id off b h => intro hb; refine .ptr id off b ?_; simp only [PV.under, decide_eq_true_eq] at hb; simp [Kap.trunc, hb, h]
  | eptr cs b off vs hok hl hc hr ih =>
    intro hb
    simp only [PV.under, PV.underL_eq, List.all_eq_true] at hb
    exact .eptr cs b off vs hok hl hc fun i c v hci hvi => ih i c v hci hvi (hb c (List.mem_of_getElem? hci))
  | fn f cap vs hl hr ih =>
    intro hb
    simp only [PV.under, PV.underL_eq, List.all_eq_true] at hb
    exact .fn f cap vs hl fun i c v hci hvi => ih i c v hci hvi (hb c (List.mem_of_getElem? hci))
  | agg cs vs hl hr ih =>
    intro hb
    simp only [PV.under, PV.underL_eq, List.all_eq_true] at hb
    exact .agg cs vs hl fun i c v hci hvi => ih i c v hci hvi (hb c (List.mem_of_getElem? hci))
  | tuple cs vs hl hr ih =>
    intro hb
    simp only [PV.under, PV.underL_eq, List.all_eq_true] at hb
    exact .tuple cs vs hl fun i c v hci hvi => ih i c v hci hvi (hb c (List.mem_of_getElem? hci))

end Go.Q
