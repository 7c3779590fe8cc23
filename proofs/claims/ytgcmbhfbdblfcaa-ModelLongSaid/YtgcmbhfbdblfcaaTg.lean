/-
  What the arguments of this program's laws are, as data of Lean.
-/
import Derived.Test.YtgcmbhfbdblfcaaTf
import Derived.Test.YtgcmbhfbdblfcaaSf
set_option linter.unusedVariables false
set_option linter.unusedSimpArgs false
namespace Go.Q
open Go.Proofs

theorem isT_b {P : Program} {n t : Nat} {cs : List PV} (hk : kindT P t = .b) (h : IsT P (n + 1) t cs) : ∃ b, cs = [.sc (.bool b)] := by
  simp only [IsT, hk] at h; exact h
theorem isT_i {P : Program} {n t : Nat} {cs : List PV} {k : IntKind} (hk : kindT P t = .i k) (h : IsT P (n + 1) t cs) : ∃ x, cs = [.sc (.int k x)] ∧ k.min ≤ x ∧ x ≤ k.max := by
  simp only [IsT, hk] at h
  obtain ⟨x, rfl, hw⟩ := h
  exact ⟨x, rfl, by simpa [Lit.wf] using hw⟩
theorem isT_s {P : Program} {n t e sz : Nat} {cs : List PV} (hk : kindT P t = .s e sz) (h : IsT P (n + 1) t cs) : ∃ xs : List (List PV), cs = [.list sz .ro (xs.map (elemP (kindT P e).agg))] ∧ (∀ x ∈ xs, IsT P n e x) ∧ xs.length ≤ maxLen := by
  simp only [IsT, hk] at h; exact h
theorem isT_f {P : Program} {n t : Nat} {ts : List Nat} {cs : List PV} (hk : kindT P t = .f ts) (h : IsT P (n + 1) t cs) : IsF (IsT P n) ts cs := by
  simp only [IsT, hk] at h; exact h
theorem lift_list {α : Type} (f : α → List PV) (G : α → Prop) : ∀ (xs : List (List PV)), (∀ x ∈ xs, ∃ a, G a ∧ x = f a) → ∃ l : List α, xs = l.map f ∧ ∀ a ∈ l, G a
  | [], _ => ⟨[], rfl, by simp⟩
  | x :: xs, h => by
    obtain ⟨a, ha, rfl⟩ := h x (List.mem_cons_self ..)
    obtain ⟨l, rfl, hl⟩ := lift_list f G xs fun y hy => h y (List.mem_cons_of_mem _ hy)
    exact ⟨a :: l, rfl, by simpa using ⟨ha, hl⟩⟩

structure KindsOK (P : Program) : Prop where
  kt3 : kindT P 3 = .i .i64
  kt4 : kindT P 4 = .b
  kt5 : kindT P 5 = .i .u8
  kt21 : kindT P 21 = .i .i32
  kt38 : kindT P 38 = .i .i8
  kt32 : kindT P 32 = .s 38 1
  kt45 : kindT P 45 = .s 3 1
  kt49 : kindT P 49 = .s 5 1
  kt56 : kindT P 56 = .s 21 1
  kt55 : kindT P 55 = .f [3, 3, 3]
  kt85 : kindT P 85 = .f [55, 3]
  kt43 : kindT P 43 = .s 85 4
  kt44 : kindT P 44 = .s 58 14
  kt58 : kindT P 58 = .f [3, 45, 3, 3, 3, 3, 3, 3, 3, 55, 32, 56]
  kt47 : kindT P 47 = .f [43, 44, 45]
theorem kinds_ok : KindsOK Try.prog := ⟨by kernel_rfl, by kernel_rfl, by kernel_rfl, by kernel_rfl, by kernel_rfl, by kernel_rfl, by kernel_rfl, by kernel_rfl, by kernel_rfl, by kernel_rfl, by kernel_rfl, by kernel_rfl, by kernel_rfl, by kernel_rfl, by kernel_rfl⟩
/-- The bounds that a number of a kind keeps. -/
def InK (k : IntKind) (x : Int) : Prop := k.min ≤ x ∧ x ≤ k.max
def Shp.Wf (s : Shp) : Prop := InK .i64 s.h ∧ InK .i64 s.w ∧ InK .i64 s.c
def Vl.Wf (v : Vl) : Prop := v.s.Wf ∧ InK .i64 v.z
def Vl.cs (v : Vl) : List PV := [I v.s.h, I v.s.w, I v.s.c, I v.z]
structure Nod.Wf (n : Nod) : Prop where
  op : InK .i64 n.op
  ins : ∀ x ∈ n.ins, InK .i64 x
  k : InK .i64 n.k
  st : InK .i64 n.st
  pad : InK .i64 n.pad
  out : InK .i64 n.out
  mul : InK .i64 n.mul
  sh : InK .i64 n.sh
  zero : InK .i64 n.zero
  to : n.to.Wf
  w : ∀ x ∈ n.w, InK .i8 x
  b : ∀ x ∈ n.b, InK .i32 x
  insL : n.ins.length ≤ maxLen
  wL : n.w.length ≤ maxLen
  bL : n.b.length ≤ maxLen
structure Gr.Wf (g : Gr) : Prop where
  ins : ∀ x ∈ g.ins, x.Wf
  nodes : ∀ x ∈ g.nodes, x.Wf
  outs : ∀ x ∈ g.outs, InK .i64 x
  insL : g.ins.length ≤ maxLen
  nodesL : g.nodes.length ≤ maxLen
  outsL : g.outs.length ≤ maxLen

theorem is_int {P : Program} (K : KindsOK P) {n : Nat} {cs : List PV} (h : IsT P (n + 1) 3 cs) : ∃ x, cs = [I x] ∧ InK .i64 x := isT_i K.kt3 h
theorem is_ints {P : Program} (K : KindsOK P) {n t e : Nat} {k : IntKind} {cs : List PV} (hs : kindT P t = .s e 1) (he : kindT P e = .i k) (h : IsT P (n + 2) t cs) :
    ∃ l : List Int, cs = [.list 1 .ro (l.map fun x => .sc (.int k x))] ∧ (∀ x ∈ l, InK k x) ∧ l.length ≤ maxLen := by
  obtain ⟨xs, rfl, h1, h2⟩ := isT_s hs h
  obtain ⟨l, rfl, hl⟩ := lift_list (fun x : Int => [PV.sc (.int k x)]) (InK k) xs fun x hx => by
    obtain ⟨a, e, ha⟩ := isT_i he (h1 x hx)
    exact ⟨a, ha, e⟩
  refine ⟨l, ?_, hl, by simpa using h2⟩
  simp [he, KT.agg, elemP, Function.comp_def]
theorem is_shp {P : Program} (K : KindsOK P) {n : Nat} {cs : List PV} (h : IsT P (n + 2) 55 cs) : ∃ s : Shp, cs = [I s.h, I s.w, I s.c] ∧ s.Wf := by
  obtain ⟨a, c, rfl, ha, b, d, rfl, hb, e, f, rfl, he, hf⟩ := isT_f K.kt55 h
  obtain ⟨x, rfl, hx⟩ := is_int K ha
  obtain ⟨y, rfl, hy⟩ := is_int K hb
  obtain ⟨z, rfl, hz⟩ := is_int K he
  simp only [IsF] at hf
  subst hf
  exact ⟨⟨x, y, z⟩, rfl, hx, hy, hz⟩
theorem is_vl {P : Program} (K : KindsOK P) {n : Nat} {cs : List PV} (h : IsT P (n + 3) 85 cs) : ∃ v : Vl, v.Wf ∧ cs = v.cs := by
  obtain ⟨a, c, rfl, ha, b, d, rfl, hb, hd⟩ := isT_f K.kt85 h
  obtain ⟨s, rfl, hs⟩ := is_shp K ha
  obtain ⟨z, rfl, hz⟩ := is_int K hb
  simp only [IsF] at hd
  subst hd
  exact ⟨⟨s, z⟩, ⟨hs, hz⟩, rfl⟩
theorem is_nod {P : Program} (K : KindsOK P) {n : Nat} {cs : List PV} (h : IsT P (n + 4) 58 cs) : ∃ v : Nod, v.Wf ∧ cs = v.cs := by
  obtain ⟨_, _, rfl, h0, _, _, rfl, h1, _, _, rfl, h2, _, _, rfl, h3, _, _, rfl, h4, _, _, rfl, h5, _, _, rfl, h6, _, _, rfl, h7, _, _, rfl, h8, _, _, rfl, h9, _, _, rfl, h10, _, _, rfl, h11, hf⟩ := isT_f K.kt58 h
  simp only [IsF] at hf
  subst hf
  obtain ⟨a0, rfl, w0⟩ := is_int K h0
  obtain ⟨a1, rfl, w1, l1⟩ := is_ints K K.kt45 K.kt3 h1
  obtain ⟨a2, rfl, w2⟩ := is_int K h2
  obtain ⟨a3, rfl, w3⟩ := is_int K h3
  obtain ⟨a4, rfl, w4⟩ := is_int K h4
  obtain ⟨a5, rfl, w5⟩ := is_int K h5
  obtain ⟨a6, rfl, w6⟩ := is_int K h6
  obtain ⟨a7, rfl, w7⟩ := is_int K h7
  obtain ⟨a8, rfl, w8⟩ := is_int K h8
  obtain ⟨a9, rfl, w9⟩ := is_shp K h9
  obtain ⟨a10, rfl, w10, l10⟩ := is_ints K K.kt32 K.kt38 h10
  obtain ⟨a11, rfl, w11, l11⟩ := is_ints K K.kt56 K.kt21 h11
  exact ⟨⟨a0, a1, a2, a3, a4, a5, a6, a7, a8, a9, a10, a11⟩, ⟨w0, w1, w2, w3, w4, w5, w6, w7, w8, w9, w10, w11, l1, l10, l11⟩, rfl⟩
theorem is_gr {P : Program} (K : KindsOK P) {n : Nat} {cs : List PV} (h : IsT P (n + 6) 47 cs) : ∃ g : Gr, g.Wf ∧ cs = g.cs := by
  obtain ⟨_, _, rfl, h0, _, _, rfl, h1, _, _, rfl, h2, hf⟩ := isT_f K.kt47 h
  simp only [IsF] at hf
  subst hf
  obtain ⟨xs, rfl, u0, l0⟩ := isT_s K.kt43 h0
  obtain ⟨ys, rfl, u1, l1⟩ := isT_s K.kt44 h1
  obtain ⟨a2, rfl, w2, l2⟩ := is_ints K K.kt45 K.kt3 h2
  obtain ⟨a0, rfl, w0⟩ := lift_list Vl.cs Vl.Wf xs fun x hx => is_vl K (u0 x hx)
  obtain ⟨a1, rfl, w1⟩ := lift_list Nod.cs Nod.Wf ys fun x hx => is_nod K (u1 x hx)
  refine ⟨⟨a0, a1, a2⟩, ⟨w0, w1, w2, by simpa using l0, by simpa using l1, l2⟩, ?_⟩
  simp [K.kt85, K.kt58, KT.agg, elemP, Function.comp_def, Vl.cs]
theorem good47 : goodT Try.prog 8 47 = true := by kernel_rfl
theorem good49 : goodT Try.prog 8 49 = true := by kernel_rfl
theorem good3 : goodT Try.prog 8 3 = true := by kernel_rfl
theorem good5 : goodT Try.prog 8 5 = true := by kernel_rfl
end Go.Q
