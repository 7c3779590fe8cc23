/-
  MADE BY A PROGRAM (gencfg.py): the tables are right.
-/
import Derived.Test.YtgcmbhfbdblfcaaQn
set_option linter.unusedVariables false
set_option linter.unusedSimpArgs false
namespace Go.Q
open Go.Proofs
def okBody (fn : Func) (k : Nat) : Bool := match fn.body with | some c => plansB (planT k) c | none => true
theorem pk3 : okBody Try.f3 3 = true := by kernel_rfl
theorem pk4 : okBody Try.f4 4 = true := by kernel_rfl
theorem pk5 : okBody Try.f5 5 = true := by kernel_rfl
theorem pk9 : okBody Try.f9 9 = true := by kernel_rfl
theorem pk10 : okBody Try.f10 10 = true := by kernel_rfl
theorem pk12 : okBody Try.f12 12 = true := by kernel_rfl
theorem pk13 : okBody Try.f13 13 = true := by kernel_rfl
theorem pk14 : okBody Try.f14 14 = true := by kernel_rfl
theorem pk16 : okBody Try.f16 16 = true := by kernel_rfl
theorem pk17 : okBody Try.f17 17 = true := by kernel_rfl
theorem pk19 : okBody Try.f19 19 = true := by kernel_rfl
theorem pk21 : okBody Try.f21 21 = true := by kernel_rfl
theorem pk22 : okBody Try.f22 22 = true := by kernel_rfl
theorem pk31 : okBody Try.f31 31 = true := by kernel_rfl
theorem pk32 : okBody Try.f32 32 = true := by kernel_rfl
theorem pk38 : okBody Try.f38 38 = true := by kernel_rfl
theorem pk39 : okBody Try.f39 39 = true := by kernel_rfl
theorem pk40 : okBody Try.f40 40 = true := by kernel_rfl
theorem pk45 : okBody Try.f45 45 = true := by kernel_rfl
theorem pk46 : okBody Try.f46 46 = true := by kernel_rfl
theorem pk47 : okBody Try.f47 47 = true := by kernel_rfl
theorem pk57 : okBody Try.f57 57 = true := by kernel_rfl
theorem pk61 : okBody Try.f61 61 = true := by kernel_rfl
theorem pk65 : okBody Try.f65 65 = true := by kernel_rfl
theorem pk66 : okBody Try.f66 66 = true := by kernel_rfl
theorem pk67 : okBody Try.f67 67 = true := by kernel_rfl
theorem pk69 : okBody Try.f69 69 = true := by kernel_rfl
theorem pk73 : okBody Try.f73 73 = true := by kernel_rfl
theorem pk75 : okBody Try.f75 75 = true := by kernel_rfl
theorem pk81 : okBody Try.f81 81 = true := by kernel_rfl
theorem pk90 : okBody Try.f90 90 = true := by kernel_rfl
theorem pk93 : okBody Try.f93 93 = true := by kernel_rfl
theorem pk94 : okBody Try.f94 94 = true := by kernel_rfl
theorem pk96 : okBody Try.f96 96 = true := by kernel_rfl
theorem pk97 : okBody Try.f97 97 = true := by kernel_rfl
theorem pk98 : okBody Try.f98 98 = true := by kernel_rfl
theorem pk100 : okBody Try.f100 100 = true := by kernel_rfl
theorem pk101 : okBody Try.f101 101 = true := by kernel_rfl
theorem pk102 : okBody Try.f102 102 = true := by kernel_rfl
theorem pk103 : okBody Try.f103 103 = true := by kernel_rfl
theorem pk106 : okBody Try.f106 106 = true := by kernel_rfl
theorem pk110 : okBody Try.f110 110 = true := by kernel_rfl
theorem pk111 : okBody Try.f111 111 = true := by kernel_rfl
theorem pk113 : okBody Try.f113 113 = true := by kernel_rfl
theorem pk114 : okBody Try.f114 114 = true := by kernel_rfl
theorem pk120 : okBody Try.f120 120 = true := by kernel_rfl
theorem pk121 : okBody Try.f121 121 = true := by kernel_rfl
theorem pk123 : okBody Try.f123 123 = true := by kernel_rfl
theorem pk125 : okBody Try.f125 125 = true := by kernel_rfl
theorem pk127 : okBody Try.f127 127 = true := by kernel_rfl
theorem pk129 : okBody Try.f129 129 = true := by kernel_rfl
theorem pk130 : okBody Try.f130 130 = true := by kernel_rfl
theorem pk132 : okBody Try.f132 132 = true := by kernel_rfl
theorem pk138 : okBody Try.f138 138 = true := by kernel_rfl
theorem pk139 : okBody Try.f139 139 = true := by kernel_rfl
theorem pk140 : okBody Try.f140 140 = true := by kernel_rfl
theorem pk142 : okBody Try.f142 142 = true := by kernel_rfl
theorem pk143 : okBody Try.f143 143 = true := by kernel_rfl
theorem pk148 : okBody Try.f148 148 = true := by kernel_rfl
theorem pk151 : okBody Try.f151 151 = true := by kernel_rfl
theorem pk154 : okBody Try.f154 154 = true := by kernel_rfl
theorem pk155 : okBody Try.f155 155 = true := by kernel_rfl
theorem pk157 : okBody Try.f157 157 = true := by kernel_rfl
theorem pk158 : okBody Try.f158 158 = true := by kernel_rfl
theorem pk159 : okBody Try.f159 159 = true := by kernel_rfl
theorem pk160 : okBody Try.f160 160 = true := by kernel_rfl
theorem pk170 : okBody Try.f170 170 = true := by kernel_rfl
theorem pk171 : okBody Try.f171 171 = true := by kernel_rfl
theorem pk178 : okBody Try.f178 178 = true := by kernel_rfl
theorem pk179 : okBody Try.f179 179 = true := by kernel_rfl
theorem pk180 : okBody Try.f180 180 = true := by kernel_rfl
theorem pk185 : okBody Try.f185 185 = true := by kernel_rfl
theorem pk189 : okBody Try.f189 189 = true := by kernel_rfl
theorem pk212 : okBody Try.f212 212 = true := by kernel_rfl
theorem pk216 : okBody Try.f216 216 = true := by kernel_rfl
theorem pk217 : okBody Try.f217 217 = true := by kernel_rfl
theorem pk218 : okBody Try.f218 218 = true := by kernel_rfl
theorem pk219 : okBody Try.f219 219 = true := by kernel_rfl
theorem pk225 : okBody Try.f225 225 = true := by kernel_rfl
theorem pk226 : okBody Try.f226 226 = true := by kernel_rfl
theorem pk228 : okBody Try.f228 228 = true := by kernel_rfl
theorem pk230 : okBody Try.f230 230 = true := by kernel_rfl
theorem pk234 : okBody Try.f234 234 = true := by kernel_rfl
theorem pk240 : okBody Try.f240 240 = true := by kernel_rfl
theorem pk241 : okBody Try.f241 241 = true := by kernel_rfl
theorem pk244 : okBody Try.f244 244 = true := by kernel_rfl

/-- The functions without a drawn region need no plan. -/
def noDraw : Code → Bool
  | .region _ _ draw => !draw
  | .seq a b => noDraw a && noDraw b
  | .cond _ a b => noDraw a && noDraw b
  | .block _ c => noDraw c
  | .loop c => noDraw c
  | _ => true
theorem plansB_noDraw (plan : Nat → Plan) : ∀ c, noDraw c = true → plansB plan c = true := by
  intro c
  induction c with
  | region id ops draw => intro h; simp only [noDraw, Bool.not_eq_true'] at h; simp [plansB, h]
  | seq a b iha ihb => intro h; simp only [noDraw, Bool.and_eq_true] at h; simp only [plansB, iha h.1, ihb h.2, Bool.and_self]
  | cond c a b iha ihb => intro h; simp only [noDraw, Bool.and_eq_true] at h; simp only [plansB, iha h.1, ihb h.2, Bool.and_self]
  | block id c ih => intro h; exact ih h
  | loop c ih => intro h; exact ih h
  | _ => intro h; rfl
def planKs : List Nat := [3, 4, 5, 9, 10, 12, 13, 14, 16, 17, 19, 21, 22, 31, 32, 38, 39, 40, 45, 46, 47, 57, 61, 65, 66, 67, 69, 73, 75, 81, 90, 93, 94, 96, 97, 98, 100, 101, 102, 103, 106, 110, 111, 113, 114, 120, 121, 123, 125, 127, 129, 130, 132, 138, 139, 140, 142, 143, 148, 151, 154, 155, 157, 158, 159, 160, 170, 171, 178, 179, 180, 185, 189, 212, 216, 217, 218, 219, 225, 226, 228, 230, 234, 240, 241, 244]
theorem noDraw_ok : ((List.range Try.prog.funcs.size).all fun k => planKs.contains k || match Try.prog.funcs[k]? with
  | some fn => (match fn.body with | some c => noDraw c | none => true)
  | none => true) = true := by kernel_rfl
theorem zTab_ok : ((List.range zTab.length).all fun t => zcheck Try.prog t (zOf t)) = true := by kernel_rfl
theorem flds_ok : ((List.range Try.prog.types.size).all fun t => match Try.prog.underlying t with
  | some (.struct fs) => fs.toList.all fun f => (Try.prog.info? f.type).isSome
  | _ => true) = true := by kernel_rfl
theorem names_ok : (Try.prog.funcs.toList.all fun fn => !(fn.name == "runtime.NumGoroutine")) = true := by kernel_rfl

