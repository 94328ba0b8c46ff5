/- Values of interface types: what they hold is asked for; pieces of code that bear labels. Over any program. -/
import Derived.Test.YtdpfdpmjnifanaaDoorConv
import Derived.Scope
namespace Go.Sb
open Go Go.RowKit
set_option linter.unusedSimpArgs false
set_option linter.unusedVariables false
section
variable {P : Program} {N : Nat} {E : En} {C : World → Prop} {Q : Exit → Act → World → Prop}
theorem J.scope {c : Code} (h : J N E C (c.wp P (Exit.noGoto Q))) : J N E C ((Code.scope c).wp P Q) := fun a w he hw => wp_scope_straight (h a w he hw)
theorem J.scopeN (h : J N E C (Q .normal)) : J N E C (Exit.noGoto Q .normal) := h
theorem J.scopeE {id : Nat} (h : J N E C (Q (.exit id))) : J N E C (Exit.noGoto Q (.exit id)) := h
theorem J.scopeR (h : J N E C (Q .ret)) : J N E C (Exit.noGoto Q .ret) := h
end
section
variable {P : Program} {N : Nat} {E : En} {Z : World} {L : List HP} {F : HP → List HP} {C : World → Prop} {Q : Exit → Act → World → Prop} {ops : Array Oper} {rest : List Oper}
variable {d : Option Tmp} {x y : Operand} {t ty xt : TypeId} {pos : String} {aft : Array Edge} {g : Option (Nat × Bool)} {v u : Value}
def notIface (ds : TypeDesc) : Bool := match ds with | .interface _ => false | _ => true
theorem Rd.assertT {ds : TypeDesc} (ht : P.underlying ty = some ds) (hi : notIface ds = true) (hx : evE E x = some (.iface ty u)) : Rd P N E C ⟨d, .typeAssert x xt ty true, t, pos, aft, g⟩ (.tuple #[u, .bool true]) := fun a w he _ => by
  simp only [execOp, he.eval hx, Instr.typeAssert]
  cases ds <;> first | (simp [notIface] at hi; done) | simp [run_underlying ht]
theorem Rd.assertF {ds : TypeDesc} {T sz bytes : Nat} {zv : Value} (ht : P.underlying ty = some ds) (hi : notIface ds = true) (ti : TI P ty sz bytes zv) (hT : T ≠ ty) (hx : evE E x = some (.iface T u)) : Rd P N E C ⟨d, .typeAssert x xt ty true, t, pos, aft, g⟩ (.tuple #[zv, .bool false]) := fun a w he _ => by
  obtain ⟨j, h2, h3, h4, h5⟩ := ti
  simp only [execOp, he.eval hx, Instr.typeAssert]
  cases ds <;> first | (simp [notIface] at hi; done) | simp [run_underlying ht, hT, zeroValue, typeInfo, h2, h5]
theorem Rd.assertV {ds : TypeDesc} (ht : P.underlying ty = some ds) (hi : notIface ds = true) (hx : evE E x = some (.iface ty u)) : Rd P N E C ⟨d, .typeAssert x xt ty false, t, pos, aft, g⟩ u := fun a w he _ => by
  simp only [execOp, he.eval hx, Instr.typeAssert]
  cases ds <;> first | (simp [notIface] at hi; done) | simp [run_underlying ht]
end
end Go.Sb
