/- Small things that came later: a fact that every world of a walk bears; what may be read is one cell. -/
import Derived.Test.YtdpfdpmjnifanaaDoorAgainPure
import Derived.Test.YtdpfdpmjnifanaaDoorMixed
namespace Go.Sb
open Go Go.RowKit
set_option linter.unusedSimpArgs false
set_option linter.unusedVariables false
theorem J.fact {N : Nat} {E : En} {C : World → Prop} {X : Act → World → Prop} {p : Prop} (h : ∀ w, C w → p) (k : p → J N E C X) : J N E C X := fun a w he hw => k (h w hw) a w he hw
theorem SlR.one {w : World} {v : Value} {xs : List Value} (h : SlR w v xs) : v.oneCell' = true := by obtain ⟨a, c, rfl, _⟩ := h; rfl
end Go.Sb
