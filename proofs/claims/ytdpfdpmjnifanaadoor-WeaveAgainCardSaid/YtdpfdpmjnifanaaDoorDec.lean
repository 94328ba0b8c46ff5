/- Contracts of package utf8, out of the shelf's, over the parts of a heap. -/
import Derived.Test.YtdpfdpmjnifanaaDoorProg
import Derived.KernelRfl
import Derived.Test.YtdpfdpmjnifanaaDoorStr
import Derived.Test.YtdpfdpmjnifanaaDoorShelf
namespace Go.Proofs.YtdpfdpmjnifanaaDoor.Dec
open Go Go.RowKit Go.Sb
set_option maxRecDepth 100000
set_option linter.unusedVariables false
set_option linter.unusedSimpArgs false
theorem mixed : Tryd.prog.follows .mixedOrders = true := by kernel_rfl

theorem decode {Z w : World} {L : List HP} {s : ByteArray} (hT : ∀ w, St Z w L → Lib.Utf8Tabs 1 2 w) (hst : St Z w L) :
    Calls Tryd.prog 68 #[.string s] w (Ret fun r w' => r = .tuple #[.int .i32 ((Lib.decodeGo s).1 : Nat), .int .i64 ((Lib.decodeGo s).2 : Nat)] ∧ St Z w' L) :=
  (Tryd.utf8_DecodeRuneInString s w (hT w hst)).mono fun e w' ⟨h1, h2⟩ => ⟨_, h1, rfl, hst.below h2 (Nat.le_refl _)⟩
theorem runeLen {Z w : World} {L : List HP} {r : Int} (hst : St Z w L) : Calls Tryd.prog 69 #[.int .i32 r] w (Ret fun v w' => v = .int .i64 (Lib.runeLen r) ∧ St Z w' L) :=
  (Tryd.utf8_RuneLen r w).mono fun e w' ⟨h1, h2⟩ => ⟨_, h1, rfl, h2 ▸ hst⟩end Go.Proofs.YtdpfdpmjnifanaaDoor.Dec
