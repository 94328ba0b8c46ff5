/-
  DERIVED. GIVEN WITH THE SEED: THE CARDS: each row of YtdpfdpmjnifanaaDoorRows.lean that lists a variable, with what it lists TIED to the program's text (the seventh form; the later family's looks); each row that meets fmt, with fmt's text TOLD by the authors' own Lean function (tested against real Go, not proved from fmt's source: count such statements apart). THE CARD IS WHAT COUNTS. Prove the row's statement (the work); the ties are given (YtdpfdpmjnifanaaDoorTie.lean); close each card by the builder's one call (the guide's Derived/Test/ToyasCard.lean, 'card_holds'). Laid BY PROGRAM, IN A SANDBOX (cutbox-door.mjs). By AI agents, Wed Nov 11 2026. No macro, syntax, notation, axiom, sorry.
-/
import Derived.Test.YtdpfdpmjnifanaaDoorRows
import GoSem.ClaimSeven
namespace Go.Proofs.YtdpfdpmjnifanaaDoor
namespace Rows

/-- THE TIED CARD OF 'sidebandlaw18.ReplyCodes'. -/
def replyCodesCard : Claim7 := { stood := { row := replyCodesRow, standIns := [], harness := (true, "39f402619e29b1038d44fd3668518a33c43292d49cd10ef3efa29bbdbc70e05d"), looks := true }, kinds := [], alts := [], laidByText := true, laidKinds := [.data, .data, .data, .data, .pinned], laidTests := true, laidLooks := .later }
def ReplyCodesCardSaid : Prop := Claim7.holds Tryd.pinned (.plain (OpenSpec.ofChange replyCodesSpec)) replyCodesCard

/-- THE TIED CARD OF 'sidebandlaw16.WordSeals'. -/
def wordSealsCard : Claim7 := { stood := { row := wordSealsRow, standIns := [], harness := (true, "39f402619e29b1038d44fd3668518a33c43292d49cd10ef3efa29bbdbc70e05d"), looks := true }, kinds := [], alts := [], laidByText := true, laidKinds := [.data, .pinned], laidTests := true, laidLooks := .later }
def WordSealsCardSaid : Prop := Claim7.holds Tryd.pinned (.plain (OpenSpec.ofChange wordSealsSpec)) wordSealsCard

/-- THE TIED CARD OF 'sidebandlaw20.WeaveAgain'. -/
def weaveAgainCard : Claim7 := { stood := { row := weaveAgainRow, standIns := [], harness := (true, "39f402619e29b1038d44fd3668518a33c43292d49cd10ef3efa29bbdbc70e05d"), looks := true }, kinds := [], alts := [], laidByText := true, laidKinds := [.data, .pinned], laidTests := true, laidLooks := .later }
def WeaveAgainCardSaid : Prop := Claim7.holds Tryd.pinned (.plain (OpenSpec.ofChange weaveAgainSpec)) weaveAgainCard

/-- THE TIED CARD OF 'sidebandlaw20.WeaveArgs'. -/
def weaveArgsCard : Claim7 := { stood := { row := weaveArgsRow, standIns := [], harness := (true, "39f402619e29b1038d44fd3668518a33c43292d49cd10ef3efa29bbdbc70e05d"), looks := true }, kinds := [], alts := [], laidByText := true, laidKinds := [.data, .pinned], laidTests := true, laidLooks := .later }
def WeaveArgsCardSaid : Prop := Claim7.holds Tryd.pinned (.plain (OpenSpec.ofChange weaveArgsSpec)) weaveArgsCard

/-- THE TIED CARD OF 'sidebandlaw20.WeaveParts'. -/
def weavePartsCard : Claim7 := { stood := { row := weavePartsRow, standIns := [], harness := (true, "39f402619e29b1038d44fd3668518a33c43292d49cd10ef3efa29bbdbc70e05d"), looks := true }, kinds := [], alts := [], laidByText := true, laidKinds := [.data, .pinned], laidTests := true, laidLooks := .later }
def WeavePartsCardSaid : Prop := Claim7.holds Tryd.pinned (.plain (OpenSpec.ofChange weavePartsSpec)) weavePartsCard

/-- THE TIED CARD OF 'sidebandlaw18.ReplyTexts'. -/
def replyTextsCard : Claim7 := { stood := { row := replyTextsRow, standIns := [], harness := (true, "39f402619e29b1038d44fd3668518a33c43292d49cd10ef3efa29bbdbc70e05d"), looks := true }, kinds := [], alts := [], laidByText := true, laidKinds := [.data, .data, .data, .data, .pinned], laidTests := true, laidLooks := .later }
def ReplyTextsCardSaid : Prop := Claim7.holds Tryd.pinned (.plain (OpenSpec.ofChange replyTextsSpec)) replyTextsCard

/-- THE TIED CARD OF 'sidebandlaw18.ReplyReads'. -/
def replyReadsCard : Claim7 := { stood := { row := replyReadsRow, standIns := [], harness := (true, "39f402619e29b1038d44fd3668518a33c43292d49cd10ef3efa29bbdbc70e05d"), looks := true }, kinds := [], alts := [], laidByText := true, laidKinds := [.data, .data, .data, .data, .pinned], laidTests := true, laidLooks := .later }
def ReplyReadsCardSaid : Prop := Claim7.holds Tryd.pinned (.plain (OpenSpec.ofChange replyReadsSpec)) replyReadsCard

/-- THE TIED CARD OF 'sidebandlaw17.RequestReads'. -/
def requestReadsCard : Claim7 := { stood := { row := requestReadsRow, standIns := [], harness := (true, "39f402619e29b1038d44fd3668518a33c43292d49cd10ef3efa29bbdbc70e05d"), looks := true }, kinds := [], alts := [], laidByText := true, laidKinds := [.data, .pinned], laidTests := true, laidLooks := .later }
def RequestReadsCardSaid : Prop := Claim7.holds Tryd.pinned (.plain (OpenSpec.ofChange requestReadsSpec)) requestReadsCard

/-- THE TIED CARD OF 'sidebandlaw17.RequestAsks'. -/
def requestAsksCard : Claim7 := { stood := { row := requestAsksRow, standIns := [], harness := (true, "39f402619e29b1038d44fd3668518a33c43292d49cd10ef3efa29bbdbc70e05d"), looks := true }, kinds := [], alts := [], laidByText := true, laidKinds := [.data, .pinned], laidTests := true, laidLooks := .later }
def RequestAsksCardSaid : Prop := Claim7.holds Tryd.pinned (.plain (OpenSpec.ofChange requestAsksSpec)) requestAsksCard

/-- THE TIED CARD OF 'sidebandlaw17.RequestNil'. -/
def requestNilCard : Claim7 := { stood := { row := requestNilRow, standIns := [], harness := (true, "39f402619e29b1038d44fd3668518a33c43292d49cd10ef3efa29bbdbc70e05d"), looks := true }, kinds := [], alts := [], laidByText := true, laidKinds := [.data, .pinned], laidTests := true, laidLooks := .later }
def RequestNilCardSaid : Prop := Claim7.holds Tryd.pinned (.plain (OpenSpec.ofChange requestNilSpec)) requestNilCard

/-- THE SECOND FORM's CARD OF 'sidebandlaw18.ReplyCodes'. -/
def replyCodesUptoCard : Claim7 := { stood := { row := replyCodesUptoRow, standIns := [], harness := (true, "39f402619e29b1038d44fd3668518a33c43292d49cd10ef3efa29bbdbc70e05d"), looks := true }, kinds := [], alts := [], laidByText := true, laidKinds := [.data, .data, .data, .data, .pinned], laidTests := true, laidLooks := .later }
def ReplyCodesUptoCardSaid : Prop := Claim7.holds Tryd.pinned (.plain (OpenSpec.upto replyCodesSpec)) replyCodesUptoCard

/-- THE SECOND FORM's CARD OF 'sidebandlaw16.WordSeals'. -/
def wordSealsUptoCard : Claim7 := { stood := { row := wordSealsUptoRow, standIns := [], harness := (true, "39f402619e29b1038d44fd3668518a33c43292d49cd10ef3efa29bbdbc70e05d"), looks := true }, kinds := [], alts := [], laidByText := true, laidKinds := [.data, .pinned], laidTests := true, laidLooks := .later }
def WordSealsUptoCardSaid : Prop := Claim7.holds Tryd.pinned (.plain (OpenSpec.upto wordSealsSpec)) wordSealsUptoCard

/-- THE SECOND FORM's CARD OF 'sidebandlaw20.WeaveAgain'. -/
def weaveAgainUptoCard : Claim7 := { stood := { row := weaveAgainUptoRow, standIns := [], harness := (true, "39f402619e29b1038d44fd3668518a33c43292d49cd10ef3efa29bbdbc70e05d"), looks := true }, kinds := [], alts := [], laidByText := true, laidKinds := [.data, .pinned], laidTests := true, laidLooks := .later }
def WeaveAgainUptoCardSaid : Prop := Claim7.holds Tryd.pinned (.plain (OpenSpec.upto weaveAgainSpec)) weaveAgainUptoCard

/-- THE SECOND FORM's CARD OF 'sidebandlaw20.WeaveArgs'. -/
def weaveArgsUptoCard : Claim7 := { stood := { row := weaveArgsUptoRow, standIns := [], harness := (true, "39f402619e29b1038d44fd3668518a33c43292d49cd10ef3efa29bbdbc70e05d"), looks := true }, kinds := [], alts := [], laidByText := true, laidKinds := [.data, .pinned], laidTests := true, laidLooks := .later }
def WeaveArgsUptoCardSaid : Prop := Claim7.holds Tryd.pinned (.plain (OpenSpec.upto weaveArgsSpec)) weaveArgsUptoCard

/-- THE SECOND FORM's CARD OF 'sidebandlaw20.WeaveParts'. -/
def weavePartsUptoCard : Claim7 := { stood := { row := weavePartsUptoRow, standIns := [], harness := (true, "39f402619e29b1038d44fd3668518a33c43292d49cd10ef3efa29bbdbc70e05d"), looks := true }, kinds := [], alts := [], laidByText := true, laidKinds := [.data, .pinned], laidTests := true, laidLooks := .later }
def WeavePartsUptoCardSaid : Prop := Claim7.holds Tryd.pinned (.plain (OpenSpec.upto weavePartsSpec)) weavePartsUptoCard

/-- THE SECOND FORM's CARD OF 'sidebandlaw18.ReplyTexts'. -/
def replyTextsUptoCard : Claim7 := { stood := { row := replyTextsUptoRow, standIns := [], harness := (true, "39f402619e29b1038d44fd3668518a33c43292d49cd10ef3efa29bbdbc70e05d"), looks := true }, kinds := [], alts := [], laidByText := true, laidKinds := [.data, .data, .data, .data, .pinned], laidTests := true, laidLooks := .later }
def ReplyTextsUptoCardSaid : Prop := Claim7.holds Tryd.pinned (.plain (OpenSpec.upto replyTextsSpec)) replyTextsUptoCard

/-- THE SECOND FORM's CARD OF 'sidebandlaw18.ReplyReads'. -/
def replyReadsUptoCard : Claim7 := { stood := { row := replyReadsUptoRow, standIns := [], harness := (true, "39f402619e29b1038d44fd3668518a33c43292d49cd10ef3efa29bbdbc70e05d"), looks := true }, kinds := [], alts := [], laidByText := true, laidKinds := [.data, .data, .data, .data, .pinned], laidTests := true, laidLooks := .later }
def ReplyReadsUptoCardSaid : Prop := Claim7.holds Tryd.pinned (.plain (OpenSpec.upto replyReadsSpec)) replyReadsUptoCard

/-- THE SECOND FORM's CARD OF 'sidebandlaw17.RequestReads'. -/
def requestReadsUptoCard : Claim7 := { stood := { row := requestReadsUptoRow, standIns := [], harness := (true, "39f402619e29b1038d44fd3668518a33c43292d49cd10ef3efa29bbdbc70e05d"), looks := true }, kinds := [], alts := [], laidByText := true, laidKinds := [.data, .pinned], laidTests := true, laidLooks := .later }
def RequestReadsUptoCardSaid : Prop := Claim7.holds Tryd.pinned (.plain (OpenSpec.upto requestReadsSpec)) requestReadsUptoCard

/-- THE SECOND FORM's CARD OF 'sidebandlaw17.RequestAsks'. -/
def requestAsksUptoCard : Claim7 := { stood := { row := requestAsksUptoRow, standIns := [], harness := (true, "39f402619e29b1038d44fd3668518a33c43292d49cd10ef3efa29bbdbc70e05d"), looks := true }, kinds := [], alts := [], laidByText := true, laidKinds := [.data, .pinned], laidTests := true, laidLooks := .later }
def RequestAsksUptoCardSaid : Prop := Claim7.holds Tryd.pinned (.plain (OpenSpec.upto requestAsksSpec)) requestAsksUptoCard

/-- THE SECOND FORM's CARD OF 'sidebandlaw17.RequestNil'. -/
def requestNilUptoCard : Claim7 := { stood := { row := requestNilUptoRow, standIns := [], harness := (true, "39f402619e29b1038d44fd3668518a33c43292d49cd10ef3efa29bbdbc70e05d"), looks := true }, kinds := [], alts := [], laidByText := true, laidKinds := [.data, .pinned], laidTests := true, laidLooks := .later }
def RequestNilUptoCardSaid : Prop := Claim7.holds Tryd.pinned (.plain (OpenSpec.upto requestNilSpec)) requestNilUptoCard
end Rows
end Go.Proofs.YtdpfdpmjnifanaaDoor
