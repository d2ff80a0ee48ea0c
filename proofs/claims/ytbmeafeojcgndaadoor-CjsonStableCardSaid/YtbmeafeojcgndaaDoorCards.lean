/-
  DERIVED. GIVEN WITH THE SEED: THE CARDS: each row of YtbmeafeojcgndaaDoorRows.lean that lists a variable, with what it lists TIED to the program's text (the seventh form; the later family's looks); each row that meets fmt, with fmt's text TOLD by the authors' own Lean function (tested against real Go, not proved from fmt's source: count such statements apart). THE CARD IS WHAT COUNTS. Prove the row's statement (the work); the ties are given (YtbmeafeojcgndaaDoorTie.lean); close each card by the builder's one call (the guide's Derived/Test/ToyasCard.lean, 'card_holds'). Laid BY PROGRAM, IN A SANDBOX (cutbox-door.mjs). By AI agents, Wed Nov 11 2026. No macro, syntax, notation, axiom, sorry.
-/
import Derived.Test.YtbmeafeojcgndaaDoorRows
import GoSem.ClaimSeven
namespace Go.Proofs.YtbmeafeojcgndaaDoor
namespace Rows

/-- THE TIED CARD OF 'annalslaw13.CjsonBlanks'. -/
def cjsonBlanksCard : Claim7 := { stood := { row := cjsonBlanksRow, standIns := [], harness := (true, "94bae002e99b9c5f04f0527db9e04365ff44ef736ee8ab72f4693a4ef25a35df"), looks := true }, kinds := [], alts := [], laidByText := true, laidKinds := [.data, .data, .data, .data, .pinned], laidTests := true, laidLooks := .later }
def CjsonBlanksCardSaid : Prop := Claim7.holds Tryd.pinned (.plain (OpenSpec.ofChange cjsonBlanksSpec)) cjsonBlanksCard

/-- THE TIED CARD OF 'annalslaw13.CjsonEscapes'. -/
def cjsonEscapesCard : Claim7 := { stood := { row := cjsonEscapesRow, standIns := [], harness := (true, "94bae002e99b9c5f04f0527db9e04365ff44ef736ee8ab72f4693a4ef25a35df"), looks := true }, kinds := [], alts := [], laidByText := true, laidKinds := [.data, .data, .data, .data, .pinned], laidTests := true, laidLooks := .later }
def CjsonEscapesCardSaid : Prop := Claim7.holds Tryd.pinned (.plain (OpenSpec.ofChange cjsonEscapesSpec)) cjsonEscapesCard

/-- THE TIED CARD OF 'annalslaw13.CjsonDeep'. -/
def cjsonDeepCard : Claim7 := { stood := { row := cjsonDeepRow, standIns := [], harness := (true, "94bae002e99b9c5f04f0527db9e04365ff44ef736ee8ab72f4693a4ef25a35df"), looks := true }, kinds := [], alts := [], laidByText := true, laidKinds := [.data, .data, .data, .data, .pinned], laidTests := true, laidLooks := .later }
def CjsonDeepCardSaid : Prop := Claim7.holds Tryd.pinned (.plain (OpenSpec.ofChange cjsonDeepSpec)) cjsonDeepCard

/-- THE TIED CARD OF 'annalslaw13.CjsonOneText'. -/
def cjsonOneTextCard : Claim7 := { stood := { row := cjsonOneTextRow, standIns := [], harness := (true, "94bae002e99b9c5f04f0527db9e04365ff44ef736ee8ab72f4693a4ef25a35df"), looks := true }, kinds := [], alts := [], laidByText := true, laidKinds := [.data, .data, .data, .data, .pinned], laidTests := true, laidLooks := .later }
def CjsonOneTextCardSaid : Prop := Claim7.holds Tryd.pinned (.plain (OpenSpec.ofChange cjsonOneTextSpec)) cjsonOneTextCard

/-- THE TIED CARD OF 'annalslaw13.CjsonStable'. -/
def cjsonStableCard : Claim7 := { stood := { row := cjsonStableRow, standIns := [], harness := (true, "94bae002e99b9c5f04f0527db9e04365ff44ef736ee8ab72f4693a4ef25a35df"), looks := true }, kinds := [], alts := [], laidByText := true, laidKinds := [.data, .data, .data, .data, .pinned], laidTests := true, laidLooks := .later }
def CjsonStableCardSaid : Prop := Claim7.holds Tryd.pinned (.plain (OpenSpec.ofChange cjsonStableSpec)) cjsonStableCard

/-- THE TIED CARD OF 'annalslaw13.CjsonNumbers'. -/
def cjsonNumbersCard : Claim7 := { stood := { row := cjsonNumbersRow, standIns := [], harness := (true, "94bae002e99b9c5f04f0527db9e04365ff44ef736ee8ab72f4693a4ef25a35df"), looks := true }, kinds := [], alts := [], laidByText := true, laidKinds := [.data, .data, .data, .data, .pinned], laidTests := true, laidLooks := .later }
def CjsonNumbersCardSaid : Prop := Claim7.holds Tryd.pinned (.plain (OpenSpec.ofChange cjsonNumbersSpec)) cjsonNumbersCard

/-- THE SECOND FORM's CARD OF 'annalslaw13.CjsonBlanks'. -/
def cjsonBlanksUptoCard : Claim7 := { stood := { row := cjsonBlanksUptoRow, standIns := [], harness := (true, "94bae002e99b9c5f04f0527db9e04365ff44ef736ee8ab72f4693a4ef25a35df"), looks := true }, kinds := [], alts := [], laidByText := true, laidKinds := [.data, .data, .data, .data, .pinned], laidTests := true, laidLooks := .later }
def CjsonBlanksUptoCardSaid : Prop := Claim7.holds Tryd.pinned (.plain (OpenSpec.upto cjsonBlanksSpec)) cjsonBlanksUptoCard

/-- THE SECOND FORM's CARD OF 'annalslaw13.CjsonEscapes'. -/
def cjsonEscapesUptoCard : Claim7 := { stood := { row := cjsonEscapesUptoRow, standIns := [], harness := (true, "94bae002e99b9c5f04f0527db9e04365ff44ef736ee8ab72f4693a4ef25a35df"), looks := true }, kinds := [], alts := [], laidByText := true, laidKinds := [.data, .data, .data, .data, .pinned], laidTests := true, laidLooks := .later }
def CjsonEscapesUptoCardSaid : Prop := Claim7.holds Tryd.pinned (.plain (OpenSpec.upto cjsonEscapesSpec)) cjsonEscapesUptoCard

/-- THE SECOND FORM's CARD OF 'annalslaw13.CjsonDeep'. -/
def cjsonDeepUptoCard : Claim7 := { stood := { row := cjsonDeepUptoRow, standIns := [], harness := (true, "94bae002e99b9c5f04f0527db9e04365ff44ef736ee8ab72f4693a4ef25a35df"), looks := true }, kinds := [], alts := [], laidByText := true, laidKinds := [.data, .data, .data, .data, .pinned], laidTests := true, laidLooks := .later }
def CjsonDeepUptoCardSaid : Prop := Claim7.holds Tryd.pinned (.plain (OpenSpec.upto cjsonDeepSpec)) cjsonDeepUptoCard

/-- THE SECOND FORM's CARD OF 'annalslaw13.CjsonOneText'. -/
def cjsonOneTextUptoCard : Claim7 := { stood := { row := cjsonOneTextUptoRow, standIns := [], harness := (true, "94bae002e99b9c5f04f0527db9e04365ff44ef736ee8ab72f4693a4ef25a35df"), looks := true }, kinds := [], alts := [], laidByText := true, laidKinds := [.data, .data, .data, .data, .pinned], laidTests := true, laidLooks := .later }
def CjsonOneTextUptoCardSaid : Prop := Claim7.holds Tryd.pinned (.plain (OpenSpec.upto cjsonOneTextSpec)) cjsonOneTextUptoCard

/-- THE SECOND FORM's CARD OF 'annalslaw13.CjsonStable'. -/
def cjsonStableUptoCard : Claim7 := { stood := { row := cjsonStableUptoRow, standIns := [], harness := (true, "94bae002e99b9c5f04f0527db9e04365ff44ef736ee8ab72f4693a4ef25a35df"), looks := true }, kinds := [], alts := [], laidByText := true, laidKinds := [.data, .data, .data, .data, .pinned], laidTests := true, laidLooks := .later }
def CjsonStableUptoCardSaid : Prop := Claim7.holds Tryd.pinned (.plain (OpenSpec.upto cjsonStableSpec)) cjsonStableUptoCard

/-- THE SECOND FORM's CARD OF 'annalslaw13.CjsonNumbers'. -/
def cjsonNumbersUptoCard : Claim7 := { stood := { row := cjsonNumbersUptoRow, standIns := [], harness := (true, "94bae002e99b9c5f04f0527db9e04365ff44ef736ee8ab72f4693a4ef25a35df"), looks := true }, kinds := [], alts := [], laidByText := true, laidKinds := [.data, .data, .data, .data, .pinned], laidTests := true, laidLooks := .later }
def CjsonNumbersUptoCardSaid : Prop := Claim7.holds Tryd.pinned (.plain (OpenSpec.upto cjsonNumbersSpec)) cjsonNumbersUptoCard
end Rows
end Go.Proofs.YtbmeafeojcgndaaDoor
