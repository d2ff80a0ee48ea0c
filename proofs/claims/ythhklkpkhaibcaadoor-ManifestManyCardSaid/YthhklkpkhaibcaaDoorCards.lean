/-
  DERIVED. GIVEN WITH THE SEED: THE CARDS: each row of YthhklkpkhaibcaaDoorRows.lean that lists a variable, with what it lists TIED to the program's text (the seventh form; the later family's looks); each row that meets fmt, with fmt's text TOLD by the authors' own Lean function (tested against real Go, not proved from fmt's source: count such statements apart). THE CARD IS WHAT COUNTS. Prove the row's statement (the work); the ties are given (YthhklkpkhaibcaaDoorTie.lean); close each card by the builder's one call (the guide's Derived/Test/ToyasCard.lean, 'card_holds'). Laid BY PROGRAM, IN A SANDBOX (cutbox-door.mjs). By AI agents, Wed Nov 11 2026. No macro, syntax, notation, axiom, sorry.
-/
import Derived.Test.YthhklkpkhaibcaaDoorRows
import GoSem.ClaimSeven
namespace Go.Proofs.YthhklkpkhaibcaaDoor
namespace Rows

/-- THE TIED CARD OF 'annalslaw8.ManifestNames'. -/
def manifestNamesCard : Claim7 := { stood := { row := manifestNamesRow, standIns := [], harness := (true, "1611941819dace6042f41044927da624efff52692f481cba7161729559969b15"), looks := true }, kinds := [], alts := [], laidByText := true, laidKinds := [.data, .data, .data], laidTests := true, laidLooks := .later }
def ManifestNamesCardSaid : Prop := Claim7.holds Tryd.pinned (.plain (OpenSpec.ofChange manifestNamesSpec)) manifestNamesCard

/-- THE TIED CARD OF 'annalslaw8.ManifestMany'. -/
def manifestManyCard : Claim7 := { stood := { row := manifestManyRow, standIns := [], harness := (true, "1611941819dace6042f41044927da624efff52692f481cba7161729559969b15"), looks := true }, kinds := [], alts := [], laidByText := true, laidKinds := [.data, .data, .data], laidTests := true, laidLooks := .later }
def ManifestManyCardSaid : Prop := Claim7.holds Tryd.pinned (.plain (OpenSpec.ofChange manifestManySpec)) manifestManyCard

/-- THE TIED CARD OF 'annalslaw8.ManifestSweeps'. -/
def manifestSweepsCard : Claim7 := { stood := { row := manifestSweepsRow, standIns := [], harness := (true, "1611941819dace6042f41044927da624efff52692f481cba7161729559969b15"), looks := true }, kinds := [], alts := [], laidByText := true, laidKinds := [.data, .data, .data], laidTests := true, laidLooks := .later }
def ManifestSweepsCardSaid : Prop := Claim7.holds Tryd.pinned (.plain (OpenSpec.ofChange manifestSweepsSpec)) manifestSweepsCard

/-- THE SECOND FORM's CARD OF 'annalslaw8.ManifestNames'. -/
def manifestNamesUptoCard : Claim7 := { stood := { row := manifestNamesUptoRow, standIns := [], harness := (true, "1611941819dace6042f41044927da624efff52692f481cba7161729559969b15"), looks := true }, kinds := [], alts := [], laidByText := true, laidKinds := [.data, .data, .data], laidTests := true, laidLooks := .later }
def ManifestNamesUptoCardSaid : Prop := Claim7.holds Tryd.pinned (.plain (OpenSpec.upto manifestNamesSpec)) manifestNamesUptoCard

/-- THE SECOND FORM's CARD OF 'annalslaw8.ManifestMany'. -/
def manifestManyUptoCard : Claim7 := { stood := { row := manifestManyUptoRow, standIns := [], harness := (true, "1611941819dace6042f41044927da624efff52692f481cba7161729559969b15"), looks := true }, kinds := [], alts := [], laidByText := true, laidKinds := [.data, .data, .data], laidTests := true, laidLooks := .later }
def ManifestManyUptoCardSaid : Prop := Claim7.holds Tryd.pinned (.plain (OpenSpec.upto manifestManySpec)) manifestManyUptoCard

/-- THE SECOND FORM's CARD OF 'annalslaw8.ManifestSweeps'. -/
def manifestSweepsUptoCard : Claim7 := { stood := { row := manifestSweepsUptoRow, standIns := [], harness := (true, "1611941819dace6042f41044927da624efff52692f481cba7161729559969b15"), looks := true }, kinds := [], alts := [], laidByText := true, laidKinds := [.data, .data, .data], laidTests := true, laidLooks := .later }
def ManifestSweepsUptoCardSaid : Prop := Claim7.holds Tryd.pinned (.plain (OpenSpec.upto manifestSweepsSpec)) manifestSweepsUptoCard
end Rows
end Go.Proofs.YthhklkpkhaibcaaDoor
