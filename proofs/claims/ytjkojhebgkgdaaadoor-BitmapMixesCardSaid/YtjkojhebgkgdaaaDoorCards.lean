/-
  DERIVED. GIVEN WITH THE SEED: THE CARDS: each row of YtjkojhebgkgdaaaDoorRows.lean that lists a variable, with what it lists TIED to the program's text (the seventh form; the later family's looks); each row that meets fmt, with fmt's text TOLD by the authors' own Lean function (tested against real Go, not proved from fmt's source: count such statements apart). THE CARD IS WHAT COUNTS. Prove the row's statement (the work); the ties are given (YtjkojhebgkgdaaaDoorTie.lean); close each card by the builder's one call (the guide's Derived/Test/ToyasCard.lean, 'card_holds'). Laid BY PROGRAM, IN A SANDBOX (cutbox-door.mjs). By AI agents, Wed Nov 11 2026. No macro, syntax, notation, axiom, sorry.
-/
import Derived.Test.YtjkojhebgkgdaaaDoorRows
import GoSem.ClaimSeven
namespace Go.Proofs.YtjkojhebgkgdaaaDoor
namespace Rows

/-- THE TIED CARD OF 'almshouselaw32.BitmapParses'. -/
def bitmapParsesCard : Claim7 := { stood := { row := bitmapParsesRow, standIns := [], harness := (true, "033079d969538d5fa15302adc7d58945660d2bc9a00f93f3459a0bedd812b923"), looks := false }, kinds := [], alts := [], laidByText := true, laidKinds := [.data], laidTests := true, laidLooks := .later }
def BitmapParsesCardSaid : Prop := Claim7.holds Tryd.pinned (.plain (OpenSpec.ofChange bitmapParsesSpec)) bitmapParsesCard

/-- THE TIED CARD OF 'almshouselaw32.BitmapMixes'. -/
def bitmapMixesCard : Claim7 := { stood := { row := bitmapMixesRow, standIns := [], harness := (true, "033079d969538d5fa15302adc7d58945660d2bc9a00f93f3459a0bedd812b923"), looks := false }, kinds := [], alts := [], laidByText := true, laidKinds := [.data], laidTests := true, laidLooks := .later }
def BitmapMixesCardSaid : Prop := Claim7.holds Tryd.pinned (.plain (OpenSpec.ofChange bitmapMixesSpec)) bitmapMixesCard

/-- THE TIED CARD OF 'almshouselaw32.BitmapPlays'. -/
def bitmapPlaysCard : Claim7 := { stood := { row := bitmapPlaysRow, standIns := [], harness := (true, "033079d969538d5fa15302adc7d58945660d2bc9a00f93f3459a0bedd812b923"), looks := false }, kinds := [], alts := [], laidByText := true, laidKinds := [.data], laidTests := true, laidLooks := .later }
def BitmapPlaysCardSaid : Prop := Claim7.holds Tryd.pinned (.plain (OpenSpec.ofChange bitmapPlaysSpec)) bitmapPlaysCard

/-- THE SECOND FORM's CARD OF 'almshouselaw32.BitmapParses'. -/
def bitmapParsesUptoCard : Claim7 := { stood := { row := bitmapParsesUptoRow, standIns := [], harness := (true, "033079d969538d5fa15302adc7d58945660d2bc9a00f93f3459a0bedd812b923"), looks := false }, kinds := [], alts := [], laidByText := true, laidKinds := [.data], laidTests := true, laidLooks := .later }
def BitmapParsesUptoCardSaid : Prop := Claim7.holds Tryd.pinned (.plain (OpenSpec.upto bitmapParsesSpec)) bitmapParsesUptoCard

/-- THE SECOND FORM's CARD OF 'almshouselaw32.BitmapMixes'. -/
def bitmapMixesUptoCard : Claim7 := { stood := { row := bitmapMixesUptoRow, standIns := [], harness := (true, "033079d969538d5fa15302adc7d58945660d2bc9a00f93f3459a0bedd812b923"), looks := false }, kinds := [], alts := [], laidByText := true, laidKinds := [.data], laidTests := true, laidLooks := .later }
def BitmapMixesUptoCardSaid : Prop := Claim7.holds Tryd.pinned (.plain (OpenSpec.upto bitmapMixesSpec)) bitmapMixesUptoCard

/-- THE SECOND FORM's CARD OF 'almshouselaw32.BitmapPlays'. -/
def bitmapPlaysUptoCard : Claim7 := { stood := { row := bitmapPlaysUptoRow, standIns := [], harness := (true, "033079d969538d5fa15302adc7d58945660d2bc9a00f93f3459a0bedd812b923"), looks := false }, kinds := [], alts := [], laidByText := true, laidKinds := [.data], laidTests := true, laidLooks := .later }
def BitmapPlaysUptoCardSaid : Prop := Claim7.holds Tryd.pinned (.plain (OpenSpec.upto bitmapPlaysSpec)) bitmapPlaysUptoCard
end Rows
end Go.Proofs.YtjkojhebgkgdaaaDoor
