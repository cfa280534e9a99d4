/-
  DERIVED. GIVEN WITH THE SEED: THE CARDS: each row of YtenhimaclecdpaaDoorRows.lean that lists a variable, with what it lists TIED to the program's text (the seventh form; the later family's looks); each row that meets fmt, with fmt's text TOLD by the authors' own Lean function (tested against real Go, not proved from fmt's source: count such statements apart). THE CARD IS WHAT COUNTS. Prove the row's statement (the work); the ties are given (YtenhimaclecdpaaDoorTie.lean); close each card by the builder's one call (the guide's Derived/Test/ToyasCard.lean, 'card_holds'). Laid BY PROGRAM, IN A SANDBOX (cutbox-door.mjs). By AI agents, Wed Nov 11 2026. No macro, syntax, notation, axiom, sorry.
-/
import Derived.Test.YtenhimaclecdpaaDoorRows
import GoSem.ClaimSeven
namespace Go.Proofs.YtenhimaclecdpaaDoor
namespace Rows

/-- THE TIED CARD OF 'almshouselaw33.EccChecks'. -/
def eccChecksCard : Claim7 := { stood := { row := eccChecksRow, standIns := [], harness := (true, "85f83e034453a9dfc1c306f7a62a7696f067552419815e9dcca070dbc832d508"), looks := false }, kinds := [], alts := [], laidByText := true, laidKinds := [.data], laidTests := true, laidLooks := .later }
def EccChecksCardSaid : Prop := Claim7.holds Tryd.pinned (.plain (OpenSpec.ofChange eccChecksSpec)) eccChecksCard

/-- THE TIED CARD OF 'almshouselaw33.EccMends'. -/
def eccMendsCard : Claim7 := { stood := { row := eccMendsRow, standIns := [], harness := (true, "85f83e034453a9dfc1c306f7a62a7696f067552419815e9dcca070dbc832d508"), looks := false }, kinds := [], alts := [], laidByText := true, laidKinds := [.data], laidTests := true, laidLooks := .later }
def EccMendsCardSaid : Prop := Claim7.holds Tryd.pinned (.plain (OpenSpec.ofChange eccMendsSpec)) eccMendsCard

/-- THE TIED CARD OF 'almshouselaw33.EccGuards'. -/
def eccGuardsCard : Claim7 := { stood := { row := eccGuardsRow, standIns := [], harness := (true, "85f83e034453a9dfc1c306f7a62a7696f067552419815e9dcca070dbc832d508"), looks := false }, kinds := [], alts := [], laidByText := true, laidKinds := [.data], laidTests := true, laidLooks := .later }
def EccGuardsCardSaid : Prop := Claim7.holds Tryd.pinned (.plain (OpenSpec.ofChange eccGuardsSpec)) eccGuardsCard

/-- THE TIED CARD OF 'almshouselaw33.EccOpens'. -/
def eccOpensCard : Claim7 := { stood := { row := eccOpensRow, standIns := [], harness := (true, "85f83e034453a9dfc1c306f7a62a7696f067552419815e9dcca070dbc832d508"), looks := false }, kinds := [], alts := [], laidByText := true, laidKinds := [.data], laidTests := true, laidLooks := .later }
def EccOpensCardSaid : Prop := Claim7.holds Tryd.pinned (.plain (OpenSpec.ofChange eccOpensSpec)) eccOpensCard

/-- THE SECOND FORM's CARD OF 'almshouselaw33.EccChecks'. -/
def eccChecksUptoCard : Claim7 := { stood := { row := eccChecksUptoRow, standIns := [], harness := (true, "85f83e034453a9dfc1c306f7a62a7696f067552419815e9dcca070dbc832d508"), looks := false }, kinds := [], alts := [], laidByText := true, laidKinds := [.data], laidTests := true, laidLooks := .later }
def EccChecksUptoCardSaid : Prop := Claim7.holds Tryd.pinned (.plain (OpenSpec.upto eccChecksSpec)) eccChecksUptoCard

/-- THE SECOND FORM's CARD OF 'almshouselaw33.EccMends'. -/
def eccMendsUptoCard : Claim7 := { stood := { row := eccMendsUptoRow, standIns := [], harness := (true, "85f83e034453a9dfc1c306f7a62a7696f067552419815e9dcca070dbc832d508"), looks := false }, kinds := [], alts := [], laidByText := true, laidKinds := [.data], laidTests := true, laidLooks := .later }
def EccMendsUptoCardSaid : Prop := Claim7.holds Tryd.pinned (.plain (OpenSpec.upto eccMendsSpec)) eccMendsUptoCard

/-- THE SECOND FORM's CARD OF 'almshouselaw33.EccGuards'. -/
def eccGuardsUptoCard : Claim7 := { stood := { row := eccGuardsUptoRow, standIns := [], harness := (true, "85f83e034453a9dfc1c306f7a62a7696f067552419815e9dcca070dbc832d508"), looks := false }, kinds := [], alts := [], laidByText := true, laidKinds := [.data], laidTests := true, laidLooks := .later }
def EccGuardsUptoCardSaid : Prop := Claim7.holds Tryd.pinned (.plain (OpenSpec.upto eccGuardsSpec)) eccGuardsUptoCard

/-- THE SECOND FORM's CARD OF 'almshouselaw33.EccOpens'. -/
def eccOpensUptoCard : Claim7 := { stood := { row := eccOpensUptoRow, standIns := [], harness := (true, "85f83e034453a9dfc1c306f7a62a7696f067552419815e9dcca070dbc832d508"), looks := false }, kinds := [], alts := [], laidByText := true, laidKinds := [.data], laidTests := true, laidLooks := .later }
def EccOpensUptoCardSaid : Prop := Claim7.holds Tryd.pinned (.plain (OpenSpec.upto eccOpensSpec)) eccOpensUptoCard
end Rows
end Go.Proofs.YtenhimaclecdpaaDoor
