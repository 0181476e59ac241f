/-
  DERIVED. GIVEN WITH THE SEED: THE CARDS: each row of YtoflmheodiajaaaGreatDoorRows.lean that lists a variable, with what it lists TIED to the program's text (the seventh form; the later family's looks); each row that meets fmt, with fmt's text TOLD by the authors' own Lean function (tested against real Go, not proved from fmt's source: count such statements apart). THE CARD IS WHAT COUNTS. Prove the row's statement (the work); the ties are given (YtoflmheodiajaaaGreatDoorTie.lean); close each card by the builder's one call (the guide's Derived/Test/ToyasCard.lean, 'card_holds'). Laid BY PROGRAM, IN A SANDBOX (cutbox-door.mjs). By AI agents, Wed Nov 11 2026. No macro, syntax, notation, axiom, sorry.
-/
import Derived.Test.YtoflmheodiajaaaGreatDoorRows
import GoSem.ClaimSeven
namespace Go.Proofs.YtoflmheodiajaaaGreatDoor
namespace Rows

/-- THE TIED CARD OF 'sosoptlaw42.FormatPolys'. -/
def formatPolysCard : Claim7 := { stood := { row := formatPolysRow, standIns := [], harness := (true, "dca7ef2c430182cbc4178d072a1f42df7b705649bfbaa577f0414eeeeaebbedb"), looks := true }, kinds := [], alts := [], laidByText := true, laidKinds := [.data, .data, .data, .data, .sentinel, .sentinel, .pinned], laidTests := true, laidLooks := .later }
def FormatPolysCardSaid : Prop := Claim7.holds Tryz.pinned (.plain (OpenSpec.ofChange formatPolysSpec)) formatPolysCard

/-- THE TIED CARD OF 'sosoptlaw42.FormatZero'. -/
def formatZeroCard : Claim7 := { stood := { row := formatZeroRow, standIns := [], harness := (true, "dca7ef2c430182cbc4178d072a1f42df7b705649bfbaa577f0414eeeeaebbedb"), looks := true }, kinds := [], alts := [], laidByText := true, laidKinds := [.data, .data, .data, .data, .sentinel, .sentinel, .pinned], laidTests := true, laidLooks := .later }
def FormatZeroCardSaid : Prop := Claim7.holds Tryz.pinned (.plain (OpenSpec.ofChange formatZeroSpec)) formatZeroCard

/-- THE TIED CARD OF 'sosoptlaw42.FormatLong'. -/
def formatLongCard : Claim7 := { stood := { row := formatLongRow, standIns := [], harness := (true, "dca7ef2c430182cbc4178d072a1f42df7b705649bfbaa577f0414eeeeaebbedb"), looks := true }, kinds := [], alts := [], laidByText := true, laidKinds := [.data, .data, .data, .data, .sentinel, .sentinel, .pinned], laidTests := true, laidLooks := .later }
def FormatLongCardSaid : Prop := Claim7.holds Tryz.pinned (.plain (OpenSpec.ofChange formatLongSpec)) formatLongCard

/-- THE SECOND FORM's CARD OF 'sosoptlaw42.FormatPolys'. -/
def formatPolysUptoCard : Claim7 := { stood := { row := formatPolysUptoRow, standIns := [], harness := (true, "dca7ef2c430182cbc4178d072a1f42df7b705649bfbaa577f0414eeeeaebbedb"), looks := true }, kinds := [], alts := [], laidByText := true, laidKinds := [.data, .data, .data, .data, .sentinel, .sentinel, .pinned], laidTests := true, laidLooks := .later }
def FormatPolysUptoCardSaid : Prop := Claim7.holds Tryz.pinned (.plain (OpenSpec.upto formatPolysSpec)) formatPolysUptoCard

/-- THE SECOND FORM's CARD OF 'sosoptlaw42.FormatZero'. -/
def formatZeroUptoCard : Claim7 := { stood := { row := formatZeroUptoRow, standIns := [], harness := (true, "dca7ef2c430182cbc4178d072a1f42df7b705649bfbaa577f0414eeeeaebbedb"), looks := true }, kinds := [], alts := [], laidByText := true, laidKinds := [.data, .data, .data, .data, .sentinel, .sentinel, .pinned], laidTests := true, laidLooks := .later }
def FormatZeroUptoCardSaid : Prop := Claim7.holds Tryz.pinned (.plain (OpenSpec.upto formatZeroSpec)) formatZeroUptoCard

/-- THE SECOND FORM's CARD OF 'sosoptlaw42.FormatLong'. -/
def formatLongUptoCard : Claim7 := { stood := { row := formatLongUptoRow, standIns := [], harness := (true, "dca7ef2c430182cbc4178d072a1f42df7b705649bfbaa577f0414eeeeaebbedb"), looks := true }, kinds := [], alts := [], laidByText := true, laidKinds := [.data, .data, .data, .data, .sentinel, .sentinel, .pinned], laidTests := true, laidLooks := .later }
def FormatLongUptoCardSaid : Prop := Claim7.holds Tryz.pinned (.plain (OpenSpec.upto formatLongSpec)) formatLongUptoCard
end Rows
end Go.Proofs.YtoflmheodiajaaaGreatDoor
