/-
  DERIVED. GIVEN WITH THE SEED: THE CARDS: each row of YtcenagpkfimkbaaGreatDoorRows.lean that lists a variable, with what it lists TIED to the program's text (the seventh form; the later family's looks); each row that meets fmt, with fmt's text TOLD by the authors' own Lean function (tested against real Go, not proved from fmt's source: count such statements apart). THE CARD IS WHAT COUNTS. Prove the row's statement (the work); the ties are given (YtcenagpkfimkbaaGreatDoorTie.lean); close each card by the builder's one call (the guide's Derived/Test/ToyasCard.lean, 'card_holds'). Laid BY PROGRAM, IN A SANDBOX (cutbox-door.mjs). By AI agents, Wed Nov 11 2026. No macro, syntax, notation, axiom, sorry.
-/
import Derived.Test.YtcenagpkfimkbaaGreatDoorRows
import GoSem.ClaimSeven
namespace Go.Proofs.YtcenagpkfimkbaaGreatDoor
namespace Rows

/-- THE TIED CARD OF 'kraaltop.TopGraph'. -/
def topGraphCard : Claim7 := { stood := { row := topGraphRow, standIns := [], harness := (true, "a9e2684ec4dd7351a341bcf2b98a4e3199ff06b9d1ec3c3c53ad3c6f9f063929"), looks := false }, kinds := [], alts := [], laidByText := true, laidKinds := [.data, .data], laidTests := true, laidLooks := .later }
def TopGraphCardSaid : Prop := Claim7.holds Tryz.pinned (.plain (OpenSpec.ofChange topGraphSpec)) topGraphCard

/-- THE TIED CARD OF 'kraaltop.TopNames'. -/
def topNamesCard : Claim7 := { stood := { row := topNamesRow, standIns := [], harness := (true, "a9e2684ec4dd7351a341bcf2b98a4e3199ff06b9d1ec3c3c53ad3c6f9f063929"), looks := false }, kinds := [], alts := [], laidByText := true, laidKinds := [.data, .data], laidTests := true, laidLooks := .later }
def TopNamesCardSaid : Prop := Claim7.holds Tryz.pinned (.plain (OpenSpec.ofChange topNamesSpec)) topNamesCard

/-- THE TIED CARD OF 'kraaltop.TopSlots'. -/
def topSlotsCard : Claim7 := { stood := { row := topSlotsRow, standIns := [], harness := (true, "a9e2684ec4dd7351a341bcf2b98a4e3199ff06b9d1ec3c3c53ad3c6f9f063929"), looks := false }, kinds := [], alts := [], laidByText := true, laidKinds := [.data, .data], laidTests := true, laidLooks := .later }
def TopSlotsCardSaid : Prop := Claim7.holds Tryz.pinned (.plain (OpenSpec.ofChange topSlotsSpec)) topSlotsCard

/-- THE SECOND FORM's CARD OF 'kraaltop.TopGraph'. -/
def topGraphUptoCard : Claim7 := { stood := { row := topGraphUptoRow, standIns := [], harness := (true, "a9e2684ec4dd7351a341bcf2b98a4e3199ff06b9d1ec3c3c53ad3c6f9f063929"), looks := false }, kinds := [], alts := [], laidByText := true, laidKinds := [.data, .data], laidTests := true, laidLooks := .later }
def TopGraphUptoCardSaid : Prop := Claim7.holds Tryz.pinned (.plain (OpenSpec.upto topGraphSpec)) topGraphUptoCard

/-- THE SECOND FORM's CARD OF 'kraaltop.TopNames'. -/
def topNamesUptoCard : Claim7 := { stood := { row := topNamesUptoRow, standIns := [], harness := (true, "a9e2684ec4dd7351a341bcf2b98a4e3199ff06b9d1ec3c3c53ad3c6f9f063929"), looks := false }, kinds := [], alts := [], laidByText := true, laidKinds := [.data, .data], laidTests := true, laidLooks := .later }
def TopNamesUptoCardSaid : Prop := Claim7.holds Tryz.pinned (.plain (OpenSpec.upto topNamesSpec)) topNamesUptoCard

/-- THE SECOND FORM's CARD OF 'kraaltop.TopSlots'. -/
def topSlotsUptoCard : Claim7 := { stood := { row := topSlotsUptoRow, standIns := [], harness := (true, "a9e2684ec4dd7351a341bcf2b98a4e3199ff06b9d1ec3c3c53ad3c6f9f063929"), looks := false }, kinds := [], alts := [], laidByText := true, laidKinds := [.data, .data], laidTests := true, laidLooks := .later }
def TopSlotsUptoCardSaid : Prop := Claim7.holds Tryz.pinned (.plain (OpenSpec.upto topSlotsSpec)) topSlotsUptoCard
end Rows
end Go.Proofs.YtcenagpkfimkbaaGreatDoor
