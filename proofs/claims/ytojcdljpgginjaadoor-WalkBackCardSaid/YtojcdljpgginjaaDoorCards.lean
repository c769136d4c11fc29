/-
  DERIVED. GIVEN WITH THE SEED: THE CARDS: each row of YtojcdljpgginjaaDoorRows.lean that lists a variable, with what it lists TIED to the program's text (the seventh form; the later family's looks); each row that meets fmt, with fmt's text TOLD by the authors' own Lean function (tested against real Go, not proved from fmt's source: count such statements apart). THE CARD IS WHAT COUNTS. Prove the row's statement (the work); the ties are given (YtojcdljpgginjaaDoorTie.lean); close each card by the builder's one call (the guide's Derived/Test/ToyasCard.lean, 'card_holds'). Laid BY PROGRAM, IN A SANDBOX (cutbox-door.mjs). By AI agents, Wed Nov 11 2026. No macro, syntax, notation, axiom, sorry.
-/
import Derived.Test.YtojcdljpgginjaaDoorRows
import GoSem.ClaimSeven
namespace Go.Proofs.YtojcdljpgginjaaDoor
namespace Rows

/-- THE TIED CARD OF 'kraallaw12.WalkPuts'. -/
def walkPutsCard : Claim7 := { stood := { row := walkPutsRow, standIns := [], harness := (true, "e2a5742d79ad9e8442fc9eea8e339c5afdce8ec366833139ba681bf18a7f1c8e"), looks := false }, kinds := [], alts := [], laidByText := true, laidKinds := [.data], laidTests := true, laidLooks := .later }
def WalkPutsCardSaid : Prop := Claim7.holds Tryd.pinned (.plain (OpenSpec.ofChange walkPutsSpec)) walkPutsCard

/-- THE TIED CARD OF 'kraallaw12.WalkBack'. -/
def walkBackCard : Claim7 := { stood := { row := walkBackRow, standIns := [], harness := (true, "e2a5742d79ad9e8442fc9eea8e339c5afdce8ec366833139ba681bf18a7f1c8e"), looks := false }, kinds := [], alts := [], laidByText := true, laidKinds := [.data], laidTests := true, laidLooks := .later }
def WalkBackCardSaid : Prop := Claim7.holds Tryd.pinned (.plain (OpenSpec.ofChange walkBackSpec)) walkBackCard

/-- THE TIED CARD OF 'kraallaw12.WalkOne'. -/
def walkOneCard : Claim7 := { stood := { row := walkOneRow, standIns := [], harness := (true, "e2a5742d79ad9e8442fc9eea8e339c5afdce8ec366833139ba681bf18a7f1c8e"), looks := false }, kinds := [], alts := [], laidByText := true, laidKinds := [.data], laidTests := true, laidLooks := .later }
def WalkOneCardSaid : Prop := Claim7.holds Tryd.pinned (.plain (OpenSpec.ofChange walkOneSpec)) walkOneCard

/-- THE SECOND FORM's CARD OF 'kraallaw12.WalkPuts'. -/
def walkPutsUptoCard : Claim7 := { stood := { row := walkPutsUptoRow, standIns := [], harness := (true, "e2a5742d79ad9e8442fc9eea8e339c5afdce8ec366833139ba681bf18a7f1c8e"), looks := false }, kinds := [], alts := [], laidByText := true, laidKinds := [.data], laidTests := true, laidLooks := .later }
def WalkPutsUptoCardSaid : Prop := Claim7.holds Tryd.pinned (.plain (OpenSpec.upto walkPutsSpec)) walkPutsUptoCard

/-- THE SECOND FORM's CARD OF 'kraallaw12.WalkBack'. -/
def walkBackUptoCard : Claim7 := { stood := { row := walkBackUptoRow, standIns := [], harness := (true, "e2a5742d79ad9e8442fc9eea8e339c5afdce8ec366833139ba681bf18a7f1c8e"), looks := false }, kinds := [], alts := [], laidByText := true, laidKinds := [.data], laidTests := true, laidLooks := .later }
def WalkBackUptoCardSaid : Prop := Claim7.holds Tryd.pinned (.plain (OpenSpec.upto walkBackSpec)) walkBackUptoCard

/-- THE SECOND FORM's CARD OF 'kraallaw12.WalkOne'. -/
def walkOneUptoCard : Claim7 := { stood := { row := walkOneUptoRow, standIns := [], harness := (true, "e2a5742d79ad9e8442fc9eea8e339c5afdce8ec366833139ba681bf18a7f1c8e"), looks := false }, kinds := [], alts := [], laidByText := true, laidKinds := [.data], laidTests := true, laidLooks := .later }
def WalkOneUptoCardSaid : Prop := Claim7.holds Tryd.pinned (.plain (OpenSpec.upto walkOneSpec)) walkOneUptoCard
end Rows
end Go.Proofs.YtojcdljpgginjaaDoor
