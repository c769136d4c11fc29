/-
  DERIVED. GIVEN WITH THE SEED: THE CARDS: each row of YtopjgcljdianoaaDoorRows.lean that lists a variable, with what it lists TIED to the program's text (the seventh form; the later family's looks); each row that meets fmt, with fmt's text TOLD by the authors' own Lean function (tested against real Go, not proved from fmt's source: count such statements apart). THE CARD IS WHAT COUNTS. Prove the row's statement (the work); the ties are given (YtopjgcljdianoaaDoorTie.lean); close each card by the builder's one call (the guide's Derived/Test/ToyasCard.lean, 'card_holds'). Laid BY PROGRAM, IN A SANDBOX (cutbox-door.mjs). By AI agents, Wed Nov 11 2026. No macro, syntax, notation, axiom, sorry.
-/
import Derived.Test.YtopjgcljdianoaaDoorRows
import GoSem.ClaimSeven
namespace Go.Proofs.YtopjgcljdianoaaDoor
namespace Rows

/-- THE TIED CARD OF 'kraallaw08.HeaderOne'. -/
def headerOneCard : Claim7 := { stood := { row := headerOneRow, standIns := [], harness := (true, "c4905b80255b4b9f7ddb1f5f0cece25baf4d9d8b3bd899a9b1a581c724d9554c"), looks := false }, kinds := [], alts := [], laidByText := true, laidKinds := [.data], laidTests := true, laidLooks := .later }
def HeaderOneCardSaid : Prop := Claim7.holds Tryd.pinned (.plain (OpenSpec.ofChange headerOneSpec)) headerOneCard

/-- THE TIED CARD OF 'kraallaw08.HeaderPuts'. -/
def headerPutsCard : Claim7 := { stood := { row := headerPutsRow, standIns := [], harness := (true, "c4905b80255b4b9f7ddb1f5f0cece25baf4d9d8b3bd899a9b1a581c724d9554c"), looks := false }, kinds := [], alts := [], laidByText := true, laidKinds := [.data], laidTests := true, laidLooks := .later }
def HeaderPutsCardSaid : Prop := Claim7.holds Tryd.pinned (.plain (OpenSpec.ofChange headerPutsSpec)) headerPutsCard

/-- THE TIED CARD OF 'kraallaw08.HeaderGets'. -/
def headerGetsCard : Claim7 := { stood := { row := headerGetsRow, standIns := [], harness := (true, "c4905b80255b4b9f7ddb1f5f0cece25baf4d9d8b3bd899a9b1a581c724d9554c"), looks := false }, kinds := [], alts := [], laidByText := true, laidKinds := [.data], laidTests := true, laidLooks := .later }
def HeaderGetsCardSaid : Prop := Claim7.holds Tryd.pinned (.plain (OpenSpec.ofChange headerGetsSpec)) headerGetsCard

/-- THE SECOND FORM's CARD OF 'kraallaw08.HeaderOne'. -/
def headerOneUptoCard : Claim7 := { stood := { row := headerOneUptoRow, standIns := [], harness := (true, "c4905b80255b4b9f7ddb1f5f0cece25baf4d9d8b3bd899a9b1a581c724d9554c"), looks := false }, kinds := [], alts := [], laidByText := true, laidKinds := [.data], laidTests := true, laidLooks := .later }
def HeaderOneUptoCardSaid : Prop := Claim7.holds Tryd.pinned (.plain (OpenSpec.upto headerOneSpec)) headerOneUptoCard

/-- THE SECOND FORM's CARD OF 'kraallaw08.HeaderPuts'. -/
def headerPutsUptoCard : Claim7 := { stood := { row := headerPutsUptoRow, standIns := [], harness := (true, "c4905b80255b4b9f7ddb1f5f0cece25baf4d9d8b3bd899a9b1a581c724d9554c"), looks := false }, kinds := [], alts := [], laidByText := true, laidKinds := [.data], laidTests := true, laidLooks := .later }
def HeaderPutsUptoCardSaid : Prop := Claim7.holds Tryd.pinned (.plain (OpenSpec.upto headerPutsSpec)) headerPutsUptoCard

/-- THE SECOND FORM's CARD OF 'kraallaw08.HeaderGets'. -/
def headerGetsUptoCard : Claim7 := { stood := { row := headerGetsUptoRow, standIns := [], harness := (true, "c4905b80255b4b9f7ddb1f5f0cece25baf4d9d8b3bd899a9b1a581c724d9554c"), looks := false }, kinds := [], alts := [], laidByText := true, laidKinds := [.data], laidTests := true, laidLooks := .later }
def HeaderGetsUptoCardSaid : Prop := Claim7.holds Tryd.pinned (.plain (OpenSpec.upto headerGetsSpec)) headerGetsUptoCard
end Rows
end Go.Proofs.YtopjgcljdianoaaDoor
