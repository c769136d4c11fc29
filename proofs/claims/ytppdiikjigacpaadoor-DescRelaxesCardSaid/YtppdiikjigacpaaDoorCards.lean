/-
  DERIVED. GIVEN WITH THE SEED: THE CARDS: each row of YtppdiikjigacpaaDoorRows.lean that lists a variable, with what it lists TIED to the program's text (the seventh form; the later family's looks); each row that meets fmt, with fmt's text TOLD by the authors' own Lean function (tested against real Go, not proved from fmt's source: count such statements apart). THE CARD IS WHAT COUNTS. Prove the row's statement (the work); the ties are given (YtppdiikjigacpaaDoorTie.lean); close each card by the builder's one call (the guide's Derived/Test/ToyasCard.lean, 'card_holds'). Laid BY PROGRAM, IN A SANDBOX (cutbox-door.mjs). By AI agents, Wed Nov 11 2026. No macro, syntax, notation, axiom, sorry.
-/
import Derived.Test.YtppdiikjigacpaaDoorRows
import GoSem.ClaimSeven
namespace Go.Proofs.YtppdiikjigacpaaDoor
namespace Rows

/-- THE TIED CARD OF 'kraallaw07.DescKinds'. -/
def descKindsCard : Claim7 := { stood := { row := descKindsRow, standIns := [], harness := (true, "b5e35eaff84c047f220b17057c392b09b97f392ca1ad7c4a9b78bc4ca82a94d0"), looks := false }, kinds := [], alts := [], laidByText := true, laidKinds := [.data], laidTests := true, laidLooks := .later }
def DescKindsCardSaid : Prop := Claim7.holds Tryd.pinned (.plain (OpenSpec.ofChange descKindsSpec)) descKindsCard

/-- THE TIED CARD OF 'kraallaw07.DescMay'. -/
def descMayCard : Claim7 := { stood := { row := descMayRow, standIns := [], harness := (true, "b5e35eaff84c047f220b17057c392b09b97f392ca1ad7c4a9b78bc4ca82a94d0"), looks := false }, kinds := [], alts := [], laidByText := true, laidKinds := [.data], laidTests := true, laidLooks := .later }
def DescMayCardSaid : Prop := Claim7.holds Tryd.pinned (.plain (OpenSpec.ofChange descMaySpec)) descMayCard

/-- THE TIED CARD OF 'kraallaw07.DescRelaxes'. -/
def descRelaxesCard : Claim7 := { stood := { row := descRelaxesRow, standIns := [], harness := (true, "b5e35eaff84c047f220b17057c392b09b97f392ca1ad7c4a9b78bc4ca82a94d0"), looks := false }, kinds := [], alts := [], laidByText := true, laidKinds := [.data], laidTests := true, laidLooks := .later }
def DescRelaxesCardSaid : Prop := Claim7.holds Tryd.pinned (.plain (OpenSpec.ofChange descRelaxesSpec)) descRelaxesCard

/-- THE SECOND FORM's CARD OF 'kraallaw07.DescKinds'. -/
def descKindsUptoCard : Claim7 := { stood := { row := descKindsUptoRow, standIns := [], harness := (true, "b5e35eaff84c047f220b17057c392b09b97f392ca1ad7c4a9b78bc4ca82a94d0"), looks := false }, kinds := [], alts := [], laidByText := true, laidKinds := [.data], laidTests := true, laidLooks := .later }
def DescKindsUptoCardSaid : Prop := Claim7.holds Tryd.pinned (.plain (OpenSpec.upto descKindsSpec)) descKindsUptoCard

/-- THE SECOND FORM's CARD OF 'kraallaw07.DescMay'. -/
def descMayUptoCard : Claim7 := { stood := { row := descMayUptoRow, standIns := [], harness := (true, "b5e35eaff84c047f220b17057c392b09b97f392ca1ad7c4a9b78bc4ca82a94d0"), looks := false }, kinds := [], alts := [], laidByText := true, laidKinds := [.data], laidTests := true, laidLooks := .later }
def DescMayUptoCardSaid : Prop := Claim7.holds Tryd.pinned (.plain (OpenSpec.upto descMaySpec)) descMayUptoCard

/-- THE SECOND FORM's CARD OF 'kraallaw07.DescRelaxes'. -/
def descRelaxesUptoCard : Claim7 := { stood := { row := descRelaxesUptoRow, standIns := [], harness := (true, "b5e35eaff84c047f220b17057c392b09b97f392ca1ad7c4a9b78bc4ca82a94d0"), looks := false }, kinds := [], alts := [], laidByText := true, laidKinds := [.data], laidTests := true, laidLooks := .later }
def DescRelaxesUptoCardSaid : Prop := Claim7.holds Tryd.pinned (.plain (OpenSpec.upto descRelaxesSpec)) descRelaxesUptoCard
end Rows
end Go.Proofs.YtppdiikjigacpaaDoor
