/-
  NARROWER THAN 'FOR EVERY INPUT', by the rows' own cells (each row's printed sentence says how): TopGraph: laid · TopNames: laid · TopSlots: laid.
  DERIVED. THE GIVEN ROWS OF THIS SEAT. 3 by the template 'for every input the law returns true; each argument reads behind the call as it read before'; 0 by the template 'total and deterministic' (their statements: YtcenagpkfimkbaaGreatDoorTotals.lean).
  GIVEN WITH THE SEED: the statements are not yours to turn. If you find one false, say at which input.
  Laid BY PROGRAM, IN A SANDBOX (cutbox-rows.mjs): the forced cells as the released guide's own fill.sh prints them over the translation 7eb0a2c69422154d… (all of the seat's roots in one cut). By AI agents, Wed Nov 11 2026. No macro, syntax, notation, axiom, sorry.
-/
import Derived.Test.YtcenagpkfimkbaaGreatDoorChecked
import GoSem.Claim
import GoSem.ClaimJoined
import GoSem.ClaimMapViews
import Derived.JoinedTies
import Derived.KernelRfl
namespace Go.Proofs.YtcenagpkfimkbaaGreatDoor
/- THE CELL 'sum', in the pinned program and in every row, IS THE sha256 OF THE DUMP (.gsa) THAT YtcenagpkfimkbaaGreatDoorProg.lean LOADS. Nothing in Lean hashes anything: it is a label: what it is worth is what the hold of that sum in a sandbox is worth. -/
noncomputable def Tryz.pinned : Pinned := { name := "ytcenagpkfimkbaagreatdoor", sum := "7eb0a2c69422154d1fc763dd28b06446f67468c9b6bf9d0940c977927f9ccbbc", checked := Tryz.checked }
namespace Rows
def none {H : Type} : Left H := { results := [], args := [] }

/- WHAT THE LISTED PACKAGE-LEVEL VARIABLES READ AS WHEN THE CALL BEGINS. Each datum BY PROGRAM (the guide's laid-datum.mjs) off the statement by which the dump's own 'gosem.cut.vars' lays the variable. In a bare row this is a premise. The card (YtcenagpkfimkbaaGreatDoorCards.lean) ties it to the program's text. -/
def laid_kraal_plan_nowhere {H : Type} : DataW H := .agg [.lit (.int .i64 (-1)), .lit (.int .i64 16)]
def laid_kraal_desc_what {H : Type} : DataW H := .agg [.lit (.int .i64 0), .lit (.int .i64 1), .lit (.int .i64 1), .lit (.int .i64 1)]

/-- 'kraaltop.TopGraph': WHATEVER THE INPUT: true; the input reads as it did. -/
def topGraphSpec : ChangeSpec := { name := "topGraph", fn := fun _ => fun
  | [d1, d2] => { results := [.lit (.bool true)], args := [d1, d2] }
  | _ => none }
def topGraphRow : OpenClaim := { program := "ytcenagpkfimkbaagreatdoor", sum := "7eb0a2c69422154d1fc763dd28b06446f67468c9b6bf9d0940c977927f9ccbbc", func := "kraal/kraaltop.TopGraph", spec := "topGraph", unfollowed := true, recurses := true, named := ["kraal/desc.what", "kraal/plan.nowhere"], apart := false, laid := [("kraal/plan.nowhere", laid_kraal_plan_nowhere), ("kraal/desc.what", laid_kraal_desc_what)] }
def TopGraphSaid : Prop := topGraphRow.holds Tryz.pinned (OpenSpec.ofChange topGraphSpec)

/-- ITS FALSE NEIGHBOUR: 'it returns false'. Refute it at one input. -/
def topGraphWrong : ChangeSpec := { name := "topGraph", fn := fun _ => fun
  | [d1, d2] => { results := [.lit (.bool false)], args := [d1, d2] }
  | _ => none }
def TopGraphWrongFalsely : Prop := topGraphRow.holds Tryz.pinned (OpenSpec.ofChange topGraphWrong)

/-- 'kraaltop.TopNames': WHATEVER THE INPUT: true; the input reads as it did. -/
def topNamesSpec : ChangeSpec := { name := "topNames", fn := fun _ => fun
  | [] => { results := [.lit (.bool true)], args := [] }
  | _ => none }
def topNamesRow : OpenClaim := { program := "ytcenagpkfimkbaagreatdoor", sum := "7eb0a2c69422154d1fc763dd28b06446f67468c9b6bf9d0940c977927f9ccbbc", func := "kraal/kraaltop.TopNames", spec := "topNames", unfollowed := true, recurses := true, named := ["kraal/desc.what", "kraal/plan.nowhere"], apart := false, laid := [("kraal/plan.nowhere", laid_kraal_plan_nowhere), ("kraal/desc.what", laid_kraal_desc_what)] }
def TopNamesSaid : Prop := topNamesRow.holds Tryz.pinned (OpenSpec.ofChange topNamesSpec)

/-- ITS FALSE NEIGHBOUR: 'it returns false'. Refute it at one input. -/
def topNamesWrong : ChangeSpec := { name := "topNames", fn := fun _ => fun
  | [] => { results := [.lit (.bool false)], args := [] }
  | _ => none }
def TopNamesWrongFalsely : Prop := topNamesRow.holds Tryz.pinned (OpenSpec.ofChange topNamesWrong)

/-- 'kraaltop.TopSlots': WHATEVER THE INPUT: true; the input reads as it did. -/
def topSlotsSpec : ChangeSpec := { name := "topSlots", fn := fun _ => fun
  | [d1, d2] => { results := [.lit (.bool true)], args := [d1, d2] }
  | _ => none }
def topSlotsRow : OpenClaim := { program := "ytcenagpkfimkbaagreatdoor", sum := "7eb0a2c69422154d1fc763dd28b06446f67468c9b6bf9d0940c977927f9ccbbc", func := "kraal/kraaltop.TopSlots", spec := "topSlots", unfollowed := true, recurses := true, named := ["kraal/desc.what", "kraal/plan.nowhere"], apart := false, laid := [("kraal/plan.nowhere", laid_kraal_plan_nowhere), ("kraal/desc.what", laid_kraal_desc_what)] }
def TopSlotsSaid : Prop := topSlotsRow.holds Tryz.pinned (OpenSpec.ofChange topSlotsSpec)

/-- ITS FALSE NEIGHBOUR: 'it returns false'. Refute it at one input. -/
def topSlotsWrong : ChangeSpec := { name := "topSlots", fn := fun _ => fun
  | [d1, d2] => { results := [.lit (.bool false)], args := [d1, d2] }
  | _ => none }
def TopSlotsWrongFalsely : Prop := topSlotsRow.holds Tryz.pinned (OpenSpec.ofChange topSlotsWrong)

/- THE SECOND FORM. 'bulk': how many values and letters a reading holds, each counted each time it is reached (what is shared counts as often as it is met; a slice's spare places count too). A statement '..UptoSaid' is the law's where the arguments, and the package variables that the reading takes, are together of bulk at most 1048576: NARROWER than '..Said'. Prove '..Said' where nothing that the law and all that it calls make is longer than what came in: it says more and counts as full. Else prove '..UptoSaid'. A law counts once. -/
mutual
def uptoBulk {H : Type} : DataW H → Nat
  | .lit (.string bytes) => bytes.length + 1
  | .lit _ => 1
  | .nil => 1
  | .ptr d => uptoBulk d + 1
  | .slice elems spare => uptoBulkAll elems + uptoBulkAll spare + 1
  | .agg parts => uptoBulkAll parts + 1
  | .iface _ d => uptoBulk d + 1
  | .map entries => uptoBulkEntries entries + 1
  | .held _ => 1
def uptoBulkAll {H : Type} : List (DataW H) → Nat
  | [] => 0
  | d :: r => uptoBulk d + uptoBulkAll r
def uptoBulkEntries {H : Type} : List (Lit × DataW H) → Nat
  | [] => 0
  | x :: r => uptoBulkEntry x + uptoBulkEntries r
def uptoBulkEntry {H : Type} : Lit × DataW H → Nat
  | (.string bytes, d) => bytes.length + uptoBulk d + 1
  | (_, d) => uptoBulk d + 1
 end
def uptoSmall : (H : Type) → List (DataW H) → Bool := fun _ ds => decide (uptoBulkAll ds ≤ 1048576)
def OpenSpec.upto (s : _root_.Go.ChangeSpec) : _root_.Go.OpenSpec := { _root_.Go.OpenSpec.ofChange s with cond := some uptoSmall }

/-- 'kraaltop.TopGraph', WHERE WHAT IT READS IS OF BULK AT MOST 1048576: true; the input reads as it did. -/
def topGraphUptoRow : OpenClaim := { program := "ytcenagpkfimkbaagreatdoor", sum := "7eb0a2c69422154d1fc763dd28b06446f67468c9b6bf9d0940c977927f9ccbbc", func := "kraal/kraaltop.TopGraph", spec := "topGraph", unfollowed := true, recurses := true, named := ["kraal/desc.what", "kraal/plan.nowhere"], apart := false, laid := [("kraal/plan.nowhere", laid_kraal_plan_nowhere), ("kraal/desc.what", laid_kraal_desc_what)], narrowed := true }
def TopGraphUptoSaid : Prop := topGraphUptoRow.holds Tryz.pinned (OpenSpec.upto topGraphSpec)

/-- 'kraaltop.TopNames', WHERE WHAT IT READS IS OF BULK AT MOST 1048576: true; the input reads as it did. -/
def topNamesUptoRow : OpenClaim := { program := "ytcenagpkfimkbaagreatdoor", sum := "7eb0a2c69422154d1fc763dd28b06446f67468c9b6bf9d0940c977927f9ccbbc", func := "kraal/kraaltop.TopNames", spec := "topNames", unfollowed := true, recurses := true, named := ["kraal/desc.what", "kraal/plan.nowhere"], apart := false, laid := [("kraal/plan.nowhere", laid_kraal_plan_nowhere), ("kraal/desc.what", laid_kraal_desc_what)], narrowed := true }
def TopNamesUptoSaid : Prop := topNamesUptoRow.holds Tryz.pinned (OpenSpec.upto topNamesSpec)

/-- 'kraaltop.TopSlots', WHERE WHAT IT READS IS OF BULK AT MOST 1048576: true; the input reads as it did. -/
def topSlotsUptoRow : OpenClaim := { program := "ytcenagpkfimkbaagreatdoor", sum := "7eb0a2c69422154d1fc763dd28b06446f67468c9b6bf9d0940c977927f9ccbbc", func := "kraal/kraaltop.TopSlots", spec := "topSlots", unfollowed := true, recurses := true, named := ["kraal/desc.what", "kraal/plan.nowhere"], apart := false, laid := [("kraal/plan.nowhere", laid_kraal_plan_nowhere), ("kraal/desc.what", laid_kraal_desc_what)], narrowed := true }
def TopSlotsUptoSaid : Prop := topSlotsUptoRow.holds Tryz.pinned (OpenSpec.upto topSlotsSpec)

end Rows
end Go.Proofs.YtcenagpkfimkbaaGreatDoor
