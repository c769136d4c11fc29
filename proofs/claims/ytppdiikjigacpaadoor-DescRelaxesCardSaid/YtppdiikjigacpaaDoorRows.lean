/-
  NARROWER THAN 'FOR EVERY INPUT', by the rows' own cells (each row's printed sentence says how): DescKinds: laid · DescMay: laid · DescRelaxes: laid.
  DERIVED. THE GIVEN ROWS OF THIS SEAT. 3 by the template 'for every input the law returns true; each argument reads behind the call as it read before'; 0 by the template 'total and deterministic' (their statements: YtppdiikjigacpaaDoorTotals.lean).
  GIVEN WITH THE SEED: the statements are not yours to turn. If you find one false, say at which input.
  Laid BY PROGRAM, IN A SANDBOX (cutbox-rows.mjs): the forced cells as the released guide's own fill.sh prints them over the translation 828d123f8a057f25… (all of the seat's roots in one cut). By AI agents, Wed Nov 11 2026. No macro, syntax, notation, axiom, sorry.
-/
import Derived.Test.YtppdiikjigacpaaDoorChecked
import GoSem.Claim
import GoSem.ClaimJoined
import GoSem.ClaimMapViews
import Derived.JoinedTies
import Derived.KernelRfl
namespace Go.Proofs.YtppdiikjigacpaaDoor
/- THE CELL 'sum', in the pinned program and in every row, IS THE sha256 OF THE DUMP (.gsa) THAT YtppdiikjigacpaaDoorProg.lean LOADS. Nothing in Lean hashes anything: it is a label: what it is worth is what the hold of that sum in a sandbox is worth. -/
noncomputable def Tryd.pinned : Pinned := { name := "ytppdiikjigacpaadoor", sum := "828d123f8a057f255aa556bf8f708b20dcf6a69a2cb5608a22c7211b2e9d883a", checked := Tryd.checked }
namespace Rows
def none {H : Type} : Left H := { results := [], args := [] }

/- WHAT THE LISTED PACKAGE-LEVEL VARIABLES READ AS WHEN THE CALL BEGINS. Each datum BY PROGRAM (the guide's laid-datum.mjs) off the statement by which the dump's own 'gosem.cut.vars' lays the variable. In a bare row this is a premise. The card (YtppdiikjigacpaaDoorCards.lean) ties it to the program's text. -/
def laid_kraal_desc_what {H : Type} : DataW H := .agg [.lit (.int .i64 0), .lit (.int .i64 1), .lit (.int .i64 1), .lit (.int .i64 1)]

/-- 'kraallaw07.DescKinds': WHATEVER THE INPUT: true; the input reads as it did. -/
def descKindsSpec : ChangeSpec := { name := "descKinds", fn := fun _ => fun
  | [d1, d2] => { results := [.lit (.bool true)], args := [d1, d2] }
  | _ => none }
def descKindsRow : OpenClaim := { program := "ytppdiikjigacpaadoor", sum := "828d123f8a057f255aa556bf8f708b20dcf6a69a2cb5608a22c7211b2e9d883a", func := "kraal/kraallaw07.DescKinds", spec := "descKinds", named := ["kraal/desc.what"], apart := false, laid := [("kraal/desc.what", laid_kraal_desc_what)] }
def DescKindsSaid : Prop := descKindsRow.holds Tryd.pinned (OpenSpec.ofChange descKindsSpec)

/-- ITS FALSE NEIGHBOUR: 'it returns false'. Refute it at one input. -/
def descKindsWrong : ChangeSpec := { name := "descKinds", fn := fun _ => fun
  | [d1, d2] => { results := [.lit (.bool false)], args := [d1, d2] }
  | _ => none }
def DescKindsWrongFalsely : Prop := descKindsRow.holds Tryd.pinned (OpenSpec.ofChange descKindsWrong)

/-- 'kraallaw07.DescMay': WHATEVER THE INPUT: true; the input reads as it did. -/
def descMaySpec : ChangeSpec := { name := "descMay", fn := fun _ => fun
  | [d1, d2] => { results := [.lit (.bool true)], args := [d1, d2] }
  | _ => none }
def descMayRow : OpenClaim := { program := "ytppdiikjigacpaadoor", sum := "828d123f8a057f255aa556bf8f708b20dcf6a69a2cb5608a22c7211b2e9d883a", func := "kraal/kraallaw07.DescMay", spec := "descMay", unfollowed := true, recurses := true, named := ["kraal/desc.what"], apart := false, laid := [("kraal/desc.what", laid_kraal_desc_what)] }
def DescMaySaid : Prop := descMayRow.holds Tryd.pinned (OpenSpec.ofChange descMaySpec)

/-- ITS FALSE NEIGHBOUR: 'it returns false'. Refute it at one input. -/
def descMayWrong : ChangeSpec := { name := "descMay", fn := fun _ => fun
  | [d1, d2] => { results := [.lit (.bool false)], args := [d1, d2] }
  | _ => none }
def DescMayWrongFalsely : Prop := descMayRow.holds Tryd.pinned (OpenSpec.ofChange descMayWrong)

/-- 'kraallaw07.DescRelaxes': WHATEVER THE INPUT: true; the input reads as it did. -/
def descRelaxesSpec : ChangeSpec := { name := "descRelaxes", fn := fun _ => fun
  | [d] => { results := [.lit (.bool true)], args := [d] }
  | _ => none }
def descRelaxesRow : OpenClaim := { program := "ytppdiikjigacpaadoor", sum := "828d123f8a057f255aa556bf8f708b20dcf6a69a2cb5608a22c7211b2e9d883a", func := "kraal/kraallaw07.DescRelaxes", spec := "descRelaxes", unfollowed := true, recurses := true, named := ["kraal/desc.what"], apart := false, laid := [("kraal/desc.what", laid_kraal_desc_what)] }
def DescRelaxesSaid : Prop := descRelaxesRow.holds Tryd.pinned (OpenSpec.ofChange descRelaxesSpec)

/-- ITS FALSE NEIGHBOUR: 'it returns false'. Refute it at one input. -/
def descRelaxesWrong : ChangeSpec := { name := "descRelaxes", fn := fun _ => fun
  | [d] => { results := [.lit (.bool false)], args := [d] }
  | _ => none }
def DescRelaxesWrongFalsely : Prop := descRelaxesRow.holds Tryd.pinned (OpenSpec.ofChange descRelaxesWrong)

/- THE SECOND FORM. 'bulk': how many values and letters a reading holds, each counted each time it is reached (what is shared counts as often as it is met; a slice's spare places count too). A statement '..UptoSaid' is the law's where the arguments, and the package variables that the reading takes, are together of bulk at most 1048576: NARROWER than '..Said'. Prove '..Said' where nothing that the law and all that it calls make is longer than what came in: it says more and counts as full. Else prove '..UptoSaid'. A law counts once. -/
mutual
def uptoBulk {H : Type} : DataW H → Nat
  | .lit (.string bytes) => bytes.length + 1
  | .lit _ => 1
  | .nil => 1
  | .ptr d => uptoBulk d + 1
  | .slice elems spare => uptoBulkAll elems + uptoBulkAll spare + 1
  | .agg parts => uptoBulkAll parts + 1
  | .iface _ d => uptoBulk d + 1
  | .map entries => uptoBulkEntries entries + 1
  | .held _ => 1
def uptoBulkAll {H : Type} : List (DataW H) → Nat
  | [] => 0
  | d :: r => uptoBulk d + uptoBulkAll r
def uptoBulkEntries {H : Type} : List (Lit × DataW H) → Nat
  | [] => 0
  | x :: r => uptoBulkEntry x + uptoBulkEntries r
def uptoBulkEntry {H : Type} : Lit × DataW H → Nat
  | (.string bytes, d) => bytes.length + uptoBulk d + 1
  | (_, d) => uptoBulk d + 1
 end
def uptoSmall : (H : Type) → List (DataW H) → Bool := fun _ ds => decide (uptoBulkAll ds ≤ 1048576)
def OpenSpec.upto (s : _root_.Go.ChangeSpec) : _root_.Go.OpenSpec := { _root_.Go.OpenSpec.ofChange s with cond := some uptoSmall }

/-- 'kraallaw07.DescKinds', WHERE WHAT IT READS IS OF BULK AT MOST 1048576: true; the input reads as it did. -/
def descKindsUptoRow : OpenClaim := { program := "ytppdiikjigacpaadoor", sum := "828d123f8a057f255aa556bf8f708b20dcf6a69a2cb5608a22c7211b2e9d883a", func := "kraal/kraallaw07.DescKinds", spec := "descKinds", named := ["kraal/desc.what"], apart := false, laid := [("kraal/desc.what", laid_kraal_desc_what)], narrowed := true }
def DescKindsUptoSaid : Prop := descKindsUptoRow.holds Tryd.pinned (OpenSpec.upto descKindsSpec)

/-- 'kraallaw07.DescMay', WHERE WHAT IT READS IS OF BULK AT MOST 1048576: true; the input reads as it did. -/
def descMayUptoRow : OpenClaim := { program := "ytppdiikjigacpaadoor", sum := "828d123f8a057f255aa556bf8f708b20dcf6a69a2cb5608a22c7211b2e9d883a", func := "kraal/kraallaw07.DescMay", spec := "descMay", unfollowed := true, recurses := true, named := ["kraal/desc.what"], apart := false, laid := [("kraal/desc.what", laid_kraal_desc_what)], narrowed := true }
def DescMayUptoSaid : Prop := descMayUptoRow.holds Tryd.pinned (OpenSpec.upto descMaySpec)

/-- 'kraallaw07.DescRelaxes', WHERE WHAT IT READS IS OF BULK AT MOST 1048576: true; the input reads as it did. -/
def descRelaxesUptoRow : OpenClaim := { program := "ytppdiikjigacpaadoor", sum := "828d123f8a057f255aa556bf8f708b20dcf6a69a2cb5608a22c7211b2e9d883a", func := "kraal/kraallaw07.DescRelaxes", spec := "descRelaxes", unfollowed := true, recurses := true, named := ["kraal/desc.what"], apart := false, laid := [("kraal/desc.what", laid_kraal_desc_what)], narrowed := true }
def DescRelaxesUptoSaid : Prop := descRelaxesUptoRow.holds Tryd.pinned (OpenSpec.upto descRelaxesSpec)

end Rows
end Go.Proofs.YtppdiikjigacpaaDoor
