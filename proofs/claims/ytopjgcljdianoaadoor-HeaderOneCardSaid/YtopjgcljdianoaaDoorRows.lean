/-
  NARROWER THAN 'FOR EVERY INPUT', by the rows' own cells (each row's printed sentence says how): HeaderOne: laid · HeaderPuts: laid · HeaderGets: laid.
  DERIVED. THE GIVEN ROWS OF THIS SEAT. 3 by the template 'for every input the law returns true; each argument reads behind the call as it read before'; 0 by the template 'total and deterministic' (their statements: YtopjgcljdianoaaDoorTotals.lean).
  GIVEN WITH THE SEED: the statements are not yours to turn. If you find one false, say at which input.
  Laid BY PROGRAM, IN A SANDBOX (cutbox-rows.mjs): the forced cells as the released guide's own fill.sh prints them over the translation 1a2760d6b597f31d… (all of the seat's roots in one cut). By AI agents, Wed Nov 11 2026. No macro, syntax, notation, axiom, sorry.
-/
import Derived.Test.YtopjgcljdianoaaDoorChecked
import GoSem.Claim
import GoSem.ClaimJoined
import GoSem.ClaimMapViews
import Derived.JoinedTies
import Derived.KernelRfl
namespace Go.Proofs.YtopjgcljdianoaaDoor
/- THE CELL 'sum', in the pinned program and in every row, IS THE sha256 OF THE DUMP (.gsa) THAT YtopjgcljdianoaaDoorProg.lean LOADS. Nothing in Lean hashes anything: it is a label: what it is worth is what the hold of that sum in a sandbox is worth. -/
noncomputable def Tryd.pinned : Pinned := { name := "ytopjgcljdianoaadoor", sum := "1a2760d6b597f31d629fbfb9a74d700e3999e2015038f1e0db4643cf3870a198", checked := Tryd.checked }
namespace Rows
def none {H : Type} : Left H := { results := [], args := [] }

/- WHAT THE LISTED PACKAGE-LEVEL VARIABLES READ AS WHEN THE CALL BEGINS. Each datum BY PROGRAM (the guide's laid-datum.mjs) off the statement by which the dump's own 'gosem.cut.vars' lays the variable. In a bare row this is a premise. The card (YtopjgcljdianoaaDoorCards.lean) ties it to the program's text. -/
def laid_kraal_desc_what {H : Type} : DataW H := .agg [.lit (.int .i64 0), .lit (.int .i64 1), .lit (.int .i64 1), .lit (.int .i64 1)]

/-- 'kraallaw08.HeaderOne': WHATEVER THE INPUT: true; the input reads as it did. -/
def headerOneSpec : ChangeSpec := { name := "headerOne", fn := fun _ => fun
  | [d1, d2] => { results := [.lit (.bool true)], args := [d1, d2] }
  | _ => none }
def headerOneRow : OpenClaim := { program := "ytopjgcljdianoaadoor", sum := "1a2760d6b597f31d629fbfb9a74d700e3999e2015038f1e0db4643cf3870a198", func := "kraal/kraallaw08.HeaderOne", spec := "headerOne", named := ["kraal/desc.what"], apart := false, laid := [("kraal/desc.what", laid_kraal_desc_what)] }
def HeaderOneSaid : Prop := headerOneRow.holds Tryd.pinned (OpenSpec.ofChange headerOneSpec)

/-- ITS FALSE NEIGHBOUR: 'it returns false'. Refute it at one input. -/
def headerOneWrong : ChangeSpec := { name := "headerOne", fn := fun _ => fun
  | [d1, d2] => { results := [.lit (.bool false)], args := [d1, d2] }
  | _ => none }
def HeaderOneWrongFalsely : Prop := headerOneRow.holds Tryd.pinned (OpenSpec.ofChange headerOneWrong)

/-- 'kraallaw08.HeaderPuts': WHATEVER THE INPUT: true; the input reads as it did. -/
def headerPutsSpec : ChangeSpec := { name := "headerPuts", fn := fun _ => fun
  | [d] => { results := [.lit (.bool true)], args := [d] }
  | _ => none }
def headerPutsRow : OpenClaim := { program := "ytopjgcljdianoaadoor", sum := "1a2760d6b597f31d629fbfb9a74d700e3999e2015038f1e0db4643cf3870a198", func := "kraal/kraallaw08.HeaderPuts", spec := "headerPuts", named := ["kraal/desc.what"], apart := false, laid := [("kraal/desc.what", laid_kraal_desc_what)] }
def HeaderPutsSaid : Prop := headerPutsRow.holds Tryd.pinned (OpenSpec.ofChange headerPutsSpec)

/-- ITS FALSE NEIGHBOUR: 'it returns false'. Refute it at one input. -/
def headerPutsWrong : ChangeSpec := { name := "headerPuts", fn := fun _ => fun
  | [d] => { results := [.lit (.bool false)], args := [d] }
  | _ => none }
def HeaderPutsWrongFalsely : Prop := headerPutsRow.holds Tryd.pinned (OpenSpec.ofChange headerPutsWrong)

/-- 'kraallaw08.HeaderGets': WHATEVER THE INPUT: true; the input reads as it did. -/
def headerGetsSpec : ChangeSpec := { name := "headerGets", fn := fun _ => fun
  | [d] => { results := [.lit (.bool true)], args := [d] }
  | _ => none }
def headerGetsRow : OpenClaim := { program := "ytopjgcljdianoaadoor", sum := "1a2760d6b597f31d629fbfb9a74d700e3999e2015038f1e0db4643cf3870a198", func := "kraal/kraallaw08.HeaderGets", spec := "headerGets", named := ["kraal/desc.what"], apart := false, laid := [("kraal/desc.what", laid_kraal_desc_what)] }
def HeaderGetsSaid : Prop := headerGetsRow.holds Tryd.pinned (OpenSpec.ofChange headerGetsSpec)

/-- ITS FALSE NEIGHBOUR: 'it returns false'. Refute it at one input. -/
def headerGetsWrong : ChangeSpec := { name := "headerGets", fn := fun _ => fun
  | [d] => { results := [.lit (.bool false)], args := [d] }
  | _ => none }
def HeaderGetsWrongFalsely : Prop := headerGetsRow.holds Tryd.pinned (OpenSpec.ofChange headerGetsWrong)

/- THE SECOND FORM. 'bulk': how many values and letters a reading holds, each counted each time it is reached (what is shared counts as often as it is met; a slice's spare places count too). A statement '..UptoSaid' is the law's where the arguments, and the package variables that the reading takes, are together of bulk at most 1048576: NARROWER than '..Said'. Prove '..Said' where nothing that the law and all that it calls make is longer than what came in: it says more and counts as full. Else prove '..UptoSaid'. A law counts once. -/
mutual
def uptoBulk {H : Type} : DataW H → Nat
  | .lit (.string bytes) => bytes.length + 1
  | .lit _ => 1
  | .nil => 1
  | .ptr d => uptoBulk d + 1
  | .slice elems spare => uptoBulkAll elems + uptoBulkAll spare + 1
  | .agg parts => uptoBulkAll parts + 1
  | .iface _ d => uptoBulk d + 1
  | .map entries => uptoBulkEntries entries + 1
  | .held _ => 1
def uptoBulkAll {H : Type} : List (DataW H) → Nat
  | [] => 0
  | d :: r => uptoBulk d + uptoBulkAll r
def uptoBulkEntries {H : Type} : List (Lit × DataW H) → Nat
  | [] => 0
  | x :: r => uptoBulkEntry x + uptoBulkEntries r
def uptoBulkEntry {H : Type} : Lit × DataW H → Nat
  | (.string bytes, d) => bytes.length + uptoBulk d + 1
  | (_, d) => uptoBulk d + 1
 end
def uptoSmall : (H : Type) → List (DataW H) → Bool := fun _ ds => decide (uptoBulkAll ds ≤ 1048576)
def OpenSpec.upto (s : _root_.Go.ChangeSpec) : _root_.Go.OpenSpec := { _root_.Go.OpenSpec.ofChange s with cond := some uptoSmall }

/-- 'kraallaw08.HeaderOne', WHERE WHAT IT READS IS OF BULK AT MOST 1048576: true; the input reads as it did. -/
def headerOneUptoRow : OpenClaim := { program := "ytopjgcljdianoaadoor", sum := "1a2760d6b597f31d629fbfb9a74d700e3999e2015038f1e0db4643cf3870a198", func := "kraal/kraallaw08.HeaderOne", spec := "headerOne", named := ["kraal/desc.what"], apart := false, laid := [("kraal/desc.what", laid_kraal_desc_what)], narrowed := true }
def HeaderOneUptoSaid : Prop := headerOneUptoRow.holds Tryd.pinned (OpenSpec.upto headerOneSpec)

/-- 'kraallaw08.HeaderPuts', WHERE WHAT IT READS IS OF BULK AT MOST 1048576: true; the input reads as it did. -/
def headerPutsUptoRow : OpenClaim := { program := "ytopjgcljdianoaadoor", sum := "1a2760d6b597f31d629fbfb9a74d700e3999e2015038f1e0db4643cf3870a198", func := "kraal/kraallaw08.HeaderPuts", spec := "headerPuts", named := ["kraal/desc.what"], apart := false, laid := [("kraal/desc.what", laid_kraal_desc_what)], narrowed := true }
def HeaderPutsUptoSaid : Prop := headerPutsUptoRow.holds Tryd.pinned (OpenSpec.upto headerPutsSpec)

/-- 'kraallaw08.HeaderGets', WHERE WHAT IT READS IS OF BULK AT MOST 1048576: true; the input reads as it did. -/
def headerGetsUptoRow : OpenClaim := { program := "ytopjgcljdianoaadoor", sum := "1a2760d6b597f31d629fbfb9a74d700e3999e2015038f1e0db4643cf3870a198", func := "kraal/kraallaw08.HeaderGets", spec := "headerGets", named := ["kraal/desc.what"], apart := false, laid := [("kraal/desc.what", laid_kraal_desc_what)], narrowed := true }
def HeaderGetsUptoSaid : Prop := headerGetsUptoRow.holds Tryd.pinned (OpenSpec.upto headerGetsSpec)

end Rows
end Go.Proofs.YtopjgcljdianoaaDoor
