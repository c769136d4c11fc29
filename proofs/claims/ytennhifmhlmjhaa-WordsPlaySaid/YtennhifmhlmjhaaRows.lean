/-
  No cell of these rows narrows 'for every input' (looked for: loops, veiled, ifaces, maps, wideKeys, modest, calm, conditions, laid).
  DERIVED. THE GIVEN ROWS OF THIS SEAT. 4 by the template 'for every input the law returns true; each argument reads behind the call as it read before'; 0 by the template 'total and deterministic' (their statements: YtennhifmhlmjhaaTotals.lean).
  GIVEN WITH THE SEED: the statements are not yours to turn. If you find one false, say at which input.
  Laid BY PROGRAM, IN A SANDBOX (cutbox-rows.mjs): the forced cells as the released guide's own fill.sh prints them over the translation 3396304cb0b012e6… (all of the seat's roots in one cut). By AI agents, Wed Nov 11 2026. No macro, syntax, notation, axiom, sorry.
-/
import Derived.Test.YtennhifmhlmjhaaChecked
import GoSem.Claim
import GoSem.ClaimJoined
import GoSem.ClaimMapViews
import Derived.JoinedTies
import Derived.KernelRfl
namespace Go.Proofs.Ytennhifmhlmjhaa
/- THE CELL 'sum', in the pinned program and in every row, IS THE sha256 OF THE DUMP (.gsa) THAT YtennhifmhlmjhaaProg.lean LOADS. Nothing in Lean hashes anything: it is a label: what it is worth is what the hold of that sum in a sandbox is worth. -/
noncomputable def Try.pinned : Pinned := { name := "ytennhifmhlmjhaa", sum := "3396304cb0b012e647b66195fccf08eccb108de75e8b2bcae8ab3d405cbabdca", checked := Try.checked }
namespace Rows
def none {H : Type} : Left H := { results := [], args := [] }

/-- 'kraallaw01.WordsApart': WHATEVER THE INPUT: true; the input reads as it did. -/
def wordsApartSpec : ChangeSpec := { name := "wordsApart", fn := fun _ => fun
  | [d1, d2, d3] => { results := [.lit (.bool true)], args := [d1, d2, d3] }
  | _ => none }
def wordsApartRow : OpenClaim := { program := "ytennhifmhlmjhaa", sum := "3396304cb0b012e647b66195fccf08eccb108de75e8b2bcae8ab3d405cbabdca", func := "kraal/kraallaw01.WordsApart", spec := "wordsApart", unfollowed := true, recurses := true, apart := false }
def WordsApartSaid : Prop := wordsApartRow.holds Try.pinned (OpenSpec.ofChange wordsApartSpec)

/-- ITS FALSE NEIGHBOUR: 'it returns false'. Refute it at one input. -/
def wordsApartWrong : ChangeSpec := { name := "wordsApart", fn := fun _ => fun
  | [d1, d2, d3] => { results := [.lit (.bool false)], args := [d1, d2, d3] }
  | _ => none }
def WordsApartWrongFalsely : Prop := wordsApartRow.holds Try.pinned (OpenSpec.ofChange wordsApartWrong)

/-- 'kraallaw01.WordsFills': WHATEVER THE INPUT: true; the input reads as it did. -/
def wordsFillsSpec : ChangeSpec := { name := "wordsFills", fn := fun _ => fun
  | [d1, d2, d3] => { results := [.lit (.bool true)], args := [d1, d2, d3] }
  | _ => none }
def wordsFillsRow : OpenClaim := { program := "ytennhifmhlmjhaa", sum := "3396304cb0b012e647b66195fccf08eccb108de75e8b2bcae8ab3d405cbabdca", func := "kraal/kraallaw01.WordsFills", spec := "wordsFills", unfollowed := true, recurses := true, apart := false }
def WordsFillsSaid : Prop := wordsFillsRow.holds Try.pinned (OpenSpec.ofChange wordsFillsSpec)

/-- ITS FALSE NEIGHBOUR: 'it returns false'. Refute it at one input. -/
def wordsFillsWrong : ChangeSpec := { name := "wordsFills", fn := fun _ => fun
  | [d1, d2, d3] => { results := [.lit (.bool false)], args := [d1, d2, d3] }
  | _ => none }
def WordsFillsWrongFalsely : Prop := wordsFillsRow.holds Try.pinned (OpenSpec.ofChange wordsFillsWrong)

/-- 'kraallaw01.WordsMove': WHATEVER THE INPUT: true; the input reads as it did. -/
def wordsMoveSpec : ChangeSpec := { name := "wordsMove", fn := fun _ => fun
  | [d1, d2, d3] => { results := [.lit (.bool true)], args := [d1, d2, d3] }
  | _ => none }
def wordsMoveRow : OpenClaim := { program := "ytennhifmhlmjhaa", sum := "3396304cb0b012e647b66195fccf08eccb108de75e8b2bcae8ab3d405cbabdca", func := "kraal/kraallaw01.WordsMove", spec := "wordsMove", unfollowed := true, recurses := true, apart := false }
def WordsMoveSaid : Prop := wordsMoveRow.holds Try.pinned (OpenSpec.ofChange wordsMoveSpec)

/-- ITS FALSE NEIGHBOUR: 'it returns false'. Refute it at one input. -/
def wordsMoveWrong : ChangeSpec := { name := "wordsMove", fn := fun _ => fun
  | [d1, d2, d3] => { results := [.lit (.bool false)], args := [d1, d2, d3] }
  | _ => none }
def WordsMoveWrongFalsely : Prop := wordsMoveRow.holds Try.pinned (OpenSpec.ofChange wordsMoveWrong)

/-- 'kraallaw01.WordsPlay': WHATEVER THE INPUT: true; the input reads as it did. -/
def wordsPlaySpec : ChangeSpec := { name := "wordsPlay", fn := fun _ => fun
  | [d1, d2, d3] => { results := [.lit (.bool true)], args := [d1, d2, d3] }
  | _ => none }
def wordsPlayRow : OpenClaim := { program := "ytennhifmhlmjhaa", sum := "3396304cb0b012e647b66195fccf08eccb108de75e8b2bcae8ab3d405cbabdca", func := "kraal/kraallaw01.WordsPlay", spec := "wordsPlay", unfollowed := true, recurses := true, apart := false }
def WordsPlaySaid : Prop := wordsPlayRow.holds Try.pinned (OpenSpec.ofChange wordsPlaySpec)

/-- ITS FALSE NEIGHBOUR: 'it returns false'. Refute it at one input. -/
def wordsPlayWrong : ChangeSpec := { name := "wordsPlay", fn := fun _ => fun
  | [d1, d2, d3] => { results := [.lit (.bool false)], args := [d1, d2, d3] }
  | _ => none }
def WordsPlayWrongFalsely : Prop := wordsPlayRow.holds Try.pinned (OpenSpec.ofChange wordsPlayWrong)

/- THE SECOND FORM. 'bulk': how many values and letters a reading holds, each counted each time it is reached (what is shared counts as often as it is met; a slice's spare places count too). A statement '..UptoSaid' is the law's where the arguments, and the package variables that the reading takes, are together of bulk at most 1048576: NARROWER than '..Said'. Prove '..Said' where nothing that the law and all that it calls make is longer than what came in: it says more and counts as full. Else prove '..UptoSaid'. A law counts once. -/
mutual
def uptoBulk {H : Type} : DataW H → Nat
  | .lit (.string bytes) => bytes.length + 1
  | .lit _ => 1
  | .nil => 1
  | .ptr d => uptoBulk d + 1
  | .slice elems spare => uptoBulkAll elems + uptoBulkAll spare + 1
  | .agg parts => uptoBulkAll parts + 1
  | .iface _ d => uptoBulk d + 1
  | .map entries => uptoBulkEntries entries + 1
  | .held _ => 1
def uptoBulkAll {H : Type} : List (DataW H) → Nat
  | [] => 0
  | d :: r => uptoBulk d + uptoBulkAll r
def uptoBulkEntries {H : Type} : List (Lit × DataW H) → Nat
  | [] => 0
  | x :: r => uptoBulkEntry x + uptoBulkEntries r
def uptoBulkEntry {H : Type} : Lit × DataW H → Nat
  | (.string bytes, d) => bytes.length + uptoBulk d + 1
  | (_, d) => uptoBulk d + 1
 end
def uptoSmall : (H : Type) → List (DataW H) → Bool := fun _ ds => decide (uptoBulkAll ds ≤ 1048576)
def OpenSpec.upto (s : _root_.Go.ChangeSpec) : _root_.Go.OpenSpec := { _root_.Go.OpenSpec.ofChange s with cond := some uptoSmall }

/-- 'kraallaw01.WordsApart', WHERE WHAT IT READS IS OF BULK AT MOST 1048576: true; the input reads as it did. -/
def wordsApartUptoRow : OpenClaim := { program := "ytennhifmhlmjhaa", sum := "3396304cb0b012e647b66195fccf08eccb108de75e8b2bcae8ab3d405cbabdca", func := "kraal/kraallaw01.WordsApart", spec := "wordsApart", unfollowed := true, recurses := true, apart := false, narrowed := true }
def WordsApartUptoSaid : Prop := wordsApartUptoRow.holds Try.pinned (OpenSpec.upto wordsApartSpec)

/-- 'kraallaw01.WordsFills', WHERE WHAT IT READS IS OF BULK AT MOST 1048576: true; the input reads as it did. -/
def wordsFillsUptoRow : OpenClaim := { program := "ytennhifmhlmjhaa", sum := "3396304cb0b012e647b66195fccf08eccb108de75e8b2bcae8ab3d405cbabdca", func := "kraal/kraallaw01.WordsFills", spec := "wordsFills", unfollowed := true, recurses := true, apart := false, narrowed := true }
def WordsFillsUptoSaid : Prop := wordsFillsUptoRow.holds Try.pinned (OpenSpec.upto wordsFillsSpec)

/-- 'kraallaw01.WordsMove', WHERE WHAT IT READS IS OF BULK AT MOST 1048576: true; the input reads as it did. -/
def wordsMoveUptoRow : OpenClaim := { program := "ytennhifmhlmjhaa", sum := "3396304cb0b012e647b66195fccf08eccb108de75e8b2bcae8ab3d405cbabdca", func := "kraal/kraallaw01.WordsMove", spec := "wordsMove", unfollowed := true, recurses := true, apart := false, narrowed := true }
def WordsMoveUptoSaid : Prop := wordsMoveUptoRow.holds Try.pinned (OpenSpec.upto wordsMoveSpec)

/-- 'kraallaw01.WordsPlay', WHERE WHAT IT READS IS OF BULK AT MOST 1048576: true; the input reads as it did. -/
def wordsPlayUptoRow : OpenClaim := { program := "ytennhifmhlmjhaa", sum := "3396304cb0b012e647b66195fccf08eccb108de75e8b2bcae8ab3d405cbabdca", func := "kraal/kraallaw01.WordsPlay", spec := "wordsPlay", unfollowed := true, recurses := true, apart := false, narrowed := true }
def WordsPlayUptoSaid : Prop := wordsPlayUptoRow.holds Try.pinned (OpenSpec.upto wordsPlaySpec)

end Rows
end Go.Proofs.Ytennhifmhlmjhaa
