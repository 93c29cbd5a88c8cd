/-
  No cell of these rows narrows 'for every input' (looked for: loops, veiled, ifaces, maps, wideKeys, modest, calm, conditions, laid).
  DERIVED. THE GIVEN ROWS OF THIS SEAT. 6 by the template 'for every input the law returns true; each argument reads behind the call as it read before'; 0 by the template 'total and deterministic' (their statements: YtehmnkkfoopanaaTotals.lean).
  GIVEN WITH THE SEED: the statements are not yours to turn. If you find one false, say at which input.
  Laid BY PROGRAM, IN A SANDBOX (cutbox-rows.mjs): the forced cells as the released guide's own fill.sh prints them over the translation 76892278eb99b6f6… (all of the seat's roots in one cut). By AI agents, Wed Nov 11 2026. No macro, syntax, notation, axiom, sorry.
-/
import Derived.Test.YtehmnkkfoopanaaChecked
import GoSem.Claim
import GoSem.ClaimJoined
import GoSem.ClaimMapViews
import Derived.JoinedTies
import Derived.KernelRfl
namespace Go.Proofs.Ytehmnkkfoopanaa
/- THE CELL 'sum', in the pinned program and in every row, IS THE sha256 OF THE DUMP (.gsa) THAT YtehmnkkfoopanaaProg.lean LOADS. Nothing in Lean hashes anything: it is a label: what it is worth is what the hold of that sum in a sandbox is worth. -/
noncomputable def Try.pinned : Pinned := { name := "ytehmnkkfoopanaa", sum := "76892278eb99b6f69e5e588adef7297bf8161a19930d0dd2aa0596990e5ec6e1", checked := Try.checked }
namespace Rows
def none {H : Type} : Left H := { results := [], args := [] }

/-- 'cellaragelaw03.DigestSums': WHATEVER THE INPUT: true; the input reads as it did. -/
def digestSumsSpec : ChangeSpec := { name := "digestSums", fn := fun _ => fun
  | [d] => { results := [.lit (.bool true)], args := [d] }
  | _ => none }
def digestSumsRow : OpenClaim := { program := "ytehmnkkfoopanaa", sum := "76892278eb99b6f69e5e588adef7297bf8161a19930d0dd2aa0596990e5ec6e1", func := "cellarage/cellaragelaw03.DigestSums", spec := "digestSums", unfollowed := true, recurses := true, apart := false }
def DigestSumsSaid : Prop := digestSumsRow.holds Try.pinned (OpenSpec.ofChange digestSumsSpec)

/-- ITS FALSE NEIGHBOUR: 'it returns false'. Refute it at one input. -/
def digestSumsWrong : ChangeSpec := { name := "digestSums", fn := fun _ => fun
  | [d] => { results := [.lit (.bool false)], args := [d] }
  | _ => none }
def DigestSumsWrongFalsely : Prop := digestSumsRow.holds Try.pinned (OpenSpec.ofChange digestSumsWrong)

/-- 'cellaragelaw03.DigestFronts': WHATEVER THE INPUT: true; the input reads as it did. -/
def digestFrontsSpec : ChangeSpec := { name := "digestFronts", fn := fun _ => fun
  | [d] => { results := [.lit (.bool true)], args := [d] }
  | _ => none }
def digestFrontsRow : OpenClaim := { program := "ytehmnkkfoopanaa", sum := "76892278eb99b6f69e5e588adef7297bf8161a19930d0dd2aa0596990e5ec6e1", func := "cellarage/cellaragelaw03.DigestFronts", spec := "digestFronts", unfollowed := true, recurses := true, apart := false }
def DigestFrontsSaid : Prop := digestFrontsRow.holds Try.pinned (OpenSpec.ofChange digestFrontsSpec)

/-- ITS FALSE NEIGHBOUR: 'it returns false'. Refute it at one input. -/
def digestFrontsWrong : ChangeSpec := { name := "digestFronts", fn := fun _ => fun
  | [d] => { results := [.lit (.bool false)], args := [d] }
  | _ => none }
def DigestFrontsWrongFalsely : Prop := digestFrontsRow.holds Try.pinned (OpenSpec.ofChange digestFrontsWrong)

/-- 'cellaragelaw03.DigestParts': WHATEVER THE INPUT: true; the input reads as it did. -/
def digestPartsSpec : ChangeSpec := { name := "digestParts", fn := fun _ => fun
  | [d1, d2, d3] => { results := [.lit (.bool true)], args := [d1, d2, d3] }
  | _ => none }
def digestPartsRow : OpenClaim := { program := "ytehmnkkfoopanaa", sum := "76892278eb99b6f69e5e588adef7297bf8161a19930d0dd2aa0596990e5ec6e1", func := "cellarage/cellaragelaw03.DigestParts", spec := "digestParts", unfollowed := true, recurses := true, apart := false }
def DigestPartsSaid : Prop := digestPartsRow.holds Try.pinned (OpenSpec.ofChange digestPartsSpec)

/-- ITS FALSE NEIGHBOUR: 'it returns false'. Refute it at one input. -/
def digestPartsWrong : ChangeSpec := { name := "digestParts", fn := fun _ => fun
  | [d1, d2, d3] => { results := [.lit (.bool false)], args := [d1, d2, d3] }
  | _ => none }
def DigestPartsWrongFalsely : Prop := digestPartsRow.holds Try.pinned (OpenSpec.ofChange digestPartsWrong)

/-- 'cellaragelaw03.DigestStates': WHATEVER THE INPUT: true; the input reads as it did. -/
def digestStatesSpec : ChangeSpec := { name := "digestStates", fn := fun _ => fun
  | [d] => { results := [.lit (.bool true)], args := [d] }
  | _ => none }
def digestStatesRow : OpenClaim := { program := "ytehmnkkfoopanaa", sum := "76892278eb99b6f69e5e588adef7297bf8161a19930d0dd2aa0596990e5ec6e1", func := "cellarage/cellaragelaw03.DigestStates", spec := "digestStates", unfollowed := true, recurses := true, apart := false }
def DigestStatesSaid : Prop := digestStatesRow.holds Try.pinned (OpenSpec.ofChange digestStatesSpec)

/-- ITS FALSE NEIGHBOUR: 'it returns false'. Refute it at one input. -/
def digestStatesWrong : ChangeSpec := { name := "digestStates", fn := fun _ => fun
  | [d] => { results := [.lit (.bool false)], args := [d] }
  | _ => none }
def DigestStatesWrongFalsely : Prop := digestStatesRow.holds Try.pinned (OpenSpec.ofChange digestStatesWrong)

/-- 'cellaragelaw03.DigestApart': WHATEVER THE INPUT: true; the input reads as it did. -/
def digestApartSpec : ChangeSpec := { name := "digestApart", fn := fun _ => fun
  | [d1, d2] => { results := [.lit (.bool true)], args := [d1, d2] }
  | _ => none }
def digestApartRow : OpenClaim := { program := "ytehmnkkfoopanaa", sum := "76892278eb99b6f69e5e588adef7297bf8161a19930d0dd2aa0596990e5ec6e1", func := "cellarage/cellaragelaw03.DigestApart", spec := "digestApart", unfollowed := true, recurses := true, apart := false }
def DigestApartSaid : Prop := digestApartRow.holds Try.pinned (OpenSpec.ofChange digestApartSpec)

/-- ITS FALSE NEIGHBOUR: 'it returns false'. Refute it at one input. -/
def digestApartWrong : ChangeSpec := { name := "digestApart", fn := fun _ => fun
  | [d1, d2] => { results := [.lit (.bool false)], args := [d1, d2] }
  | _ => none }
def DigestApartWrongFalsely : Prop := digestApartRow.holds Try.pinned (OpenSpec.ofChange digestApartWrong)

/-- 'cellaragelaw03.DigestNil': WHATEVER THE INPUT: true; the input reads as it did. -/
def digestNilSpec : ChangeSpec := { name := "digestNil", fn := fun _ => fun
  | [d] => { results := [.lit (.bool true)], args := [d] }
  | _ => none }
def digestNilRow : OpenClaim := { program := "ytehmnkkfoopanaa", sum := "76892278eb99b6f69e5e588adef7297bf8161a19930d0dd2aa0596990e5ec6e1", func := "cellarage/cellaragelaw03.DigestNil", spec := "digestNil", unfollowed := true, recurses := true, apart := false }
def DigestNilSaid : Prop := digestNilRow.holds Try.pinned (OpenSpec.ofChange digestNilSpec)

/-- ITS FALSE NEIGHBOUR: 'it returns false'. Refute it at one input. -/
def digestNilWrong : ChangeSpec := { name := "digestNil", fn := fun _ => fun
  | [d] => { results := [.lit (.bool false)], args := [d] }
  | _ => none }
def DigestNilWrongFalsely : Prop := digestNilRow.holds Try.pinned (OpenSpec.ofChange digestNilWrong)

/- THE SECOND FORM. 'bulk': how many values and letters a reading holds, each counted each time it is reached (what is shared counts as often as it is met; a slice's spare places count too). A statement '..UptoSaid' is the law's where the arguments, and the package variables that the reading takes, are together of bulk at most 1048576: NARROWER than '..Said'. Prove '..Said' where nothing that the law and all that it calls make is longer than what came in: it says more and counts as full. Else prove '..UptoSaid'. A law counts once. -/
mutual
def uptoBulk {H : Type} : DataW H → Nat
  | .lit (.string bytes) => bytes.length + 1
  | .lit _ => 1
  | .nil => 1
  | .ptr d => uptoBulk d + 1
  | .slice elems spare => uptoBulkAll elems + uptoBulkAll spare + 1
  | .agg parts => uptoBulkAll parts + 1
  | .iface _ d => uptoBulk d + 1
  | .map entries => uptoBulkEntries entries + 1
  | .held _ => 1
def uptoBulkAll {H : Type} : List (DataW H) → Nat
  | [] => 0
  | d :: r => uptoBulk d + uptoBulkAll r
def uptoBulkEntries {H : Type} : List (Lit × DataW H) → Nat
  | [] => 0
  | x :: r => uptoBulkEntry x + uptoBulkEntries r
def uptoBulkEntry {H : Type} : Lit × DataW H → Nat
  | (.string bytes, d) => bytes.length + uptoBulk d + 1
  | (_, d) => uptoBulk d + 1
 end
def uptoSmall : (H : Type) → List (DataW H) → Bool := fun _ ds => decide (uptoBulkAll ds ≤ 1048576)
def OpenSpec.upto (s : _root_.Go.ChangeSpec) : _root_.Go.OpenSpec := { _root_.Go.OpenSpec.ofChange s with cond := some uptoSmall }

/-- 'cellaragelaw03.DigestSums', WHERE WHAT IT READS IS OF BULK AT MOST 1048576: true; the input reads as it did. -/
def digestSumsUptoRow : OpenClaim := { program := "ytehmnkkfoopanaa", sum := "76892278eb99b6f69e5e588adef7297bf8161a19930d0dd2aa0596990e5ec6e1", func := "cellarage/cellaragelaw03.DigestSums", spec := "digestSums", unfollowed := true, recurses := true, apart := false, narrowed := true }
def DigestSumsUptoSaid : Prop := digestSumsUptoRow.holds Try.pinned (OpenSpec.upto digestSumsSpec)

/-- 'cellaragelaw03.DigestFronts', WHERE WHAT IT READS IS OF BULK AT MOST 1048576: true; the input reads as it did. -/
def digestFrontsUptoRow : OpenClaim := { program := "ytehmnkkfoopanaa", sum := "76892278eb99b6f69e5e588adef7297bf8161a19930d0dd2aa0596990e5ec6e1", func := "cellarage/cellaragelaw03.DigestFronts", spec := "digestFronts", unfollowed := true, recurses := true, apart := false, narrowed := true }
def DigestFrontsUptoSaid : Prop := digestFrontsUptoRow.holds Try.pinned (OpenSpec.upto digestFrontsSpec)

/-- 'cellaragelaw03.DigestParts', WHERE WHAT IT READS IS OF BULK AT MOST 1048576: true; the input reads as it did. -/
def digestPartsUptoRow : OpenClaim := { program := "ytehmnkkfoopanaa", sum := "76892278eb99b6f69e5e588adef7297bf8161a19930d0dd2aa0596990e5ec6e1", func := "cellarage/cellaragelaw03.DigestParts", spec := "digestParts", unfollowed := true, recurses := true, apart := false, narrowed := true }
def DigestPartsUptoSaid : Prop := digestPartsUptoRow.holds Try.pinned (OpenSpec.upto digestPartsSpec)

/-- 'cellaragelaw03.DigestStates', WHERE WHAT IT READS IS OF BULK AT MOST 1048576: true; the input reads as it did. -/
def digestStatesUptoRow : OpenClaim := { program := "ytehmnkkfoopanaa", sum := "76892278eb99b6f69e5e588adef7297bf8161a19930d0dd2aa0596990e5ec6e1", func := "cellarage/cellaragelaw03.DigestStates", spec := "digestStates", unfollowed := true, recurses := true, apart := false, narrowed := true }
def DigestStatesUptoSaid : Prop := digestStatesUptoRow.holds Try.pinned (OpenSpec.upto digestStatesSpec)

/-- 'cellaragelaw03.DigestApart', WHERE WHAT IT READS IS OF BULK AT MOST 1048576: true; the input reads as it did. -/
def digestApartUptoRow : OpenClaim := { program := "ytehmnkkfoopanaa", sum := "76892278eb99b6f69e5e588adef7297bf8161a19930d0dd2aa0596990e5ec6e1", func := "cellarage/cellaragelaw03.DigestApart", spec := "digestApart", unfollowed := true, recurses := true, apart := false, narrowed := true }
def DigestApartUptoSaid : Prop := digestApartUptoRow.holds Try.pinned (OpenSpec.upto digestApartSpec)

/-- 'cellaragelaw03.DigestNil', WHERE WHAT IT READS IS OF BULK AT MOST 1048576: true; the input reads as it did. -/
def digestNilUptoRow : OpenClaim := { program := "ytehmnkkfoopanaa", sum := "76892278eb99b6f69e5e588adef7297bf8161a19930d0dd2aa0596990e5ec6e1", func := "cellarage/cellaragelaw03.DigestNil", spec := "digestNil", unfollowed := true, recurses := true, apart := false, narrowed := true }
def DigestNilUptoSaid : Prop := digestNilUptoRow.holds Try.pinned (OpenSpec.upto digestNilSpec)

end Rows
end Go.Proofs.Ytehmnkkfoopanaa
