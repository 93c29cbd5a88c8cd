/-
  No cell of these rows narrows 'for every input' (looked for: loops, veiled, ifaces, maps, wideKeys, modest, calm, conditions, laid).
  DERIVED. THE GIVEN ROWS OF THIS SEAT. 7 by the template 'for every input the law returns true; each argument reads behind the call as it read before'; 0 by the template 'total and deterministic' (their statements: YtealompbbknijaaTotals.lean).
  GIVEN WITH THE SEED: the statements are not yours to turn. If you find one false, say at which input.
  Laid BY PROGRAM, IN A SANDBOX (cutbox-rows.mjs): the forced cells as the released guide's own fill.sh prints them over the translation 50ac6f515c792408… (all of the seat's roots in one cut). By AI agents, Wed Nov 11 2026. No macro, syntax, notation, axiom, sorry.
-/
import Derived.Test.YtealompbbknijaaChecked
import GoSem.Claim
import GoSem.ClaimJoined
import GoSem.ClaimMapViews
import Derived.JoinedTies
import Derived.KernelRfl
namespace Go.Proofs.Ytealompbbknijaa
/- THE CELL 'sum', in the pinned program and in every row, IS THE sha256 OF THE DUMP (.gsa) THAT YtealompbbknijaaProg.lean LOADS. Nothing in Lean hashes anything: it is a label: what it is worth is what the hold of that sum in a sandbox is worth. -/
noncomputable def Try.pinned : Pinned := { name := "ytealompbbknijaa", sum := "50ac6f515c7924084b10f068bc53b5b9364c1e3cbb6d89de5ea2a586fac8449d", checked := Try.checked }
namespace Rows
def none {H : Type} : Left H := { results := [], args := [] }

/-- 'cellaragelaw05.ChunkAlls': WHATEVER THE INPUT: true; the input reads as it did. -/
def chunkAllsSpec : ChangeSpec := { name := "chunkAlls", fn := fun _ => fun
  | [d1, d2] => { results := [.lit (.bool true)], args := [d1, d2] }
  | _ => none }
def chunkAllsRow : OpenClaim := { program := "ytealompbbknijaa", sum := "50ac6f515c7924084b10f068bc53b5b9364c1e3cbb6d89de5ea2a586fac8449d", func := "cellarage/cellaragelaw05.ChunkAlls", spec := "chunkAlls", apart := false }
def ChunkAllsSaid : Prop := chunkAllsRow.holds Try.pinned (OpenSpec.ofChange chunkAllsSpec)

/-- ITS FALSE NEIGHBOUR: 'it returns false'. Refute it at one input. -/
def chunkAllsWrong : ChangeSpec := { name := "chunkAlls", fn := fun _ => fun
  | [d1, d2] => { results := [.lit (.bool false)], args := [d1, d2] }
  | _ => none }
def ChunkAllsWrongFalsely : Prop := chunkAllsRow.holds Try.pinned (OpenSpec.ofChange chunkAllsWrong)

/-- 'cellaragelaw05.ChunkPieces': WHATEVER THE INPUT: true; the input reads as it did. -/
def chunkPiecesSpec : ChangeSpec := { name := "chunkPieces", fn := fun _ => fun
  | [d1, d2, d3] => { results := [.lit (.bool true)], args := [d1, d2, d3] }
  | _ => none }
def chunkPiecesRow : OpenClaim := { program := "ytealompbbknijaa", sum := "50ac6f515c7924084b10f068bc53b5b9364c1e3cbb6d89de5ea2a586fac8449d", func := "cellarage/cellaragelaw05.ChunkPieces", spec := "chunkPieces", apart := false }
def ChunkPiecesSaid : Prop := chunkPiecesRow.holds Try.pinned (OpenSpec.ofChange chunkPiecesSpec)

/-- ITS FALSE NEIGHBOUR: 'it returns false'. Refute it at one input. -/
def chunkPiecesWrong : ChangeSpec := { name := "chunkPieces", fn := fun _ => fun
  | [d1, d2, d3] => { results := [.lit (.bool false)], args := [d1, d2, d3] }
  | _ => none }
def ChunkPiecesWrongFalsely : Prop := chunkPiecesRow.holds Try.pinned (OpenSpec.ofChange chunkPiecesWrong)

/-- 'cellaragelaw05.ChunkWhole': WHATEVER THE INPUT: true; the input reads as it did. -/
def chunkWholeSpec : ChangeSpec := { name := "chunkWhole", fn := fun _ => fun
  | [d1, d2] => { results := [.lit (.bool true)], args := [d1, d2] }
  | _ => none }
def chunkWholeRow : OpenClaim := { program := "ytealompbbknijaa", sum := "50ac6f515c7924084b10f068bc53b5b9364c1e3cbb6d89de5ea2a586fac8449d", func := "cellarage/cellaragelaw05.ChunkWhole", spec := "chunkWhole", apart := false }
def ChunkWholeSaid : Prop := chunkWholeRow.holds Try.pinned (OpenSpec.ofChange chunkWholeSpec)

/-- ITS FALSE NEIGHBOUR: 'it returns false'. Refute it at one input. -/
def chunkWholeWrong : ChangeSpec := { name := "chunkWhole", fn := fun _ => fun
  | [d1, d2] => { results := [.lit (.bool false)], args := [d1, d2] }
  | _ => none }
def ChunkWholeWrongFalsely : Prop := chunkWholeRow.holds Try.pinned (OpenSpec.ofChange chunkWholeWrong)

/-- 'cellaragelaw05.ChunkAgain': WHATEVER THE INPUT: true; the input reads as it did. -/
def chunkAgainSpec : ChangeSpec := { name := "chunkAgain", fn := fun _ => fun
  | [d1, d2, d3] => { results := [.lit (.bool true)], args := [d1, d2, d3] }
  | _ => none }
def chunkAgainRow : OpenClaim := { program := "ytealompbbknijaa", sum := "50ac6f515c7924084b10f068bc53b5b9364c1e3cbb6d89de5ea2a586fac8449d", func := "cellarage/cellaragelaw05.ChunkAgain", spec := "chunkAgain", apart := false }
def ChunkAgainSaid : Prop := chunkAgainRow.holds Try.pinned (OpenSpec.ofChange chunkAgainSpec)

/-- ITS FALSE NEIGHBOUR: 'it returns false'. Refute it at one input. -/
def chunkAgainWrong : ChangeSpec := { name := "chunkAgain", fn := fun _ => fun
  | [d1, d2, d3] => { results := [.lit (.bool false)], args := [d1, d2, d3] }
  | _ => none }
def ChunkAgainWrongFalsely : Prop := chunkAgainRow.holds Try.pinned (OpenSpec.ofChange chunkAgainWrong)

/-- 'cellaragelaw05.ChunkStreams': WHATEVER THE INPUT: true; the input reads as it did. -/
def chunkStreamsSpec : ChangeSpec := { name := "chunkStreams", fn := fun _ => fun
  | [d1, d2, d3] => { results := [.lit (.bool true)], args := [d1, d2, d3] }
  | _ => none }
def chunkStreamsRow : OpenClaim := { program := "ytealompbbknijaa", sum := "50ac6f515c7924084b10f068bc53b5b9364c1e3cbb6d89de5ea2a586fac8449d", func := "cellarage/cellaragelaw05.ChunkStreams", spec := "chunkStreams", apart := false }
def ChunkStreamsSaid : Prop := chunkStreamsRow.holds Try.pinned (OpenSpec.ofChange chunkStreamsSpec)

/-- ITS FALSE NEIGHBOUR: 'it returns false'. Refute it at one input. -/
def chunkStreamsWrong : ChangeSpec := { name := "chunkStreams", fn := fun _ => fun
  | [d1, d2, d3] => { results := [.lit (.bool false)], args := [d1, d2, d3] }
  | _ => none }
def ChunkStreamsWrongFalsely : Prop := chunkStreamsRow.holds Try.pinned (OpenSpec.ofChange chunkStreamsWrong)

/-- 'cellaragelaw05.ChunkNil': WHATEVER THE INPUT: true; the input reads as it did. -/
def chunkNilSpec : ChangeSpec := { name := "chunkNil", fn := fun _ => fun
  | [d] => { results := [.lit (.bool true)], args := [d] }
  | _ => none }
def chunkNilRow : OpenClaim := { program := "ytealompbbknijaa", sum := "50ac6f515c7924084b10f068bc53b5b9364c1e3cbb6d89de5ea2a586fac8449d", func := "cellarage/cellaragelaw05.ChunkNil", spec := "chunkNil", apart := false }
def ChunkNilSaid : Prop := chunkNilRow.holds Try.pinned (OpenSpec.ofChange chunkNilSpec)

/-- ITS FALSE NEIGHBOUR: 'it returns false'. Refute it at one input. -/
def chunkNilWrong : ChangeSpec := { name := "chunkNil", fn := fun _ => fun
  | [d] => { results := [.lit (.bool false)], args := [d] }
  | _ => none }
def ChunkNilWrongFalsely : Prop := chunkNilRow.holds Try.pinned (OpenSpec.ofChange chunkNilWrong)

/-- 'cellaragelaw05.ChunkCuts': WHATEVER THE INPUT: true; the input reads as it did. -/
def chunkCutsSpec : ChangeSpec := { name := "chunkCuts", fn := fun _ => fun
  | [d1, d2] => { results := [.lit (.bool true)], args := [d1, d2] }
  | _ => none }
def chunkCutsRow : OpenClaim := { program := "ytealompbbknijaa", sum := "50ac6f515c7924084b10f068bc53b5b9364c1e3cbb6d89de5ea2a586fac8449d", func := "cellarage/cellaragelaw05.ChunkCuts", spec := "chunkCuts", apart := false }
def ChunkCutsSaid : Prop := chunkCutsRow.holds Try.pinned (OpenSpec.ofChange chunkCutsSpec)

/-- ITS FALSE NEIGHBOUR: 'it returns false'. Refute it at one input. -/
def chunkCutsWrong : ChangeSpec := { name := "chunkCuts", fn := fun _ => fun
  | [d1, d2] => { results := [.lit (.bool false)], args := [d1, d2] }
  | _ => none }
def ChunkCutsWrongFalsely : Prop := chunkCutsRow.holds Try.pinned (OpenSpec.ofChange chunkCutsWrong)

/- THE SECOND FORM. 'bulk': how many values and letters a reading holds, each counted each time it is reached (what is shared counts as often as it is met; a slice's spare places count too). A statement '..UptoSaid' is the law's where the arguments, and the package variables that the reading takes, are together of bulk at most 1048576: NARROWER than '..Said'. Prove '..Said' where nothing that the law and all that it calls make is longer than what came in: it says more and counts as full. Else prove '..UptoSaid'. A law counts once. -/
mutual
def uptoBulk {H : Type} : DataW H → Nat
  | .lit (.string bytes) => bytes.length + 1
  | .lit _ => 1
  | .nil => 1
  | .ptr d => uptoBulk d + 1
  | .slice elems spare => uptoBulkAll elems + uptoBulkAll spare + 1
  | .agg parts => uptoBulkAll parts + 1
  | .iface _ d => uptoBulk d + 1
  | .map entries => uptoBulkEntries entries + 1
  | .held _ => 1
def uptoBulkAll {H : Type} : List (DataW H) → Nat
  | [] => 0
  | d :: r => uptoBulk d + uptoBulkAll r
def uptoBulkEntries {H : Type} : List (Lit × DataW H) → Nat
  | [] => 0
  | x :: r => uptoBulkEntry x + uptoBulkEntries r
def uptoBulkEntry {H : Type} : Lit × DataW H → Nat
  | (.string bytes, d) => bytes.length + uptoBulk d + 1
  | (_, d) => uptoBulk d + 1
 end
def uptoSmall : (H : Type) → List (DataW H) → Bool := fun _ ds => decide (uptoBulkAll ds ≤ 1048576)
def OpenSpec.upto (s : _root_.Go.ChangeSpec) : _root_.Go.OpenSpec := { _root_.Go.OpenSpec.ofChange s with cond := some uptoSmall }

/-- 'cellaragelaw05.ChunkAlls', WHERE WHAT IT READS IS OF BULK AT MOST 1048576: true; the input reads as it did. -/
def chunkAllsUptoRow : OpenClaim := { program := "ytealompbbknijaa", sum := "50ac6f515c7924084b10f068bc53b5b9364c1e3cbb6d89de5ea2a586fac8449d", func := "cellarage/cellaragelaw05.ChunkAlls", spec := "chunkAlls", apart := false, narrowed := true }
def ChunkAllsUptoSaid : Prop := chunkAllsUptoRow.holds Try.pinned (OpenSpec.upto chunkAllsSpec)

/-- 'cellaragelaw05.ChunkPieces', WHERE WHAT IT READS IS OF BULK AT MOST 1048576: true; the input reads as it did. -/
def chunkPiecesUptoRow : OpenClaim := { program := "ytealompbbknijaa", sum := "50ac6f515c7924084b10f068bc53b5b9364c1e3cbb6d89de5ea2a586fac8449d", func := "cellarage/cellaragelaw05.ChunkPieces", spec := "chunkPieces", apart := false, narrowed := true }
def ChunkPiecesUptoSaid : Prop := chunkPiecesUptoRow.holds Try.pinned (OpenSpec.upto chunkPiecesSpec)

/-- 'cellaragelaw05.ChunkWhole', WHERE WHAT IT READS IS OF BULK AT MOST 1048576: true; the input reads as it did. -/
def chunkWholeUptoRow : OpenClaim := { program := "ytealompbbknijaa", sum := "50ac6f515c7924084b10f068bc53b5b9364c1e3cbb6d89de5ea2a586fac8449d", func := "cellarage/cellaragelaw05.ChunkWhole", spec := "chunkWhole", apart := false, narrowed := true }
def ChunkWholeUptoSaid : Prop := chunkWholeUptoRow.holds Try.pinned (OpenSpec.upto chunkWholeSpec)

/-- 'cellaragelaw05.ChunkAgain', WHERE WHAT IT READS IS OF BULK AT MOST 1048576: true; the input reads as it did. -/
def chunkAgainUptoRow : OpenClaim := { program := "ytealompbbknijaa", sum := "50ac6f515c7924084b10f068bc53b5b9364c1e3cbb6d89de5ea2a586fac8449d", func := "cellarage/cellaragelaw05.ChunkAgain", spec := "chunkAgain", apart := false, narrowed := true }
def ChunkAgainUptoSaid : Prop := chunkAgainUptoRow.holds Try.pinned (OpenSpec.upto chunkAgainSpec)

/-- 'cellaragelaw05.ChunkStreams', WHERE WHAT IT READS IS OF BULK AT MOST 1048576: true; the input reads as it did. -/
def chunkStreamsUptoRow : OpenClaim := { program := "ytealompbbknijaa", sum := "50ac6f515c7924084b10f068bc53b5b9364c1e3cbb6d89de5ea2a586fac8449d", func := "cellarage/cellaragelaw05.ChunkStreams", spec := "chunkStreams", apart := false, narrowed := true }
def ChunkStreamsUptoSaid : Prop := chunkStreamsUptoRow.holds Try.pinned (OpenSpec.upto chunkStreamsSpec)

/-- 'cellaragelaw05.ChunkNil', WHERE WHAT IT READS IS OF BULK AT MOST 1048576: true; the input reads as it did. -/
def chunkNilUptoRow : OpenClaim := { program := "ytealompbbknijaa", sum := "50ac6f515c7924084b10f068bc53b5b9364c1e3cbb6d89de5ea2a586fac8449d", func := "cellarage/cellaragelaw05.ChunkNil", spec := "chunkNil", apart := false, narrowed := true }
def ChunkNilUptoSaid : Prop := chunkNilUptoRow.holds Try.pinned (OpenSpec.upto chunkNilSpec)

/-- 'cellaragelaw05.ChunkCuts', WHERE WHAT IT READS IS OF BULK AT MOST 1048576: true; the input reads as it did. -/
def chunkCutsUptoRow : OpenClaim := { program := "ytealompbbknijaa", sum := "50ac6f515c7924084b10f068bc53b5b9364c1e3cbb6d89de5ea2a586fac8449d", func := "cellarage/cellaragelaw05.ChunkCuts", spec := "chunkCuts", apart := false, narrowed := true }
def ChunkCutsUptoSaid : Prop := chunkCutsUptoRow.holds Try.pinned (OpenSpec.upto chunkCutsSpec)

end Rows
end Go.Proofs.Ytealompbbknijaa
