/-
  No cell of these rows narrows 'for every input' (looked for: loops, veiled, ifaces, maps, wideKeys, modest, calm, conditions, laid).
  DERIVED. THE GIVEN ROWS OF THIS SEAT. 5 by the template 'for every input the law returns true; each argument reads behind the call as it read before'; 0 by the template 'total and deterministic' (their statements: YteodhbkhkecigaaTotals.lean).
  GIVEN WITH THE SEED: the statements are not yours to turn. If you find one false, say at which input.
  Laid BY PROGRAM, IN A SANDBOX (cutbox-rows.mjs): the forced cells as the released guide's own fill.sh prints them over the translation da41310c7bdafe04… (all of the seat's roots in one cut). By AI agents, Wed Nov 11 2026. No macro, syntax, notation, axiom, sorry.
-/
import Derived.Test.YteodhbkhkecigaaChecked
import GoSem.Claim
import GoSem.ClaimJoined
import GoSem.ClaimMapViews
import Derived.JoinedTies
import Derived.KernelRfl
namespace Go.Proofs.Yteodhbkhkecigaa
/- THE CELL 'sum', in the pinned program and in every row, IS THE sha256 OF THE DUMP (.gsa) THAT YteodhbkhkecigaaProg.lean LOADS. Nothing in Lean hashes anything: it is a label: what it is worth is what the hold of that sum in a sandbox is worth. -/
noncomputable def Try.pinned : Pinned := { name := "yteodhbkhkecigaa", sum := "da41310c7bdafe046d20089991d1994de8b322ceb6b2e682c482d81b7d8881b7", checked := Try.checked }
namespace Rows
def none {H : Type} : Left H := { results := [], args := [] }

/-- 'cellaragelaw06.BloomOrder': WHATEVER THE INPUT: true; the input reads as it did. -/
def bloomOrderSpec : ChangeSpec := { name := "bloomOrder", fn := fun _ => fun
  | [d1, d2, d3, d4] => { results := [.lit (.bool true)], args := [d1, d2, d3, d4] }
  | _ => none }
def bloomOrderRow : OpenClaim := { program := "yteodhbkhkecigaa", sum := "da41310c7bdafe046d20089991d1994de8b322ceb6b2e682c482d81b7d8881b7", func := "cellarage/cellaragelaw06.BloomOrder", spec := "bloomOrder", unfollowed := true, recurses := true, apart := false }
def BloomOrderSaid : Prop := bloomOrderRow.holds Try.pinned (OpenSpec.ofChange bloomOrderSpec)

/-- ITS FALSE NEIGHBOUR: 'it returns false'. Refute it at one input. -/
def bloomOrderWrong : ChangeSpec := { name := "bloomOrder", fn := fun _ => fun
  | [d1, d2, d3, d4] => { results := [.lit (.bool false)], args := [d1, d2, d3, d4] }
  | _ => none }
def BloomOrderWrongFalsely : Prop := bloomOrderRow.holds Try.pinned (OpenSpec.ofChange bloomOrderWrong)

/-- 'cellaragelaw06.BloomOwn': WHATEVER THE INPUT: true; the input reads as it did. -/
def bloomOwnSpec : ChangeSpec := { name := "bloomOwn", fn := fun _ => fun
  | [d1, d2] => { results := [.lit (.bool true)], args := [d1, d2] }
  | _ => none }
def bloomOwnRow : OpenClaim := { program := "yteodhbkhkecigaa", sum := "da41310c7bdafe046d20089991d1994de8b322ceb6b2e682c482d81b7d8881b7", func := "cellarage/cellaragelaw06.BloomOwn", spec := "bloomOwn", unfollowed := true, recurses := true, apart := false }
def BloomOwnSaid : Prop := bloomOwnRow.holds Try.pinned (OpenSpec.ofChange bloomOwnSpec)

/-- ITS FALSE NEIGHBOUR: 'it returns false'. Refute it at one input. -/
def bloomOwnWrong : ChangeSpec := { name := "bloomOwn", fn := fun _ => fun
  | [d1, d2] => { results := [.lit (.bool false)], args := [d1, d2] }
  | _ => none }
def BloomOwnWrongFalsely : Prop := bloomOwnRow.holds Try.pinned (OpenSpec.ofChange bloomOwnWrong)

/-- 'cellaragelaw06.BloomPlays': WHATEVER THE INPUT: true; the input reads as it did. -/
def bloomPlaysSpec : ChangeSpec := { name := "bloomPlays", fn := fun _ => fun
  | [d1, d2, d3, d4] => { results := [.lit (.bool true)], args := [d1, d2, d3, d4] }
  | _ => none }
def bloomPlaysRow : OpenClaim := { program := "yteodhbkhkecigaa", sum := "da41310c7bdafe046d20089991d1994de8b322ceb6b2e682c482d81b7d8881b7", func := "cellarage/cellaragelaw06.BloomPlays", spec := "bloomPlays", unfollowed := true, recurses := true, apart := false }
def BloomPlaysSaid : Prop := bloomPlaysRow.holds Try.pinned (OpenSpec.ofChange bloomPlaysSpec)

/-- ITS FALSE NEIGHBOUR: 'it returns false'. Refute it at one input. -/
def bloomPlaysWrong : ChangeSpec := { name := "bloomPlays", fn := fun _ => fun
  | [d1, d2, d3, d4] => { results := [.lit (.bool false)], args := [d1, d2, d3, d4] }
  | _ => none }
def BloomPlaysWrongFalsely : Prop := bloomPlaysRow.holds Try.pinned (OpenSpec.ofChange bloomPlaysWrong)

/-- 'cellaragelaw06.BloomHas': WHATEVER THE INPUT: true; the input reads as it did. -/
def bloomHasSpec : ChangeSpec := { name := "bloomHas", fn := fun _ => fun
  | [d1, d2, d3, d4] => { results := [.lit (.bool true)], args := [d1, d2, d3, d4] }
  | _ => none }
def bloomHasRow : OpenClaim := { program := "yteodhbkhkecigaa", sum := "da41310c7bdafe046d20089991d1994de8b322ceb6b2e682c482d81b7d8881b7", func := "cellarage/cellaragelaw06.BloomHas", spec := "bloomHas", unfollowed := true, recurses := true, apart := false }
def BloomHasSaid : Prop := bloomHasRow.holds Try.pinned (OpenSpec.ofChange bloomHasSpec)

/-- ITS FALSE NEIGHBOUR: 'it returns false'. Refute it at one input. -/
def bloomHasWrong : ChangeSpec := { name := "bloomHas", fn := fun _ => fun
  | [d1, d2, d3, d4] => { results := [.lit (.bool false)], args := [d1, d2, d3, d4] }
  | _ => none }
def BloomHasWrongFalsely : Prop := bloomHasRow.holds Try.pinned (OpenSpec.ofChange bloomHasWrong)

/-- 'cellaragelaw06.BloomNil': WHATEVER THE INPUT: true; the input reads as it did. -/
def bloomNilSpec : ChangeSpec := { name := "bloomNil", fn := fun _ => fun
  | [d1, d2] => { results := [.lit (.bool true)], args := [d1, d2] }
  | _ => none }
def bloomNilRow : OpenClaim := { program := "yteodhbkhkecigaa", sum := "da41310c7bdafe046d20089991d1994de8b322ceb6b2e682c482d81b7d8881b7", func := "cellarage/cellaragelaw06.BloomNil", spec := "bloomNil", unfollowed := true, recurses := true, apart := false }
def BloomNilSaid : Prop := bloomNilRow.holds Try.pinned (OpenSpec.ofChange bloomNilSpec)

/-- ITS FALSE NEIGHBOUR: 'it returns false'. Refute it at one input. -/
def bloomNilWrong : ChangeSpec := { name := "bloomNil", fn := fun _ => fun
  | [d1, d2] => { results := [.lit (.bool false)], args := [d1, d2] }
  | _ => none }
def BloomNilWrongFalsely : Prop := bloomNilRow.holds Try.pinned (OpenSpec.ofChange bloomNilWrong)

/- THE SECOND FORM. 'bulk': how many values and letters a reading holds, each counted each time it is reached (what is shared counts as often as it is met; a slice's spare places count too). A statement '..UptoSaid' is the law's where the arguments, and the package variables that the reading takes, are together of bulk at most 1048576: NARROWER than '..Said'. Prove '..Said' where nothing that the law and all that it calls make is longer than what came in: it says more and counts as full. Else prove '..UptoSaid'. A law counts once. -/
mutual
def uptoBulk {H : Type} : DataW H → Nat
  | .lit (.string bytes) => bytes.length + 1
  | .lit _ => 1
  | .nil => 1
  | .ptr d => uptoBulk d + 1
  | .slice elems spare => uptoBulkAll elems + uptoBulkAll spare + 1
  | .agg parts => uptoBulkAll parts + 1
  | .iface _ d => uptoBulk d + 1
  | .map entries => uptoBulkEntries entries + 1
  | .held _ => 1
def uptoBulkAll {H : Type} : List (DataW H) → Nat
  | [] => 0
  | d :: r => uptoBulk d + uptoBulkAll r
def uptoBulkEntries {H : Type} : List (Lit × DataW H) → Nat
  | [] => 0
  | x :: r => uptoBulkEntry x + uptoBulkEntries r
def uptoBulkEntry {H : Type} : Lit × DataW H → Nat
  | (.string bytes, d) => bytes.length + uptoBulk d + 1
  | (_, d) => uptoBulk d + 1
 end
def uptoSmall : (H : Type) → List (DataW H) → Bool := fun _ ds => decide (uptoBulkAll ds ≤ 1048576)
def OpenSpec.upto (s : _root_.Go.ChangeSpec) : _root_.Go.OpenSpec := { _root_.Go.OpenSpec.ofChange s with cond := some uptoSmall }

/-- 'cellaragelaw06.BloomOrder', WHERE WHAT IT READS IS OF BULK AT MOST 1048576: true; the input reads as it did. -/
def bloomOrderUptoRow : OpenClaim := { program := "yteodhbkhkecigaa", sum := "da41310c7bdafe046d20089991d1994de8b322ceb6b2e682c482d81b7d8881b7", func := "cellarage/cellaragelaw06.BloomOrder", spec := "bloomOrder", unfollowed := true, recurses := true, apart := false, narrowed := true }
def BloomOrderUptoSaid : Prop := bloomOrderUptoRow.holds Try.pinned (OpenSpec.upto bloomOrderSpec)

/-- 'cellaragelaw06.BloomOwn', WHERE WHAT IT READS IS OF BULK AT MOST 1048576: true; the input reads as it did. -/
def bloomOwnUptoRow : OpenClaim := { program := "yteodhbkhkecigaa", sum := "da41310c7bdafe046d20089991d1994de8b322ceb6b2e682c482d81b7d8881b7", func := "cellarage/cellaragelaw06.BloomOwn", spec := "bloomOwn", unfollowed := true, recurses := true, apart := false, narrowed := true }
def BloomOwnUptoSaid : Prop := bloomOwnUptoRow.holds Try.pinned (OpenSpec.upto bloomOwnSpec)

/-- 'cellaragelaw06.BloomPlays', WHERE WHAT IT READS IS OF BULK AT MOST 1048576: true; the input reads as it did. -/
def bloomPlaysUptoRow : OpenClaim := { program := "yteodhbkhkecigaa", sum := "da41310c7bdafe046d20089991d1994de8b322ceb6b2e682c482d81b7d8881b7", func := "cellarage/cellaragelaw06.BloomPlays", spec := "bloomPlays", unfollowed := true, recurses := true, apart := false, narrowed := true }
def BloomPlaysUptoSaid : Prop := bloomPlaysUptoRow.holds Try.pinned (OpenSpec.upto bloomPlaysSpec)

/-- 'cellaragelaw06.BloomHas', WHERE WHAT IT READS IS OF BULK AT MOST 1048576: true; the input reads as it did. -/
def bloomHasUptoRow : OpenClaim := { program := "yteodhbkhkecigaa", sum := "da41310c7bdafe046d20089991d1994de8b322ceb6b2e682c482d81b7d8881b7", func := "cellarage/cellaragelaw06.BloomHas", spec := "bloomHas", unfollowed := true, recurses := true, apart := false, narrowed := true }
def BloomHasUptoSaid : Prop := bloomHasUptoRow.holds Try.pinned (OpenSpec.upto bloomHasSpec)

/-- 'cellaragelaw06.BloomNil', WHERE WHAT IT READS IS OF BULK AT MOST 1048576: true; the input reads as it did. -/
def bloomNilUptoRow : OpenClaim := { program := "yteodhbkhkecigaa", sum := "da41310c7bdafe046d20089991d1994de8b322ceb6b2e682c482d81b7d8881b7", func := "cellarage/cellaragelaw06.BloomNil", spec := "bloomNil", unfollowed := true, recurses := true, apart := false, narrowed := true }
def BloomNilUptoSaid : Prop := bloomNilUptoRow.holds Try.pinned (OpenSpec.upto bloomNilSpec)

end Rows
end Go.Proofs.Yteodhbkhkecigaa
