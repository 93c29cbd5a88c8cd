/-
  No cell of these rows narrows 'for every input' (looked for: loops, veiled, ifaces, maps, wideKeys, modest, calm, conditions, laid).
  DERIVED. THE GIVEN ROWS OF THIS SEAT. 5 by the template 'for every input the law returns true; each argument reads behind the call as it read before'; 0 by the template 'total and deterministic' (their statements: YteaifjkocclomaaTotals.lean).
  GIVEN WITH THE SEED: the statements are not yours to turn. If you find one false, say at which input.
  Laid BY PROGRAM, IN A SANDBOX (cutbox-rows.mjs): the forced cells as the released guide's own fill.sh prints them over the translation 2621ea51436009bd… (all of the seat's roots in one cut). By AI agents, Wed Nov 11 2026. No macro, syntax, notation, axiom, sorry.
-/
import Derived.Test.YteaifjkocclomaaChecked
import GoSem.Claim
import GoSem.ClaimJoined
import GoSem.ClaimMapViews
import Derived.JoinedTies
import Derived.KernelRfl
namespace Go.Proofs.Yteaifjkocclomaa
/- THE CELL 'sum', in the pinned program and in every row, IS THE sha256 OF THE DUMP (.gsa) THAT YteaifjkocclomaaProg.lean LOADS. Nothing in Lean hashes anything: it is a label: what it is worth is what the hold of that sum in a sandbox is worth. -/
noncomputable def Try.pinned : Pinned := { name := "yteaifjkocclomaa", sum := "2621ea51436009bdc93dcc6f98cb091561230e7cfe63f3621742371a1368a611", checked := Try.checked }
namespace Rows
def none {H : Type} : Left H := { results := [], args := [] }

/-- 'cellaragelaw04.RollSums': WHATEVER THE INPUT: true; the input reads as it did. -/
def rollSumsSpec : ChangeSpec := { name := "rollSums", fn := fun _ => fun
  | [d] => { results := [.lit (.bool true)], args := [d] }
  | _ => none }
def rollSumsRow : OpenClaim := { program := "yteaifjkocclomaa", sum := "2621ea51436009bdc93dcc6f98cb091561230e7cfe63f3621742371a1368a611", func := "cellarage/cellaragelaw04.RollSums", spec := "rollSums", apart := false }
def RollSumsSaid : Prop := rollSumsRow.holds Try.pinned (OpenSpec.ofChange rollSumsSpec)

/-- ITS FALSE NEIGHBOUR: 'it returns false'. Refute it at one input. -/
def rollSumsWrong : ChangeSpec := { name := "rollSums", fn := fun _ => fun
  | [d] => { results := [.lit (.bool false)], args := [d] }
  | _ => none }
def RollSumsWrongFalsely : Prop := rollSumsRow.holds Try.pinned (OpenSpec.ofChange rollSumsWrong)

/-- 'cellaragelaw04.RollAlls': WHATEVER THE INPUT: true; the input reads as it did. -/
def rollAllsSpec : ChangeSpec := { name := "rollAlls", fn := fun _ => fun
  | [d] => { results := [.lit (.bool true)], args := [d] }
  | _ => none }
def rollAllsRow : OpenClaim := { program := "yteaifjkocclomaa", sum := "2621ea51436009bdc93dcc6f98cb091561230e7cfe63f3621742371a1368a611", func := "cellarage/cellaragelaw04.RollAlls", spec := "rollAlls", apart := false }
def RollAllsSaid : Prop := rollAllsRow.holds Try.pinned (OpenSpec.ofChange rollAllsSpec)

/-- ITS FALSE NEIGHBOUR: 'it returns false'. Refute it at one input. -/
def rollAllsWrong : ChangeSpec := { name := "rollAlls", fn := fun _ => fun
  | [d] => { results := [.lit (.bool false)], args := [d] }
  | _ => none }
def RollAllsWrongFalsely : Prop := rollAllsRow.holds Try.pinned (OpenSpec.ofChange rollAllsWrong)

/-- 'cellaragelaw04.RollTells': WHATEVER THE INPUT: true; the input reads as it did. -/
def rollTellsSpec : ChangeSpec := { name := "rollTells", fn := fun _ => fun
  | [d1, d2, d3, d4] => { results := [.lit (.bool true)], args := [d1, d2, d3, d4] }
  | _ => none }
def rollTellsRow : OpenClaim := { program := "yteaifjkocclomaa", sum := "2621ea51436009bdc93dcc6f98cb091561230e7cfe63f3621742371a1368a611", func := "cellarage/cellaragelaw04.RollTells", spec := "rollTells", apart := false }
def RollTellsSaid : Prop := rollTellsRow.holds Try.pinned (OpenSpec.ofChange rollTellsSpec)

/-- ITS FALSE NEIGHBOUR: 'it returns false'. Refute it at one input. -/
def rollTellsWrong : ChangeSpec := { name := "rollTells", fn := fun _ => fun
  | [d1, d2, d3, d4] => { results := [.lit (.bool false)], args := [d1, d2, d3, d4] }
  | _ => none }
def RollTellsWrongFalsely : Prop := rollTellsRow.holds Try.pinned (OpenSpec.ofChange rollTellsWrong)

/-- 'cellaragelaw04.RollNexts': WHATEVER THE INPUT: true; the input reads as it did. -/
def rollNextsSpec : ChangeSpec := { name := "rollNexts", fn := fun _ => fun
  | [d1, d2, d3] => { results := [.lit (.bool true)], args := [d1, d2, d3] }
  | _ => none }
def rollNextsRow : OpenClaim := { program := "yteaifjkocclomaa", sum := "2621ea51436009bdc93dcc6f98cb091561230e7cfe63f3621742371a1368a611", func := "cellarage/cellaragelaw04.RollNexts", spec := "rollNexts", apart := false }
def RollNextsSaid : Prop := rollNextsRow.holds Try.pinned (OpenSpec.ofChange rollNextsSpec)

/-- ITS FALSE NEIGHBOUR: 'it returns false'. Refute it at one input. -/
def rollNextsWrong : ChangeSpec := { name := "rollNexts", fn := fun _ => fun
  | [d1, d2, d3] => { results := [.lit (.bool false)], args := [d1, d2, d3] }
  | _ => none }
def RollNextsWrongFalsely : Prop := rollNextsRow.holds Try.pinned (OpenSpec.ofChange rollNextsWrong)

/-- 'cellaragelaw04.RollRolls': WHATEVER THE INPUT: true; the input reads as it did. -/
def rollRollsSpec : ChangeSpec := { name := "rollRolls", fn := fun _ => fun
  | [d] => { results := [.lit (.bool true)], args := [d] }
  | _ => none }
def rollRollsRow : OpenClaim := { program := "yteaifjkocclomaa", sum := "2621ea51436009bdc93dcc6f98cb091561230e7cfe63f3621742371a1368a611", func := "cellarage/cellaragelaw04.RollRolls", spec := "rollRolls", apart := false }
def RollRollsSaid : Prop := rollRollsRow.holds Try.pinned (OpenSpec.ofChange rollRollsSpec)

/-- ITS FALSE NEIGHBOUR: 'it returns false'. Refute it at one input. -/
def rollRollsWrong : ChangeSpec := { name := "rollRolls", fn := fun _ => fun
  | [d] => { results := [.lit (.bool false)], args := [d] }
  | _ => none }
def RollRollsWrongFalsely : Prop := rollRollsRow.holds Try.pinned (OpenSpec.ofChange rollRollsWrong)

/- THE SECOND FORM. 'bulk': how many values and letters a reading holds, each counted each time it is reached (what is shared counts as often as it is met; a slice's spare places count too). A statement '..UptoSaid' is the law's where the arguments, and the package variables that the reading takes, are together of bulk at most 1048576: NARROWER than '..Said'. Prove '..Said' where nothing that the law and all that it calls make is longer than what came in: it says more and counts as full. Else prove '..UptoSaid'. A law counts once. -/
mutual
def uptoBulk {H : Type} : DataW H → Nat
  | .lit (.string bytes) => bytes.length + 1
  | .lit _ => 1
  | .nil => 1
  | .ptr d => uptoBulk d + 1
  | .slice elems spare => uptoBulkAll elems + uptoBulkAll spare + 1
  | .agg parts => uptoBulkAll parts + 1
  | .iface _ d => uptoBulk d + 1
  | .map entries => uptoBulkEntries entries + 1
  | .held _ => 1
def uptoBulkAll {H : Type} : List (DataW H) → Nat
  | [] => 0
  | d :: r => uptoBulk d + uptoBulkAll r
def uptoBulkEntries {H : Type} : List (Lit × DataW H) → Nat
  | [] => 0
  | x :: r => uptoBulkEntry x + uptoBulkEntries r
def uptoBulkEntry {H : Type} : Lit × DataW H → Nat
  | (.string bytes, d) => bytes.length + uptoBulk d + 1
  | (_, d) => uptoBulk d + 1
 end
def uptoSmall : (H : Type) → List (DataW H) → Bool := fun _ ds => decide (uptoBulkAll ds ≤ 1048576)
def OpenSpec.upto (s : _root_.Go.ChangeSpec) : _root_.Go.OpenSpec := { _root_.Go.OpenSpec.ofChange s with cond := some uptoSmall }

/-- 'cellaragelaw04.RollSums', WHERE WHAT IT READS IS OF BULK AT MOST 1048576: true; the input reads as it did. -/
def rollSumsUptoRow : OpenClaim := { program := "yteaifjkocclomaa", sum := "2621ea51436009bdc93dcc6f98cb091561230e7cfe63f3621742371a1368a611", func := "cellarage/cellaragelaw04.RollSums", spec := "rollSums", apart := false, narrowed := true }
def RollSumsUptoSaid : Prop := rollSumsUptoRow.holds Try.pinned (OpenSpec.upto rollSumsSpec)

/-- 'cellaragelaw04.RollAlls', WHERE WHAT IT READS IS OF BULK AT MOST 1048576: true; the input reads as it did. -/
def rollAllsUptoRow : OpenClaim := { program := "yteaifjkocclomaa", sum := "2621ea51436009bdc93dcc6f98cb091561230e7cfe63f3621742371a1368a611", func := "cellarage/cellaragelaw04.RollAlls", spec := "rollAlls", apart := false, narrowed := true }
def RollAllsUptoSaid : Prop := rollAllsUptoRow.holds Try.pinned (OpenSpec.upto rollAllsSpec)

/-- 'cellaragelaw04.RollTells', WHERE WHAT IT READS IS OF BULK AT MOST 1048576: true; the input reads as it did. -/
def rollTellsUptoRow : OpenClaim := { program := "yteaifjkocclomaa", sum := "2621ea51436009bdc93dcc6f98cb091561230e7cfe63f3621742371a1368a611", func := "cellarage/cellaragelaw04.RollTells", spec := "rollTells", apart := false, narrowed := true }
def RollTellsUptoSaid : Prop := rollTellsUptoRow.holds Try.pinned (OpenSpec.upto rollTellsSpec)

/-- 'cellaragelaw04.RollNexts', WHERE WHAT IT READS IS OF BULK AT MOST 1048576: true; the input reads as it did. -/
def rollNextsUptoRow : OpenClaim := { program := "yteaifjkocclomaa", sum := "2621ea51436009bdc93dcc6f98cb091561230e7cfe63f3621742371a1368a611", func := "cellarage/cellaragelaw04.RollNexts", spec := "rollNexts", apart := false, narrowed := true }
def RollNextsUptoSaid : Prop := rollNextsUptoRow.holds Try.pinned (OpenSpec.upto rollNextsSpec)

/-- 'cellaragelaw04.RollRolls', WHERE WHAT IT READS IS OF BULK AT MOST 1048576: true; the input reads as it did. -/
def rollRollsUptoRow : OpenClaim := { program := "yteaifjkocclomaa", sum := "2621ea51436009bdc93dcc6f98cb091561230e7cfe63f3621742371a1368a611", func := "cellarage/cellaragelaw04.RollRolls", spec := "rollRolls", apart := false, narrowed := true }
def RollRollsUptoSaid : Prop := rollRollsUptoRow.holds Try.pinned (OpenSpec.upto rollRollsSpec)

end Rows
end Go.Proofs.Yteaifjkocclomaa
