/-
  No cell of these rows narrows 'for every input' (looked for: loops, veiled, ifaces, maps, wideKeys, modest, calm, conditions, laid).
  DERIVED. THE GIVEN ROWS OF THIS SEAT. 4 by the template 'for every input the law returns true; each argument reads behind the call as it read before'; 0 by the template 'total and deterministic' (their statements: YtfjolephpghafaaTotals.lean).
  GIVEN WITH THE SEED: the statements are not yours to turn. If you find one false, say at which input.
  Laid BY PROGRAM, IN A SANDBOX (cutbox-rows.mjs): the forced cells as the released guide's own fill.sh prints them over the translation 32f26e13a8d71175… (all of the seat's roots in one cut). By AI agents, Wed Nov 11 2026. No macro, syntax, notation, axiom, sorry.
-/
import Derived.Test.YtfjolephpghafaaChecked
import GoSem.Claim
import GoSem.ClaimJoined
import GoSem.ClaimMapViews
import Derived.JoinedTies
import Derived.KernelRfl
namespace Go.Proofs.Ytfjolephpghafaa
/- THE CELL 'sum', in the pinned program and in every row, IS THE sha256 OF THE DUMP (.gsa) THAT YtfjolephpghafaaProg.lean LOADS. Nothing in Lean hashes anything: it is a label: what it is worth is what the hold of that sum in a sandbox is worth. -/
noncomputable def Try.pinned : Pinned := { name := "ytfjolephpghafaa", sum := "32f26e13a8d711758880d3d0598dbd5d4b45263f6148d0598243ec58d2c38bd0", checked := Try.checked }
namespace Rows
def none {H : Type} : Left H := { results := [], args := [] }

/-- 'bordereaulaw4.OptionNumbers': WHATEVER THE INPUT: true; the input reads as it did. -/
def optionNumbersSpec : ChangeSpec := { name := "optionNumbers", fn := fun _ => fun
  | [] => { results := [.lit (.bool true)], args := [] }
  | _ => none }
def optionNumbersRow : OpenClaim := { program := "ytfjolephpghafaa", sum := "32f26e13a8d711758880d3d0598dbd5d4b45263f6148d0598243ec58d2c38bd0", func := "bordereau/bordereaulaw4.OptionNumbers", spec := "optionNumbers", apart := false }
def OptionNumbersSaid : Prop := optionNumbersRow.holds Try.pinned (OpenSpec.ofChange optionNumbersSpec)

/-- ITS FALSE NEIGHBOUR: 'it returns false'. Refute it at one input. -/
def optionNumbersWrong : ChangeSpec := { name := "optionNumbers", fn := fun _ => fun
  | [] => { results := [.lit (.bool false)], args := [] }
  | _ => none }
def OptionNumbersWrongFalsely : Prop := optionNumbersRow.holds Try.pinned (OpenSpec.ofChange optionNumbersWrong)

/-- 'bordereaulaw4.OptionTells': WHATEVER THE INPUT: true; the input reads as it did. -/
def optionTellsSpec : ChangeSpec := { name := "optionTells", fn := fun _ => fun
  | [d1, d2, d3, d4, d5, d6, d7, d8] => { results := [.lit (.bool true)], args := [d1, d2, d3, d4, d5, d6, d7, d8] }
  | _ => none }
def optionTellsRow : OpenClaim := { program := "ytfjolephpghafaa", sum := "32f26e13a8d711758880d3d0598dbd5d4b45263f6148d0598243ec58d2c38bd0", func := "bordereau/bordereaulaw4.OptionTells", spec := "optionTells", apart := false }
def OptionTellsSaid : Prop := optionTellsRow.holds Try.pinned (OpenSpec.ofChange optionTellsSpec)

/-- ITS FALSE NEIGHBOUR: 'it returns false'. Refute it at one input. -/
def optionTellsWrong : ChangeSpec := { name := "optionTells", fn := fun _ => fun
  | [d1, d2, d3, d4, d5, d6, d7, d8] => { results := [.lit (.bool false)], args := [d1, d2, d3, d4, d5, d6, d7, d8] }
  | _ => none }
def OptionTellsWrongFalsely : Prop := optionTellsRow.holds Try.pinned (OpenSpec.ofChange optionTellsWrong)

/-- 'bordereaulaw4.OptionOrder': WHATEVER THE INPUT: true; the input reads as it did. -/
def optionOrderSpec : ChangeSpec := { name := "optionOrder", fn := fun _ => fun
  | [d1, d2, d3, d4] => { results := [.lit (.bool true)], args := [d1, d2, d3, d4] }
  | _ => none }
def optionOrderRow : OpenClaim := { program := "ytfjolephpghafaa", sum := "32f26e13a8d711758880d3d0598dbd5d4b45263f6148d0598243ec58d2c38bd0", func := "bordereau/bordereaulaw4.OptionOrder", spec := "optionOrder", apart := false }
def OptionOrderSaid : Prop := optionOrderRow.holds Try.pinned (OpenSpec.ofChange optionOrderSpec)

/-- ITS FALSE NEIGHBOUR: 'it returns false'. Refute it at one input. -/
def optionOrderWrong : ChangeSpec := { name := "optionOrder", fn := fun _ => fun
  | [d1, d2, d3, d4] => { results := [.lit (.bool false)], args := [d1, d2, d3, d4] }
  | _ => none }
def OptionOrderWrongFalsely : Prop := optionOrderRow.holds Try.pinned (OpenSpec.ofChange optionOrderWrong)

/-- 'bordereaulaw4.OptionRunes': WHATEVER THE INPUT: true; the input reads as it did. -/
def optionRunesSpec : ChangeSpec := { name := "optionRunes", fn := fun _ => fun
  | [d1, d2] => { results := [.lit (.bool true)], args := [d1, d2] }
  | _ => none }
def optionRunesRow : OpenClaim := { program := "ytfjolephpghafaa", sum := "32f26e13a8d711758880d3d0598dbd5d4b45263f6148d0598243ec58d2c38bd0", func := "bordereau/bordereaulaw4.OptionRunes", spec := "optionRunes", apart := false }
def OptionRunesSaid : Prop := optionRunesRow.holds Try.pinned (OpenSpec.ofChange optionRunesSpec)

/-- ITS FALSE NEIGHBOUR: 'it returns false'. Refute it at one input. -/
def optionRunesWrong : ChangeSpec := { name := "optionRunes", fn := fun _ => fun
  | [d1, d2] => { results := [.lit (.bool false)], args := [d1, d2] }
  | _ => none }
def OptionRunesWrongFalsely : Prop := optionRunesRow.holds Try.pinned (OpenSpec.ofChange optionRunesWrong)

/- THE SECOND FORM. 'bulk': how many values and letters a reading holds, each counted each time it is reached (what is shared counts as often as it is met; a slice's spare places count too). A statement '..UptoSaid' is the law's where the arguments, and the package variables that the reading takes, are together of bulk at most 1048576: NARROWER than '..Said'. Prove '..Said' where nothing that the law and all that it calls make is longer than what came in: it says more and counts as full. Else prove '..UptoSaid'. A law counts once. -/
mutual
def uptoBulk {H : Type} : DataW H → Nat
  | .lit (.string bytes) => bytes.length + 1
  | .lit _ => 1
  | .nil => 1
  | .ptr d => uptoBulk d + 1
  | .slice elems spare => uptoBulkAll elems + uptoBulkAll spare + 1
  | .agg parts => uptoBulkAll parts + 1
  | .iface _ d => uptoBulk d + 1
  | .map entries => uptoBulkEntries entries + 1
  | .held _ => 1
def uptoBulkAll {H : Type} : List (DataW H) → Nat
  | [] => 0
  | d :: r => uptoBulk d + uptoBulkAll r
def uptoBulkEntries {H : Type} : List (Lit × DataW H) → Nat
  | [] => 0
  | x :: r => uptoBulkEntry x + uptoBulkEntries r
def uptoBulkEntry {H : Type} : Lit × DataW H → Nat
  | (.string bytes, d) => bytes.length + uptoBulk d + 1
  | (_, d) => uptoBulk d + 1
 end
def uptoSmall : (H : Type) → List (DataW H) → Bool := fun _ ds => decide (uptoBulkAll ds ≤ 1048576)
def OpenSpec.upto (s : _root_.Go.ChangeSpec) : _root_.Go.OpenSpec := { _root_.Go.OpenSpec.ofChange s with cond := some uptoSmall }

/-- 'bordereaulaw4.OptionNumbers', WHERE WHAT IT READS IS OF BULK AT MOST 1048576: true; the input reads as it did. -/
def optionNumbersUptoRow : OpenClaim := { program := "ytfjolephpghafaa", sum := "32f26e13a8d711758880d3d0598dbd5d4b45263f6148d0598243ec58d2c38bd0", func := "bordereau/bordereaulaw4.OptionNumbers", spec := "optionNumbers", apart := false, narrowed := true }
def OptionNumbersUptoSaid : Prop := optionNumbersUptoRow.holds Try.pinned (OpenSpec.upto optionNumbersSpec)

/-- 'bordereaulaw4.OptionTells', WHERE WHAT IT READS IS OF BULK AT MOST 1048576: true; the input reads as it did. -/
def optionTellsUptoRow : OpenClaim := { program := "ytfjolephpghafaa", sum := "32f26e13a8d711758880d3d0598dbd5d4b45263f6148d0598243ec58d2c38bd0", func := "bordereau/bordereaulaw4.OptionTells", spec := "optionTells", apart := false, narrowed := true }
def OptionTellsUptoSaid : Prop := optionTellsUptoRow.holds Try.pinned (OpenSpec.upto optionTellsSpec)

/-- 'bordereaulaw4.OptionOrder', WHERE WHAT IT READS IS OF BULK AT MOST 1048576: true; the input reads as it did. -/
def optionOrderUptoRow : OpenClaim := { program := "ytfjolephpghafaa", sum := "32f26e13a8d711758880d3d0598dbd5d4b45263f6148d0598243ec58d2c38bd0", func := "bordereau/bordereaulaw4.OptionOrder", spec := "optionOrder", apart := false, narrowed := true }
def OptionOrderUptoSaid : Prop := optionOrderUptoRow.holds Try.pinned (OpenSpec.upto optionOrderSpec)

/-- 'bordereaulaw4.OptionRunes', WHERE WHAT IT READS IS OF BULK AT MOST 1048576: true; the input reads as it did. -/
def optionRunesUptoRow : OpenClaim := { program := "ytfjolephpghafaa", sum := "32f26e13a8d711758880d3d0598dbd5d4b45263f6148d0598243ec58d2c38bd0", func := "bordereau/bordereaulaw4.OptionRunes", spec := "optionRunes", apart := false, narrowed := true }
def OptionRunesUptoSaid : Prop := optionRunesUptoRow.holds Try.pinned (OpenSpec.upto optionRunesSpec)

end Rows
end Go.Proofs.Ytfjolephpghafaa
