/-
  No cell of these rows narrows 'for every input' (looked for: loops, veiled, ifaces, maps, wideKeys, modest, calm, conditions, laid).
  DERIVED. THE GIVEN ROWS OF THIS SEAT. 7 by the template 'for every input the law returns true; each argument reads behind the call as it read before'; 0 by the template 'total and deterministic' (their statements: YtneheklmkbhieaaTotals.lean).
  GIVEN WITH THE SEED: the statements are not yours to turn. If you find one false, say at which input.
  Laid BY PROGRAM, IN A SANDBOX (cutbox-rows.mjs): the forced cells as the released guide's own fill.sh prints them over the translation c9300fd57c773d7c… (all of the seat's roots in one cut). By AI agents, Wed Nov 11 2026. No macro, syntax, notation, axiom, sorry.
-/
import Derived.Test.YtneheklmkbhieaaChecked
import GoSem.Claim
import GoSem.ClaimJoined
import GoSem.ClaimMapViews
import Derived.JoinedTies
import Derived.KernelRfl
namespace Go.Proofs.Ytneheklmkbhieaa
/- THE CELL 'sum', in the pinned program and in every row, IS THE sha256 OF THE DUMP (.gsa) THAT YtneheklmkbhieaaProg.lean LOADS. Nothing in Lean hashes anything: it is a label: what it is worth is what the hold of that sum in a sandbox is worth. -/
noncomputable def Try.pinned : Pinned := { name := "ytneheklmkbhieaa", sum := "c9300fd57c773d7c78433181ea0aa55c2836e7e69886101ddeca365aff608767", checked := Try.checked }
namespace Rows
def none {H : Type} : Left H := { results := [], args := [] }

/-- 'bordereaulaw7.FilesKeep': WHATEVER THE INPUT: true; the input reads as it did. -/
def filesKeepSpec : ChangeSpec := { name := "filesKeep", fn := fun _ => fun
  | [d1, d2, d3, d4] => { results := [.lit (.bool true)], args := [d1, d2, d3, d4] }
  | _ => none }
def filesKeepRow : OpenClaim := { program := "ytneheklmkbhieaa", sum := "c9300fd57c773d7c78433181ea0aa55c2836e7e69886101ddeca365aff608767", func := "bordereau/bordereaulaw7.FilesKeep", spec := "filesKeep", unfollowed := true, recurses := true, apart := false }
def FilesKeepSaid : Prop := filesKeepRow.holds Try.pinned (OpenSpec.ofChange filesKeepSpec)

/-- ITS FALSE NEIGHBOUR: 'it returns false'. Refute it at one input. -/
def filesKeepWrong : ChangeSpec := { name := "filesKeep", fn := fun _ => fun
  | [d1, d2, d3, d4] => { results := [.lit (.bool false)], args := [d1, d2, d3, d4] }
  | _ => none }
def FilesKeepWrongFalsely : Prop := filesKeepRow.holds Try.pinned (OpenSpec.ofChange filesKeepWrong)

/-- 'bordereaulaw7.FilesRename': WHATEVER THE INPUT: true; the input reads as it did. -/
def filesRenameSpec : ChangeSpec := { name := "filesRename", fn := fun _ => fun
  | [d1, d2, d3, d4] => { results := [.lit (.bool true)], args := [d1, d2, d3, d4] }
  | _ => none }
def filesRenameRow : OpenClaim := { program := "ytneheklmkbhieaa", sum := "c9300fd57c773d7c78433181ea0aa55c2836e7e69886101ddeca365aff608767", func := "bordereau/bordereaulaw7.FilesRename", spec := "filesRename", unfollowed := true, recurses := true, apart := false }
def FilesRenameSaid : Prop := filesRenameRow.holds Try.pinned (OpenSpec.ofChange filesRenameSpec)

/-- ITS FALSE NEIGHBOUR: 'it returns false'. Refute it at one input. -/
def filesRenameWrong : ChangeSpec := { name := "filesRename", fn := fun _ => fun
  | [d1, d2, d3, d4] => { results := [.lit (.bool false)], args := [d1, d2, d3, d4] }
  | _ => none }
def FilesRenameWrongFalsely : Prop := filesRenameRow.holds Try.pinned (OpenSpec.ofChange filesRenameWrong)

/-- 'bordereaulaw7.FilesStop': WHATEVER THE INPUT: true; the input reads as it did. -/
def filesStopSpec : ChangeSpec := { name := "filesStop", fn := fun _ => fun
  | [d1, d2] => { results := [.lit (.bool true)], args := [d1, d2] }
  | _ => none }
def filesStopRow : OpenClaim := { program := "ytneheklmkbhieaa", sum := "c9300fd57c773d7c78433181ea0aa55c2836e7e69886101ddeca365aff608767", func := "bordereau/bordereaulaw7.FilesStop", spec := "filesStop", unfollowed := true, recurses := true, apart := false }
def FilesStopSaid : Prop := filesStopRow.holds Try.pinned (OpenSpec.ofChange filesStopSpec)

/-- ITS FALSE NEIGHBOUR: 'it returns false'. Refute it at one input. -/
def filesStopWrong : ChangeSpec := { name := "filesStop", fn := fun _ => fun
  | [d1, d2] => { results := [.lit (.bool false)], args := [d1, d2] }
  | _ => none }
def FilesStopWrongFalsely : Prop := filesStopRow.holds Try.pinned (OpenSpec.ofChange filesStopWrong)

/-- 'bordereaulaw7.FilesApart': WHATEVER THE INPUT: true; the input reads as it did. -/
def filesApartSpec : ChangeSpec := { name := "filesApart", fn := fun _ => fun
  | [d1, d2, d3] => { results := [.lit (.bool true)], args := [d1, d2, d3] }
  | _ => none }
def filesApartRow : OpenClaim := { program := "ytneheklmkbhieaa", sum := "c9300fd57c773d7c78433181ea0aa55c2836e7e69886101ddeca365aff608767", func := "bordereau/bordereaulaw7.FilesApart", spec := "filesApart", unfollowed := true, recurses := true, apart := false }
def FilesApartSaid : Prop := filesApartRow.holds Try.pinned (OpenSpec.ofChange filesApartSpec)

/-- ITS FALSE NEIGHBOUR: 'it returns false'. Refute it at one input. -/
def filesApartWrong : ChangeSpec := { name := "filesApart", fn := fun _ => fun
  | [d1, d2, d3] => { results := [.lit (.bool false)], args := [d1, d2, d3] }
  | _ => none }
def FilesApartWrongFalsely : Prop := filesApartRow.holds Try.pinned (OpenSpec.ofChange filesApartWrong)

/-- 'bordereaulaw7.FilesNumbers': WHATEVER THE INPUT: true; the input reads as it did. -/
def filesNumbersSpec : ChangeSpec := { name := "filesNumbers", fn := fun _ => fun
  | [] => { results := [.lit (.bool true)], args := [] }
  | _ => none }
def filesNumbersRow : OpenClaim := { program := "ytneheklmkbhieaa", sum := "c9300fd57c773d7c78433181ea0aa55c2836e7e69886101ddeca365aff608767", func := "bordereau/bordereaulaw7.FilesNumbers", spec := "filesNumbers", unfollowed := true, recurses := true, apart := false }
def FilesNumbersSaid : Prop := filesNumbersRow.holds Try.pinned (OpenSpec.ofChange filesNumbersSpec)

/-- ITS FALSE NEIGHBOUR: 'it returns false'. Refute it at one input. -/
def filesNumbersWrong : ChangeSpec := { name := "filesNumbers", fn := fun _ => fun
  | [] => { results := [.lit (.bool false)], args := [] }
  | _ => none }
def FilesNumbersWrongFalsely : Prop := filesNumbersRow.holds Try.pinned (OpenSpec.ofChange filesNumbersWrong)

/-- 'bordereaulaw7.FilesPlays': WHATEVER THE INPUT: true; the input reads as it did. -/
def filesPlaysSpec : ChangeSpec := { name := "filesPlays", fn := fun _ => fun
  | [d] => { results := [.lit (.bool true)], args := [d] }
  | _ => none }
def filesPlaysRow : OpenClaim := { program := "ytneheklmkbhieaa", sum := "c9300fd57c773d7c78433181ea0aa55c2836e7e69886101ddeca365aff608767", func := "bordereau/bordereaulaw7.FilesPlays", spec := "filesPlays", unfollowed := true, recurses := true, apart := false }
def FilesPlaysSaid : Prop := filesPlaysRow.holds Try.pinned (OpenSpec.ofChange filesPlaysSpec)

/-- ITS FALSE NEIGHBOUR: 'it returns false'. Refute it at one input. -/
def filesPlaysWrong : ChangeSpec := { name := "filesPlays", fn := fun _ => fun
  | [d] => { results := [.lit (.bool false)], args := [d] }
  | _ => none }
def FilesPlaysWrongFalsely : Prop := filesPlaysRow.holds Try.pinned (OpenSpec.ofChange filesPlaysWrong)

/-- 'bordereaulaw11.TableOpens': WHATEVER THE INPUT: true; the input reads as it did. -/
def tableOpensSpec : ChangeSpec := { name := "tableOpens", fn := fun _ => fun
  | [d] => { results := [.lit (.bool true)], args := [d] }
  | _ => none }
def tableOpensRow : OpenClaim := { program := "ytneheklmkbhieaa", sum := "c9300fd57c773d7c78433181ea0aa55c2836e7e69886101ddeca365aff608767", func := "bordereau/bordereaulaw11.TableOpens", spec := "tableOpens", unfollowed := true, recurses := true, apart := false }
def TableOpensSaid : Prop := tableOpensRow.holds Try.pinned (OpenSpec.ofChange tableOpensSpec)

/-- ITS FALSE NEIGHBOUR: 'it returns false'. Refute it at one input. -/
def tableOpensWrong : ChangeSpec := { name := "tableOpens", fn := fun _ => fun
  | [d] => { results := [.lit (.bool false)], args := [d] }
  | _ => none }
def TableOpensWrongFalsely : Prop := tableOpensRow.holds Try.pinned (OpenSpec.ofChange tableOpensWrong)

/- THE SECOND FORM. 'bulk': how many values and letters a reading holds, each counted each time it is reached (what is shared counts as often as it is met; a slice's spare places count too). A statement '..UptoSaid' is the law's where the arguments, and the package variables that the reading takes, are together of bulk at most 1048576: NARROWER than '..Said'. Prove '..Said' where nothing that the law and all that it calls make is longer than what came in: it says more and counts as full. Else prove '..UptoSaid'. A law counts once. -/
mutual
def uptoBulk {H : Type} : DataW H → Nat
  | .lit (.string bytes) => bytes.length + 1
  | .lit _ => 1
  | .nil => 1
  | .ptr d => uptoBulk d + 1
  | .slice elems spare => uptoBulkAll elems + uptoBulkAll spare + 1
  | .agg parts => uptoBulkAll parts + 1
  | .iface _ d => uptoBulk d + 1
  | .map entries => uptoBulkEntries entries + 1
  | .held _ => 1
def uptoBulkAll {H : Type} : List (DataW H) → Nat
  | [] => 0
  | d :: r => uptoBulk d + uptoBulkAll r
def uptoBulkEntries {H : Type} : List (Lit × DataW H) → Nat
  | [] => 0
  | x :: r => uptoBulkEntry x + uptoBulkEntries r
def uptoBulkEntry {H : Type} : Lit × DataW H → Nat
  | (.string bytes, d) => bytes.length + uptoBulk d + 1
  | (_, d) => uptoBulk d + 1
 end
def uptoSmall : (H : Type) → List (DataW H) → Bool := fun _ ds => decide (uptoBulkAll ds ≤ 1048576)
def OpenSpec.upto (s : _root_.Go.ChangeSpec) : _root_.Go.OpenSpec := { _root_.Go.OpenSpec.ofChange s with cond := some uptoSmall }

/-- 'bordereaulaw7.FilesKeep', WHERE WHAT IT READS IS OF BULK AT MOST 1048576: true; the input reads as it did. -/
def filesKeepUptoRow : OpenClaim := { program := "ytneheklmkbhieaa", sum := "c9300fd57c773d7c78433181ea0aa55c2836e7e69886101ddeca365aff608767", func := "bordereau/bordereaulaw7.FilesKeep", spec := "filesKeep", unfollowed := true, recurses := true, apart := false, narrowed := true }
def FilesKeepUptoSaid : Prop := filesKeepUptoRow.holds Try.pinned (OpenSpec.upto filesKeepSpec)

/-- 'bordereaulaw7.FilesRename', WHERE WHAT IT READS IS OF BULK AT MOST 1048576: true; the input reads as it did. -/
def filesRenameUptoRow : OpenClaim := { program := "ytneheklmkbhieaa", sum := "c9300fd57c773d7c78433181ea0aa55c2836e7e69886101ddeca365aff608767", func := "bordereau/bordereaulaw7.FilesRename", spec := "filesRename", unfollowed := true, recurses := true, apart := false, narrowed := true }
def FilesRenameUptoSaid : Prop := filesRenameUptoRow.holds Try.pinned (OpenSpec.upto filesRenameSpec)

/-- 'bordereaulaw7.FilesStop', WHERE WHAT IT READS IS OF BULK AT MOST 1048576: true; the input reads as it did. -/
def filesStopUptoRow : OpenClaim := { program := "ytneheklmkbhieaa", sum := "c9300fd57c773d7c78433181ea0aa55c2836e7e69886101ddeca365aff608767", func := "bordereau/bordereaulaw7.FilesStop", spec := "filesStop", unfollowed := true, recurses := true, apart := false, narrowed := true }
def FilesStopUptoSaid : Prop := filesStopUptoRow.holds Try.pinned (OpenSpec.upto filesStopSpec)

/-- 'bordereaulaw7.FilesApart', WHERE WHAT IT READS IS OF BULK AT MOST 1048576: true; the input reads as it did. -/
def filesApartUptoRow : OpenClaim := { program := "ytneheklmkbhieaa", sum := "c9300fd57c773d7c78433181ea0aa55c2836e7e69886101ddeca365aff608767", func := "bordereau/bordereaulaw7.FilesApart", spec := "filesApart", unfollowed := true, recurses := true, apart := false, narrowed := true }
def FilesApartUptoSaid : Prop := filesApartUptoRow.holds Try.pinned (OpenSpec.upto filesApartSpec)

/-- 'bordereaulaw7.FilesNumbers', WHERE WHAT IT READS IS OF BULK AT MOST 1048576: true; the input reads as it did. -/
def filesNumbersUptoRow : OpenClaim := { program := "ytneheklmkbhieaa", sum := "c9300fd57c773d7c78433181ea0aa55c2836e7e69886101ddeca365aff608767", func := "bordereau/bordereaulaw7.FilesNumbers", spec := "filesNumbers", unfollowed := true, recurses := true, apart := false, narrowed := true }
def FilesNumbersUptoSaid : Prop := filesNumbersUptoRow.holds Try.pinned (OpenSpec.upto filesNumbersSpec)

/-- 'bordereaulaw7.FilesPlays', WHERE WHAT IT READS IS OF BULK AT MOST 1048576: true; the input reads as it did. -/
def filesPlaysUptoRow : OpenClaim := { program := "ytneheklmkbhieaa", sum := "c9300fd57c773d7c78433181ea0aa55c2836e7e69886101ddeca365aff608767", func := "bordereau/bordereaulaw7.FilesPlays", spec := "filesPlays", unfollowed := true, recurses := true, apart := false, narrowed := true }
def FilesPlaysUptoSaid : Prop := filesPlaysUptoRow.holds Try.pinned (OpenSpec.upto filesPlaysSpec)

/-- 'bordereaulaw11.TableOpens', WHERE WHAT IT READS IS OF BULK AT MOST 1048576: true; the input reads as it did. -/
def tableOpensUptoRow : OpenClaim := { program := "ytneheklmkbhieaa", sum := "c9300fd57c773d7c78433181ea0aa55c2836e7e69886101ddeca365aff608767", func := "bordereau/bordereaulaw11.TableOpens", spec := "tableOpens", unfollowed := true, recurses := true, apart := false, narrowed := true }
def TableOpensUptoSaid : Prop := tableOpensUptoRow.holds Try.pinned (OpenSpec.upto tableOpensSpec)

end Rows
end Go.Proofs.Ytneheklmkbhieaa
