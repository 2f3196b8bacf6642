/-
  No cell of these rows narrows 'for every input' (looked for: loops, veiled, ifaces, maps, wideKeys, modest, calm, conditions, laid).
  DERIVED. THE GIVEN ROWS OF THIS SEAT. 5 by the template 'for every input the law returns true; each argument reads behind the call as it read before'; 0 by the template 'total and deterministic' (their statements: YtjhgmaephpadpaaGreatTotals.lean).
  GIVEN WITH THE SEED: the statements are not yours to turn. If you find one false, say at which input.
  Laid BY PROGRAM, IN A SANDBOX (cutbox-rows.mjs): the forced cells as the released guide's own fill.sh prints them over the translation 988fb15935566f5b… (all of the seat's roots in one cut). By AI agents, Wed Nov 11 2026. No macro, syntax, notation, axiom, sorry.
-/
import Derived.Test.YtjhgmaephpadpaaGreatChecked
import GoSem.Claim
import GoSem.ClaimJoined
import GoSem.ClaimMapViews
import Derived.JoinedTies
import Derived.KernelRfl
namespace Go.Proofs.YtjhgmaephpadpaaGreat
/- THE CELL 'sum', in the pinned program and in every row, IS THE sha256 OF THE DUMP (.gsa) THAT YtjhgmaephpadpaaGreatProg.lean LOADS. Nothing in Lean hashes anything: it is a label: what it is worth is what the hold of that sum in a sandbox is worth. -/
noncomputable def Tryz.pinned : Pinned := { name := "ytjhgmaephpadpaagreat", sum := "988fb15935566f5bb91cb5714c63f03161c4fb812626b317b9e1ab0b1f4a61fc", checked := Tryz.checked }
namespace Rows
def none {H : Type} : Left H := { results := [], args := [] }

/-- 'bordereaulaw15.ModelOnce': WHATEVER THE INPUT: true; the input reads as it did. -/
def modelOnceSpec : ChangeSpec := { name := "modelOnce", fn := fun _ => fun
  | [d] => { results := [.lit (.bool true)], args := [d] }
  | _ => none }
def modelOnceRow : OpenClaim := { program := "ytjhgmaephpadpaagreat", sum := "988fb15935566f5bb91cb5714c63f03161c4fb812626b317b9e1ab0b1f4a61fc", func := "bordereau/bordereaulaw15.ModelOnce", spec := "modelOnce", unfollowed := true, recurses := true, apart := false }
def ModelOnceSaid : Prop := modelOnceRow.holds Tryz.pinned (OpenSpec.ofChange modelOnceSpec)

/-- ITS FALSE NEIGHBOUR: 'it returns false'. Refute it at one input. -/
def modelOnceWrong : ChangeSpec := { name := "modelOnce", fn := fun _ => fun
  | [d] => { results := [.lit (.bool false)], args := [d] }
  | _ => none }
def ModelOnceWrongFalsely : Prop := modelOnceRow.holds Tryz.pinned (OpenSpec.ofChange modelOnceWrong)

/-- 'bordereaulaw15.ModelRefuses': WHATEVER THE INPUT: true; the input reads as it did. -/
def modelRefusesSpec : ChangeSpec := { name := "modelRefuses", fn := fun _ => fun
  | [d1, d2, d3] => { results := [.lit (.bool true)], args := [d1, d2, d3] }
  | _ => none }
def modelRefusesRow : OpenClaim := { program := "ytjhgmaephpadpaagreat", sum := "988fb15935566f5bb91cb5714c63f03161c4fb812626b317b9e1ab0b1f4a61fc", func := "bordereau/bordereaulaw15.ModelRefuses", spec := "modelRefuses", unfollowed := true, recurses := true, apart := false }
def ModelRefusesSaid : Prop := modelRefusesRow.holds Tryz.pinned (OpenSpec.ofChange modelRefusesSpec)

/-- ITS FALSE NEIGHBOUR: 'it returns false'. Refute it at one input. -/
def modelRefusesWrong : ChangeSpec := { name := "modelRefuses", fn := fun _ => fun
  | [d1, d2, d3] => { results := [.lit (.bool false)], args := [d1, d2, d3] }
  | _ => none }
def ModelRefusesWrongFalsely : Prop := modelRefusesRow.holds Tryz.pinned (OpenSpec.ofChange modelRefusesWrong)

/-- 'bordereaulaw15.ModelKeeps': WHATEVER THE INPUT: true; the input reads as it did. -/
def modelKeepsSpec : ChangeSpec := { name := "modelKeeps", fn := fun _ => fun
  | [d1, d2] => { results := [.lit (.bool true)], args := [d1, d2] }
  | _ => none }
def modelKeepsRow : OpenClaim := { program := "ytjhgmaephpadpaagreat", sum := "988fb15935566f5bb91cb5714c63f03161c4fb812626b317b9e1ab0b1f4a61fc", func := "bordereau/bordereaulaw15.ModelKeeps", spec := "modelKeeps", unfollowed := true, recurses := true, apart := false }
def ModelKeepsSaid : Prop := modelKeepsRow.holds Tryz.pinned (OpenSpec.ofChange modelKeepsSpec)

/-- ITS FALSE NEIGHBOUR: 'it returns false'. Refute it at one input. -/
def modelKeepsWrong : ChangeSpec := { name := "modelKeeps", fn := fun _ => fun
  | [d1, d2] => { results := [.lit (.bool false)], args := [d1, d2] }
  | _ => none }
def ModelKeepsWrongFalsely : Prop := modelKeepsRow.holds Tryz.pinned (OpenSpec.ofChange modelKeepsWrong)

/-- 'bordereaulaw15.ModelNumbers': WHATEVER THE INPUT: true; the input reads as it did. -/
def modelNumbersSpec : ChangeSpec := { name := "modelNumbers", fn := fun _ => fun
  | [] => { results := [.lit (.bool true)], args := [] }
  | _ => none }
def modelNumbersRow : OpenClaim := { program := "ytjhgmaephpadpaagreat", sum := "988fb15935566f5bb91cb5714c63f03161c4fb812626b317b9e1ab0b1f4a61fc", func := "bordereau/bordereaulaw15.ModelNumbers", spec := "modelNumbers", unfollowed := true, recurses := true, apart := false }
def ModelNumbersSaid : Prop := modelNumbersRow.holds Tryz.pinned (OpenSpec.ofChange modelNumbersSpec)

/-- ITS FALSE NEIGHBOUR: 'it returns false'. Refute it at one input. -/
def modelNumbersWrong : ChangeSpec := { name := "modelNumbers", fn := fun _ => fun
  | [] => { results := [.lit (.bool false)], args := [] }
  | _ => none }
def ModelNumbersWrongFalsely : Prop := modelNumbersRow.holds Tryz.pinned (OpenSpec.ofChange modelNumbersWrong)

/-- 'bordereaulaw15.ModelPlays': WHATEVER THE INPUT: true; the input reads as it did. -/
def modelPlaysSpec : ChangeSpec := { name := "modelPlays", fn := fun _ => fun
  | [d1, d2, d3] => { results := [.lit (.bool true)], args := [d1, d2, d3] }
  | _ => none }
def modelPlaysRow : OpenClaim := { program := "ytjhgmaephpadpaagreat", sum := "988fb15935566f5bb91cb5714c63f03161c4fb812626b317b9e1ab0b1f4a61fc", func := "bordereau/bordereaulaw15.ModelPlays", spec := "modelPlays", unfollowed := true, recurses := true, apart := false }
def ModelPlaysSaid : Prop := modelPlaysRow.holds Tryz.pinned (OpenSpec.ofChange modelPlaysSpec)

/-- ITS FALSE NEIGHBOUR: 'it returns false'. Refute it at one input. -/
def modelPlaysWrong : ChangeSpec := { name := "modelPlays", fn := fun _ => fun
  | [d1, d2, d3] => { results := [.lit (.bool false)], args := [d1, d2, d3] }
  | _ => none }
def ModelPlaysWrongFalsely : Prop := modelPlaysRow.holds Tryz.pinned (OpenSpec.ofChange modelPlaysWrong)

/- THE SECOND FORM. 'bulk': how many values and letters a reading holds, each counted each time it is reached (what is shared counts as often as it is met; a slice's spare places count too). A statement '..UptoSaid' is the law's where the arguments, and the package variables that the reading takes, are together of bulk at most 1048576: NARROWER than '..Said'. Prove '..Said' where nothing that the law and all that it calls make is longer than what came in: it says more and counts as full. Else prove '..UptoSaid'. A law counts once. -/
mutual
def uptoBulk {H : Type} : DataW H → Nat
  | .lit (.string bytes) => bytes.length + 1
  | .lit _ => 1
  | .nil => 1
  | .ptr d => uptoBulk d + 1
  | .slice elems spare => uptoBulkAll elems + uptoBulkAll spare + 1
  | .agg parts => uptoBulkAll parts + 1
  | .iface _ d => uptoBulk d + 1
  | .map entries => uptoBulkEntries entries + 1
  | .held _ => 1
def uptoBulkAll {H : Type} : List (DataW H) → Nat
  | [] => 0
  | d :: r => uptoBulk d + uptoBulkAll r
def uptoBulkEntries {H : Type} : List (Lit × DataW H) → Nat
  | [] => 0
  | x :: r => uptoBulkEntry x + uptoBulkEntries r
def uptoBulkEntry {H : Type} : Lit × DataW H → Nat
  | (.string bytes, d) => bytes.length + uptoBulk d + 1
  | (_, d) => uptoBulk d + 1
 end
def uptoSmall : (H : Type) → List (DataW H) → Bool := fun _ ds => decide (uptoBulkAll ds ≤ 1048576)
def OpenSpec.upto (s : _root_.Go.ChangeSpec) : _root_.Go.OpenSpec := { _root_.Go.OpenSpec.ofChange s with cond := some uptoSmall }

/-- 'bordereaulaw15.ModelOnce', WHERE WHAT IT READS IS OF BULK AT MOST 1048576: true; the input reads as it did. -/
def modelOnceUptoRow : OpenClaim := { program := "ytjhgmaephpadpaagreat", sum := "988fb15935566f5bb91cb5714c63f03161c4fb812626b317b9e1ab0b1f4a61fc", func := "bordereau/bordereaulaw15.ModelOnce", spec := "modelOnce", unfollowed := true, recurses := true, apart := false, narrowed := true }
def ModelOnceUptoSaid : Prop := modelOnceUptoRow.holds Tryz.pinned (OpenSpec.upto modelOnceSpec)

/-- 'bordereaulaw15.ModelRefuses', WHERE WHAT IT READS IS OF BULK AT MOST 1048576: true; the input reads as it did. -/
def modelRefusesUptoRow : OpenClaim := { program := "ytjhgmaephpadpaagreat", sum := "988fb15935566f5bb91cb5714c63f03161c4fb812626b317b9e1ab0b1f4a61fc", func := "bordereau/bordereaulaw15.ModelRefuses", spec := "modelRefuses", unfollowed := true, recurses := true, apart := false, narrowed := true }
def ModelRefusesUptoSaid : Prop := modelRefusesUptoRow.holds Tryz.pinned (OpenSpec.upto modelRefusesSpec)

/-- 'bordereaulaw15.ModelKeeps', WHERE WHAT IT READS IS OF BULK AT MOST 1048576: true; the input reads as it did. -/
def modelKeepsUptoRow : OpenClaim := { program := "ytjhgmaephpadpaagreat", sum := "988fb15935566f5bb91cb5714c63f03161c4fb812626b317b9e1ab0b1f4a61fc", func := "bordereau/bordereaulaw15.ModelKeeps", spec := "modelKeeps", unfollowed := true, recurses := true, apart := false, narrowed := true }
def ModelKeepsUptoSaid : Prop := modelKeepsUptoRow.holds Tryz.pinned (OpenSpec.upto modelKeepsSpec)

/-- 'bordereaulaw15.ModelNumbers', WHERE WHAT IT READS IS OF BULK AT MOST 1048576: true; the input reads as it did. -/
def modelNumbersUptoRow : OpenClaim := { program := "ytjhgmaephpadpaagreat", sum := "988fb15935566f5bb91cb5714c63f03161c4fb812626b317b9e1ab0b1f4a61fc", func := "bordereau/bordereaulaw15.ModelNumbers", spec := "modelNumbers", unfollowed := true, recurses := true, apart := false, narrowed := true }
def ModelNumbersUptoSaid : Prop := modelNumbersUptoRow.holds Tryz.pinned (OpenSpec.upto modelNumbersSpec)

/-- 'bordereaulaw15.ModelPlays', WHERE WHAT IT READS IS OF BULK AT MOST 1048576: true; the input reads as it did. -/
def modelPlaysUptoRow : OpenClaim := { program := "ytjhgmaephpadpaagreat", sum := "988fb15935566f5bb91cb5714c63f03161c4fb812626b317b9e1ab0b1f4a61fc", func := "bordereau/bordereaulaw15.ModelPlays", spec := "modelPlays", unfollowed := true, recurses := true, apart := false, narrowed := true }
def ModelPlaysUptoSaid : Prop := modelPlaysUptoRow.holds Tryz.pinned (OpenSpec.upto modelPlaysSpec)

end Rows
end Go.Proofs.YtjhgmaephpadpaaGreat
