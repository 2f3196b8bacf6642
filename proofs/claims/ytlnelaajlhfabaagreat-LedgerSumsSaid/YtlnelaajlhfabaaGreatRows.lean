/-
  No cell of these rows narrows 'for every input' (looked for: loops, veiled, ifaces, maps, wideKeys, modest, calm, conditions, laid).
  DERIVED. THE GIVEN ROWS OF THIS SEAT. 11 by the template 'for every input the law returns true; each argument reads behind the call as it read before'; 0 by the template 'total and deterministic' (their statements: YtlnelaajlhfabaaGreatTotals.lean).
  GIVEN WITH THE SEED: the statements are not yours to turn. If you find one false, say at which input.
  Laid BY PROGRAM, IN A SANDBOX (cutbox-rows.mjs): the forced cells as the released guide's own fill.sh prints them over the translation 76e3f7ae5435a971… (all of the seat's roots in one cut). By AI agents, Wed Nov 11 2026. No macro, syntax, notation, axiom, sorry.
-/
import Derived.Test.YtlnelaajlhfabaaGreatChecked
import GoSem.Claim
import GoSem.ClaimJoined
import GoSem.ClaimMapViews
import Derived.JoinedTies
import Derived.KernelRfl
namespace Go.Proofs.YtlnelaajlhfabaaGreat
/- THE CELL 'sum', in the pinned program and in every row, IS THE sha256 OF THE DUMP (.gsa) THAT YtlnelaajlhfabaaGreatProg.lean LOADS. Nothing in Lean hashes anything: it is a label: what it is worth is what the hold of that sum in a sandbox is worth. -/
noncomputable def Tryz.pinned : Pinned := { name := "ytlnelaajlhfabaagreat", sum := "76e3f7ae5435a97111af391c5d9ee2cb4b9f2e80be8578400728cc42bf92ef00", checked := Tryz.checked }
namespace Rows
def none {H : Type} : Left H := { results := [], args := [] }

/-- 'bordereaulaw11.TableApart': WHATEVER THE INPUT: true; the input reads as it did. -/
def tableApartSpec : ChangeSpec := { name := "tableApart", fn := fun _ => fun
  | [d1, d2] => { results := [.lit (.bool true)], args := [d1, d2] }
  | _ => none }
def tableApartRow : OpenClaim := { program := "ytlnelaajlhfabaagreat", sum := "76e3f7ae5435a97111af391c5d9ee2cb4b9f2e80be8578400728cc42bf92ef00", func := "bordereau/bordereaulaw11.TableApart", spec := "tableApart", unfollowed := true, recurses := true, apart := false }
def TableApartSaid : Prop := tableApartRow.holds Tryz.pinned (OpenSpec.ofChange tableApartSpec)

/-- ITS FALSE NEIGHBOUR: 'it returns false'. Refute it at one input. -/
def tableApartWrong : ChangeSpec := { name := "tableApart", fn := fun _ => fun
  | [d1, d2] => { results := [.lit (.bool false)], args := [d1, d2] }
  | _ => none }
def TableApartWrongFalsely : Prop := tableApartRow.holds Tryz.pinned (OpenSpec.ofChange tableApartWrong)

/-- 'bordereaulaw11.TableNumbers': WHATEVER THE INPUT: true; the input reads as it did. -/
def tableNumbersSpec : ChangeSpec := { name := "tableNumbers", fn := fun _ => fun
  | [] => { results := [.lit (.bool true)], args := [] }
  | _ => none }
def tableNumbersRow : OpenClaim := { program := "ytlnelaajlhfabaagreat", sum := "76e3f7ae5435a97111af391c5d9ee2cb4b9f2e80be8578400728cc42bf92ef00", func := "bordereau/bordereaulaw11.TableNumbers", spec := "tableNumbers", inPlace := ["maps.clone"], unfollowed := true, recurses := true, apart := false }
def TableNumbersSaid : Prop := tableNumbersRow.holds Tryz.pinned (OpenSpec.ofChange tableNumbersSpec)

/-- ITS FALSE NEIGHBOUR: 'it returns false'. Refute it at one input. -/
def tableNumbersWrong : ChangeSpec := { name := "tableNumbers", fn := fun _ => fun
  | [] => { results := [.lit (.bool false)], args := [] }
  | _ => none }
def TableNumbersWrongFalsely : Prop := tableNumbersRow.holds Tryz.pinned (OpenSpec.ofChange tableNumbersWrong)

/-- 'bordereaulaw25.LedgerNumbers': WHATEVER THE INPUT: true; the input reads as it did. -/
def ledgerNumbersSpec : ChangeSpec := { name := "ledgerNumbers", fn := fun _ => fun
  | [] => { results := [.lit (.bool true)], args := [] }
  | _ => none }
def ledgerNumbersRow : OpenClaim := { program := "ytlnelaajlhfabaagreat", sum := "76e3f7ae5435a97111af391c5d9ee2cb4b9f2e80be8578400728cc42bf92ef00", func := "bordereau/bordereaulaw25.LedgerNumbers", spec := "ledgerNumbers", unfollowed := true, recurses := true, apart := false }
def LedgerNumbersSaid : Prop := ledgerNumbersRow.holds Tryz.pinned (OpenSpec.ofChange ledgerNumbersSpec)

/-- ITS FALSE NEIGHBOUR: 'it returns false'. Refute it at one input. -/
def ledgerNumbersWrong : ChangeSpec := { name := "ledgerNumbers", fn := fun _ => fun
  | [] => { results := [.lit (.bool false)], args := [] }
  | _ => none }
def LedgerNumbersWrongFalsely : Prop := ledgerNumbersRow.holds Tryz.pinned (OpenSpec.ofChange ledgerNumbersWrong)

/-- 'bordereaulaw25.LedgerTells': WHATEVER THE INPUT: true; the input reads as it did. -/
def ledgerTellsSpec : ChangeSpec := { name := "ledgerTells", fn := fun _ => fun
  | [d1, d2, d3] => { results := [.lit (.bool true)], args := [d1, d2, d3] }
  | _ => none }
def ledgerTellsRow : OpenClaim := { program := "ytlnelaajlhfabaagreat", sum := "76e3f7ae5435a97111af391c5d9ee2cb4b9f2e80be8578400728cc42bf92ef00", func := "bordereau/bordereaulaw25.LedgerTells", spec := "ledgerTells", unfollowed := true, recurses := true, apart := false }
def LedgerTellsSaid : Prop := ledgerTellsRow.holds Tryz.pinned (OpenSpec.ofChange ledgerTellsSpec)

/-- ITS FALSE NEIGHBOUR: 'it returns false'. Refute it at one input. -/
def ledgerTellsWrong : ChangeSpec := { name := "ledgerTells", fn := fun _ => fun
  | [d1, d2, d3] => { results := [.lit (.bool false)], args := [d1, d2, d3] }
  | _ => none }
def LedgerTellsWrongFalsely : Prop := ledgerTellsRow.holds Tryz.pinned (OpenSpec.ofChange ledgerTellsWrong)

/-- 'bordereaulaw25.LedgerSums': WHATEVER THE INPUT: true; the input reads as it did. -/
def ledgerSumsSpec : ChangeSpec := { name := "ledgerSums", fn := fun _ => fun
  | [d] => { results := [.lit (.bool true)], args := [d] }
  | _ => none }
def ledgerSumsRow : OpenClaim := { program := "ytlnelaajlhfabaagreat", sum := "76e3f7ae5435a97111af391c5d9ee2cb4b9f2e80be8578400728cc42bf92ef00", func := "bordereau/bordereaulaw25.LedgerSums", spec := "ledgerSums", unfollowed := true, recurses := true, apart := false }
def LedgerSumsSaid : Prop := ledgerSumsRow.holds Tryz.pinned (OpenSpec.ofChange ledgerSumsSpec)

/-- ITS FALSE NEIGHBOUR: 'it returns false'. Refute it at one input. -/
def ledgerSumsWrong : ChangeSpec := { name := "ledgerSums", fn := fun _ => fun
  | [d] => { results := [.lit (.bool false)], args := [d] }
  | _ => none }
def LedgerSumsWrongFalsely : Prop := ledgerSumsRow.holds Tryz.pinned (OpenSpec.ofChange ledgerSumsWrong)

/-- 'bordereaulaw25.LedgerBegins': WHATEVER THE INPUT: true; the input reads as it did. -/
def ledgerBeginsSpec : ChangeSpec := { name := "ledgerBegins", fn := fun _ => fun
  | [d1, d2] => { results := [.lit (.bool true)], args := [d1, d2] }
  | _ => none }
def ledgerBeginsRow : OpenClaim := { program := "ytlnelaajlhfabaagreat", sum := "76e3f7ae5435a97111af391c5d9ee2cb4b9f2e80be8578400728cc42bf92ef00", func := "bordereau/bordereaulaw25.LedgerBegins", spec := "ledgerBegins", unfollowed := true, recurses := true, apart := false }
def LedgerBeginsSaid : Prop := ledgerBeginsRow.holds Tryz.pinned (OpenSpec.ofChange ledgerBeginsSpec)

/-- ITS FALSE NEIGHBOUR: 'it returns false'. Refute it at one input. -/
def ledgerBeginsWrong : ChangeSpec := { name := "ledgerBegins", fn := fun _ => fun
  | [d1, d2] => { results := [.lit (.bool false)], args := [d1, d2] }
  | _ => none }
def LedgerBeginsWrongFalsely : Prop := ledgerBeginsRow.holds Tryz.pinned (OpenSpec.ofChange ledgerBeginsWrong)

/-- 'bordereaulaw15.ModelOnce': WHATEVER THE INPUT: true; the input reads as it did. -/
def modelOnceSpec : ChangeSpec := { name := "modelOnce", fn := fun _ => fun
  | [d] => { results := [.lit (.bool true)], args := [d] }
  | _ => none }
def modelOnceRow : OpenClaim := { program := "ytlnelaajlhfabaagreat", sum := "76e3f7ae5435a97111af391c5d9ee2cb4b9f2e80be8578400728cc42bf92ef00", func := "bordereau/bordereaulaw15.ModelOnce", spec := "modelOnce", unfollowed := true, recurses := true, apart := false }
def ModelOnceSaid : Prop := modelOnceRow.holds Tryz.pinned (OpenSpec.ofChange modelOnceSpec)

/-- ITS FALSE NEIGHBOUR: 'it returns false'. Refute it at one input. -/
def modelOnceWrong : ChangeSpec := { name := "modelOnce", fn := fun _ => fun
  | [d] => { results := [.lit (.bool false)], args := [d] }
  | _ => none }
def ModelOnceWrongFalsely : Prop := modelOnceRow.holds Tryz.pinned (OpenSpec.ofChange modelOnceWrong)

/-- 'bordereaulaw15.ModelRefuses': WHATEVER THE INPUT: true; the input reads as it did. -/
def modelRefusesSpec : ChangeSpec := { name := "modelRefuses", fn := fun _ => fun
  | [d1, d2, d3] => { results := [.lit (.bool true)], args := [d1, d2, d3] }
  | _ => none }
def modelRefusesRow : OpenClaim := { program := "ytlnelaajlhfabaagreat", sum := "76e3f7ae5435a97111af391c5d9ee2cb4b9f2e80be8578400728cc42bf92ef00", func := "bordereau/bordereaulaw15.ModelRefuses", spec := "modelRefuses", unfollowed := true, recurses := true, apart := false }
def ModelRefusesSaid : Prop := modelRefusesRow.holds Tryz.pinned (OpenSpec.ofChange modelRefusesSpec)

/-- ITS FALSE NEIGHBOUR: 'it returns false'. Refute it at one input. -/
def modelRefusesWrong : ChangeSpec := { name := "modelRefuses", fn := fun _ => fun
  | [d1, d2, d3] => { results := [.lit (.bool false)], args := [d1, d2, d3] }
  | _ => none }
def ModelRefusesWrongFalsely : Prop := modelRefusesRow.holds Tryz.pinned (OpenSpec.ofChange modelRefusesWrong)

/-- 'bordereaulaw15.ModelKeeps': WHATEVER THE INPUT: true; the input reads as it did. -/
def modelKeepsSpec : ChangeSpec := { name := "modelKeeps", fn := fun _ => fun
  | [d1, d2] => { results := [.lit (.bool true)], args := [d1, d2] }
  | _ => none }
def modelKeepsRow : OpenClaim := { program := "ytlnelaajlhfabaagreat", sum := "76e3f7ae5435a97111af391c5d9ee2cb4b9f2e80be8578400728cc42bf92ef00", func := "bordereau/bordereaulaw15.ModelKeeps", spec := "modelKeeps", unfollowed := true, recurses := true, apart := false }
def ModelKeepsSaid : Prop := modelKeepsRow.holds Tryz.pinned (OpenSpec.ofChange modelKeepsSpec)

/-- ITS FALSE NEIGHBOUR: 'it returns false'. Refute it at one input. -/
def modelKeepsWrong : ChangeSpec := { name := "modelKeeps", fn := fun _ => fun
  | [d1, d2] => { results := [.lit (.bool false)], args := [d1, d2] }
  | _ => none }
def ModelKeepsWrongFalsely : Prop := modelKeepsRow.holds Tryz.pinned (OpenSpec.ofChange modelKeepsWrong)

/-- 'bordereaulaw15.ModelNumbers': WHATEVER THE INPUT: true; the input reads as it did. -/
def modelNumbersSpec : ChangeSpec := { name := "modelNumbers", fn := fun _ => fun
  | [] => { results := [.lit (.bool true)], args := [] }
  | _ => none }
def modelNumbersRow : OpenClaim := { program := "ytlnelaajlhfabaagreat", sum := "76e3f7ae5435a97111af391c5d9ee2cb4b9f2e80be8578400728cc42bf92ef00", func := "bordereau/bordereaulaw15.ModelNumbers", spec := "modelNumbers", unfollowed := true, recurses := true, apart := false }
def ModelNumbersSaid : Prop := modelNumbersRow.holds Tryz.pinned (OpenSpec.ofChange modelNumbersSpec)

/-- ITS FALSE NEIGHBOUR: 'it returns false'. Refute it at one input. -/
def modelNumbersWrong : ChangeSpec := { name := "modelNumbers", fn := fun _ => fun
  | [] => { results := [.lit (.bool false)], args := [] }
  | _ => none }
def ModelNumbersWrongFalsely : Prop := modelNumbersRow.holds Tryz.pinned (OpenSpec.ofChange modelNumbersWrong)

/-- 'bordereaulaw15.ModelPlays': WHATEVER THE INPUT: true; the input reads as it did. -/
def modelPlaysSpec : ChangeSpec := { name := "modelPlays", fn := fun _ => fun
  | [d1, d2, d3] => { results := [.lit (.bool true)], args := [d1, d2, d3] }
  | _ => none }
def modelPlaysRow : OpenClaim := { program := "ytlnelaajlhfabaagreat", sum := "76e3f7ae5435a97111af391c5d9ee2cb4b9f2e80be8578400728cc42bf92ef00", func := "bordereau/bordereaulaw15.ModelPlays", spec := "modelPlays", unfollowed := true, recurses := true, apart := false }
def ModelPlaysSaid : Prop := modelPlaysRow.holds Tryz.pinned (OpenSpec.ofChange modelPlaysSpec)

/-- ITS FALSE NEIGHBOUR: 'it returns false'. Refute it at one input. -/
def modelPlaysWrong : ChangeSpec := { name := "modelPlays", fn := fun _ => fun
  | [d1, d2, d3] => { results := [.lit (.bool false)], args := [d1, d2, d3] }
  | _ => none }
def ModelPlaysWrongFalsely : Prop := modelPlaysRow.holds Tryz.pinned (OpenSpec.ofChange modelPlaysWrong)

/- THE SECOND FORM. 'bulk': how many values and letters a reading holds, each counted each time it is reached (what is shared counts as often as it is met; a slice's spare places count too). A statement '..UptoSaid' is the law's where the arguments, and the package variables that the reading takes, are together of bulk at most 1048576: NARROWER than '..Said'. Prove '..Said' where nothing that the law and all that it calls make is longer than what came in: it says more and counts as full. Else prove '..UptoSaid'. A law counts once. -/
mutual
def uptoBulk {H : Type} : DataW H → Nat
  | .lit (.string bytes) => bytes.length + 1
  | .lit _ => 1
  | .nil => 1
  | .ptr d => uptoBulk d + 1
  | .slice elems spare => uptoBulkAll elems + uptoBulkAll spare + 1
  | .agg parts => uptoBulkAll parts + 1
  | .iface _ d => uptoBulk d + 1
  | .map entries => uptoBulkEntries entries + 1
  | .held _ => 1
def uptoBulkAll {H : Type} : List (DataW H) → Nat
  | [] => 0
  | d :: r => uptoBulk d + uptoBulkAll r
def uptoBulkEntries {H : Type} : List (Lit × DataW H) → Nat
  | [] => 0
  | x :: r => uptoBulkEntry x + uptoBulkEntries r
def uptoBulkEntry {H : Type} : Lit × DataW H → Nat
  | (.string bytes, d) => bytes.length + uptoBulk d + 1
  | (_, d) => uptoBulk d + 1
 end
def uptoSmall : (H : Type) → List (DataW H) → Bool := fun _ ds => decide (uptoBulkAll ds ≤ 1048576)
def OpenSpec.upto (s : _root_.Go.ChangeSpec) : _root_.Go.OpenSpec := { _root_.Go.OpenSpec.ofChange s with cond := some uptoSmall }

/-- 'bordereaulaw11.TableApart', WHERE WHAT IT READS IS OF BULK AT MOST 1048576: true; the input reads as it did. -/
def tableApartUptoRow : OpenClaim := { program := "ytlnelaajlhfabaagreat", sum := "76e3f7ae5435a97111af391c5d9ee2cb4b9f2e80be8578400728cc42bf92ef00", func := "bordereau/bordereaulaw11.TableApart", spec := "tableApart", unfollowed := true, recurses := true, apart := false, narrowed := true }
def TableApartUptoSaid : Prop := tableApartUptoRow.holds Tryz.pinned (OpenSpec.upto tableApartSpec)

/-- 'bordereaulaw11.TableNumbers', WHERE WHAT IT READS IS OF BULK AT MOST 1048576: true; the input reads as it did. -/
def tableNumbersUptoRow : OpenClaim := { program := "ytlnelaajlhfabaagreat", sum := "76e3f7ae5435a97111af391c5d9ee2cb4b9f2e80be8578400728cc42bf92ef00", func := "bordereau/bordereaulaw11.TableNumbers", spec := "tableNumbers", inPlace := ["maps.clone"], unfollowed := true, recurses := true, apart := false, narrowed := true }
def TableNumbersUptoSaid : Prop := tableNumbersUptoRow.holds Tryz.pinned (OpenSpec.upto tableNumbersSpec)

/-- 'bordereaulaw25.LedgerNumbers', WHERE WHAT IT READS IS OF BULK AT MOST 1048576: true; the input reads as it did. -/
def ledgerNumbersUptoRow : OpenClaim := { program := "ytlnelaajlhfabaagreat", sum := "76e3f7ae5435a97111af391c5d9ee2cb4b9f2e80be8578400728cc42bf92ef00", func := "bordereau/bordereaulaw25.LedgerNumbers", spec := "ledgerNumbers", unfollowed := true, recurses := true, apart := false, narrowed := true }
def LedgerNumbersUptoSaid : Prop := ledgerNumbersUptoRow.holds Tryz.pinned (OpenSpec.upto ledgerNumbersSpec)

/-- 'bordereaulaw25.LedgerTells', WHERE WHAT IT READS IS OF BULK AT MOST 1048576: true; the input reads as it did. -/
def ledgerTellsUptoRow : OpenClaim := { program := "ytlnelaajlhfabaagreat", sum := "76e3f7ae5435a97111af391c5d9ee2cb4b9f2e80be8578400728cc42bf92ef00", func := "bordereau/bordereaulaw25.LedgerTells", spec := "ledgerTells", unfollowed := true, recurses := true, apart := false, narrowed := true }
def LedgerTellsUptoSaid : Prop := ledgerTellsUptoRow.holds Tryz.pinned (OpenSpec.upto ledgerTellsSpec)

/-- 'bordereaulaw25.LedgerSums', WHERE WHAT IT READS IS OF BULK AT MOST 1048576: true; the input reads as it did. -/
def ledgerSumsUptoRow : OpenClaim := { program := "ytlnelaajlhfabaagreat", sum := "76e3f7ae5435a97111af391c5d9ee2cb4b9f2e80be8578400728cc42bf92ef00", func := "bordereau/bordereaulaw25.LedgerSums", spec := "ledgerSums", unfollowed := true, recurses := true, apart := false, narrowed := true }
def LedgerSumsUptoSaid : Prop := ledgerSumsUptoRow.holds Tryz.pinned (OpenSpec.upto ledgerSumsSpec)

/-- 'bordereaulaw25.LedgerBegins', WHERE WHAT IT READS IS OF BULK AT MOST 1048576: true; the input reads as it did. -/
def ledgerBeginsUptoRow : OpenClaim := { program := "ytlnelaajlhfabaagreat", sum := "76e3f7ae5435a97111af391c5d9ee2cb4b9f2e80be8578400728cc42bf92ef00", func := "bordereau/bordereaulaw25.LedgerBegins", spec := "ledgerBegins", unfollowed := true, recurses := true, apart := false, narrowed := true }
def LedgerBeginsUptoSaid : Prop := ledgerBeginsUptoRow.holds Tryz.pinned (OpenSpec.upto ledgerBeginsSpec)

/-- 'bordereaulaw15.ModelOnce', WHERE WHAT IT READS IS OF BULK AT MOST 1048576: true; the input reads as it did. -/
def modelOnceUptoRow : OpenClaim := { program := "ytlnelaajlhfabaagreat", sum := "76e3f7ae5435a97111af391c5d9ee2cb4b9f2e80be8578400728cc42bf92ef00", func := "bordereau/bordereaulaw15.ModelOnce", spec := "modelOnce", unfollowed := true, recurses := true, apart := false, narrowed := true }
def ModelOnceUptoSaid : Prop := modelOnceUptoRow.holds Tryz.pinned (OpenSpec.upto modelOnceSpec)

/-- 'bordereaulaw15.ModelRefuses', WHERE WHAT IT READS IS OF BULK AT MOST 1048576: true; the input reads as it did. -/
def modelRefusesUptoRow : OpenClaim := { program := "ytlnelaajlhfabaagreat", sum := "76e3f7ae5435a97111af391c5d9ee2cb4b9f2e80be8578400728cc42bf92ef00", func := "bordereau/bordereaulaw15.ModelRefuses", spec := "modelRefuses", unfollowed := true, recurses := true, apart := false, narrowed := true }
def ModelRefusesUptoSaid : Prop := modelRefusesUptoRow.holds Tryz.pinned (OpenSpec.upto modelRefusesSpec)

/-- 'bordereaulaw15.ModelKeeps', WHERE WHAT IT READS IS OF BULK AT MOST 1048576: true; the input reads as it did. -/
def modelKeepsUptoRow : OpenClaim := { program := "ytlnelaajlhfabaagreat", sum := "76e3f7ae5435a97111af391c5d9ee2cb4b9f2e80be8578400728cc42bf92ef00", func := "bordereau/bordereaulaw15.ModelKeeps", spec := "modelKeeps", unfollowed := true, recurses := true, apart := false, narrowed := true }
def ModelKeepsUptoSaid : Prop := modelKeepsUptoRow.holds Tryz.pinned (OpenSpec.upto modelKeepsSpec)

/-- 'bordereaulaw15.ModelNumbers', WHERE WHAT IT READS IS OF BULK AT MOST 1048576: true; the input reads as it did. -/
def modelNumbersUptoRow : OpenClaim := { program := "ytlnelaajlhfabaagreat", sum := "76e3f7ae5435a97111af391c5d9ee2cb4b9f2e80be8578400728cc42bf92ef00", func := "bordereau/bordereaulaw15.ModelNumbers", spec := "modelNumbers", unfollowed := true, recurses := true, apart := false, narrowed := true }
def ModelNumbersUptoSaid : Prop := modelNumbersUptoRow.holds Tryz.pinned (OpenSpec.upto modelNumbersSpec)

/-- 'bordereaulaw15.ModelPlays', WHERE WHAT IT READS IS OF BULK AT MOST 1048576: true; the input reads as it did. -/
def modelPlaysUptoRow : OpenClaim := { program := "ytlnelaajlhfabaagreat", sum := "76e3f7ae5435a97111af391c5d9ee2cb4b9f2e80be8578400728cc42bf92ef00", func := "bordereau/bordereaulaw15.ModelPlays", spec := "modelPlays", unfollowed := true, recurses := true, apart := false, narrowed := true }
def ModelPlaysUptoSaid : Prop := modelPlaysUptoRow.holds Tryz.pinned (OpenSpec.upto modelPlaysSpec)

end Rows
end Go.Proofs.YtlnelaajlhfabaaGreat
