/- The given law LedgerNumbers (package bordereaulaw25) returns true, does not panic, and leaves what it was handed as it was, whatever it is called with. Conditions: those of the given sentence Rows.LedgerNumbersSaid, and no others. -/
import Derived.Test.YtlnelaajlhfabaaGreatP20
import Derived.Test.YtlnelaajlhfabaaGreatP21
import Derived.Test.YtlnelaajlhfabaaGreatRows
import Derived.JoinedCond
namespace Go.Proofs.YtlnelaajlhfabaaGreat.ledgerNumbers
open Go.ChangeShapes Go.WideShapes Go.ChangeAt Go.RowKit Go.Proofs.YtlnelaajlhfabaaGreat.AW

theorem own : ownKnob Tryz.prog.godebug = none := by kernel_rfl
theorem laidOut : laidOutB Tryz.prog = true := by kernel_rfl
theorem tabs {W : World} : ∀ i cs, glob Tryz.prog i = some cs → CellsP W (fun _ => False) i 0 cs ∧ i < W.heap.size := by
  intro i cs hi
  have hs : Tryz.prog.globals.size = 0 := by kernel_rfl
  rw [glob_none (by rw [hs]; omega)] at hi
  cases hi
theorem cal (ps : List PV) (h : OpEs Tryz.prog 6 [] ps) : Cal Tryz.prog 5 (ps.map .p) [] fun r _ => r = .p (.bool true) := by
  match ps, h with
  | [], _ => exact lnumbers_c [] _ rfl
  | _ :: _, h => exact h.elim

set_option maxRecDepth 100000 in
theorem lifted (os : Os) (started : os.Started) (H : Type) (enc : TypeId × Value → H) :
    ReturnsInHanded {} Tryz.checked os 5 .any (Rows.ledgerNumbersSpec.pre6 enc Tryz.prog Tryz.f5 Rows.ledgerNumbersRow.domain false) (Rows.ledgerNumbersSpec.post enc Tryz.prog Tryz.f5 false true false false) := by
  refine returnsInHanded_of_change (C := Tryz.checked) own started (by kernel_rfl) Tryz.func5
    (ChangeSpec.witness6 (enc := enc) (C := Tryz.checked) false ⟨#[], #[], []⟩ 8 (by kernel_rfl) (by kernel_rfl) (by kernel_rfl) (by kernel_rfl)) ?_
  intro W base args ds gs before hval hW hcnd _
  have hpar : Tryz.f5.params.toList = [] := by rw [Tryz.params5]
  refine law_contract (n := 6) (t := 4) laidOut rfl (by kernel_rfl) (by kernel_rfl) rfl Tryz.underlying4 ?_ hval hW tabs ⟨_, _, Tryz.func5, rfl⟩ fun ps h _ => cal ps (by rw [hpar] at h; exact h)
  intro ds hd
  rw [hpar] at hd
  match ds, hd with
  | [], _ => exact ⟨rfl, rfl, rfl⟩

theorem factsJ : joinedFacts Tryz.checked.prog 5 Tryz.f5 Rows.ledgerNumbersSpec Rows.ledgerNumbersRow = true := by kernel_rfl
theorem LedgerNumbers_holds : Rows.LedgerNumbersSaid :=
  OpenClaim.holds_of_wide 5 Tryz.f5 rfl rfl rfl rfl rfl rfl rfl ⟨rfl, rfl, rfl, rfl, rfl⟩ rfl rfl rfl rfl rfl (by kernel_rfl) Tryz.func5 factsJ
    (of_decide_eq_true (by kernel_rfl)) (by unfold Func.isWrapper; first | (rw [if_pos (by decide +kernel)]; kernel_rfl) | (rw [if_neg (by decide +kernel)]; exact ⟨rfl, rfl⟩))
    (fun os started H enc _ => lifted os started H enc)
#print axioms LedgerNumbers_holds
end Go.Proofs.YtlnelaajlhfabaaGreat.ledgerNumbers
