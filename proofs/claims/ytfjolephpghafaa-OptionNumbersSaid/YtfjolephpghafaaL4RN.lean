/- The given closed law OptionNumbers (package bordereaulaw4) returns true and does not panic. Conditions: those of the given sentence Rows.OptionNumbersSaid, and no others. -/
import Derived.Test.YtfjolephpghafaaL4Z
import Derived.Test.YtfjolephpghafaaAwLaw
import Derived.Test.YtfjolephpghafaaRows
namespace Go.Proofs.Ytfjolephpghafaa.optionNumbers
open Go.ChangeShapes Go.WideShapes Go.ChangeAt Go.RowKit Go.Proofs.Ytfjolephpghafaa.AW

theorem own : ownKnob Try.prog.godebug = none := by kernel_rfl
theorem laidOut : laidOutB Try.prog = true := by kernel_rfl

theorem cal (ps : List PV) (h : OpEs Try.prog 3 [] ps) : Cal Try.prog 3 (ps.map .p) [] fun r _ => r = .p (.bool true) := by
  match ps, h with
  | [], _ => exact numbers_c [] _ rfl
  | _ :: _, h => exact h.elim

set_option maxRecDepth 100000 in
theorem lifted (os : Os) (started : os.Started) (H : Type) (enc : TypeId × Value → H) :
    ReturnsInHanded {} Try.checked os 3 .any (Rows.optionNumbersSpec.pre6 enc Try.prog Try.f3 Rows.optionNumbersRow.domain false) (Rows.optionNumbersSpec.post enc Try.prog Try.f3 false true false false) := by
  refine returnsInHanded_of_change (C := Try.checked) own started (by kernel_rfl) Try.func3
    (ChangeSpec.witness6 (enc := enc) (C := Try.checked) false ⟨#[], #[], []⟩ 8 (by kernel_rfl) (by kernel_rfl) (by kernel_rfl) (by kernel_rfl)) ?_
  intro W base args ds gs before hval hW hcnd _
  have hpar : Try.f3.params.toList = [] := by rw [Try.params3]
  refine law_contract (n := 3) (t := 4) laidOut rfl (by kernel_rfl) (by kernel_rfl) rfl Try.underlying4 ?_ hval hW fun ps h _ => cal ps (by rw [hpar] at h; exact h)
  intro ds hd
  rw [hpar] at hd
  match ds, hd with
  | [], _ => exact ⟨rfl, rfl, rfl⟩

theorem OptionNumbers_holds : Rows.OptionNumbersSaid :=
  OpenClaim.holds_of_wide 3 Try.f3 rfl rfl rfl rfl rfl rfl rfl ⟨rfl, rfl, rfl, rfl, rfl⟩ rfl rfl rfl rfl rfl (by kernel_rfl) Try.func3 (by kernel_rfl)
    (of_decide_eq_true (by kernel_rfl)) (by unfold Func.isWrapper; first | (rw [if_pos (by decide +kernel)]; kernel_rfl) | (rw [if_neg (by decide +kernel)]; exact ⟨rfl, rfl⟩))
    (fun os started H enc _ => lifted os started H enc)
#print axioms OptionNumbers_holds
end Go.Proofs.Ytfjolephpghafaa.optionNumbers
