/- The given law OptionRunes (package bordereaulaw4) returns true, does not panic, and leaves what it was handed as it was, whatever two texts it is called with. Conditions: those of the given sentence Rows.OptionRunesSaid, and no others. -/
import Derived.Test.YtfjolephpghafaaL4J
import Derived.Test.YtfjolephpghafaaAwLaw
import Derived.Test.YtfjolephpghafaaRows
namespace Go.Proofs.Ytfjolephpghafaa.optionRunes
open Go.ChangeShapes Go.WideShapes Go.ChangeAt Go.RowKit Go.Proofs.Ytfjolephpghafaa.AW

theorem own : ownKnob Try.prog.godebug = none := by kernel_rfl
theorem laidOut : laidOutB Try.prog = true := by kernel_rfl

theorem cal (ps : List PV) (h : OpEs Try.prog 3 [9, 9] ps) : Cal Try.prog 6 (ps.map .p) [] fun r _ => r = .p (.bool true) := by
  match ps, h with
  | [v0, v1], ⟨h0, h1, _⟩ =>
    have hu : Try.prog.underlying 9 = some .string := Try.underlying9
    have hs : isStruct Try.prog 9 = false := by unfold isStruct; rw [hu]
    unfold OpE at h0 h1
    rw [hs] at h0 h1
    unfold OpT at h0 h1
    simp only [hu] at h0 h1
    obtain ⟨a, ha, _⟩ := h0
    obtain ⟨b, hb, _⟩ := h1
    cases ha; cases hb
    exact runes_c a b [] _ rfl
  | [], h => exact h.elim
  | [_], h => exact h.2.elim
  | _ :: _ :: _ :: _, h => exact h.2.2.elim

set_option maxRecDepth 100000 in
theorem lifted (os : Os) (started : os.Started) (H : Type) (enc : TypeId × Value → H) :
    ReturnsInHanded {} Try.checked os 6 .any (Rows.optionRunesSpec.pre6 enc Try.prog Try.f6 Rows.optionRunesRow.domain false) (Rows.optionRunesSpec.post enc Try.prog Try.f6 false true false false) := by
  refine returnsInHanded_of_change (C := Try.checked) own started (by kernel_rfl) Try.func6
    (ChangeSpec.witness6 (enc := enc) (C := Try.checked) false ⟨#[], #[.string .empty, .string .empty], []⟩ 8 (by kernel_rfl) (by kernel_rfl) (by kernel_rfl) (by kernel_rfl)) ?_
  intro W base args ds gs before hval hW hcnd _
  have hpar : Try.f6.params.toList = [9, 9] := by rw [Try.params6]
  refine law_contract (n := 3) (t := 4) laidOut rfl (by kernel_rfl) (by kernel_rfl) rfl Try.underlying4 ?_ hval hW fun ps h _ => cal ps (by rw [hpar] at h; exact h)
  intro ds hd
  rw [hpar] at hd
  match ds, hd with
  | [_, _], _ => exact ⟨rfl, rfl, rfl⟩

theorem OptionRunes_holds : Rows.OptionRunesSaid :=
  OpenClaim.holds_of_wide 6 Try.f6 rfl rfl rfl rfl rfl rfl rfl ⟨rfl, rfl, rfl, rfl, rfl⟩ rfl rfl rfl rfl rfl (by kernel_rfl) Try.func6 (by kernel_rfl)
    (of_decide_eq_true (by kernel_rfl)) (by unfold Func.isWrapper; first | (rw [if_pos (by decide +kernel)]; kernel_rfl) | (rw [if_neg (by decide +kernel)]; exact ⟨rfl, rfl⟩))
    (fun os started H enc _ => lifted os started H enc)
#print axioms OptionRunes_holds
end Go.Proofs.Ytfjolephpghafaa.optionRunes
