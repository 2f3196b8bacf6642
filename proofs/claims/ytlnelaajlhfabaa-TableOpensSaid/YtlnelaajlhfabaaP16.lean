/- The given law TableOpens (package bordereaulaw11) returns true, does not panic, and leaves what it was handed as it was, whatever it is called with. Conditions: those of the given sentence Rows.TableOpensSaid, and no others. -/
import Derived.Test.YtlnelaajlhfabaaP14
import Derived.Test.YtlnelaajlhfabaaP15
import Derived.Test.YtlnelaajlhfabaaRows
import Derived.JoinedCond
namespace Go.Proofs.Ytlnelaajlhfabaa.tableOpens
open Go.ChangeShapes Go.WideShapes Go.ChangeAt Go.RowKit Go.Proofs.Ytlnelaajlhfabaa.AW

theorem own : ownKnob Try.prog.godebug = none := by kernel_rfl
theorem laidOut : laidOutB Try.prog = true := by kernel_rfl
theorem tabs {W : World} : ∀ i cs, glob Try.prog i = some cs → CellsP W (fun _ => False) i 0 cs ∧ i < W.heap.size := by
  intro i cs hi
  have hs : Try.prog.globals.size = 0 := by kernel_rfl
  rw [glob_none (by rw [hs]; omega)] at hi
  cases hi
theorem op_ints11 {n : Nat} {v : PV} (h : OpE Try.prog (n + 2) 22 v) : ∃ l : List Int, v = kl l ∧ l.length ≤ maxLen := by
  obtain ⟨xs, rfl, h1, h2⟩ := op_slice Try.underlying22 h
  obtain ⟨l, rfl, _⟩ := map_of (f := fun x : Int => PV.int .i64 x) (q := fun _ => True) fun x hx => by
    obtain ⟨m, rfl, _⟩ := op_int Try.underlying3 (h2 x hx)
    exact ⟨m, rfl, trivial⟩
  have hc : Try.prog.cellsOf 3 = 1 := by kernel_rfl
  rw [hc]
  exact ⟨l, rfl, by simpa using h1⟩

theorem cal (ps : List PV) (h : OpEs Try.prog 6 [22] ps) : Cal Try.prog 3 (ps.map .p) [] fun r _ => r = .p (.bool true) := by
  match ps, h with
  | [v0], ⟨h0, _⟩ =>
    obtain ⟨t, rfl, ht⟩ := op_ints11 h0
    exact opens_c t ht [] _ rfl
  | [], h => exact h.elim
  | _ :: _ :: _, h => exact h.2.elim

set_option maxRecDepth 100000 in
theorem lifted (os : Os) (started : os.Started) (H : Type) (enc : TypeId × Value → H) :
    ReturnsInHanded {} Try.checked os 3 .any (Rows.tableOpensSpec.pre6 enc Try.prog Try.f3 Rows.tableOpensRow.domain false) (Rows.tableOpensSpec.post enc Try.prog Try.f3 false true false false) := by
  refine returnsInHanded_of_change (C := Try.checked) own started (by kernel_rfl) Try.func3
    (ChangeSpec.witness6 (enc := enc) (C := Try.checked) false ⟨#[], #[.slice none 0 0], []⟩ 8 (by kernel_rfl) (by kernel_rfl) (by kernel_rfl) (by kernel_rfl)) ?_
  intro W base args ds gs before hval hW hcnd _
  have hpar : Try.f3.params.toList = [22] := by rw [Try.params3]
  refine law_contract (n := 6) (t := 4) laidOut rfl (by kernel_rfl) (by kernel_rfl) rfl Try.underlying4 ?_ hval hW tabs ⟨_, _, Try.func3, rfl⟩ fun ps h _ => cal ps (by rw [hpar] at h; exact h)
  intro ds hd
  rw [hpar] at hd
  match ds, hd with
  | [_], _ => exact ⟨rfl, rfl, rfl⟩

theorem TableOpens_holds : Rows.TableOpensSaid :=
  OpenClaim.holds_of_wide 3 Try.f3 rfl rfl rfl rfl rfl rfl rfl ⟨rfl, rfl, rfl, rfl, rfl⟩ rfl rfl rfl rfl rfl (by kernel_rfl) Try.func3 (by kernel_rfl)
    (of_decide_eq_true (by kernel_rfl)) (by unfold Func.isWrapper; first | (rw [if_pos (by decide +kernel)]; kernel_rfl) | (rw [if_neg (by decide +kernel)]; exact ⟨rfl, rfl⟩))
    (fun os started H enc _ => lifted os started H enc)
#print axioms TableOpens_holds
end Go.Proofs.Ytlnelaajlhfabaa.tableOpens
