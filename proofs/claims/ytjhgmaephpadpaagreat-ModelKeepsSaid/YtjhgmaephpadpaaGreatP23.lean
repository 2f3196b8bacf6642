/- The given law ModelKeeps (package bordereaulaw15) returns true, does not panic, and leaves what it was handed as it was, whatever it is called with. Conditions: those of the given sentence Rows.ModelKeepsSaid, and no others. -/
import Derived.Test.YtjhgmaephpadpaaGreatP21
import Derived.Test.YtjhgmaephpadpaaGreatP22
import Derived.Test.YtjhgmaephpadpaaGreatRows
import Derived.JoinedCond
namespace Go.Proofs.YtjhgmaephpadpaaGreat.modelKeeps
open Go.ChangeShapes Go.WideShapes Go.ChangeAt Go.RowKit Go.Proofs.YtjhgmaephpadpaaGreat.AW

theorem own : ownKnob Tryz.prog.godebug = none := by kernel_rfl
theorem laidOut : laidOutB Tryz.prog = true := by kernel_rfl
theorem tabs {W : World} : ∀ i cs, glob Tryz.prog i = some cs → CellsP W (fun _ => False) i 0 cs ∧ i < W.heap.size := by
  intro i cs hi
  have hs : Tryz.prog.globals.size = 0 := by kernel_rfl
  rw [glob_none (by rw [hs]; omega)] at hi
  cases hi
theorem op_ints11 {n : Nat} {v : PV} (h : OpE Tryz.prog (n + 2) 22 v) : ∃ l : List Int, v = kl l ∧ l.length ≤ maxLen := by
  obtain ⟨xs, rfl, h1, h2⟩ := op_slice Tryz.underlying22 h
  obtain ⟨l, rfl, _⟩ := map_of (f := fun x : Int => PV.int .i64 x) (q := fun _ => True) fun x hx => by
    obtain ⟨m, rfl, _⟩ := op_int Tryz.underlying3 (h2 x hx)
    exact ⟨m, rfl, trivial⟩
  have hc : Tryz.prog.cellsOf 3 = 1 := by kernel_rfl
  rw [hc]
  exact ⟨l, rfl, by simpa using h1⟩

theorem op_int64s {n : Nat} {v : PV} (h : OpE Tryz.prog (n + 2) 58 v) : ∃ l : List Int, v = kl l ∧ l.length ≤ maxLen := by
  obtain ⟨xs, rfl, h1, h2⟩ := op_slice Tryz.underlying58 h
  obtain ⟨l, rfl, _⟩ := map_of (f := fun x : Int => PV.int .i64 x) (q := fun _ => True) fun x hx => by
    obtain ⟨m, rfl, _⟩ := op_int Tryz.underlying2 (h2 x hx)
    exact ⟨m, rfl, trivial⟩
  have hc : Tryz.prog.cellsOf 2 = 1 := by kernel_rfl
  rw [hc]
  exact ⟨l, rfl, by simpa using h1⟩
theorem cal (ps : List PV) (h : OpEs Tryz.prog 6 [22, 58] ps) : Cal Tryz.prog 5 (ps.map .p) [] fun r _ => r = .p (.bool true) := by
  match ps, h with
  | [v0, v1], ⟨h0, h1, _⟩ =>
    obtain ⟨t, rfl, ht⟩ := op_ints11 h0
    obtain ⟨F, rfl, hF⟩ := op_int64s h1
    exact keeps_c t ht F hF [] _ rfl
  | [], h => exact h.elim
  | [_], h => exact h.2.elim
  | _ :: _ :: _ :: _, h => exact h.2.2.elim

set_option maxRecDepth 100000 in
theorem lifted (os : Os) (started : os.Started) (H : Type) (enc : TypeId × Value → H) :
    ReturnsInHanded {} Tryz.checked os 5 .any (Rows.modelKeepsSpec.pre6 enc Tryz.prog Tryz.f5 Rows.modelKeepsRow.domain false) (Rows.modelKeepsSpec.post enc Tryz.prog Tryz.f5 false true false false) := by
  refine returnsInHanded_of_change (C := Tryz.checked) own started (by kernel_rfl) Tryz.func5
    (ChangeSpec.witness6 (enc := enc) (C := Tryz.checked) false ⟨#[], #[.slice none 0 0, .slice none 0 0], []⟩ 8 (by kernel_rfl) (by kernel_rfl) (by kernel_rfl) (by kernel_rfl)) ?_
  intro W base args ds gs before hval hW hcnd _
  have hpar : Tryz.f5.params.toList = [22, 58] := by rw [Tryz.params5]
  refine law_contract (n := 6) (t := 4) laidOut rfl (by kernel_rfl) (by kernel_rfl) rfl Tryz.underlying4 ?_ hval hW tabs ⟨_, _, Tryz.func5, rfl⟩ fun ps h _ => cal ps (by rw [hpar] at h; exact h)
  intro ds hd
  rw [hpar] at hd
  match ds, hd with
  | [_, _], _ => exact ⟨rfl, rfl, rfl⟩

theorem factsJ : joinedFacts Tryz.checked.prog 5 Tryz.f5 Rows.modelKeepsSpec Rows.modelKeepsRow = true := by kernel_rfl
theorem ModelKeeps_holds : Rows.ModelKeepsSaid :=
  OpenClaim.holds_of_wide 5 Tryz.f5 rfl rfl rfl rfl rfl rfl rfl ⟨rfl, rfl, rfl, rfl, rfl⟩ rfl rfl rfl rfl rfl (by kernel_rfl) Tryz.func5 factsJ
    (of_decide_eq_true (by kernel_rfl)) (by unfold Func.isWrapper; first | (rw [if_pos (by decide +kernel)]; kernel_rfl) | (rw [if_neg (by decide +kernel)]; exact ⟨rfl, rfl⟩))
    (fun os started H enc _ => lifted os started H enc)
#print axioms ModelKeeps_holds
end Go.Proofs.YtjhgmaephpadpaaGreat.modelKeeps
