/- The given law LedgerBegins (package bordereaulaw25) returns true, does not panic, and leaves what it was handed as it was, whatever it is called with. Conditions: those of the given sentence Rows.LedgerBeginsSaid, and no others. -/
import Derived.Test.YtlnelaajlhfabaaGreatP21
import Derived.Test.YtlnelaajlhfabaaGreatP22
import Derived.Test.YtlnelaajlhfabaaGreatRows
import Derived.JoinedCond
namespace Go.Proofs.YtlnelaajlhfabaaGreat.ledgerBegins
open Go.ChangeShapes Go.WideShapes Go.ChangeAt Go.RowKit Go.Proofs.YtlnelaajlhfabaaGreat.AW

theorem own : ownKnob Tryz.prog.godebug = none := by kernel_rfl
theorem laidOut : laidOutB Tryz.prog = true := by kernel_rfl
theorem tabs {W : World} : ∀ i cs, glob Tryz.prog i = some cs → CellsP W (fun _ => False) i 0 cs ∧ i < W.heap.size := by
  intro i cs hi
  have hs : Tryz.prog.globals.size = 0 := by kernel_rfl
  rw [glob_none (by rw [hs]; omega)] at hi
  cases hi
theorem op_ints11 {n : Nat} {v : PV} (h : OpE Tryz.prog (n + 2) 22 v) : ∃ l : List Int, v = kl l ∧ l.length ≤ maxLen := by
  obtain ⟨xs, rfl, h1, h2⟩ := op_slice Tryz.underlying22 h
  obtain ⟨l, rfl, _⟩ := map_of (f := fun x : Int => PV.int .i64 x) (q := fun _ => True) fun x hx => by
    obtain ⟨m, rfl, _⟩ := op_int Tryz.underlying3 (h2 x hx)
    exact ⟨m, rfl, trivial⟩
  have hc : Tryz.prog.cellsOf 3 = 1 := by kernel_rfl
  rw [hc]
  exact ⟨l, rfl, by simpa using h1⟩

theorem cal (ps : List PV) (h : OpEs Tryz.prog 6 [22, 3] ps) : Cal Tryz.prog 8 (ps.map .p) [] fun r _ => r = .p (.bool true) := by
  match ps, h with
  | [v0, v1], ⟨h0, h1, _⟩ =>
    obtain ⟨t, rfl, ht⟩ := op_ints11 h0
    obtain ⟨n, rfl, _⟩ := op_int Tryz.underlying3 h1
    exact lbegins_c t (Nat.le_trans ht (by decide)) n [] _ rfl
  | [], h => exact h.elim
  | [_], h => exact h.2.elim
  | _ :: _ :: _ :: _, h => exact h.2.2.elim

set_option maxRecDepth 100000 in
theorem lifted (os : Os) (started : os.Started) (H : Type) (enc : TypeId × Value → H) :
    ReturnsInHanded {} Tryz.checked os 8 .any (Rows.ledgerBeginsSpec.pre6 enc Tryz.prog Tryz.f8 Rows.ledgerBeginsRow.domain false) (Rows.ledgerBeginsSpec.post enc Tryz.prog Tryz.f8 false true false false) := by
  refine returnsInHanded_of_change (C := Tryz.checked) own started (by kernel_rfl) Tryz.func8
    (ChangeSpec.witness6 (enc := enc) (C := Tryz.checked) false ⟨#[], #[.slice none 0 0, .int .i64 0], []⟩ 8 (by kernel_rfl) (by kernel_rfl) (by kernel_rfl) (by kernel_rfl)) ?_
  intro W base args ds gs before hval hW hcnd _
  have hpar : Tryz.f8.params.toList = [22, 3] := by rw [Tryz.params8]
  refine law_contract (n := 6) (t := 4) laidOut rfl (by kernel_rfl) (by kernel_rfl) rfl Tryz.underlying4 ?_ hval hW tabs ⟨_, _, Tryz.func8, rfl⟩ fun ps h _ => cal ps (by rw [hpar] at h; exact h)
  intro ds hd
  rw [hpar] at hd
  match ds, hd with
  | [_, _], _ => exact ⟨rfl, rfl, rfl⟩

theorem factsJ : joinedFacts Tryz.checked.prog 8 Tryz.f8 Rows.ledgerBeginsSpec Rows.ledgerBeginsRow = true := by kernel_rfl
theorem LedgerBegins_holds : Rows.LedgerBeginsSaid :=
  OpenClaim.holds_of_wide 8 Tryz.f8 rfl rfl rfl rfl rfl rfl rfl ⟨rfl, rfl, rfl, rfl, rfl⟩ rfl rfl rfl rfl rfl (by kernel_rfl) Tryz.func8 factsJ
    (of_decide_eq_true (by kernel_rfl)) (by unfold Func.isWrapper; first | (rw [if_pos (by decide +kernel)]; kernel_rfl) | (rw [if_neg (by decide +kernel)]; exact ⟨rfl, rfl⟩))
    (fun os started H enc _ => lifted os started H enc)
#print axioms LedgerBegins_holds
end Go.Proofs.YtlnelaajlhfabaaGreat.ledgerBegins
