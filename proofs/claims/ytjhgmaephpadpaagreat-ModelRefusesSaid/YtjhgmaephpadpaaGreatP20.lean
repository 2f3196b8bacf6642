/- The given law ModelRefuses (package bordereaulaw15) returns true, does not panic, and leaves what it was handed as it was, whatever it is called with. Conditions: those of the given sentence Rows.ModelRefusesSaid, and no others. -/
import Derived.Test.YtjhgmaephpadpaaGreatP18
import Derived.Test.YtjhgmaephpadpaaGreatP19
import Derived.Test.YtjhgmaephpadpaaGreatRows
import Derived.JoinedCond
namespace Go.Proofs.YtjhgmaephpadpaaGreat.modelRefuses
open Go.ChangeShapes Go.WideShapes Go.ChangeAt Go.RowKit Go.Proofs.YtjhgmaephpadpaaGreat.AW

theorem own : ownKnob Tryz.prog.godebug = none := by kernel_rfl
theorem laidOut : laidOutB Tryz.prog = true := by kernel_rfl
theorem tabs {W : World} : ∀ i cs, glob Tryz.prog i = some cs → CellsP W (fun _ => False) i 0 cs ∧ i < W.heap.size := by
  intro i cs hi
  have hs : Tryz.prog.globals.size = 0 := by kernel_rfl
  rw [glob_none (by rw [hs]; omega)] at hi
  cases hi
theorem op_ints11 {n : Nat} {v : PV} (h : OpE Tryz.prog (n + 2) 22 v) : ∃ l : List Int, v = kl l ∧ l.length ≤ maxLen := by
  obtain ⟨xs, rfl, h1, h2⟩ := op_slice Tryz.underlying22 h
  obtain ⟨l, rfl, _⟩ := map_of (f := fun x : Int => PV.int .i64 x) (q := fun _ => True) fun x hx => by
    obtain ⟨m, rfl, _⟩ := op_int Tryz.underlying3 (h2 x hx)
    exact ⟨m, rfl, trivial⟩
  have hc : Tryz.prog.cellsOf 3 = 1 := by kernel_rfl
  rw [hc]
  exact ⟨l, rfl, by simpa using h1⟩

theorem op_rec {n : Nat} {v : PV} (h : OpE Tryz.prog (n + 3) 80 v) : ∃ q : KV, v = rec2 q ∧ True := by
  obtain ⟨cs, rfl, hf⟩ := op_struct Tryz.underlying80 h
  unfold OpFs at hf
  obtain ⟨x0, r0, rfl, h0, hf⟩ := hf
  unfold OpFs at hf
  obtain ⟨x1, r1, rfl, h1, hf⟩ := hf
  unfold OpFs at hf
  subst hf
  unfold OpT at h0 h1
  simp only [Tryz.underlying9] at h0 h1
  obtain ⟨a, rfl, _⟩ := h0
  obtain ⟨b, rfl, _⟩ := h1
  exact ⟨(a, b), rfl, trivial⟩
theorem op_bt {n : Nat} {v : PV} (h : OpE Tryz.prog (n + 5) 36 v) : ∃ b : Bt, v = b.pv ∧ b.small := by
  obtain ⟨cs, rfl, hf⟩ := op_struct Tryz.underlying36 h
  unfold OpFs at hf
  obtain ⟨x0, r0, rfl, h0, hf⟩ := hf
  unfold OpFs at hf
  obtain ⟨x1, r1, rfl, h1, hf⟩ := hf
  unfold OpFs at hf
  obtain ⟨x2, r2, rfl, h2, hf⟩ := hf
  unfold OpFs at hf
  obtain ⟨x3, r3, rfl, h3, hf⟩ := hf
  unfold OpFs at hf
  obtain ⟨x4, r4, rfl, h4, hf⟩ := hf
  unfold OpFs at hf
  obtain ⟨x5, r5, rfl, h5, hf⟩ := hf
  unfold OpFs at hf
  obtain ⟨x6, r6, rfl, h6, hf⟩ := hf
  unfold OpFs at hf
  subst hf
  unfold OpT at h0 h1 h2 h3 h4 h5 h6
  simp only [Tryz.underlying2, Tryz.underlying3, Tryz.underlying4, Tryz.underlying34] at h0 h1 h2 h3 h4 h5 h6
  obtain ⟨a0, rfl, _⟩ := h0
  obtain ⟨a1, rfl, _⟩ := h1
  obtain ⟨a2, rfl, _⟩ := h2
  obtain ⟨a3, rfl, _⟩ := h3
  obtain ⟨a4, rfl⟩ := h4
  obtain ⟨a5, rfl, _⟩ := h5
  obtain ⟨xs, rfl, hl, hx⟩ := h6
  obtain ⟨R, rfl, _⟩ := map_of (f := rec2) (q := fun _ => True) fun x hm => op_rec (hx x hm)
  have hc : Tryz.prog.cellsOf 80 = 2 := by kernel_rfl
  rw [hc]
  exact ⟨⟨a0, a1, a2, a3, a4, a5, R⟩, rfl, by rw [List.length_map] at hl; exact hl, fun _ _ => trivial⟩
theorem op_row {n : Nat} {v : PV} (h : OpE Tryz.prog (n + 6) 28 v) : ∃ R : List Bt, v = rowP R ∧ R.length ≤ maxLen ∧ ∀ b, b ∈ R → b.small := by
  obtain ⟨xs, rfl, h1, h2⟩ := op_slice Tryz.underlying28 h
  obtain ⟨R, rfl, hs⟩ := map_of (f := Bt.pv) (q := fun b => b.small) fun x hx => op_bt (h2 x hx)
  have hc : Tryz.prog.cellsOf 36 = 7 := by kernel_rfl
  rw [hc]
  exact ⟨R, rfl, by rw [List.length_map] at h1; exact h1, hs⟩

theorem cal (ps : List PV) (h : OpEs Tryz.prog 6 [22, 28, 3] ps) : Cal Tryz.prog 4 (ps.map .p) [] fun r _ => r = .p (.bool true) := by
  match ps, h with
  | [v0, v1, v2], ⟨h0, h1, h2, _⟩ =>
    obtain ⟨t, rfl, ht⟩ := op_ints11 h0
    obtain ⟨R, rfl, hR, hs⟩ := op_row h1
    obtain ⟨n, rfl, _⟩ := op_int Tryz.underlying3 h2
    exact refuses_c t ht R hR hs n [] _ rfl
  | [], h => exact h.elim
  | [_], h => exact h.2.elim
  | [_, _], h => exact h.2.2.elim
  | _ :: _ :: _ :: _ :: _, h => exact h.2.2.2.elim

set_option maxRecDepth 100000 in
theorem lifted (os : Os) (started : os.Started) (H : Type) (enc : TypeId × Value → H) :
    ReturnsInHanded {} Tryz.checked os 4 .any (Rows.modelRefusesSpec.pre6 enc Tryz.prog Tryz.f4 Rows.modelRefusesRow.domain false) (Rows.modelRefusesSpec.post enc Tryz.prog Tryz.f4 false true false false) := by
  refine returnsInHanded_of_change (C := Tryz.checked) own started (by kernel_rfl) Tryz.func4
    (ChangeSpec.witness6 (enc := enc) (C := Tryz.checked) false ⟨#[], #[.slice none 0 0, .slice none 0 0, .int .i64 0], []⟩ 8 (by kernel_rfl) (by kernel_rfl) (by kernel_rfl) (by kernel_rfl)) ?_
  intro W base args ds gs before hval hW hcnd _
  have hpar : Tryz.f4.params.toList = [22, 28, 3] := by rw [Tryz.params4]
  refine law_contract (n := 6) (t := 4) laidOut rfl (by kernel_rfl) (by kernel_rfl) rfl Tryz.underlying4 ?_ hval hW tabs ⟨_, _, Tryz.func4, rfl⟩ fun ps h _ => cal ps (by rw [hpar] at h; exact h)
  intro ds hd
  rw [hpar] at hd
  match ds, hd with
  | [_, _, _], _ => exact ⟨rfl, rfl, rfl⟩

theorem factsJ : joinedFacts Tryz.checked.prog 4 Tryz.f4 Rows.modelRefusesSpec Rows.modelRefusesRow = true := by kernel_rfl
theorem ModelRefuses_holds : Rows.ModelRefusesSaid :=
  OpenClaim.holds_of_wide 4 Tryz.f4 rfl rfl rfl rfl rfl rfl rfl ⟨rfl, rfl, rfl, rfl, rfl⟩ rfl rfl rfl rfl rfl (by kernel_rfl) Tryz.func4 factsJ
    (of_decide_eq_true (by kernel_rfl)) (by unfold Func.isWrapper; first | (rw [if_pos (by decide +kernel)]; kernel_rfl) | (rw [if_neg (by decide +kernel)]; exact ⟨rfl, rfl⟩))
    (fun os started H enc _ => lifted os started H enc)
#print axioms ModelRefuses_holds
end Go.Proofs.YtjhgmaephpadpaaGreat.modelRefuses
