/- The given law FilesKeep (package bordereaulaw7) returns true, does not panic, and leaves what it was handed as it was, whatever it is called with. Conditions: those of the given sentence Rows.FilesKeepSaid, and no others. -/
import Derived.Test.YtneheklmkbhieaaP10
import Derived.Test.YtneheklmkbhieaaP11
import Derived.Test.YtneheklmkbhieaaRows
import Derived.JoinedCond
namespace Go.Proofs.Ytneheklmkbhieaa.filesKeep
open Go.ChangeShapes Go.WideShapes Go.ChangeAt Go.RowKit Go.Proofs.Ytneheklmkbhieaa.AW

theorem own : ownKnob Try.prog.godebug = none := by kernel_rfl
theorem laidOut : laidOutB Try.prog = true := by kernel_rfl
theorem tabs {W : World} : ∀ i cs, glob Try.prog i = some cs → CellsP W (fun _ => False) i 0 cs ∧ i < W.heap.size := by
  intro i cs hi
  have hs : Try.prog.globals.size = 0 := by kernel_rfl
  rw [glob_none (by rw [hs]; omega)] at hi
  cases hi
theorem u8_in {n : Int} (h : (Lit.int .u8 n).wf = true) : 0 ≤ n ∧ n < 256 := by
  simp only [Lit.wf, Bool.and_eq_true, decide_eq_true_eq] at h
  have e1 : IntKind.u8.min = 0 := by decide
  have e2 : IntKind.u8.max = 255 := by decide
  rw [e1, e2] at h
  omega
theorem u8_of {n : Int} (h : (Lit.int .u8 n).wf = true) : ∃ g : UInt8, n = (g.toNat : Int) := by
  obtain ⟨h1, h2⟩ := u8_in h
  refine ⟨UInt8.ofNat n.toNat, ?_⟩
  rw [UInt8.toNat_ofNat']
  omega
theorem op_byte7 {n : Nat} {v : PV} (h : OpE Try.prog (n + 1) 5 v) : ∃ g : UInt8, v = .int .u8 g.toNat := by
  obtain ⟨m, rfl, hm⟩ := op_int Try.underlying5 h
  obtain ⟨g, rfl⟩ := u8_of hm
  exact ⟨g, rfl⟩
theorem op_bytes7 {n : Nat} {v : PV} (h : OpE Try.prog (n + 2) 22 v) : ∃ a : List UInt8, v = bsl a ∧ a.length ≤ maxLen := by
  obtain ⟨xs, rfl, h1, h2⟩ := op_slice Try.underlying22 h
  obtain ⟨a, rfl, _⟩ := map_of (f := fun g : UInt8 => PV.int .u8 g.toNat) (q := fun _ => True) fun x hx => by
    obtain ⟨g, rfl⟩ := op_byte7 (h2 x hx)
    exact ⟨g, rfl, trivial⟩
  have hc : Try.prog.cellsOf 5 = 1 := by kernel_rfl
  rw [hc]
  exact ⟨a, rfl, by simpa using h1⟩

theorem cal (ps : List PV) (h : OpEs Try.prog 6 [22, 22, 2, 5] ps) : Cal Try.prog 3 (ps.map .p) [] fun r _ => r = .p (.bool true) := by
  match ps, h with
  | [v0, v1, v2, v3], ⟨h0, h1, h2, h3, _⟩ =>
    obtain ⟨a, rfl, _⟩ := op_bytes7 h0
    obtain ⟨b, rfl, _⟩ := op_bytes7 h1
    obtain ⟨n, rfl, _⟩ := op_int Try.underlying2 h2
    obtain ⟨g, rfl⟩ := op_byte7 h3
    exact filesKeep_c a b n g _ fun _ => rfl
  | [], h => exact h.elim
  | [_], h => exact h.2.elim
  | [_, _], h => exact h.2.2.elim
  | [_, _, _], h => exact h.2.2.2.elim
  | _ :: _ :: _ :: _ :: _ :: _, h => exact h.2.2.2.2.elim


set_option maxRecDepth 100000 in
theorem lifted (os : Os) (started : os.Started) (H : Type) (enc : TypeId × Value → H) :
    ReturnsInHanded {} Try.checked os 3 .any (Rows.filesKeepSpec.pre6 enc Try.prog Try.f3 Rows.filesKeepRow.domain false) (Rows.filesKeepSpec.post enc Try.prog Try.f3 false true false false) := by
  refine returnsInHanded_of_change (C := Try.checked) own started (by kernel_rfl) Try.func3
    (ChangeSpec.witness6 (enc := enc) (C := Try.checked) false ⟨#[], #[.slice none 0 0, .slice none 0 0, .int .i64 0, .int .u8 0], []⟩ 8 (by kernel_rfl) (by kernel_rfl) (by kernel_rfl) (by kernel_rfl)) ?_
  intro W base args ds gs before hval hW hcnd _
  have hpar : Try.f3.params.toList = [22, 22, 2, 5] := by rw [Try.params3]
  refine law_contract (n := 6) (t := 4) laidOut rfl (by kernel_rfl) (by kernel_rfl) rfl Try.underlying4 ?_ hval hW tabs ⟨_, _, Try.func3, rfl⟩ fun ps h _ => cal ps (by rw [hpar] at h; exact h)
  intro ds hd
  rw [hpar] at hd
  match ds, hd with
  | [_, _, _, _], _ => exact ⟨rfl, rfl, rfl⟩

theorem FilesKeep_holds : Rows.FilesKeepSaid :=
  OpenClaim.holds_of_wide 3 Try.f3 rfl rfl rfl rfl rfl rfl rfl ⟨rfl, rfl, rfl, rfl, rfl⟩ rfl rfl rfl rfl rfl (by kernel_rfl) Try.func3 (by kernel_rfl)
    (of_decide_eq_true (by kernel_rfl)) (by unfold Func.isWrapper; first | (rw [if_pos (by decide +kernel)]; kernel_rfl) | (rw [if_neg (by decide +kernel)]; exact ⟨rfl, rfl⟩))
    (fun os started H enc _ => lifted os started H enc)
#print axioms FilesKeep_holds
end Go.Proofs.Ytneheklmkbhieaa.filesKeep
