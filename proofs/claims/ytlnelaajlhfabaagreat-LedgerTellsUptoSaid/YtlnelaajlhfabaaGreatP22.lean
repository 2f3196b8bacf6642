/- The given law LedgerTells (package bordereaulaw25) returns true, does not panic, and leaves what it was handed as it was, whatever it is called with of bulk at most 1048576. Conditions: those of the given sentence Rows.LedgerTellsUptoSaid, and no others. -/
import Derived.Test.YtlnelaajlhfabaaGreatP20
import Derived.Test.YtlnelaajlhfabaaGreatP21
import Derived.Test.YtlnelaajlhfabaaGreatRows
import Derived.JoinedCond
namespace Go.Proofs.YtlnelaajlhfabaaGreat.ledgerTells
open Go.ChangeShapes Go.WideShapes Go.ChangeAt Go.RowKit Go.Proofs.YtlnelaajlhfabaaGreat.AW

theorem own : ownKnob Tryz.prog.godebug = none := by kernel_rfl
theorem laidOut : laidOutB Tryz.prog = true := by kernel_rfl
theorem tabs {W : World} : ∀ i cs, glob Tryz.prog i = some cs → CellsP W (fun _ => False) i 0 cs ∧ i < W.heap.size := by
  intro i cs hi
  have hs : Tryz.prog.globals.size = 0 := by kernel_rfl
  rw [glob_none (by rw [hs]; omega)] at hi
  cases hi
theorem op_ints11 {n : Nat} {v : PV} (h : OpE Tryz.prog (n + 2) 22 v) : ∃ l : List Int, v = kl l ∧ l.length ≤ maxLen := by
  obtain ⟨xs, rfl, h1, h2⟩ := op_slice Tryz.underlying22 h
  obtain ⟨l, rfl, _⟩ := map_of (f := fun x : Int => PV.int .i64 x) (q := fun _ => True) fun x hx => by
    obtain ⟨m, rfl, _⟩ := op_int Tryz.underlying3 (h2 x hx)
    exact ⟨m, rfl, trivial⟩
  have hc : Tryz.prog.cellsOf 3 = 1 := by kernel_rfl
  rw [hc]
  exact ⟨l, rfl, by simpa using h1⟩

theorem op_gt {n : Nat} {v : PV} (h : OpE Tryz.prog (n + 4) 54 v) : ∃ o : Gt, v = o.pv ∧ True := by
  obtain ⟨cs, rfl, hf⟩ := op_struct Tryz.underlying54 h
  unfold OpFs at hf
  obtain ⟨x0, r0, rfl, h0, hf⟩ := hf
  unfold OpFs at hf
  obtain ⟨x1, r1, rfl, h1, hf⟩ := hf
  unfold OpFs at hf
  obtain ⟨x2, r2, rfl, h2, hf⟩ := hf
  unfold OpFs at hf
  subst hf
  unfold OpT at h0 h1 h2
  simp only [Tryz.underlying2, Tryz.underlying52] at h0 h1 h2
  obtain ⟨k, rfl, _⟩ := h0
  obtain ⟨a, rfl, _⟩ := h1
  unfold OpFs at h2
  obtain ⟨y0, s0, rfl, g0, h2⟩ := h2
  unfold OpFs at h2
  obtain ⟨y1, s1, rfl, g1, h2⟩ := h2
  unfold OpFs at h2
  subst h2
  unfold OpT at g0 g1
  simp only [Tryz.underlying9] at g0 g1
  obtain ⟨b, rfl, _⟩ := g0
  obtain ⟨m, rfl, _⟩ := g1
  exact ⟨⟨k, a, b, m⟩, rfl, trivial⟩
theorem op_gts {n : Nat} {v : PV} (h : OpE Tryz.prog (n + 5) 44 v) : ∃ R : List Gt, v = gsP R ∧ True := by
  obtain ⟨xs, rfl, h1, h2⟩ := op_slice Tryz.underlying44 h
  obtain ⟨R, rfl, _⟩ := map_of (f := Gt.pv) (q := fun _ => True) fun x hx => op_gt (h2 x hx)
  have hc : Tryz.prog.cellsOf 54 = 4 := by kernel_rfl
  rw [hc]
  exact ⟨R, rfl, trivial⟩
theorem gts_bulk {R : List Gt} {N : Nat} (h : bulkP (gsP R) ≤ N) : R.length ≤ N ∧ ∀ g, g ∈ R → g.key.length ≤ N := by
  have h1 := bulk_sl (k := .shr) (sz := 4) (xs := R.map Gt.pv)
  rw [gsL] at h1
  unfold gsP at h
  refine ⟨by omega, fun g hg => ?_⟩
  have h2 := bulkPs_mem (List.mem_map_of_mem (f := Gt.pv) hg)
  simp only [bulkP] at h
  unfold Gt.pv at h2
  simp only [bulkP, bulkPs] at h2
  unfold Gt.pv at h
  omega

mutual
theorem bulkD_eq {H : Type} : ∀ d : DataW H, bulkD d = Rows.uptoBulk d
  | .lit l => by cases l <;> simp [bulkD, Rows.uptoBulk]
  | .nil => by simp [bulkD, Rows.uptoBulk]
  | .ptr d => by simp [bulkD, Rows.uptoBulk, bulkD_eq d]
  | .slice a b => by simp [bulkD, Rows.uptoBulk, bulkDs_eq a, bulkDs_eq b]
  | .agg a => by simp [bulkD, Rows.uptoBulk, bulkDs_eq a]
  | .iface _ d => by simp [bulkD, Rows.uptoBulk, bulkD_eq d]
  | .map a => by simp [bulkD, Rows.uptoBulk, bulkEs_eq a]
  | .held _ => by simp [bulkD, Rows.uptoBulk]
theorem bulkDs_eq {H : Type} : ∀ d : List (DataW H), bulkDs d = Rows.uptoBulkAll d
  | [] => by simp [bulkDs, Rows.uptoBulkAll]
  | d :: r => by simp [bulkDs, Rows.uptoBulkAll, bulkD_eq d, bulkDs_eq r]
theorem bulkEs_eq {H : Type} : ∀ d : List (Lit × DataW H), bulkEs d = Rows.uptoBulkEntries d
  | [] => by simp [bulkEs, Rows.uptoBulkEntries]
  | d :: r => by simp [bulkEs, Rows.uptoBulkEntries, bulkE_eq d, bulkEs_eq r]
theorem bulkE_eq {H : Type} : ∀ d : Lit × DataW H, bulkE d = Rows.uptoBulkEntry d
  | (l, d) => by cases l <;> simp [bulkE, Rows.uptoBulkEntry, bulkD_eq d]
end

theorem cal (ps : List PV) (h : OpEs Tryz.prog 6 [22, 2, 44] ps) (hb : bulkPs ps ≤ 1048576) : Cal Tryz.prog 6 (ps.map .p) [] fun r _ => r = .p (.bool true) := by
  match ps, h with
  | [v0, v1, v2], ⟨h0, h1, h2, _⟩ =>
    obtain ⟨t, rfl, ht⟩ := op_ints11 h0
    obtain ⟨n, rfl, _⟩ := op_int Tryz.underlying2 h1
    obtain ⟨R, rfl, _⟩ := op_gts h2
    simp only [bulkPs] at hb
    obtain ⟨k1, k2⟩ := gts_bulk (R := R) (N := 1048576) (by omega)
    exact ltells_c t (Nat.le_trans ht (by decide)) n R (by omega) (fun g hg => by have := k2 g hg; omega) [] _ rfl
  | [], h => exact h.elim
  | [_], h => exact h.2.elim
  | [_, _], h => exact h.2.2.elim
  | _ :: _ :: _ :: _ :: _, h => exact h.2.2.2.elim

set_option maxRecDepth 100000 in
theorem lifted (os : Os) (started : os.Started) (H : Type) (enc : TypeId × Value → H) (F : Stop.Interp) :
    ReturnsInHanded {} Tryz.checked os 6 .any ((Rows.OpenSpec.upto Rows.ledgerTellsSpec).pre6 enc Tryz.prog Tryz.f6 Rows.ledgerTellsUptoRow.domain false) (((Rows.OpenSpec.upto Rows.ledgerTellsSpec).at F).post enc Tryz.prog Tryz.f6 false true false false) := by
  refine returnsInHanded_of_cond (C := Tryz.checked) (s := Rows.OpenSpec.upto Rows.ledgerTellsSpec) (k := Rows.uptoSmall) rfl own started (by kernel_rfl) Tryz.func6
    (OpenSpec.witness (enc := enc) (C := Tryz.checked) (s := Rows.OpenSpec.upto Rows.ledgerTellsSpec) (k := Rows.uptoSmall) rfl false ⟨#[], #[.slice none 0 0, .int .i64 0, .slice none 0 0], []⟩ 8 (by kernel_rfl) (by kernel_rfl) (by kernel_rfl)
      (x := ([.nil, .lit (.int .i64 0), .nil], [], [])) (by kernel_rfl) rfl (by kernel_rfl)) ?_
  intro W base args ds gs before hval hW _ hk _
  have hpar : Tryz.f6.params.toList = [22, 2, 44] := by rw [Tryz.params6]
  have hk' : bulkDs (ds ++ gs) ≤ 1048576 := by rw [bulkDs_eq]; exact of_decide_eq_true hk
  refine law_contract (s := Rows.ledgerTellsSpec) (n := 6) (t := 4) laidOut rfl (by kernel_rfl) (by kernel_rfl) rfl Tryz.underlying4 ?_ hval hW tabs ⟨_, _, Tryz.func6, rfl⟩ fun ps h hb => cal ps (by rw [hpar] at h; exact h) (Nat.le_trans hb hk')
  intro ds hd
  rw [hpar] at hd
  match ds, hd with
  | [_, _, _], _ => exact ⟨rfl, rfl, rfl⟩

theorem factsJ : joinedFacts Tryz.checked.prog 6 Tryz.f6 (Rows.OpenSpec.upto Rows.ledgerTellsSpec).bare Rows.ledgerTellsUptoRow = true := by kernel_rfl
theorem LedgerTells_holds : Rows.LedgerTellsUptoSaid :=
  OpenClaim.holds_of_cond 6 Tryz.f6 rfl rfl rfl rfl rfl rfl rfl ⟨rfl, rfl, rfl, rfl, rfl⟩ rfl rfl rfl rfl rfl (by kernel_rfl) Tryz.func6 factsJ
    (of_decide_eq_true (by kernel_rfl)) (by unfold Func.isWrapper; first | (rw [if_pos (by decide +kernel)]; kernel_rfl) | (rw [if_neg (by decide +kernel)]; exact ⟨rfl, rfl⟩))
    (fun os started H enc _ F => lifted os started H enc F)
#print axioms LedgerTells_holds
end Go.Proofs.YtlnelaajlhfabaaGreat.ledgerTells
