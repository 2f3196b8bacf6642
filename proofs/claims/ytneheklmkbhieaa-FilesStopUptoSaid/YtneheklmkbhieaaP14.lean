/- The given law FilesStop (package bordereaulaw7) returns true, does not panic, and leaves what it was handed as it was, whatever it is called with of bulk at most 1048576. Conditions: those of the given sentence Rows.FilesStopUptoSaid, and no others. -/
import Derived.Test.YtneheklmkbhieaaP12
import Derived.Test.YtneheklmkbhieaaP13
import Derived.Test.YtneheklmkbhieaaRows
import Derived.JoinedCond
namespace Go.Proofs.Ytneheklmkbhieaa.filesStop
open Go.ChangeShapes Go.WideShapes Go.ChangeAt Go.RowKit Go.Proofs.Ytneheklmkbhieaa.AW

theorem own : ownKnob Try.prog.godebug = none := by kernel_rfl
theorem laidOut : laidOutB Try.prog = true := by kernel_rfl
theorem tabs {W : World} : ∀ i cs, glob Try.prog i = some cs → CellsP W (fun _ => False) i 0 cs ∧ i < W.heap.size := by
  intro i cs hi
  have hs : Try.prog.globals.size = 0 := by kernel_rfl
  rw [glob_none (by rw [hs]; omega)] at hi
  cases hi
theorem u8_in {n : Int} (h : (Lit.int .u8 n).wf = true) : 0 ≤ n ∧ n < 256 := by
  simp only [Lit.wf, Bool.and_eq_true, decide_eq_true_eq] at h
  have e1 : IntKind.u8.min = 0 := by decide
  have e2 : IntKind.u8.max = 255 := by decide
  rw [e1, e2] at h
  omega
theorem u8_of {n : Int} (h : (Lit.int .u8 n).wf = true) : ∃ g : UInt8, n = (g.toNat : Int) := by
  obtain ⟨h1, h2⟩ := u8_in h
  refine ⟨UInt8.ofNat n.toNat, ?_⟩
  rw [UInt8.toNat_ofNat']
  omega
theorem op_byte7 {n : Nat} {v : PV} (h : OpE Try.prog (n + 1) 5 v) : ∃ g : UInt8, v = .int .u8 g.toNat := by
  obtain ⟨m, rfl, hm⟩ := op_int Try.underlying5 h
  obtain ⟨g, rfl⟩ := u8_of hm
  exact ⟨g, rfl⟩
theorem op_bytes7 {n : Nat} {v : PV} (h : OpE Try.prog (n + 2) 22 v) : ∃ a : List UInt8, v = bsl a ∧ a.length ≤ maxLen := by
  obtain ⟨xs, rfl, h1, h2⟩ := op_slice Try.underlying22 h
  obtain ⟨a, rfl, _⟩ := map_of (f := fun g : UInt8 => PV.int .u8 g.toNat) (q := fun _ => True) fun x hx => by
    obtain ⟨g, rfl⟩ := op_byte7 (h2 x hx)
    exact ⟨g, rfl, trivial⟩
  have hc : Try.prog.cellsOf 5 = 1 := by kernel_rfl
  rw [hc]
  exact ⟨a, rfl, by simpa using h1⟩
theorem bulk_bytes7 (a : List UInt8) : a.length ≤ bulkP (bsl a) := by
  have := bulk_sl (k := .shr) (sz := 1) (xs := bytesP a)
  rw [bytesP_len] at this
  exact Nat.le_of_succ_le this
mutual
theorem bulkD_eq {H : Type} : ∀ d : DataW H, bulkD d = Rows.uptoBulk d
  | .lit l => by cases l <;> simp [bulkD, Rows.uptoBulk]
  | .nil => by simp [bulkD, Rows.uptoBulk]
  | .ptr d => by simp [bulkD, Rows.uptoBulk, bulkD_eq d]
  | .slice a b => by simp [bulkD, Rows.uptoBulk, bulkDs_eq a, bulkDs_eq b]
  | .agg a => by simp [bulkD, Rows.uptoBulk, bulkDs_eq a]
  | .iface _ d => by simp [bulkD, Rows.uptoBulk, bulkD_eq d]
  | .map a => by simp [bulkD, Rows.uptoBulk, bulkEs_eq a]
  | .held _ => by simp [bulkD, Rows.uptoBulk]
theorem bulkDs_eq {H : Type} : ∀ d : List (DataW H), bulkDs d = Rows.uptoBulkAll d
  | [] => by simp [bulkDs, Rows.uptoBulkAll]
  | d :: r => by simp [bulkDs, Rows.uptoBulkAll, bulkD_eq d, bulkDs_eq r]
theorem bulkEs_eq {H : Type} : ∀ d : List (Lit × DataW H), bulkEs d = Rows.uptoBulkEntries d
  | [] => by simp [bulkEs, Rows.uptoBulkEntries]
  | d :: r => by simp [bulkEs, Rows.uptoBulkEntries, bulkE_eq d, bulkEs_eq r]
theorem bulkE_eq {H : Type} : ∀ d : Lit × DataW H, bulkE d = Rows.uptoBulkEntry d
  | (l, d) => by cases l <;> simp [bulkE, Rows.uptoBulkEntry, bulkD_eq d]
end
theorem kl_of {n : Nat} {v : PV} (h : OpE Try.prog (n + 2) 29 v) : ∃ ks : List Int, v = kl ks := by
  obtain ⟨ns, rfl, _⟩ := op_ints Try.underlying29 Try.underlying2 h
  have hc : Try.prog.cellsOf 2 = 1 := by kernel_rfl
  rw [hc]
  exact ⟨ns, rfl⟩
theorem fld22 {n : Nat} {a : List PV} (h : OpT Try.prog (n + 2) 22 a) : ∃ b : List UInt8, a = [bsl b] := by
  have h0 := h
  unfold OpT at h0
  simp only [Try.underlying22] at h0
  obtain ⟨xs, rfl, _, _⟩ := h0
  obtain ⟨b, hb, _⟩ := op_bytes7 (n := n) (v := .sl .shr (Try.prog.cellsOf 5) xs) (by
    unfold OpE
    rw [noStruct Try.underlying22 (by simp)]
    exact h)
  exact ⟨b, by rw [hb]⟩
theorem fld29 {n : Nat} {a : List PV} (h : OpT Try.prog (n + 2) 29 a) : ∃ b : List Int, a = [kl b] := by
  have h0 := h
  unfold OpT at h0
  simp only [Try.underlying29] at h0
  obtain ⟨xs, rfl, _, _⟩ := h0
  obtain ⟨b, hb⟩ := kl_of (n := n) (v := .sl .shr (Try.prog.cellsOf 2) xs) (by
    unfold OpE
    rw [noStruct Try.underlying29 (by simp)]
    exact h)
  exact ⟨b, by rw [hb]⟩
theorem op_op7 {n : Nat} {v : PV} (h : OpE Try.prog (n + 3) 44 v) : ∃ o : Op7, v = o.pv ∧ True := by
  obtain ⟨cs, rfl, hf⟩ := op_struct Try.underlying44 h
  unfold OpFs at hf
  obtain ⟨x0, r0, rfl, h0, hf⟩ := hf
  unfold OpFs at hf
  obtain ⟨x1, r1, rfl, h1, hf⟩ := hf
  unfold OpFs at hf
  obtain ⟨x2, r2, rfl, h2, hf⟩ := hf
  unfold OpFs at hf
  obtain ⟨x3, r3, rfl, h3, hf⟩ := hf
  unfold OpFs at hf
  obtain ⟨x4, r4, rfl, h4, hf⟩ := hf
  unfold OpFs at hf
  obtain ⟨x5, r5, rfl, h5, hf⟩ := hf
  unfold OpFs at hf
  obtain ⟨x6, r6, rfl, h6, hf⟩ := hf
  unfold OpFs at hf
  subst hf
  obtain ⟨p, rfl⟩ := fld22 h4
  obtain ⟨ks, rfl⟩ := fld29 h5
  obtain ⟨g, rfl⟩ := fld22 h6
  unfold OpT at h0 h1 h2 h3
  simp only [Try.underlying3, Try.underlying2] at h0 h1 h2 h3
  obtain ⟨k, rfl, _⟩ := h0
  obtain ⟨a, rfl, _⟩ := h1
  obtain ⟨b, rfl, _⟩ := h2
  obtain ⟨m, rfl, _⟩ := h3
  exact ⟨⟨k, a, b, m, p, ks, g⟩, rfl, trivial⟩
theorem op_ops7 {n : Nat} {v : PV} (h : OpE Try.prog (n + 4) 40 v) : ∃ ops : List Op7, v = opsP ops ∧ True := by
  obtain ⟨xs, rfl, h1, h2⟩ := op_slice Try.underlying40 h
  obtain ⟨ops, rfl, _⟩ := map_of (f := Op7.pv) (q := fun _ => True) fun x hx => op_op7 (h2 x hx)
  have hc : Try.prog.cellsOf 44 = 7 := by kernel_rfl
  rw [hc]
  exact ⟨ops, rfl, trivial⟩
theorem bulk_ops7 {ops : List Op7} (h : bulkP (opsP ops) ≤ 1048576) : ∀ o, o ∈ ops → o.p.length ≤ 1048576 := by
  intro o ho
  have h1 := bulkPs_mem (List.mem_map_of_mem (f := Op7.pv) ho)
  have h2 : bulkP (opsP ops) = bulkPs (ops.map Op7.pv) + 1 := by unfold opsP; simp only [bulkP]
  have h3 : bulkP o.pv = bulkPs [ii o.k, ii o.a, ii o.b, ii o.n, bsl o.p, kl o.ks, bsl o.g] + 1 := by unfold Op7.pv; simp only [bulkP]
  have h4 : bulkP (bsl o.p) ≤ bulkPs [ii o.k, ii o.a, ii o.b, ii o.n, bsl o.p, kl o.ks, bsl o.g] := bulkPs_mem (by simp)
  have h5 := bulk_bytes7 o.p
  omega


theorem cal (ps : List PV) (h : OpEs Try.prog 6 [40, 3] ps) (hb : bulkPs ps ≤ 1048576) : Cal Try.prog 5 (ps.map .p) [] fun r _ => r = .p (.bool true) := by
  match ps, h with
  | [v0, v1], ⟨h0, h1, _⟩ =>
    obtain ⟨ops, rfl, _⟩ := op_ops7 h0
    obtain ⟨n, rfl, hn⟩ := op_int Try.underlying3 h1
    simp only [bulkPs] at hb
    have hl := bulk_ops7 (ops := ops) (by omega)
    exact filesStop_c ops n hl _ fun _ => rfl
  | [], h => exact h.elim
  | [_], h => exact h.2.elim
  | _ :: _ :: _ :: _, h => exact h.2.2.elim


set_option maxRecDepth 100000 in
theorem lifted (os : Os) (started : os.Started) (H : Type) (enc : TypeId × Value → H) (F : Stop.Interp) :
    ReturnsInHanded {} Try.checked os 5 .any ((Rows.OpenSpec.upto Rows.filesStopSpec).pre6 enc Try.prog Try.f5 Rows.filesStopUptoRow.domain false) (((Rows.OpenSpec.upto Rows.filesStopSpec).at F).post enc Try.prog Try.f5 false true false false) := by
  refine returnsInHanded_of_cond (C := Try.checked) (s := Rows.OpenSpec.upto Rows.filesStopSpec) (k := Rows.uptoSmall) rfl own started (by kernel_rfl) Try.func5
    (OpenSpec.witness (enc := enc) (C := Try.checked) (s := Rows.OpenSpec.upto Rows.filesStopSpec) (k := Rows.uptoSmall) rfl false ⟨#[], #[.slice none 0 0, .int .i64 0], []⟩ 8 (by kernel_rfl) (by kernel_rfl) (by kernel_rfl)
      (x := ([.nil, .lit (.int .i64 0)], [], [])) (by kernel_rfl) rfl (by kernel_rfl)) ?_
  intro W base args ds gs before hval hW _ hk _
  have hpar : Try.f5.params.toList = [40, 3] := by rw [Try.params5]
  have hk' : bulkDs (ds ++ gs) ≤ 1048576 := by rw [bulkDs_eq]; exact of_decide_eq_true hk
  refine law_contract (s := Rows.filesStopSpec) (n := 6) (t := 4) laidOut rfl (by kernel_rfl) (by kernel_rfl) rfl Try.underlying4 ?_ hval hW tabs ⟨_, _, Try.func5, rfl⟩ fun ps h hb => cal ps (by rw [hpar] at h; exact h) (Nat.le_trans hb hk')
  intro ds hd
  rw [hpar] at hd
  match ds, hd with
  | [_, _], _ => exact ⟨rfl, rfl, rfl⟩

theorem FilesStop_holds : Rows.FilesStopUptoSaid :=
  OpenClaim.holds_of_cond 5 Try.f5 rfl rfl rfl rfl rfl rfl rfl ⟨rfl, rfl, rfl, rfl, rfl⟩ rfl rfl rfl rfl rfl (by kernel_rfl) Try.func5 (by kernel_rfl)
    (of_decide_eq_true (by kernel_rfl)) (by unfold Func.isWrapper; first | (rw [if_pos (by decide +kernel)]; kernel_rfl) | (rw [if_neg (by decide +kernel)]; exact ⟨rfl, rfl⟩))
    (fun os started H enc _ F => lifted os started H enc F)
#print axioms FilesStop_holds
end Go.Proofs.Ytneheklmkbhieaa.filesStop
