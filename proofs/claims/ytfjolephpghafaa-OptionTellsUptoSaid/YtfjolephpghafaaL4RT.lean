/- The given law OptionTells (package bordereaulaw4) returns true, does not panic, and leaves what it was handed as it was, whatever it is called with of bulk at most 1048576. Conditions: those of the given sentence Rows.OptionTellsUptoSaid, and no others. -/
import Derived.Test.YtfjolephpghafaaL4Y
import Derived.Test.YtfjolephpghafaaAwArgs
import Derived.Test.YtfjolephpghafaaRows
import Derived.JoinedCond
namespace Go.Proofs.Ytfjolephpghafaa.optionTells
open Go.ChangeShapes Go.WideShapes Go.ChangeAt Go.RowKit Go.Proofs.Ytfjolephpghafaa.AW

theorem own : ownKnob Try.prog.godebug = none := by kernel_rfl
theorem laidOut : laidOutB Try.prog = true := by kernel_rfl

mutual
theorem bulkD_eq {H : Type} : ∀ d : DataW H, bulkD d = Rows.uptoBulk d
  | .lit l => by cases l <;> simp [bulkD, Rows.uptoBulk]
  | .nil => by simp [bulkD, Rows.uptoBulk]
  | .ptr d => by simp [bulkD, Rows.uptoBulk, bulkD_eq d]
  | .slice a b => by simp [bulkD, Rows.uptoBulk, bulkDs_eq a, bulkDs_eq b]
  | .agg a => by simp [bulkD, Rows.uptoBulk, bulkDs_eq a]
  | .iface _ d => by simp [bulkD, Rows.uptoBulk, bulkD_eq d]
  | .map a => by simp [bulkD, Rows.uptoBulk, bulkEs_eq a]
  | .held _ => by simp [bulkD, Rows.uptoBulk]
theorem bulkDs_eq {H : Type} : ∀ d : List (DataW H), bulkDs d = Rows.uptoBulkAll d
  | [] => by simp [bulkDs, Rows.uptoBulkAll]
  | d :: r => by simp [bulkDs, Rows.uptoBulkAll, bulkD_eq d, bulkDs_eq r]
theorem bulkEs_eq {H : Type} : ∀ d : List (Lit × DataW H), bulkEs d = Rows.uptoBulkEntries d
  | [] => by simp [bulkEs, Rows.uptoBulkEntries]
  | d :: r => by simp [bulkEs, Rows.uptoBulkEntries, bulkE_eq d, bulkEs_eq r]
theorem bulkE_eq {H : Type} : ∀ d : Lit × DataW H, bulkE d = Rows.uptoBulkEntry d
  | (l, d) => by cases l <;> simp [bulkE, Rows.uptoBulkEntry, bulkD_eq d]
end

/-- A Config is four numbers. -/
theorem op_cfg {n : Nat} {v : PV} (h : OpE Try.prog (n + 2) 27 v) : ∃ c : C4, v = c.pv ∧ True := by
  obtain ⟨cs, rfl, hf⟩ := op_struct Try.underlying27 h
  unfold OpFs at hf
  obtain ⟨x0, r0, rfl, h0, hf⟩ := hf
  unfold OpFs at hf
  obtain ⟨x1, r1, rfl, h1, hf⟩ := hf
  unfold OpFs at hf
  obtain ⟨x2, r2, rfl, h2, hf⟩ := hf
  unfold OpFs at hf
  obtain ⟨x3, r3, rfl, h3, hf⟩ := hf
  unfold OpFs at hf
  subst hf
  unfold OpT at h0 h1 h2 h3
  simp only [Try.underlying3] at h0 h1 h2 h3
  obtain ⟨a, rfl, _⟩ := h0
  obtain ⟨b, rfl, _⟩ := h1
  obtain ⟨c, rfl, _⟩ := h2
  obtain ⟨d, rfl, _⟩ := h3
  exact ⟨⟨a, b, c, d⟩, rfl, trivial⟩

theorem cal (ps : List PV) (h : OpEs Try.prog 4 [2, 21, 9, 4, 28, 22, 23, 33] ps) (hb : bulkPs ps ≤ 1048576) : Cal Try.prog 4 (ps.map .p) [] fun r _ => r = .p (.bool true) := by
  match ps, h with
  | [v0, v1, v2, v3, v4, v5, v6, v7], ⟨h0, h1, h2, h3, h4, h5, h6, h7, _⟩ =>
    obtain ⟨n, rfl, _⟩ := op_int Try.underlying2 h0
    obtain ⟨r, rfl, _⟩ := op_int Try.underlying21 h1
    obtain ⟨l, rfl, _⟩ := op_str Try.underlying9 h2
    obtain ⟨b, rfl⟩ := op_bool Try.underlying4 h3
    obtain ⟨kf, xs, rfl, _, _, _, h4'⟩ := op_slice Try.underlying28 h4
    obtain ⟨fs, rfl, _⟩ := map_of (f := C4.pv) (q := fun _ => True) fun x hx => op_cfg (h4' x hx)
    obtain ⟨kn, names, rfl, _, _⟩ := op_strs Try.underlying22 Try.underlying9 h5
    obtain ⟨ks, ns, rfl, _, _⟩ := op_ints Try.underlying23 Try.underlying2 h6
    obtain ⟨kw, ws, rfl, _, _⟩ := op_ints Try.underlying33 Try.underlying3 h7
    simp only [bulkPs] at hb
    have b5 := bulk_sl (k := kn) (sz := Try.prog.cellsOf 9) (xs := names.map .str)
    have b6 := bulk_sl (k := ks) (sz := Try.prog.cellsOf 2) (xs := ns.map (.int .i64))
    have b7 := bulk_sl (k := kw) (sz := Try.prog.cellsOf 3) (xs := ws.map (.int .i64))
    have hl : ∀ l, l ∈ names → l.length < 1099511627776 := by
      intro l hl
      have b8 := bulkPs_mem (List.mem_map_of_mem (f := PV.str) hl)
      have b9 : bulkP (.sl kn (Try.prog.cellsOf 9) (names.map .str)) = bulkPs (names.map .str) + 1 := by simp only [bulkP]
      simp only [bulkP] at b8
      omega
    simp only [List.length_map] at b6 b7
    exact tells_c n r l b kf kn ks kw _ _ _ _ fs names ns ws hl (fun _ => by kernel_rfl) (fun _ => by kernel_rfl) (fun _ => by kernel_rfl) (fun _ => by kernel_rfl) (by omega) (by omega) [] _ rfl
  | [], h => exact h.elim
  | [_], h => exact h.2.elim
  | [_, _], h => exact h.2.2.elim
  | [_, _, _], h => exact h.2.2.2.elim
  | [_, _, _, _], h => exact h.2.2.2.2.elim
  | [_, _, _, _, _], h => exact h.2.2.2.2.2.elim
  | [_, _, _, _, _, _], h => exact h.2.2.2.2.2.2.elim
  | [_, _, _, _, _, _, _], h => exact h.2.2.2.2.2.2.2.elim
  | _ :: _ :: _ :: _ :: _ :: _ :: _ :: _ :: _ :: _, h => exact h.2.2.2.2.2.2.2.2.elim

set_option maxRecDepth 100000 in
theorem lifted (os : Os) (started : os.Started) (H : Type) (enc : TypeId × Value → H) (F : Stop.Interp) :
    ReturnsInHanded {} Try.checked os 4 .any ((Rows.OpenSpec.upto Rows.optionTellsSpec).pre6 enc Try.prog Try.f4 Rows.optionTellsUptoRow.domain false) (((Rows.OpenSpec.upto Rows.optionTellsSpec).at F).post enc Try.prog Try.f4 false true false false) := by
  refine returnsInHanded_of_cond (C := Try.checked) (s := Rows.OpenSpec.upto Rows.optionTellsSpec) (k := Rows.uptoSmall) rfl own started (by kernel_rfl) Try.func4
    (OpenSpec.witness (enc := enc) (C := Try.checked) (s := Rows.OpenSpec.upto Rows.optionTellsSpec) (k := Rows.uptoSmall) rfl false ⟨#[], #[.int .i64 0, .int .i32 0, .string .empty, .bool false, .slice none 0 0, .slice none 0 0, .slice none 0 0, .slice none 0 0], []⟩ 8 (by kernel_rfl) (by kernel_rfl) (by kernel_rfl)
      (x := ([.lit (.int .i64 0), .lit (.int .i32 0), .lit (.string []), .lit (.bool false), .nil, .nil, .nil, .nil], [], [])) (by kernel_rfl) rfl (by kernel_rfl)) ?_
  intro W base args ds gs before hval hW _ hk _
  have hpar : Try.f4.params.toList = [2, 21, 9, 4, 28, 22, 23, 33] := by rw [Try.params4]
  have hk' : bulkDs (ds ++ gs) ≤ 1048576 := by rw [bulkDs_eq]; exact of_decide_eq_true hk
  refine law_contract (s := Rows.optionTellsSpec) (n := 4) (t := 4) laidOut rfl (by kernel_rfl) (by kernel_rfl) rfl Try.underlying4 ?_ hval hW fun ps h hb => cal ps (by rw [hpar] at h; exact h) (Nat.le_trans hb hk')
  intro ds hd
  rw [hpar] at hd
  match ds, hd with
  | [_, _, _, _, _, _, _, _], _ => exact ⟨rfl, rfl, rfl⟩

theorem OptionTells_holds : Rows.OptionTellsUptoSaid :=
  OpenClaim.holds_of_cond 4 Try.f4 rfl rfl rfl rfl rfl rfl rfl ⟨rfl, rfl, rfl, rfl, rfl⟩ rfl rfl rfl rfl rfl (by kernel_rfl) Try.func4 (by kernel_rfl)
    (of_decide_eq_true (by kernel_rfl)) (by unfold Func.isWrapper; first | (rw [if_pos (by decide +kernel)]; kernel_rfl) | (rw [if_neg (by decide +kernel)]; exact ⟨rfl, rfl⟩))
    (fun os started H enc _ F => lifted os started H enc F)
#print axioms OptionTells_holds
end Go.Proofs.Ytfjolephpghafaa.optionTells
