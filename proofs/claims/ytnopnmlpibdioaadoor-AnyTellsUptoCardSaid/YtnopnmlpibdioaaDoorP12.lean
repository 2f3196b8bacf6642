/- The given law AnyTells (package bordereaulaw22) returns true, does not panic, and leaves what it was handed as it was, whatever it is called with of bulk at most 1048576; the three listed tables of the library are tied to the program's text by the given tie. Conditions: those of the given card Rows.AnyTellsUptoCardSaid, and no others. -/
import Derived.Test.YtnopnmlpibdioaaDoorP10
import Derived.Test.YtnopnmlpibdioaaDoorP11
import Derived.Test.YtnopnmlpibdioaaDoorCards
import Derived.Test.YtnopnmlpibdioaaDoorTie
import Derived.JoinedCond
import Derived.Deep.DeepHandedRow
namespace Go.Proofs.YtnopnmlpibdioaaDoor.anyTells
open Go.ChangeShapes Go.WideShapes Go.ChangeAt Go.RowKit Go.Proofs.YtnopnmlpibdioaaDoor.AW

theorem own : ownKnob Tryd.prog.godebug = none := by kernel_rfl
theorem laidOut : laidOutB Tryd.prog = true := by kernel_rfl

theorem g0 : Tryd.prog.globalNamed "internal/strconv.uint64pow10" = some 0 := by kernel_rfl
theorem g1 : Tryd.prog.globalNamed "math/bits.deBruijn32tab" = some 1 := by kernel_rfl
theorem g2 : Tryd.prog.globalNamed "math/bits.deBruijn64tab" = some 2 := by kernel_rfl
theorem t0 : (Tryd.prog.globals[0]?).map (·.type) = some 89 := by kernel_rfl
theorem t1 : (Tryd.prog.globals[1]?).map (·.type) = some 98 := by kernel_rfl
theorem t2 : (Tryd.prog.globals[2]?).map (·.type) = some 99 := by kernel_rfl
def z0 : List Int := (List.range 20).map fun i => (10 : Int) ^ i
def z1 : List Int := [0, 1, 28, 2, 29, 14, 24, 3, 30, 22, 20, 15, 25, 17, 4, 8, 31, 27, 13, 23, 21, 19, 16, 7, 26, 12, 18, 6, 11, 5, 10, 9]
def z2 : List Int := [0, 1, 56, 2, 57, 49, 28, 3, 61, 58, 42, 50, 38, 29, 17, 4, 62, 47, 59, 36, 45, 43, 51, 22, 53, 39, 33, 30, 24, 18, 12, 5, 63, 55, 48, 27, 60, 41, 37, 16, 46, 35, 44, 21, 52, 32, 23, 11, 54, 26, 40, 15, 34, 20, 31, 10, 25, 14, 19, 9, 13, 8, 7, 6]
theorem k0 : glob Tryd.prog 0 = some (z0.map (.int .u64)) := by kernel_rfl
theorem k1 : glob Tryd.prog 1 = some (z1.map (.int .u8)) := by kernel_rfl
theorem k2 : glob Tryd.prog 2 = some (z2.map (.int .u8)) := by kernel_rfl
theorem tabs {W : World} (h : laidMetH Tryd.prog Rows.anyTellsUptoRow.laid W) : ∀ i cs, glob Tryd.prog i = some cs → CellsP W (fun _ => False) i 0 cs ∧ i < W.heap.size := by
  have h : laidMet Tryd.prog (("math/bits.deBruijn32tab", Lib.tabData .u8 z1) :: ("math/bits.deBruijn64tab", Lib.tabData .u8 z2) :: ("internal/strconv.uint64pow10", Lib.tabData .u64 z0) :: []) W := h
  have a1 := Lib.tabIs_of_head g1 t1 Tryd.underlying98 Tryd.underlying5 (by kernel_rfl) (by kernel_rfl) h
  have a2 := Lib.tabIs_of_head g2 t2 Tryd.underlying99 Tryd.underlying5 (by kernel_rfl) (by kernel_rfl) (laid_tail h)
  have a0 := Lib.tabIs_of_head g0 t0 Tryd.underlying89 Tryd.underlying81 (by kernel_rfl) (by kernel_rfl) (laid_tail (laid_tail h))
  intro i cs hi
  match i with
  | 0 => rw [k0] at hi; cases hi; exact tab_cells a0 g0 (by decide)
  | 1 => rw [k1] at hi; cases hi; exact tab_cells a1 g1 (by decide)
  | 2 => rw [k2] at hi; cases hi; exact tab_cells a2 g2 (by decide)
  | i + 3 =>
    have hs : Tryd.prog.globals.size = 3 := by kernel_rfl
    rw [glob_none (by rw [hs]; omega)] at hi
    cases hi

theorem i64_in {n : Int} (h : (Lit.int .i64 n).wf = true) : -9223372036854775808 ≤ n ∧ n < 9223372036854775808 := by
  simp only [Lit.wf, Bool.and_eq_true, decide_eq_true_eq] at h
  have e1 : IntKind.i64.min = -9223372036854775808 := by decide
  have e2 : IntKind.i64.max = 9223372036854775807 := by decide
  rw [e1, e2] at h
  omega

theorem i32_in {n : Int} (h : (Lit.int .i32 n).wf = true) : -2147483648 ≤ n ∧ n < 2147483648 := by
  simp only [Lit.wf, Bool.and_eq_true, decide_eq_true_eq] at h
  have e1 : IntKind.i32.min = -2147483648 := by decide
  have e2 : IntKind.i32.max = 2147483647 := by decide
  rw [e1, e2] at h
  omega
theorem op_rec {n : Nat} {v : PV} (h : OpE Tryd.prog (n + 2) 26 v) : ∃ x : List UInt8 × List UInt8, v = rec2 x.1 x.2 ∧ True := by
  obtain ⟨cs, rfl, hf⟩ := op_struct Tryd.underlying26 h
  unfold OpFs at hf
  obtain ⟨x0, r0, rfl, h0, hf⟩ := hf
  unfold OpFs at hf
  obtain ⟨x1, r1, rfl, h1, hf⟩ := hf
  unfold OpFs at hf
  subst hf
  unfold OpT at h0 h1
  simp only [Tryd.underlying9] at h0 h1
  obtain ⟨a, rfl, _⟩ := h0
  obtain ⟨b, rfl, _⟩ := h1
  exact ⟨(a, b), rfl, trivial⟩

theorem sl_ints {n : Nat} {v : PV} (h : OpE Tryd.prog (n + 2) 36 v) : ∃ k ns, v = .sl k 1 (intsP ns) ∧ (k = .nil → ns = []) ∧ (k = .nil ∨ k = .shr) ∧ ns.length < 9223372036854775808 := by
  obtain ⟨k, xs, rfl, h1, h2, h3, h4⟩ := op_slice Tryd.underlying36 h
  obtain ⟨ns, rfl, h5⟩ := map_of (f := .int .i64) (q := fun m => (Lit.int .i64 m).wf = true) fun x hx => op_int Tryd.underlying3 (h4 x hx)
  exact ⟨k, ns, rfl, fun hk => List.map_eq_nil_iff.1 (h1 hk), h2, by simp [maxLen] at h3; omega⟩

mutual
theorem bulkD_eq {H : Type} : ∀ d : DataW H, bulkD d = Rows.uptoBulk d
  | .lit l => by cases l <;> simp [bulkD, Rows.uptoBulk]
  | .nil => by simp [bulkD, Rows.uptoBulk]
  | .ptr d => by simp [bulkD, Rows.uptoBulk, bulkD_eq d]
  | .slice a b => by simp [bulkD, Rows.uptoBulk, bulkDs_eq a, bulkDs_eq b]
  | .agg a => by simp [bulkD, Rows.uptoBulk, bulkDs_eq a]
  | .iface _ d => by simp [bulkD, Rows.uptoBulk, bulkD_eq d]
  | .map a => by simp [bulkD, Rows.uptoBulk, bulkEs_eq a]
  | .held _ => by simp [bulkD, Rows.uptoBulk]
theorem bulkDs_eq {H : Type} : ∀ d : List (DataW H), bulkDs d = Rows.uptoBulkAll d
  | [] => by simp [bulkDs, Rows.uptoBulkAll]
  | d :: r => by simp [bulkDs, Rows.uptoBulkAll, bulkD_eq d, bulkDs_eq r]
theorem bulkEs_eq {H : Type} : ∀ d : List (Lit × DataW H), bulkEs d = Rows.uptoBulkEntries d
  | [] => by simp [bulkEs, Rows.uptoBulkEntries]
  | d :: r => by simp [bulkEs, Rows.uptoBulkEntries, bulkE_eq d, bulkEs_eq r]
theorem bulkE_eq {H : Type} : ∀ d : Lit × DataW H, bulkE d = Rows.uptoBulkEntry d
  | (l, d) => by cases l <;> simp [bulkE, Rows.uptoBulkEntry, bulkD_eq d]
end

theorem cal (ps : List PV) (h : OpEs Tryd.prog 4 [36, 9, 9, 2, 21, 4, 28] ps) (hb : bulkPs ps ≤ 1048576) : Cal Tryd.prog 4 (ps.map .p) [] fun r _ => r = .p (.bool true) := by
  match ps, h with
  | [v0, v1, v2, v3, v4, v5, v6], ⟨h0, h1, h2, h3, h4, h5, h6, _⟩ =>
    obtain ⟨kt, t, rfl, a1, _, a3⟩ := sl_ints h0
    obtain ⟨s, rfl, _⟩ := op_str Tryd.underlying9 h1
    obtain ⟨v, rfl, _⟩ := op_str Tryd.underlying9 h2
    obtain ⟨n, rfl, hn⟩ := op_int Tryd.underlying2 h3
    obtain ⟨r, rfl, hr⟩ := op_int Tryd.underlying21 h4
    obtain ⟨b, rfl⟩ := op_bool Tryd.underlying4 h5
    obtain ⟨k, xs, rfl, d1, d2, _, d4⟩ := op_slice Tryd.underlying28 h6
    obtain ⟨l, rfl, _⟩ := map_of (f := fun x : List UInt8 × List UInt8 => rec2 x.1 x.2) (q := fun _ => True) fun x hx => op_rec (d4 x hx)
    obtain ⟨n1, n2⟩ := i64_in hn
    obtain ⟨r1, r2⟩ := i32_in hr
    simp only [bulkPs, bulkP] at hb
    have e26 : Tryd.prog.cellsOf 26 = 2 := by kernel_rfl
    have hk : (k = .nil ∧ l = []) ∨ (k ≠ .nil ∧ Tryd.prog.cellsOf 26 = 2) := by
      rcases d2 with rfl | rfl
      · exact .inl ⟨rfl, by simpa using d1 rfl⟩
      · exact .inr ⟨by decide, e26⟩
    exact tells_c kt t s v n r b k (Tryd.prog.cellsOf 26) l a1 a3 (by omega) (by omega) n1 n2 r1 r2 hk [] _ rfl
  | [], h => exact h.elim
  | [_], h => exact h.2.elim
  | [_, _], h => exact h.2.2.elim
  | [_, _, _], h => exact h.2.2.2.elim
  | [_, _, _, _], h => exact h.2.2.2.2.elim
  | [_, _, _, _, _], h => exact h.2.2.2.2.2.elim
  | [_, _, _, _, _, _], h => exact h.2.2.2.2.2.2.elim
  | _ :: _ :: _ :: _ :: _ :: _ :: _ :: _ :: _, h => exact h.2.2.2.2.2.2.2.elim

/-- A world for the witness. -/
noncomputable def laidWorld (os : Os) : World :=
  { World.holding Tryd.prog os ⟨#[], #[], []⟩ with heap := ((((World.holding Tryd.prog os ⟨#[], #[], []⟩).heap.modify 0 fun
      | .cells _ t frozen => .cells (z0.map (Value.int .u64)).toArray t frozen
      | o => o).modify 1 fun
      | .cells _ t frozen => .cells (z1.map (Value.int .u8)).toArray t frozen
      | o => o).modify 2 fun
      | .cells _ t frozen => .cells (z2.map (Value.int .u8)).toArray t frozen
      | o => o) }
theorem laid_met (os : Os) : laidMet Tryd.prog Rows.anyTellsUptoRow.laid ((laidWorld os).forCall (fun _ _ => 0) ⟨#[], #[.slice none 0 0, .string .empty, .string .empty, .int .i64 0, .int .i32 0, .bool false, .slice none 0 0], []⟩).memory :=
  laidMet_of_run' 8 (by kernel_rfl) (by kernel_rfl)
theorem reads (os : Os) {H : Type} (enc : TypeId × Value → H) : ∃ places, DataW.whole enc Tryd.prog ((laidWorld os).forCall (fun _ _ => 0) ⟨#[], #[.slice none 0 0, .string .empty, .string .empty, .int .i64 0, .int .i32 0, .bool false, .slice none 0 0], []⟩).memory Tryd.f4.params.toList Rows.anyTellsSpec.vars false (#[.slice none 0 0, .string .empty, .string .empty, .int .i64 0, .int .i32 0, .bool false, .slice none 0 0] : Array Value).toList 8 = some ([.nil, .lit (.string []), .lit (.string []), .lit (.int .i64 0), .lit (.int .i32 0), .lit (.bool false), .nil], [], places) :=
  ⟨[], by kernel_rfl⟩

set_option maxRecDepth 100000 in
theorem lifted (os : Os) (started : os.Started) (H : Type) (enc : TypeId × Value → H) (F : Stop.Interp) :
    ReturnsInHanded {} Tryd.checked os 4 .any ((Rows.OpenSpec.upto Rows.anyTellsSpec).preRow enc Tryd.prog Tryd.f4 Rows.anyTellsUptoRow.domain false Rows.anyTellsUptoRow.laid) (((Rows.OpenSpec.upto Rows.anyTellsSpec).at F).post enc Tryd.prog Tryd.f4 false true false false) := by
  obtain ⟨places, hx⟩ := reads os enc
  refine returnsInHanded_of_row (C := Tryd.checked) (s := Rows.OpenSpec.upto Rows.anyTellsSpec) own started (by kernel_rfl) Tryd.func4
    (witness_row_at (enc := enc) (C := Tryd.checked) false (laidWorld os) #[.slice none 0 0, .string .empty, .string .empty, .int .i64 0, .int .i32 0, .bool false, .slice none 0 0] rfl (by kernel_rfl) (by kernel_rfl) (by kernel_rfl)
      (OpenSpec.preRow_of_cond 8 hx (by kernel_rfl) (fun k hk => by cases hk; kernel_rfl) (by kernel_rfl) (laid_met os))) ?_
  intro W base args ds gs before hval hW _ hcond _ hL _ _
  have hpar : Tryd.f4.params.toList = [36, 9, 9, 2, 21, 4, 28] := by rw [Tryd.params4]
  have hk' : bulkDs (ds ++ gs) ≤ 1048576 := by rw [bulkDs_eq]; exact of_decide_eq_true (hcond _ rfl)
  refine law_contract (s := Rows.anyTellsSpec) (n := 4) (t := 4) laidOut rfl (by kernel_rfl) (by kernel_rfl) rfl Tryd.underlying4 ?_ hval hW (tabs hL) ⟨_, _, Tryd.func4, rfl⟩ fun ps h hb => cal ps (by rw [hpar] at h; exact h) (Nat.le_trans hb hk')
  intro ds hd
  rw [hpar] at hd
  match ds, hd with
  | [_, _, _, _, _, _, _], _ => exact ⟨rfl, rfl, rfl⟩

theorem said : Rows.AnyTellsUptoSaid :=
  OpenClaim.holds_of_cond 4 Tryd.f4 rfl rfl rfl rfl rfl rfl rfl ⟨rfl, rfl, rfl, rfl, rfl⟩ rfl rfl rfl rfl rfl (by kernel_rfl) Tryd.func4 (by kernel_rfl)
    (of_decide_eq_true (by kernel_rfl)) (by unfold Func.isWrapper; first | (rw [if_pos (by decide +kernel)]; kernel_rfl) | (rw [if_neg (by decide +kernel)]; exact ⟨rfl, rfl⟩))
    (fun os started H enc _ F => by rw [OpenClaim.pre_eq_preRow]; exact lifted os started H enc F)

theorem plain (f : FuncId) (fn : Func) (hf : Tryd.pinned.checked.prog.funcNamed "bordereau/bordereaulaw22.AnyTells" = some f) (hfn : Tryd.pinned.checked.prog.funcs[f]? = some fn) :
    true = Tryd.pinned.checked.prog.looks [] ∧ ∀ (j : Nat) t, fn.params[j]? = some t → Tryd.pinned.checked.prog.wantsStandIn t = false := by
  obtain rfl : f = 4 := Option.some.inj ((show Tryd.prog.funcNamed "bordereau/bordereaulaw22.AnyTells" = some 4 by kernel_rfl).symm.trans hf) |>.symm
  obtain rfl : fn = Tryd.f4 := (Option.some.inj (Tryd.func4.symm.trans hfn)).symm
  refine ⟨by kernel_rfl, fun j t ht => ?_⟩
  have hall : (Tryd.f4.params.toList.all fun t => !Tryd.prog.wantsStandIn t) = true := by kernel_rfl
  have hm : t ∈ Tryd.f4.params.toList := by simpa using Array.mem_of_getElem? ht
  have := List.all_eq_true.1 hall t hm
  show Tryd.prog.wantsStandIn t = false
  simpa using this

theorem AnyTells_holds : Rows.AnyTellsUptoCardSaid :=
  Claim7.holds_tied_plain_at .later [] _ _ _ _ said (fun _ h => by cases h) (by kernel_rfl) (fun _ h => by cases h) anyTellsUpto_row_tie rfl ⟨rfl, rfl⟩ (by kernel_rfl) rfl plain (by kernel_rfl)
#print axioms AnyTells_holds
end Go.Proofs.YtnopnmlpibdioaaDoor.anyTells
