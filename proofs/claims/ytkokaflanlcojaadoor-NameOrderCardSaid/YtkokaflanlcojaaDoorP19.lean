/- The given law NameOrder (package bordereaulaw3) returns true, does not panic, and leaves what it was handed as it was, whatever it is called with; the listed tables and error values of the library are tied to the program's text by the given tie. Conditions: those of the given card Rows.NameOrderCardSaid, and no others. -/
import Derived.Test.YtkokaflanlcojaaDoorP17
import Derived.Test.YtkokaflanlcojaaDoorP18
import Derived.Test.YtkokaflanlcojaaDoorCards
import Derived.Test.YtkokaflanlcojaaDoorTie
import Derived.JoinedCond
import Derived.Deep.DeepHandedRow
import Derived.Stop.LaidErr
namespace Go.Proofs.YtkokaflanlcojaaDoor.nameOrder
open Go.ChangeShapes Go.WideShapes Go.ChangeAt Go.RowKit Go.Proofs.YtkokaflanlcojaaDoor.AW

theorem own : ownKnob Tryd.prog.godebug = none := by kernel_rfl
theorem laidOut : laidOutB Tryd.prog = true := by kernel_rfl

theorem g0 : Tryd.prog.globalNamed "internal/strconv.uint64pow10" = some 1 := by kernel_rfl
theorem g1 : Tryd.prog.globalNamed "math/bits.deBruijn32tab" = some 4 := by kernel_rfl
theorem g2 : Tryd.prog.globalNamed "math/bits.deBruijn64tab" = some 5 := by kernel_rfl
theorem t0 : (Tryd.prog.globals[1]?).map (·.type) = some 114 := by kernel_rfl
theorem t1 : (Tryd.prog.globals[4]?).map (·.type) = some 128 := by kernel_rfl
theorem t2 : (Tryd.prog.globals[5]?).map (·.type) = some 129 := by kernel_rfl
def z0 : List Int := (List.range 20).map fun i => (10 : Int) ^ i
def z1 : List Int := [0, 1, 28, 2, 29, 14, 24, 3, 30, 22, 20, 15, 25, 17, 4, 8, 31, 27, 13, 23, 21, 19, 16, 7, 26, 12, 18, 6, 11, 5, 10, 9]
def z2 : List Int := [0, 1, 56, 2, 57, 49, 28, 3, 61, 58, 42, 50, 38, 29, 17, 4, 62, 47, 59, 36, 45, 43, 51, 22, 53, 39, 33, 30, 24, 18, 12, 5, 63, 55, 48, 27, 60, 41, 37, 16, 46, 35, 44, 21, 52, 32, 23, 11, 54, 26, 40, 15, 34, 20, 31, 10, 25, 14, 19, 9, 13, 8, 7, 6]
theorem k0 : glob Tryd.prog 1 = some (z0.map (.int .u64)) := by kernel_rfl
theorem k1 : glob Tryd.prog 4 = some (z1.map (.int .u8)) := by kernel_rfl
theorem k2 : glob Tryd.prog 5 = some (z2.map (.int .u8)) := by kernel_rfl
theorem g3 : Tryd.prog.globalNamed "strconv.ErrRange" = some 3 := by kernel_rfl
theorem g4 : Tryd.prog.globalNamed "strconv.ErrSyntax" = some 2 := by kernel_rfl
theorem t3 : (Tryd.prog.globals[3]?).map (·.type) = some 67 := by kernel_rfl
theorem t4 : (Tryd.prog.globals[2]?).map (·.type) = some 67 := by kernel_rfl
theorem cells127 : Tryd.prog.cellsOf 127 = 1 := by kernel_rfl
theorem cells9 : Tryd.prog.cellsOf 9 = 1 := by kernel_rfl
theorem star : "*" ++ "errors.errorString" = "*errors.errorString" := by decide
theorem row125 (u : TypeId) (h : Tryd.prog.typeName? 3 u = some "*errors.errorString") : u = 125 :=
  typeName_ptr_named (nm := "errors.errorString") (by rw [star]; kernel_rfl) (by kernel_rfl) (by decide) u (by rw [star]; exact h)
def txR : List UInt8 := [118, 97, 108, 117, 101, 32, 111, 117, 116, 32, 111, 102, 32, 114, 97, 110, 103, 101]
def txS : List UInt8 := [105, 110, 118, 97, 108, 105, 100, 32, 115, 121, 110, 116, 97, 120]
theorem spot_none {W : World} {a : Addr} {x : Value} (h : W.cell? a = some x) : a.spot = none := by
  unfold World.cell? at h
  split at h
  · split at h
    · cases h
    · rename_i hs; simpa using hs
  · cases h
theorem sent_cells {W : World} {g : Nat} {a : Addr} {x : Value} (h : W.cell? ⟨g, 0, none⟩ = some (.iface 125 (.pointer (some a)))) (hx : W.cell? a = some x) : CellsP W (fun _ => False) g 0 [.iface 125 (.pto [])] := by
  obtain ⟨b, o, sp⟩ := a
  have : sp = none := spot_none hx
  subst this
  exact .cons _ _ _ _ _ h (.iface _ _ _ (.pto [] b o (fun q => absurd rfl q) (.nil _ _))) (.nil _ _)
theorem tabs {W : World} (h : laidMetH Tryd.prog Rows.nameOrderRow.laid W) : ∀ i cs, glob Tryd.prog i = some cs → CellsP W (fun _ => False) i 0 cs ∧ i < W.heap.size := by
  have h : laidMet Tryd.prog (("math/bits.deBruijn32tab", Lib.tabData .u8 z1) :: ("math/bits.deBruijn64tab", Lib.tabData .u8 z2) :: ("internal/strconv.uint64pow10", Lib.tabData .u64 z0) :: ("strconv.ErrRange", .iface "*errors.errorString" (.ptr (.agg [.lit (.string txR)]))) :: ("strconv.ErrSyntax", .iface "*errors.errorString" (.ptr (.agg [.lit (.string txS)]))) :: []) W := h
  have a1 := Lib.tabIs_of_head g1 t1 Tryd.underlying128 Tryd.underlying5 (by kernel_rfl) (by kernel_rfl) h
  have a2 := Lib.tabIs_of_head g2 t2 Tryd.underlying129 Tryd.underlying5 (by kernel_rfl) (by kernel_rfl) (laid_tail h)
  have a0 := Lib.tabIs_of_head g0 t0 Tryd.underlying114 Tryd.underlying98 (by kernel_rfl) (by kernel_rfl) (laid_tail (laid_tail h))
  have h3 := laid_tail (laid_tail (laid_tail h))
  obtain ⟨p3, s3, hv3, hc3, -, -⟩ := laid_sentinel h3 g3 t3 Tryd.underlying67 row125 Tryd.underlying125 Tryd.underlying127 rfl rfl Tryd.underlying9 cells127 cells9
  obtain ⟨p2, s2, hv2, hc2, -, -⟩ := laid_sentinel (laid_tail h3) g4 t4 Tryd.underlying67 row125 Tryd.underlying125 Tryd.underlying127 rfl rfl Tryd.underlying9 cells127 cells9
  have b3 : W.cell? ⟨3, 0, none⟩ = some (.iface 125 (.pointer (some p3))) := by simpa using World.var?_cell g3 hv3 0
  have b2 : W.cell? ⟨2, 0, none⟩ = some (.iface 125 (.pointer (some p2))) := by simpa using World.var?_cell g4 hv2 0
  intro i cs hi
  match i with
  | 0 => exact absurd hi (by rw [show glob Tryd.prog 0 = none by kernel_rfl]; exact fun q => by cases q)
  | 2 => rw [gSyn] at hi; cases hi; exact ⟨sent_cells b2 hc2, lt_of_cell b2⟩
  | 3 => rw [gRng] at hi; cases hi; exact ⟨sent_cells b3 hc3, lt_of_cell b3⟩
  | 1 => rw [k0] at hi; cases hi; exact tab_cells a0 g0 (by decide)
  | 4 => rw [k1] at hi; cases hi; exact tab_cells a1 g1 (by decide)
  | 5 => rw [k2] at hi; cases hi; exact tab_cells a2 g2 (by decide)
  | i + 6 =>
    have hs : Tryd.prog.globals.size = 6 := by kernel_rfl
    rw [glob_none (by rw [hs]; omega)] at hi
    cases hi

theorem cal (ps : List PV) (h : OpEs Tryd.prog 4 [9, 9, 9] ps) : Cal Tryd.prog 9 (ps.map .p) [] fun r _ => r = .p (.bool true) := by
  match ps, h with
  | [v0, v1, v2], ⟨h0, h1, h2, _⟩ =>
    obtain ⟨x, rfl, _⟩ := op_str Tryd.underlying9 h0
    obtain ⟨y, rfl, _⟩ := op_str Tryd.underlying9 h1
    obtain ⟨n, rfl, _⟩ := op_str Tryd.underlying9 h2
    exact nameOrder_c x y n [] _ rfl
  | [], h => exact h.elim
  | [_], h => exact h.2.elim
  | [_, _], h => exact h.2.2.elim
  | _ :: _ :: _ :: _ :: _, h => exact h.2.2.2.elim

/-- A world for the witness. -/
noncomputable def low : Nat := (World.holding Tryd.prog default ⟨#[], #[], []⟩).heap.size
noncomputable def laidWorld (os : Os) : World :=
  let w0 := World.holding Tryd.prog os ⟨#[.cells #[.string ⟨txR.toArray⟩] 127, .cells #[.string ⟨txS.toArray⟩] 127], #[], []⟩
  { w0 with heap := ((((w0.heap.modify 1 fun
      | .cells _ t frozen => .cells (z0.map (Value.int .u64)).toArray t frozen
      | o => o).modify 4 fun
      | .cells _ t frozen => .cells (z1.map (Value.int .u8)).toArray t frozen
      | o => o).modify 5 fun
      | .cells _ t frozen => .cells (z2.map (Value.int .u8)).toArray t frozen
      | o => o).modify 3 fun
      | .cells _ t frozen => .cells #[.iface 125 (.pointer (some ⟨low, 0, none⟩))] t frozen
      | o => o).modify 2 fun
      | .cells _ t frozen => .cells #[.iface 125 (.pointer (some ⟨low + 1, 0, none⟩))] t frozen
      | o => o }
theorem laid_met (os : Os) : laidMet Tryd.prog Rows.nameOrderRow.laid ((laidWorld os).forCall (fun _ _ => 0) ⟨#[], #[.string .empty, .string .empty, .string .empty], []⟩).memory :=
  laidMet_of_run' 8 (by kernel_rfl) (by kernel_rfl)
theorem reads (os : Os) {H : Type} (enc : TypeId × Value → H) : ∃ places, DataW.whole enc Tryd.prog ((laidWorld os).forCall (fun _ _ => 0) ⟨#[], #[.string .empty, .string .empty, .string .empty], []⟩).memory Tryd.f9.params.toList Rows.nameOrderSpec.vars false (#[.string .empty, .string .empty, .string .empty] : Array Value).toList 8 = some ([.lit (.string []), .lit (.string []), .lit (.string [])], [], places) :=
  ⟨[], by kernel_rfl⟩

set_option maxRecDepth 100000 in
theorem lifted (os : Os) (started : os.Started) (H : Type) (enc : TypeId × Value → H) (F : Stop.Interp) :
    ReturnsInHanded {} Tryd.checked os 9 .any ((OpenSpec.ofChange Rows.nameOrderSpec).preRow enc Tryd.prog Tryd.f9 Rows.nameOrderRow.domain false Rows.nameOrderRow.laid) (((OpenSpec.ofChange Rows.nameOrderSpec).at F).post enc Tryd.prog Tryd.f9 false true false false) := by
  obtain ⟨places, hx⟩ := reads os enc
  refine returnsInHanded_of_row (C := Tryd.checked) (s := OpenSpec.ofChange Rows.nameOrderSpec) own started (by kernel_rfl) Tryd.func9
    (witness_row_at (enc := enc) (C := Tryd.checked) false (laidWorld os) #[.string .empty, .string .empty, .string .empty] rfl (by kernel_rfl) (by kernel_rfl) (by kernel_rfl)
      (OpenSpec.preRow_of_cond 8 hx (by kernel_rfl) (fun k hk => by cases hk) (by kernel_rfl) (laid_met os))) ?_
  intro W base args ds gs before hval hW _ hcond _ hL _ _
  have hpar : Tryd.f9.params.toList = [9, 9, 9] := by rw [Tryd.params9]
  refine law_contract (s := Rows.nameOrderSpec) (n := 4) (t := 4) laidOut rfl (by kernel_rfl) (by kernel_rfl) rfl Tryd.underlying4 ?_ hval hW (tabs hL) ⟨_, _, Tryd.func9, rfl⟩ fun ps h _ => cal ps (by rw [hpar] at h; exact h)
  intro ds hd
  rw [hpar] at hd
  match ds, hd with
  | [_, _, _], _ => exact ⟨rfl, rfl, rfl⟩

theorem said : Rows.NameOrderSaid :=
  OpenClaim.holds_of_cond 9 Tryd.f9 rfl rfl rfl rfl rfl rfl rfl ⟨rfl, rfl, rfl, rfl, rfl⟩ rfl rfl rfl rfl rfl (by kernel_rfl) Tryd.func9 (by kernel_rfl)
    (of_decide_eq_true (by kernel_rfl)) (by unfold Func.isWrapper; first | (rw [if_pos (by decide +kernel)]; kernel_rfl) | (rw [if_neg (by decide +kernel)]; exact ⟨rfl, rfl⟩))
    (fun os started H enc _ F => by rw [OpenClaim.pre_eq_preRow]; exact lifted os started H enc F)

theorem plain (f : FuncId) (fn : Func) (hf : Tryd.pinned.checked.prog.funcNamed "bordereau/bordereaulaw3.NameOrder" = some f) (hfn : Tryd.pinned.checked.prog.funcs[f]? = some fn) :
    true = Tryd.pinned.checked.prog.looks [] ∧ ∀ (j : Nat) t, fn.params[j]? = some t → Tryd.pinned.checked.prog.wantsStandIn t = false := by
  obtain rfl : f = 9 := Option.some.inj ((show Tryd.prog.funcNamed "bordereau/bordereaulaw3.NameOrder" = some 9 by kernel_rfl).symm.trans hf) |>.symm
  obtain rfl : fn = Tryd.f9 := (Option.some.inj (Tryd.func9.symm.trans hfn)).symm
  refine ⟨by kernel_rfl, fun j t ht => ?_⟩
  have hall : (Tryd.f9.params.toList.all fun t => !Tryd.prog.wantsStandIn t) = true := by kernel_rfl
  have hm : t ∈ Tryd.f9.params.toList := by simpa using Array.mem_of_getElem? ht
  have := List.all_eq_true.1 hall t hm
  show Tryd.prog.wantsStandIn t = false
  simpa using this

theorem NameOrder_holds : Rows.NameOrderCardSaid :=
  Claim7.holds_tied_plain_at .later [] _ _ _ _ said (fun _ h => by cases h) (by kernel_rfl) (fun _ h => by cases h) nameOrder_row_tie rfl ⟨rfl, rfl⟩ (by kernel_rfl) rfl plain (by kernel_rfl)
#print axioms NameOrder_holds
end Go.Proofs.YtkokaflanlcojaaDoor.nameOrder
