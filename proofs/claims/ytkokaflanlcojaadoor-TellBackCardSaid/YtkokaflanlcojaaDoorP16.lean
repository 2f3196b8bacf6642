/- The given law TellBack (package bordereaulaw21) returns true, does not panic, and leaves what it was handed as it was, whatever it is called with; the three listed tables of the library are tied to the program's text by the given tie. Conditions: those of the given card Rows.TellBackCardSaid, and no others. -/
import Derived.Test.YtkokaflanlcojaaDoorP14
import Derived.Test.YtkokaflanlcojaaDoorP15
import Derived.Test.YtkokaflanlcojaaDoorCards
import Derived.Test.YtkokaflanlcojaaDoorTie
import Derived.JoinedCond
import Derived.Deep.DeepHandedRow
namespace Go.Proofs.YtkokaflanlcojaaDoor.tellBack
open Go.ChangeShapes Go.WideShapes Go.ChangeAt Go.RowKit Go.Proofs.YtkokaflanlcojaaDoor.AW

theorem own : ownKnob Tryd.prog.godebug = none := by kernel_rfl
theorem laidOut : laidOutB Tryd.prog = true := by kernel_rfl

theorem g0 : Tryd.prog.globalNamed "internal/strconv.uint64pow10" = some 1 := by kernel_rfl
theorem g1 : Tryd.prog.globalNamed "math/bits.deBruijn32tab" = some 4 := by kernel_rfl
theorem g2 : Tryd.prog.globalNamed "math/bits.deBruijn64tab" = some 5 := by kernel_rfl
theorem t0 : (Tryd.prog.globals[1]?).map (·.type) = some 114 := by kernel_rfl
theorem t1 : (Tryd.prog.globals[4]?).map (·.type) = some 128 := by kernel_rfl
theorem t2 : (Tryd.prog.globals[5]?).map (·.type) = some 129 := by kernel_rfl
def z0 : List Int := (List.range 20).map fun i => (10 : Int) ^ i
def z1 : List Int := [0, 1, 28, 2, 29, 14, 24, 3, 30, 22, 20, 15, 25, 17, 4, 8, 31, 27, 13, 23, 21, 19, 16, 7, 26, 12, 18, 6, 11, 5, 10, 9]
def z2 : List Int := [0, 1, 56, 2, 57, 49, 28, 3, 61, 58, 42, 50, 38, 29, 17, 4, 62, 47, 59, 36, 45, 43, 51, 22, 53, 39, 33, 30, 24, 18, 12, 5, 63, 55, 48, 27, 60, 41, 37, 16, 46, 35, 44, 21, 52, 32, 23, 11, 54, 26, 40, 15, 34, 20, 31, 10, 25, 14, 19, 9, 13, 8, 7, 6]
theorem k0 : glob Tryd.prog 1 = some (z0.map (.int .u64)) := by kernel_rfl
theorem k1 : glob Tryd.prog 4 = some (z1.map (.int .u8)) := by kernel_rfl
theorem k2 : glob Tryd.prog 5 = some (z2.map (.int .u8)) := by kernel_rfl
theorem tabs {W : World} (h : laidMetH Tryd.prog Rows.tellBackRow.laid W) : ∀ i cs, glob Tryd.prog i = some cs → CellsP W (fun _ => False) i 0 cs ∧ i < W.heap.size := by
  have h : laidMet Tryd.prog (("math/bits.deBruijn32tab", Lib.tabData .u8 z1) :: ("math/bits.deBruijn64tab", Lib.tabData .u8 z2) :: ("internal/strconv.uint64pow10", Lib.tabData .u64 z0) :: []) W := h
  have a1 := Lib.tabIs_of_head g1 t1 Tryd.underlying128 Tryd.underlying5 (by kernel_rfl) (by kernel_rfl) h
  have a2 := Lib.tabIs_of_head g2 t2 Tryd.underlying129 Tryd.underlying5 (by kernel_rfl) (by kernel_rfl) (laid_tail h)
  have a0 := Lib.tabIs_of_head g0 t0 Tryd.underlying114 Tryd.underlying98 (by kernel_rfl) (by kernel_rfl) (laid_tail (laid_tail h))
  intro i cs hi
  match i with
  | 0 => exact absurd hi (by rw [show glob Tryd.prog 0 = none by kernel_rfl]; exact fun q => by cases q)
  | 2 => exact absurd hi (by rw [show glob Tryd.prog 2 = none by kernel_rfl]; exact fun q => by cases q)
  | 3 => exact absurd hi (by rw [show glob Tryd.prog 3 = none by kernel_rfl]; exact fun q => by cases q)
  | 1 => rw [k0] at hi; cases hi; exact tab_cells a0 g0 (by decide)
  | 4 => rw [k1] at hi; cases hi; exact tab_cells a1 g1 (by decide)
  | 5 => rw [k2] at hi; cases hi; exact tab_cells a2 g2 (by decide)
  | i + 6 =>
    have hs : Tryd.prog.globals.size = 6 := by kernel_rfl
    rw [glob_none (by rw [hs]; omega)] at hi
    cases hi

theorem cal (ps : List PV) (h : OpEs Tryd.prog 4 [9] ps) : Cal Tryd.prog 4 (ps.map .p) [] fun r _ => r = .p (.bool true) := by
  match ps, h with
  | [v0], ⟨h0, _⟩ =>
    obtain ⟨s, rfl, _⟩ := op_str Tryd.underlying9 h0
    exact back_c s [] _ rfl
  | [], h => exact h.elim
  | _ :: _ :: _, h => exact h.2.elim

/-- A world for the witness. -/
noncomputable def laidWorld (os : Os) : World :=
  { World.holding Tryd.prog os ⟨#[], #[], []⟩ with heap := ((((World.holding Tryd.prog os ⟨#[], #[], []⟩).heap.modify 1 fun
      | .cells _ t frozen => .cells (z0.map (Value.int .u64)).toArray t frozen
      | o => o).modify 4 fun
      | .cells _ t frozen => .cells (z1.map (Value.int .u8)).toArray t frozen
      | o => o).modify 5 fun
      | .cells _ t frozen => .cells (z2.map (Value.int .u8)).toArray t frozen
      | o => o) }
theorem laid_met (os : Os) : laidMet Tryd.prog Rows.tellBackRow.laid ((laidWorld os).forCall (fun _ _ => 0) ⟨#[], #[.string .empty], []⟩).memory :=
  laidMet_of_run' 8 (by kernel_rfl) (by kernel_rfl)
theorem reads (os : Os) {H : Type} (enc : TypeId × Value → H) : ∃ places, DataW.whole enc Tryd.prog ((laidWorld os).forCall (fun _ _ => 0) ⟨#[], #[.string .empty], []⟩).memory Tryd.f4.params.toList Rows.tellBackSpec.vars false (#[.string .empty] : Array Value).toList 8 = some ([.lit (.string [])], [], places) :=
  ⟨[], by kernel_rfl⟩

set_option maxRecDepth 100000 in
theorem lifted (os : Os) (started : os.Started) (H : Type) (enc : TypeId × Value → H) (F : Stop.Interp) :
    ReturnsInHanded {} Tryd.checked os 4 .any ((OpenSpec.ofChange Rows.tellBackSpec).preRow enc Tryd.prog Tryd.f4 Rows.tellBackRow.domain false Rows.tellBackRow.laid) (((OpenSpec.ofChange Rows.tellBackSpec).at F).post enc Tryd.prog Tryd.f4 false true false false) := by
  obtain ⟨places, hx⟩ := reads os enc
  refine returnsInHanded_of_row (C := Tryd.checked) (s := OpenSpec.ofChange Rows.tellBackSpec) own started (by kernel_rfl) Tryd.func4
    (witness_row_at (enc := enc) (C := Tryd.checked) false (laidWorld os) #[.string .empty] rfl (by kernel_rfl) (by kernel_rfl) (by kernel_rfl)
      (OpenSpec.preRow_of_cond 8 hx (by kernel_rfl) (fun k hk => by cases hk) (by kernel_rfl) (laid_met os))) ?_
  intro W base args ds gs before hval hW _ hcond _ hL _ _
  have hpar : Tryd.f4.params.toList = [9] := by rw [Tryd.params4]
  refine law_contract (s := Rows.tellBackSpec) (n := 4) (t := 4) laidOut rfl (by kernel_rfl) (by kernel_rfl) rfl Tryd.underlying4 ?_ hval hW (tabs hL) ⟨_, _, Tryd.func4, rfl⟩ fun ps h _ => cal ps (by rw [hpar] at h; exact h)
  intro ds hd
  rw [hpar] at hd
  match ds, hd with
  | [_], _ => exact ⟨rfl, rfl, rfl⟩

theorem said : Rows.TellBackSaid :=
  OpenClaim.holds_of_cond 4 Tryd.f4 rfl rfl rfl rfl rfl rfl rfl ⟨rfl, rfl, rfl, rfl, rfl⟩ rfl rfl rfl rfl rfl (by kernel_rfl) Tryd.func4 (by kernel_rfl)
    (of_decide_eq_true (by kernel_rfl)) (by unfold Func.isWrapper; first | (rw [if_pos (by decide +kernel)]; kernel_rfl) | (rw [if_neg (by decide +kernel)]; exact ⟨rfl, rfl⟩))
    (fun os started H enc _ F => by rw [OpenClaim.pre_eq_preRow]; exact lifted os started H enc F)

theorem plain (f : FuncId) (fn : Func) (hf : Tryd.pinned.checked.prog.funcNamed "bordereau/bordereaulaw21.TellBack" = some f) (hfn : Tryd.pinned.checked.prog.funcs[f]? = some fn) :
    true = Tryd.pinned.checked.prog.looks [] ∧ ∀ (j : Nat) t, fn.params[j]? = some t → Tryd.pinned.checked.prog.wantsStandIn t = false := by
  obtain rfl : f = 4 := Option.some.inj ((show Tryd.prog.funcNamed "bordereau/bordereaulaw21.TellBack" = some 4 by kernel_rfl).symm.trans hf) |>.symm
  obtain rfl : fn = Tryd.f4 := (Option.some.inj (Tryd.func4.symm.trans hfn)).symm
  refine ⟨by kernel_rfl, fun j t ht => ?_⟩
  have hall : (Tryd.f4.params.toList.all fun t => !Tryd.prog.wantsStandIn t) = true := by kernel_rfl
  have hm : t ∈ Tryd.f4.params.toList := by simpa using Array.mem_of_getElem? ht
  have := List.all_eq_true.1 hall t hm
  show Tryd.prog.wantsStandIn t = false
  simpa using this

theorem TellBack_holds : Rows.TellBackCardSaid :=
  Claim7.holds_tied_plain_at .later [] _ _ _ _ said (fun _ h => by cases h) (by kernel_rfl) (fun _ h => by cases h) tellBack_row_tie rfl ⟨rfl, rfl⟩ (by kernel_rfl) rfl plain (by kernel_rfl)
#print axioms TellBack_holds
end Go.Proofs.YtkokaflanlcojaaDoor.tellBack
