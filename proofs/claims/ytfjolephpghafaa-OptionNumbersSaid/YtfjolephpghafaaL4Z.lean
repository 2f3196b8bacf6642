import Derived.Test.YtfjolephpghafaaL4X
namespace Go.Proofs.Ytfjolephpghafaa.AW
open Go.Proofs
set_option maxRecDepth 100000

def txA : List (List UInt8) := [[], [97], [228, 184, 150, 255], [116, 101, 120, 116]]
def nsA : List Int := [0, -1, 9223372036854775807, -9223372036854775808, 7]
def txB : List (List UInt8) := [nseg, [73, 78, 68, 69, 88], [83, 110, 97, 112, 115, 104, 111, 116], ncap, [99, 97, 112, 120], [], [99, 195, 161, 112]]
def nsB : List Int := [-1, 0, 1, 1073741824, 1073741825, 9223372036854775807]
def nfour : List UInt8 := [102, 111, 117, 114]
def nnoth : List UInt8 := [110, 111, 116, 104, 105, 110, 103]

theorem txA_ok {l : List UInt8} (h : l ∈ txA) : l.length < 9223372036854775807 := by
  simp only [txA, List.mem_cons, List.not_mem_nil, or_false] at h
  rcases h with rfl | rfl | rfl | rfl <;> decide
theorem txB_ok {l : List UInt8} (h : l ∈ txB) : l.length < 1099511627776 := by
  simp only [txB, List.mem_cons, List.not_mem_nil, or_false] at h
  rcases h with rfl | rfl | rfl | rfl | rfl | rfl | rfl <;> decide
theorem txB_two {a b : List UInt8} (ha : a ∈ txB) (hb : b ∈ txB) : ∀ l, l ∈ [a, b] → l.length < 1099511627776 := by
  intro l hl
  simp only [List.mem_cons, List.not_mem_nil, or_false] at hl
  rcases hl with rfl | rfl
  · exact txB_ok ha
  · exact txB_ok hb

theorem config_bad {l : List Item} (h : run l dflt = none) : config l = (zero4, 1) := by unfold config; rw [h]
theorem config_long {l : List Item} {c : C4} (h : run l dflt = some c) (hr : right c.l = false) : config l = (zero4, 3) := by unfold config; rw [h]; simp [hr]
theorem config_good {l : List Item} {c : C4} (h : run l dflt = some c) (hr : right c.l = true) : config l = (c, 0) := by unfold config; rw [h]; simp [hr]
theorem run_tx {l : List UInt8} {v : Item} {k : Nat} {n : Int} {r : List Item} {c : C4} {o : Option C4} (hf : fieldOf (upper l) = some k) (hv : v.val = (n, true)) (h : run r (c.set k (clip n)) = o) : run (.tx l :: v :: r) c = o := by
  unfold run; rw [hf, hv]; exact h
theorem run_no {l : List UInt8} {v : Item} {r : List Item} {c : C4} (hf : fieldOf (upper l) = none) : run (.tx l :: v :: r) c = none := by
  unfold run; rw [hf]
theorem three3 : (rns ncap).length = 3 := by kernel_rfl
theorem four4 : (rns nfour).length = 4 := by kernel_rfl
theorem vcap : (Item.tx ncap).val = (3, true) := by show (((rns ncap).length : Int), true) = _; rw [three3]; rfl
theorem vfour : (Item.tx nfour).val = (4, true) := by show (((rns nfour).length : Int), true) = _; rw [four4]; rfl
theorem unoth1 : upper nnoth = [78, 79, 84, 72, 73, 78, 71] := by kernel_rfl
theorem unoth : fieldOf (upper nnoth) = none := by rw [unoth1]; rfl
theorem numA : config [.tx nseg, .tx ncap, .tx ncap, .i 0] = (zero4, 3) := config_long (run_tx fseg vcap (run_tx fcap rfl rfl)) rfl
theorem numB : config [.tx nind, .tx nfour, .i 9] = (zero4, 1) := config_bad (run_tx find vfour rfl)
theorem numC : config [.tx nind, .tx nfour, .tx ncap, .i32 97] = (⟨1024, 4, 4, 97⟩, 0) := config_good (run_tx find vfour (run_tx fcap rfl rfl)) rfl
theorem numD : config [.cf 0 0 0 0, .tx nseg, .i 1] = (zero4, 3) := by
  have h : run [.tx nseg, .i 1] ⟨0, 0, 0, 0⟩ = some ⟨1, 0, 0, 0⟩ := run_tx (n := 1) fseg rfl rfl
  have h2 : run [.cf 0 0 0 0, .tx nseg, .i 1] dflt = some ⟨1, 0, 0, 0⟩ := h
  exact config_long h2 rfl
theorem numE : config [.tx nind, .i 0, .tx nnoth, .i 1] = (zero4, 1) := config_bad (run_tx find rfl (run_no unoth))

theorem get_map {α : Type} {f : α → PV} {l : List α} {i : Nat} (h : i < l.length) : (l.map f)[(i : Int).toNat]? = some (f l[i]) := by simp [h]

theorem numbers_c (s : Store) (K : AV → Store → Prop) (h : K (.p (.bool true)) s) : Cal Try.prog 3 [] s K := by
  refine Cal.pure (args := []) ?_
  refine Cal.intro Try.func3 (by decide +kernel) rfl rfl ?_
  refine LoopX.fam [0, 22, 23, 24] (fun (i : Nat) => ([(0, .p (.bool false)), (22, .p (.sl .clip 1 (txA.map .str))), (23, .p (ii 4)), (24, .p (ii i))], [])) (fun i => i ≤ 4) (fun i => 4 - i) 0 (by simp) (Trim.mk' rfl rfl rfl rfl (Nat.le_refl _)) ?_
  intro i hi
  have hi : i ≤ 4 := hi
  refine Br.mk (fun hlt => ?_) (fun hge => ?_)
  · have hlt : i < txA.length := by
      have : (i : Int) < 4 := by simpa using hlt
      show i < 4; omega
    refine Idx.mk _ (by omega) (get_map hlt) ?_
    refine LoopX.fam [0, 2, 22, 23, 24, 28, 29, 30] (fun (j : Nat) => ([(0, .p (.bool false)), (2, .p (.str txA[i])), (22, .p (.sl .clip 1 (txA.map .str))), (23, .p (ii 4)), (24, .p (ii i)), (28, .p (.sl .clip 1 (nsA.map ii))), (29, .p (ii 5)), (30, .p (ii j))], [])) (fun j => j ≤ 5) (fun j => 5 - j) 0 (by simp) (Trim.mk' rfl rfl rfl rfl (Nat.le_refl _)) ?_
    intro j hj
    have hj : j ≤ 5 := hj
    refine Br.mk (fun hlt2 => ?_) (fun hge2 => ?_)
    · have hlt2 : j < nsA.length := by
        have : (j : Int) < 5 := by simpa using hlt2
        show j < 5; omega
      refine Idx.mk _ (by omega) (get_map hlt2) ?_
      refine values_c nsA[j] (IntKind.i32.wrap nsA[j]) txA[i] (decide (nsA[j] > 0)) (txA_ok (List.getElem_mem hlt)) _ _ ?_
      refine Br.f rfl ?_
      exact ⟨j + 1, hlt2, by have : j < 5 := hlt2; omega, Nat.le_refl _, Trim.mk' (by rw [← wrap_succ (by omega)]; rfl) rfl rfl rfl (Nat.le_refl _)⟩
    · exact ⟨i + 1, hlt, by have : i < 4 := hlt; omega, Nat.le_refl _, Trim.mk' (by rw [← wrap_succ (by omega)]; rfl) rfl rfl rfl (Nat.le_refl _)⟩
  · refine LoopX.fam [0, 5, 45, 46, 47] (fun (i : Nat) => ([(0, .p (.bool false)), (5, .p (.sl .clip 1 (txB.map .str))), (45, .p (.sl .clip 1 (txB.map .str))), (46, .p (ii 7)), (47, .p (ii i))], [])) (fun i => i ≤ 7) (fun i => 7 - i) 0 (by simp) (Trim.mk' rfl rfl rfl rfl (Nat.le_refl _)) ?_
    intro i hi
    have hi : i ≤ 7 := hi
    refine Br.mk (fun hlt => ?_) (fun hge => ?_)
    · have hlt : i < txB.length := by
        have : (i : Int) < 7 := by simpa using hlt
        show i < 7; omega
      refine Idx.mk _ (by omega) (get_map hlt) ?_
      refine LoopX.fam [0, 5, 7, 45, 46, 47, 51, 52, 53] (fun (j : Nat) => ([(0, .p (.bool false)), (5, .p (.sl .clip 1 (txB.map .str))), (7, .p (.str txB[i])), (45, .p (.sl .clip 1 (txB.map .str))), (46, .p (ii 7)), (47, .p (ii i)), (51, .p (.sl .clip 1 (txB.map .str))), (52, .p (ii 7)), (53, .p (ii j))], [])) (fun j => j ≤ 7) (fun j => 7 - j) 0 (by simp) (Trim.mk' rfl rfl rfl rfl (Nat.le_refl _)) ?_
      intro j hj
      have hj : j ≤ 7 := hj
      refine Br.mk (fun hlt2 => ?_) (fun hge2 => ?_)
      · have hlt2 : j < txB.length := by
          have : (j : Int) < 7 := by simpa using hlt2
          show j < 7; omega
        refine Idx.mk _ (by omega) (get_map hlt2) ?_
        refine LoopX.fam [0, 5, 7, 9, 45, 46, 47, 51, 52, 53, 57, 58, 59] (fun (k : Nat) => ([(0, .p (.bool false)), (5, .p (.sl .clip 1 (txB.map .str))), (7, .p (.str txB[i])), (9, .p (.str txB[j])), (45, .p (.sl .clip 1 (txB.map .str))), (46, .p (ii 7)), (47, .p (ii i)), (51, .p (.sl .clip 1 (txB.map .str))), (52, .p (ii 7)), (53, .p (ii j)), (57, .p (.sl .clip 1 (nsB.map ii))), (58, .p (ii 6)), (59, .p (ii k))], [])) (fun k => k ≤ 6) (fun k => 6 - k) 0 (by simp) (Trim.mk' rfl rfl rfl rfl (Nat.le_refl _)) ?_
        intro k hk
        have hk : k ≤ 6 := hk
        refine Br.mk (fun hlt3 => ?_) (fun hge3 => ?_)
        · have hlt3 : k < nsB.length := by
            have : (k : Int) < 6 := by simpa using hlt3
            show k < 6; omega
          refine Idx.mk _ (by omega) (get_map hlt3) ?_
          refine configs_c .nil .clip .clip 0 1 1 [] [txB[i], txB[j]] [nsB[k], 5] (txB_two (List.getElem_mem hlt) (List.getElem_mem hlt2)) (by simp) (by simp) (by simp) _ _ ?_
          repeat refine Br.t rfl ?_
          refine configs_c .clip .clip .clip 4 1 1 [⟨1, 2, 3, 4⟩] [txB[j], txB[i]] [9, nsB[k]] (txB_two (List.getElem_mem hlt2) (List.getElem_mem hlt)) (by simp) (by simp) (by simp) _ _ ?_
          repeat refine Br.t rfl ?_
          repeat refine Br.f rfl ?_
          exact ⟨k + 1, hlt3, by have : k < 6 := hlt3; omega, Nat.le_refl _, Trim.mk' (by rw [← wrap_succ (by omega)]; rfl) rfl rfl rfl (Nat.le_refl _)⟩
        · exact ⟨j + 1, hlt2, by have : j < 7 := hlt2; omega, Nat.le_refl _, Trim.mk' (by rw [← wrap_succ (by omega)]; rfl) rfl rfl rfl (Nat.le_refl _)⟩
      · exact ⟨i + 1, hlt, by have : i < 7 := hlt; omega, Nat.le_refl _, Trim.mk' (by rw [← wrap_succ (by omega)]; rfl) rfl rfl rfl (Nat.le_refl _)⟩
    · refine config_v .clip _ numA (by simp [Item.ok, nseg, ncap]) _ _ ?_
      refine Ob.mk (okst rfl rfl rfl) ?_
      refine config_v .clip _ numB (by simp [Item.ok, nind, nfour]) _ _ ?_
      refine Ob.mk (okst rfl rfl rfl) ?_
      refine config_v .clip _ numC (by simp [Item.ok, nind, nfour, ncap]) _ _ ?_
      refine Ob.mk (okst rfl rfl rfl) ?_
      refine config_v .clip _ numD (by simp [Item.ok, nseg]) _ _ ?_
      refine Ob.mk (okst rfl rfl rfl) ?_
      refine config_v .clip _ numE (by simp [Item.ok, nind, nnoth]) _ _ ?_
      refine Ob.mk (okst rfl rfl rfl) ?_
      repeat refine Br.t rfl ?_
      refine known_c _ _ ?_
      repeat refine Br.t rfl ?_
      exact h
end Go.Proofs.Ytfjolephpghafaa.AW
