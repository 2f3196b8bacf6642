/- A part of the proof: LF/F1, LF/F2, LF/F3, LF/F5, LF/F6, LF/F7, LF/F8, LF/F9. -/
import Derived.Test.YtneheklmkbhieaaP8
import Derived.Test.YtneheklmkbhieaaP9
open Go Go.Proofs.Ytneheklmkbhieaa.AW Go.Proofs
namespace Go.Proofs.Ytneheklmkbhieaa.AW
set_option maxRecDepth 100000
set_option linter.unusedSimpArgs false
set_option linter.unusedVariables false
open Go.Shelf

/-! ### slices.SortFunc of names: by the shelf, laid in plain words -/
def sortS_ren : Go.Shelf.Ren := ⟨fun | 6 => 34 | 15 => 58 | 14 => 57 | 28 => 86 | 29 => 87 | 20 => 78 | 21 => 79 | 22 => 80 | 23 => 81 | 24 => 82 | 25 => 83 | 26 => 84 | 27 => 85 | 46 => 113 | 47 => 114 | 48 => 115 | 49 => 116 | 50 => 117 | 57 => 143 | n => n, fun | 22 => 35 | 24 => 9 | 25 => 72 | 3 => 3 | 39 => 111 | 0 => 0 | 53 => 139 | 55 => 141 | 4 => 4 | 46 => 133 | 45 => 132 | 50 => 114 | 5 => 5 | 9 => 9 | 66 => 162 | 70 => 166 | 76 => 179 | 77 => 180 | n => n, fun | n => n⟩
theorem sortS : SlLaysF.n6 Try.prog sortS_ren where
  mixed := by kernel_rfl
  f6 := ⟨Try.f34.name, by decide +kernel, Try.func34.trans (congrArg some (by kernel_rfl))⟩
  f14 := ⟨Try.f57.name, by decide +kernel, Try.func57.trans (congrArg some (by kernel_rfl))⟩
  f15 := Try.func58.trans (congrArg some (by kernel_rfl))
  f20 := ⟨Try.f78.name, by decide +kernel, Try.func78.trans (congrArg some (by kernel_rfl))⟩
  f21 := ⟨Try.f79.name, by decide +kernel, Try.func79.trans (congrArg some (by kernel_rfl))⟩
  f22 := ⟨Try.f80.name, by decide +kernel, Try.func80.trans (congrArg some (by kernel_rfl))⟩
  f23 := ⟨Try.f81.name, by decide +kernel, Try.func81.trans (congrArg some (by kernel_rfl))⟩
  f24 := ⟨Try.f82.name, by decide +kernel, Try.func82.trans (congrArg some (by kernel_rfl))⟩
  f25 := ⟨Try.f83.name, by decide +kernel, Try.func83.trans (congrArg some (by kernel_rfl))⟩
  f26 := ⟨Try.f84.name, by decide +kernel, Try.func84.trans (congrArg some (by kernel_rfl))⟩
  f27 := ⟨Try.f85.name, by decide +kernel, Try.func85.trans (congrArg some (by kernel_rfl))⟩
  f28 := Try.func86.trans (congrArg some (by kernel_rfl))
  f29 := Try.func87.trans (congrArg some (by kernel_rfl))
  f46 := ⟨Try.f113.name, by decide +kernel, Try.func113.trans (congrArg some (by kernel_rfl))⟩
  f47 := Try.func114.trans (congrArg some (by kernel_rfl))
  f48 := Try.func115.trans (congrArg some (by kernel_rfl))
  f49 := ⟨Try.f116.name, by decide +kernel, Try.func116.trans (congrArg some (by kernel_rfl))⟩
  f50 := ⟨Try.f117.name, by decide +kernel, Try.func117.trans (congrArg some (by kernel_rfl))⟩
  f57 := ⟨Try.f143.name, by decide +kernel, Try.func143.trans (congrArg some (by kernel_rfl))⟩
  t0 := Try.underlying0
  a0 := Try.isAgg0
  z0 := Try.sizeOf0
  v0 := Try.zeroValue0
  t3 := Try.underlying3
  a3 := Try.isAgg3
  z3 := Try.sizeOf3
  v3 := Try.zeroValue3
  t4 := Try.underlying4
  a4 := Try.isAgg4
  z4 := Try.sizeOf4
  v4 := Try.zeroValue4
  t5 := Try.underlying5
  a5 := Try.isAgg5
  z5 := Try.sizeOf5
  v5 := Try.zeroValue5
  t9 := Try.underlying9
  a9 := Try.isAgg9
  z9 := Try.sizeOf9
  v9 := Try.zeroValue9
  t22 := Try.underlying35
  a22 := Try.isAgg35
  z22 := Try.sizeOf35
  v22 := Try.zeroValue35
  a24 := Try.isAgg9
  z24 := Try.sizeOf9
  t25 := Try.underlying72
  a25 := Try.isAgg72
  z25 := Try.sizeOf72
  v25 := Try.zeroValue72
  t39 := Try.underlying111
  a39 := Try.isAgg111
  z39 := Try.sizeOf111
  v39 := Try.zeroValue111
  t45 := Try.underlying132
  a45 := Try.isAgg132
  z45 := Try.sizeOf132
  v45 := Try.zeroValue132
  t46 := Try.underlying133
  a46 := Try.isAgg133
  z46 := Try.sizeOf133
  v46 := Try.zeroValue133
  t50 := Try.underlying114
  a50 := Try.isAgg114
  z50 := Try.sizeOf114
  v50 := Try.zeroValue114
  t53 := Try.underlying139
  a53 := Try.isAgg139
  z53 := Try.sizeOf139
  v53 := Try.zeroValue139
  t55 := Try.underlying141
  a55 := Try.isAgg141
  z55 := Try.sizeOf141
  v55 := Try.zeroValue141
  t66 := Try.underlying162
  a66 := Try.isAgg162
  z66 := Try.sizeOf162
  v66 := Try.zeroValue162
  t70 := Try.underlying166
  a70 := Try.isAgg166
  z70 := Try.sizeOf166
  v70 := Try.zeroValue166
  t76 := Try.underlying179
  a76 := Try.isAgg179
  z76 := Try.sizeOf179
  v76 := Try.zeroValue179
  t77 := Try.underlying180
  a77 := Try.isAgg180
  z77 := Try.sizeOf180
  v77 := Try.zeroValue180
theorem sortS0 : SlLaysF0.n6 Try.prog sortS_ren where
  mixed := by kernel_rfl
  f6 := ⟨Try.f34.name, by decide +kernel, Try.func34.trans (congrArg some (by kernel_rfl))⟩
  f14 := ⟨Try.f57.name, by decide +kernel, Try.func57.trans (congrArg some (by kernel_rfl))⟩
  f15 := Try.func58.trans (congrArg some (by kernel_rfl))
  f20 := ⟨Try.f78.name, by decide +kernel, Try.func78.trans (congrArg some (by kernel_rfl))⟩
  f21 := ⟨Try.f79.name, by decide +kernel, Try.func79.trans (congrArg some (by kernel_rfl))⟩
  f22 := ⟨Try.f80.name, by decide +kernel, Try.func80.trans (congrArg some (by kernel_rfl))⟩
  f23 := ⟨Try.f81.name, by decide +kernel, Try.func81.trans (congrArg some (by kernel_rfl))⟩
  f24 := ⟨Try.f82.name, by decide +kernel, Try.func82.trans (congrArg some (by kernel_rfl))⟩
  f25 := ⟨Try.f83.name, by decide +kernel, Try.func83.trans (congrArg some (by kernel_rfl))⟩
  f26 := ⟨Try.f84.name, by decide +kernel, Try.func84.trans (congrArg some (by kernel_rfl))⟩
  f27 := ⟨Try.f85.name, by decide +kernel, Try.func85.trans (congrArg some (by kernel_rfl))⟩
  f28 := Try.func86.trans (congrArg some (by kernel_rfl))
  f29 := Try.func87.trans (congrArg some (by kernel_rfl))
  f46 := ⟨Try.f113.name, by decide +kernel, Try.func113.trans (congrArg some (by kernel_rfl))⟩
  f47 := Try.func114.trans (congrArg some (by kernel_rfl))
  f48 := Try.func115.trans (congrArg some (by kernel_rfl))
  f49 := ⟨Try.f116.name, by decide +kernel, Try.func116.trans (congrArg some (by kernel_rfl))⟩
  f50 := ⟨Try.f117.name, by decide +kernel, Try.func117.trans (congrArg some (by kernel_rfl))⟩
  f57 := ⟨Try.f143.name, by decide +kernel, Try.func143.trans (congrArg some (by kernel_rfl))⟩
  t0 := Try.underlying0
  a0 := Try.isAgg0
  z0 := Try.sizeOf0
  v0 := Try.zeroValue0
  t3 := Try.underlying3
  a3 := Try.isAgg3
  z3 := Try.sizeOf3
  v3 := Try.zeroValue3
  t4 := Try.underlying4
  a4 := Try.isAgg4
  z4 := Try.sizeOf4
  v4 := Try.zeroValue4
  t5 := Try.underlying5
  a5 := Try.isAgg5
  z5 := Try.sizeOf5
  v5 := Try.zeroValue5
  t9 := Try.underlying9
  a9 := Try.isAgg9
  z9 := Try.sizeOf9
  v9 := Try.zeroValue9
  t22 := Try.underlying35
  a22 := Try.isAgg35
  z22 := Try.sizeOf35
  v22 := Try.zeroValue35
  t25 := Try.underlying72
  a25 := Try.isAgg72
  z25 := Try.sizeOf72
  v25 := Try.zeroValue72
  t39 := Try.underlying111
  a39 := Try.isAgg111
  z39 := Try.sizeOf111
  v39 := Try.zeroValue111
  t45 := Try.underlying132
  a45 := Try.isAgg132
  z45 := Try.sizeOf132
  v45 := Try.zeroValue132
  t46 := Try.underlying133
  a46 := Try.isAgg133
  z46 := Try.sizeOf133
  v46 := Try.zeroValue133
  t50 := Try.underlying114
  a50 := Try.isAgg114
  z50 := Try.sizeOf114
  v50 := Try.zeroValue114
  t53 := Try.underlying139
  a53 := Try.isAgg139
  z53 := Try.sizeOf139
  v53 := Try.zeroValue139
  t55 := Try.underlying141
  a55 := Try.isAgg141
  z55 := Try.sizeOf141
  v55 := Try.zeroValue141
  t66 := Try.underlying162
  a66 := Try.isAgg162
  z66 := Try.sizeOf162
  v66 := Try.zeroValue162
  t70 := Try.underlying166
  a70 := Try.isAgg166
  z70 := Try.sizeOf166
  v70 := Try.zeroValue166
  t76 := Try.underlying179
  a76 := Try.isAgg179
  z76 := Try.sizeOf179
  v76 := Try.zeroValue179
  t77 := Try.underlying180
  a77 := Try.isAgg180
  z77 := Try.sizeOf180
  v77 := Try.zeroValue180

/-- The order of names. -/
def nmLt (x y : PV) : Prop := match x, y with | .str a, .str b => lessR a b = true | _, _ => False
def nmCmp (x y : PV) : Int := match x, y with | .str a, .str b => if lessR a b = true then -1 else 1 | _, _ => 1
theorem cmpName_c (a b : List UInt8) (ha : a.length < 1099511627776) (hb : b.length < 1099511627776) (s : Store) (K : AV → Store → Prop) (h : K (.p (ii (nmCmp (.str a) (.str b)))) s) : Cal Try.prog 35 [.p (.str a), .p (.str b)] s K := by
  refine Cal.pure (args := [.str a, .str b]) ?_
  refine Cal.intro Try.func35 (by decide +kernel) rfl rfl ?_
  refine less_c a b (by omega) (by omega) _ _ ?_
  refine Br.mk (fun hc => ?_) (fun hc => ?_)
  · have e : nmCmp (.str a) (.str b) = -1 := if_pos hc
    rw [e] at h; exact h
  · have e : nmCmp (.str a) (.str b) = 1 := if_neg (by rw [hc]; decide)
    rw [e] at h; exact h
end Go.Proofs.Ytneheklmkbhieaa.AW

open Go Go.Proofs.Ytneheklmkbhieaa.AW Go.Proofs
namespace Go.Proofs.Ytneheklmkbhieaa.AW
set_option maxRecDepth 100000
set_option linter.unusedSimpArgs false
set_option linter.unusedVariables false

/-! ### slices.Grow, slices.Concat of two, slices.Clone, of bytes -/
def bsl (a : List UInt8) : PV := .sl .shr 1 (bytesP a)
theorem bytesP_len (a : List UInt8) : (bytesP a).length = a.length := by simp [bytesP]
theorem bytesP_app (a b : List UInt8) : bytesP (a ++ b) = bytesP a ++ bytesP b := by simp [bytesP]

theorem grow_0 (K : AV → Store → Prop) (h : K (.p (.sl .nil 0 [])) []) : Cal Try.prog 56 [.p (.sl .nil 0 []), .p (ii 0)] [] K := by
  refine Cal.intro Try.func56 (by decide +kernel) rfl rfl ?_
  refine Br.f rfl ?_
  refine Br.f rfl ?_
  exact h
theorem grow_c (n : Int) (h1 : 1 ≤ n) (h2 : n ≤ 1099511627776) (K : AV → Store → Prop) (h : K (.osl 1 0 0 0) [none, some (.buf 1 [] (some 5))]) : Cal Try.prog 56 [.p (.sl .nil 0 []), .p (ii n)] [] K := by
  refine Cal.retract ?_
  refine Cal.intro Try.func56 (by decide +kernel) rfl rfl ?_
  have e0 : IntKind.i64.wrap (n - IntKind.i64.wrap (0 - 0)) = n := by rw [wrap_i64 (n := 0 - 0) (by omega) (by omega), wrap_i64 (by omega) (by omega)]; omega
  have c1 : decide (n < 0) = false := decide_eq_false (by omega)
  have c2 : decide (IntKind.i64.wrap (n - IntKind.i64.wrap (0 - 0)) > 0) = true := decide_eq_true (by rw [e0]; omega)
  refine Br.f c1 ?_
  refine Br.t c2 ?_
  refine Ob.mk (by decide) ?_
  have e1 : IntKind.i64.wrap (n - IntKind.i64.wrap (0 - (([] : List PV).length : Int))) = n := e0
  refine Ob.mk ⟨?_, ?_⟩ ?_
  · show 1 ≤ IntKind.i64.wrap (n - IntKind.i64.wrap (0 - (([] : List PV).length : Int)))
    rw [e1]; exact h1
  · show IntKind.i64.wrap (n - IntKind.i64.wrap (0 - (([] : List PV).length : Int))) * 1 ≤ _
    rw [e1]; omega
  refine Ob.mk ⟨rfl, by decide, by decide, Int.natCast_nonneg _⟩ ?_
  exact ⟨0, _, _, _, _, _, rfl, rfl, rfl, Nat.zero_le _, h⟩

def csz (a b : List UInt8) : Nat → Int
  | 0 => 0
  | 1 => a.length
  | _ => a.length + b.length
def cbf (a b : List UInt8) : Nat → List UInt8
  | 0 => []
  | 1 => a
  | _ => a ++ b
theorem concat_c (a b : List UInt8) (hab : a.length + b.length ≤ 1099511627776) (s : Store) (K : AV → Store → Prop) (h : K (.p (bsl (a ++ b))) s) : Cal Try.prog 32 [.p (.sl .shr 1 [bsl a, bsl b])] s K := by
  refine Cal.weak ?_
  refine Cal.pure (args := [.sl .shr 1 [bsl a, bsl b]]) ?_
  refine Cal.intro Try.func32 (by decide +kernel) rfl rfl ?_
  have la := bytesP_len a
  have lb := bytesP_len b
  refine LoopX.fam [0, 3, 9, 10, 11] (fun (j : Nat) => ([(0, .p (.sl .shr 1 [bsl a, bsl b])), (3, .p (ii (csz a b j))), (9, .p (.sl .shr 1 [bsl a, bsl b])), (10, .p (ii 2)), (11, .p (ii j))], [])) (fun j => j ≤ 2) (fun j => 2 - j) 0 (Nat.zero_le _) (Trim.mk' rfl rfl rfl rfl (Nat.le_refl _)) ?_
  intro j hj
  have hj3 : j = 0 ∨ j = 1 ∨ j = 2 := by omega
  clear hj
  rcases hj3 with rfl | rfl | rfl
  · refine Br.t rfl ?_
    refine Idx.mk (bsl a) (by decide) rfl ?_
    have e : IntKind.i64.wrap (0 + ((bytesP a).length : Int)) = csz a b 1 := by rw [la, wrap_i64 (by omega) (by omega)]; show 0 + (a.length : Int) = a.length; omega
    refine Br.f (decide_eq_false (by show ¬ (IntKind.i64.wrap (0 + ((bytesP a).length : Int)) < 0); rw [e]; show ¬ ((a.length : Int) < 0); omega)) ?_
    refine ⟨1, by decide, by decide, Nat.le_refl _, Trim.mk' ?_ rfl rfl rfl (Nat.le_refl _)⟩
    refine Eq.trans (b := [_, (3, AV.p (ii (IntKind.i64.wrap (0 + ((bytesP a).length : Int))))), _, _, (11, _)]) rfl ?_
    rw [e]; rfl
  · refine Br.t rfl ?_
    refine Idx.mk (bsl b) (by decide) rfl ?_
    have e : IntKind.i64.wrap ((a.length : Int) + ((bytesP b).length : Int)) = csz a b 2 := by rw [lb, wrap_i64 (by omega) (by omega)]; rfl
    refine Br.f (decide_eq_false (by show ¬ (IntKind.i64.wrap ((a.length : Int) + ((bytesP b).length : Int)) < 0); rw [e]; show ¬ ((a.length : Int) + b.length < 0); omega)) ?_
    refine ⟨2, by decide, by decide, Nat.le_refl _, Trim.mk' ?_ rfl rfl rfl (Nat.le_refl _)⟩
    refine Eq.trans (b := [_, (3, AV.p (ii (IntKind.i64.wrap ((a.length : Int) + ((bytesP b).length : Int))))), _, _, (11, _)]) rfl ?_
    rw [e]; rfl
  · refine Br.f rfl ?_
    by_cases hz : a.length + b.length = 0
    · have ha : a = [] := List.length_eq_zero_iff.1 (by omega)
      have hb : b = [] := List.length_eq_zero_iff.1 (by omega)
      subst ha; subst hb
      refine grow_0 _ ?_
      refine LoopX.fam [6, 25, 26, 27] (fun (j : Nat) => ([(6, .p (.sl .nil 0 [])), (25, .p (.sl .shr 1 [bsl [], bsl []])), (26, .p (ii 2)), (27, .p (ii j))], [])) (fun j => j ≤ 2) (fun j => 2 - j) 0 (Nat.zero_le _) (Trim.mk' rfl rfl rfl rfl (Nat.le_refl _)) ?_
      intro j hj
      have hj3 : j = 0 ∨ j = 1 ∨ j = 2 := by omega
      clear hj
      rcases hj3 with rfl | rfl | rfl
      · refine Br.t rfl ?_
        refine Idx.mk (bsl []) (by decide) rfl ?_
        refine BrL.n ?_
        exact ⟨1, by decide, by decide, Nat.le_refl _, Trim.mk' rfl rfl rfl rfl (Nat.le_refl _)⟩
      · refine Br.t rfl ?_
        refine Idx.mk (bsl []) (by decide) rfl ?_
        refine BrL.n ?_
        exact ⟨2, by decide, by decide, Nat.le_refl _, Trim.mk' rfl rfl rfl rfl (Nat.le_refl _)⟩
      · refine Br.f rfl ?_
        exact ⟨.p (bsl []), .inl (WkA1.nil _ _), h⟩
    · refine grow_c (csz a b 2) (by show (1 : Int) ≤ (a.length : Int) + b.length; omega) (by show (a.length : Int) + b.length ≤ _; omega) _ ?_
      refine LoopX.fam [6, 25, 26, 27] (fun (j : Nat) => ([(6, .osl 1 (bytesP (cbf a b j)).length 0 (bytesP (cbf a b j)).length), (25, .p (.sl .shr 1 [bsl a, bsl b])), (26, .p (ii 2)), (27, .p (ii j))], [none, some (.buf 1 (bytesP (cbf a b j)) (some 5))])) (fun j => j ≤ 2) (fun j => 2 - j) 0 (Nat.zero_le _) (Trim.mk' rfl rfl rfl rfl (Nat.le_refl _)) ?_
      intro j hj
      have hj3 : j = 0 ∨ j = 1 ∨ j = 2 := by omega
      clear hj
      rcases hj3 with rfl | rfl | rfl
      · refine Br.t rfl ?_
        refine Idx.mk (bsl a) (by decide) rfl ?_
        refine Ob.mk ⟨rfl, rfl, rfl, ?_⟩ ?_
        · show (0 + (bytesP a).length) * 1 ≤ _; omega
        refine ⟨1, by decide, by decide, Nat.le_refl _, Trim.mk' rfl rfl rfl rfl (Nat.le_refl _)⟩
      · refine Br.t rfl ?_
        refine Idx.mk (bsl b) (by decide) rfl ?_
        refine Ob.mk ⟨rfl, rfl, rfl, ?_⟩ ?_
        · show ((bytesP a).length + (bytesP b).length) * 1 ≤ _; omega
        refine ⟨2, by decide, by decide, Nat.le_refl _, Trim.mk' ?_ ?_ rfl rfl (Nat.le_refl _)⟩
        · show [_, _, _, _] = [_, _, _, _]
          show _ = [(6, AV.osl 1 (bytesP (a ++ b)).length 0 (bytesP (a ++ b)).length), _, _, _]
          rw [bytesP_app]; rfl
        · show _ = [none, some (AObj.buf 1 (bytesP (a ++ b)) (some 5))]
          rw [bytesP_app]; rfl
      · refine Br.f rfl ?_
        refine Ob.mk rfl ?_
        have e : ((bytesP (a ++ b)).drop 0).take (bytesP (a ++ b)).length = bytesP (a ++ b) := by rw [List.drop_zero, List.take_length]
        refine ⟨.p (bsl (a ++ b)), .inl ?_, h⟩
        show WkA1 (.p (.sl .shr 1 (((bytesP (a ++ b)).drop 0).take (bytesP (a ++ b)).length))) _
        rw [e]; exact .refl _

theorem clone_c (a : List UInt8) (hl : a.length ≤ 1099511627776) (s : Store) (K : AV → Store → Prop) (h : K (.p (bsl a)) s) : Cal Try.prog 33 [.p (bsl a)] s K := by
  refine Cal.weak ?_
  refine Cal.pure (args := [bsl a]) ?_
  refine Cal.intro Try.func33 (by decide +kernel) rfl rfl ?_
  cases a with
  | nil =>
    refine ⟨?_, ?_⟩
    · refine Br.t rfl ?_
      exact ⟨.p (bsl []), .inl (WkA1.nil _ _), h⟩
    · refine Br.f rfl ?_
      refine Or.inl ?_
      refine BrL.n ?_
      exact ⟨.p (bsl []), .inl WkA1.shr, h⟩
  | cons x r =>
    refine Br.f rfl ?_
    refine Or.inl ?_
    refine BrL.c ?_
    refine Ob.mk ?_ ?_
    · show (0 + (bytesP (x :: r)).length) * 1 ≤ _; rw [bytesP_len]; omega
    · refine Ob.mk rfl ?_
      have e : (([] ++ bytesP (x :: r)).drop 0).take ([] ++ bytesP (x :: r)).length = bytesP (x :: r) := by rw [List.drop_zero, List.take_length]; rfl
      refine ⟨.p (bsl (x :: r)), .inl ?_, h⟩
      show WkA1 (.p (.sl .shr 1 ((([] ++ bytesP (x :: r)).drop 0).take ([] ++ bytesP (x :: r)).length))) _
      rw [e]; exact .refl _
end Go.Proofs.Ytneheklmkbhieaa.AW

open Go Go.Proofs.Ytneheklmkbhieaa.AW Go.Proofs
namespace Go.Proofs.Ytneheklmkbhieaa.AW
set_option maxRecDepth 100000
set_option linter.unusedSimpArgs false
set_option linter.unusedVariables false

abbrev okst {a b : Nat} {c : Bool} {x y : Nat} (h1 : a = b) (h2 : Nat.ble x y = true) (h3 : c = true) : a = b ∧ x ≤ y ∧ c = true := ⟨h1, Nat.le_of_ble_eq_true h2, h3⟩

/-! ### Files, as a list -/
abbrev FE := Nat × List UInt8 × List UInt8 × Nat
def fval (b : List UInt8) (l : Nat) : PV := .agg [bsl b, ii l]
def ent (q : FE) : Nat × PV × PV := (q.1, .str q.2.1, fval q.2.2.1 q.2.2.2)
def fGet : List FE → List UInt8 → Option (List UInt8 × Nat)
  | [], _ => none
  | (_, m, b, l) :: r, n => if n = m then some (b, l) else fGet r n
def fSet : List FE → List UInt8 → List UInt8 → Nat → List FE
  | [], _, _, _ => []
  | (t, m, b, l) :: r, n, x, k => if n = m then (t, n, x, k) :: r else (t, m, b, l) :: fSet r n x k
def fDel : List FE → List UInt8 → List FE
  | [], _ => []
  | (t, m, b, l) :: r, n => if n = m then r else (t, m, b, l) :: fDel r n
def fPut (es : List FE) (cl : Nat) (n x : List UInt8) (k : Nat) : List FE := match fGet es n with | some _ => fSet es n x k | none => es ++ [(cl, n, x, k)]
def fCl (es : List FE) (cl : Nat) (n : List UInt8) : Nat := match fGet es n with | some _ => cl | none => cl + 1

theorem key_str (a b : List UInt8) : keyEq (.str a) (.str b) = decide (a = b) := by
  show (a == b) = _
  by_cases h : a = b
  · subst h; simp
  · rw [decide_eq_false h]; simpa using h
theorem get_ent (n : List UInt8) : ∀ es : List FE, mGet (es.map ent) (.str n) = (fGet es n).map fun q => fval q.1 q.2
  | [] => rfl
  | (t, m, b, l) :: r => by
    rw [List.map_cons]
    show (match keyEq (.str n) (.str m) with | true => some (fval b l) | false => mGet (r.map ent) (.str n)) = _
    rw [key_str, fGet]
    by_cases h : n = m
    · rw [decide_eq_true h, if_pos h]; rfl
    · rw [decide_eq_false h, if_neg h]; exact get_ent n r
theorem set_ent (n x : List UInt8) (k : Nat) : ∀ es : List FE, mSet (es.map ent) (.str n) (fval x k) = (fSet es n x k).map ent
  | [] => rfl
  | (t, m, b, l) :: r => by
    rw [List.map_cons]
    show (match keyEq (.str n) (.str m) with | true => (t, PV.str n, fval x k) :: r.map ent | false => (t, PV.str m, fval b l) :: mSet (r.map ent) (.str n) (fval x k)) = _
    rw [key_str, fSet]
    by_cases h : n = m
    · rw [decide_eq_true h, if_pos h]; rfl
    · rw [decide_eq_false h, if_neg h, List.map_cons, ← set_ent n x k r]; rfl
theorem del_ent (n : List UInt8) : ∀ es : List FE, mDel (es.map ent) (.str n) = (fDel es n).map ent
  | [] => rfl
  | (t, m, b, l) :: r => by
    rw [List.map_cons]
    show (match keyEq (.str n) (.str m) with | true => r.map ent | false => (t, PV.str m, fval b l) :: mDel (r.map ent) (.str n)) = _
    rw [key_str, fDel]
    by_cases h : n = m
    · rw [decide_eq_true h, if_pos h]
    · rw [decide_eq_false h, if_neg h, List.map_cons, ← del_ent n r]; rfl
theorem put_ent (es : List FE) (cl : Nat) (n x : List UInt8) (k : Nat) : mPut (es.map ent) cl (.str n) (fval x k) = (fPut es cl n x k).map ent := by
  unfold mPut fPut
  rw [get_ent]
  cases fGet es n with
  | none => simp only [Option.map_none, List.map_append]; rfl
  | some q => exact set_ent n x k es
theorem clk_ent (es : List FE) (cl : Nat) (n : List UInt8) : mClock (es.map ent) cl (.str n) = fCl es cl n := by
  unfold mClock fCl
  rw [get_ent]
  cases fGet es n <;> rfl

def fsS (es : List FE) (cl : Nat) (left deeds : Int) : Store := [some (.map .str (es.map ent) cl), some (.cells [.map 0, .p (ii left), .p (ii deeds)])]
abbrev fsP : AV := .ref 1 0

theorem new_c (K : AV → Store → Prop) (h : K fsP (fsS [] 0 (-1) 0)) : Cal Try.prog 10 [] [] K := by
  refine Cal.intro Try.func10 (by decide +kernel) rfl rfl ?_
  exact h

def lft (left : Int) : Int := if 0 < left then left - 1 else left
theorem does_c (es : List FE) (cl : Nat) (left deeds : Int) (hl : -9223372036854775808 ≤ left ∧ left < 9223372036854775808) (hd : 0 ≤ deeds ∧ deeds < 9223372036854775807) (K : AV → Store → Prop)
    (h0 : left = 0 → K (.p (.bool false)) (fsS es cl left deeds)) (h1 : left ≠ 0 → K (.p (.bool true)) (fsS es cl (lft left) (deeds + 1))) : Cal Try.prog 31 [fsP] (fsS es cl left deeds) K := by
  refine Cal.intro Try.func31 (by decide +kernel) rfl rfl ?_
  have ed : IntKind.i64.wrap (deeds + 1) = deeds + 1 := by rw [wrap_i64] <;> omega
  by_cases hz : left = 0
  · refine Br.t (by show (left == 0) = true; rw [hz]; rfl) ?_
    exact h0 hz
  · refine Br.f (by show (left == 0) = false; simpa using hz) ?_
    have h1 := h1 hz
    by_cases hp : 0 < left
    · have el : IntKind.i64.wrap (left - 1) = left - 1 := by rw [wrap_i64] <;> omega
      have e2 : lft left = left - 1 := if_pos hp
      rw [e2, ← el, ← ed] at h1
      refine Br.t (decide_eq_true (show left > 0 from hp)) ?_
      refine Ob.mk (okst rfl rfl rfl) ?_
      refine Ob.mk (okst rfl rfl rfl) ?_
      exact h1
    · have e2 : lft left = left := if_neg hp
      rw [e2, ← ed] at h1
      refine Br.f (decide_eq_false (show ¬ left > 0 from hp)) ?_
      refine Ob.mk (okst rfl rfl rfl) ?_
      exact h1
end Go.Proofs.Ytneheklmkbhieaa.AW

open Go Go.Proofs.Ytneheklmkbhieaa.AW Go.Proofs
namespace Go.Proofs.Ytneheklmkbhieaa.AW
set_option maxRecDepth 100000
set_option linter.unusedSimpArgs false
set_option linter.unusedVariables false

def fB (es : List FE) (n : List UInt8) : List UInt8 := match fGet es n with | some q => q.1 | none => []
def fL (es : List FE) (n : List UInt8) : Nat := match fGet es n with | some q => q.2 | none => 0
theorem concat_v {a b c : List UInt8} (hc : a ++ b = c) (hab : a.length + b.length ≤ 1099511627776) (s : Store) (K : AV → Store → Prop) (h : K (.p (bsl c)) s) : Cal Try.prog 32 [.p (.sl .clip 1 [bsl a, bsl b])] s K :=
  Cal.arg1 (concat_c a b hab s K (by rw [hc]; exact h)) (.sl .clip 1 _ _ rfl (fun y hy => by
    rcases List.mem_cons.1 hy with rfl | hy
    · exact ⟨rfl, rfl⟩
    · have := List.mem_singleton.1 hy; subst this; exact ⟨rfl, rfl⟩) (.cons _ _ _ _ (.refl _) (.cons _ _ _ _ (.refl _) .nil)))
theorem concat_n {b : List UInt8} (hab : b.length ≤ 1099511627776) (s : Store) (K : AV → Store → Prop) (h : K (.p (bsl b)) s) : Cal Try.prog 32 [.p (.sl .clip 1 [.sl .nil 0 [], bsl b])] s K :=
  Cal.arg1 (concat_c [] b (by simpa using hab) s K h) (.sl .clip 1 _ [bsl [], bsl b] rfl (fun y hy => by
    rcases List.mem_cons.1 hy with rfl | hy
    · exact ⟨rfl, rfl⟩
    · have := List.mem_singleton.1 hy; subst this; exact ⟨rfl, rfl⟩) (.cons _ _ _ _ (.nil 0 .shr 1) (.cons _ _ _ _ (.refl _) .nil)))
theorem clone_n (s : Store) (K : AV → Store → Prop) (h : K (.p (bsl [])) s) : Cal Try.prog 33 [.p (.sl .nil 0 [])] s K :=
  Cal.arg1 (clone_c [] (by decide) s K h) (.nil 0 .shr 1)

structure FOk (es : List FE) (left deeds : Int) : Prop where
  l : -9223372036854775808 ≤ left ∧ left < 9223372036854775808
  d : 0 ≤ deeds ∧ deeds < 9223372036854775807
  b : ∀ n q, fGet es n = some q → q.1.length + 1 ≤ 549755813888 ∧ q.2 ≤ q.1.length

theorem append_c (es : List FE) (cl : Nat) (left deeds : Int) (hok : FOk es left deeds) (n b : List UInt8) (hn : n.length < 1099511627776) (hb : b.length ≤ 549755813888) (K : AV → Store → Prop)
    (h1 : isRt n = false → K (.p (ii 1)) (fsS es cl left deeds)) (h2 : isRt n = true → fGet es n = none → 64 ≤ es.length → K (.p (ii 17)) (fsS es cl left deeds))
    (h3 : isRt n = true → (fGet es n = none → es.length < 64) → left = 0 → K (.p (ii 0)) (fsS es cl left deeds))
    (h4 : isRt n = true → (fGet es n = none → es.length < 64) → left ≠ 0 → K (.p (ii 0)) (fsS (fPut es cl n (fB es n ++ b) (fL es n)) (fCl es cl n) (lft left) (deeds + 1))) :
    Cal Try.prog 11 [fsP, .p (.str n), .p (bsl b)] (fsS es cl left deeds) K := by
  refine Cal.cut ?_
  refine Cal.intro Try.func11 (by decide +kernel) rfl rfl ?_
  have hge := get_ent n es
  have hml : (es.map ent).length = es.length := List.length_map ..
  cases hg : fGet es n with
  | none =>
    rw [hg] at hge
    have fin : ∀ x k, fval x k = fval x k → (fPut es cl n x k).map ent = mPut (es.map ent) cl (.str n) (fval x k) := fun x k _ => (put_ent es cl n x k).symm
    refine Opt.n hge ?_
    refine Ob.mk (okst rfl rfl rfl) ?_
    cases hr : isRt n with
    | false =>
      refine right_c n (by omega) _ _ ?_
      rw [hr]
      refine Br.t rfl ?_
      exact ⟨2, _, Nat.le_refl 2, (show (2 : Nat) ≤ 3 by decide), rfl, rfl, WkS.refl _, h1 hr⟩
    | true =>
      refine right_c n (by omega) _ _ ?_
      rw [hr]
      refine Br.f rfl ?_
      repeat refine Br.t rfl ?_
      by_cases h64 : 64 ≤ es.length
      · refine Br.t (decide_eq_true (show (((es.map ent).length : Nat) : Int) ≥ 64 by rw [hml]; omega)) ?_
        exact ⟨2, _, Nat.le_refl 2, (show (2 : Nat) ≤ 3 by decide), rfl, rfl, WkS.refl _, h2 hr hg h64⟩
      · refine Br.f (decide_eq_false (show ¬ (((es.map ent).length : Nat) : Int) ≥ 64 by rw [hml]; omega)) ?_
        refine Cal.frameK [0, 1] (does_c es cl left deeds hok.l hok.d _ (fun h0 _ => ?_) (fun h0 _ => ?_)) rfl rfl rfl
        · refine Br.f rfl ?_
          exact ⟨2, _, Nat.le_refl 2, (show (2 : Nat) ≤ 3 by decide), rfl, rfl, WkS.refl _, h3 hr (fun _ => by omega) h0⟩
        · refine Br.t rfl ?_
          repeat (first | refine ⟨_, ⟨rfl, rfl⟩, ?_⟩ | refine ⟨_, _, ⟨rfl, rfl⟩, rfl, ?_⟩ | refine ⟨_, fun s' => concat_n (b := b) (by omega) s' _ ⟨rfl, rfl⟩, rfl, ?_⟩)
          refine Chk.mk (by kernel_rfl) ?_
          have h4 := h4 hr (fun _ => by omega) h0
          unfold fB fL at h4
          rw [hg] at h4
          have e1 := put_ent es cl n ([] ++ b) 0
          have e2 := clk_ent es cl n
          refine ⟨2, fsS (fPut es cl n ([] ++ b) 0) (fCl es cl n) (lft left) (deeds + 1), Nat.le_refl 2, (show (2 : Nat) ≤ 3 by decide), rfl, rfl, ?_, h4⟩
          show WkS [some (.map .str (mPut (es.map ent) cl (.str n) (fval b 0)) (mClock (es.map ent) cl (.str n))), _] [some (.map .str ((fPut es cl n ([] ++ b) 0).map ent) (fCl es cl n)), _]
          rw [← e1, ← e2]
          exact WkS.refl _
  | some q =>
    rw [hg] at hge
    have hqb := (hok.b n q hg).1
    refine Opt.s hge ?_
    refine Ob.mk (okst rfl rfl rfl) ?_
    cases hr : isRt n with
    | false =>
      refine right_c n (by omega) _ _ ?_
      rw [hr]
      refine Br.t rfl ?_
      exact ⟨2, _, Nat.le_refl 2, (show (2 : Nat) ≤ 3 by decide), rfl, rfl, WkS.refl _, h1 hr⟩
    | true =>
      refine right_c n (by omega) _ _ ?_
      rw [hr]
      refine Br.f rfl ?_
      repeat refine Br.f rfl ?_
      refine Cal.frameK [0, 1] (does_c es cl left deeds hok.l hok.d _ (fun h0 _ => ?_) (fun h0 _ => ?_)) rfl rfl rfl
      · refine Br.f rfl ?_
        exact ⟨2, _, Nat.le_refl 2, (show (2 : Nat) ≤ 3 by decide), rfl, rfl, WkS.refl _, h3 hr (fun h => by rw [hg] at h; cases h) h0⟩
      · refine Br.t rfl ?_
        repeat (first | refine ⟨_, ⟨rfl, rfl⟩, ?_⟩ | refine ⟨_, _, ⟨rfl, rfl⟩, rfl, ?_⟩ | refine ⟨_, fun s' => concat_v (a := q.1) (b := b) rfl (by omega) s' _ ⟨rfl, rfl⟩, rfl, ?_⟩)
        refine Chk.mk (by kernel_rfl) ?_
        have h4 := h4 hr (fun h => by rw [hg] at h; cases h) h0
        unfold fB fL at h4
        rw [hg] at h4
        have e1 := put_ent es cl n (q.1 ++ b) q.2
        have e2 := clk_ent es cl n
        refine ⟨2, fsS (fPut es cl n (q.1 ++ b) q.2) (fCl es cl n) (lft left) (deeds + 1), Nat.le_refl 2, (show (2 : Nat) ≤ 3 by decide), rfl, rfl, ?_, h4⟩
        show WkS [some (.map .str (mPut (es.map ent) cl (.str n) (fval (q.1 ++ b) q.2)) (mClock (es.map ent) cl (.str n))), _] [some (.map .str ((fPut es cl n (q.1 ++ b) q.2).map ent) (fCl es cl n)), _]
        rw [← e1, ← e2]
        exact WkS.refl _

theorem sync_c (es : List FE) (cl : Nat) (left deeds : Int) (hok : FOk es left deeds) (n : List UInt8) (K : AV → Store → Prop)
    (h1 : fGet es n = none → K (.p (ii 22)) (fsS es cl left deeds)) (h3 : ∀ q, fGet es n = some q → left = 0 → K (.p (ii 0)) (fsS es cl left deeds))
    (h4 : ∀ q, fGet es n = some q → left ≠ 0 → K (.p (ii 0)) (fsS (fSet es n q.1 q.1.length) cl (lft left) (deeds + 1))) :
    Cal Try.prog 12 [fsP, .p (.str n)] (fsS es cl left deeds) K := by
  refine Cal.cut ?_
  refine Cal.intro Try.func12 (by decide +kernel) rfl rfl ?_
  have hge := get_ent n es
  cases hg : fGet es n with
  | none =>
    rw [hg] at hge
    refine Opt.n hge ?_
    refine Ob.mk (okst rfl rfl rfl) ?_
    refine Br.t rfl ?_
    exact ⟨2, _, Nat.le_refl 2, (show (2 : Nat) ≤ 3 by decide), rfl, rfl, WkS.refl _, h1 hg⟩
  | some q =>
    rw [hg] at hge
    refine Opt.s hge ?_
    refine Ob.mk (okst rfl rfl rfl) ?_
    refine Br.f rfl ?_
    refine Cal.frameK [0, 1] (does_c es cl left deeds hok.l hok.d _ (fun h0 _ => ?_) (fun h0 _ => ?_)) rfl rfl rfl
    · refine Br.f rfl ?_
      exact ⟨2, _, Nat.le_refl 2, (show (2 : Nat) ≤ 3 by decide), rfl, rfl, WkS.refl _, h3 q hg h0⟩
    · refine Br.t rfl ?_
      repeat (first | refine ⟨_, ⟨rfl, rfl⟩, ?_⟩ | refine ⟨_, _, ⟨rfl, rfl⟩, rfl, ?_⟩)
      refine Chk.mk (by kernel_rfl) ?_
      have h4 := h4 q hg h0
      have e1 := put_ent es cl n q.1 q.1.length
      have e2 := clk_ent es cl n
      have e3 : fPut es cl n q.1 q.1.length = fSet es n q.1 q.1.length := by unfold fPut; rw [hg]
      have e4 : fCl es cl n = cl := by unfold fCl; rw [hg]
      rw [e3] at e1
      rw [e4] at e2
      refine ⟨2, fsS (fSet es n q.1 q.1.length) cl (lft left) (deeds + 1), Nat.le_refl 2, (show (2 : Nat) ≤ 3 by decide), rfl, rfl, ?_, h4⟩
      show WkS [some (.map .str (mPut (es.map ent) cl (.str n) (.agg [bsl q.1, ii (bytesP q.1).length])) (mClock (es.map ent) cl (.str n))), _] [some (.map .str ((fSet es n q.1 q.1.length).map ent) cl), _]
      rw [bytesP_len, ← e1, e2]
      exact WkS.refl _

theorem read_c (es : List FE) (cl : Nat) (left deeds : Int) (hok : FOk es left deeds) (n : List UInt8) (K : AV → Store → Prop)
    (h : K (.tup [.p (bsl (fB es n)), .p (.bool (fGet es n).isSome)]) (fsS es cl left deeds)) : Cal Try.prog 14 [fsP, .p (.str n)] (fsS es cl left deeds) K := by
  refine Cal.cut ?_
  refine Cal.intro Try.func14 (by decide +kernel) rfl rfl ?_
  have hge := get_ent n es
  unfold fB at h
  cases hg : fGet es n with
  | none =>
    rw [hg] at hge h
    refine Opt.n hge ?_
    refine Ob.mk (okst rfl rfl rfl) ?_
    refine clone_n _ _ ?_
    exact ⟨2, _, Nat.le_refl 2, (show (2 : Nat) ≤ 3 by decide), rfl, rfl, WkS.refl _, h⟩
  | some q =>
    rw [hg] at hge h
    have hqb := (hok.b n q hg).1
    refine Opt.s hge ?_
    refine Ob.mk (okst rfl rfl rfl) ?_
    refine clone_c q.1 (by omega) _ _ ?_
    exact ⟨2, _, Nat.le_refl 2, (show (2 : Nat) ≤ 3 by decide), rfl, rfl, WkS.refl _, h⟩

theorem len_c (es : List FE) (cl : Nat) (left deeds : Int) (n : List UInt8) (K : AV → Store → Prop)
    (h : K (.p (ii (fB es n).length)) (fsS es cl left deeds)) : Cal Try.prog 18 [fsP, .p (.str n)] (fsS es cl left deeds) K := by
  refine Cal.intro Try.func18 (by decide +kernel) rfl rfl ?_
  have hge := get_ent n es
  unfold fB at h
  cases hg : fGet es n with
  | none =>
    rw [hg] at hge h
    refine Opt.n hge ?_
    exact h
  | some q =>
    rw [hg] at hge h
    refine Opt.s hge ?_
    have e : ((bytesP q.1).length : Int) = (q.1.length : Int) := by rw [bytesP_len]
    have h : K (.p (ii q.1.length)) (fsS es cl left deeds) := h
    rw [← e] at h
    exact h
theorem deeds_c (es : List FE) (cl : Nat) (left deeds : Int) (K : AV → Store → Prop) (h : K (.p (ii deeds)) (fsS es cl left deeds)) : Cal Try.prog 19 [fsP] (fsS es cl left deeds) K := by
  refine Cal.intro Try.func19 (by decide +kernel) rfl rfl ?_
  exact h
theorem stop_c (es : List FE) (cl : Nat) (left deeds n : Int) (K : AV → Store → Prop) (h : K (.tup []) (fsS es cl (if n > -1 then n else -1) deeds)) : Cal Try.prog 21 [fsP, .p (ii n)] (fsS es cl left deeds) K := by
  refine Cal.intro Try.func21 (by decide +kernel) rfl rfl ?_
  refine Ob.mk (okst rfl rfl rfl) ?_
  exact h

theorem remove_c (es : List FE) (cl : Nat) (left deeds : Int) (hok : FOk es left deeds) (n : List UInt8) (K : AV → Store → Prop)
    (h1 : fGet es n = none → K (.p (ii 22)) (fsS es cl left deeds)) (h3 : ∀ q, fGet es n = some q → left = 0 → K (.p (ii 0)) (fsS es cl left deeds))
    (h4 : ∀ q, fGet es n = some q → left ≠ 0 → K (.p (ii 0)) (fsS (fDel es n) cl (lft left) (deeds + 1))) :
    Cal Try.prog 23 [fsP, .p (.str n)] (fsS es cl left deeds) K := by
  refine Cal.cut ?_
  refine Cal.intro Try.func23 (by decide +kernel) rfl rfl ?_
  have hge := get_ent n es
  cases hg : fGet es n with
  | none =>
    rw [hg] at hge
    refine Opt.n hge ?_
    refine Ob.mk (okst rfl rfl rfl) ?_
    refine Br.t rfl ?_
    exact ⟨2, _, Nat.le_refl 2, (show (2 : Nat) ≤ 3 by decide), rfl, rfl, WkS.refl _, h1 hg⟩
  | some q =>
    rw [hg] at hge
    refine Opt.s hge ?_
    refine Ob.mk (okst rfl rfl rfl) ?_
    refine Br.f rfl ?_
    refine Cal.frameK [0, 1] (does_c es cl left deeds hok.l hok.d _ (fun h0 _ => ?_) (fun h0 _ => ?_)) rfl rfl rfl
    · refine Br.f rfl ?_
      exact ⟨2, _, Nat.le_refl 2, (show (2 : Nat) ≤ 3 by decide), rfl, rfl, WkS.refl _, h3 q hg h0⟩
    · refine Br.t rfl ?_
      have h4 := h4 q hg h0
      refine ⟨2, fsS (fDel es n) cl (lft left) (deeds + 1), Nat.le_refl 2, (show (2 : Nat) ≤ 3 by decide), rfl, rfl, ?_, h4⟩
      show WkS [some (.map .str (mDel (es.map ent) (.str n)) cl), _] [some (.map .str ((fDel es n).map ent) cl), _]
      rw [← del_ent]
      exact WkS.refl _

theorem rename_c (es : List FE) (cl : Nat) (left deeds : Int) (hok : FOk es left deeds) (a b : List UInt8) (hb : b.length < 1099511627776) (K : AV → Store → Prop)
    (h1 : fGet es a = none → K (.p (ii 22)) (fsS es cl left deeds)) (h2 : ∀ q, fGet es a = some q → isRt b = false → K (.p (ii 1)) (fsS es cl left deeds)) (h3 : ∀ q, fGet es a = some q → isRt b = true → left = 0 → K (.p (ii 0)) (fsS es cl left deeds))
    (h4 : ∀ q, fGet es a = some q → isRt b = true → left ≠ 0 → K (.p (ii 0)) (fsS (fPut (fDel es a) cl b q.1 q.2) (fCl (fDel es a) cl b) (lft left) (deeds + 1))) :
    Cal Try.prog 16 [fsP, .p (.str a), .p (.str b)] (fsS es cl left deeds) K := by
  refine Cal.cut ?_
  refine Cal.intro Try.func16 (by decide +kernel) rfl rfl ?_
  have hge := get_ent a es
  cases hg : fGet es a with
  | none =>
    rw [hg] at hge
    refine Opt.n hge ?_
    refine Ob.mk (okst rfl rfl rfl) ?_
    refine Br.t rfl ?_
    exact ⟨2, _, Nat.le_refl 2, (show (2 : Nat) ≤ 3 by decide), rfl, rfl, WkS.refl _, h1 hg⟩
  | some q =>
    rw [hg] at hge
    refine Opt.s hge ?_
    refine Ob.mk (okst rfl rfl rfl) ?_
    refine Br.f rfl ?_
    cases hr : isRt b with
    | false =>
      refine right_c b (by omega) _ _ ?_
      rw [hr]
      refine Br.t rfl ?_
      exact ⟨2, _, Nat.le_refl 2, (show (2 : Nat) ≤ 3 by decide), rfl, rfl, WkS.refl _, h2 q hg hr⟩
    | true =>
      refine right_c b (by omega) _ _ ?_
      rw [hr]
      refine Br.f rfl ?_
      refine Cal.frameK [0, 1] (does_c es cl left deeds hok.l hok.d _ (fun h0 _ => ?_) (fun h0 _ => ?_)) rfl rfl rfl
      · refine Br.f rfl ?_
        exact ⟨2, _, Nat.le_refl 2, (show (2 : Nat) ≤ 3 by decide), rfl, rfl, WkS.refl _, h3 q hg hr h0⟩
      · refine Br.t rfl ?_
        repeat (first | refine ⟨_, ⟨rfl, rfl⟩, ?_⟩ | refine ⟨_, _, ⟨rfl, rfl⟩, rfl, ?_⟩)
        refine Chk.mk (by kernel_rfl) ?_
        have h4 := h4 q hg hr h0
        have e1 := put_ent (fDel es a) cl b q.1 q.2
        have e2 := clk_ent (fDel es a) cl b
        refine ⟨2, fsS (fPut (fDel es a) cl b q.1 q.2) (fCl (fDel es a) cl b) (lft left) (deeds + 1), Nat.le_refl 2, (show (2 : Nat) ≤ 3 by decide), rfl, rfl, ?_, h4⟩
        show WkS [some (.map .str (mPut (mDel (es.map ent) (.str a)) cl (.str b) (fval q.1 q.2)) (mClock (mDel (es.map ent) (.str a)) cl (.str b))), _] [some (.map .str ((fPut (fDel es a) cl b q.1 q.2).map ent) (fCl (fDel es a) cl b)), _]
        rw [← e1, ← e2, ← del_ent]
        exact WkS.refl _

theorem truncate_c (es : List FE) (cl : Nat) (left deeds : Int) (hok : FOk es left deeds) (n : List UInt8) (k : Int) (K : AV → Store → Prop)
    (h1 : fGet es n = none → K (.p (ii 22)) (fsS es cl left deeds)) (h2 : ∀ q, fGet es n = some q → (k < 0 ∨ k > q.1.length) → K (.p (ii 1)) (fsS es cl left deeds)) (h3 : ∀ q, fGet es n = some q → 0 ≤ k → k ≤ q.1.length → left = 0 → K (.p (ii 0)) (fsS es cl left deeds))
    (h4 : ∀ q, fGet es n = some q → 0 ≤ k → k ≤ q.1.length → left ≠ 0 → K (.p (ii 0)) (fsS (fSet es n (q.1.take k.toNat) k.toNat) cl (lft left) (deeds + 1))) :
    Cal Try.prog 24 [fsP, .p (.str n), .p (ii k)] (fsS es cl left deeds) K := by
  refine Cal.cut ?_
  refine Cal.intro Try.func24 (by decide +kernel) rfl rfl ?_
  have hge := get_ent n es
  cases hg : fGet es n with
  | none =>
    rw [hg] at hge
    refine Opt.n hge ?_
    refine Ob.mk (okst rfl rfl rfl) ?_
    refine Br.t rfl ?_
    exact ⟨2, _, Nat.le_refl 2, (show (2 : Nat) ≤ 3 by decide), rfl, rfl, WkS.refl _, h1 hg⟩
  | some q =>
    rw [hg] at hge
    have hqb := (hok.b n q hg).1
    have lq := bytesP_len q.1
    refine Opt.s hge ?_
    refine Ob.mk (okst rfl rfl rfl) ?_
    refine Br.f rfl ?_
    by_cases hk : k < 0
    · have c1 : decide (k < 0) = true := decide_eq_true hk
      repeat (first | refine Br.t c1 ?_ | refine Br.f (show (decide (k < 0) == false) = false by rw [c1]; rfl) ?_ | refine Br.t rfl ?_)
      exact ⟨2, _, Nat.le_refl 2, (show (2 : Nat) ≤ 3 by decide), rfl, rfl, WkS.refl _, h2 q hg (.inl hk)⟩
    · have c1 : decide (k < 0) = false := decide_eq_false hk
      have c1' : (decide (k < 0) == false) = true := by rw [c1]; rfl
      by_cases hk2 : k > q.1.length
      · have c2 : decide (k > ((bytesP q.1).length : Int)) = true := decide_eq_true (by rw [lq]; exact hk2)
        repeat (first | refine Br.f c1 ?_ | refine Br.t c1' ?_ | refine Br.t c2 ?_ | refine Br.t rfl ?_)
        exact ⟨2, _, Nat.le_refl 2, (show (2 : Nat) ≤ 3 by decide), rfl, rfl, WkS.refl _, h2 q hg (.inr hk2)⟩
      · have c2 : decide (k > ((bytesP q.1).length : Int)) = false := decide_eq_false (by rw [lq]; exact hk2)
        repeat (first | refine Br.f c1 ?_ | refine Br.t c1' ?_ | refine Br.f c2 ?_ | refine Br.f rfl ?_)
        refine Cal.frameK [0, 1] (does_c es cl left deeds hok.l hok.d _ (fun h0 _ => ?_) (fun h0 _ => ?_)) rfl rfl rfl
        · refine Br.f rfl ?_
          exact ⟨2, _, Nat.le_refl 2, (show (2 : Nat) ≤ 3 by decide), rfl, rfl, WkS.refl _, h3 q hg (by omega) (by omega) h0⟩
        · refine Br.t rfl ?_
          have e0 : ((bytesP q.1).take k.toNat).drop (0 : Int).toNat = bytesP (q.1.take k.toNat) := by
            show ((bytesP q.1).take k.toNat).drop 0 = _
            rw [List.drop_zero]; unfold bytesP; rw [List.map_take]
          have hcl : ∀ s' K', K' (.p (bsl (q.1.take k.toNat))) s' → Cal Try.prog 33 [.p (.sl .shr 1 (((bytesP q.1).take k.toNat).drop (0 : Int).toNat))] s' K' := fun s' K' hK => by
            rw [e0]; exact clone_c (q.1.take k.toNat) (by rw [List.length_take]; omega) s' K' hK
          repeat (first | refine ⟨_, ⟨rfl, rfl⟩, ?_⟩ | refine ⟨_, _, ⟨rfl, rfl⟩, rfl, ?_⟩ | refine ⟨_, Ob.mk ⟨Int.le_refl 0, by omega, by rw [lq]; omega⟩ ⟨rfl, rfl⟩, ?_⟩ | refine ⟨_, fun s' => hcl s' _ ⟨rfl, rfl⟩, rfl, ?_⟩)
          refine Chk.mk (by kernel_rfl) ?_
          have h4 := h4 q hg (by omega) (by omega) h0
          have e1 := put_ent es cl n (q.1.take k.toNat) k.toNat
          have e2 := clk_ent es cl n
          have e3 : fPut es cl n (q.1.take k.toNat) k.toNat = fSet es n (q.1.take k.toNat) k.toNat := by unfold fPut; rw [hg]
          have e4 : fCl es cl n = cl := by unfold fCl; rw [hg]
          have e5 : (k.toNat : Int) = k := by omega
          rw [e3] at e1
          rw [e4] at e2
          refine ⟨2, fsS (fSet es n (q.1.take k.toNat) k.toNat) cl (lft left) (deeds + 1), Nat.le_refl 2, (show (2 : Nat) ≤ 3 by decide), rfl, rfl, ?_, h4⟩
          show WkS [some (.map .str (mPut (es.map ent) cl (.str n) (.agg [bsl (q.1.take k.toNat), ii k])) (mClock (es.map ent) cl (.str n))), _] [some (.map .str ((fSet es n (q.1.take k.toNat) k.toNat).map ent) cl), _]
          rw [← e1, e2]
          unfold fval
          rw [e5]
          exact WkS.refl _
end Go.Proofs.Ytneheklmkbhieaa.AW

open Go Go.Proofs.Ytneheklmkbhieaa.AW Go.Proofs
namespace Go.Proofs.Ytneheklmkbhieaa.AW
set_option maxRecDepth 100000
set_option linter.unusedSimpArgs false
set_option linter.unusedVariables false

/-! ### The order of names -/
theorem cmpR_lt {x y : Int} (h : x < y) (a b : List Int) : cmpR (x :: a) (y :: b) = -1 := by
  have : cmp1 x y = -1 := by unfold cmp1; rw [if_pos h]
  rw [cmpR, this]; rfl
theorem cmpR_gt {x y : Int} (h : y < x) (a b : List Int) : cmpR (x :: a) (y :: b) = 1 := by
  have : cmp1 x y = 1 := by unfold cmp1; rw [if_neg (by omega), if_pos h]
  rw [cmpR, this]; rfl
theorem cmpR_eq (x : Int) (a b : List Int) : cmpR (x :: a) (x :: b) = cmpR a b := by
  have : cmp1 x x = 0 := by unfold cmp1; rw [if_neg (by omega), if_neg (by omega)]
  rw [cmpR, this]; rfl
theorem cmpR_self : ∀ a : List Int, cmpR a a = 0
  | [] => rfl
  | x :: a => by rw [cmpR_eq, cmpR_self a]
theorem cmpR_tot : ∀ a b : List Int, cmpR a b < 0 ∨ a = b ∨ cmpR b a < 0
  | [], [] => .inr (.inl rfl)
  | [], _ :: _ => .inl (by simp [cmpR])
  | _ :: _, [] => .inr (.inr (by simp [cmpR]))
  | x :: a, y :: b => by
    rcases Int.lt_trichotomy x y with h | h | h
    · exact .inl (by rw [cmpR_lt h]; omega)
    · subst h
      rw [cmpR_eq, cmpR_eq]
      rcases cmpR_tot a b with k | k | k
      · exact .inl k
      · exact .inr (.inl (by rw [k]))
      · exact .inr (.inr k)
    · exact .inr (.inr (by rw [cmpR_lt h]; omega))
theorem cmpR_trans : ∀ a b c : List Int, cmpR a b < 0 → cmpR b c < 0 → cmpR a c < 0
  | [], [], c, h, _ => by simp [cmpR] at h
  | [], _ :: _, [], _, k => by simp [cmpR] at k
  | [], _ :: _, _ :: _, _, _ => by simp [cmpR]
  | _ :: _, [], _, h, _ => by simp [cmpR] at h
  | _ :: _, _ :: _, [], _, k => by simp [cmpR] at k
  | x :: a, y :: b, z :: c, h, k => by
    rcases Int.lt_trichotomy x y with hxy | hxy | hxy
    · rcases Int.lt_trichotomy y z with hyz | hyz | hyz
      · rw [cmpR_lt (by omega)]; omega
      · subst hyz; rw [cmpR_lt hxy]; omega
      · rw [cmpR_gt hyz] at k; omega
    · subst hxy
      rcases Int.lt_trichotomy x z with hyz | hyz | hyz
      · rw [cmpR_lt hyz]; omega
      · subst hyz
        rw [cmpR_eq] at h k ⊢
        exact cmpR_trans a b c h k
      · rw [cmpR_gt hyz] at k; omega
    · rw [cmpR_gt hxy] at h; omega
theorem less_iff {a b : List UInt8} : lessR a b = true ↔ cmpR (rns a) (rns b) < 0 := by unfold lessR; exact decide_eq_true_iff
theorem less_self (a : List UInt8) : ¬ lessR a a = true := by rw [less_iff, cmpR_self]; omega
theorem less_trans {a b c : List UInt8} (h : lessR a b = true) (k : lessR b c = true) : lessR a c = true := by
  rw [less_iff] at *; exact cmpR_trans _ _ _ h k
theorem less_ntrans {a b c : List UInt8} (h : ¬ lessR a b = true) (k : ¬ lessR b c = true) : ¬ lessR a c = true := by
  rw [less_iff] at *
  intro q
  rcases cmpR_tot (rns a) (rns b) with x | x | x
  · exact h x
  · rw [x] at q; exact k q
  · exact k (cmpR_trans _ _ _ x q)
theorem nmCmp_lt (a b : List UInt8) : nmCmp (.str a) (.str b) < 0 ↔ lessR a b = true := by
  show (if lessR a b = true then (-1 : Int) else 1) < 0 ↔ _
  by_cases h : lessR a b = true
  · rw [if_pos h]; exact ⟨fun _ => h, fun _ => by omega⟩
  · rw [if_neg h]; exact ⟨fun q => by omega, fun q => absurd q h⟩
def nmP (q : FE) : PV := .str q.2.1
theorem nm_ord (l : List FE) : Ord (fun x y => nmCmp x y < 0) (l.map nmP) := by
  have hm : ∀ x, x ∈ l.map nmP → ∃ a, x = .str a := fun x hx => by obtain ⟨q, _, rfl⟩ := List.mem_map.1 hx; exact ⟨_, rfl⟩
  refine ⟨fun x hx => ?_, fun x y z hx hy hz h k => ?_, fun x y z hx hy hz h k => ?_⟩
  · obtain ⟨a, rfl⟩ := hm x hx
    rw [nmCmp_lt]; exact less_self a
  · obtain ⟨a, rfl⟩ := hm x hx; obtain ⟨b, rfl⟩ := hm y hy; obtain ⟨c, rfl⟩ := hm z hz
    rw [nmCmp_lt] at *; exact less_trans h k
  · obtain ⟨a, rfl⟩ := hm x hx; obtain ⟨b, rfl⟩ := hm y hy; obtain ⟨c, rfl⟩ := hm z hz
    rw [nmCmp_lt] at *; exact less_ntrans h k

structure FI (es : List FE) : Prop where
  nd : (es.map (·.1)).Nodup
  rt : ∀ q, q ∈ es → q.2.1.length < 1099511627776
  n : es.length < 1099511627776

theorem perm_out {fe : FE} : ∀ {rest : List FE}, (rest.map (·.1)).Nodup → fe ∈ rest → rest.Perm (fe :: rest.filter fun q => !(q.1 == fe.1))
  | q :: r, hn, hm => by
    rw [List.map_cons, List.nodup_cons] at hn
    rcases List.mem_cons.1 hm with rfl | hm
    · have : (fe :: r).filter (fun q => !(q.1 == fe.1)) = r := by
        rw [List.filter_cons_of_neg (by simp), List.filter_eq_self]
        intro x hx
        have : x.1 ≠ fe.1 := fun e => hn.1 (List.mem_map.2 ⟨x, hx, e⟩)
        simpa using this
      rw [this]
    · have hne : ¬ q.1 = fe.1 := fun e => hn.1 (List.mem_map.2 ⟨fe, hm, e.symm⟩)
      rw [List.filter_cons_of_pos (by simpa using hne)]
      exact ((perm_out hn.2 hm).cons q).trans (List.Perm.swap _ _ _)
theorem nd_eq {a b : FE} : ∀ {l : List FE}, (l.map (·.1)).Nodup → a ∈ l → b ∈ l → a.1 = b.1 → a = b
  | q :: r, hn, ha, hb, e => by
    rw [List.map_cons, List.nodup_cons] at hn
    obtain ⟨hn1, hn2⟩ := hn
    rcases List.mem_cons.1 ha with ha2 | ha2
    · rcases List.mem_cons.1 hb with hb2 | hb2
      · rw [ha2, hb2]
      · exact (hn1 (List.mem_map.2 ⟨b, hb2, by rw [← e, ha2]⟩)).elim
    · rcases List.mem_cons.1 hb with hb2 | hb2
      · exact (hn1 (List.mem_map.2 ⟨a, ha2, by rw [e, hb2]⟩)).elim
      · exact nd_eq hn2 ha2 hb2 e
theorem strs_of {ys : List PV} {l : List FE} (h : ys.Perm (l.map nmP)) : ∃ ns : List (List UInt8), ys = ns.map .str ∧ ns.Perm (l.map (·.2.1)) := by
  have hm : ∀ x, x ∈ ys → ∃ a, x = .str a := fun x hx => by obtain ⟨q, _, rfl⟩ := List.mem_map.1 (h.mem_iff.1 hx); exact ⟨_, rfl⟩
  have : ∃ ns : List (List UInt8), ys = ns.map .str := by
    clear h
    induction ys with
    | nil => exact ⟨[], rfl⟩
    | cons y r ih =>
      obtain ⟨a, rfl⟩ := hm y (by simp)
      obtain ⟨ns, hns⟩ := ih fun x hx => hm x (by simp [hx])
      exact ⟨a :: ns, by rw [hns]; rfl⟩
  obtain ⟨ns, rfl⟩ := this
  refine ⟨ns, rfl, ?_⟩
  have e : l.map nmP = (l.map (·.2.1)).map PV.str := by rw [List.map_map]; rfl
  rw [e] at h
  have := h.map fun p => match p with | .str a => a | _ => []
  rw [List.map_map, List.map_map] at this
  have e2 : ((fun p => match p with | PV.str a => a | _ => []) ∘ PV.str) = (id : List UInt8 → List UInt8) := rfl
  rw [e2, List.map_id, List.map_id] at this
  exact this

set_option maxHeartbeats 4000000 in
theorem list_c (es : List FE) (cl : Nat) (left deeds : Int) (hi : FI es) (K : AV → Store → Prop)
    (h : ∀ ns : List (List UInt8), ns.Perm (es.map (·.2.1)) → ns.Pairwise (fun a b => ¬ lessR b a = true) → K (.p (.sl .shr 1 (ns.map .str))) (fsS es cl left deeds)) : Cal Try.prog 17 [fsP] (fsS es cl left deeds) K := by
  refine Cal.cut ?_
  refine Cal.frz ?_
  refine Cal.intro Try.func17 (by decide +kernel) rfl rfl ?_
  have hfst : (es.map ent).map (·.1) = es.map (·.1) := by rw [List.map_map]; rfl
  refine LoopX.famW [3, 9] (fun (q : List FE × List FE × Option (Nat × Nat)) => ([(3, .osl 3 (q.1.map nmP).length 0 (q.1.map nmP).length), (9, .it 2)],
      [some (.map .str (es.map ent) cl), some (.cells [.map 0, .p (ii left), .p (ii deeds)]), some (.iterM 0 ((es.map ent).map (·.1)) (q.2.1.map (·.1), q.2.2)), some (.buf 1 (q.1.map nmP))]))
    (fun q => (q.1 ++ q.2.1).Perm es) (fun q => q.2.1.length) ([], es, none) (List.Perm.refl _) (by show 3 ≤ 4; decide) (Trim.wk 3 [(1, none)] rfl (by show 3 ≤ 3; decide) (.inr rfl) (by rw [← hfst]; rfl) rfl rfl rfl rfl ⟨.own 3 rfl rfl, .inl rfl, trivial⟩) ?_
  rintro ⟨out, rest, cur⟩ hq
  have hq : (out ++ rest).Perm es := hq
  have hlen : out.length + rest.length = es.length := by have := hq.length_eq; simpa using this
  refine Ob.mk rfl ?_
  refine BrL.mk (fun (he : rest.map (·.1) = []) => ?_) (fun (hne : rest.map (·.1) ≠ []) => ?_)
  · have hr : rest = [] := List.map_eq_nil_iff.1 he
    subst hr
    rw [List.append_nil] at hq
    refine Br.f rfl ?_
    refine Cal.sort1 (id := 3) (xs := out.map nmP) (ty := none) sortS sortS0 rfl ⟨_, Try.func34, by decide +kernel, rfl⟩ ⟨_, Try.func35, by decide +kernel, rfl⟩ rfl ?_ ?_ nmCmp (nm_ord out) ?_ ?_
    · intro x hx
      obtain ⟨q, _, rfl⟩ := List.mem_map.1 hx
      rfl
    · have := hi.n; rw [List.length_map]; omega
    · intro x y hx hy
      obtain ⟨q, hqm, rfl⟩ := List.mem_map.1 hx
      obtain ⟨p, hpm, rfl⟩ := List.mem_map.1 hy
      exact cmpName_c _ _ (hi.rt q (hq.mem_iff.1 hqm)) (hi.rt p (hq.mem_iff.1 hpm)) [] _ ⟨rfl, rfl⟩
    · intro ys hp hs
      obtain ⟨ns, rfl, hn⟩ := strs_of hp
      have hl : (ns.map PV.str).length = (out.map nmP).length := hp.length_eq
      refine Ob.mk hl ?_
      have e : ((ns.map PV.str).drop 0).take (out.map nmP).length = ns.map PV.str := by rw [List.drop_zero, ← hl, List.take_length]
      have hk := h ns (hn.trans (hq.map _)) (by
        rw [List.pairwise_map] at hs
        exact hs.imp fun hab q => hab ((nmCmp_lt _ _).2 q))
      refine ⟨2, fsS es cl left deeds, Nat.le_refl 2, (show (2 : Nat) ≤ 4 by decide), rfl, rfl, WkS.refl _, ?_⟩
      show K (.p (.sl .shr 1 (((ns.map PV.str).drop 0).take (out.map nmP).length))) _
      rw [e]; exact hk
  · refine Any.mk fun b k v hb hkv => ?_
    obtain ⟨fe, hfe, hent⟩ := List.mem_map.1 hkv
    cases hent
    obtain ⟨fe', hfe', hbe⟩ := List.mem_map.1 hb
    have hin : fe ∈ rest := by
      have : fe' = fe := nd_eq hi.nd (hq.mem_iff.1 (List.mem_append_right _ hfe')) hfe hbe
      rw [← this]; exact hfe'
    have hndr : (rest.map (·.1)).Nodup := by
      have h1 : ((out ++ rest).map (·.1)).Nodup := (hq.map _).nodup_iff.2 hi.nd
      rw [List.map_append] at h1
      exact (List.nodup_append.1 h1).2.1
    have hpo := perm_out hndr hin
    have hpl := hpo.length_eq
    rw [List.length_cons] at hpl
    refine Br.t rfl ?_
    refine Ob.mk rfl ⟨.str fe.2.1, fval fe.2.2.1 fe.2.2.2, Ob.mk hkv ?_⟩
    refine Ob.mk ⟨rfl, rfl, rfl, ?_⟩ ?_
    · show ((out.map nmP).length + 1) * 16 ≤ _
      rw [List.length_map]; have := hi.n; omega
    · refine ⟨(out ++ [fe], rest.filter (fun q => !(q.1 == fe.1)), some (fe.1, cl)), ?_, by show (rest.filter _).length < rest.length; omega, (show (3 : Nat) ≤ 4 by decide), Trim.mk' ?_ ?_ rfl rfl (show (4 : Nat) ≤ 4 by decide)⟩
      · show ((out ++ [fe]) ++ rest.filter _).Perm es
        rw [List.append_assoc]
        exact ((hpo.symm.append_left out)).trans hq
      · show _ = [(3, AV.osl 3 ((out ++ [fe]).map nmP).length 0 ((out ++ [fe]).map nmP).length), _]
        rw [List.map_append]; rfl
      · show _ = [_, _, some (AObj.iterM 0 _ ((rest.filter (fun q => !(q.1 == fe.1))).map (·.1), _)), some (AObj.buf 1 ((out ++ [fe]).map nmP) none)]
        have e1 : (rest.filter (fun q => !(q.1 == fe.1))).map (·.1) = (rest.map (·.1)).filter fun x => !(x == fe.1) := by
          rw [List.filter_map]; rfl
        rw [List.map_append, e1]; rfl
end Go.Proofs.Ytneheklmkbhieaa.AW

open Go Go.Proofs.Ytneheklmkbhieaa.AW Go.Proofs
namespace Go.Proofs.Ytneheklmkbhieaa.AW
set_option maxRecDepth 100000
set_option linter.unusedSimpArgs false
set_option linter.unusedVariables false

/-! ### What is at a name -/
theorem get_set (n x : List UInt8) (k : Nat) (m : List UInt8) : ∀ es : List FE, fGet (fSet es n x k) m = if m = n then (fGet es n).map (fun _ => (x, k)) else fGet es m
  | [] => by
    show none = if m = n then none else none
    split <;> rfl
  | (t, p, b, l) :: r => by
    unfold fSet
    by_cases h : n = p
    · rw [if_pos h]
      show (if m = n then some (x, k) else fGet r m) = _
      by_cases hm : m = n
      · rw [if_pos hm, if_pos hm]
        show _ = Option.map _ (if n = p then some (b, l) else fGet r n)
        rw [if_pos h]; rfl
      · rw [if_neg hm, if_neg hm]
        show _ = if m = p then some (b, l) else fGet r m
        rw [if_neg (by rw [← h]; exact hm)]
    · rw [if_neg h]
      show (if m = p then some (b, l) else fGet (fSet r n x k) m) = _
      rw [get_set n x k m r]
      by_cases hm : m = n
      · rw [if_pos hm, if_pos hm, if_neg (by rw [hm]; exact h)]
        show _ = Option.map _ (if n = p then some (b, l) else fGet r n)
        rw [if_neg h]
      · rw [if_neg hm, if_neg hm]; rfl
theorem get_app (es : List FE) (c : Nat) (n x : List UInt8) (k : Nat) (m : List UInt8) : fGet (es ++ [(c, n, x, k)]) m = match fGet es m with | some q => some q | none => if m = n then some (x, k) else none := by
  induction es with
  | nil => rfl
  | cons q r ih =>
    obtain ⟨t, p, b, l⟩ := q
    show (if m = p then some (b, l) else fGet (r ++ _) m) = match (if m = p then some (b, l) else fGet r m) with | some q => some q | none => _
    by_cases h : m = p
    · rw [if_pos h, if_pos h]
    · rw [if_neg h, if_neg h]; exact ih
theorem get_put (es : List FE) (c : Nat) (n x : List UInt8) (k : Nat) (m : List UInt8) : fGet (fPut es c n x k) m = if m = n then some (x, k) else fGet es m := by
  unfold fPut
  cases hg : fGet es n with
  | none =>
    simp only
    rw [get_app]
    by_cases h : m = n
    · subst h; rw [hg, if_pos rfl]
    · rw [if_neg h, if_neg h]; cases fGet es m <;> rfl
  | some q =>
    simp only
    rw [get_set, hg]; rfl
theorem get_mem {es : List FE} {n : List UInt8} (h : n ∈ es.map (·.2.1)) : ∃ q, fGet es n = some q := by
  induction es with
  | nil => cases h
  | cons q r ih =>
    obtain ⟨t, p, b, l⟩ := q
    show ∃ q, (if n = p then some (b, l) else fGet r n) = some q
    by_cases hp : n = p
    · rw [if_pos hp]; exact ⟨_, rfl⟩
    · rw [if_neg hp]
      rcases List.mem_cons.1 h with h | h
      · exact absurd h hp
      · exact ih h

/-! ### A crash -/
def xorF (c : List UInt8) (a b : Nat) (g : UInt8) : List UInt8 := c.mapIdx fun i x => if a ≤ i ∧ i < b then x ^^^ g else x
theorem xorF_len (c : List UInt8) (a b : Nat) (g : UInt8) : (xorF c a b g).length = c.length := by simp [xorF]
theorem xorF_none (c : List UInt8) (a : Nat) (g : UInt8) : xorF c a a g = c := by
  unfold xorF
  apply List.ext_getElem
  · simp
  · intro i h1 h2
    rw [List.getElem_mapIdx, if_neg (by omega)]
theorem xorF_step (c : List UInt8) (a j : Nat) (g : UInt8) (haj : a ≤ j) (hj : j < c.length) : (xorF c a j g).set j (c[j] ^^^ g) = xorF c a (j + 1) g := by
  unfold xorF
  apply List.ext_getElem
  · simp
  · intro i h1 h2
    rw [List.getElem_set, List.getElem_mapIdx]
    by_cases h : j = i
    · subst h
      rw [if_pos rfl, List.getElem_mapIdx, if_pos ⟨haj, by omega⟩]
    · rw [if_neg h, List.getElem_mapIdx]
      by_cases h3 : a ≤ i ∧ i < j
      · rw [if_pos h3, if_pos ⟨h3.1, by omega⟩]
      · rw [if_neg h3, if_neg (by omega)]
theorem xorF_at (c : List UInt8) (a j : Nat) (g : UInt8) (hj : j < c.length) : (xorF c a j g)[j]? = some c[j] := by
  unfold xorF
  rw [List.getElem?_mapIdx, List.getElem?_eq_getElem hj]
  simp
theorem xor_u8 (x g : UInt8) : bits .xor .u8 (x.toNat : Int) (g.toNat : Int) = ((x ^^^ g).toNat : Int) := by
  have hx : x.toNat < 256 := x.toNat_lt
  have hg : g.toNat < 256 := g.toNat_lt
  have h1 : (BitVec.ofInt 8 (x.toNat : Int) ^^^ BitVec.ofInt 8 (g.toNat : Int)).toNat = (x ^^^ g).toNat := by
    rw [BitVec.toNat_xor, UInt8.toNat_xor]
    congr 1
    · rw [BitVec.toNat_ofInt]; omega
    · rw [BitVec.toNat_ofInt]; omega
  show IntKind.u8.wrap ((BitVec.ofInt 8 (x.toNat : Int) ^^^ BitVec.ofInt 8 (g.toNat : Int)).toNat : Int) = _
  rw [h1, IntKind.wrap_u8]
  have := (x ^^^ g).toNat_lt
  omega

def kpI (kv : Int) (b : List UInt8) (l : Nat) : Int := if (if IntKind.i64.wrap (((bytesP b).length : Int) - l) < kv then IntKind.i64.wrap (((bytesP b).length : Int) - l) else kv) > 0 then (if IntKind.i64.wrap (((bytesP b).length : Int) - l) < kv then IntKind.i64.wrap (((bytesP b).length : Int) - l) else kv) else 0
theorem kpI_in (kv : Int) {b : List UInt8} {l : Nat} (hl : l ≤ b.length) (hb : b.length ≤ 549755813888) : 0 ≤ kpI kv b l ∧ kpI kv b l ≤ (b.length : Int) - l := by
  unfold kpI
  rw [bytesP_len, wrap_i64 (by omega) (by omega)]
  split
  · split <;> omega
  · omega
def kpN (keeps : List Int) (i : Nat) (b : List UInt8) (l : Nat) : Nat := match keeps[i]? with | some kv => (kpI kv b l).toNat | none => 0
theorem kpN_le {keeps : List Int} {i : Nat} {b : List UInt8} {l : Nat} (hl : l ≤ b.length) (hb : b.length ≤ 549755813888) : l + kpN keeps i b l ≤ b.length := by
  unfold kpN
  cases keeps[i]? with
  | none => simp only; omega
  | some kv => have := kpI_in kv hl hb; simp only; omega
def gbl (garble : List UInt8) (i : Nat) (c : List UInt8) (l : Nat) : List UInt8 := match garble[i]? with | some g => xorF c (max l (c.length - 64)) c.length g | none => c
theorem gbl_len (garble : List UInt8) (i : Nat) (c : List UInt8) (l : Nat) : (gbl garble i c l).length = c.length := by
  unfold gbl
  cases garble[i]? with
  | none => rfl
  | some g => exact xorF_len _ _ _ _
def crB (keeps : List Int) (garble : List UInt8) (i : Nat) (b : List UInt8) (l : Nat) : List UInt8 := gbl garble i (b.take (l + kpN keeps i b l)) l
theorem crB_len {keeps : List Int} {garble : List UInt8} {i : Nat} {b : List UInt8} {l : Nat} (hl : l ≤ b.length) (hb : b.length ≤ 549755813888) : (crB keeps garble i b l).length = l + kpN keeps i b l := by
  unfold crB
  rw [gbl_len, List.length_take]
  have := kpN_le (keeps := keeps) (i := i) hl hb
  omega
def crS (keeps : List Int) (garble : List UInt8) (ns : List (List UInt8)) (es : List FE) : Nat → List FE
  | 0 => es
  | j + 1 => fSet (crS keeps garble ns es j) (ns.getD j []) (crB keeps garble j (fB (crS keeps garble ns es j) (ns.getD j [])) (fL (crS keeps garble ns es j) (ns.getD j [])))
      (crB keeps garble j (fB (crS keeps garble ns es j) (ns.getD j [])) (fL (crS keeps garble ns es j) (ns.getD j []))).length
theorem crS_ok {keeps : List Int} {garble : List UInt8} {ns : List (List UInt8)} {es : List FE} (hb : ∀ n q, fGet es n = some q → q.1.length + 1 ≤ 549755813888 ∧ q.2 ≤ q.1.length) (j : Nat) :
    (∀ n q, fGet (crS keeps garble ns es j) n = some q → q.1.length + 1 ≤ 549755813888 ∧ q.2 ≤ q.1.length) ∧ ∀ n, (fGet es n).isSome = (fGet (crS keeps garble ns es j) n).isSome := by
  induction j with
  | zero => exact ⟨hb, fun _ => rfl⟩
  | succ j ih =>
    obtain ⟨h1, h2⟩ := ih
    constructor
    · intro n q hq
      show q.1.length + 1 ≤ _ ∧ _
      unfold crS at hq
      rw [get_set] at hq
      by_cases hn : n = ns.getD j []
      · rw [if_pos hn] at hq
        cases hg : fGet (crS keeps garble ns es j) (ns.getD j []) with
        | none => rw [hg] at hq; cases hq
        | some p =>
          rw [hg] at hq
          cases hq
          obtain ⟨k1, k2⟩ := h1 _ p hg
          have e1 : fB (crS keeps garble ns es j) (ns.getD j []) = p.1 := by unfold fB; rw [hg]
          have e2 : fL (crS keeps garble ns es j) (ns.getD j []) = p.2 := by unfold fL; rw [hg]
          simp only [e1, e2]
          rw [crB_len k2 (by omega)]
          have := kpN_le (keeps := keeps) (i := j) k2 (by omega)
          omega
      · rw [if_neg hn] at hq; exact h1 n q hq
    · intro n
      rw [h2 n]
      show _ = (fGet (fSet _ _ _ _) n).isSome
      rw [get_set]
      by_cases hn : n = ns.getD j []
      · rw [if_pos hn, hn]; cases fGet (crS keeps garble ns es j) (ns.getD j []) <;> rfl
      · rw [if_neg hn]

theorem clone_o (a : List UInt8) (hne : a ≠ []) (hl : a.length ≤ 1099511627776) (K : AV → Store → Prop) (h : K (.osl 0 (bytesP a).length 0 (bytesP a).length) [some (.buf 1 (bytesP a) (some 5))]) : Cal Try.prog 33 [.p (bsl a)] [] K := by
  refine Cal.intro Try.func33 (by decide +kernel) rfl rfl ?_
  cases a with
  | nil => exact absurd rfl hne
  | cons x r =>
    refine Br.f rfl ?_
    refine Or.inl ?_
    refine BrL.c ?_
    refine Ob.mk ?_ ?_
    · show (0 + (bytesP (x :: r)).length) * 1 ≤ _; rw [bytesP_len]; omega
    · exact h
end Go.Proofs.Ytneheklmkbhieaa.AW

open Go Go.Proofs.Ytneheklmkbhieaa.AW Go.Proofs
namespace Go.Proofs.Ytneheklmkbhieaa.AW
set_option maxRecDepth 100000
set_option linter.unusedSimpArgs false
set_option linter.unusedVariables false

def kl (keeps : List Int) : PV := .sl .shr 1 (keeps.map ii)
theorem put_got {es : List FE} {n : List UInt8} {q : List UInt8 × Nat} (hg : fGet es n = some q) (cl : Nat) (x : List UInt8) (k : Nat) : mPut (es.map ent) cl (.str n) (fval x k) = (fSet es n x k).map ent ∧ mClock (es.map ent) cl (.str n) = cl := by
  rw [put_ent, clk_ent]
  unfold fPut fCl
  rw [hg]
  exact ⟨rfl, rfl⟩
theorem bytes_set {c : List UInt8} {j : Nat} {x : UInt8} : (bytesP c).set j (.int .u8 x.toNat) = bytesP (c.set j x) := by
  unfold bytesP; rw [List.map_set]
theorem bytes_at {c : List UInt8} {j : Nat} {x : UInt8} (h : c[j]? = some x) : (bytesP c)[((j : Nat) : Int).toNat]? = some (.int .u8 x.toNat) := by
  unfold bytesP; rw [Int.toNat_natCast, List.getElem?_map, h]; rfl
theorem kl_at {c : List Int} {j : Nat} {x : Int} (h : c[j]? = some x) : (c.map ii)[((j : Nat) : Int).toNat]? = some (ii x) := by
  rw [Int.toNat_natCast, List.getElem?_map, h]; rfl
theorem cut_b {b : List UInt8} {m : Nat} {n : Int} (h : n = (m : Int)) : ((bytesP b).take n.toNat).drop (0 : Int).toNat = bytesP (b.take m) := by
  show ((bytesP b).take n.toNat).drop 0 = _
  rw [List.drop_zero, h, Int.toNat_natCast]
  unfold bytesP; rw [List.map_take]

def at0 (l n : Nat) : Int := if IntKind.i64.wrap ((n : Int) - 64) > (l : Int) then IntKind.i64.wrap ((n : Int) - 64) else (l : Int)
theorem at0_eq {l n : Nat} (hn : n ≤ 549755813888) : at0 l n = ((max l (n - 64) : Nat) : Int) := by
  unfold at0
  rw [wrap_i64 (by omega) (by omega)]
  split <;> omega

set_option maxHeartbeats 8000000 in
theorem crash_c (es : List FE) (cl : Nat) (left deeds : Int) (hok : FOk es left deeds) (hi : FI es) (keeps : List Int) (garble : List UInt8) (K : AV → Store → Prop)
    (h : ∀ ns : List (List UInt8), ns.Perm (es.map (·.2.1)) → ns.Pairwise (fun a b => ¬ lessR b a = true) → K (.tup []) (fsS (crS keeps garble ns es ns.length) cl (-1) deeds)) :
    Cal Try.prog 13 [fsP, .p (kl keeps), .p (bsl garble)] (fsS es cl left deeds) K := by
  refine Cal.intro Try.func13 (by decide +kernel) rfl rfl ?_
  refine list_c es cl left deeds hi _ (fun ns hperm hsort => ?_)
  have hnl : (ns.map PV.str).length = ns.length := List.length_map ..
  have hnn : ns.length < 1099511627776 := by have := hperm.length_eq; have := hi.n; simp at *; omega
  refine LoopX.fam [0, 1, 2, 13, 14, 15] (fun (i : Nat) => ([(0, fsP), (1, .p (kl keeps)), (2, .p (bsl garble)), (13, .p (.sl .shr 1 (ns.map .str))), (14, .p (ii (ns.map PV.str).length)), (15, .p (ii i))], fsS (crS keeps garble ns es i) cl left deeds))
    (fun i => i ≤ ns.length) (fun i => ns.length - i) 0 (Nat.zero_le _) (Trim.mk' rfl rfl rfl rfl (Nat.le_refl _)) ?_
  intro i hil
  have hil : i ≤ ns.length := hil
  refine Br.mk (fun hc => ?_) (fun hc => ?_)
  · have hc : i < ns.length := by have := of_decide_eq_true hc; rw [hnl] at this; omega
    obtain ⟨e, he⟩ : ∃ e, e = crS keeps garble ns es i := ⟨_, rfl⟩
    obtain ⟨n, hn⟩ : ∃ n, n = ns[i] := ⟨_, rfl⟩
    have hgd : ns.getD i [] = n := by rw [hn]; simp [hc]
    obtain ⟨hok1, hdom⟩ := crS_ok (keeps := keeps) (garble := garble) (ns := ns) hok.b i
    rw [← he] at hok1 hdom ⊢
    obtain ⟨q, hq⟩ : ∃ q, fGet e n = some q := by
      have h1 : n ∈ es.map (·.2.1) := hperm.mem_iff.1 (by rw [hn]; exact List.getElem_mem _)
      obtain ⟨p, hp⟩ := get_mem h1
      have := hdom n
      rw [hp] at this
      exact Option.isSome_iff_exists.1 this.symm
    obtain ⟨hq1, hq2⟩ := hok1 n q hq
    have hge := get_ent n e
    rw [hq] at hge
    have lq := bytesP_len q.1
    have efB : fB e n = q.1 := by unfold fB; rw [hq]
    have efL : fL e n = q.2 := by unfold fL; rw [hq]
    have enext : crS keeps garble ns es (i + 1) = fSet e n (crB keeps garble i q.1 q.2) (crB keeps garble i q.1 q.2).length := by
      show fSet (crS keeps garble ns es i) (ns.getD i []) _ _ = _
      rw [← he, hgd, efB, efL]
    have ei : IntKind.i64.wrap ((i : Int) + 1) = ((i + 1 : Nat) : Int) := by rw [wrap_i64] <;> omega
    have hkl : (keeps.map ii).length = keeps.length := List.length_map ..
    have lgb := bytesP_len garble
    refine Idx.mk (.str n) (Int.natCast_nonneg i) (by rw [Int.toNat_natCast, List.getElem?_map, List.getElem?_eq_getElem hc, hn]; rfl) ?_
    refine Opt.s hge ?_
    refine Ob.mk (okst rfl rfl rfl) ?_
    by_cases hki : i < keeps.length
    · refine Br.t (decide_eq_true (show (i : Int) < ((keeps.map ii).length : Int) by rw [hkl]; omega)) ?_
      obtain ⟨kv, hkv⟩ : ∃ kv, keeps[i]? = some kv := ⟨_, List.getElem?_eq_getElem hki⟩
      have hkr := kpI_in kv hq2 (by omega)
      have hkn : kpN keeps i q.1 q.2 = (kpI kv q.1 q.2).toNat := by unfold kpN; rw [hkv]
      have hkE : kpI kv q.1 q.2 = (kpN keeps i q.1 q.2 : Nat) := by rw [hkn]; omega
      refine ⟨_, ⟨rfl, rfl⟩, ?_⟩
      refine ⟨_, ⟨rfl, rfl⟩, ?_⟩
      refine ⟨_, Idx.mk (ii kv) (Int.natCast_nonneg i) (kl_at hkv) ⟨rfl, rfl⟩, ?_⟩
      repeat refine ⟨_, ⟨rfl, rfl⟩, ?_⟩
      refine Chk.mk (by kernel_rfl) ?_
      have hm : (IntKind.i64.wrap ((q.2 : Int) + (kpI kv q.1 q.2))) = ((q.2 + kpN keeps i q.1 q.2 : Nat) : Int) := by rw [hkE, wrap_i64 (by omega) (by omega)]; omega
      obtain ⟨m, hmm⟩ : ∃ m, m = q.2 + kpN keeps i q.1 q.2 := ⟨_, rfl⟩
      rw [← hmm] at hm
      have hml : m ≤ q.1.length := by rw [hmm]; exact kpN_le hq2 (by omega)
      have hb1 : (0 : Int) ≤ (IntKind.i64.wrap ((q.2 : Int) + (kpI kv q.1 q.2))) := by rw [hm]; exact Int.natCast_nonneg m
      have hb2 : (IntKind.i64.wrap ((q.2 : Int) + (kpI kv q.1 q.2))) ≤ ((bytesP q.1).length : Int) := by rw [hm, lq]; exact Int.ofNat_le.2 hml
      refine Ob.mk ⟨Int.le_refl 0, hb1, hb2⟩ ?_
      obtain ⟨c, hcc⟩ : ∃ c, c = q.1.take m := ⟨_, rfl⟩
      have hcl : c.length = m := by rw [hcc, List.length_take]; omega
      have lc := bytesP_len c
      have hcut := cut_b (b := q.1) hm
      rw [← hcc] at hcut
      have ecr : crB keeps garble i q.1 q.2 = gbl garble i c q.2 := by unfold crB; rw [← hmm, ← hcc]
      by_cases hce : c = []
      · subst hce
        have hm0 : m = 0 := hcl.symm
        have hcal : ∀ s' K', K' (.p (bsl [])) s' → Cal Try.prog 33 [.p (.sl .shr 1 (((bytesP q.1).take (IntKind.i64.wrap ((q.2 : Int) + (kpI kv q.1 q.2))).toNat).drop (0 : Int).toNat))] s' K' := fun s' K' hK => by
          rw [hcut]; exact clone_c [] (by decide) s' K' hK
        refine hcal _ _ ?_
        have egb : gbl garble i [] q.2 = [] := List.length_eq_zero_iff.1 (gbl_len garble i [] q.2)
        obtain ⟨p1, p2⟩ := put_got hq cl [] 0
        rw [ecr, egb] at enext
        by_cases hgi : i < garble.length
        · refine Br.t (decide_eq_true (show (i : Int) < ((bytesP garble).length : Int) by rw [lgb]; omega)) ?_
          have ha0 : ¬ at0 q.2 (bytesP []).length < 0 := by rw [at0_eq (by decide)]; omega
          refine LoopX.fam [0, 1, 2, 7, 10, 11, 13, 14, 15] (fun (_ : Unit) => ([(0, fsP), (1, .p (kl keeps)), (2, .p (bsl garble)), (7, .p (.str n)), (10, .p (bsl [])), (11, .p (ii (at0 q.2 (bytesP []).length))), (13, .p (.sl .shr 1 (ns.map .str))), (14, .p (ii (ns.map PV.str).length)), (15, .p (ii i))], [some (.map .str (e.map ent) cl), some (.cells [.map 0, .p (ii left), .p (ii deeds)]), some (.cells [.p (bsl q.1), .p (ii q.2)])]))
            (fun _ => True) (fun _ => 0) () trivial (Trim.mk' rfl rfl rfl rfl (Nat.le_refl _)) ?_
          intro _ _
          refine Br.f (decide_eq_false ha0) ?_
          refine ⟨i + 1, (show i + 1 ≤ ns.length by omega), (show ns.length - (i + 1) < ns.length - i by omega), Nat.le_refl _, Trim.mk' ?_ ?_ rfl rfl (show (2 : Nat) ≤ 3 by decide)⟩
          · refine Eq.trans (b := [_, _, _, _, _, (15, AV.p (ii (IntKind.i64.wrap ((i : Int) + 1))))]) rfl ?_
            rw [ei]; rfl
          · show [some (AObj.map .str (mPut (e.map ent) cl (.str n) (fval [] 0)) (mClock (e.map ent) cl (.str n))), _] = fsS (crS keeps garble ns es (i + 1)) cl left deeds
            rw [p1, p2, enext]; rfl
        · refine Br.f (decide_eq_false (show ¬ (i : Int) < ((bytesP garble).length : Int) by rw [lgb]; omega)) ?_
          refine ⟨i + 1, (show i + 1 ≤ ns.length by omega), (show ns.length - (i + 1) < ns.length - i by omega), Nat.le_refl _, Trim.mk' ?_ ?_ rfl rfl (show (2 : Nat) ≤ 3 by decide)⟩
          · refine Eq.trans (b := [_, _, _, _, _, (15, AV.p (ii (IntKind.i64.wrap ((i : Int) + 1))))]) rfl ?_
            rw [ei]; rfl
          · show [some (AObj.map .str (mPut (e.map ent) cl (.str n) (fval [] 0)) (mClock (e.map ent) cl (.str n))), _] = fsS (crS keeps garble ns es (i + 1)) cl left deeds
            rw [p1, p2, enext]; rfl
      · have hcal : ∀ K', K' (.osl 3 (bytesP c).length 0 (bytesP c).length) [some (.map .str (e.map ent) cl), some (.cells [.map 0, .p (ii left), .p (ii deeds)]), some (.cells [.p (bsl q.1), .p (ii q.2)]), some (.buf 1 (bytesP c) (some 5))] → Cal Try.prog 33 [.p (.sl .shr 1 (((bytesP q.1).take (IntKind.i64.wrap ((q.2 : Int) + (kpI kv q.1 q.2))).toNat).drop (0 : Int).toNat))] [some (.map .str (e.map ent) cl), some (.cells [.map 0, .p (ii left), .p (ii deeds)]), some (.cells [.p (bsl q.1), .p (ii q.2)])] K' := fun K' hK => by
          rw [hcut]
          exact Cal.frameK [] (clone_o c hce (by omega) _ fun _ => hK) rfl rfl rfl
        refine hcal _ ?_
        by_cases hgi : i < garble.length
        · refine Br.t (decide_eq_true (show (i : Int) < ((bytesP garble).length : Int) by rw [lgb]; omega)) ?_
          obtain ⟨g, hg⟩ : ∃ g, garble[i]? = some g := ⟨_, List.getElem?_eq_getElem hgi⟩
          obtain ⟨a0, ha⟩ : ∃ a0, a0 = max q.2 (c.length - 64) := ⟨_, rfl⟩
          have egb : gbl garble i c q.2 = xorF c a0 c.length g := by unfold gbl; rw [hg, ← ha]
          have hat : at0 q.2 (bytesP c).length = (a0 : Int) := by rw [at0_eq (by omega), lc, ha]
          have ha0 : a0 ≤ c.length := by omega
          have hxl : ∀ j, (bytesP (xorF c a0 j g)).length = (bytesP c).length := fun j => by rw [bytesP_len, bytesP_len, xorF_len]
          rw [ecr, egb] at enext
          refine LoopX.fam [0, 1, 2, 6, 7, 10, 11, 13, 14, 15] (fun (j : Nat) => ([(0, fsP), (1, .p (kl keeps)), (2, .p (bsl garble)), (6, .p (ii i)), (7, .p (.str n)), (10, .osl 3 (bytesP c).length 0 (bytesP c).length), (11, .p (ii j)), (13, .p (.sl .shr 1 (ns.map .str))), (14, .p (ii (ns.map PV.str).length)), (15, .p (ii i))],
              [some (.map .str (e.map ent) cl), some (.cells [.map 0, .p (ii left), .p (ii deeds)]), some (.cells [.p (bsl q.1), .p (ii q.2)]), some (.buf 1 (bytesP (xorF c a0 j g)) (some 5))]))
            (fun j => a0 ≤ j ∧ j ≤ c.length) (fun j => c.length - j) a0 ⟨Nat.le_refl _, ha0⟩ (Trim.mk' ?_ ?_ rfl rfl (Nat.le_refl _)) ?_
          · refine Eq.trans (b := [_, _, _, _, _, _, (11, AV.p (ii (at0 q.2 (bytesP c).length))), _, _, _]) rfl ?_
            rw [hat]; rfl
          · show [_, _, _, some (AObj.buf 1 (bytesP c) (some 5))] = [_, _, _, _]
            rw [xorF_none]
          rintro j ⟨hj1, hj2⟩
          refine Br.mk (fun hjc => ?_) (fun hjc => ?_)
          · have hjc : j < c.length := by have := of_decide_eq_true hjc; rw [lc] at this; omega
            have hxa := xorF_at c a0 j g hjc
            have hxs := xorF_step c a0 j g hj1 hjc
            have ej : IntKind.i64.wrap ((j : Int) + 1) = ((j + 1 : Nat) : Int) := by rw [wrap_i64] <;> omega
            have hjl : (j : Int) < ((bytesP c).length : Int) := by rw [lc]; omega
            refine ⟨_, ⟨rfl, rfl⟩, ?_⟩
            refine ⟨_, ⟨rfl, rfl⟩, ?_⟩
            refine ⟨_, Ob.mk ⟨hxl j, Int.natCast_nonneg j, hjl⟩ ⟨rfl, rfl⟩, ?_⟩
            refine ⟨_, Ob.mk (hxl j) (Idx.mk (.int .u8 c[j].toNat) (Int.natCast_nonneg _) (by rw [Nat.zero_add]; exact bytes_at hxa) ⟨rfl, rfl⟩), ?_⟩
            refine ⟨_, ⟨rfl, rfl⟩, ?_⟩
            refine ⟨_, ⟨rfl, rfl⟩, ?_⟩
            refine ⟨_, Idx.mk (.int .u8 g.toNat) (Int.natCast_nonneg i) (bytes_at hg) ⟨rfl, rfl⟩, ?_⟩
            refine ⟨_, ⟨rfl, rfl⟩, ?_⟩
            refine ⟨_, ⟨rfl, rfl⟩, ?_⟩
            refine ⟨_, Ob.mk ⟨hxl j, Int.natCast_nonneg j, hjl⟩ ⟨rfl, rfl⟩, ?_⟩
            refine ⟨_, _, Ob.mk ⟨hxl j, (show 0 + ((j : Nat) : Int).toNat < (bytesP c).length by rw [lc]; omega)⟩ ⟨rfl, rfl⟩, rfl, ?_⟩
            refine Chk.mk (by kernel_rfl) ?_
            refine ⟨j + 1, ⟨by omega, by omega⟩, by omega, Nat.le_refl _, Trim.mk' ?_ ?_ rfl rfl (Nat.le_refl _)⟩
            · refine Eq.trans (b := [_, _, _, _, _, _, (11, AV.p (ii (IntKind.i64.wrap ((j : Int) + 1)))), _, _, _]) rfl ?_
              rw [ej]; rfl
            · show [_, _, _, some (AObj.buf 1 ((bytesP (xorF c a0 j g)).set (0 + ((j : Nat) : Int).toNat) (.int .u8 (bits .xor .u8 (c[j].toNat : Int) (g.toNat : Int)))) (some 5))] = [_, _, _, _]
              rw [xor_u8, Nat.zero_add, Int.toNat_natCast, bytes_set, hxs]
          · have hjc : j = c.length := by have := of_decide_eq_false hjc; rw [lc] at this; omega
            subst hjc
            refine Ob.mk (hxl _) ?_
            have hX : ((bytesP (xorF c a0 c.length g)).drop 0).take (bytesP c).length = bytesP (xorF c a0 c.length g) := by rw [List.drop_zero, ← hxl c.length, List.take_length]
            obtain ⟨p1, p2⟩ := put_got hq cl (xorF c a0 c.length g) (xorF c a0 c.length g).length
            refine ⟨i + 1, (show i + 1 ≤ ns.length by omega), (show ns.length - (i + 1) < ns.length - i by omega), Nat.le_refl _, Trim.mk' ?_ ?_ rfl rfl (show (2 : Nat) ≤ 4 by decide)⟩
            · refine Eq.trans (b := [_, _, _, _, _, (15, AV.p (ii (IntKind.i64.wrap ((i : Int) + 1))))]) rfl ?_
              rw [ei]; rfl
            · show [some (AObj.map .str (mPut (e.map ent) cl (.str n) (.agg [.sl .shr 1 (((bytesP (xorF c a0 c.length g)).drop 0).take (bytesP c).length), ii (bytesP c).length])) (mClock (e.map ent) cl (.str n))), _] = fsS (crS keeps garble ns es (i + 1)) cl left deeds
              rw [hX, enext, p2, ← hxl c.length, bytesP_len]
              show [some (AObj.map .str (mPut (e.map ent) cl (.str n) (fval (xorF c a0 c.length g) (xorF c a0 c.length g).length)) cl), _] = _
              rw [p1]; rfl
        · refine Br.f (decide_eq_false (show ¬ (i : Int) < ((bytesP garble).length : Int) by rw [lgb]; omega)) ?_
          have egb : gbl garble i c q.2 = c := by unfold gbl; rw [List.getElem?_eq_none (by omega)]
          rw [ecr, egb] at enext
          refine Ob.mk rfl ?_
          have hX : ((bytesP c).drop 0).take (bytesP c).length = bytesP c := by rw [List.drop_zero, List.take_length]
          obtain ⟨p1, p2⟩ := put_got hq cl c c.length
          refine ⟨i + 1, (show i + 1 ≤ ns.length by omega), (show ns.length - (i + 1) < ns.length - i by omega), Nat.le_refl _, Trim.mk' ?_ ?_ rfl rfl (show (2 : Nat) ≤ 4 by decide)⟩
          · refine Eq.trans (b := [_, _, _, _, _, (15, AV.p (ii (IntKind.i64.wrap ((i : Int) + 1))))]) rfl ?_
            rw [ei]; rfl
          · show [some (AObj.map .str (mPut (e.map ent) cl (.str n) (.agg [.sl .shr 1 (((bytesP c).drop 0).take (bytesP c).length), ii (bytesP c).length])) (mClock (e.map ent) cl (.str n))), _] = fsS (crS keeps garble ns es (i + 1)) cl left deeds
            rw [hX, enext, p2, bytesP_len]
            show [some (AObj.map .str (mPut (e.map ent) cl (.str n) (fval c c.length)) cl), _] = _
            rw [p1]; rfl
    · refine Br.f (decide_eq_false (show ¬ (i : Int) < ((keeps.map ii).length : Int) by rw [hkl]; omega)) ?_
      have hkE : (0 : Int) = (kpN keeps i q.1 q.2 : Nat) := by unfold kpN; rw [List.getElem?_eq_none (by omega)]; rfl
      have hkr : (0 : Int) ≤ 0 ∧ (0 : Int) ≤ (q.1.length : Int) - q.2 := by omega
      have hm : (IntKind.i64.wrap ((q.2 : Int) + (0 : Int))) = ((q.2 + kpN keeps i q.1 q.2 : Nat) : Int) := by rw [hkE, wrap_i64 (by omega) (by omega)]; omega
      obtain ⟨m, hmm⟩ : ∃ m, m = q.2 + kpN keeps i q.1 q.2 := ⟨_, rfl⟩
      rw [← hmm] at hm
      have hml : m ≤ q.1.length := by rw [hmm]; exact kpN_le hq2 (by omega)
      have hb1 : (0 : Int) ≤ (IntKind.i64.wrap ((q.2 : Int) + (0 : Int))) := by rw [hm]; exact Int.natCast_nonneg m
      have hb2 : (IntKind.i64.wrap ((q.2 : Int) + (0 : Int))) ≤ ((bytesP q.1).length : Int) := by rw [hm, lq]; exact Int.ofNat_le.2 hml
      refine Ob.mk ⟨Int.le_refl 0, hb1, hb2⟩ ?_
      obtain ⟨c, hcc⟩ : ∃ c, c = q.1.take m := ⟨_, rfl⟩
      have hcl : c.length = m := by rw [hcc, List.length_take]; omega
      have lc := bytesP_len c
      have hcut := cut_b (b := q.1) hm
      rw [← hcc] at hcut
      have ecr : crB keeps garble i q.1 q.2 = gbl garble i c q.2 := by unfold crB; rw [← hmm, ← hcc]
      by_cases hce : c = []
      · subst hce
        have hm0 : m = 0 := hcl.symm
        have hcal : ∀ s' K', K' (.p (bsl [])) s' → Cal Try.prog 33 [.p (.sl .shr 1 (((bytesP q.1).take (IntKind.i64.wrap ((q.2 : Int) + (0 : Int))).toNat).drop (0 : Int).toNat))] s' K' := fun s' K' hK => by
          rw [hcut]; exact clone_c [] (by decide) s' K' hK
        refine hcal _ _ ?_
        have egb : gbl garble i [] q.2 = [] := List.length_eq_zero_iff.1 (gbl_len garble i [] q.2)
        obtain ⟨p1, p2⟩ := put_got hq cl [] 0
        rw [ecr, egb] at enext
        by_cases hgi : i < garble.length
        · refine Br.t (decide_eq_true (show (i : Int) < ((bytesP garble).length : Int) by rw [lgb]; omega)) ?_
          have ha0 : ¬ at0 q.2 (bytesP []).length < 0 := by rw [at0_eq (by decide)]; omega
          refine LoopX.fam [0, 1, 2, 7, 10, 11, 13, 14, 15] (fun (_ : Unit) => ([(0, fsP), (1, .p (kl keeps)), (2, .p (bsl garble)), (7, .p (.str n)), (10, .p (bsl [])), (11, .p (ii (at0 q.2 (bytesP []).length))), (13, .p (.sl .shr 1 (ns.map .str))), (14, .p (ii (ns.map PV.str).length)), (15, .p (ii i))], [some (.map .str (e.map ent) cl), some (.cells [.map 0, .p (ii left), .p (ii deeds)]), some (.cells [.p (bsl q.1), .p (ii q.2)])]))
            (fun _ => True) (fun _ => 0) () trivial (Trim.mk' rfl rfl rfl rfl (Nat.le_refl _)) ?_
          intro _ _
          refine Br.f (decide_eq_false ha0) ?_
          refine ⟨i + 1, (show i + 1 ≤ ns.length by omega), (show ns.length - (i + 1) < ns.length - i by omega), Nat.le_refl _, Trim.mk' ?_ ?_ rfl rfl (show (2 : Nat) ≤ 3 by decide)⟩
          · refine Eq.trans (b := [_, _, _, _, _, (15, AV.p (ii (IntKind.i64.wrap ((i : Int) + 1))))]) rfl ?_
            rw [ei]; rfl
          · show [some (AObj.map .str (mPut (e.map ent) cl (.str n) (fval [] 0)) (mClock (e.map ent) cl (.str n))), _] = fsS (crS keeps garble ns es (i + 1)) cl left deeds
            rw [p1, p2, enext]; rfl
        · refine Br.f (decide_eq_false (show ¬ (i : Int) < ((bytesP garble).length : Int) by rw [lgb]; omega)) ?_
          refine ⟨i + 1, (show i + 1 ≤ ns.length by omega), (show ns.length - (i + 1) < ns.length - i by omega), Nat.le_refl _, Trim.mk' ?_ ?_ rfl rfl (show (2 : Nat) ≤ 3 by decide)⟩
          · refine Eq.trans (b := [_, _, _, _, _, (15, AV.p (ii (IntKind.i64.wrap ((i : Int) + 1))))]) rfl ?_
            rw [ei]; rfl
          · show [some (AObj.map .str (mPut (e.map ent) cl (.str n) (fval [] 0)) (mClock (e.map ent) cl (.str n))), _] = fsS (crS keeps garble ns es (i + 1)) cl left deeds
            rw [p1, p2, enext]; rfl
      · have hcal : ∀ K', K' (.osl 3 (bytesP c).length 0 (bytesP c).length) [some (.map .str (e.map ent) cl), some (.cells [.map 0, .p (ii left), .p (ii deeds)]), some (.cells [.p (bsl q.1), .p (ii q.2)]), some (.buf 1 (bytesP c) (some 5))] → Cal Try.prog 33 [.p (.sl .shr 1 (((bytesP q.1).take (IntKind.i64.wrap ((q.2 : Int) + (0 : Int))).toNat).drop (0 : Int).toNat))] [some (.map .str (e.map ent) cl), some (.cells [.map 0, .p (ii left), .p (ii deeds)]), some (.cells [.p (bsl q.1), .p (ii q.2)])] K' := fun K' hK => by
          rw [hcut]
          exact Cal.frameK [] (clone_o c hce (by omega) _ fun _ => hK) rfl rfl rfl
        refine hcal _ ?_
        by_cases hgi : i < garble.length
        · refine Br.t (decide_eq_true (show (i : Int) < ((bytesP garble).length : Int) by rw [lgb]; omega)) ?_
          obtain ⟨g, hg⟩ : ∃ g, garble[i]? = some g := ⟨_, List.getElem?_eq_getElem hgi⟩
          obtain ⟨a0, ha⟩ : ∃ a0, a0 = max q.2 (c.length - 64) := ⟨_, rfl⟩
          have egb : gbl garble i c q.2 = xorF c a0 c.length g := by unfold gbl; rw [hg, ← ha]
          have hat : at0 q.2 (bytesP c).length = (a0 : Int) := by rw [at0_eq (by omega), lc, ha]
          have ha0 : a0 ≤ c.length := by omega
          have hxl : ∀ j, (bytesP (xorF c a0 j g)).length = (bytesP c).length := fun j => by rw [bytesP_len, bytesP_len, xorF_len]
          rw [ecr, egb] at enext
          refine LoopX.fam [0, 1, 2, 6, 7, 10, 11, 13, 14, 15] (fun (j : Nat) => ([(0, fsP), (1, .p (kl keeps)), (2, .p (bsl garble)), (6, .p (ii i)), (7, .p (.str n)), (10, .osl 3 (bytesP c).length 0 (bytesP c).length), (11, .p (ii j)), (13, .p (.sl .shr 1 (ns.map .str))), (14, .p (ii (ns.map PV.str).length)), (15, .p (ii i))],
              [some (.map .str (e.map ent) cl), some (.cells [.map 0, .p (ii left), .p (ii deeds)]), some (.cells [.p (bsl q.1), .p (ii q.2)]), some (.buf 1 (bytesP (xorF c a0 j g)) (some 5))]))
            (fun j => a0 ≤ j ∧ j ≤ c.length) (fun j => c.length - j) a0 ⟨Nat.le_refl _, ha0⟩ (Trim.mk' ?_ ?_ rfl rfl (Nat.le_refl _)) ?_
          · refine Eq.trans (b := [_, _, _, _, _, _, (11, AV.p (ii (at0 q.2 (bytesP c).length))), _, _, _]) rfl ?_
            rw [hat]; rfl
          · show [_, _, _, some (AObj.buf 1 (bytesP c) (some 5))] = [_, _, _, _]
            rw [xorF_none]
          rintro j ⟨hj1, hj2⟩
          refine Br.mk (fun hjc => ?_) (fun hjc => ?_)
          · have hjc : j < c.length := by have := of_decide_eq_true hjc; rw [lc] at this; omega
            have hxa := xorF_at c a0 j g hjc
            have hxs := xorF_step c a0 j g hj1 hjc
            have ej : IntKind.i64.wrap ((j : Int) + 1) = ((j + 1 : Nat) : Int) := by rw [wrap_i64] <;> omega
            have hjl : (j : Int) < ((bytesP c).length : Int) := by rw [lc]; omega
            refine ⟨_, ⟨rfl, rfl⟩, ?_⟩
            refine ⟨_, ⟨rfl, rfl⟩, ?_⟩
            refine ⟨_, Ob.mk ⟨hxl j, Int.natCast_nonneg j, hjl⟩ ⟨rfl, rfl⟩, ?_⟩
            refine ⟨_, Ob.mk (hxl j) (Idx.mk (.int .u8 c[j].toNat) (Int.natCast_nonneg _) (by rw [Nat.zero_add]; exact bytes_at hxa) ⟨rfl, rfl⟩), ?_⟩
            refine ⟨_, ⟨rfl, rfl⟩, ?_⟩
            refine ⟨_, ⟨rfl, rfl⟩, ?_⟩
            refine ⟨_, Idx.mk (.int .u8 g.toNat) (Int.natCast_nonneg i) (bytes_at hg) ⟨rfl, rfl⟩, ?_⟩
            refine ⟨_, ⟨rfl, rfl⟩, ?_⟩
            refine ⟨_, ⟨rfl, rfl⟩, ?_⟩
            refine ⟨_, Ob.mk ⟨hxl j, Int.natCast_nonneg j, hjl⟩ ⟨rfl, rfl⟩, ?_⟩
            refine ⟨_, _, Ob.mk ⟨hxl j, (show 0 + ((j : Nat) : Int).toNat < (bytesP c).length by rw [lc]; omega)⟩ ⟨rfl, rfl⟩, rfl, ?_⟩
            refine Chk.mk (by kernel_rfl) ?_
            refine ⟨j + 1, ⟨by omega, by omega⟩, by omega, Nat.le_refl _, Trim.mk' ?_ ?_ rfl rfl (Nat.le_refl _)⟩
            · refine Eq.trans (b := [_, _, _, _, _, _, (11, AV.p (ii (IntKind.i64.wrap ((j : Int) + 1)))), _, _, _]) rfl ?_
              rw [ej]; rfl
            · show [_, _, _, some (AObj.buf 1 ((bytesP (xorF c a0 j g)).set (0 + ((j : Nat) : Int).toNat) (.int .u8 (bits .xor .u8 (c[j].toNat : Int) (g.toNat : Int)))) (some 5))] = [_, _, _, _]
              rw [xor_u8, Nat.zero_add, Int.toNat_natCast, bytes_set, hxs]
          · have hjc : j = c.length := by have := of_decide_eq_false hjc; rw [lc] at this; omega
            subst hjc
            refine Ob.mk (hxl _) ?_
            have hX : ((bytesP (xorF c a0 c.length g)).drop 0).take (bytesP c).length = bytesP (xorF c a0 c.length g) := by rw [List.drop_zero, ← hxl c.length, List.take_length]
            obtain ⟨p1, p2⟩ := put_got hq cl (xorF c a0 c.length g) (xorF c a0 c.length g).length
            refine ⟨i + 1, (show i + 1 ≤ ns.length by omega), (show ns.length - (i + 1) < ns.length - i by omega), Nat.le_refl _, Trim.mk' ?_ ?_ rfl rfl (show (2 : Nat) ≤ 4 by decide)⟩
            · refine Eq.trans (b := [_, _, _, _, _, (15, AV.p (ii (IntKind.i64.wrap ((i : Int) + 1))))]) rfl ?_
              rw [ei]; rfl
            · show [some (AObj.map .str (mPut (e.map ent) cl (.str n) (.agg [.sl .shr 1 (((bytesP (xorF c a0 c.length g)).drop 0).take (bytesP c).length), ii (bytesP c).length])) (mClock (e.map ent) cl (.str n))), _] = fsS (crS keeps garble ns es (i + 1)) cl left deeds
              rw [hX, enext, p2, ← hxl c.length, bytesP_len]
              show [some (AObj.map .str (mPut (e.map ent) cl (.str n) (fval (xorF c a0 c.length g) (xorF c a0 c.length g).length)) cl), _] = _
              rw [p1]; rfl
        · refine Br.f (decide_eq_false (show ¬ (i : Int) < ((bytesP garble).length : Int) by rw [lgb]; omega)) ?_
          have egb : gbl garble i c q.2 = c := by unfold gbl; rw [List.getElem?_eq_none (by omega)]
          rw [ecr, egb] at enext
          refine Ob.mk rfl ?_
          have hX : ((bytesP c).drop 0).take (bytesP c).length = bytesP c := by rw [List.drop_zero, List.take_length]
          obtain ⟨p1, p2⟩ := put_got hq cl c c.length
          refine ⟨i + 1, (show i + 1 ≤ ns.length by omega), (show ns.length - (i + 1) < ns.length - i by omega), Nat.le_refl _, Trim.mk' ?_ ?_ rfl rfl (show (2 : Nat) ≤ 4 by decide)⟩
          · refine Eq.trans (b := [_, _, _, _, _, (15, AV.p (ii (IntKind.i64.wrap ((i : Int) + 1))))]) rfl ?_
            rw [ei]; rfl
          · show [some (AObj.map .str (mPut (e.map ent) cl (.str n) (.agg [.sl .shr 1 (((bytesP c).drop 0).take (bytesP c).length), ii (bytesP c).length])) (mClock (e.map ent) cl (.str n))), _] = fsS (crS keeps garble ns es (i + 1)) cl left deeds
            rw [hX, enext, p2, bytesP_len]
            show [some (AObj.map .str (mPut (e.map ent) cl (.str n) (fval c c.length)) cl), _] = _
            rw [p1]; rfl
  · have hc : i = ns.length := by have := of_decide_eq_false hc; rw [hnl] at this; omega
    subst hc
    refine Ob.mk (okst rfl rfl rfl) ?_
    exact h ns hperm hsort
end Go.Proofs.Ytneheklmkbhieaa.AW

open Go Go.Proofs.Ytneheklmkbhieaa.AW Go.Proofs
namespace Go.Proofs.Ytneheklmkbhieaa.AW
set_option maxRecDepth 100000
set_option linter.unusedSimpArgs false
set_option linter.unusedVariables false

/-! ### Within, names, known -/
def wi (n H : Int) : Int := if 0 ≤ n ∧ n ≤ H then n else if n.tmod (H + 1) < 0 then n.tmod (H + 1) + H + 1 else n.tmod (H + 1)
theorem wi_in (n : Int) {H : Int} (h0 : 0 ≤ H) : 0 ≤ wi n H ∧ wi n H ≤ H := by
  unfold wi
  have h1 := Int.tmod_lt_of_pos n (show (0 : Int) < H + 1 by omega)
  have h2 : -(H + 1) < n.tmod (H + 1) := by
    rcases Int.le_total 0 n with h | h
    · have := Int.tmod_nonneg (H + 1) h; omega
    · have := Int.tmod_lt_of_pos (-n) (show (0 : Int) < H + 1 by omega)
      rw [Int.neg_tmod] at this; omega
  split
  · omega
  · split <;> omega
theorem within_c (n H : Int) (h0 : 0 ≤ H) (h1 : H ≤ 1073741824) (s : Store) (K : AV → Store → Prop) (h : K (.p (ii (wi n H))) s) : Cal Try.prog 20 [.p (ii n), .p (ii 0), .p (ii H)] s K := by
  refine Cal.pure (args := [ii n, ii 0, ii H]) ?_
  refine Cal.intro Try.func20 (by decide +kernel) rfl rfl ?_
  have hin := wi_in n h0
  unfold wi at h hin
  have e1 : IntKind.i64.wrap (IntKind.i64.wrap (H - 0) + 1) = H + 1 := by simp only [IntKind.wrap_i64]; omega
  have hlo : -(H + 1) < n.tmod (H + 1) := by
    rcases Int.le_total 0 n with h | h
    · have := Int.tmod_nonneg (H + 1) h; omega
    · have := Int.tmod_lt_of_pos (-n) (show (0 : Int) < H + 1 by omega)
      rw [Int.neg_tmod] at this; omega
  have hhi := Int.tmod_lt_of_pos n (show (0 : Int) < H + 1 by omega)
  have fin : ¬ (0 ≤ n ∧ n ≤ H) → (∀ M : Int, M = H + 1 → (M ≠ 0 ∧ (n.tmod M < 0 → K (.p (ii (IntKind.i64.wrap (0 + IntKind.i64.wrap (IntKind.i64.wrap (IntKind.i64.wrap (n.tmod M + H) - 0) + 1))))) s) ∧ (¬ n.tmod M < 0 → K (.p (ii (IntKind.i64.wrap (0 + n.tmod M)))) s))) := by
    intro hc M hM
    subst hM
    rw [if_neg hc] at h
    refine ⟨by omega, fun hn => ?_, fun hn => ?_⟩
    · rw [if_pos hn] at h
      have e : IntKind.i64.wrap (0 + IntKind.i64.wrap (IntKind.i64.wrap (IntKind.i64.wrap (n.tmod (H + 1) + H) - 0) + 1)) = n.tmod (H + 1) + H + 1 := by
        generalize n.tmod (H + 1) = t at *
        simp only [IntKind.wrap_i64]; omega
      rw [e]; exact h
    · rw [if_neg hn] at h
      have e : IntKind.i64.wrap (0 + n.tmod (H + 1)) = n.tmod (H + 1) := by
        generalize n.tmod (H + 1) = t at *
        rw [wrap_i64] <;> omega
      rw [e]; exact h
  cases hx : decide (n ≥ 0) with
  | false =>
    have hx1 : (decide (n ≥ 0) == true) = false := by rw [hx]; rfl
    iterate 3 refine Br.f hx1 ?_
    refine Br.f hx ?_
    refine Br.f rfl ?_
    obtain ⟨f1, f2, f3⟩ := fin (fun hh => absurd hh.1 (by simpa using hx)) _ e1
    refine Ob.mk f1 ?_
    refine Br.mk (fun c => ?_) (fun c => ?_)
    · exact f2 (by simpa using c)
    · exact f3 (by simpa using c)
  | true =>
    have hx1 : (decide (n ≥ 0) == true) = true := by rw [hx]; rfl
    have hn0 : 0 ≤ n := by simpa using hx
    cases hy : decide (n ≤ H) with
    | true =>
      have hn1 : n ≤ H := by simpa using hy
      rw [if_pos ⟨hn0, hn1⟩] at h
      iterate 3 refine Br.t hx1 ?_
      refine Br.t hx ?_
      refine Br.t hy ?_
      exact h
    | false =>
      have hn1 : ¬ n ≤ H := by simpa using hy
      iterate 3 refine Br.t hx1 ?_
      refine Br.t hx ?_
      refine Br.f hy ?_
      obtain ⟨f1, f2, f3⟩ := fin (fun hh => hn1 hh.2) _ e1
      refine Ob.mk f1 ?_
      refine Br.mk (fun c => ?_) (fun c => ?_)
      · exact f2 (by simpa using c)
      · exact f3 (by simpa using c)

def nmL : List (List UInt8) := [[97], [98], [115, 116, 97, 114, 116], [228, 184, 150], [65], [], [122, 46, 108, 111, 103]]
theorem names_c (s : Store) (K : AV → Store → Prop) (h : K (.p (.sl .shr 1 (nmL.map .str))) s) : Cal Try.prog 22 [] s K := by
  refine Cal.weak ?_
  refine Cal.intro Try.func22 (by decide +kernel) rfl rfl ?_
  exact ⟨_, .inl WkA1.shr, h⟩

theorem fok_nil (l d : Int) (hl : -9223372036854775808 ≤ l ∧ l < 9223372036854775808) (hd : 0 ≤ d ∧ d < 9223372036854775807) : FOk [] l d := ⟨hl, hd, fun n q h => by cases h⟩
theorem fok_one {t : Nat} {m b : List UInt8} {k : Nat} {l d : Int} (hl : -9223372036854775808 ≤ l ∧ l < 9223372036854775808) (hd : 0 ≤ d ∧ d < 9223372036854775807) (h1 : b.length + 1 ≤ 549755813888) (h2 : k ≤ b.length) : FOk [(t, m, b, k)] l d :=
  ⟨hl, hd, fun n q h => by
    unfold fGet at h
    split at h
    · cases h; exact ⟨h1, h2⟩
    · cases h⟩
theorem fi_one {t : Nat} {m b : List UInt8} {k : Nat} (hm : m.length < 1099511627776) : FI [(t, m, b, k)] := ⟨by simp, fun q hq => by rw [List.mem_singleton] at hq; subst hq; exact hm, by show 1 < _; decide⟩
theorem perm_one {ns : List (List UInt8)} {m : List UInt8} (h : ns.Perm [m]) : ns = [m] := List.perm_singleton.1 h

/-- A name that is right, of a file that may be, with no stop. -/
theorem append_k (es : List FE) (cl : Nat) (left deeds : Int) (hok : FOk es left deeds) (n b : List UInt8) (hr : isRt n = true) (hf : es.length < 64) (hl : left ≠ 0) (hn : n.length < 1099511627776) (hb : b.length ≤ 549755813888) (K : AV → Store → Prop)
    (h4 : K (.p (ii 0)) (fsS (fPut es cl n (fB es n ++ b) (fL es n)) (fCl es cl n) (lft left) (deeds + 1))) :
    Cal Try.prog 11 [fsP, .p (.str n), .p (bsl b)] (fsS es cl left deeds) K :=
  append_c es cl left deeds hok n b hn hb K (fun h => absurd (hr.symm.trans h) (by decide)) (fun _ _ h => absurd h (by omega)) (fun _ _ h => absurd h hl) (fun _ _ _ => h4)
theorem sync_k (es : List FE) (cl : Nat) (left deeds : Int) (hok : FOk es left deeds) (n : List UInt8) (q : List UInt8 × Nat) (hg : fGet es n = some q) (hl : left ≠ 0) (K : AV → Store → Prop)
    (h4 : K (.p (ii 0)) (fsS (fSet es n q.1 q.1.length) cl (lft left) (deeds + 1))) :
    Cal Try.prog 12 [fsP, .p (.str n)] (fsS es cl left deeds) K :=
  sync_c es cl left deeds hok n K (fun h => absurd (hg.symm.trans h) (by simp)) (fun _ _ h => absurd h hl) (fun q' h _ => by cases hg.symm.trans h; exact h4)
theorem crash_w (es : List FE) (cl : Nat) (left deeds : Int) (hok : FOk es left deeds) (hi : FI es) (keeps : List Int) (garble : List UInt8) (a b : PV) (ha : WkA1 (.p a) (.p (kl keeps))) (hb : WkA1 (.p b) (.p (bsl garble))) (K : AV → Store → Prop)
    (h : ∀ ns : List (List UInt8), ns.Perm (es.map (·.2.1)) → ns.Pairwise (fun a b => ¬ lessR b a = true) → K (.tup []) (fsS (crS keeps garble ns es ns.length) cl (-1) deeds)) :
    Cal Try.prog 13 [fsP, .p a, .p b] (fsS es cl left deeds) K :=
  Cal.args (crash_c es cl left deeds hok hi keeps garble K h) ⟨.refl _, ha, hb, trivial⟩
theorem append_w {es : List FE} {cl : Nat} {left deeds : Int} {n b : List UInt8} {a : PV} {K : AV → Store → Prop} (h : Cal Try.prog 11 [fsP, .p (.str n), .p (bsl b)] (fsS es cl left deeds) K) (ha : WkA1 (.p a) (.p (bsl b))) :
    Cal Try.prog 11 [fsP, .p (.str n), .p a] (fsS es cl left deeds) K := Cal.args h ⟨.refl _, .refl _, ha, trivial⟩

theorem frz3 {P : Program} {f : Nat} {a b v : AV} {s : Store} {K : AV → Store → Prop} (h : toP s v fun p s' => Cal P f [a, b, .p p] s' K) : Cal P f [a, b, v] s K := by
  unfold Cal
  refine fun w g vs hinv hG hfresh hargs => ?_
  have c : Cx w g (getO s) s (fun _ => True) False := ⟨hinv, fun _ _ => rfl, fun hh => hh.elim⟩
  cases hargs with
  | cons _ x _ xs ha h1 =>
  cases h1 with
  | cons _ y _ ys hb h2 =>
  cases h2 with
  | cons _ z _ zs hv h3 =>
  obtain ⟨p, s2, k1, fz, k3⟩ := toP_tree hv c (fun _ _ => trivial) h
  have hov : ovr (fun _ => True) s s2 (getO s) = getO s2 := by funext i; simp [ovr]
  have q1 := fz.inv; have q2 := fz.ext
  rw [hov] at q1 q2 k3
  unfold Cal at k1
  have hG2 := hG.ext q2
  refine (k1 w g _ q1 hG2 (fun id hid => by rw [fz.len]; exact hfresh id hid) (.cons _ _ _ _ (q2.repA ha) (.cons _ _ _ _ (q2.repA hb) (.cons _ _ _ _ (.p _ _ k3) (by cases h3; exact .nil))))).mono fun e w' hpost => ?_
  obtain ⟨r, v, s', g', rfl, a1, a2, a3, a4, a5, a6⟩ := hpost
  exact ⟨r, v, s', g', rfl, a1, by have := fz.len; omega, a3, a4, q2.trans a5, fun id hid => by have := a6 id hid; rw [fz.len] at this; exact this⟩

set_option maxHeartbeats 4000000 in
theorem known_c (K : AV → Store → Prop) (h : K (.p (.bool true)) []) : Cal Try.prog 15 [] [] K := by
  refine Cal.cut ?_
  refine Cal.intro Try.func15 (by decide +kernel) rfl rfl ?_
  refine new_c _ ?_
  refine Br.f rfl ?_
  refine Or.inr ?_
  refine Ob.mk rfl ?_
  refine frz3 (Ob.mk rfl ?_)
  refine Cal.frameK [0, 1] (append_k [] 0 (-1) 0 (fok_nil _ _ (by decide) (by decide)) [97] [120, 121] (by decide +kernel) (by decide) (by decide) (by decide) (by decide) _ fun _ => ?_) rfl rfl rfl
  refine Cal.frameK [0, 1] (crash_w [(0, [97], [120, 121], 0)] 1 (-1) 1 (fok_one (by decide) (by decide) (by decide) (by decide)) (fi_one (by decide)) [1] [] _ _ .shr (.nil _ _) _ (fun ns hp _ _ => ?_)) rfl rfl rfl
  have := perm_one hp; subst this
  refine Cal.frameK [0, 1] (read_c [(0, [97], [120], 1)] 1 (-1) 1 (fok_one (by decide) (by decide) (by decide) (by decide)) [97] _ fun _ => ?_) rfl rfl rfl
  refine Or.inr ?_
  refine Ob.mk rfl ?_
  refine frz3 (Ob.mk rfl ?_)
  refine Cal.frameK [0, 1] (append_k [(0, [97], [120], 1)] 1 (-1) 1 (fok_one (by decide) (by decide) (by decide) (by decide)) [97] [122, 122] (by decide +kernel) (by decide) (by decide) (by decide) (by decide) _ fun _ => ?_) rfl rfl rfl
  refine Cal.frameK [0, 1] (sync_k [(0, [97], [120, 122, 122], 1)] 1 (-1) 2 (fok_one (by decide) (by decide) (by decide) (by decide)) [97] ([120, 122, 122], 1) rfl (by decide) _ fun _ => ?_) rfl rfl rfl
  refine Cal.frameK [0, 1] (crash_w [(0, [97], [120, 122, 122], 3)] 1 (-1) 3 (fok_one (by decide) (by decide) (by decide) (by decide)) (fi_one (by decide)) [] [] _ _ (.nil _ _) (.nil _ _) _ (fun ns hp _ _ => ?_)) rfl rfl rfl
  have := perm_one hp; subst this
  refine Cal.frameK [0, 1] (read_c [(0, [97], [120, 122, 122], 3)] 1 (-1) 3 (fok_one (by decide) (by decide) (by decide) (by decide)) [97] _ fun _ => ?_) rfl rfl rfl
  refine Cal.frameK [0, 1] (rename_c [(0, [97], [120, 122, 122], 3)] 1 (-1) 3 (fok_one (by decide) (by decide) (by decide) (by decide)) [110, 111, 110, 101] [98] (by decide) _ (fun _ _ => ?_) (fun q hq => by cases hq) (fun q hq => by cases hq) (fun q hq => by cases hq)) rfl rfl rfl
  refine Cal.frameK [0, 1] (append_w (append_c [(0, [97], [120, 122, 122], 3)] 1 (-1) 3 (fok_one (by decide) (by decide) (by decide) (by decide)) [65] [] (by decide) (by decide) _ (fun _ _ => ?_) (fun h => absurd h (by decide +kernel)) (fun h => absurd h (by decide +kernel)) (fun h => absurd h (by decide +kernel))) (.nil _ _)) rfl rfl rfl
  refine Cal.frameK [0, 1] (stop_c [(0, [97], [120, 122, 122], 3)] 1 (-1) 3 0 _ fun _ => ?_) rfl rfl rfl
  refine Or.inr ?_
  refine Ob.mk rfl ?_
  refine frz3 (Ob.mk rfl ?_)
  refine Cal.frameK [0, 1] (append_c [(0, [97], [120, 122, 122], 3)] 1 0 3 (fok_one (by decide) (by decide) (by decide) (by decide)) [98] [113] (by decide) (by decide) _ (fun h => absurd h (by decide +kernel)) (fun _ _ h => absurd h (by decide)) (fun _ _ _ _ => ?_) (fun _ _ h => absurd rfl h)) rfl rfl rfl
  refine Cal.frameK [0, 1] (list_c [(0, [97], [120, 122, 122], 3)] 1 0 3 (fi_one (by decide)) _ (fun ns hp _ _ => ?_)) rfl rfl rfl
  have := perm_one hp; subst this
  repeat refine Br.t rfl ?_
  refine Ob.mk (.inr rfl) ⟨[120], rfl, ?_⟩
  repeat refine Br.t rfl ?_
  refine Ob.mk (.inr rfl) ⟨[120, 122, 122], rfl, ?_⟩
  repeat refine Br.t rfl ?_
  refine Cal.frameK [0, 1] (deeds_c [(0, [97], [120, 122, 122], 3)] 1 0 3 _ fun _ => ?_) rfl rfl rfl
  repeat refine Br.t rfl ?_
  refine Cal.frameK [0, 1] (len_c [(0, [97], [120, 122, 122], 3)] 1 0 3 [98] _ fun _ => ?_) rfl rfl rfl
  repeat refine Br.t rfl ?_
  exact ⟨0, [], Nat.le_refl _, Nat.zero_le _, rfl, rfl, WkS.refl _, h⟩
end Go.Proofs.Ytneheklmkbhieaa.AW
