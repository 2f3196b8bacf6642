/- A part of the proof: LC/X1, LC/X2, LC/X3, LC/X4, LC/X5, LC/X6, LC/X7, LC/X8, LC/X9, LC/X10, LC/X12, LC/X11, LC/X13. -/
import Derived.Test.YtkokaflanlcojaaDoorP14
open Go Go.Proofs.YtkokaflanlcojaaDoor.AW Go.Proofs
namespace Go.Proofs.YtkokaflanlcojaaDoor.AW
set_option maxRecDepth 100000
set_option linter.unusedSimpArgs false
set_option linter.unusedVariables false

/-- May a kind's name hold this rune? -/
def isNm (r : Nat) : Bool := (decide (97 ≤ r) && decide (r ≤ 122)) || ((decide (48 ≤ r) && decide (r ≤ 57)) || (decide (r = 46) || (decide (r = 45) || (decide (r = 95) || (decide (255 < r) && decide (r ≠ 65533))))))
theorem one_c (r : Nat) (s : Store) (K : AV → Store → Prop) (h : K (.p (.bool (isNm r))) s) : Cal Tryd.prog 51 [.p (.int .i32 r)] s K := by
  refine Cal.pure (args := [.int .i32 r]) ?_
  refine Cal.intro Tryd.func51 (by decide +kernel) rfl rfl ?_
  have fin : ∀ b, b = isNm r → K (.p (.bool b)) s := fun b hb => by rw [hb]; exact h
  by_cases a1 : 97 ≤ r <;> by_cases a2 : r ≤ 122 <;> by_cases a3 : 48 ≤ r <;> by_cases a4 : r ≤ 57 <;> by_cases a5 : r = 46 <;> by_cases a6 : r = 45 <;> by_cases a7 : r = 95 <;> by_cases a8 : 255 < r <;> by_cases a9 : r = 65533
  all_goals first
    | omega
    | skip
  all_goals
    repeat first | refine Br.t (by first | rfl | (simp; done) | (simp; omega)) ?_ | refine Br.f (by first | rfl | (simp; done) | (simp; omega)) ?_
    refine fin _ ?_
    rw [Bool.eq_iff_iff]
    unfold isNm
    simp
    try omega
end Go.Proofs.YtkokaflanlcojaaDoor.AW

open Go Go.Proofs.YtkokaflanlcojaaDoor.AW Go.Proofs
namespace Go.Proofs.YtkokaflanlcojaaDoor.AW
set_option maxRecDepth 100000
set_option linter.unusedSimpArgs false
set_option linter.unusedVariables false

theorem rune1_c (r : Nat) (s : Store) (K : AV → Store → Prop) (h : K (.p (.bool (isNm r))) s) : Cal Tryd.prog 59 [.p (.int .i32 r)] s K := by
  refine Cal.pure (args := [.int .i32 r]) ?_
  refine Cal.intro Tryd.func59 (by decide +kernel) rfl rfl ?_
  have fin : ∀ b, b = isNm r → K (.p (.bool b)) s := fun b hb => by rw [hb]; exact h
  by_cases a1 : 97 ≤ r <;> by_cases a2 : r ≤ 122 <;> by_cases a3 : 48 ≤ r <;> by_cases a4 : r ≤ 57 <;> by_cases a5 : r = 46 <;> by_cases a6 : r = 45 <;> by_cases a7 : r = 95 <;> by_cases a8 : 255 < r <;> by_cases a9 : r = 65533
  all_goals first
    | omega
    | skip
  all_goals
    repeat first | refine Br.t (by first | rfl | (simp; done) | (simp; omega)) ?_ | refine Br.f (by first | rfl | (simp; done) | (simp; omega)) ?_
    refine fin _ ?_
    rw [Bool.eq_iff_iff]
    unfold isNm
    simp
    try omega

theorem ncount_c (l : List UInt8) (hl : l.length < 9223372036854775808) (s : Store) (K : AV → Store → Prop) (h : K (.p (ii (rns l).length)) s) : Cal Tryd.prog 30 [.p (.str l)] s K := by
  refine Cal.pure (args := [.str l]) ?_
  refine Cal.intro Tryd.func30 (by decide +kernel) rfl rfl ?_
  have hle := rns_le l
  refine LoopX.fam [3, 5] (fun (q : Nat × List UInt8 × Nat) => ([(3, .p (ii q.1)), (5, .it 0)], [some (.iterS q.2.1 q.2.2)])) (fun q => q.1 + (rns q.2.1).length = (rns l).length) (fun q => q.2.1.length) (0, l, 0) (by simp) (Trim.mk' rfl rfl rfl rfl (Nat.le_refl _)) ?_
  rintro ⟨n, rest, pos⟩ hq
  have hq : n + (rns rest).length = (rns l).length := hq
  refine BrL.mk (fun (he : rest = []) => ?_) (fun (hne : rest ≠ []) => ?_)
  · refine Br.f rfl ?_
    rw [he, rns_nil] at hq
    have : n = (rns l).length := by simpa using hq
    rw [← this] at h
    exact h
  · refine Br.t rfl ?_
    rw [rns_step hne] at hq
    simp only [List.length_cons] at hq
    have h3 := decode_pos rest
    have h4 : 0 < rest.length := List.length_pos_iff.2 hne
    refine ⟨(n + 1, rest.drop (decode rest).2, pos + (decode rest).2), by simp only; omega, by simp; omega, Nat.le_refl _, Trim.mk' ?_ rfl rfl rfl (Nat.le_refl _)⟩
    have e : IntKind.i64.wrap ((n : Int) + 1) = ((n + 1 : Nat) : Int) := by rw [wrap_i64] <;> omega
    rw [← e]; rfl



/-- Is it a kind's name, but for the dot? -/
def isRt (l : List UInt8) : Bool := (rns l).all (fun r => isNm r.toNat) && (decide (1 ≤ (rns l).length) && decide ((rns l).length ≤ 40))
theorem one_v {r : Nat} {b : Bool} (hb : isNm r = b) (s : Store) (K : AV → Store → Prop) (h : K (.p (.bool b)) s) : Cal Tryd.prog 51 [.p (.int .i32 r)] s K := one_c r s K (by rw [hb]; exact h)
theorem rune1_v {r : Nat} {b : Bool} (hb : isNm r = b) (s : Store) (K : AV → Store → Prop) (h : K (.p (.bool b)) s) : Cal Tryd.prog 59 [.p (.int .i32 r)] s K := rune1_c r s K (by rw [hb]; exact h)
theorem right_c (l : List UInt8) (hl : l.length < 9223372036854775808) (s : Store) (K : AV → Store → Prop) (h : K (.p (.bool (isRt l))) s) : Cal Tryd.prog 28 [.p (.str l)] s K := by
  refine Cal.pure (args := [.str l]) ?_
  refine Cal.intro Tryd.func28 (by decide +kernel) rfl rfl ?_
  refine LoopX.fam [0, 7] (fun (q : List UInt8 × Nat) => ([(0, .p (.str l)), (7, .it 0)], [some (.iterS q.1 q.2)]))
    (fun q => (rns l).all (fun r => isNm r.toNat) = (rns q.1).all (fun r => isNm r.toNat)) (fun q => q.1.length) (l, 0) rfl (Trim.mk' rfl rfl rfl rfl (Nat.le_refl _)) ?_
  rintro ⟨rest, pos⟩ hq
  change (rns l).all (fun r => isNm r.toNat) = (rns rest).all (fun r => isNm r.toNat) at hq
  refine BrL.mk (fun (he : rest = []) => ?_) (fun (hne : rest ≠ []) => ?_)
  · refine Br.f rfl ?_
    rw [he, rns_nil] at hq
    have e1 : isRt l = (decide (1 ≤ (rns l).length) && decide ((rns l).length ≤ 40)) := by unfold isRt; rw [hq]; rfl
    rw [e1] at h
    refine ncount_c l hl _ _ ?_
    by_cases c : 1 ≤ (rns l).length
    · have c1 : decide (((rns l).length : Int) ≥ 1) = true := by simp; omega
      repeat (first | refine Br.t c1 ?_ | refine Br.t (congrArg (· == true) c1) ?_)
      have e2 : (decide (1 ≤ (rns l).length) && decide ((rns l).length ≤ 40)) = decide (((rns l).length : Int) ≤ 40) := by
        rw [decide_eq_true c, Bool.true_and]
        exact decide_eq_decide.2 (by omega)
      rw [e2] at h
      exact h
    · have c1 : decide (((rns l).length : Int) ≥ 1) = false := by simp; omega
      repeat (first | refine Br.f c1 ?_ | refine Br.f (congrArg (· == true) c1) ?_)
      have e2 : (decide (1 ≤ (rns l).length) && decide ((rns l).length ≤ 40)) = false := by simp; omega
      rw [e2] at h
      exact h
  · refine Br.t rfl ?_
    have hd : (rest.drop (decode rest).2).length < rest.length := by
      have h3 := decode_pos rest
      have h4 : 0 < rest.length := List.length_pos_iff.2 hne
      simp; omega
    rw [rns_step hne, List.all_cons, Int.toNat_natCast] at hq
    by_cases hp : isNm (decode rest).1 = true
    · refine one_v hp _ _ ?_
      refine Br.f rfl ?_
      rw [hp, Bool.true_and] at hq
      exact ⟨(rest.drop (decode rest).2, pos + (decode rest).2), hq, hd, Nat.le_refl _, Trim.mk' rfl rfl rfl rfl (Nat.le_refl _)⟩
    · have hp2 : isNm (decode rest).1 = false := by simpa using hp
      refine one_v hp2 _ _ ?_
      refine Br.t rfl ?_
      rw [hp2, Bool.false_and] at hq
      have e1 : isRt l = false := by unfold isRt; rw [hq]; rfl
      rw [e1] at h
      exact h

theorem right2_c (l : List UInt8) (hl : l.length < 9223372036854775808) (s : Store) (K : AV → Store → Prop) (h : K (.p (.bool (isRt l))) s) : Cal Tryd.prog 42 [.p (.str l)] s K := by
  refine Cal.pure (args := [.str l]) ?_
  refine Cal.intro Tryd.func42 (by decide +kernel) rfl rfl ?_
  refine LoopX.fam [0, 6] (fun (q : List UInt8 × Nat) => ([(0, .p (.str l)), (6, .it 0)], [some (.iterS q.1 q.2)]))
    (fun q => (rns l).all (fun r => isNm r.toNat) = (rns q.1).all (fun r => isNm r.toNat)) (fun q => q.1.length) (l, 0) rfl (Trim.mk' rfl rfl rfl rfl (Nat.le_refl _)) ?_
  rintro ⟨rest, pos⟩ hq
  change (rns l).all (fun r => isNm r.toNat) = (rns rest).all (fun r => isNm r.toNat) at hq
  refine BrL.mk (fun (he : rest = []) => ?_) (fun (hne : rest ≠ []) => ?_)
  · refine Br.f rfl ?_
    rw [he, rns_nil] at hq
    have e1 : isRt l = (decide (1 ≤ (rns l).length) && decide ((rns l).length ≤ 40)) := by unfold isRt; rw [hq]; rfl
    rw [e1] at h
    refine count_c l hl _ _ ?_
    by_cases c : 1 ≤ (rns l).length
    · have c1 : decide (((rns l).length : Int) ≥ 1) = true := by simp; omega
      repeat (first | refine Br.t c1 ?_ | refine Br.t (congrArg (· == true) c1) ?_)
      refine count_c l hl _ _ ?_
      repeat (first | refine Br.t c1 ?_ | refine Br.t (congrArg (· == true) c1) ?_)
      have e2 : (decide (1 ≤ (rns l).length) && decide ((rns l).length ≤ 40)) = decide (((rns l).length : Int) ≤ 40) := by
        rw [decide_eq_true c, Bool.true_and]
        exact decide_eq_decide.2 (by omega)
      rw [e2] at h
      exact h
    · have c1 : decide (((rns l).length : Int) ≥ 1) = false := by simp; omega
      repeat (first | refine Br.f c1 ?_ | refine Br.f (congrArg (· == true) c1) ?_)
      have e2 : (decide (1 ≤ (rns l).length) && decide ((rns l).length ≤ 40)) = false := by simp; omega
      rw [e2] at h
      exact h
  · refine Br.t rfl ?_
    have hd : (rest.drop (decode rest).2).length < rest.length := by
      have h3 := decode_pos rest
      have h4 : 0 < rest.length := List.length_pos_iff.2 hne
      simp; omega
    rw [rns_step hne, List.all_cons, Int.toNat_natCast] at hq
    by_cases hp : isNm (decode rest).1 = true
    · refine rune1_v hp _ _ ?_
      refine Br.f rfl ?_
      rw [hp, Bool.true_and] at hq
      exact ⟨(rest.drop (decode rest).2, pos + (decode rest).2), hq, hd, Nat.le_refl _, Trim.mk' rfl rfl rfl rfl (Nat.le_refl _)⟩
    · have hp2 : isNm (decode rest).1 = false := by simpa using hp
      refine rune1_v hp2 _ _ ?_
      refine Br.t rfl ?_
      rw [hp2, Bool.false_and] at hq
      have e1 : isRt l = false := by unfold isRt; rw [hq]; rfl
      rw [e1] at h
      exact h

end Go.Proofs.YtkokaflanlcojaaDoor.AW

open Go Go.Proofs.YtkokaflanlcojaaDoor.AW Go.Proofs
namespace Go.Proofs.YtkokaflanlcojaaDoor.AW
set_option maxRecDepth 100000
set_option linter.unusedSimpArgs false
set_option linter.unusedVariables false

def up (r : Int) : Int := if 97 ≤ r ∧ r ≤ 122 then r - 32 else r
def upper (l : List UInt8) : List UInt8 := encs ((rns l).map up)
def i32s (l : List Int) : List PV := l.map (.int .i32)

theorem up_le {r : Int} (h : ¬ (97 ≤ r ∧ r ≤ 122)) : up r = r := by unfold up; rw [if_neg h]
theorem up_b {r : Int} (h : decide (r ≤ 122) = false) : r = up r := (up_le (by simp at h; omega)).symm
theorem up_gt {r : Int} (h : 97 ≤ r ∧ r ≤ 122) : IntKind.i32.wrap (r + -32) = up r := by unfold up; rw [if_pos h, IntKind.wrap_i32]; omega

def outSt (d : List Int) (it : Option AObj) : AV × Store := match d with
  | [] => (.p (.sl .nil 0 []), [it])
  | d :: ds => (.osl 1 (i32s (d :: ds)).length 0 (i32s (d :: ds)).length, [it, some (.buf 1 (i32s (d :: ds)))])

theorem app1 {x : Int} {d : Int} {ds : List Int} : i32s (d :: ds) ++ [.int .i32 x] = i32s (d :: (ds ++ [x])) := by simp [i32s]

theorem upper_c (l : List UInt8) (hl : l.length < 1099511627776) (s : Store) (K : AV → Store → Prop) (h : K (.p (.str (upper l))) s) : Cal Tryd.prog 31 [.p (.str l)] s K := by
  refine Cal.pure (args := [.str l]) ?_
  refine Cal.intro Tryd.func31 (by decide +kernel) rfl rfl ?_
  refine LoopX.fam [2, 3, 7] (fun (q : List Int × List UInt8 × Nat) => ([(2, .p (.str [])), (3, (outSt q.1 (some (.iterS q.2.1 q.2.2))).1), (7, .it 0)], (outSt q.1 (some (.iterS q.2.1 q.2.2))).2))
    (fun q => q.1 ++ (rns q.2.1).map up = (rns l).map up) (fun q => q.2.1.length) ([], l, 0) (by simp) (Trim.mk' rfl rfl rfl rfl (by simp)) ?_
  rintro ⟨d, rest, pos⟩ hq
  have hq : d ++ (rns rest).map up = (rns l).map up := hq
  have hdl : d.length ≤ l.length := by
    have h1 := congrArg List.length hq
    have h2 := rns_le l
    simp at h1; omega
  have fin : d ++ (rns rest).map up = (rns l).map up → rest = [] → K (.p (.str (encs d))) s := fun hq he => by
    subst he
    have : d = (rns l).map up := by simpa [rns_nil] using hq
    rw [this]; exact h
  cases d with
  | nil =>
    refine BrL.mk (fun (he : rest = []) => ?_) (fun (hne : rest ≠ []) => ?_)
    · refine Br.f rfl (Ob.mk (.inl rfl) ⟨[], rfl, ?_⟩)
      exact fin hq he
    · refine Br.t rfl ?_
      have h1 := rns_step hne
      have h3 := decode_pos rest
      have h4 : 0 < rest.length := List.length_pos_iff.2 hne
      have next : ∀ x : Int, x = up (decode rest).1 → ([x] : List Int) ++ (rns (rest.drop (decode rest).2)).map up = (rns l).map up := fun x hx => by
        rw [← hq, h1, hx]; simp
      refine (Int.lt_or_le ((decode rest).1 : Int) 97).elim
        (fun h5 => have hx : ((decode rest).1 : Int) = up (decode rest).1 := (up_le (by omega)).symm
          Br.f (by simp; omega) (Br.f (by simp; omega) (Br.f (by simp; omega) (Br.f rfl ?_))))
        (fun h5 => Br.t (by simp; omega) (Br.t (by simp; omega) (Br.t (by simp; omega) (Br.mk
          (fun h6 => have hx := up_gt (r := (decode rest).1) ⟨h5, by simpa using h6⟩; ?_)
          (fun h6 => have hx : ((decode rest).1 : Int) = up (decode rest).1 := up_b h6; ?_)))))
      all_goals
        refine BrL.c (Ob.mk (Nat.le_of_ble_eq_true rfl) ⟨([_], rest.drop (decode rest).2, pos + (decode rest).2), next _ hx, ?_, by simp [outSt], Trim.mk' rfl rfl rfl rfl (by simp [outSt])⟩)
        show (rest.drop (decode rest).2).length < rest.length
        simp; omega
  | cons d ds =>
    refine BrL.mk (fun (he : rest = []) => ?_) (fun (hne : rest ≠ []) => ?_)
    · refine Br.f rfl (Ob.mk rfl (Ob.mk (.inr rfl) ⟨d :: ds, ?_, ?_⟩))
      · show ((i32s (d :: ds)).drop 0).take (i32s (d :: ds)).length = i32s (d :: ds)
        rw [List.drop_zero, List.take_length]
      · exact fin hq he
    · refine Br.t rfl ?_
      have h1 := rns_step hne
      have h3 := decode_pos rest
      have h4 : 0 < rest.length := List.length_pos_iff.2 hne
      have next : ∀ x : Int, x = up (decode rest).1 → (d :: (ds ++ [x]) : List Int) ++ (rns (rest.drop (decode rest).2)).map up = (rns l).map up := fun x hx => by
        rw [← hq, h1, hx]; simp
      refine (Int.lt_or_le ((decode rest).1 : Int) 97).elim
        (fun h5 => have hx : ((decode rest).1 : Int) = up (decode rest).1 := (up_le (by omega)).symm
          Br.f (by simp; omega) (Br.f (by simp; omega) (Br.f (by simp; omega) (Br.f rfl ?_))))
        (fun h5 => Br.t (by simp; omega) (Br.t (by simp; omega) (Br.t (by simp; omega) (Br.mk
          (fun h6 => have hx := up_gt (r := (decode rest).1) ⟨h5, by simpa using h6⟩; ?_)
          (fun h6 => have hx : ((decode rest).1 : Int) = up (decode rest).1 := up_b h6; ?_)))))
      all_goals
        refine Ob.mk ⟨rfl, rfl, rfl, ?_⟩ ?_
        · have hb : Tryd.prog.types[21].bytes = 4 := rfl
          show ((i32s (d :: ds)).length + 1) * Tryd.prog.types[21].bytes ≤ 140737488355328
          rw [hb]; simp [i32s] at hdl ⊢; omega
        · refine ⟨(d :: (ds ++ [_]), rest.drop (decode rest).2, pos + (decode rest).2), next _ hx, ?_, by simp [outSt], Trim.mk' ?_ ?_ rfl rfl (by simp [outSt])⟩
          · show (rest.drop (decode rest).2).length < rest.length
            simp; omega
          · show [_, _, _] = [_, _, _]
            simp only [outSt, ← app1]; rfl
          · simp only [outSt, ← app1]; rfl
theorem encode_len (n : Int) : (Utf8.encode n).data.toList.length ≤ 4 := by
  have : (Utf8.encode n).size ≤ 4 := by
    unfold Utf8.encode
    simp only []
    repeat' split
    all_goals first
      | decide
      | simp [ByteArray.size]
      | skip
  rw [Array.length_toList]; exact this
theorem encs_snoc (l : List Int) (x : Int) : encs (l ++ [x]) = encs l ++ (Utf8.encode x).data.toList := by simp [encs]

theorem up_gt2 {r : Int} (h : 97 ≤ r ∧ r ≤ 122) : IntKind.i32.wrap (IntKind.i32.wrap (r - 97) + 65) = up r := by unfold up; rw [if_pos h, IntKind.wrap_i32, IntKind.wrap_i32]; omega

theorem upper2_c (l : List UInt8) (hl : l.length < 1099511627776) (s : Store) (K : AV → Store → Prop) (h : K (.p (.str (upper l))) s) : Cal Tryd.prog 43 [.p (.str l)] s K := by
  refine Cal.pure (args := [.str l]) ?_
  refine Cal.intro Tryd.func43 (by decide +kernel) rfl rfl ?_
  refine LoopX.fam [2, 3, 7] (fun (q : List Int × List UInt8 × Nat) => ([(2, .p (.str [])), (3, .p (.str (encs q.1))), (7, .it 0)], [some (.iterS q.2.1 q.2.2)]))
    (fun q => q.1 ++ (rns q.2.1).map up = (rns l).map up) (fun q => q.2.1.length) ([], l, 0) (by simp) (Trim.mk' rfl rfl rfl rfl (by simp)) ?_
  rintro ⟨d, rest, pos⟩ hq
  have hq : d ++ (rns rest).map up = (rns l).map up := hq
  have hdl : d.length ≤ l.length := by
    have h1 := congrArg List.length hq
    have h2 := rns_le l
    simp at h1; omega
  have hel := encs_len d
  refine BrL.mk (fun (he : rest = []) => ?_) (fun (hne : rest ≠ []) => ?_)
  · refine Br.f rfl ?_
    show K (.p (.str (encs d))) s
    subst he
    have : d = (rns l).map up := by simpa [rns_nil] using hq
    rw [this]; exact h
  · refine Br.t rfl ?_
    have h1 := rns_step hne
    have h3 := decode_pos rest
    have h4 : 0 < rest.length := List.length_pos_iff.2 hne
    have next : ∀ x : Int, x = up (decode rest).1 → (d ++ [x]) ++ (rns (rest.drop (decode rest).2)).map up = (rns l).map up := fun x hx => by
      rw [← hq, h1, hx]; simp
    refine (Int.lt_or_le ((decode rest).1 : Int) 97).elim
      (fun h5 => have hx : ((decode rest).1 : Int) = up (decode rest).1 := (up_le (by omega)).symm
        Br.f (by simp; omega) (Br.f (by simp; omega) (Br.f (by simp; omega) (Br.f rfl ?_))))
      (fun h5 => Br.t (by simp; omega) (Br.t (by simp; omega) (Br.t (by simp; omega) (Br.mk
        (fun h6 => have hx := up_gt2 (r := (decode rest).1) ⟨h5, by simpa using h6⟩; ?_)
        (fun h6 => have hx : ((decode rest).1 : Int) = up (decode rest).1 := up_b h6; ?_)))))
    all_goals
      refine Ob.mk (Nat.lt_of_le_of_lt (Nat.add_le_add_left (encode_len _) _) (show (encs d).length + 4 < _ by omega)) ?_
      refine ⟨(d ++ [_], rest.drop (decode rest).2, pos + (decode rest).2), next _ hx, ?_, by simp, Trim.mk' ?_ rfl rfl rfl (by simp)⟩
      · show (rest.drop (decode rest).2).length < rest.length
        simp; omega
      · simp only [encs_snoc]; rfl

end Go.Proofs.YtkokaflanlcojaaDoor.AW

open Go Go.Proofs.YtkokaflanlcojaaDoor.AW Go.Proofs
namespace Go.Proofs.YtkokaflanlcojaaDoor.AW
set_option maxRecDepth 100000
set_option linter.unusedSimpArgs false
set_option linter.unusedVariables false

def cmp1 (x y : Int) : Int := if x < y then -1 else if y < x then 1 else 0
theorem nan_c (x : Int) (s : Store) (K : AV → Store → Prop) (h : K (.p (.bool false)) s) : Cal Tryd.prog 89 [.p (.int .i32 x)] s K := by
  refine Cal.pure (args := [.int .i32 x]) ?_
  refine Cal.intro Tryd.func89 (by decide +kernel) rfl rfl ?_
  have e : bne x x = false := by simp
  rw [← e] at h
  exact h
theorem cmp_c (x y : Int) (s : Store) (K : AV → Store → Prop) (h : K (.p (ii (cmp1 x y))) s) : Cal Tryd.prog 70 [.p (.int .i32 x), .p (.int .i32 y)] s K := by
  refine Cal.pure (args := [.int .i32 x, .int .i32 y]) ?_
  refine Cal.intro Tryd.func70 (by decide +kernel) rfl rfl ?_
  refine nan_c x _ _ ?_
  refine nan_c y _ _ ?_
  refine Br.f rfl ?_
  refine Br.f rfl ?_
  unfold cmp1 at h
  refine Br.mk (fun hc => ?_) (fun hc => ?_)
  · have hc : x < y := by simpa using hc
    rw [if_pos hc] at h; exact h
  · have hc : ¬ x < y := by simpa using hc
    rw [if_neg hc] at h
    refine Br.mk (fun hd => ?_) (fun hd => ?_)
    · have hd : y < x := by simpa using hd
      rw [if_pos hd] at h; exact h
    · have hd : ¬ y < x := by simpa using hd
      rw [if_neg hd] at h; exact h

/-- Which of two rows of runes comes first? -/
def cmpR : List Int → List Int → Int
  | [], [] => 0
  | [], _ :: _ => -1
  | _ :: _, [] => 1
  | x :: a, y :: b => if cmp1 x y ≠ 0 then cmp1 x y else cmpR a b
theorem cmpR_drop {a b : List Int} {j : Nat} (h1 : j < a.length) (h2 : j < b.length) : cmpR (a.drop j) (b.drop j) = if cmp1 a[j] b[j] ≠ 0 then cmp1 a[j] b[j] else cmpR (a.drop (j + 1)) (b.drop (j + 1)) := by
  rw [List.drop_eq_getElem_cons h1, List.drop_eq_getElem_cons h2, cmpR]
theorem cmpR_nil {a b : List Int} {j : Nat} (h1 : a.length ≤ j) : cmpR (a.drop j) (b.drop j) = if j < b.length then -1 else 0 := by
  rw [List.drop_eq_nil_of_le h1]
  split
  · rename_i h
    rw [List.drop_eq_getElem_cons h]; rfl
  · rename_i h
    rw [List.drop_eq_nil_of_le (by omega)]; rfl
theorem cmpR_long {a b : List Int} {j : Nat} (h1 : j < a.length) (h2 : b.length ≤ j) : cmpR (a.drop j) (b.drop j) = 1 := by
  rw [List.drop_eq_nil_of_le h2, List.drop_eq_getElem_cons h1]; rfl
theorem cmp1_le (x y : Int) : -1 ≤ cmp1 x y ∧ cmp1 x y ≤ 1 := by unfold cmp1; split <;> (try split) <;> omega

theorem compare_c (a b : List Int) (ha : a.length < 9223372036854775807) (hb : b.length < 9223372036854775807) (s : Store) (K : AV → Store → Prop) (h : K (.p (ii (cmpR a b))) s) : Cal Tryd.prog 52 [.p (.sl .shr 1 (intsR a)), .p (.sl .shr 1 (intsR b))] s K := by
  refine Cal.pure (args := [.sl .shr 1 (intsR a), .sl .shr 1 (intsR b)]) ?_
  refine Cal.intro Tryd.func52 (by decide +kernel) rfl rfl ?_
  have la := intsR_len a
  have lb := intsR_len b
  refine LoopX.fam [0, 1, 9, 10, 11] (fun (j : Nat) => ([(0, .p (.sl .shr 1 (intsR a))), (1, .p (.sl .shr 1 (intsR b))), (9, .p (.sl .shr 1 (intsR a))), (10, .p (ii (intsR a).length)), (11, .p (ii j))], []))
    (fun j => j ≤ a.length ∧ j ≤ b.length ∧ cmpR (a.drop j) (b.drop j) = cmpR a b) (fun j => a.length - j) 0 ⟨Nat.zero_le _, Nat.zero_le _, rfl⟩ (Trim.mk' rfl rfl rfl rfl (Nat.le_refl _)) ?_
  rintro j ⟨hj, hjb, hq⟩
  refine Br.mk (fun hc => ?_) (fun hc => ?_)
  · have hc : j < a.length := by rw [la] at hc; simpa using hc
    refine Idx.mk (.int .i32 a[j]) (by omega) (by rw [Int.toNat_natCast]; exact intsR_get hc) ?_
    refine Br.mk (fun hd => ?_) (fun hd => ?_)
    · have hd : b.length ≤ j := by rw [lb] at hd; simp at hd; omega
      rw [← hq, cmpR_long hc hd] at h
      exact h
    · have hd : j < b.length := by rw [lb] at hd; simp at hd; omega
      refine Idx.mk (.int .i32 b[j]) (by omega) (by rw [Int.toNat_natCast]; exact intsR_get hd) ?_
      refine cmp_c a[j] b[j] _ _ ?_
      rw [cmpR_drop hc hd] at hq
      refine Br.mk (fun he => ?_) (fun he => ?_)
      · have he : cmp1 a[j] b[j] ≠ 0 := by simpa using he
        rw [if_pos he] at hq
        rw [← hq] at h
        exact h
      · have he : ¬ cmp1 a[j] b[j] ≠ 0 := by simpa using he
        rw [if_neg he] at hq
        have ej : IntKind.i64.wrap ((j : Int) + 1) = ((j + 1 : Nat) : Int) := by rw [wrap_i64] <;> omega
        refine ⟨j + 1, ⟨hc, hd, hq⟩, by omega, Nat.le_refl _, Trim.mk' ?_ rfl rfl rfl (Nat.le_refl _)⟩
        refine Eq.trans (b := [_, _, _, _, (11, AV.p (ii (IntKind.i64.wrap ((j : Int) + 1))))]) rfl ?_
        rw [ej]; rfl
  · have hc : a.length ≤ j := by rw [la] at hc; simp at hc; omega
    rw [cmpR_nil hc] at hq
    refine Br.mk (fun hd => ?_) (fun hd => ?_)
    · have hd : a.length < b.length := by rw [la, lb] at hd; simpa using hd
      rw [if_pos (by omega)] at hq
      rw [← hq] at h; exact h
    · have hd : ¬ a.length < b.length := by rw [la, lb] at hd; simpa using hd
      rw [if_neg (by omega)] at hq
      rw [← hq] at h; exact h

/-- Less, by runes. -/
def lessR (a b : List UInt8) : Bool := decide (cmpR (rns a) (rns b) < 0)
theorem less_c (a b : List UInt8) (ha : a.length < 9223372036854775807) (hb : b.length < 9223372036854775807) (s : Store) (K : AV → Store → Prop) (h : K (.p (.bool (lessR a b))) s) : Cal Tryd.prog 29 [.p (.str a), .p (.str b)] s K := by
  refine Cal.pure (args := [.str a, .str b]) ?_
  refine Cal.intro Tryd.func29 (by decide +kernel) rfl rfl ?_
  have h1 := rns_le a
  have h2 := rns_le b
  refine compare_c (rns a) (rns b) (by omega) (by omega) _ _ ?_
  exact h
end Go.Proofs.YtkokaflanlcojaaDoor.AW

open Go Go.Proofs.YtkokaflanlcojaaDoor.AW Go.Proofs
namespace Go.Proofs.YtkokaflanlcojaaDoor.AW
set_option maxRecDepth 100000
set_option linter.unusedSimpArgs false
set_option linter.unusedVariables false

theorem runes_c (l : List UInt8) (hl : l.length < 1099511627776) (s : Store) (K : AV → Store → Prop) (h : K (.p (.sl .shr 1 (intsR (rns l)))) s) : Cal Tryd.prog 60 [.p (.str l)] s K := by
  refine Cal.pure (args := [.str l]) ?_
  refine Cal.intro Tryd.func60 (by decide +kernel) rfl rfl ?_
  have hle := rns_le l
  refine LoopX.famW [3, 7] (fun (q : List Int × List UInt8 × Nat) => ([(3, .osl 1 (intsR q.1).length 0 (intsR q.1).length), (7, .it 0)], [some (.iterS q.2.1 q.2.2), some (.buf 1 (intsR q.1))]))
    (fun q => q.1 ++ rns q.2.1 = rns l) (fun q => q.2.1.length) ([], l, 0) rfl (by show 1 ≤ 2; decide) (Trim.wk 1 [(1, none)] rfl (by show 1 ≤ 1; decide) (.inr rfl) rfl rfl rfl rfl rfl ⟨.own 1 rfl rfl, .inl rfl, trivial⟩) ?_
  rintro ⟨out, rest, pos⟩ hq
  change out ++ rns rest = rns l at hq
  have hol : out.length ≤ l.length := by
    have := congrArg List.length hq
    rw [List.length_append] at this; omega
  refine BrL.mk (fun (he : rest = []) => ?_) (fun (hne : rest ≠ []) => ?_)
  · refine Br.f rfl ?_
    rw [he, rns_nil, List.append_nil] at hq
    have e : ((intsR out).drop 0).take (intsR out).length = intsR out := by rw [List.drop_zero, List.take_length]
    rw [← hq, ← e] at h
    exact Ob.mk rfl h
  · refine Br.t rfl ?_
    have hd : (rest.drop (decode rest).2).length < rest.length := by
      have h3 := decode_pos rest
      have h4 : 0 < rest.length := List.length_pos_iff.2 hne
      simp; omega
    rw [rns_step hne] at hq
    refine Ob.mk ⟨rfl, rfl, rfl, ?_⟩ ?_
    · show ((intsR out).length + 1) * Tryd.prog.types[21].bytes ≤ 140737488355328
      rw [by21, intsR_len]; omega
    refine ⟨(out ++ [((decode rest).1 : Int)], rest.drop (decode rest).2, pos + (decode rest).2), ?_, hd, (show (1 : Nat) ≤ 2 by decide), Trim.mk' ?_ ?_ rfl rfl (show (2 : Nat) ≤ 2 by decide)⟩
    · dsimp only; rw [← hq, List.append_assoc]; rfl
    · show [_, _] = [_, _]
      rw [intsR_app]; rfl
    · show _ = [_, _]
      rw [intsR_app]; rfl

theorem less2_c (x y : List UInt8) (hx : x.length < 1099511627776) (hy : y.length < 1099511627776) (s : Store) (K : AV → Store → Prop) (h : K (.p (.bool (lessR x y))) s) : Cal Tryd.prog 44 [.p (.str x), .p (.str y)] s K := by
  refine Cal.pure (args := [.str x, .str y]) ?_
  refine Cal.intro Tryd.func44 (by decide +kernel) rfl rfl ?_
  have hx1 := rns_le x
  have hy1 := rns_le y
  refine runes_c x hx _ _ ?_
  refine runes_c y hy _ _ ?_
  unfold lessR at h
  obtain ⟨a, hA⟩ : ∃ a, a = rns x := ⟨_, rfl⟩
  obtain ⟨b, hB⟩ : ∃ b, b = rns y := ⟨_, rfl⟩
  rw [← hA] at hx1 h ⊢
  rw [← hB] at hy1 h ⊢
  have la := intsR_len a
  have lb := intsR_len b
  refine LoopX.fam [4, 5, 6, 7] (fun (j : Nat) => ([(4, .p (.bool false)), (5, .p (.sl .shr 1 (intsR a))), (6, .p (.sl .shr 1 (intsR b))), (7, .p (ii j))], []))
    (fun j => j ≤ a.length ∧ j ≤ b.length ∧ cmpR (a.drop j) (b.drop j) = cmpR a b) (fun j => a.length - j) 0 ⟨Nat.zero_le _, Nat.zero_le _, rfl⟩ (Trim.mk' rfl rfl rfl rfl (Nat.le_refl _)) ?_
  rintro j ⟨hj, hjb, hq⟩
  have fin : j = a.length ∨ j = b.length → K (.p (.bool (decide (((intsR a).length : Int) < ((intsR b).length : Int))))) s := by
    intro hjj
    have e : decide (cmpR a b < 0) = decide (((intsR a).length : Int) < ((intsR b).length : Int)) := by
      rw [la, lb, ← hq]
      by_cases hc : a.length ≤ j
      · rw [cmpR_nil hc]
        by_cases hd : j < b.length
        · rw [if_pos hd]; exact decide_eq_decide.2 (by omega)
        · rw [if_neg hd]; exact decide_eq_decide.2 (by omega)
      · rw [cmpR_long (by omega) (by omega)]; exact decide_eq_decide.2 (by omega)
    rw [e] at h; exact h
  by_cases hc : j < a.length
  · have c1 : decide ((j : Int) < ((intsR a).length : Int)) = true := by rw [la]; simpa using hc
    by_cases hd : j < b.length
    · have c2 : decide ((j : Int) < ((intsR b).length : Int)) = true := by rw [lb]; simpa using hd
      repeat (first | refine Br.t c1 ?_ | refine Br.t (congrArg (· == true) c1) ?_ | refine Br.t c2 ?_)
      have gA : (intsR a)[((j : Int)).toNat]? = some (.int .i32 a[j]) := by rw [Int.toNat_natCast]; exact intsR_get hc
      have gB : (intsR b)[((j : Int)).toNat]? = some (.int .i32 b[j]) := by rw [Int.toNat_natCast]; exact intsR_get hd
      rw [cmpR_drop hc hd] at hq
      repeat (first
        | refine ⟨_, ⟨rfl, rfl⟩, ?_⟩
        | refine ⟨_, Idx.mk _ (Int.natCast_nonneg j) gA ⟨rfl, rfl⟩, ?_⟩
        | refine ⟨_, Idx.mk _ (Int.natCast_nonneg j) gB ⟨rfl, rfl⟩, ?_⟩)
      refine Chk.mk (by kernel_rfl) ?_
      refine Br.mk (fun he => ?_) (fun he => ?_)
      · have he : a[j] ≠ b[j] := by simpa using he
        repeat (first
          | refine ⟨_, ⟨rfl, rfl⟩, ?_⟩
          | refine ⟨_, Idx.mk _ (Int.natCast_nonneg j) gA ⟨rfl, rfl⟩, ?_⟩
          | refine ⟨_, Idx.mk _ (Int.natCast_nonneg j) gB ⟨rfl, rfl⟩, ?_⟩)
        refine Chk.mk (by kernel_rfl) ?_
        have e : decide (cmpR a b < 0) = decide (a[j] < b[j]) := by
          have h1 : cmp1 a[j] b[j] ≠ 0 := by unfold cmp1; split <;> (try split) <;> omega
          rw [← hq, if_pos h1]
          unfold cmp1
          by_cases h2 : a[j] < b[j]
          · rw [if_pos h2]; simpa using h2
          · rw [if_neg h2, if_pos (by omega)]; exact decide_eq_decide.2 (by omega)
        rw [e] at h
        exact h
      · have he : a[j] = b[j] := by simpa using he
        have h1 : ¬ cmp1 a[j] b[j] ≠ 0 := by rw [he]; unfold cmp1; simp
        rw [if_neg h1] at hq
        have ej : IntKind.i64.wrap ((j : Int) + 1) = ((j + 1 : Nat) : Int) := by rw [wrap_i64] <;> omega
        refine ⟨j + 1, ⟨hc, hd, hq⟩, by omega, Nat.le_refl _, Trim.mk' ?_ rfl rfl rfl (Nat.le_refl _)⟩
        refine Eq.trans (b := [_, _, _, (7, AV.p (ii (IntKind.i64.wrap ((j : Int) + 1))))]) rfl ?_
        rw [ej]; rfl
    · have c2 : decide ((j : Int) < ((intsR b).length : Int)) = false := by rw [lb]; simpa using hd
      repeat (first | refine Br.t c1 ?_ | refine Br.t (congrArg (· == true) c1) ?_ | refine Br.f c2 ?_)
      exact fin (.inr (by omega))
  · have c1 : decide ((j : Int) < ((intsR a).length : Int)) = false := by rw [la]; simpa using hc
    repeat (first | refine Br.f c1 ?_ | refine Br.f (congrArg (· == true) c1) ?_ | refine Br.f rfl ?_)
    exact fin (.inl (by omega))
end Go.Proofs.YtkokaflanlcojaaDoor.AW

open Go Go.Proofs.YtkokaflanlcojaaDoor.AW Go.Proofs
namespace Go.Proofs.YtkokaflanlcojaaDoor.AW
set_option maxRecDepth 100000
set_option linter.unusedSimpArgs false
set_option linter.unusedVariables false

theorem find_range (p : Nat → Bool) : ∀ n, match (List.range n).find? p with | some i => i < n ∧ p i = true ∧ ∀ j, j < i → p j = false | none => ∀ j, j < n → p j = false
  | 0 => by intro j hj; omega
  | n + 1 => by
    have ih := find_range p n
    rw [List.range_succ, List.find?_append]
    cases hf : (List.range n).find? p with
    | some i => rw [hf] at ih; exact ⟨by omega, ih.2.1, ih.2.2⟩
    | none =>
      rw [hf] at ih
      simp only [Option.none_or, List.find?_cons, List.find?_nil]
      cases hp : p n with
      | true => exact ⟨by omega, hp, ih⟩
      | false =>
        intro j hj
        by_cases hjn : j = n
        · rw [hjn]; exact hp
        · exact ih j (by omega)
/-- What a byte's first place is. -/
theorem idxB_spec (l : List UInt8) (c : UInt8) : (∃ i : Nat, idxB l c = (i : Int) ∧ i < l.length ∧ l.getD i 0 = c ∧ ∀ j, j < i → l.getD j 0 ≠ c) ∨ (idxB l c = -1 ∧ ∀ j, j < l.length → l.getD j 0 ≠ c) := by
  have h := find_range (fun i => l.getD i 0 == c) l.length
  unfold idxB
  cases hf : (List.range l.length).find? fun i => l.getD i 0 == c with
  | some i =>
    rw [hf] at h
    exact .inl ⟨i, rfl, h.1, by simpa using h.2.1, fun j hj => by simpa using h.2.2 j hj⟩
  | none =>
    rw [hf] at h
    exact .inr ⟨rfl, fun j hj => by simpa using h j hj⟩
theorem idxB_self (c : UInt8) : idxB [c] c = 0 := by
  rcases idxB_spec [c] c with ⟨i, h1, h2, _⟩ | ⟨_, h2⟩
  · have : i = 0 := by simpa using h2
    rw [h1, this]; rfl
  · exact absurd rfl (h2 0 (by simp))

theorem index1_c (l : List UInt8) (c : UInt8) (s : Store) (K : AV → Store → Prop) (h : K (.p (ii (idxB l c))) s) : Cal Tryd.prog 83 [.p (.str l), .p (.str [c])] s K := by
  refine Cal.pure (args := [.str l, .str [c]]) ?_
  refine Cal.intro Tryd.func83 (by decide +kernel) rfl rfl ?_
  by_cases he : [c] = l
  · have c1 : ([c] == l) = true := by simpa using he
    repeat (first | refine Br.t c1 ?_ | refine Br.t rfl ?_ | refine Br.f rfl ?_)
    rw [← he, idxB_self] at h
    exact h
  · have c1 : ([c] == l) = false := beq_eq_false_iff_ne.2 he
    repeat (first | refine Br.f c1 ?_ | refine Br.t rfl ?_ | refine Br.f rfl ?_)
    refine IdxB.mk c (by decide) rfl ?_
    refine Cal.pure (args := [.str l, .int .u8 c.toNat]) ?_
    refine Cal.intro Tryd.func73 (by decide +kernel) rfl rfl ?_
    refine Cal.indexByte Tryd.func90 (by decide +kernel) rfl (by kernel_rfl) (by kernel_rfl) l c _ _ ?_
    exact h
theorem index_c (l : List UInt8) (c : UInt8) (s : Store) (K : AV → Store → Prop) (h : K (.p (ii (idxB l c))) s) : Cal Tryd.prog 74 [.p (.str l), .p (.str [c])] s K := by
  refine Cal.pure (args := [.str l, .str [c]]) ?_
  refine Cal.intro Tryd.func74 (by decide +kernel) rfl rfl ?_
  exact index1_c l c _ _ h
def hasB (l : List UInt8) (c : UInt8) : Bool := decide (idxB l c ≥ 0)
theorem contains_c (l : List UInt8) (c : UInt8) (s : Store) (K : AV → Store → Prop) (h : K (.p (.bool (hasB l c))) s) : Cal Tryd.prog 61 [.p (.str l), .p (.str [c])] s K := by
  refine Cal.pure (args := [.str l, .str [c]]) ?_
  refine Cal.intro Tryd.func61 (by decide +kernel) rfl rfl ?_
  refine index_c l c _ _ ?_
  exact h

/-- A text cut at a byte's first place. -/
def cutB (l : List UInt8) (c : UInt8) : List UInt8 × List UInt8 × Bool := if 0 ≤ idxB l c then (l.take (idxB l c).toNat, l.drop ((idxB l c).toNat + 1), true) else (l, [], false)
theorem cutL_c (l : List UInt8) (c : UInt8) (hl : l.length < 9223372036854775807) (s : Store) (K : AV → Store → Prop) (h : K (.tup [.p (.str (cutB l c).1), .p (.str (cutB l c).2.1), .p (.bool (cutB l c).2.2)]) s) : Cal Tryd.prog 67 [.p (.str l), .p (.str [c])] s K := by
  refine Cal.pure (args := [.str l, .str [c]]) ?_
  refine Cal.intro Tryd.func67 (by decide +kernel) rfl rfl ?_
  refine index1_c l c _ _ ?_
  unfold cutB at h
  rcases idxB_spec l c with ⟨i, h1, h2, _⟩ | ⟨h1, _⟩
  · rw [h1] at h ⊢
    rw [if_pos (Int.natCast_nonneg i), Int.toNat_natCast] at h
    have c1 : decide ((i : Int) ≥ 0) = true := by simp
    refine Br.t c1 ?_
    have ej : IntKind.i64.wrap ((i : Int) + 1) = ((i + 1 : Nat) : Int) := by rw [wrap_i64] <;> omega
    have e1 : (l.take (i : Int).toNat).drop (0 : Int).toNat = l.take i := by rw [Int.toNat_natCast]; rfl
    have e2 : (l.take (l.length : Int).toNat).drop (IntKind.i64.wrap ((i : Int) + 1)).toNat = l.drop (i + 1) := by rw [ej, Int.toNat_natCast, Int.toNat_natCast, List.take_of_length_le (Nat.le_refl _)]
    have b1 : (0 : Int) ≤ 0 ∧ (0 : Int) ≤ (i : Int) ∧ (i : Int) ≤ (l.length : Int) := ⟨by omega, by omega, by omega⟩
    have b2 : (0 : Int) ≤ IntKind.i64.wrap ((i : Int) + 1) ∧ IntKind.i64.wrap ((i : Int) + 1) ≤ (l.length : Int) ∧ (l.length : Int) ≤ (l.length : Int) := by rw [ej]; exact ⟨by omega, by omega, by omega⟩
    repeat (first
      | refine ⟨_, ⟨rfl, rfl⟩, ?_⟩
      | refine ⟨_, Ob.mk b1 ⟨rfl, rfl⟩, ?_⟩
      | refine ⟨_, Ob.mk b2 ⟨rfl, rfl⟩, ?_⟩)
    refine Chk.mk (by kernel_rfl) ?_
    rw [← e1, ← e2] at h
    exact h
  · rw [h1] at h ⊢
    refine Br.f rfl ?_
    exact h
theorem cut_c (l : List UInt8) (c : UInt8) (hl : l.length < 9223372036854775807) (s : Store) (K : AV → Store → Prop) (h : K (.tup [.p (.str (cutB l c).1), .p (.str (cutB l c).2.1), .p (.bool (cutB l c).2.2)]) s) : Cal Tryd.prog 49 [.p (.str l), .p (.str [c])] s K := by
  refine Cal.pure (args := [.str l, .str [c]]) ?_
  refine Cal.intro Tryd.func49 (by decide +kernel) rfl rfl ?_
  refine cutL_c l c hl _ _ ?_
  exact h
/-- May it be a kind's name? -/
def isKd (l : List UInt8) : Bool := isRt l && !hasB l 46
theorem kind_c (l : List UInt8) (hl : l.length < 9223372036854775807) (s : Store) (K : AV → Store → Prop) (h : K (.p (.bool (isKd l))) s) : Cal Tryd.prog 46 [.p (.str l)] s K := by
  refine Cal.pure (args := [.str l]) ?_
  refine Cal.intro Tryd.func46 (by decide +kernel) rfl rfl ?_
  refine right_c l (by omega) _ _ ?_
  unfold isKd at h
  cases hr : isRt l with
  | true =>
    rw [hr, Bool.true_and] at h
    refine Br.t rfl ?_
    refine Br.t rfl ?_
    refine contains_c l 46 _ _ ?_
    repeat (first | refine Br.t rfl ?_)
    exact h
  | false =>
    rw [hr, Bool.false_and] at h
    repeat (first | refine Br.f rfl ?_)
    exact h
theorem dot_c (l : List UInt8) (hl : l.length < 9223372036854775807) (s : Store) (K : AV → Store → Prop) (h : K (.p (.bool (hasB l 46))) s) : Cal Tryd.prog 45 [.p (.str l)] s K := by
  refine Cal.pure (args := [.str l]) ?_
  refine Cal.intro Tryd.func45 (by decide +kernel) rfl rfl ?_
  refine LoopX.fam [0, 2, 3] (fun (j : Nat) => ([(0, .p (.str l)), (2, .p (.bool false)), (3, .p (ii j))], []))
    (fun j => j ≤ l.length ∧ ∀ i, i < j → l.getD i 0 ≠ 46) (fun j => l.length - j) 0 ⟨Nat.zero_le _, fun i hi => absurd hi (Nat.not_lt_zero _)⟩ (Trim.mk' rfl rfl rfl rfl (Nat.le_refl _)) ?_
  rintro j ⟨hj, hq⟩
  refine Br.mk (fun hc => ?_) (fun hc => ?_)
  · have hc : j < l.length := by simpa using hc
    refine IdxB.mk l[j] (by omega) (by rw [Int.toNat_natCast, List.getElem?_eq_getElem hc]) ?_
    have hgd : l.getD j 0 = l[j] := by simp [List.getD, hc]
    by_cases he : l[j] = 46
    · have c1 : ((l[j].toNat : Int) == 46) = true := by rw [he]; rfl
      refine Br.t c1 ?_
      have e : hasB l 46 = true := by
        unfold hasB
        rcases idxB_spec l 46 with ⟨i, h1, _⟩ | ⟨_, h2⟩
        · rw [h1]; simp
        · exact absurd (hgd.trans he) (h2 j hc)
      rw [e] at h; exact h
    · have c1 : ((l[j].toNat : Int) == 46) = false := by
        rw [beq_eq_false_iff_ne]
        intro q
        exact he (UInt8.toNat_inj.1 (by show l[j].toNat = 46; omega))
      refine Br.f c1 ?_
      have ej : IntKind.i64.wrap ((j : Int) + 1) = ((j + 1 : Nat) : Int) := by rw [wrap_i64] <;> omega
      refine ⟨j + 1, ⟨hc, fun i hi => ?_⟩, by omega, Nat.le_refl _, Trim.mk' ?_ rfl rfl rfl (Nat.le_refl _)⟩
      · by_cases hij : i = j
        · rw [hij, hgd]; exact he
        · exact hq i (by omega)
      · refine Eq.trans (b := [_, _, (3, AV.p (ii (IntKind.i64.wrap ((j : Int) + 1))))]) rfl ?_
        rw [ej]; rfl
  · have hc : l.length ≤ j := by simp at hc; omega
    have e : hasB l 46 = false := by
      unfold hasB
      rcases idxB_spec l 46 with ⟨i, _, h2, h3, _⟩ | ⟨h1, _⟩
      · exact absurd h3 (hq i (by omega))
      · rw [h1]; rfl
    rw [e] at h; exact h
end Go.Proofs.YtkokaflanlcojaaDoor.AW

open Go Go.Proofs.YtkokaflanlcojaaDoor.AW Go.Proofs
namespace Go.Proofs.YtkokaflanlcojaaDoor.AW
set_option maxRecDepth 100000
set_option linter.unusedSimpArgs false
set_option linter.unusedVariables false

def hpB (l p : List UInt8) : Bool := decide (p.length ≤ l.length) && (l.take p.length == p)
theorem hpL_c (l p : List UInt8) (s : Store) (K : AV → Store → Prop) (h : K (.p (.bool (hpB l p))) s) : Cal Tryd.prog 81 [.p (.str l), .p (.str p)] s K := by
  refine Cal.pure (args := [.str l, .str p]) ?_
  refine Cal.intro Tryd.func81 (by decide +kernel) rfl rfl ?_
  unfold hpB at h
  by_cases hc : p.length ≤ l.length
  · rw [decide_eq_true hc, Bool.true_and] at h
    have c1 : decide ((l.length : Int) ≥ (p.length : Int)) = true := by simp; omega
    repeat (first | refine Br.t c1 ?_ | refine Br.t (congrArg (· == true) c1) ?_)
    refine Ob.mk (show (0 : Int) ≤ 0 ∧ (0 : Int) ≤ (p.length : Int) ∧ (p.length : Int) ≤ (l.length : Int) from ⟨by omega, by omega, by omega⟩) ?_
    repeat (first | refine Br.t c1 ?_ | refine Br.t (congrArg (· == true) c1) ?_)
    have e : (l.take (p.length : Int).toNat).drop (0 : Int).toNat = l.take p.length := by rw [Int.toNat_natCast]; rfl
    rw [← e] at h
    exact h
  · rw [decide_eq_false hc, Bool.false_and] at h
    have c1 : decide ((l.length : Int) ≥ (p.length : Int)) = false := by simp; omega
    repeat (first | refine Br.f c1 ?_ | refine Br.f (congrArg (· == true) c1) ?_)
    exact h
theorem hasPrefix_v {l p : List UInt8} {b : Bool} (hb : hpB l p = b) (s : Store) (K : AV → Store → Prop) (h : K (.p (.bool b)) s) : Cal Tryd.prog 64 [.p (.str l), .p (.str p)] s K := by
  refine Cal.pure (args := [.str l, .str p]) ?_
  refine Cal.intro Tryd.func64 (by decide +kernel) rfl rfl ?_
  refine hpL_c l p _ _ ?_
  rw [hb]; exact h
theorem mul_c (s : Store) (K : AV → Store → Prop) : ∀ n : Nat, n < 21 → K (.tup [.p (.int .u64 0), .p (.int .u64 n)]) s → Cal Tryd.prog 63 [.p (.int .u64 1), .p (.int .u64 (n : Nat))] s K
  | 0, _ => by
    intro h
    refine Cal.pure (args := [.int .u64 1, .int .u64 (0 : Nat)]) ?_
    refine Cal.intro Tryd.func63 (by decide +kernel) rfl rfl ?_
    refine Br.f rfl ?_
    refine Cal.pure (args := [.int .u64 1, .int .u64 (0 : Nat)]) ?_
    refine Cal.intro Tryd.func80 (by decide +kernel) rfl rfl ?_
    iterate 5 refine Ob.mk (by decide) ?_
    exact h
  | 1, _ => by
    intro h
    refine Cal.pure (args := [.int .u64 1, .int .u64 (1 : Nat)]) ?_
    refine Cal.intro Tryd.func63 (by decide +kernel) rfl rfl ?_
    refine Br.f rfl ?_
    refine Cal.pure (args := [.int .u64 1, .int .u64 (1 : Nat)]) ?_
    refine Cal.intro Tryd.func80 (by decide +kernel) rfl rfl ?_
    iterate 5 refine Ob.mk (by decide) ?_
    exact h
  | 2, _ => by
    intro h
    refine Cal.pure (args := [.int .u64 1, .int .u64 (2 : Nat)]) ?_
    refine Cal.intro Tryd.func63 (by decide +kernel) rfl rfl ?_
    refine Br.f rfl ?_
    refine Cal.pure (args := [.int .u64 1, .int .u64 (2 : Nat)]) ?_
    refine Cal.intro Tryd.func80 (by decide +kernel) rfl rfl ?_
    iterate 5 refine Ob.mk (by decide) ?_
    exact h
  | 3, _ => by
    intro h
    refine Cal.pure (args := [.int .u64 1, .int .u64 (3 : Nat)]) ?_
    refine Cal.intro Tryd.func63 (by decide +kernel) rfl rfl ?_
    refine Br.f rfl ?_
    refine Cal.pure (args := [.int .u64 1, .int .u64 (3 : Nat)]) ?_
    refine Cal.intro Tryd.func80 (by decide +kernel) rfl rfl ?_
    iterate 5 refine Ob.mk (by decide) ?_
    exact h
  | 4, _ => by
    intro h
    refine Cal.pure (args := [.int .u64 1, .int .u64 (4 : Nat)]) ?_
    refine Cal.intro Tryd.func63 (by decide +kernel) rfl rfl ?_
    refine Br.f rfl ?_
    refine Cal.pure (args := [.int .u64 1, .int .u64 (4 : Nat)]) ?_
    refine Cal.intro Tryd.func80 (by decide +kernel) rfl rfl ?_
    iterate 5 refine Ob.mk (by decide) ?_
    exact h
  | 5, _ => by
    intro h
    refine Cal.pure (args := [.int .u64 1, .int .u64 (5 : Nat)]) ?_
    refine Cal.intro Tryd.func63 (by decide +kernel) rfl rfl ?_
    refine Br.f rfl ?_
    refine Cal.pure (args := [.int .u64 1, .int .u64 (5 : Nat)]) ?_
    refine Cal.intro Tryd.func80 (by decide +kernel) rfl rfl ?_
    iterate 5 refine Ob.mk (by decide) ?_
    exact h
  | 6, _ => by
    intro h
    refine Cal.pure (args := [.int .u64 1, .int .u64 (6 : Nat)]) ?_
    refine Cal.intro Tryd.func63 (by decide +kernel) rfl rfl ?_
    refine Br.f rfl ?_
    refine Cal.pure (args := [.int .u64 1, .int .u64 (6 : Nat)]) ?_
    refine Cal.intro Tryd.func80 (by decide +kernel) rfl rfl ?_
    iterate 5 refine Ob.mk (by decide) ?_
    exact h
  | 7, _ => by
    intro h
    refine Cal.pure (args := [.int .u64 1, .int .u64 (7 : Nat)]) ?_
    refine Cal.intro Tryd.func63 (by decide +kernel) rfl rfl ?_
    refine Br.f rfl ?_
    refine Cal.pure (args := [.int .u64 1, .int .u64 (7 : Nat)]) ?_
    refine Cal.intro Tryd.func80 (by decide +kernel) rfl rfl ?_
    iterate 5 refine Ob.mk (by decide) ?_
    exact h
  | 8, _ => by
    intro h
    refine Cal.pure (args := [.int .u64 1, .int .u64 (8 : Nat)]) ?_
    refine Cal.intro Tryd.func63 (by decide +kernel) rfl rfl ?_
    refine Br.f rfl ?_
    refine Cal.pure (args := [.int .u64 1, .int .u64 (8 : Nat)]) ?_
    refine Cal.intro Tryd.func80 (by decide +kernel) rfl rfl ?_
    iterate 5 refine Ob.mk (by decide) ?_
    exact h
  | 9, _ => by
    intro h
    refine Cal.pure (args := [.int .u64 1, .int .u64 (9 : Nat)]) ?_
    refine Cal.intro Tryd.func63 (by decide +kernel) rfl rfl ?_
    refine Br.f rfl ?_
    refine Cal.pure (args := [.int .u64 1, .int .u64 (9 : Nat)]) ?_
    refine Cal.intro Tryd.func80 (by decide +kernel) rfl rfl ?_
    iterate 5 refine Ob.mk (by decide) ?_
    exact h
  | 10, _ => by
    intro h
    refine Cal.pure (args := [.int .u64 1, .int .u64 (10 : Nat)]) ?_
    refine Cal.intro Tryd.func63 (by decide +kernel) rfl rfl ?_
    refine Br.f rfl ?_
    refine Cal.pure (args := [.int .u64 1, .int .u64 (10 : Nat)]) ?_
    refine Cal.intro Tryd.func80 (by decide +kernel) rfl rfl ?_
    iterate 5 refine Ob.mk (by decide) ?_
    exact h
  | 11, _ => by
    intro h
    refine Cal.pure (args := [.int .u64 1, .int .u64 (11 : Nat)]) ?_
    refine Cal.intro Tryd.func63 (by decide +kernel) rfl rfl ?_
    refine Br.f rfl ?_
    refine Cal.pure (args := [.int .u64 1, .int .u64 (11 : Nat)]) ?_
    refine Cal.intro Tryd.func80 (by decide +kernel) rfl rfl ?_
    iterate 5 refine Ob.mk (by decide) ?_
    exact h
  | 12, _ => by
    intro h
    refine Cal.pure (args := [.int .u64 1, .int .u64 (12 : Nat)]) ?_
    refine Cal.intro Tryd.func63 (by decide +kernel) rfl rfl ?_
    refine Br.f rfl ?_
    refine Cal.pure (args := [.int .u64 1, .int .u64 (12 : Nat)]) ?_
    refine Cal.intro Tryd.func80 (by decide +kernel) rfl rfl ?_
    iterate 5 refine Ob.mk (by decide) ?_
    exact h
  | 13, _ => by
    intro h
    refine Cal.pure (args := [.int .u64 1, .int .u64 (13 : Nat)]) ?_
    refine Cal.intro Tryd.func63 (by decide +kernel) rfl rfl ?_
    refine Br.f rfl ?_
    refine Cal.pure (args := [.int .u64 1, .int .u64 (13 : Nat)]) ?_
    refine Cal.intro Tryd.func80 (by decide +kernel) rfl rfl ?_
    iterate 5 refine Ob.mk (by decide) ?_
    exact h
  | 14, _ => by
    intro h
    refine Cal.pure (args := [.int .u64 1, .int .u64 (14 : Nat)]) ?_
    refine Cal.intro Tryd.func63 (by decide +kernel) rfl rfl ?_
    refine Br.f rfl ?_
    refine Cal.pure (args := [.int .u64 1, .int .u64 (14 : Nat)]) ?_
    refine Cal.intro Tryd.func80 (by decide +kernel) rfl rfl ?_
    iterate 5 refine Ob.mk (by decide) ?_
    exact h
  | 15, _ => by
    intro h
    refine Cal.pure (args := [.int .u64 1, .int .u64 (15 : Nat)]) ?_
    refine Cal.intro Tryd.func63 (by decide +kernel) rfl rfl ?_
    refine Br.f rfl ?_
    refine Cal.pure (args := [.int .u64 1, .int .u64 (15 : Nat)]) ?_
    refine Cal.intro Tryd.func80 (by decide +kernel) rfl rfl ?_
    iterate 5 refine Ob.mk (by decide) ?_
    exact h
  | 16, _ => by
    intro h
    refine Cal.pure (args := [.int .u64 1, .int .u64 (16 : Nat)]) ?_
    refine Cal.intro Tryd.func63 (by decide +kernel) rfl rfl ?_
    refine Br.f rfl ?_
    refine Cal.pure (args := [.int .u64 1, .int .u64 (16 : Nat)]) ?_
    refine Cal.intro Tryd.func80 (by decide +kernel) rfl rfl ?_
    iterate 5 refine Ob.mk (by decide) ?_
    exact h
  | 17, _ => by
    intro h
    refine Cal.pure (args := [.int .u64 1, .int .u64 (17 : Nat)]) ?_
    refine Cal.intro Tryd.func63 (by decide +kernel) rfl rfl ?_
    refine Br.f rfl ?_
    refine Cal.pure (args := [.int .u64 1, .int .u64 (17 : Nat)]) ?_
    refine Cal.intro Tryd.func80 (by decide +kernel) rfl rfl ?_
    iterate 5 refine Ob.mk (by decide) ?_
    exact h
  | 18, _ => by
    intro h
    refine Cal.pure (args := [.int .u64 1, .int .u64 (18 : Nat)]) ?_
    refine Cal.intro Tryd.func63 (by decide +kernel) rfl rfl ?_
    refine Br.f rfl ?_
    refine Cal.pure (args := [.int .u64 1, .int .u64 (18 : Nat)]) ?_
    refine Cal.intro Tryd.func80 (by decide +kernel) rfl rfl ?_
    iterate 5 refine Ob.mk (by decide) ?_
    exact h
  | 19, _ => by
    intro h
    refine Cal.pure (args := [.int .u64 1, .int .u64 (19 : Nat)]) ?_
    refine Cal.intro Tryd.func63 (by decide +kernel) rfl rfl ?_
    refine Br.f rfl ?_
    refine Cal.pure (args := [.int .u64 1, .int .u64 (19 : Nat)]) ?_
    refine Cal.intro Tryd.func80 (by decide +kernel) rfl rfl ?_
    iterate 5 refine Ob.mk (by decide) ?_
    exact h
  | 20, _ => by
    intro h
    refine Cal.pure (args := [.int .u64 1, .int .u64 (20 : Nat)]) ?_
    refine Cal.intro Tryd.func63 (by decide +kernel) rfl rfl ?_
    refine Br.f rfl ?_
    refine Cal.pure (args := [.int .u64 1, .int .u64 (20 : Nat)]) ?_
    refine Cal.intro Tryd.func80 (by decide +kernel) rfl rfl ?_
    iterate 5 refine Ob.mk (by decide) ?_
    exact h
  | n + 21, h => absurd h (by omega)
theorem zeros_c (s : Store) (K : AV → Store → Prop) : ∀ n : Nat, n < 21 → K (.p (.str (List.replicate n 48))) s → Cal Tryd.prog 48 [.p (.str [48]), .p (ii (n : Nat))] s K
  | 0, _ => by
    intro h
    refine Cal.pure (args := [.str [48], ii (0 : Nat)]) ?_
    refine Cal.intro Tryd.func48 (by decide +kernel) rfl rfl ?_
    refine Br.t rfl ?_
    exact h
  | 1, _ => by
    intro h
    refine Cal.pure (args := [.str [48], ii (1 : Nat)]) ?_
    refine Cal.intro Tryd.func48 (by decide +kernel) rfl rfl ?_
    refine Br.f rfl ?_
    refine Br.t rfl ?_
    exact h
  | 2, _ => by
    intro h
    refine Cal.pure (args := [.str [48], ii (2 : Nat)]) ?_
    refine Cal.intro Tryd.func48 (by decide +kernel) rfl rfl ?_
    repeat (first | refine Br.t rfl ?_ | refine Br.f rfl ?_)
    refine mul_c _ _ 2 (by decide) ?_
    repeat (first | refine Br.t rfl ?_ | refine Br.f rfl ?_)
    refine IdxB.mk 48 (by decide) rfl ?_
    repeat (first | refine Br.t rfl ?_ | refine Br.f rfl ?_)
    refine hasPrefix_v (b := false) (by kernel_rfl) _ _ ?_
    repeat (first | refine Br.t rfl ?_ | refine Br.f rfl ?_)
    refine hasPrefix_v (b := false) (by kernel_rfl) _ _ ?_
    repeat (first | refine Br.t rfl ?_ | refine Br.f rfl ?_)
    refine hasPrefix_v (b := true) (by kernel_rfl) _ _ ?_
    repeat (first | refine Br.t rfl ?_ | refine Br.f rfl ?_)
    refine Ob.mk (by decide) ?_
    exact h
  | 3, _ => by
    intro h
    refine Cal.pure (args := [.str [48], ii (3 : Nat)]) ?_
    refine Cal.intro Tryd.func48 (by decide +kernel) rfl rfl ?_
    repeat (first | refine Br.t rfl ?_ | refine Br.f rfl ?_)
    refine mul_c _ _ 3 (by decide) ?_
    repeat (first | refine Br.t rfl ?_ | refine Br.f rfl ?_)
    refine IdxB.mk 48 (by decide) rfl ?_
    repeat (first | refine Br.t rfl ?_ | refine Br.f rfl ?_)
    refine hasPrefix_v (b := false) (by kernel_rfl) _ _ ?_
    repeat (first | refine Br.t rfl ?_ | refine Br.f rfl ?_)
    refine hasPrefix_v (b := false) (by kernel_rfl) _ _ ?_
    repeat (first | refine Br.t rfl ?_ | refine Br.f rfl ?_)
    refine hasPrefix_v (b := true) (by kernel_rfl) _ _ ?_
    repeat (first | refine Br.t rfl ?_ | refine Br.f rfl ?_)
    refine Ob.mk (by decide) ?_
    exact h
  | 4, _ => by
    intro h
    refine Cal.pure (args := [.str [48], ii (4 : Nat)]) ?_
    refine Cal.intro Tryd.func48 (by decide +kernel) rfl rfl ?_
    repeat (first | refine Br.t rfl ?_ | refine Br.f rfl ?_)
    refine mul_c _ _ 4 (by decide) ?_
    repeat (first | refine Br.t rfl ?_ | refine Br.f rfl ?_)
    refine IdxB.mk 48 (by decide) rfl ?_
    repeat (first | refine Br.t rfl ?_ | refine Br.f rfl ?_)
    refine hasPrefix_v (b := false) (by kernel_rfl) _ _ ?_
    repeat (first | refine Br.t rfl ?_ | refine Br.f rfl ?_)
    refine hasPrefix_v (b := false) (by kernel_rfl) _ _ ?_
    repeat (first | refine Br.t rfl ?_ | refine Br.f rfl ?_)
    refine hasPrefix_v (b := true) (by kernel_rfl) _ _ ?_
    repeat (first | refine Br.t rfl ?_ | refine Br.f rfl ?_)
    refine Ob.mk (by decide) ?_
    exact h
  | 5, _ => by
    intro h
    refine Cal.pure (args := [.str [48], ii (5 : Nat)]) ?_
    refine Cal.intro Tryd.func48 (by decide +kernel) rfl rfl ?_
    repeat (first | refine Br.t rfl ?_ | refine Br.f rfl ?_)
    refine mul_c _ _ 5 (by decide) ?_
    repeat (first | refine Br.t rfl ?_ | refine Br.f rfl ?_)
    refine IdxB.mk 48 (by decide) rfl ?_
    repeat (first | refine Br.t rfl ?_ | refine Br.f rfl ?_)
    refine hasPrefix_v (b := false) (by kernel_rfl) _ _ ?_
    repeat (first | refine Br.t rfl ?_ | refine Br.f rfl ?_)
    refine hasPrefix_v (b := false) (by kernel_rfl) _ _ ?_
    repeat (first | refine Br.t rfl ?_ | refine Br.f rfl ?_)
    refine hasPrefix_v (b := true) (by kernel_rfl) _ _ ?_
    repeat (first | refine Br.t rfl ?_ | refine Br.f rfl ?_)
    refine Ob.mk (by decide) ?_
    exact h
  | 6, _ => by
    intro h
    refine Cal.pure (args := [.str [48], ii (6 : Nat)]) ?_
    refine Cal.intro Tryd.func48 (by decide +kernel) rfl rfl ?_
    repeat (first | refine Br.t rfl ?_ | refine Br.f rfl ?_)
    refine mul_c _ _ 6 (by decide) ?_
    repeat (first | refine Br.t rfl ?_ | refine Br.f rfl ?_)
    refine IdxB.mk 48 (by decide) rfl ?_
    repeat (first | refine Br.t rfl ?_ | refine Br.f rfl ?_)
    refine hasPrefix_v (b := false) (by kernel_rfl) _ _ ?_
    repeat (first | refine Br.t rfl ?_ | refine Br.f rfl ?_)
    refine hasPrefix_v (b := false) (by kernel_rfl) _ _ ?_
    repeat (first | refine Br.t rfl ?_ | refine Br.f rfl ?_)
    refine hasPrefix_v (b := true) (by kernel_rfl) _ _ ?_
    repeat (first | refine Br.t rfl ?_ | refine Br.f rfl ?_)
    refine Ob.mk (by decide) ?_
    exact h
  | 7, _ => by
    intro h
    refine Cal.pure (args := [.str [48], ii (7 : Nat)]) ?_
    refine Cal.intro Tryd.func48 (by decide +kernel) rfl rfl ?_
    repeat (first | refine Br.t rfl ?_ | refine Br.f rfl ?_)
    refine mul_c _ _ 7 (by decide) ?_
    repeat (first | refine Br.t rfl ?_ | refine Br.f rfl ?_)
    refine IdxB.mk 48 (by decide) rfl ?_
    repeat (first | refine Br.t rfl ?_ | refine Br.f rfl ?_)
    refine hasPrefix_v (b := false) (by kernel_rfl) _ _ ?_
    repeat (first | refine Br.t rfl ?_ | refine Br.f rfl ?_)
    refine hasPrefix_v (b := false) (by kernel_rfl) _ _ ?_
    repeat (first | refine Br.t rfl ?_ | refine Br.f rfl ?_)
    refine hasPrefix_v (b := true) (by kernel_rfl) _ _ ?_
    repeat (first | refine Br.t rfl ?_ | refine Br.f rfl ?_)
    refine Ob.mk (by decide) ?_
    exact h
  | 8, _ => by
    intro h
    refine Cal.pure (args := [.str [48], ii (8 : Nat)]) ?_
    refine Cal.intro Tryd.func48 (by decide +kernel) rfl rfl ?_
    repeat (first | refine Br.t rfl ?_ | refine Br.f rfl ?_)
    refine mul_c _ _ 8 (by decide) ?_
    repeat (first | refine Br.t rfl ?_ | refine Br.f rfl ?_)
    refine IdxB.mk 48 (by decide) rfl ?_
    repeat (first | refine Br.t rfl ?_ | refine Br.f rfl ?_)
    refine hasPrefix_v (b := false) (by kernel_rfl) _ _ ?_
    repeat (first | refine Br.t rfl ?_ | refine Br.f rfl ?_)
    refine hasPrefix_v (b := false) (by kernel_rfl) _ _ ?_
    repeat (first | refine Br.t rfl ?_ | refine Br.f rfl ?_)
    refine hasPrefix_v (b := true) (by kernel_rfl) _ _ ?_
    repeat (first | refine Br.t rfl ?_ | refine Br.f rfl ?_)
    refine Ob.mk (by decide) ?_
    exact h
  | 9, _ => by
    intro h
    refine Cal.pure (args := [.str [48], ii (9 : Nat)]) ?_
    refine Cal.intro Tryd.func48 (by decide +kernel) rfl rfl ?_
    repeat (first | refine Br.t rfl ?_ | refine Br.f rfl ?_)
    refine mul_c _ _ 9 (by decide) ?_
    repeat (first | refine Br.t rfl ?_ | refine Br.f rfl ?_)
    refine IdxB.mk 48 (by decide) rfl ?_
    repeat (first | refine Br.t rfl ?_ | refine Br.f rfl ?_)
    refine hasPrefix_v (b := false) (by kernel_rfl) _ _ ?_
    repeat (first | refine Br.t rfl ?_ | refine Br.f rfl ?_)
    refine hasPrefix_v (b := false) (by kernel_rfl) _ _ ?_
    repeat (first | refine Br.t rfl ?_ | refine Br.f rfl ?_)
    refine hasPrefix_v (b := true) (by kernel_rfl) _ _ ?_
    repeat (first | refine Br.t rfl ?_ | refine Br.f rfl ?_)
    refine Ob.mk (by decide) ?_
    exact h
  | 10, _ => by
    intro h
    refine Cal.pure (args := [.str [48], ii (10 : Nat)]) ?_
    refine Cal.intro Tryd.func48 (by decide +kernel) rfl rfl ?_
    repeat (first | refine Br.t rfl ?_ | refine Br.f rfl ?_)
    refine mul_c _ _ 10 (by decide) ?_
    repeat (first | refine Br.t rfl ?_ | refine Br.f rfl ?_)
    refine IdxB.mk 48 (by decide) rfl ?_
    repeat (first | refine Br.t rfl ?_ | refine Br.f rfl ?_)
    refine hasPrefix_v (b := false) (by kernel_rfl) _ _ ?_
    repeat (first | refine Br.t rfl ?_ | refine Br.f rfl ?_)
    refine hasPrefix_v (b := false) (by kernel_rfl) _ _ ?_
    repeat (first | refine Br.t rfl ?_ | refine Br.f rfl ?_)
    refine hasPrefix_v (b := true) (by kernel_rfl) _ _ ?_
    repeat (first | refine Br.t rfl ?_ | refine Br.f rfl ?_)
    refine Ob.mk (by decide) ?_
    exact h
  | 11, _ => by
    intro h
    refine Cal.pure (args := [.str [48], ii (11 : Nat)]) ?_
    refine Cal.intro Tryd.func48 (by decide +kernel) rfl rfl ?_
    repeat (first | refine Br.t rfl ?_ | refine Br.f rfl ?_)
    refine mul_c _ _ 11 (by decide) ?_
    repeat (first | refine Br.t rfl ?_ | refine Br.f rfl ?_)
    refine IdxB.mk 48 (by decide) rfl ?_
    repeat (first | refine Br.t rfl ?_ | refine Br.f rfl ?_)
    refine hasPrefix_v (b := false) (by kernel_rfl) _ _ ?_
    repeat (first | refine Br.t rfl ?_ | refine Br.f rfl ?_)
    refine hasPrefix_v (b := false) (by kernel_rfl) _ _ ?_
    repeat (first | refine Br.t rfl ?_ | refine Br.f rfl ?_)
    refine hasPrefix_v (b := true) (by kernel_rfl) _ _ ?_
    repeat (first | refine Br.t rfl ?_ | refine Br.f rfl ?_)
    refine Ob.mk (by decide) ?_
    exact h
  | 12, _ => by
    intro h
    refine Cal.pure (args := [.str [48], ii (12 : Nat)]) ?_
    refine Cal.intro Tryd.func48 (by decide +kernel) rfl rfl ?_
    repeat (first | refine Br.t rfl ?_ | refine Br.f rfl ?_)
    refine mul_c _ _ 12 (by decide) ?_
    repeat (first | refine Br.t rfl ?_ | refine Br.f rfl ?_)
    refine IdxB.mk 48 (by decide) rfl ?_
    repeat (first | refine Br.t rfl ?_ | refine Br.f rfl ?_)
    refine hasPrefix_v (b := false) (by kernel_rfl) _ _ ?_
    repeat (first | refine Br.t rfl ?_ | refine Br.f rfl ?_)
    refine hasPrefix_v (b := false) (by kernel_rfl) _ _ ?_
    repeat (first | refine Br.t rfl ?_ | refine Br.f rfl ?_)
    refine hasPrefix_v (b := true) (by kernel_rfl) _ _ ?_
    repeat (first | refine Br.t rfl ?_ | refine Br.f rfl ?_)
    refine Ob.mk (by decide) ?_
    exact h
  | 13, _ => by
    intro h
    refine Cal.pure (args := [.str [48], ii (13 : Nat)]) ?_
    refine Cal.intro Tryd.func48 (by decide +kernel) rfl rfl ?_
    repeat (first | refine Br.t rfl ?_ | refine Br.f rfl ?_)
    refine mul_c _ _ 13 (by decide) ?_
    repeat (first | refine Br.t rfl ?_ | refine Br.f rfl ?_)
    refine IdxB.mk 48 (by decide) rfl ?_
    repeat (first | refine Br.t rfl ?_ | refine Br.f rfl ?_)
    refine hasPrefix_v (b := false) (by kernel_rfl) _ _ ?_
    repeat (first | refine Br.t rfl ?_ | refine Br.f rfl ?_)
    refine hasPrefix_v (b := false) (by kernel_rfl) _ _ ?_
    repeat (first | refine Br.t rfl ?_ | refine Br.f rfl ?_)
    refine hasPrefix_v (b := true) (by kernel_rfl) _ _ ?_
    repeat (first | refine Br.t rfl ?_ | refine Br.f rfl ?_)
    refine Ob.mk (by decide) ?_
    exact h
  | 14, _ => by
    intro h
    refine Cal.pure (args := [.str [48], ii (14 : Nat)]) ?_
    refine Cal.intro Tryd.func48 (by decide +kernel) rfl rfl ?_
    repeat (first | refine Br.t rfl ?_ | refine Br.f rfl ?_)
    refine mul_c _ _ 14 (by decide) ?_
    repeat (first | refine Br.t rfl ?_ | refine Br.f rfl ?_)
    refine IdxB.mk 48 (by decide) rfl ?_
    repeat (first | refine Br.t rfl ?_ | refine Br.f rfl ?_)
    refine hasPrefix_v (b := false) (by kernel_rfl) _ _ ?_
    repeat (first | refine Br.t rfl ?_ | refine Br.f rfl ?_)
    refine hasPrefix_v (b := false) (by kernel_rfl) _ _ ?_
    repeat (first | refine Br.t rfl ?_ | refine Br.f rfl ?_)
    refine hasPrefix_v (b := true) (by kernel_rfl) _ _ ?_
    repeat (first | refine Br.t rfl ?_ | refine Br.f rfl ?_)
    refine Ob.mk (by decide) ?_
    exact h
  | 15, _ => by
    intro h
    refine Cal.pure (args := [.str [48], ii (15 : Nat)]) ?_
    refine Cal.intro Tryd.func48 (by decide +kernel) rfl rfl ?_
    repeat (first | refine Br.t rfl ?_ | refine Br.f rfl ?_)
    refine mul_c _ _ 15 (by decide) ?_
    repeat (first | refine Br.t rfl ?_ | refine Br.f rfl ?_)
    refine IdxB.mk 48 (by decide) rfl ?_
    repeat (first | refine Br.t rfl ?_ | refine Br.f rfl ?_)
    refine hasPrefix_v (b := false) (by kernel_rfl) _ _ ?_
    repeat (first | refine Br.t rfl ?_ | refine Br.f rfl ?_)
    refine hasPrefix_v (b := false) (by kernel_rfl) _ _ ?_
    repeat (first | refine Br.t rfl ?_ | refine Br.f rfl ?_)
    refine hasPrefix_v (b := true) (by kernel_rfl) _ _ ?_
    repeat (first | refine Br.t rfl ?_ | refine Br.f rfl ?_)
    refine Ob.mk (by decide) ?_
    exact h
  | 16, _ => by
    intro h
    refine Cal.pure (args := [.str [48], ii (16 : Nat)]) ?_
    refine Cal.intro Tryd.func48 (by decide +kernel) rfl rfl ?_
    repeat (first | refine Br.t rfl ?_ | refine Br.f rfl ?_)
    refine mul_c _ _ 16 (by decide) ?_
    repeat (first | refine Br.t rfl ?_ | refine Br.f rfl ?_)
    refine IdxB.mk 48 (by decide) rfl ?_
    repeat (first | refine Br.t rfl ?_ | refine Br.f rfl ?_)
    refine hasPrefix_v (b := false) (by kernel_rfl) _ _ ?_
    repeat (first | refine Br.t rfl ?_ | refine Br.f rfl ?_)
    refine hasPrefix_v (b := false) (by kernel_rfl) _ _ ?_
    repeat (first | refine Br.t rfl ?_ | refine Br.f rfl ?_)
    refine hasPrefix_v (b := true) (by kernel_rfl) _ _ ?_
    repeat (first | refine Br.t rfl ?_ | refine Br.f rfl ?_)
    refine Ob.mk (by decide) ?_
    exact h
  | 17, _ => by
    intro h
    refine Cal.pure (args := [.str [48], ii (17 : Nat)]) ?_
    refine Cal.intro Tryd.func48 (by decide +kernel) rfl rfl ?_
    repeat (first | refine Br.t rfl ?_ | refine Br.f rfl ?_)
    refine mul_c _ _ 17 (by decide) ?_
    repeat (first | refine Br.t rfl ?_ | refine Br.f rfl ?_)
    refine IdxB.mk 48 (by decide) rfl ?_
    repeat (first | refine Br.t rfl ?_ | refine Br.f rfl ?_)
    refine hasPrefix_v (b := false) (by kernel_rfl) _ _ ?_
    repeat (first | refine Br.t rfl ?_ | refine Br.f rfl ?_)
    refine hasPrefix_v (b := false) (by kernel_rfl) _ _ ?_
    repeat (first | refine Br.t rfl ?_ | refine Br.f rfl ?_)
    refine hasPrefix_v (b := true) (by kernel_rfl) _ _ ?_
    repeat (first | refine Br.t rfl ?_ | refine Br.f rfl ?_)
    refine Ob.mk (by decide) ?_
    exact h
  | 18, _ => by
    intro h
    refine Cal.pure (args := [.str [48], ii (18 : Nat)]) ?_
    refine Cal.intro Tryd.func48 (by decide +kernel) rfl rfl ?_
    repeat (first | refine Br.t rfl ?_ | refine Br.f rfl ?_)
    refine mul_c _ _ 18 (by decide) ?_
    repeat (first | refine Br.t rfl ?_ | refine Br.f rfl ?_)
    refine IdxB.mk 48 (by decide) rfl ?_
    repeat (first | refine Br.t rfl ?_ | refine Br.f rfl ?_)
    refine hasPrefix_v (b := false) (by kernel_rfl) _ _ ?_
    repeat (first | refine Br.t rfl ?_ | refine Br.f rfl ?_)
    refine hasPrefix_v (b := false) (by kernel_rfl) _ _ ?_
    repeat (first | refine Br.t rfl ?_ | refine Br.f rfl ?_)
    refine hasPrefix_v (b := true) (by kernel_rfl) _ _ ?_
    repeat (first | refine Br.t rfl ?_ | refine Br.f rfl ?_)
    refine Ob.mk (by decide) ?_
    exact h
  | 19, _ => by
    intro h
    refine Cal.pure (args := [.str [48], ii (19 : Nat)]) ?_
    refine Cal.intro Tryd.func48 (by decide +kernel) rfl rfl ?_
    repeat (first | refine Br.t rfl ?_ | refine Br.f rfl ?_)
    refine mul_c _ _ 19 (by decide) ?_
    repeat (first | refine Br.t rfl ?_ | refine Br.f rfl ?_)
    refine IdxB.mk 48 (by decide) rfl ?_
    repeat (first | refine Br.t rfl ?_ | refine Br.f rfl ?_)
    refine hasPrefix_v (b := false) (by kernel_rfl) _ _ ?_
    repeat (first | refine Br.t rfl ?_ | refine Br.f rfl ?_)
    refine hasPrefix_v (b := false) (by kernel_rfl) _ _ ?_
    repeat (first | refine Br.t rfl ?_ | refine Br.f rfl ?_)
    refine hasPrefix_v (b := true) (by kernel_rfl) _ _ ?_
    repeat (first | refine Br.t rfl ?_ | refine Br.f rfl ?_)
    refine Ob.mk (by decide) ?_
    exact h
  | 20, _ => by
    intro h
    refine Cal.pure (args := [.str [48], ii (20 : Nat)]) ?_
    refine Cal.intro Tryd.func48 (by decide +kernel) rfl rfl ?_
    repeat (first | refine Br.t rfl ?_ | refine Br.f rfl ?_)
    refine mul_c _ _ 20 (by decide) ?_
    repeat (first | refine Br.t rfl ?_ | refine Br.f rfl ?_)
    refine IdxB.mk 48 (by decide) rfl ?_
    repeat (first | refine Br.t rfl ?_ | refine Br.f rfl ?_)
    refine hasPrefix_v (b := false) (by kernel_rfl) _ _ ?_
    repeat (first | refine Br.t rfl ?_ | refine Br.f rfl ?_)
    refine hasPrefix_v (b := false) (by kernel_rfl) _ _ ?_
    repeat (first | refine Br.t rfl ?_ | refine Br.f rfl ?_)
    refine hasPrefix_v (b := true) (by kernel_rfl) _ _ ?_
    repeat (first | refine Br.t rfl ?_ | refine Br.f rfl ?_)
    refine Ob.mk (by decide) ?_
    exact h
  | n + 21, h => absurd h (by omega)
end Go.Proofs.YtkokaflanlcojaaDoor.AW

open Go Go.Proofs.YtkokaflanlcojaaDoor.AW Go.Proofs
namespace Go.Proofs.YtkokaflanlcojaaDoor.AW
set_option maxRecDepth 100000
set_option linter.unusedSimpArgs false
set_option linter.unusedVariables false
attribute [local irreducible] Utf8.encode

theorem dtxt_pad (B j : Nat) (h : B < 10 ^ j) : ∀ k, dtxt B (j + k) = List.replicate k 48 ++ dtxt B j
  | 0 => rfl
  | k + 1 => by
    have h2 : B < 10 ^ (j + k) := Nat.lt_of_lt_of_le h (Nat.pow_le_pow_right (by omega) (by omega))
    rw [← Nat.add_assoc, dtxt_cons, Nat.div_eq_of_lt h2, dtxt_pad B j h k]
    rfl
theorem digits (B : Nat) (hB : B ≤ 1099511627776) : ∃ j, 1 ≤ j ∧ j ≤ 13 ∧ B < 10 ^ j ∧ fmtS (B : Int) = dtxt B j := by
  have hf : fmtS (B : Int) = decS B := by unfold fmtS; rw [if_neg (by omega)]; rfl
  have key : ∀ n, n ≤ 13 → B < 10 ^ n → ∃ j, 1 ≤ j ∧ j ≤ 13 ∧ B < 10 ^ j ∧ (j = 1 ∨ 10 ^ (j - 1) ≤ B) := by
    intro n
    induction n with
    | zero => intro _ h; exact ⟨1, by omega, by omega, by simp at h; omega, .inl rfl⟩
    | succ n ih =>
      intro hn h
      by_cases hc : B < 10 ^ n
      · exact ih (by omega) hc
      · exact ⟨n + 1, by omega, hn, h, .inr (by simpa using hc)⟩
  obtain ⟨j, h1, h2, h3, h4⟩ := key 13 (by omega) (by omega)
  exact ⟨j, h1, h2, h3, hf.trans (dec_dtxt 20 j B h1 (by omega) h3 h4)⟩
/-- The file's name. -/
def fileS (b : Int) (k : List UInt8) : List UInt8 × Bool := if 0 ≤ b ∧ b ≤ 1099511627776 ∧ isKd k = true then (dtxt b.toNat 20 ++ [46] ++ k, true) else ([], false)
theorem fileS_no {b : Int} {k : List UInt8} (h : ¬ (0 ≤ b ∧ b ≤ 1099511627776 ∧ isKd k = true)) : fileS b k = ([], false) := by unfold fileS; rw [if_neg h]

theorem zeros_v {v : Int} {n : Nat} (hv : v = (n : Int)) (hn : n < 21) (s : Store) (K : AV → Store → Prop) (h : K (.p (.str (List.replicate n 48))) s) : Cal Tryd.prog 48 [.p (.str [48]), .p (ii v)] s K := by
  subst hv; exact zeros_c s K n hn h
theorem file_c (b : Int) (k : List UInt8) (hk : k.length < 1099511627776) (s : Store) (K : AV → Store → Prop) (h : K (.tup [.p (.str (fileS b k).1), .p (.bool (fileS b k).2)]) s) : Cal Tryd.prog 26 [.p (ii b), .p (.str k)] s K := by
  refine Cal.pure (args := [ii b, .str k]) ?_
  refine Cal.intro Tryd.func26 (by decide +kernel) rfl rfl ?_
  by_cases h1 : b < 0
  · have c1 : decide (b < 0) = true := by simpa using h1
    repeat (first | refine Br.t c1 ?_ | refine Br.f (congrArg (· == false) c1) ?_ | refine Br.f rfl ?_ | refine Br.t rfl ?_)
    rw [fileS_no (by omega)] at h; exact h
  have c1 : decide (b < 0) = false := by simpa using h1
  by_cases h2 : b > 1099511627776
  · have c2 : decide (b > 1099511627776) = true := by simpa using h2
    repeat (first | refine Br.f c1 ?_ | refine Br.t (congrArg (· == false) c1) ?_ | refine Br.t c2 ?_ | refine Br.f (congrArg (· == false) c2) ?_ | refine Br.f rfl ?_ | refine Br.t rfl ?_)
    rw [fileS_no (by omega)] at h; exact h
  have c2 : decide (b > 1099511627776) = false := by simpa using h2
  repeat (first | refine Br.f c1 ?_ | refine Br.t (congrArg (· == false) c1) ?_ | refine Br.f c2 ?_ | refine Br.t (congrArg (· == false) c2) ?_)
  refine kind_c k (by omega) _ _ ?_
  cases hkd : isKd k with
  | false =>
    repeat (first | refine Br.f c2 ?_ | refine Br.t (congrArg (· == false) c2) ?_ | refine Br.t rfl ?_)
    rw [fileS_no (by rw [hkd]; simp)] at h; exact h
  | true =>
    repeat (first | refine Br.f c2 ?_ | refine Br.t (congrArg (· == false) c2) ?_ | refine Br.f rfl ?_ | refine Br.t rfl ?_)
    obtain ⟨B, rfl⟩ : ∃ B : Nat, b = (B : Int) := ⟨b.toNat, by omega⟩
    have hB : B ≤ 1099511627776 := by omega
    obtain ⟨j, j1, j2, j3, j4⟩ := digits B hB
    refine formatInt2_c B (by omega) (by omega) _ _ ?_
    have hlj : (fmtS (B : Int)).length = j := by rw [j4, dtxt_len]
    have ew : IntKind.i64.wrap (20 - ((fmtS (B : Int)).length : Int)) = ((20 - j : Nat) : Int) := by rw [hlj, wrap_i64] <;> omega
    refine zeros_v ew (by omega) _ _ ?_
    refine Ob.mk (by rw [List.length_replicate, hlj]; omega) ?_
    refine Ob.mk (by rw [List.length_append, List.length_replicate, hlj]; show _ + 1 < _; omega) ?_
    refine Ob.mk (by rw [List.length_append, List.length_append, List.length_replicate, hlj]; show _ + 1 + _ < _; omega) ?_
    have e : fileS (B : Int) k = (List.replicate (20 - j) 48 ++ fmtS (B : Int) ++ [46] ++ k, true) := by
      unfold fileS
      rw [if_pos ⟨by omega, by omega, hkd⟩, Int.toNat_natCast, j4, ← dtxt_pad B j j3, show j + (20 - j) = 20 by omega]
    rw [e] at h
    exact h

theorem file2_c (b : Int) (k : List UInt8) (hk : k.length < 1099511627776) (s : Store) (K : AV → Store → Prop) (h : K (.tup [.p (.str (fileS b k).1), .p (.bool (fileS b k).2)]) s) : Cal Tryd.prog 24 [.p (ii b), .p (.str k)] s K := by
  refine Cal.pure (args := [ii b, .str k]) ?_
  refine Cal.intro Tryd.func24 (by decide +kernel) rfl rfl ?_
  by_cases h1 : b < 0
  · have c1 : decide (b < 0) = true := by simpa using h1
    repeat (first | refine Br.t c1 ?_ | refine Br.f (congrArg (· == false) c1) ?_ | refine Br.f rfl ?_ | refine Br.t rfl ?_)
    rw [fileS_no (by omega)] at h; exact h
  have c1 : decide (b < 0) = false := by simpa using h1
  by_cases h2 : b > 1099511627776
  · have c2 : decide (b > 1099511627776) = true := by simpa using h2
    repeat (first | refine Br.f c1 ?_ | refine Br.t (congrArg (· == false) c1) ?_ | refine Br.t c2 ?_ | refine Br.f (congrArg (· == false) c2) ?_ | refine Br.f rfl ?_ | refine Br.t rfl ?_)
    rw [fileS_no (by omega)] at h; exact h
  have c2 : decide (b > 1099511627776) = false := by simpa using h2
  repeat (first | refine Br.f c1 ?_ | refine Br.t (congrArg (· == false) c1) ?_ | refine Br.f c2 ?_ | refine Br.t (congrArg (· == false) c2) ?_)
  refine right2_c k (by omega) _ _ ?_
  cases hr : isRt k with
  | false =>
    repeat (first | refine Br.f c2 ?_ | refine Br.t (congrArg (· == false) c2) ?_ | refine Br.f rfl ?_ | refine Br.t rfl ?_)
    rw [fileS_no (by unfold isKd; rw [hr]; simp)] at h; exact h
  | true =>
    repeat (first | refine Br.f c2 ?_ | refine Br.t (congrArg (· == false) c2) ?_ | refine Br.f rfl ?_ | refine Br.t rfl ?_)
    refine dot_c k (by omega) _ _ ?_
    cases hd : hasB k 46 with
    | true =>
      repeat (first | refine Br.f c2 ?_ | refine Br.t (congrArg (· == false) c2) ?_ | refine Br.f rfl ?_ | refine Br.t rfl ?_)
      rw [fileS_no (by unfold isKd; rw [hr, hd]; simp)] at h; exact h
    | false =>
      repeat (first | refine Br.f c2 ?_ | refine Br.t (congrArg (· == false) c2) ?_ | refine Br.f rfl ?_ | refine Br.t rfl ?_)
      have hkd : isKd k = true := by unfold isKd; rw [hr, hd]; rfl
      obtain ⟨B, rfl⟩ : ∃ B : Nat, b = (B : Int) := ⟨b.toNat, by omega⟩
      have hB : B ≤ 1099511627776 := by omega
      refine LoopX.fam [0, 1, 4, 5, 6, 7] (fun (j : Nat) => ([(0, .p (ii (B / 10 ^ j : Nat))), (1, .p (.str k)), (4, .p (.str [])), (5, .p (.bool false)), (6, .p (.str (dtxt B j))), (7, .p (ii j))], []))
        (fun j => j ≤ 20) (fun j => 20 - j) 0 (Nat.zero_le _) (Trim.mk' ?_ rfl rfl rfl (Nat.le_refl _)) ?_
      · show [_, _, _, _, _, _] = [_, _, _, _, _, _]
        rw [Nat.pow_zero, Nat.div_one]; rfl
      intro j hj
      have hlj := dtxt_len j B
      refine Br.mk (fun hc => ?_) (fun hc => ?_)
      · have hc : j < 20 := by simp at hc; omega
        obtain ⟨x, hx⟩ : ∃ x, x = B / 10 ^ j := ⟨_, rfl⟩
        have hx2 : x ≤ B := by rw [hx]; exact Nat.div_le_self _ _
        have hdt : dtxt B (j + 1) = d1 (x % 10) :: dtxt B j := by rw [dtxt_cons, hx]
        have hxn : B / 10 ^ (j + 1) = x / 10 := by rw [Nat.pow_succ, ← Nat.div_div_eq_div_mul, hx]
        have hm : ((x : Nat) : Int).tmod 10 = ((x % 10 : Nat) : Int) := (Int.ofNat_tmod x 10).symm
        have hdv : IntKind.i64.wrap (((x : Nat) : Int).tdiv 10) = ((x / 10 : Nat) : Int) := by
          rw [show ((x : Nat) : Int).tdiv 10 = ((x / 10 : Nat) : Int) from (Int.ofNat_tdiv x 10).symm, wrap_i64] <;> omega
        have he := dig_enc (x % 10) (Nat.mod_lt _ (by omega))
        have ej : IntKind.i64.wrap ((j : Int) + 1) = ((j + 1 : Nat) : Int) := by rw [wrap_i64] <;> omega
        rw [← hm, hx] at he
        have hel := congrArg List.length he
        have hxd := hx
        refine Ob.mk (by decide) ?_
        refine Ob.mk (by rw [hel, hlj]; show 1 + j < _; omega) ?_
        refine Ob.mk (by decide) ?_
        refine ⟨j + 1, hc, by omega, Nat.le_refl _, Trim.mk' ?_ rfl rfl rfl (Nat.le_refl _)⟩
        refine Eq.trans (b := [(0, AV.p (ii (IntKind.i64.wrap (((B / 10 ^ j : Nat) : Int).tdiv 10)))), _, _, _, (6, AV.p (.str (_ ++ dtxt B j))), (7, AV.p (ii (IntKind.i64.wrap ((j : Int) + 1))))]) rfl ?_
        rw [he, ej, ← hx, hdv, hdt, hxn]; rfl
      · have hc : j = 20 := by simp at hc; omega
        rw [hc] at hlj
        refine Ob.mk (by rw [hc, hlj]; decide) ?_
        refine Ob.mk (by rw [List.length_append, hc, hlj]; show 20 + 1 + _ < _; omega) ?_
        have e : fileS (B : Int) k = (dtxt B j ++ [46] ++ k, true) := by
          unfold fileS
          rw [if_pos ⟨by omega, by omega, hkd⟩, Int.toNat_natCast, hc]
        rw [e] at h
        exact h
end Go.Proofs.YtkokaflanlcojaaDoor.AW

open Go Go.Proofs.YtkokaflanlcojaaDoor.AW Go.Proofs
namespace Go.Proofs.YtkokaflanlcojaaDoor.AW
set_option maxRecDepth 100000
set_option linter.unusedSimpArgs false
set_option linter.unusedVariables false

theorem valT_take {l : List UInt8} {j : Nat} (h : j < l.length) : valT (l.take (j + 1)) = valT (l.take j) * 10 + (l[j].toNat - 48) := by
  rw [List.take_succ_eq_append_getElem h, valT_snoc]
theorem valT_mono (l : List UInt8) : ∀ (k j : Nat), valT (l.take j) ≤ valT (l.take (j + k))
  | 0, j => Nat.le_refl _
  | k + 1, j => by
    have ih := valT_mono l k j
    by_cases h : j + k < l.length
    · rw [← Nat.add_assoc, valT_take h]; omega
    · rw [List.take_of_length_le (show l.length ≤ j + (k + 1) by omega)]
      rw [List.take_of_length_le (show l.length ≤ j + k by omega)] at ih
      exact ih
theorem dtxt_dig (B : Nat) : ∀ (n i : Nat) (h : i < (dtxt B n).length), 48 ≤ ((dtxt B n)[i]).toNat ∧ ((dtxt B n)[i]).toNat ≤ 57 := by
  intro n i h
  have h2 : i < n := by rw [dtxt_len] at h; exact h
  have hg := dtxt_get n B i h2
  rw [List.getElem?_eq_getElem h] at hg
  rw [Option.some.inj hg]
  have : ∀ d, d < 10 → 48 ≤ (d1 d).toNat ∧ (d1 d).toNat ≤ 57 := by decide
  exact this _ (Nat.mod_lt _ (by omega))
/-- What a file's name says. -/
def parseS (l : List UInt8) : Int × List UInt8 × Bool := if fileS (valT (l.take 20) : Nat) (l.drop 21) = (l, true) then (((valT (l.take 20) : Nat) : Int), l.drop 21, true) else (0, [], false)
theorem file_txt {b : Int} {k l : List UInt8} (h : fileS b k = (l, true)) : l = dtxt b.toNat 20 ++ [46] ++ k ∧ b ≤ 1099511627776 ∧ isKd k = true := by
  unfold fileS at h
  split at h
  · rename_i hc
    exact ⟨(congrArg Prod.fst h).symm, hc.2.1, hc.2.2⟩
  · cases h
theorem isKd_ne {k : List UInt8} (h : isKd k = true) : 1 ≤ k.length := by
  cases k with
  | nil => exact absurd h (by decide)
  | cons a r => simp

theorem file2_v {b : Int} {k k' t : List UInt8} {ok : Bool} (hk' : k' = k) (hF : fileS b k = (t, ok)) (hk : k.length < 1099511627776) (s : Store) (K : AV → Store → Prop) (h : K (.tup [.p (.str t), .p (.bool ok)]) s) : Cal Tryd.prog 24 [.p (ii b), .p (.str k')] s K := by
  subst hk'; exact file2_c b k' hk s K (by rw [hF]; exact h)
theorem parse2_c (l : List UInt8) (hl : l.length < 1099511627776) (s : Store) (K : AV → Store → Prop) (h : K (.tup [.p (ii (parseS l).1), .p (.str (parseS l).2.1), .p (.bool (parseS l).2.2)]) s) : Cal Tryd.prog 41 [.p (.str l)] s K := by
  refine Cal.pure (args := [.str l]) ?_
  refine Cal.intro Tryd.func41 (by decide +kernel) rfl rfl ?_
  have no : fileS (valT (l.take 20) : Nat) (l.drop 21) ≠ (l, true) → K (.tup [.p (ii 0), .p (.str []), .p (.bool false)]) s := fun hn => by
    unfold parseS at h; rw [if_neg hn] at h; exact h
  by_cases h22 : l.length < 22
  · have c1 : decide ((l.length : Int) < 22) = true := by simp; omega
    refine Br.t c1 ?_
    refine no fun q => ?_
    obtain ⟨h1, h2, h3⟩ := file_txt q
    have h4 := isKd_ne h3
    have h5 := congrArg List.length h1
    rw [List.length_append, List.length_append, dtxt_len] at h5
    simp only [List.length_cons, List.length_nil] at h5
    omega
  have c1 : decide ((l.length : Int) < 22) = false := by simp; omega
  refine Br.f c1 ?_
  refine LoopX.fam [0, 2, 3, 4, 5, 6] (fun (j : Nat) => ([(0, .p (.str l)), (2, .p (ii 0)), (3, .p (.str [])), (4, .p (.bool false)), (5, .p (ii (valT (l.take j) : Nat))), (6, .p (ii j))], []))
    (fun j => j ≤ 20 ∧ valT (l.take j) ≤ 10995116277769) (fun j => 20 - j) 0 ⟨Nat.zero_le _, by show 0 ≤ _; omega⟩ (Trim.mk' rfl rfl rfl rfl (Nat.le_refl _)) ?_
  rintro j ⟨hj, hv⟩
  refine Br.mk (fun hc => ?_) (fun hc => ?_)
  · have hc : j < 20 := by simp at hc; omega
    have hjl : j < l.length := by omega
    obtain ⟨b, hb⟩ : ∃ b, b = l[j] := ⟨_, rfl⟩
    have hg : l[((j : Int)).toNat]? = some b := by rw [Int.toNat_natCast, List.getElem?_eq_getElem hjl, hb]
    have hnext : valT (l.take (j + 1)) = valT (l.take j) * 10 + (b.toNat - 48) := by rw [valT_take hjl, hb]
    have dig : fileS (valT (l.take 20) : Nat) (l.drop 21) = (l, true) → 48 ≤ b.toNat ∧ b.toNat ≤ 57 := by
      intro q
      obtain ⟨h1, _, _⟩ := file_txt q
      have hd := dtxt_dig ((valT (l.take 20) : Nat) : Int).toNat 20 j (by rw [dtxt_len]; exact hc)
      have : b = (dtxt ((valT (l.take 20) : Nat) : Int).toNat 20)[j]'(by rw [dtxt_len]; exact hc) := by
        have e : l[j]? = (dtxt ((valT (l.take 20) : Nat) : Int).toNat 20)[j]? := by
          rw [congrArg (fun x : List UInt8 => x[j]?) h1, List.append_assoc, List.getElem?_append_left (by rw [dtxt_len]; exact hc)]
        rw [List.getElem?_eq_getElem hjl, List.getElem?_eq_getElem (by rw [dtxt_len]; exact hc)] at e
        rw [hb]; exact Option.some.inj e
      rw [this]; exact hd
    refine IdxB.mk b (Int.natCast_nonneg j) hg ?_
    by_cases d1 : b.toNat < 48
    · have c2 : decide ((b.toNat : Int) < 48) = true := by simp; omega
      repeat (first | refine Br.t c2 ?_ | refine Br.f (congrArg (· == false) c2) ?_ | refine Br.f rfl ?_ | refine Br.t rfl ?_)
      exact no fun q => by have := dig q; omega
    have c2 : decide ((b.toNat : Int) < 48) = false := by simp; omega
    refine Br.t (congrArg (· == false) c2) ?_
    refine Br.t (congrArg (· == false) c2) ?_
    refine Br.t (congrArg (· == false) c2) ?_
    refine IdxB.mk b (Int.natCast_nonneg j) hg ?_
    by_cases d2 : b.toNat > 57
    · have c3 : decide ((b.toNat : Int) > 57) = true := by simp; omega
      repeat (first | refine Br.f c2 ?_ | refine Br.t (congrArg (· == false) c2) ?_ | refine Br.t c3 ?_ | refine Br.f (congrArg (· == false) c3) ?_ | refine Br.f rfl ?_ | refine Br.t rfl ?_)
      exact no fun q => by have := dig q; omega
    have c3 : decide ((b.toNat : Int) > 57) = false := by simp; omega
    by_cases d3 : valT (l.take j) > 1099511627776
    · have c4 : decide (((valT (l.take j) : Nat) : Int) > 1099511627776) = true := by simp; omega
      repeat (first | refine Br.f c2 ?_ | refine Br.t (congrArg (· == false) c2) ?_ | refine Br.f c3 ?_ | refine Br.t (congrArg (· == false) c3) ?_ | refine Br.t c4 ?_ | refine Br.f rfl ?_ | refine Br.t rfl ?_)
      refine no fun q => ?_
      obtain ⟨_, h2, _⟩ := file_txt q
      have := valT_mono l (20 - j) j
      rw [show j + (20 - j) = 20 by omega] at this
      omega
    have c4 : decide (((valT (l.take j) : Nat) : Int) > 1099511627776) = false := by simp; omega
    repeat (first | refine Br.f c2 ?_ | refine Br.t (congrArg (· == false) c2) ?_ | refine Br.f c3 ?_ | refine Br.t (congrArg (· == false) c3) ?_ | refine Br.f c4 ?_ | refine Br.f rfl ?_ | refine Br.t rfl ?_)
    refine IdxB.mk b (Int.natCast_nonneg j) hg ?_
    have e8 : IntKind.u8.wrap ((b.toNat : Int) - 48) = ((b.toNat - 48 : Nat) : Int) := by
      have := b.toNat_lt
      rw [IntKind.wrap_u8]; omega
    have e9 : IntKind.i64.wrap (IntKind.i64.wrap (((valT (l.take j) : Nat) : Int) * 10) + IntKind.i64.wrap (IntKind.u8.wrap ((b.toNat : Int) - 48))) = ((valT (l.take (j + 1)) : Nat) : Int) := by
      rw [e8, hnext, wrap_i64 (n := ((valT (l.take j) : Nat) : Int) * 10), wrap_i64 (n := ((b.toNat - 48 : Nat) : Int)), wrap_i64] <;> omega
    have ej : IntKind.i64.wrap ((j : Int) + 1) = ((j + 1 : Nat) : Int) := by rw [wrap_i64] <;> omega
    refine ⟨j + 1, ⟨hc, by rw [hnext]; omega⟩, by omega, Nat.le_refl _, Trim.mk' ?_ rfl rfl rfl (Nat.le_refl _)⟩
    refine Eq.trans (b := [_, _, _, _, (5, AV.p (ii (IntKind.i64.wrap (IntKind.i64.wrap (((valT (l.take j) : Nat) : Int) * 10) + IntKind.i64.wrap (IntKind.u8.wrap ((b.toNat : Int) - 48)))))), (6, AV.p (ii (IntKind.i64.wrap ((j : Int) + 1))))]) rfl ?_
    rw [e9, ej]; rfl
  · have hc : j = 20 := by simp at hc; omega
    have e21 : (l.take (l.length : Int).toNat).drop (21 : Int).toNat = l.drop 21 := by rw [Int.toNat_natCast, List.take_of_length_le (Nat.le_refl _)]; rfl
    have b1 : (0 : Int) ≤ 21 ∧ (21 : Int) ≤ (l.length : Int) ∧ (l.length : Int) ≤ (l.length : Int) := ⟨by omega, by omega, by omega⟩
    refine Ob.mk b1 ?_
    subst hc
    obtain ⟨t, ok, hF⟩ : ∃ t ok, fileS (valT (l.take 20) : Nat) (l.drop 21) = (t, ok) := ⟨_, _, rfl⟩
    refine file2_v e21 hF (by rw [List.length_drop]; omega) _ _ ?_
    cases ok with
    | false =>
      repeat (first | refine Br.t rfl ?_ | refine Br.f rfl ?_)
      exact no (by rw [hF]; intro q; cases q)
    | true =>
      by_cases ht : t = l
      · have c2 : (!(t == l)) = false := by simp [ht]
        repeat (first | refine Br.f c2 ?_ | refine Br.t rfl ?_ | refine Br.f rfl ?_)
        repeat (first | refine ⟨_, ⟨rfl, rfl⟩, ?_⟩ | refine ⟨_, Ob.mk b1 ⟨rfl, rfl⟩, ?_⟩)
        refine Chk.mk (by kernel_rfl) ?_
        have e : parseS l = (((valT (l.take 20) : Nat) : Int), l.drop 21, true) := by unfold parseS; rw [if_pos (by rw [hF, ht])]
        rw [e] at h
        rw [← e21] at h
        exact h
      · have c2 : (!(t == l)) = true := by simp [ht]
        repeat (first | refine Br.t c2 ?_ | refine Br.t rfl ?_ | refine Br.f rfl ?_)
        exact no (by rw [hF]; intro q; exact ht (congrArg Prod.fst q))
end Go.Proofs.YtkokaflanlcojaaDoor.AW

open Go Go.Proofs.YtkokaflanlcojaaDoor.AW Go.Proofs
namespace Go.Proofs.YtkokaflanlcojaaDoor.AW
set_option maxRecDepth 100000
set_option linter.unusedSimpArgs false
set_option linter.unusedVariables false

/-- A number read from digits, and what went wrong (0: nothing; 1: too great; 2: no number). -/
def puL : Nat → List UInt8 → Nat × Int
  | n, [] => (n, 0)
  | n, c :: r => if ¬ (48 ≤ c.toNat ∧ c.toNat ≤ 57) then (0, 2) else if 1844674407370955162 ≤ n then (18446744073709551615, 1) else
      if 18446744073709551616 ≤ n * 10 + (c.toNat - 48) then (18446744073709551615, 1) else puL (n * 10 + (c.toNat - 48)) r
def puS (l : List UInt8) : Nat × Int := if l = [] then (0, 2) else puL 0 l
def errP (c : Int) : PV := if c = 0 then .lit .nilIface else .iface 107 (ii c)
theorem low_c (x : Int) (s : Store) (K : AV → Store → Prop) (h : K (.p (.int .u8 (bits .or .u8 x 32))) s) : Cal Tryd.prog 98 [.p (.int .u8 x)] s K := by
  refine Cal.pure (args := [.int .u8 x]) ?_
  refine Cal.intro Tryd.func98 (by decide +kernel) rfl rfl ?_
  exact h
theorem low_ge : ∀ n : Nat, n < 256 → 97 ≤ bits .or .u8 (n : Int) 32 → bits .or .u8 (n : Int) 32 ≤ 122 → IntKind.u8.wrap (IntKind.u8.wrap (bits .or .u8 (n : Int) 32 - 97) + 10) ≥ 10 := by decide +kernel
theorem by_nth {l : List UInt8} {j : Nat} (h : j < l.length) : (bytesP l)[((j : Int)).toNat]? = some (.int .u8 (l[j].toNat : Int)) := by
  rw [Int.toNat_natCast]; simp [bytesP, h]

theorem parseUint_c (l : List UInt8) (hl : l.length < 9223372036854775807) (s : Store) (K : AV → Store → Prop) (h : K (.tup [.p (.int .u64 (puS l).1), .p (errP (puS l).2)]) s) : Cal Tryd.prog 84 [.p (.str l), .p (ii 10), .p (ii 64)] s K := by
  refine Cal.pure (args := [.str l, ii 10, ii 64]) ?_
  refine Cal.intro Tryd.func84 (by decide +kernel) rfl rfl ?_
  by_cases h0 : l = []
  · have c0 : (l == []) = true := by simpa using h0
    refine Br.t c0 ?_
    have e : puS l = (0, 2) := by unfold puS; rw [if_pos h0]
    rw [e] at h; exact h
  have c0 : (l == []) = false := beq_eq_false_iff_ne.2 h0
  refine Br.f c0 ?_
  unfold puS at h
  rw [if_neg h0] at h
  have lb : (bytesP l).length = l.length := by simp [bytesP]
  repeat (first | refine Br.t rfl ?_ | refine Br.f rfl ?_ | refine Ob.mk (by decide) ?_)
  refine LoopX.fam [1, 8, 9, 10, 11, 12, 13, 99, 100, 101] (fun (q : Nat × Nat) => ([(1, .p (ii 10)), (8, .p (.bool false)), (9, .p (.str l)), (10, .p (.int .u64 1844674407370955162)), (11, .p (.int .u64 18446744073709551615)), (12, .p (.bool false)), (13, .p (.int .u64 (q.2 : Int))), (99, .p (.sl .shr 1 (bytesP l))), (100, .p (ii (bytesP l).length)), (101, .p (ii q.1))], []))
    (fun q => q.1 ≤ l.length ∧ q.2 < 18446744073709551616 ∧ puL q.2 (l.drop q.1) = puL 0 l) (fun q => l.length - q.1) (0, 0) ⟨Nat.zero_le _, by decide, rfl⟩ (Trim.mk' rfl rfl rfl rfl (Nat.le_refl _)) ?_
  rintro ⟨j, n⟩ ⟨hj, hn, hq⟩
  change j ≤ l.length at hj
  change n < 18446744073709551616 at hn
  change puL n (l.drop j) = puL 0 l at hq
  refine Br.mk (fun hc => ?_) (fun hc => ?_)
  · have hc : j < l.length := by rw [lb] at hc; simpa using hc
    obtain ⟨b, hb⟩ : ∃ b, b = l[j] := ⟨_, rfl⟩
    have hg : (bytesP l)[((j : Int)).toNat]? = some (.int .u8 (b.toNat : Int)) := by rw [hb]; exact by_nth hc
    have hb2 := b.toNat_lt
    rw [List.drop_eq_getElem_cons hc, ← hb, puL] at hq
    rw [← hq] at h
    refine Idx.mk (.int .u8 (b.toNat : Int)) (Int.natCast_nonneg j) hg ?_
    by_cases d1 : 48 ≤ b.toNat ∧ b.toNat ≤ 57
    · rw [if_neg (fun q => q d1)] at h hq
      have c1 : ((b.toNat : Int) == 95) = false := by rw [beq_eq_false_iff_ne]; omega
      have c2 : decide ((48 : Int) ≤ (b.toNat : Int)) = true := by simp; omega
      have c3 : decide ((b.toNat : Int) ≤ 57) = true := by simp; omega
      have e8 : IntKind.u8.wrap ((b.toNat : Int) - 48) = ((b.toNat - 48 : Nat) : Int) := by rw [IntKind.wrap_u8]; omega
      have c4 : decide (IntKind.u8.wrap ((b.toNat : Int) - 48) ≥ 10) = false := by rw [e8]; simp; omega
      repeat (first | refine Br.f c1 ?_ | refine Br.f (congrArg (· == true) c1) ?_ | refine Br.t c2 ?_ | refine Br.t (congrArg (· == true) c2) ?_ | refine Br.t c3 ?_ | refine Br.f c4 ?_ | refine Br.f rfl ?_)
      by_cases d2 : 1844674407370955162 ≤ n
      · rw [if_pos d2] at h
        have c5 : decide ((n : Int) ≥ 1844674407370955162) = true := by simp; omega
        refine Br.t c5 ?_
        exact h
      rw [if_neg d2] at h hq
      have c5 : decide ((n : Int) ≥ 1844674407370955162) = false := by simp; omega
      refine Br.f c5 ?_
      obtain ⟨d, hd⟩ : ∃ d, d = b.toNat - 48 := ⟨_, rfl⟩
      have hd9 : d ≤ 9 := by omega
      rw [← hd] at h hq e8
      have w64 : ∀ z : Int, IntKind.u64.wrap z = z % 18446744073709551616 := fun z => by rw [IntKind.wrap_u64]
      have e10 : IntKind.u64.wrap ((n : Int) * 10) = ((n * 10 : Nat) : Int) := by rw [w64]; omega
      have ed : IntKind.u64.wrap (IntKind.u8.wrap ((b.toNat : Int) - 48)) = (d : Int) := by rw [e8, w64]; omega
      by_cases d3 : 18446744073709551616 ≤ n * 10 + d
      · rw [if_pos d3] at h
        have c6 : decide (IntKind.u64.wrap (IntKind.u64.wrap ((n : Int) * 10) + IntKind.u64.wrap (IntKind.u8.wrap ((b.toNat : Int) - 48))) < IntKind.u64.wrap ((n : Int) * 10)) = true := by
          rw [ed, e10, w64, decide_eq_true_eq]; omega
        repeat (first | refine Br.t c6 ?_ | refine Br.f (congrArg (· == false) c6) ?_ | refine Br.f rfl ?_ | refine Br.t rfl ?_)
        exact h
      · rw [if_neg d3] at h hq
        have e11 : IntKind.u64.wrap (IntKind.u64.wrap ((n : Int) * 10) + IntKind.u64.wrap (IntKind.u8.wrap ((b.toNat : Int) - 48))) = ((n * 10 + d : Nat) : Int) := by rw [ed, e10, w64]; omega
        have c6 : decide (IntKind.u64.wrap (IntKind.u64.wrap ((n : Int) * 10) + IntKind.u64.wrap (IntKind.u8.wrap ((b.toNat : Int) - 48))) < IntKind.u64.wrap ((n : Int) * 10)) = false := by
          rw [e11, e10, decide_eq_false_iff_not]; omega
        have c7 : decide (IntKind.u64.wrap (IntKind.u64.wrap ((n : Int) * 10) + IntKind.u64.wrap (IntKind.u8.wrap ((b.toNat : Int) - 48))) > 18446744073709551615) = false := by
          rw [e11, decide_eq_false_iff_not]; omega
        repeat (first | refine Br.f c6 ?_ | refine Br.t (congrArg (· == false) c6) ?_ | refine Br.f c7 ?_)
        have ej : IntKind.i64.wrap ((j : Int) + 1) = ((j + 1 : Nat) : Int) := by rw [wrap_i64] <;> omega
        refine ⟨(j + 1, n * 10 + d), ⟨hc, by show n * 10 + d < _; omega, hq⟩, by dsimp only; omega, Nat.le_refl _, Trim.mk' ?_ rfl rfl rfl (Nat.le_refl _)⟩
        refine Eq.trans (b := [_, _, _, _, _, _, (13, AV.p (.int .u64 (IntKind.u64.wrap (IntKind.u64.wrap ((n : Int) * 10) + IntKind.u64.wrap (IntKind.u8.wrap ((b.toNat : Int) - 48)))))), _, _, (101, AV.p (ii (IntKind.i64.wrap ((j : Int) + 1))))]) rfl ?_
        rw [e11, ej]; rfl
    · rw [if_pos d1] at h
      have hx := low_ge b.toNat hb2
      have c2 : decide ((48 : Int) ≤ (b.toNat : Int)) = false ∨ (decide ((48 : Int) ≤ (b.toNat : Int)) = true ∧ decide ((b.toNat : Int) ≤ 57) = false) := by
        by_cases q : 48 ≤ b.toNat
        · exact .inr ⟨by simp; omega, by simp; omega⟩
        · exact .inl (by simp; omega)
      obtain ⟨X, hX⟩ : ∃ X, X = bits .or .u8 (b.toNat : Int) 32 := ⟨_, rfl⟩
      have lowv : ∀ (s : Store) (K : AV → Store → Prop), K (.p (.int .u8 X)) s → Cal Tryd.prog 98 [.p (.int .u8 (b.toNat : Int))] s K := fun s K h => low_c _ s K (by rw [← hX]; exact h)
      rw [← hX] at hx
      cases c1 : ((b.toNat : Int) == 95)
      all_goals
        rcases c2 with c2 | ⟨c2, c3⟩
        all_goals
          repeat (first | refine Br.f c1 ?_ | refine Br.f (congrArg (· == true) c1) ?_ | refine Br.t c1 ?_ | refine Br.t (congrArg (· == true) c1) ?_ | refine Br.f c2 ?_ | refine Br.f (congrArg (· == true) c2) ?_ | refine Br.t c2 ?_ | refine Br.t (congrArg (· == true) c2) ?_ | refine Br.f c3 ?_ | refine Br.f rfl ?_)
          refine lowv _ _ ?_
          by_cases x1 : 97 ≤ X
          · have c4 : decide ((97 : Int) ≤ X) = true := by simpa using x1
            refine Br.t (congrArg (· == true) c4) ?_
            refine Br.t (congrArg (· == true) c4) ?_
            refine lowv _ _ ?_
            by_cases x2 : X ≤ 122
            · have c5 : decide (X ≤ 122) = true := by simpa using x2
              have c6 : decide (IntKind.u8.wrap (IntKind.u8.wrap (X - 97) + 10) ≥ 10) = true := by simpa using hx x1 x2
              repeat (first | refine Br.t c4 ?_ | refine Br.t (congrArg (· == true) c4) ?_ | refine Br.t c5 ?_)
              refine lowv _ _ ?_
              refine Br.t c6 ?_
              exact h
            · have c5 : decide (X ≤ 122) = false := by simpa using x2
              repeat (first | refine Br.t c4 ?_ | refine Br.t (congrArg (· == true) c4) ?_ | refine Br.f c5 ?_)
              exact h
          · have c4 : decide ((97 : Int) ≤ X) = false := by simpa using x1
            repeat (first | refine Br.f c4 ?_ | refine Br.f (congrArg (· == true) c4) ?_ | refine Br.f rfl ?_)
            exact h
  · have hc : j = l.length := by rw [lb] at hc; simp at hc; omega
    rw [hc, List.drop_length] at hq
    rw [← hq] at h
    repeat (first | refine Br.f rfl ?_)
    exact h
end Go.Proofs.YtkokaflanlcojaaDoor.AW

open Go Go.Proofs.YtkokaflanlcojaaDoor.AW Go.Proofs
namespace Go.Proofs.YtkokaflanlcojaaDoor.AW
set_option maxRecDepth 100000
set_option linter.unusedSimpArgs false
set_option linter.unusedVariables false

theorem valT_dtxt : ∀ (n B : Nat), B < 10 ^ n → valT (dtxt B n) = B
  | 0, B, h => by
    have h : B < 1 := by simpa using h
    show 0 = B; omega
  | n + 1, B, h => by
    rw [dtxt, valT_snoc, valT_dtxt n (B / 10) (by rw [Nat.pow_succ] at h; omega), d1_val (by omega)]; omega
def foldD (m : Nat) (l : List UInt8) : Nat := l.foldl (fun v b => v * 10 + (b.toNat - 48)) m
theorem foldD_le : ∀ (l : List UInt8) (m : Nat), m ≤ foldD m l
  | [], m => Nat.le_refl _
  | c :: r, m => by
    have := foldD_le r (m * 10 + (c.toNat - 48))
    show m ≤ foldD (m * 10 + (c.toNat - 48)) r
    omega
theorem puL_dig : ∀ (l : List UInt8) (m : Nat), (∀ c ∈ l, 48 ≤ c.toNat ∧ c.toNat ≤ 57) → foldD m l ≤ 1099511627776 → puL m l = (foldD m l, 0)
  | [], m, _, _ => rfl
  | c :: r, m, h, hb => by
    have h1 := h c (by simp)
    have hb' : foldD (m * 10 + (c.toNat - 48)) r ≤ 1099511627776 := hb
    have h2 := foldD_le r (m * 10 + (c.toNat - 48))
    rw [puL, if_neg (fun q => q h1), if_neg (by omega), if_neg (by omega), puL_dig r _ (fun x hx => h x (by simp [hx])) hb']
    rfl
theorem dtxt_digs (B n : Nat) : ∀ c ∈ dtxt B n, 48 ≤ c.toNat ∧ c.toNat ≤ 57 := by
  intro c hc
  obtain ⟨i, hi, rfl⟩ := List.getElem_of_mem hc
  exact dtxt_dig B n i hi
theorem cutB_at (a k : List UInt8) (c : UInt8) (h : ∀ x ∈ a, x ≠ c) : cutB (a ++ [c] ++ k) c = (a, k, true) := by
  have hl : a.length < (a ++ [c] ++ k).length := by simp
  have e : idxB (a ++ [c] ++ k) c = (a.length : Int) := by
    have hg : (a ++ [c] ++ k).getD a.length 0 = c := by simp [List.getD, List.append_assoc]
    rcases idxB_spec (a ++ [c] ++ k) c with ⟨i, h1, h2, h3, h4⟩ | ⟨_, h2⟩
    · have hi : i = a.length := by
        rcases Nat.lt_trichotomy i a.length with hlt | heq | hgt
        · exfalso
          have : (a ++ [c] ++ k).getD i 0 = a[i] := by rw [List.getD, List.append_assoc, List.getElem?_append_left hlt, List.getElem?_eq_getElem hlt]; rfl
          rw [this] at h3
          exact h _ (List.getElem_mem hlt) h3
        · exact heq
        · exact absurd hg (h4 _ hgt)
      rw [h1, hi]
    · exact absurd hg (h2 _ hl)
  unfold cutB
  rw [e, if_pos (Int.natCast_nonneg _), Int.toNat_natCast]
  simp

/-- What name.Parse answers: piP = what the part ahead of the dot says as a number. -/
def parseP (p : Int × Int) (l : List UInt8) : Int × List UInt8 × Bool := if p.2 = 0 ∧ fileS p.1 (cutB l 46).2.1 = (l, true) then (p.1, (cutB l 46).2.1, true) else (0, [], false)
theorem valT_eq (l : List UInt8) : valT l = foldD 0 l := rfl
/-- A file's name is cut at its dot. -/
theorem file_cut {b : Int} {k l : List UInt8} (h : fileS b k = (l, true)) : 0 ≤ b ∧ cutB l 46 = (dtxt b.toNat 20, k, true) ∧ l.take 20 = dtxt b.toNat 20 ∧ l.drop 21 = k ∧ valT (l.take 20) = b.toNat := by
  obtain ⟨h1, h2, h3⟩ := file_txt h
  have h0 : 0 ≤ b := by
    unfold fileS at h
    split at h
    · rename_i hc; exact hc.1
    · cases h
  have hl := dtxt_len 20 b.toNat
  have ht : l.take 20 = dtxt b.toNat 20 := by rw [h1, List.append_assoc, List.take_left' hl]
  refine ⟨h0, ?_, ht, ?_, ?_⟩
  · rw [h1]
    refine cutB_at _ _ _ fun x hx => ?_
    have := dtxt_digs b.toNat 20 x hx
    rintro rfl
    exact absurd this (by decide)
  · rw [h1, List.drop_append_of_le_length (by rw [List.length_append, hl]; show 21 ≤ 20 + 1; omega), List.drop_eq_nil_of_le (by rw [List.length_append, hl]; show 20 + 1 ≤ 21; omega)]
    rfl
  · rw [ht]
    exact valT_dtxt 20 b.toNat (by omega)
/-- Twenty digits are a number. -/
theorem pu_file (b : Nat) (hb : b ≤ 1099511627776) : puS (dtxt b 20) = (b, 0) := by
  have hv : foldD 0 (dtxt b 20) = b := by rw [← valT_eq]; exact valT_dtxt 20 b (by omega)
  have hne : dtxt b 20 ≠ [] := by
    intro q
    have := dtxt_len 20 b
    rw [q] at this; cases this
  unfold puS
  rw [if_neg hne, puL_dig _ 0 (dtxt_digs b 20) (by rw [hv]; exact hb), hv]
end Go.Proofs.YtkokaflanlcojaaDoor.AW

open Go Go.Proofs.YtkokaflanlcojaaDoor.AW Go.Proofs
namespace Go.Proofs.YtkokaflanlcojaaDoor.AW
set_option maxRecDepth 100000
set_option linter.unusedSimpArgs false
set_option linter.unusedVariables false

theorem puL_code : ∀ (l : List UInt8) (n : Nat), n < 18446744073709551616 → (puL n l).1 < 18446744073709551616 ∧ ((puL n l).2 = 0 ∨ ((puL n l).2 = 1 ∧ (puL n l).1 = 18446744073709551615) ∨ ((puL n l).2 = 2 ∧ (puL n l).1 = 0))
  | [], n, h => ⟨h, .inl rfl⟩
  | c :: r, n, h => by
    rw [puL]
    split
    · exact ⟨by decide, .inr (.inr ⟨rfl, rfl⟩)⟩
    · split
      · exact ⟨by decide, .inr (.inl ⟨rfl, rfl⟩)⟩
      · split
        · exact ⟨by decide, .inr (.inl ⟨rfl, rfl⟩)⟩
        · exact puL_code r _ (by omega)
theorem puS_code (l : List UInt8) : (puS l).1 < 18446744073709551616 ∧ ((puS l).2 = 0 ∨ ((puS l).2 = 1 ∧ (puS l).1 = 18446744073709551615) ∨ ((puS l).2 = 2 ∧ (puS l).1 = 0)) := by
  unfold puS
  split
  · exact ⟨by decide, .inr (.inr ⟨rfl, rfl⟩)⟩
  · exact puL_code l 0 (by decide)
/-- What a signed number's text says: the number, and what went wrong. -/
def piF (neg : Bool) (p : Nat × Int) : Int × Int := if p.2 = 2 then (0, 2) else if neg = false ∧ 9223372036854775808 ≤ p.1 then (9223372036854775807, 1) else if neg = true ∧ 9223372036854775808 < p.1 then (-9223372036854775808, 1)
  else if neg then (-(p.1 : Int), 0) else ((p.1 : Int), 0)
def piS : List UInt8 → Int × Int
  | [] => (0, 2)
  | c :: r => if c = 43 then piF false (puS r) else if c = 45 then piF true (puS r) else piF false (puS (c :: r))
theorem parseUint_v {l : List UInt8} {n : Nat} {e : Int} (hp : puS l = (n, e)) (hl : l.length < 9223372036854775807) (s : Store) (K : AV → Store → Prop) (h : K (.tup [.p (.int .u64 n), .p (errP e)]) s) : Cal Tryd.prog 84 [.p (.str l), .p (ii 10), .p (ii 64)] s K := parseUint_c l hl s K (by rw [hp]; exact h)

theorem piS_file (b : Nat) (hb : b ≤ 1099511627776) : piS (dtxt b 20) = ((b : Int), 0) := by
  have hp := pu_file b hb
  obtain ⟨c, r, hcr⟩ : ∃ c r, dtxt b 20 = c :: r := by
    cases h : dtxt b 20 with
    | nil => have := dtxt_len 20 b; rw [h] at this; cases this
    | cons c r => exact ⟨c, r, rfl⟩
  have hd := dtxt_digs b 20 c (by rw [hcr]; simp)
  rw [hcr] at hp ⊢
  have h1 : ¬ c = 43 := by rintro rfl; exact absurd hd (by decide)
  have h2 : ¬ c = 45 := by rintro rfl; exact absurd hd (by decide)
  rw [piS, if_neg h1, if_neg h2, hp]
  unfold piF
  rw [if_neg (by simp), if_neg (fun q => absurd q.2 (by show ¬ 9223372036854775808 ≤ b; omega)), if_neg (fun q => by cases q.1), if_neg (by simp)]
/-- Both readings of a file's name are the same. -/
theorem parse_same (l : List UInt8) : parseP (piS (cutB l 46).1) l = parseS l := by
  unfold parseP parseS
  by_cases h : fileS (valT (l.take 20) : Nat) (l.drop 21) = (l, true)
  · obtain ⟨_, h2, _⟩ := file_cut h
    obtain ⟨_, hb, _⟩ := file_txt h
    rw [if_pos h, h2, Int.toNat_natCast, piS_file _ (by omega), if_pos ⟨rfl, h⟩]
  · rw [if_neg h]
    by_cases h2 : (piS (cutB l 46).1).2 = 0 ∧ fileS (piS (cutB l 46).1).1 (cutB l 46).2.1 = (l, true)
    · exfalso
      obtain ⟨h0, _, _, h4, h5⟩ := file_cut h2.2
      refine h ?_
      rw [h5, h4, Int.toNat_of_nonneg h0]
      exact h2.2
    · rw [if_neg h2]
end Go.Proofs.YtkokaflanlcojaaDoor.AW

open Go Go.Proofs.YtkokaflanlcojaaDoor.AW Go.Proofs
namespace Go.Proofs.YtkokaflanlcojaaDoor.AW
set_option maxRecDepth 100000
set_option linter.unusedSimpArgs false
set_option linter.unusedVariables false

theorem parseInt_c (l : List UInt8) (hl : l.length < 9223372036854775807) (s : Store) (K : AV → Store → Prop) (h : K (.tup [.p (ii (piS l).1), .p (errP (piS l).2)]) s) : Cal Tryd.prog 68 [.p (.str l), .p (ii 10), .p (ii 64)] s K := by
  refine Cal.pure (args := [.str l, ii 10, ii 64]) ?_
  refine Cal.intro Tryd.func68 (by decide +kernel) rfl rfl ?_
  cases l with
  | nil =>
    refine Br.t rfl ?_
    exact h
  | cons c r =>
    have c0 : ((c :: r) == ([] : List UInt8)) = false := rfl
    refine Br.f c0 ?_
    refine IdxB.mk c (by decide) rfl ?_
    have cut : ((c :: r).take ((c :: r).length : Int).toNat).drop (1 : Int).toNat = r := by rw [Int.toNat_natCast, List.take_of_length_le (Nat.le_refl _)]; rfl
    have b1 : (0 : Int) ≤ 1 ∧ (1 : Int) ≤ ((c :: r).length : Int) ∧ ((c :: r).length : Int) ≤ ((c :: r).length : Int) := ⟨by omega, by simp; omega, by omega⟩
    rw [piS] at h
    by_cases h43 : c = 43
    · rw [if_pos h43] at h
      have c1 : ((c.toNat : Int) == 43) = true := by rw [h43]; rfl
      refine Br.t c1 ?_
      refine Ob.mk b1 ?_
      obtain ⟨n, e, hp⟩ : ∃ n e, puS (r) = (n, e) := ⟨_, _, rfl⟩
      obtain ⟨hn, hcode⟩ := puS_code (r)
      rw [hp] at h hn hcode
      refine parseUint_v (l := (((c :: r).take ((c :: r).length : Int).toNat).drop (1 : Int).toNat)) (n := n) (e := e) (by rw [cut]; exact hp) (by rw [cut]; exact Nat.lt_trans (Nat.lt_succ_self _) hl) _ _ ?_
      rcases hcode with he | ⟨he, hv⟩ | ⟨he, hv⟩
      · change e = 0 at he
        subst he
        by_cases hbig : 9223372036854775808 ≤ n
        · have e1 : piF false (n, 0) = (9223372036854775807, 1) := by unfold piF; rw [if_neg (by simp), if_pos ⟨rfl, hbig⟩]
          rw [e1] at h
          have c5 : decide ((n : Int) ≥ 9223372036854775808) = true := by simp; omega
          repeat (first | refine Br.t c5 ?_ | refine Br.t rfl ?_ | refine Br.f rfl ?_ | refine Ob.mk (by decide) ?_)
          exact h
        · have e1 : piF false (n, 0) = ((n : Int), 0) := by unfold piF; rw [if_neg (by simp), if_neg (fun q => hbig q.2), if_neg (by simp)]; rfl
          rw [e1] at h
          have c5 : decide ((n : Int) ≥ 9223372036854775808) = false := by simp; omega
          have ew : IntKind.i64.wrap (n : Int) = (n : Int) := by rw [wrap_i64] <;> omega
          rw [← ew] at h
          repeat (first | refine Br.f c5 ?_ | refine Br.t rfl ?_ | refine Br.f rfl ?_ | refine Ob.mk (by decide) ?_)
          exact h
      · change e = 1 at he
        change n = _ at hv
        subst he; subst hv
        repeat (first | refine Br.t rfl ?_ | refine Br.f rfl ?_ | refine Ob.mk (by decide) ?_)
        exact h
      · change e = 2 at he
        change n = _ at hv
        subst he; subst hv
        repeat (first | refine Br.t rfl ?_ | refine Br.f rfl ?_ | refine Ob.mk (by decide) ?_)
        exact h
    · rw [if_neg h43] at h
      have c1 : ((c.toNat : Int) == 43) = false := by
        rw [beq_eq_false_iff_ne]
        intro q
        exact h43 (UInt8.toNat_inj.1 (by show c.toNat = 43; omega))
      refine Br.f c1 ?_
      by_cases h45 : c = 45
      · rw [if_pos h45] at h
        have c2 : ((c.toNat : Int) == 45) = true := by rw [h45]; rfl
        refine Br.t c2 ?_
        refine Ob.mk b1 ?_
        obtain ⟨n, e, hp⟩ : ∃ n e, puS (r) = (n, e) := ⟨_, _, rfl⟩
        obtain ⟨hn, hcode⟩ := puS_code (r)
        rw [hp] at h hn hcode
        refine parseUint_v (l := (((c :: r).take ((c :: r).length : Int).toNat).drop (1 : Int).toNat)) (n := n) (e := e) (by rw [cut]; exact hp) (by rw [cut]; exact Nat.lt_trans (Nat.lt_succ_self _) hl) _ _ ?_
        rcases hcode with he | ⟨he, hv⟩ | ⟨he, hv⟩
        · change e = 0 at he
          subst he
          by_cases hbig : 9223372036854775808 < n
          · have e1 : piF true (n, 0) = (-9223372036854775808, 1) := by unfold piF; rw [if_neg (by simp), if_neg (fun q => by cases q.1), if_pos ⟨rfl, hbig⟩]
            rw [e1] at h
            have c5 : decide ((n : Int) > 9223372036854775808) = true := by simp; omega
            repeat (first | refine Br.t c5 ?_ | refine Br.t rfl ?_ | refine Br.f rfl ?_ | refine Ob.mk (by decide) ?_)
            exact h
          · have e1 : piF true (n, 0) = (-(n : Int), 0) := by unfold piF; rw [if_neg (by simp), if_neg (fun q => by cases q.1), if_neg (fun q => hbig q.2), if_pos rfl]
            rw [e1] at h
            have c5 : decide ((n : Int) > 9223372036854775808) = false := by simp; omega
            have ew : IntKind.i64.wrap (0 - IntKind.i64.wrap (n : Int)) = -(n : Int) := by rw [IntKind.wrap_i64, IntKind.wrap_i64]; omega
            rw [← ew] at h
            repeat (first | refine Br.f c5 ?_ | refine Br.t rfl ?_ | refine Br.f rfl ?_ | refine Ob.mk (by decide) ?_)
            exact h
        · change e = 1 at he
          change n = _ at hv
          subst he; subst hv
          repeat (first | refine Br.t rfl ?_ | refine Br.f rfl ?_ | refine Ob.mk (by decide) ?_)
          exact h
        · change e = 2 at he
          change n = _ at hv
          subst he; subst hv
          repeat (first | refine Br.t rfl ?_ | refine Br.f rfl ?_ | refine Ob.mk (by decide) ?_)
          exact h
      · rw [if_neg h45] at h
        have c2 : ((c.toNat : Int) == 45) = false := by
          rw [beq_eq_false_iff_ne]
          intro q
          exact h45 (UInt8.toNat_inj.1 (by show c.toNat = 45; omega))
        refine Br.f c2 ?_
        obtain ⟨n, e, hp⟩ : ∃ n e, puS (c :: r) = (n, e) := ⟨_, _, rfl⟩
        obtain ⟨hn, hcode⟩ := puS_code (c :: r)
        rw [hp] at h hn hcode
        refine parseUint_v (l := (c :: r)) (n := n) (e := e) (by exact hp) (by exact hl) _ _ ?_
        rcases hcode with he | ⟨he, hv⟩ | ⟨he, hv⟩
        · change e = 0 at he
          subst he
          by_cases hbig : 9223372036854775808 ≤ n
          · have e1 : piF false (n, 0) = (9223372036854775807, 1) := by unfold piF; rw [if_neg (by simp), if_pos ⟨rfl, hbig⟩]
            rw [e1] at h
            have c5 : decide ((n : Int) ≥ 9223372036854775808) = true := by simp; omega
            repeat (first | refine Br.t c5 ?_ | refine Br.t rfl ?_ | refine Br.f rfl ?_ | refine Ob.mk (by decide) ?_)
            exact h
          · have e1 : piF false (n, 0) = ((n : Int), 0) := by unfold piF; rw [if_neg (by simp), if_neg (fun q => hbig q.2), if_neg (by simp)]; rfl
            rw [e1] at h
            have c5 : decide ((n : Int) ≥ 9223372036854775808) = false := by simp; omega
            have ew : IntKind.i64.wrap (n : Int) = (n : Int) := by rw [wrap_i64] <;> omega
            rw [← ew] at h
            repeat (first | refine Br.f c5 ?_ | refine Br.t rfl ?_ | refine Br.f rfl ?_ | refine Ob.mk (by decide) ?_)
            exact h
        · change e = 1 at he
          change n = _ at hv
          subst he; subst hv
          repeat (first | refine Br.t rfl ?_ | refine Br.f rfl ?_ | refine Ob.mk (by decide) ?_)
          exact h
        · change e = 2 at he
          change n = _ at hv
          subst he; subst hv
          repeat (first | refine Br.t rfl ?_ | refine Br.f rfl ?_ | refine Ob.mk (by decide) ?_)
          exact h
end Go.Proofs.YtkokaflanlcojaaDoor.AW
