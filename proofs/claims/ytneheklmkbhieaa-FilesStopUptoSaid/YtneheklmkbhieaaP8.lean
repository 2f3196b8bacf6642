/- A part of the proof: LF/F0, LF/X1, LF/X2, LF/X4, LF/X5. -/
import Derived.Test.YtneheklmkbhieaaProg
import Derived.Test.YtneheklmkbhieaaP6
import Derived.Test.YtneheklmkbhieaaP7
open Go Go.Proofs.Ytneheklmkbhieaa.AW Go.Proofs
namespace Go.Proofs.Ytneheklmkbhieaa.AW
set_option maxRecDepth 100000
set_option linter.unusedVariables false

def ii (n : Int) : PV := .int .i64 n
def intsR (l : List Int) : List PV := l.map (.int .i32)
theorem intsR_len (l : List Int) : (intsR l).length = l.length := by simp [intsR]
theorem intsR_get {l : List Int} {j : Nat} (h : j < l.length) : (intsR l)[j]? = some (.int .i32 l[j]) := by simp [intsR, h]
theorem intsR_app (a b : List Int) : intsR (a ++ b) = intsR a ++ intsR b := by simp [intsR]
theorem by21 : Try.prog.types[21].bytes = 4 := rfl
theorem count_c (l : List UInt8) (hl : l.length < 9223372036854775808) (s : Store) (K : AV → Store → Prop) (h : K (.p (ii (rns l).length)) s) : Cal Try.prog 91 [.p (.str l)] s K := by
  refine Cal.pure (args := [.str l]) ?_
  refine Cal.intro Try.func91 (by decide +kernel) rfl rfl ?_
  have hle := rns_le l
  refine LoopX.fam [3, 5] (fun (q : Nat × List UInt8 × Nat) => ([(3, .p (ii q.1)), (5, .it 0)], [some (.iterS q.2.1 q.2.2)])) (fun q => q.1 + (rns q.2.1).length = (rns l).length) (fun q => q.2.1.length) (0, l, 0) (by simp) (Trim.mk' rfl rfl rfl rfl (Nat.le_refl _)) ?_
  rintro ⟨n, rest, pos⟩ hq
  have hq : n + (rns rest).length = (rns l).length := hq
  refine BrL.mk (fun (he : rest = []) => ?_) (fun (hne : rest ≠ []) => ?_)
  · refine Br.f rfl ?_
    rw [he, rns_nil] at hq
    have : n = (rns l).length := by simpa using hq
    rw [← this] at h
    exact h
  · refine Br.t rfl ?_
    rw [rns_step hne] at hq
    simp only [List.length_cons] at hq
    have h3 := decode_pos rest
    have h4 : 0 < rest.length := List.length_pos_iff.2 hne
    refine ⟨(n + 1, rest.drop (decode rest).2, pos + (decode rest).2), by simp only; omega, by simp; omega, Nat.le_refl _, Trim.mk' ?_ rfl rfl rfl (Nat.le_refl _)⟩
    have e : IntKind.i64.wrap ((n : Int) + 1) = ((n + 1 : Nat) : Int) := by rw [wrap_i64] <;> omega
    rw [← e]; rfl

end Go.Proofs.Ytneheklmkbhieaa.AW

open Go Go.Proofs.Ytneheklmkbhieaa.AW Go.Proofs
namespace Go.Proofs.Ytneheklmkbhieaa.AW
set_option maxRecDepth 100000
set_option linter.unusedSimpArgs false
set_option linter.unusedVariables false

/-- May a kind's name hold this rune? -/
def isNm (r : Nat) : Bool := (decide (97 ≤ r) && decide (r ≤ 122)) || ((decide (48 ≤ r) && decide (r ≤ 57)) || (decide (r = 46) || (decide (r = 45) || (decide (r = 95) || (decide (255 < r) && decide (r ≠ 65533))))))
theorem one_c (r : Nat) (s : Store) (K : AV → Store → Prop) (h : K (.p (.bool (isNm r))) s) : Cal Try.prog 54 [.p (.int .i32 r)] s K := by
  refine Cal.pure (args := [.int .i32 r]) ?_
  refine Cal.intro Try.func54 (by decide +kernel) rfl rfl ?_
  have fin : ∀ b, b = isNm r → K (.p (.bool b)) s := fun b hb => by rw [hb]; exact h
  by_cases a1 : 97 ≤ r <;> by_cases a2 : r ≤ 122 <;> by_cases a3 : 48 ≤ r <;> by_cases a4 : r ≤ 57 <;> by_cases a5 : r = 46 <;> by_cases a6 : r = 45 <;> by_cases a7 : r = 95 <;> by_cases a8 : 255 < r <;> by_cases a9 : r = 65533
  all_goals first
    | omega
    | skip
  all_goals
    repeat first | refine Br.t (by first | rfl | (simp; done) | (simp; omega)) ?_ | refine Br.f (by first | rfl | (simp; done) | (simp; omega)) ?_
    refine fin _ ?_
    rw [Bool.eq_iff_iff]
    unfold isNm
    simp
    try omega
end Go.Proofs.Ytneheklmkbhieaa.AW

open Go Go.Proofs.Ytneheklmkbhieaa.AW Go.Proofs
namespace Go.Proofs.Ytneheklmkbhieaa.AW
set_option maxRecDepth 100000
set_option linter.unusedSimpArgs false
set_option linter.unusedVariables false

theorem rune1_c (r : Nat) (s : Store) (K : AV → Store → Prop) (h : K (.p (.bool (isNm r))) s) : Cal Try.prog 90 [.p (.int .i32 r)] s K := by
  refine Cal.pure (args := [.int .i32 r]) ?_
  refine Cal.intro Try.func90 (by decide +kernel) rfl rfl ?_
  have fin : ∀ b, b = isNm r → K (.p (.bool b)) s := fun b hb => by rw [hb]; exact h
  by_cases a1 : 97 ≤ r <;> by_cases a2 : r ≤ 122 <;> by_cases a3 : 48 ≤ r <;> by_cases a4 : r ≤ 57 <;> by_cases a5 : r = 46 <;> by_cases a6 : r = 45 <;> by_cases a7 : r = 95 <;> by_cases a8 : 255 < r <;> by_cases a9 : r = 65533
  all_goals first
    | omega
    | skip
  all_goals
    repeat first | refine Br.t (by first | rfl | (simp; done) | (simp; omega)) ?_ | refine Br.f (by first | rfl | (simp; done) | (simp; omega)) ?_
    refine fin _ ?_
    rw [Bool.eq_iff_iff]
    unfold isNm
    simp
    try omega

theorem ncount_c (l : List UInt8) (hl : l.length < 9223372036854775808) (s : Store) (K : AV → Store → Prop) (h : K (.p (ii (rns l).length)) s) : Cal Try.prog 55 [.p (.str l)] s K := by
  refine Cal.pure (args := [.str l]) ?_
  refine Cal.intro Try.func55 (by decide +kernel) rfl rfl ?_
  have hle := rns_le l
  refine LoopX.fam [3, 5] (fun (q : Nat × List UInt8 × Nat) => ([(3, .p (ii q.1)), (5, .it 0)], [some (.iterS q.2.1 q.2.2)])) (fun q => q.1 + (rns q.2.1).length = (rns l).length) (fun q => q.2.1.length) (0, l, 0) (by simp) (Trim.mk' rfl rfl rfl rfl (Nat.le_refl _)) ?_
  rintro ⟨n, rest, pos⟩ hq
  have hq : n + (rns rest).length = (rns l).length := hq
  refine BrL.mk (fun (he : rest = []) => ?_) (fun (hne : rest ≠ []) => ?_)
  · refine Br.f rfl ?_
    rw [he, rns_nil] at hq
    have : n = (rns l).length := by simpa using hq
    rw [← this] at h
    exact h
  · refine Br.t rfl ?_
    rw [rns_step hne] at hq
    simp only [List.length_cons] at hq
    have h3 := decode_pos rest
    have h4 : 0 < rest.length := List.length_pos_iff.2 hne
    refine ⟨(n + 1, rest.drop (decode rest).2, pos + (decode rest).2), by simp only; omega, by simp; omega, Nat.le_refl _, Trim.mk' ?_ rfl rfl rfl (Nat.le_refl _)⟩
    have e : IntKind.i64.wrap ((n : Int) + 1) = ((n + 1 : Nat) : Int) := by rw [wrap_i64] <;> omega
    rw [← e]; rfl



/-- Is it a kind's name, but for the dot? -/
def isRt (l : List UInt8) : Bool := (rns l).all (fun r => isNm r.toNat) && (decide (1 ≤ (rns l).length) && decide ((rns l).length ≤ 40))
theorem one_v {r : Nat} {b : Bool} (hb : isNm r = b) (s : Store) (K : AV → Store → Prop) (h : K (.p (.bool b)) s) : Cal Try.prog 54 [.p (.int .i32 r)] s K := one_c r s K (by rw [hb]; exact h)
theorem rune1_v {r : Nat} {b : Bool} (hb : isNm r = b) (s : Store) (K : AV → Store → Prop) (h : K (.p (.bool b)) s) : Cal Try.prog 90 [.p (.int .i32 r)] s K := rune1_c r s K (by rw [hb]; exact h)
theorem right_c (l : List UInt8) (hl : l.length < 9223372036854775808) (s : Store) (K : AV → Store → Prop) (h : K (.p (.bool (isRt l))) s) : Cal Try.prog 30 [.p (.str l)] s K := by
  refine Cal.pure (args := [.str l]) ?_
  refine Cal.intro Try.func30 (by decide +kernel) rfl rfl ?_
  refine LoopX.fam [0, 7] (fun (q : List UInt8 × Nat) => ([(0, .p (.str l)), (7, .it 0)], [some (.iterS q.1 q.2)]))
    (fun q => (rns l).all (fun r => isNm r.toNat) = (rns q.1).all (fun r => isNm r.toNat)) (fun q => q.1.length) (l, 0) rfl (Trim.mk' rfl rfl rfl rfl (Nat.le_refl _)) ?_
  rintro ⟨rest, pos⟩ hq
  change (rns l).all (fun r => isNm r.toNat) = (rns rest).all (fun r => isNm r.toNat) at hq
  refine BrL.mk (fun (he : rest = []) => ?_) (fun (hne : rest ≠ []) => ?_)
  · refine Br.f rfl ?_
    rw [he, rns_nil] at hq
    have e1 : isRt l = (decide (1 ≤ (rns l).length) && decide ((rns l).length ≤ 40)) := by unfold isRt; rw [hq]; rfl
    rw [e1] at h
    refine ncount_c l hl _ _ ?_
    by_cases c : 1 ≤ (rns l).length
    · have c1 : decide (((rns l).length : Int) ≥ 1) = true := by simp; omega
      repeat (first | refine Br.t c1 ?_ | refine Br.t (congrArg (· == true) c1) ?_)
      have e2 : (decide (1 ≤ (rns l).length) && decide ((rns l).length ≤ 40)) = decide (((rns l).length : Int) ≤ 40) := by
        rw [decide_eq_true c, Bool.true_and]
        exact decide_eq_decide.2 (by omega)
      rw [e2] at h
      exact h
    · have c1 : decide (((rns l).length : Int) ≥ 1) = false := by simp; omega
      repeat (first | refine Br.f c1 ?_ | refine Br.f (congrArg (· == true) c1) ?_)
      have e2 : (decide (1 ≤ (rns l).length) && decide ((rns l).length ≤ 40)) = false := by simp; omega
      rw [e2] at h
      exact h
  · refine Br.t rfl ?_
    have hd : (rest.drop (decode rest).2).length < rest.length := by
      have h3 := decode_pos rest
      have h4 : 0 < rest.length := List.length_pos_iff.2 hne
      simp; omega
    rw [rns_step hne, List.all_cons, Int.toNat_natCast] at hq
    by_cases hp : isNm (decode rest).1 = true
    · refine one_v hp _ _ ?_
      refine Br.f rfl ?_
      rw [hp, Bool.true_and] at hq
      exact ⟨(rest.drop (decode rest).2, pos + (decode rest).2), hq, hd, Nat.le_refl _, Trim.mk' rfl rfl rfl rfl (Nat.le_refl _)⟩
    · have hp2 : isNm (decode rest).1 = false := by simpa using hp
      refine one_v hp2 _ _ ?_
      refine Br.t rfl ?_
      rw [hp2, Bool.false_and] at hq
      have e1 : isRt l = false := by unfold isRt; rw [hq]; rfl
      rw [e1] at h
      exact h

theorem right2_c (l : List UInt8) (hl : l.length < 9223372036854775808) (s : Store) (K : AV → Store → Prop) (h : K (.p (.bool (isRt l))) s) : Cal Try.prog 62 [.p (.str l)] s K := by
  refine Cal.pure (args := [.str l]) ?_
  refine Cal.intro Try.func62 (by decide +kernel) rfl rfl ?_
  refine LoopX.fam [0, 6] (fun (q : List UInt8 × Nat) => ([(0, .p (.str l)), (6, .it 0)], [some (.iterS q.1 q.2)]))
    (fun q => (rns l).all (fun r => isNm r.toNat) = (rns q.1).all (fun r => isNm r.toNat)) (fun q => q.1.length) (l, 0) rfl (Trim.mk' rfl rfl rfl rfl (Nat.le_refl _)) ?_
  rintro ⟨rest, pos⟩ hq
  change (rns l).all (fun r => isNm r.toNat) = (rns rest).all (fun r => isNm r.toNat) at hq
  refine BrL.mk (fun (he : rest = []) => ?_) (fun (hne : rest ≠ []) => ?_)
  · refine Br.f rfl ?_
    rw [he, rns_nil] at hq
    have e1 : isRt l = (decide (1 ≤ (rns l).length) && decide ((rns l).length ≤ 40)) := by unfold isRt; rw [hq]; rfl
    rw [e1] at h
    refine count_c l hl _ _ ?_
    by_cases c : 1 ≤ (rns l).length
    · have c1 : decide (((rns l).length : Int) ≥ 1) = true := by simp; omega
      repeat (first | refine Br.t c1 ?_ | refine Br.t (congrArg (· == true) c1) ?_)
      refine count_c l hl _ _ ?_
      repeat (first | refine Br.t c1 ?_ | refine Br.t (congrArg (· == true) c1) ?_)
      have e2 : (decide (1 ≤ (rns l).length) && decide ((rns l).length ≤ 40)) = decide (((rns l).length : Int) ≤ 40) := by
        rw [decide_eq_true c, Bool.true_and]
        exact decide_eq_decide.2 (by omega)
      rw [e2] at h
      exact h
    · have c1 : decide (((rns l).length : Int) ≥ 1) = false := by simp; omega
      repeat (first | refine Br.f c1 ?_ | refine Br.f (congrArg (· == true) c1) ?_)
      have e2 : (decide (1 ≤ (rns l).length) && decide ((rns l).length ≤ 40)) = false := by simp; omega
      rw [e2] at h
      exact h
  · refine Br.t rfl ?_
    have hd : (rest.drop (decode rest).2).length < rest.length := by
      have h3 := decode_pos rest
      have h4 : 0 < rest.length := List.length_pos_iff.2 hne
      simp; omega
    rw [rns_step hne, List.all_cons, Int.toNat_natCast] at hq
    by_cases hp : isNm (decode rest).1 = true
    · refine rune1_v hp _ _ ?_
      refine Br.f rfl ?_
      rw [hp, Bool.true_and] at hq
      exact ⟨(rest.drop (decode rest).2, pos + (decode rest).2), hq, hd, Nat.le_refl _, Trim.mk' rfl rfl rfl rfl (Nat.le_refl _)⟩
    · have hp2 : isNm (decode rest).1 = false := by simpa using hp
      refine rune1_v hp2 _ _ ?_
      refine Br.t rfl ?_
      rw [hp2, Bool.false_and] at hq
      have e1 : isRt l = false := by unfold isRt; rw [hq]; rfl
      rw [e1] at h
      exact h

end Go.Proofs.Ytneheklmkbhieaa.AW

open Go Go.Proofs.Ytneheklmkbhieaa.AW Go.Proofs
namespace Go.Proofs.Ytneheklmkbhieaa.AW
set_option maxRecDepth 100000
set_option linter.unusedSimpArgs false
set_option linter.unusedVariables false

def cmp1 (x y : Int) : Int := if x < y then -1 else if y < x then 1 else 0
theorem nan_c (x : Int) (s : Store) (K : AV → Store → Prop) (h : K (.p (.bool false)) s) : Cal Try.prog 118 [.p (.int .i32 x)] s K := by
  refine Cal.pure (args := [.int .i32 x]) ?_
  refine Cal.intro Try.func118 (by decide +kernel) rfl rfl ?_
  have e : bne x x = false := by simp
  rw [← e] at h
  exact h
theorem cmp_c (x y : Int) (s : Store) (K : AV → Store → Prop) (h : K (.p (ii (cmp1 x y))) s) : Cal Try.prog 88 [.p (.int .i32 x), .p (.int .i32 y)] s K := by
  refine Cal.pure (args := [.int .i32 x, .int .i32 y]) ?_
  refine Cal.intro Try.func88 (by decide +kernel) rfl rfl ?_
  refine nan_c x _ _ ?_
  refine nan_c y _ _ ?_
  refine Br.f rfl ?_
  refine Br.f rfl ?_
  unfold cmp1 at h
  refine Br.mk (fun hc => ?_) (fun hc => ?_)
  · have hc : x < y := by simpa using hc
    rw [if_pos hc] at h; exact h
  · have hc : ¬ x < y := by simpa using hc
    rw [if_neg hc] at h
    refine Br.mk (fun hd => ?_) (fun hd => ?_)
    · have hd : y < x := by simpa using hd
      rw [if_pos hd] at h; exact h
    · have hd : ¬ y < x := by simpa using hd
      rw [if_neg hd] at h; exact h

/-- Which of two rows of runes comes first? -/
def cmpR : List Int → List Int → Int
  | [], [] => 0
  | [], _ :: _ => -1
  | _ :: _, [] => 1
  | x :: a, y :: b => if cmp1 x y ≠ 0 then cmp1 x y else cmpR a b
theorem cmpR_drop {a b : List Int} {j : Nat} (h1 : j < a.length) (h2 : j < b.length) : cmpR (a.drop j) (b.drop j) = if cmp1 a[j] b[j] ≠ 0 then cmp1 a[j] b[j] else cmpR (a.drop (j + 1)) (b.drop (j + 1)) := by
  rw [List.drop_eq_getElem_cons h1, List.drop_eq_getElem_cons h2, cmpR]
theorem cmpR_nil {a b : List Int} {j : Nat} (h1 : a.length ≤ j) : cmpR (a.drop j) (b.drop j) = if j < b.length then -1 else 0 := by
  rw [List.drop_eq_nil_of_le h1]
  split
  · rename_i h
    rw [List.drop_eq_getElem_cons h]; rfl
  · rename_i h
    rw [List.drop_eq_nil_of_le (by omega)]; rfl
theorem cmpR_long {a b : List Int} {j : Nat} (h1 : j < a.length) (h2 : b.length ≤ j) : cmpR (a.drop j) (b.drop j) = 1 := by
  rw [List.drop_eq_nil_of_le h2, List.drop_eq_getElem_cons h1]; rfl
theorem cmp1_le (x y : Int) : -1 ≤ cmp1 x y ∧ cmp1 x y ≤ 1 := by unfold cmp1; split <;> (try split) <;> omega

theorem compare_c (a b : List Int) (ha : a.length < 9223372036854775807) (hb : b.length < 9223372036854775807) (s : Store) (K : AV → Store → Prop) (h : K (.p (ii (cmpR a b))) s) : Cal Try.prog 59 [.p (.sl .shr 1 (intsR a)), .p (.sl .shr 1 (intsR b))] s K := by
  refine Cal.pure (args := [.sl .shr 1 (intsR a), .sl .shr 1 (intsR b)]) ?_
  refine Cal.intro Try.func59 (by decide +kernel) rfl rfl ?_
  have la := intsR_len a
  have lb := intsR_len b
  refine LoopX.fam [0, 1, 9, 10, 11] (fun (j : Nat) => ([(0, .p (.sl .shr 1 (intsR a))), (1, .p (.sl .shr 1 (intsR b))), (9, .p (.sl .shr 1 (intsR a))), (10, .p (ii (intsR a).length)), (11, .p (ii j))], []))
    (fun j => j ≤ a.length ∧ j ≤ b.length ∧ cmpR (a.drop j) (b.drop j) = cmpR a b) (fun j => a.length - j) 0 ⟨Nat.zero_le _, Nat.zero_le _, rfl⟩ (Trim.mk' rfl rfl rfl rfl (Nat.le_refl _)) ?_
  rintro j ⟨hj, hjb, hq⟩
  refine Br.mk (fun hc => ?_) (fun hc => ?_)
  · have hc : j < a.length := by rw [la] at hc; simpa using hc
    refine Idx.mk (.int .i32 a[j]) (by omega) (by rw [Int.toNat_natCast]; exact intsR_get hc) ?_
    refine Br.mk (fun hd => ?_) (fun hd => ?_)
    · have hd : b.length ≤ j := by rw [lb] at hd; simp at hd; omega
      rw [← hq, cmpR_long hc hd] at h
      exact h
    · have hd : j < b.length := by rw [lb] at hd; simp at hd; omega
      refine Idx.mk (.int .i32 b[j]) (by omega) (by rw [Int.toNat_natCast]; exact intsR_get hd) ?_
      refine cmp_c a[j] b[j] _ _ ?_
      rw [cmpR_drop hc hd] at hq
      refine Br.mk (fun he => ?_) (fun he => ?_)
      · have he : cmp1 a[j] b[j] ≠ 0 := by simpa using he
        rw [if_pos he] at hq
        rw [← hq] at h
        exact h
      · have he : ¬ cmp1 a[j] b[j] ≠ 0 := by simpa using he
        rw [if_neg he] at hq
        have ej : IntKind.i64.wrap ((j : Int) + 1) = ((j + 1 : Nat) : Int) := by rw [wrap_i64] <;> omega
        refine ⟨j + 1, ⟨hc, hd, hq⟩, by omega, Nat.le_refl _, Trim.mk' ?_ rfl rfl rfl (Nat.le_refl _)⟩
        refine Eq.trans (b := [_, _, _, _, (11, AV.p (ii (IntKind.i64.wrap ((j : Int) + 1))))]) rfl ?_
        rw [ej]; rfl
  · have hc : a.length ≤ j := by rw [la] at hc; simp at hc; omega
    rw [cmpR_nil hc] at hq
    refine Br.mk (fun hd => ?_) (fun hd => ?_)
    · have hd : a.length < b.length := by rw [la, lb] at hd; simpa using hd
      rw [if_pos (by omega)] at hq
      rw [← hq] at h; exact h
    · have hd : ¬ a.length < b.length := by rw [la, lb] at hd; simpa using hd
      rw [if_neg (by omega)] at hq
      rw [← hq] at h; exact h

/-- Less, by runes. -/
def lessR (a b : List UInt8) : Bool := decide (cmpR (rns a) (rns b) < 0)
theorem less_c (a b : List UInt8) (ha : a.length < 9223372036854775807) (hb : b.length < 9223372036854775807) (s : Store) (K : AV → Store → Prop) (h : K (.p (.bool (lessR a b))) s) : Cal Try.prog 36 [.p (.str a), .p (.str b)] s K := by
  refine Cal.pure (args := [.str a, .str b]) ?_
  refine Cal.intro Try.func36 (by decide +kernel) rfl rfl ?_
  have h1 := rns_le a
  have h2 := rns_le b
  refine compare_c (rns a) (rns b) (by omega) (by omega) _ _ ?_
  exact h
end Go.Proofs.Ytneheklmkbhieaa.AW

open Go Go.Proofs.Ytneheklmkbhieaa.AW Go.Proofs
namespace Go.Proofs.Ytneheklmkbhieaa.AW
set_option maxRecDepth 100000
set_option linter.unusedSimpArgs false
set_option linter.unusedVariables false

theorem runes_c (l : List UInt8) (hl : l.length < 1099511627776) (s : Store) (K : AV → Store → Prop) (h : K (.p (.sl .shr 1 (intsR (rns l)))) s) : Cal Try.prog 119 [.p (.str l)] s K := by
  refine Cal.pure (args := [.str l]) ?_
  refine Cal.intro Try.func119 (by decide +kernel) rfl rfl ?_
  have hle := rns_le l
  refine LoopX.famW [3, 7] (fun (q : List Int × List UInt8 × Nat) => ([(3, .osl 1 (intsR q.1).length 0 (intsR q.1).length), (7, .it 0)], [some (.iterS q.2.1 q.2.2), some (.buf 1 (intsR q.1))]))
    (fun q => q.1 ++ rns q.2.1 = rns l) (fun q => q.2.1.length) ([], l, 0) rfl (by show 1 ≤ 2; decide) (Trim.wk 1 [(1, none)] rfl (by show 1 ≤ 1; decide) (.inr rfl) rfl rfl rfl rfl rfl ⟨.own 1 rfl rfl, .inl rfl, trivial⟩) ?_
  rintro ⟨out, rest, pos⟩ hq
  change out ++ rns rest = rns l at hq
  have hol : out.length ≤ l.length := by
    have := congrArg List.length hq
    rw [List.length_append] at this; omega
  refine BrL.mk (fun (he : rest = []) => ?_) (fun (hne : rest ≠ []) => ?_)
  · refine Br.f rfl ?_
    rw [he, rns_nil, List.append_nil] at hq
    have e : ((intsR out).drop 0).take (intsR out).length = intsR out := by rw [List.drop_zero, List.take_length]
    rw [← hq, ← e] at h
    exact Ob.mk rfl h
  · refine Br.t rfl ?_
    have hd : (rest.drop (decode rest).2).length < rest.length := by
      have h3 := decode_pos rest
      have h4 : 0 < rest.length := List.length_pos_iff.2 hne
      simp; omega
    rw [rns_step hne] at hq
    refine Ob.mk ⟨rfl, rfl, rfl, ?_⟩ ?_
    · show ((intsR out).length + 1) * Try.prog.types[21].bytes ≤ 140737488355328
      rw [by21, intsR_len]; omega
    refine ⟨(out ++ [((decode rest).1 : Int)], rest.drop (decode rest).2, pos + (decode rest).2), ?_, hd, (show (1 : Nat) ≤ 2 by decide), Trim.mk' ?_ ?_ rfl rfl (show (2 : Nat) ≤ 2 by decide)⟩
    · dsimp only; rw [← hq, List.append_assoc]; rfl
    · show [_, _] = [_, _]
      rw [intsR_app]; rfl
    · show _ = [_, _]
      rw [intsR_app]; rfl

theorem less2_c (x y : List UInt8) (hx : x.length < 1099511627776) (hy : y.length < 1099511627776) (s : Store) (K : AV → Store → Prop) (h : K (.p (.bool (lessR x y))) s) : Cal Try.prog 89 [.p (.str x), .p (.str y)] s K := by
  refine Cal.pure (args := [.str x, .str y]) ?_
  refine Cal.intro Try.func89 (by decide +kernel) rfl rfl ?_
  have hx1 := rns_le x
  have hy1 := rns_le y
  refine runes_c x hx _ _ ?_
  refine runes_c y hy _ _ ?_
  unfold lessR at h
  obtain ⟨a, hA⟩ : ∃ a, a = rns x := ⟨_, rfl⟩
  obtain ⟨b, hB⟩ : ∃ b, b = rns y := ⟨_, rfl⟩
  rw [← hA] at hx1 h ⊢
  rw [← hB] at hy1 h ⊢
  have la := intsR_len a
  have lb := intsR_len b
  refine LoopX.fam [4, 5, 6, 7] (fun (j : Nat) => ([(4, .p (.bool false)), (5, .p (.sl .shr 1 (intsR a))), (6, .p (.sl .shr 1 (intsR b))), (7, .p (ii j))], []))
    (fun j => j ≤ a.length ∧ j ≤ b.length ∧ cmpR (a.drop j) (b.drop j) = cmpR a b) (fun j => a.length - j) 0 ⟨Nat.zero_le _, Nat.zero_le _, rfl⟩ (Trim.mk' rfl rfl rfl rfl (Nat.le_refl _)) ?_
  rintro j ⟨hj, hjb, hq⟩
  have fin : j = a.length ∨ j = b.length → K (.p (.bool (decide (((intsR a).length : Int) < ((intsR b).length : Int))))) s := by
    intro hjj
    have e : decide (cmpR a b < 0) = decide (((intsR a).length : Int) < ((intsR b).length : Int)) := by
      rw [la, lb, ← hq]
      by_cases hc : a.length ≤ j
      · rw [cmpR_nil hc]
        by_cases hd : j < b.length
        · rw [if_pos hd]; exact decide_eq_decide.2 (by omega)
        · rw [if_neg hd]; exact decide_eq_decide.2 (by omega)
      · rw [cmpR_long (by omega) (by omega)]; exact decide_eq_decide.2 (by omega)
    rw [e] at h; exact h
  by_cases hc : j < a.length
  · have c1 : decide ((j : Int) < ((intsR a).length : Int)) = true := by rw [la]; simpa using hc
    by_cases hd : j < b.length
    · have c2 : decide ((j : Int) < ((intsR b).length : Int)) = true := by rw [lb]; simpa using hd
      repeat (first | refine Br.t c1 ?_ | refine Br.t (congrArg (· == true) c1) ?_ | refine Br.t c2 ?_)
      have gA : (intsR a)[((j : Int)).toNat]? = some (.int .i32 a[j]) := by rw [Int.toNat_natCast]; exact intsR_get hc
      have gB : (intsR b)[((j : Int)).toNat]? = some (.int .i32 b[j]) := by rw [Int.toNat_natCast]; exact intsR_get hd
      rw [cmpR_drop hc hd] at hq
      repeat (first
        | refine ⟨_, ⟨rfl, rfl⟩, ?_⟩
        | refine ⟨_, Idx.mk _ (Int.natCast_nonneg j) gA ⟨rfl, rfl⟩, ?_⟩
        | refine ⟨_, Idx.mk _ (Int.natCast_nonneg j) gB ⟨rfl, rfl⟩, ?_⟩)
      refine Chk.mk (by kernel_rfl) ?_
      refine Br.mk (fun he => ?_) (fun he => ?_)
      · have he : a[j] ≠ b[j] := by simpa using he
        repeat (first
          | refine ⟨_, ⟨rfl, rfl⟩, ?_⟩
          | refine ⟨_, Idx.mk _ (Int.natCast_nonneg j) gA ⟨rfl, rfl⟩, ?_⟩
          | refine ⟨_, Idx.mk _ (Int.natCast_nonneg j) gB ⟨rfl, rfl⟩, ?_⟩)
        refine Chk.mk (by kernel_rfl) ?_
        have e : decide (cmpR a b < 0) = decide (a[j] < b[j]) := by
          have h1 : cmp1 a[j] b[j] ≠ 0 := by unfold cmp1; split <;> (try split) <;> omega
          rw [← hq, if_pos h1]
          unfold cmp1
          by_cases h2 : a[j] < b[j]
          · rw [if_pos h2]; simpa using h2
          · rw [if_neg h2, if_pos (by omega)]; exact decide_eq_decide.2 (by omega)
        rw [e] at h
        exact h
      · have he : a[j] = b[j] := by simpa using he
        have h1 : ¬ cmp1 a[j] b[j] ≠ 0 := by rw [he]; unfold cmp1; simp
        rw [if_neg h1] at hq
        have ej : IntKind.i64.wrap ((j : Int) + 1) = ((j + 1 : Nat) : Int) := by rw [wrap_i64] <;> omega
        refine ⟨j + 1, ⟨hc, hd, hq⟩, by omega, Nat.le_refl _, Trim.mk' ?_ rfl rfl rfl (Nat.le_refl _)⟩
        refine Eq.trans (b := [_, _, _, (7, AV.p (ii (IntKind.i64.wrap ((j : Int) + 1))))]) rfl ?_
        rw [ej]; rfl
    · have c2 : decide ((j : Int) < ((intsR b).length : Int)) = false := by rw [lb]; simpa using hd
      repeat (first | refine Br.t c1 ?_ | refine Br.t (congrArg (· == true) c1) ?_ | refine Br.f c2 ?_)
      exact fin (.inr (by omega))
  · have c1 : decide ((j : Int) < ((intsR a).length : Int)) = false := by rw [la]; simpa using hc
    repeat (first | refine Br.f c1 ?_ | refine Br.f (congrArg (· == true) c1) ?_ | refine Br.f rfl ?_)
    exact fin (.inl (by omega))
end Go.Proofs.Ytneheklmkbhieaa.AW
