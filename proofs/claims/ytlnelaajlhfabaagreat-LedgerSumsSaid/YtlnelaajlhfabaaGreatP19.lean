/- A part of the proof: LG/G46, LG/B10, LG/S2, LG/S3, LG/G47, LG/G48, LG/G49. -/
import Derived.Test.YtlnelaajlhfabaaGreatP16
import Derived.Test.YtlnelaajlhfabaaGreatP18
import Derived.Test.YtlnelaajlhfabaaGreatP14
import Derived.Test.YtlnelaajlhfabaaGreatProg
open Go Go.Proofs.YtlnelaajlhfabaaGreat.AW Go.Proofs
namespace Go.Proofs.YtlnelaajlhfabaaGreat.AW
set_option maxRecDepth 100000
set_option linter.unusedSimpArgs false
set_option linter.unusedVariables false

/-! ### Runes, in order -/
theorem nan_c (x : Int) (s : Store) (K : AV → Store → Prop) (h : K (.p (.bool false)) s) : Cal Tryz.prog 205 [.p (.int .i32 x)] s K := by
  refine Cal.pure (args := [.int .i32 x]) ?_
  refine Cal.intro Tryz.func205 (by decide +kernel) rfl rfl ?_
  have e : bne x x = false := by simp
  rw [← e] at h
  exact h
theorem cmp_c (x y : Int) (s : Store) (K : AV → Store → Prop) (h : K (.p (ii (cmp1 x y))) s) : Cal Tryz.prog 145 [.p (.int .i32 x), .p (.int .i32 y)] s K := by
  refine Cal.pure (args := [.int .i32 x, .int .i32 y]) ?_
  refine Cal.intro Tryz.func145 (by decide +kernel) rfl rfl ?_
  refine nan_c x _ _ ?_
  refine nan_c y _ _ ?_
  refine Br.f rfl ?_
  refine Br.f rfl ?_
  unfold cmp1 at h
  refine Br.mk (fun hc => ?_) (fun hc => ?_)
  · have hc : x < y := by simpa using hc
    rw [if_pos hc] at h; exact h
  · have hc : ¬ x < y := by simpa using hc
    rw [if_neg hc] at h
    refine Br.mk (fun hd => ?_) (fun hd => ?_)
    · have hd : y < x := by simpa using hd
      rw [if_pos hd] at h; exact h
    · have hd : ¬ y < x := by simpa using hd
      rw [if_neg hd] at h; exact h
theorem compare_c (a b : List Int) (ha : a.length < 9223372036854775807) (hb : b.length < 9223372036854775807) (s : Store) (K : AV → Store → Prop) (h : K (.p (ii (cmpR a b))) s) : Cal Tryz.prog 93 [.p (.sl .shr 1 (intsR a)), .p (.sl .shr 1 (intsR b))] s K := by
  refine Cal.pure (args := [.sl .shr 1 (intsR a), .sl .shr 1 (intsR b)]) ?_
  refine Cal.intro Tryz.func93 (by decide +kernel) rfl rfl ?_
  have la := intsR_len a
  have lb := intsR_len b
  refine LoopX.fam [0, 1, 9, 10, 11] (fun (j : Nat) => ([(0, .p (.sl .shr 1 (intsR a))), (1, .p (.sl .shr 1 (intsR b))), (9, .p (.sl .shr 1 (intsR a))), (10, .p (ii (intsR a).length)), (11, .p (ii j))], []))
    (fun j => j ≤ a.length ∧ j ≤ b.length ∧ cmpR (a.drop j) (b.drop j) = cmpR a b) (fun j => a.length - j) 0 ⟨Nat.zero_le _, Nat.zero_le _, rfl⟩ (Trim.mk' rfl rfl rfl rfl (Nat.le_refl _)) ?_
  rintro j ⟨hj, hjb, hq⟩
  refine Br.mk (fun hc => ?_) (fun hc => ?_)
  · have hc : j < a.length := by rw [la] at hc; simpa using hc
    refine Idx.mk (.int .i32 a[j]) (by omega) (by rw [Int.toNat_natCast]; exact intsR_get hc) ?_
    refine Br.mk (fun hd => ?_) (fun hd => ?_)
    · have hd : b.length ≤ j := by rw [lb] at hd; simp at hd; omega
      rw [← hq, cmpR_long hc hd] at h
      exact h
    · have hd : j < b.length := by rw [lb] at hd; simp at hd; omega
      refine Idx.mk (.int .i32 b[j]) (by omega) (by rw [Int.toNat_natCast]; exact intsR_get hd) ?_
      refine cmp_c a[j] b[j] _ _ ?_
      rw [cmpR_drop hc hd] at hq
      refine Br.mk (fun he => ?_) (fun he => ?_)
      · have he : cmp1 a[j] b[j] ≠ 0 := by simpa using he
        rw [if_pos he] at hq
        rw [← hq] at h
        exact h
      · have he : ¬ cmp1 a[j] b[j] ≠ 0 := by simpa using he
        rw [if_neg he] at hq
        have ej : IntKind.i64.wrap ((j : Int) + 1) = ((j + 1 : Nat) : Int) := by rw [wrap_i64] <;> omega
        refine ⟨j + 1, ⟨hc, hd, hq⟩, by omega, Nat.le_refl _, Trim.mk' ?_ rfl rfl rfl (Nat.le_refl _)⟩
        refine Eq.trans (b := [_, _, _, _, (11, AV.p (ii (IntKind.i64.wrap ((j : Int) + 1))))]) rfl ?_
        rw [ej]; rfl
  · have hc : a.length ≤ j := by rw [la] at hc; simp at hc; omega
    rw [cmpR_nil hc] at hq
    refine Br.mk (fun hd => ?_) (fun hd => ?_)
    · have hd : a.length < b.length := by rw [la, lb] at hd; simpa using hd
      rw [if_pos (by omega)] at hq
      rw [← hq] at h; exact h
    · have hd : ¬ a.length < b.length := by rw [la, lb] at hd; simpa using hd
      rw [if_neg (by omega)] at hq
      rw [← hq] at h; exact h
theorem runes_c (l : List UInt8) (hl : l.length < 1099511627776) (s : Store) (K : AV → Store → Prop) (h : K (.p (.sl .shr 1 (intsR (rns l)))) s) : Cal Tryz.prog 186 [.p (.str l)] s K := by
  refine Cal.pure (args := [.str l]) ?_
  refine Cal.intro Tryz.func186 (by decide +kernel) rfl rfl ?_
  have hle := rns_le l
  refine LoopX.famW [3, 7] (fun (q : List Int × List UInt8 × Nat) => ([(3, .osl 1 (intsR q.1).length 0 (intsR q.1).length), (7, .it 0)], [some (.iterS q.2.1 q.2.2), some (.buf 1 (intsR q.1))]))
    (fun q => q.1 ++ rns q.2.1 = rns l) (fun q => q.2.1.length) ([], l, 0) rfl (by show 1 ≤ 2; decide) (Trim.wk 1 [(1, none)] rfl (by show 1 ≤ 1; decide) (.inr rfl) rfl rfl rfl rfl rfl ⟨.own 1 rfl rfl, .inl rfl, trivial⟩) ?_
  rintro ⟨out, rest, pos⟩ hq
  change out ++ rns rest = rns l at hq
  have hol : out.length ≤ l.length := by
    have := congrArg List.length hq
    rw [List.length_append] at this; omega
  refine BrL.mk (fun (he : rest = []) => ?_) (fun (hne : rest ≠ []) => ?_)
  · refine Br.f rfl ?_
    rw [he, rns_nil, List.append_nil] at hq
    have e : ((intsR out).drop 0).take (intsR out).length = intsR out := by rw [List.drop_zero, List.take_length]
    rw [← hq, ← e] at h
    exact Ob.mk rfl h
  · refine Br.t rfl ?_
    have hd : (rest.drop (decode rest).2).length < rest.length := by
      have h3 := decode_pos rest
      have h4 : 0 < rest.length := List.length_pos_iff.2 hne
      simp; omega
    rw [rns_step hne] at hq
    refine Ob.mk ⟨rfl, rfl, rfl, ?_⟩ ?_
    · show ((intsR out).length + 1) * 4 ≤ 140737488355328
      rw [intsR_len]; omega
    refine ⟨(out ++ [((decode rest).1 : Int)], rest.drop (decode rest).2, pos + (decode rest).2), ?_, hd, (show (1 : Nat) ≤ 2 by decide), Trim.mk' ?_ ?_ rfl rfl (show (2 : Nat) ≤ 2 by decide)⟩
    · dsimp only; rw [← hq, List.append_assoc]; rfl
    · show [_, _] = [_, _]
      rw [intsR_app]; rfl
    · show _ = [_, _]
      rw [intsR_app]; rfl
theorem less2_c (x y : List UInt8) (hx : x.length < 1099511627776) (hy : y.length < 1099511627776) (s : Store) (K : AV → Store → Prop) (h : K (.p (.bool (lessR x y))) s) : Cal Tryz.prog 141 [.p (.str x), .p (.str y)] s K := by
  refine Cal.pure (args := [.str x, .str y]) ?_
  refine Cal.intro Tryz.func141 (by decide +kernel) rfl rfl ?_
  have hx1 := rns_le x
  have hy1 := rns_le y
  refine runes_c x hx _ _ ?_
  refine runes_c y hy _ _ ?_
  unfold lessR at h
  obtain ⟨a, hA⟩ : ∃ a, a = rns x := ⟨_, rfl⟩
  obtain ⟨b, hB⟩ : ∃ b, b = rns y := ⟨_, rfl⟩
  rw [← hA] at hx1 h ⊢
  rw [← hB] at hy1 h ⊢
  have la := intsR_len a
  have lb := intsR_len b
  refine LoopX.fam [4, 5, 6, 7] (fun (j : Nat) => ([(4, .p (.bool false)), (5, .p (.sl .shr 1 (intsR a))), (6, .p (.sl .shr 1 (intsR b))), (7, .p (ii j))], []))
    (fun j => j ≤ a.length ∧ j ≤ b.length ∧ cmpR (a.drop j) (b.drop j) = cmpR a b) (fun j => a.length - j) 0 ⟨Nat.zero_le _, Nat.zero_le _, rfl⟩ (Trim.mk' rfl rfl rfl rfl (Nat.le_refl _)) ?_
  rintro j ⟨hj, hjb, hq⟩
  have fin : j = a.length ∨ j = b.length → K (.p (.bool (decide (((intsR a).length : Int) < ((intsR b).length : Int))))) s := by
    intro hjj
    have e : decide (cmpR a b < 0) = decide (((intsR a).length : Int) < ((intsR b).length : Int)) := by
      rw [la, lb, ← hq]
      by_cases hc : a.length ≤ j
      · rw [cmpR_nil hc]
        by_cases hd : j < b.length
        · rw [if_pos hd]; exact decide_eq_decide.2 (by omega)
        · rw [if_neg hd]; exact decide_eq_decide.2 (by omega)
      · rw [cmpR_long (by omega) (by omega)]; exact decide_eq_decide.2 (by omega)
    rw [e] at h; exact h
  by_cases hc : j < a.length
  · have c1 : decide ((j : Int) < ((intsR a).length : Int)) = true := by rw [la]; simpa using hc
    by_cases hd : j < b.length
    · have c2 : decide ((j : Int) < ((intsR b).length : Int)) = true := by rw [lb]; simpa using hd
      repeat (first | refine Br.t c1 ?_ | refine Br.t (congrArg (· == true) c1) ?_ | refine Br.t c2 ?_)
      have gA : (intsR a)[((j : Int)).toNat]? = some (.int .i32 a[j]) := by rw [Int.toNat_natCast]; exact intsR_get hc
      have gB : (intsR b)[((j : Int)).toNat]? = some (.int .i32 b[j]) := by rw [Int.toNat_natCast]; exact intsR_get hd
      rw [cmpR_drop hc hd] at hq
      repeat (first
        | refine ⟨_, ⟨rfl, rfl⟩, ?_⟩
        | refine ⟨_, Idx.mk _ (Int.natCast_nonneg j) gA ⟨rfl, rfl⟩, ?_⟩
        | refine ⟨_, Idx.mk _ (Int.natCast_nonneg j) gB ⟨rfl, rfl⟩, ?_⟩)
      refine Chk.mk (by kernel_rfl) ?_
      refine Br.mk (fun he => ?_) (fun he => ?_)
      · have he : a[j] ≠ b[j] := by simpa using he
        repeat (first
          | refine ⟨_, ⟨rfl, rfl⟩, ?_⟩
          | refine ⟨_, Idx.mk _ (Int.natCast_nonneg j) gA ⟨rfl, rfl⟩, ?_⟩
          | refine ⟨_, Idx.mk _ (Int.natCast_nonneg j) gB ⟨rfl, rfl⟩, ?_⟩)
        refine Chk.mk (by kernel_rfl) ?_
        have e : decide (cmpR a b < 0) = decide (a[j] < b[j]) := by
          have h1 : cmp1 a[j] b[j] ≠ 0 := by unfold cmp1; split <;> (try split) <;> omega
          rw [← hq, if_pos h1]
          unfold cmp1
          by_cases h2 : a[j] < b[j]
          · rw [if_pos h2]; simpa using h2
          · rw [if_neg h2, if_pos (by omega)]; exact decide_eq_decide.2 (by omega)
        rw [e] at h
        exact h
      · have he : a[j] = b[j] := by simpa using he
        have h1 : ¬ cmp1 a[j] b[j] ≠ 0 := by rw [he]; unfold cmp1; simp
        rw [if_neg h1] at hq
        have ej : IntKind.i64.wrap ((j : Int) + 1) = ((j + 1 : Nat) : Int) := by rw [wrap_i64] <;> omega
        refine ⟨j + 1, ⟨hc, hd, hq⟩, by omega, Nat.le_refl _, Trim.mk' ?_ rfl rfl rfl (Nat.le_refl _)⟩
        refine Eq.trans (b := [_, _, _, (7, AV.p (ii (IntKind.i64.wrap ((j : Int) + 1))))]) rfl ?_
        rw [ej]; rfl
    · have c2 : decide ((j : Int) < ((intsR b).length : Int)) = false := by rw [lb]; simpa using hd
      repeat (first | refine Br.t c1 ?_ | refine Br.t (congrArg (· == true) c1) ?_ | refine Br.f c2 ?_)
      exact fin (.inr (by omega))
  · have c1 : decide ((j : Int) < ((intsR a).length : Int)) = false := by rw [la]; simpa using hc
    repeat (first | refine Br.f c1 ?_ | refine Br.f (congrArg (· == true) c1) ?_ | refine Br.f rfl ?_)
    exact fin (.inl (by omega))
theorem upper2_c (l : List UInt8) (hl : l.length < 1099511627776) (s : Store) (K : AV → Store → Prop) (h : K (.p (.str (upper l))) s) : Cal Tryz.prog 30 [.p (.str l)] s K := by
  refine Cal.pure (args := [.str l]) ?_
  refine Cal.intro Tryz.func30 (by decide +kernel) rfl rfl ?_
  refine LoopX.fam [2, 3, 7] (fun (q : List Int × List UInt8 × Nat) => ([(2, .p (.str [])), (3, .p (.str (encs q.1))), (7, .it 0)], [some (.iterS q.2.1 q.2.2)]))
    (fun q => q.1 ++ (rns q.2.1).map up = (rns l).map up) (fun q => q.2.1.length) ([], l, 0) (by simp) (Trim.mk' rfl rfl rfl rfl (by simp)) ?_
  rintro ⟨d, rest, pos⟩ hq
  have hq : d ++ (rns rest).map up = (rns l).map up := hq
  have hdl : d.length ≤ l.length := by
    have h1 := congrArg List.length hq
    have h2 := rns_le l
    simp at h1; omega
  have hel := encs_len d
  refine BrL.mk (fun (he : rest = []) => ?_) (fun (hne : rest ≠ []) => ?_)
  · refine Br.f rfl ?_
    show K (.p (.str (encs d))) s
    subst he
    have : d = (rns l).map up := by simpa [rns_nil] using hq
    rw [this]; exact h
  · refine Br.t rfl ?_
    have h1 := rns_step hne
    have h3 := decode_pos rest
    have h4 : 0 < rest.length := List.length_pos_iff.2 hne
    have next : ∀ x : Int, x = up (decode rest).1 → (d ++ [x]) ++ (rns (rest.drop (decode rest).2)).map up = (rns l).map up := fun x hx => by
      rw [← hq, h1, hx]; simp
    refine (Int.lt_or_le ((decode rest).1 : Int) 97).elim
      (fun h5 => have hx : ((decode rest).1 : Int) = up (decode rest).1 := (up_le (by omega)).symm
        Br.f (by simp; omega) (Br.f (by simp; omega) (Br.f (by simp; omega) (Br.f rfl ?_))))
      (fun h5 => Br.t (by simp; omega) (Br.t (by simp; omega) (Br.t (by simp; omega) (Br.mk
        (fun h6 => have hx := up_gt2 (r := (decode rest).1) ⟨h5, by simpa using h6⟩; ?_)
        (fun h6 => have hx : ((decode rest).1 : Int) = up (decode rest).1 := up_b h6; ?_)))))
    all_goals
      refine Ob.mk (Nat.lt_of_le_of_lt (Nat.add_le_add_left (encode_len _) _) (show (encs d).length + 4 < _ by omega)) ?_
      refine ⟨(d ++ [_], rest.drop (decode rest).2, pos + (decode rest).2), next _ hx, ?_, by simp, Trim.mk' ?_ rfl rfl rfl (by simp)⟩
      · show (rest.drop (decode rest).2).length < rest.length
        simp; omega
      · simp only [encs_snoc]; rfl
end Go.Proofs.YtlnelaajlhfabaaGreat.AW

open Go Go.Proofs.YtlnelaajlhfabaaGreat.AW Go.Proofs
namespace Go.Proofs.YtlnelaajlhfabaaGreat.AW
set_option linter.unusedSimpArgs false
set_option linter.unusedVariables false

/-! ### All keys, by name -/
def cmpTx (a b : Tx) : Int := if Op.bytesLess a b = true then -1 else if (!(Op.bytesLess a b || a == b)) = true then 1 else 0
def cmpK (a b : Tx) : Int := if cmpR (rns a) (rns b) ≠ 0 then cmpR (rns a) (rns b) else if cmpTx a b ≠ 0 then cmpTx a b else 0
/-- No two of them have the same runes. -/
def GoodK (S : List Tx) : Prop := ∀ a, a ∈ S → ∀ b, b ∈ S → rns a = rns b → a = b
theorem bytesLess_self : ∀ a : Tx, Op.bytesLess a a = false
  | [] => rfl
  | x :: a => by unfold Op.bytesLess; simp [bytesLess_self a]
theorem cmpTx_self (a : Tx) : cmpTx a a = 0 := by unfold cmpTx; rw [bytesLess_self]; simp
theorem cmpK_lt {S : List Tx} (hg : GoodK S) {a b : Tx} (ha : a ∈ S) (hb : b ∈ S) : cmpK a b < 0 ↔ lessR a b = true := by
  rw [less_iff]
  unfold cmpK
  by_cases h : cmpR (rns a) (rns b) = 0
  · rw [if_neg (by simpa using h)]
    have hab : a = b := by
      rcases cmpR_tot (rns a) (rns b) with q | q | q
      · omega
      · exact hg a ha b hb q
      · exact hg a ha b hb (by
          rcases cmpR_tot (rns a) (rns b) with q2 | q2 | q2
          · omega
          · exact q2
          · exfalso
            have : ∀ x y : List Int, cmpR x y = 0 → x = y := fun x => by
              induction x with
              | nil => intro y hy; cases y with | nil => rfl | cons => exact absurd hy (by show (-1 : Int) ≠ 0; decide)
              | cons u x ih =>
                intro y hy
                cases y with
                | nil => exact absurd hy (by show (1 : Int) ≠ 0; decide)
                | cons v y =>
                  rw [cmpR] at hy
                  by_cases hc : cmp1 u v ≠ 0
                  · rw [if_pos hc] at hy; exact absurd hy hc
                  · rw [if_neg hc] at hy
                    have huv : u = v := by unfold cmp1 at hc; (repeat' split at hc) <;> omega
                    rw [huv, ih y hy]
            have e := this _ _ h
            rw [e, cmpR_self] at q2; omega)
    subst hab
    rw [cmpTx_self, cmpR_self]; simp
  · rw [if_pos h]
def kPos (out : List Tx) (k : Tx) : Nat → Nat
  | 0 => 0
  | n + 1 => if lessR k (out.getD n []) = true then kPos out k n else n + 1
theorem kPos_le (out : List Tx) (k : Tx) : ∀ n, kPos out k n ≤ n
  | 0 => Nat.le_refl _
  | n + 1 => by unfold kPos; have := kPos_le out k n; split <;> omega
def keyI (out : List Tx) (k : Tx) : List Tx := if out.any (· == k) = true then out else out.take (kPos out k out.length) ++ k :: out.drop (kPos out k out.length)
def keysL (gs : List Gt) : List Tx := gs.foldl (fun o g => keyI o g.key) []
theorem keysL_snoc (gs : List Gt) (g : Gt) : keysL (gs ++ [g]) = keyI (keysL gs) g.key := by unfold keysL; rw [List.foldl_append]; rfl
theorem kPos_after (out : List Tx) (k : Tx) : ∀ n, n ≤ out.length → ∀ i, kPos out k n ≤ i → (hi : i < n) → lessR k (out.getD i []) = true
  | 0, _, i, _, hi => by omega
  | n + 1, hn, i, h, hi => by
    unfold kPos at h
    split at h
    · rename_i hl
      by_cases hin : i = n
      · rw [hin]; exact hl
      · exact kPos_after out k n (by omega) i h (by omega)
    · omega
theorem kPos_at (out : List Tx) (k : Tx) : ∀ n p, kPos out k n = p + 1 → lessR k (out.getD p []) ≠ true
  | 0, p, h => by cases h
  | n + 1, p, h => by
    unfold kPos at h
    split at h
    · exact kPos_at out k n p h
    · rename_i hl
      have : n = p := by omega
      rw [← this]; exact hl
theorem keyI_mem {out : List Tx} {k x : Tx} : x ∈ keyI out k ↔ x ∈ out ∨ x = k := by
  unfold keyI
  split
  · rename_i h
    obtain ⟨y, hy, hyk⟩ := List.any_eq_true.1 h
    have : k ∈ out := by rw [← eq_of_beq hyk]; exact hy
    exact ⟨.inl, fun q => q.elim id fun e => e ▸ this⟩
  · constructor
    · intro h
      rcases List.mem_append.1 h with h | h
      · exact .inl (List.mem_of_mem_take h)
      · rcases List.mem_cons.1 h with h | h
        · exact .inr h
        · exact .inl (List.mem_of_mem_drop h)
    · rintro (h | h)
      · rw [← List.take_append_drop (kPos out k out.length) out] at h
        rcases List.mem_append.1 h with h | h
        · exact List.mem_append_left _ h
        · exact List.mem_append_right _ (List.mem_cons_of_mem _ h)
      · rw [h]; exact List.mem_append_right _ (List.mem_cons_self ..)
def SortedK (l : List Tx) : Prop := l.Pairwise fun a b => lessR a b = true
theorem lessR_tot {S : List Tx} (hg : GoodK S) {a b : Tx} (ha : a ∈ S) (hb : b ∈ S) (hne : a ≠ b) (h : lessR a b ≠ true) : lessR b a = true := by
  rw [less_iff]
  rcases cmpR_tot (rns a) (rns b) with q | q | q
  · exact absurd (less_iff.2 q) h
  · exact absurd (hg a ha b hb q) hne
  · exact q
theorem SortedK.ins {S out : List Tx} {k : Tx} (hg : GoodK S) (hk : k ∈ S) (ho : ∀ x, x ∈ out → x ∈ S) (h : SortedK out) : SortedK (keyI out k) := by
  unfold keyI
  split
  · exact h
  · rename_i hno
    have hnk : k ∉ out := fun hm => hno (List.any_eq_true.2 ⟨k, hm, by simp⟩)
    have hp := kPos_le out k out.length
    have hd : ∀ x, x ∈ out.drop (kPos out k out.length) → lessR k x = true := fun x hx => by
      obtain ⟨i, hi, rfl⟩ := List.mem_iff_getElem.1 hx
      rw [List.getElem_drop]
      rw [List.length_drop] at hi
      have := kPos_after out k out.length (Nat.le_refl _) (kPos out k out.length + i) (by omega) (by omega)
      rwa [List.getD_eq_getElem?_getD, List.getElem?_eq_getElem (by omega)] at this
    have ht : ∀ x, x ∈ out.take (kPos out k out.length) → lessR x k = true := fun x hx => by
      obtain ⟨i, hi, rfl⟩ := List.mem_iff_getElem.1 hx
      rw [List.getElem_take]
      rw [List.length_take] at hi
      obtain ⟨p, hpe⟩ : ∃ p, kPos out k out.length = p + 1 := ⟨kPos out k out.length - 1, by omega⟩
      have hnl := kPos_at out k out.length p hpe
      rw [List.getD_eq_getElem?_getD, List.getElem?_eq_getElem (by omega)] at hnl
      have hpm : out[p]'(by omega) ∈ out := List.getElem_mem _
      have hlast : lessR (out[p]'(by omega)) k = true := lessR_tot hg hk (ho _ hpm) (fun e => hnk (e ▸ hpm)) (by simpa using hnl)
      by_cases hip : i = p
      · subst hip; exact hlast
      · exact less_trans (List.pairwise_iff_getElem.1 h i p (by omega) (by omega) (by omega)) hlast
    refine List.pairwise_append.2 ⟨h.sublist (List.take_sublist ..), List.pairwise_cons.2 ⟨hd, h.sublist (List.drop_sublist ..)⟩, fun a ha b hb => ?_⟩
    rcases List.mem_cons.1 hb with rfl | hb
    · exact ht a ha
    · exact less_trans (ht a ha) (hd b hb)
theorem keysL_inv {S : List Tx} (hg : GoodK S) : ∀ gs : List Gt, (∀ g, g ∈ gs → g.key ∈ S) → SortedK (keysL gs) ∧ ∀ x, x ∈ keysL gs ↔ ∃ g, g ∈ gs ∧ g.key = x := by
  intro gs
  rw [← List.reverse_reverse gs]
  induction gs.reverse with
  | nil => exact fun _ => ⟨.nil, fun x => ⟨fun h => (by cases h), fun ⟨g, h, _⟩ => (by cases h)⟩⟩
  | cons g r ih =>
    rw [List.reverse_cons]
    intro h
    obtain ⟨h1, h2⟩ := ih fun y hy => h y (List.mem_append_left _ hy)
    rw [keysL_snoc]
    refine ⟨h1.ins hg (h g (by simp)) (fun x hx => ?_), fun x => ?_⟩
    · obtain ⟨y, hy, rfl⟩ := (h2 x).1 hx
      exact h y (List.mem_append_left _ hy)
    · rw [keyI_mem, h2]
      constructor
      · rintro (⟨y, hy, rfl⟩ | rfl)
        · exact ⟨y, List.mem_append_left _ hy, rfl⟩
        · exact ⟨g, by simp, rfl⟩
      · rintro ⟨y, hy, rfl⟩
        rcases List.mem_append.1 hy with hy | hy
        · exact .inl ⟨y, hy, rfl⟩
        · rw [List.mem_singleton.1 hy]; exact .inr rfl
theorem keysL_len : ∀ gs : List Gt, (keysL gs).length ≤ gs.length := by
  intro gs
  rw [← List.reverse_reverse gs]
  induction gs.reverse with
  | nil => exact Nat.le_refl _
  | cons g r ih =>
    rw [List.reverse_cons, keysL_snoc, List.length_append]
    unfold keyI
    split
    · omega
    · have := kPos_le (keysL r.reverse) g.key (keysL r.reverse).length
      rw [List.length_append, List.length_cons, List.length_take, List.length_drop]
      show _ ≤ _ + 1
      omega
/-- What the code has: each key once. -/
def keyN (gs : List Gt) : List (SE Bool) × Nat := gs.foldl (fun q g => (aPut q.1 q.2 g.key true, aCl q.1 q.2 g.key)) ([], 0)
theorem keyN_snoc (gs : List Gt) (g : Gt) : keyN (gs ++ [g]) = (aPut (keyN gs).1 (keyN gs).2 g.key true, aCl (keyN gs).1 (keyN gs).2 g.key) := by unfold keyN; rw [List.foldl_append]; rfl
theorem keyN_inv : ∀ gs : List Gt, AInv (keyN gs).1 (keyN gs).2 ∧ (keyN gs).1.length ≤ gs.length ∧ ∀ k, (aGet (keyN gs).1 k).isSome = true ↔ ∃ g, g ∈ gs ∧ g.key = k := by
  intro gs
  rw [← List.reverse_reverse gs]
  induction gs.reverse with
  | nil => exact ⟨.nil, Nat.le_refl _, fun x => ⟨fun h => (by cases h), fun ⟨g, h, _⟩ => (by cases h)⟩⟩
  | cons g r ih =>
    obtain ⟨h1, h2, h3⟩ := ih
    rw [List.reverse_cons, keyN_snoc]
    refine ⟨h1.put _ _, ?_, fun k => ?_⟩
    · have := aPut_len (keyN r.reverse).1 (keyN r.reverse).2 g.key true
      rw [List.length_append]; show _ ≤ _ + 1; show (aPut _ _ _ _).length ≤ _; omega
    · show (aGet (aPut _ _ _ _) k).isSome = true ↔ _
      rw [aGet_aPut]
      by_cases hk : k = g.key
      · rw [if_pos hk]
        exact ⟨fun _ => ⟨g, by simp, hk.symm⟩, fun _ => rfl⟩
      · rw [if_neg hk, h3]
        constructor
        · rintro ⟨y, hy, rfl⟩; exact ⟨y, List.mem_append_left _ hy, rfl⟩
        · rintro ⟨y, hy, rfl⟩
          rcases List.mem_append.1 hy with hy | hy
          · exact ⟨y, hy, rfl⟩
          · rw [List.mem_singleton.1 hy] at hk; exact absurd rfl hk
theorem keys_same {gs : List Gt} (hg : GoodK (gs.map Gt.key)) {ks : List Tx} (hp : ks.Perm ((keyN gs).1.map fun q => q.2.1)) (hs : ks.Pairwise fun a b => ¬ cmpK b a < 0) : ks = keysL gs := by
  obtain ⟨h1, h2, h3⟩ := keyN_inv gs
  obtain ⟨k1, k2⟩ := keysL_inv hg gs fun g hm => List.mem_map_of_mem hm
  have hmem : ∀ x, x ∈ ks ↔ ∃ g, g ∈ gs ∧ g.key = x := fun x => by
    rw [hp.mem_iff, ← h3]
    constructor
    · intro h
      obtain ⟨q, hq, rfl⟩ := List.mem_map.1 h
      rw [aGet_of h1.keys hq]; rfl
    · intro h
      obtain ⟨v, hv⟩ := Option.isSome_iff_exists.1 h
      obtain ⟨t, ht⟩ := aGet_ex hv
      exact List.mem_map.2 ⟨_, ht, rfl⟩
  have hS : ∀ x, x ∈ ks → x ∈ gs.map Gt.key := fun x hx => by
    obtain ⟨g, hm, rfl⟩ := (hmem x).1 hx
    exact List.mem_map_of_mem hm
  have hnd : ks.Nodup := hp.nodup_iff.2 h1.keys
  have hst : SortedK ks := by
    unfold SortedK
    refine List.Pairwise.imp_of_mem (R := fun a b => ¬ cmpK b a < 0 ∧ a ≠ b) (fun {a b} ha hb h => ?_) ((List.pairwise_and_iff).2 ⟨hs, hnd⟩)
    refine lessR_tot hg (hS b hb) (hS a ha) (fun e => h.2 e.symm) fun q => h.1 ((cmpK_lt hg (hS b hb) (hS a ha)).2 q)
  exact strict_eq (r := fun a b : Tx => lessR a b = true) (fun a => less_self a) (fun a b c => less_trans) hst k1 fun x => by rw [hmem, k2]
end Go.Proofs.YtlnelaajlhfabaaGreat.AW

open Go Go.Proofs.YtlnelaajlhfabaaGreat.AW Go.Proofs
namespace Go.Proofs.YtlnelaajlhfabaaGreat.AW
set_option maxRecDepth 100000
set_option linter.unusedSimpArgs false
set_option linter.unusedVariables false
open Go.Shelf

/-! ### slices.SortFunc of structs: the shelf's, laid in plain words -/
def sortN_ren : Go.Shelf.Ren := ⟨fun | 6 => 84 | 15 => 123 | 14 => 142 | 28 => 173 | 29 => 174 | 20 => 187 | 21 => 188 | 22 => 189 | 23 => 190 | 24 => 191 | 25 => 192 | 26 => 193 | 27 => 194 | 46 => 230 | 47 => 225 | 48 => 226 | 49 => 231 | 50 => 232 | 57 => 254 | n => n, fun | 22 => 58 | 24 => 60 | 25 => 133 | 3 => 3 | 39 => 169 | 0 => 0 | 53 => 210 | 55 => 212 | 4 => 4 | 46 => 204 | 45 => 203 | 50 => 136 | 5 => 5 | 9 => 9 | 66 => 244 | 70 => 248 | 76 => 265 | 77 => 266 | n => n, fun | n => n⟩
theorem sortN : SlLaysF0.n6 Tryz.prog sortN_ren where
  mixed := by kernel_rfl
  f6 := ⟨Tryz.f84.name, by decide +kernel, Tryz.func84.trans (congrArg some (by kernel_rfl))⟩
  f14 := ⟨Tryz.f142.name, by decide +kernel, Tryz.func142.trans (congrArg some (by kernel_rfl))⟩
  f15 := Tryz.func123.trans (congrArg some (by kernel_rfl))
  f20 := ⟨Tryz.f187.name, by decide +kernel, Tryz.func187.trans (congrArg some (by kernel_rfl))⟩
  f21 := ⟨Tryz.f188.name, by decide +kernel, Tryz.func188.trans (congrArg some (by kernel_rfl))⟩
  f22 := ⟨Tryz.f189.name, by decide +kernel, Tryz.func189.trans (congrArg some (by kernel_rfl))⟩
  f23 := ⟨Tryz.f190.name, by decide +kernel, Tryz.func190.trans (congrArg some (by kernel_rfl))⟩
  f24 := ⟨Tryz.f191.name, by decide +kernel, Tryz.func191.trans (congrArg some (by kernel_rfl))⟩
  f25 := ⟨Tryz.f192.name, by decide +kernel, Tryz.func192.trans (congrArg some (by kernel_rfl))⟩
  f26 := ⟨Tryz.f193.name, by decide +kernel, Tryz.func193.trans (congrArg some (by kernel_rfl))⟩
  f27 := ⟨Tryz.f194.name, by decide +kernel, Tryz.func194.trans (congrArg some (by kernel_rfl))⟩
  f28 := Tryz.func173.trans (congrArg some (by kernel_rfl))
  f29 := Tryz.func174.trans (congrArg some (by kernel_rfl))
  f46 := ⟨Tryz.f230.name, by decide +kernel, Tryz.func230.trans (congrArg some (by kernel_rfl))⟩
  f47 := Tryz.func225.trans (congrArg some (by kernel_rfl))
  f48 := Tryz.func226.trans (congrArg some (by kernel_rfl))
  f49 := ⟨Tryz.f231.name, by decide +kernel, Tryz.func231.trans (congrArg some (by kernel_rfl))⟩
  f50 := ⟨Tryz.f232.name, by decide +kernel, Tryz.func232.trans (congrArg some (by kernel_rfl))⟩
  f57 := ⟨Tryz.f254.name, by decide +kernel, Tryz.func254.trans (congrArg some (by kernel_rfl))⟩
  t0 := Tryz.underlying0
  a0 := Tryz.isAgg0
  z0 := Tryz.sizeOf0
  v0 := Tryz.zeroValue0
  t3 := Tryz.underlying3
  a3 := Tryz.isAgg3
  z3 := Tryz.sizeOf3
  v3 := Tryz.zeroValue3
  t4 := Tryz.underlying4
  a4 := Tryz.isAgg4
  z4 := Tryz.sizeOf4
  v4 := Tryz.zeroValue4
  t5 := Tryz.underlying5
  a5 := Tryz.isAgg5
  z5 := Tryz.sizeOf5
  v5 := Tryz.zeroValue5
  t9 := Tryz.underlying9
  a9 := Tryz.isAgg9
  z9 := Tryz.sizeOf9
  v9 := Tryz.zeroValue9
  t22 := Tryz.underlying58
  a22 := Tryz.isAgg58
  z22 := Tryz.sizeOf58
  v22 := Tryz.zeroValue58
  t25 := Tryz.underlying133
  a25 := Tryz.isAgg133
  z25 := Tryz.sizeOf133
  v25 := Tryz.zeroValue133
  t39 := Tryz.underlying169
  a39 := Tryz.isAgg169
  z39 := Tryz.sizeOf169
  v39 := Tryz.zeroValue169
  t45 := Tryz.underlying203
  a45 := Tryz.isAgg203
  z45 := Tryz.sizeOf203
  v45 := Tryz.zeroValue203
  t46 := Tryz.underlying204
  a46 := Tryz.isAgg204
  z46 := Tryz.sizeOf204
  v46 := Tryz.zeroValue204
  t50 := Tryz.underlying136
  a50 := Tryz.isAgg136
  z50 := Tryz.sizeOf136
  v50 := Tryz.zeroValue136
  t53 := Tryz.underlying210
  a53 := Tryz.isAgg210
  z53 := Tryz.sizeOf210
  v53 := Tryz.zeroValue210
  t55 := Tryz.underlying212
  a55 := Tryz.isAgg212
  z55 := Tryz.sizeOf212
  v55 := Tryz.zeroValue212
  t66 := Tryz.underlying244
  a66 := Tryz.isAgg244
  z66 := Tryz.sizeOf244
  v66 := Tryz.zeroValue244
  t70 := Tryz.underlying248
  a70 := Tryz.isAgg248
  z70 := Tryz.sizeOf248
  v70 := Tryz.zeroValue248
  t76 := Tryz.underlying265
  a76 := Tryz.isAgg265
  z76 := Tryz.sizeOf265
  v76 := Tryz.zeroValue265
  t77 := Tryz.underlying266
  a77 := Tryz.isAgg266
  z77 := Tryz.sizeOf266
  v77 := Tryz.zeroValue266
def sortS_ren : Go.Shelf.Ren := ⟨fun | 6 => 90 | 15 => 123 | 14 => 144 | 28 => 173 | 29 => 174 | 20 => 197 | 21 => 198 | 22 => 199 | 23 => 200 | 24 => 201 | 25 => 202 | 26 => 203 | 27 => 204 | 46 => 234 | 47 => 225 | 48 => 226 | 49 => 235 | 50 => 236 | 57 => 256 | n => n, fun | 22 => 65 | 24 => 9 | 25 => 144 | 3 => 3 | 39 => 169 | 0 => 0 | 53 => 210 | 55 => 212 | 4 => 4 | 46 => 204 | 45 => 203 | 50 => 136 | 5 => 5 | 9 => 9 | 66 => 244 | 70 => 248 | 76 => 265 | 77 => 266 | n => n, fun | n => n⟩
theorem sortS : SlLaysF0.n6 Tryz.prog sortS_ren where
  mixed := by kernel_rfl
  f6 := ⟨Tryz.f90.name, by decide +kernel, Tryz.func90.trans (congrArg some (by kernel_rfl))⟩
  f14 := ⟨Tryz.f144.name, by decide +kernel, Tryz.func144.trans (congrArg some (by kernel_rfl))⟩
  f15 := Tryz.func123.trans (congrArg some (by kernel_rfl))
  f20 := ⟨Tryz.f197.name, by decide +kernel, Tryz.func197.trans (congrArg some (by kernel_rfl))⟩
  f21 := ⟨Tryz.f198.name, by decide +kernel, Tryz.func198.trans (congrArg some (by kernel_rfl))⟩
  f22 := ⟨Tryz.f199.name, by decide +kernel, Tryz.func199.trans (congrArg some (by kernel_rfl))⟩
  f23 := ⟨Tryz.f200.name, by decide +kernel, Tryz.func200.trans (congrArg some (by kernel_rfl))⟩
  f24 := ⟨Tryz.f201.name, by decide +kernel, Tryz.func201.trans (congrArg some (by kernel_rfl))⟩
  f25 := ⟨Tryz.f202.name, by decide +kernel, Tryz.func202.trans (congrArg some (by kernel_rfl))⟩
  f26 := ⟨Tryz.f203.name, by decide +kernel, Tryz.func203.trans (congrArg some (by kernel_rfl))⟩
  f27 := ⟨Tryz.f204.name, by decide +kernel, Tryz.func204.trans (congrArg some (by kernel_rfl))⟩
  f28 := Tryz.func173.trans (congrArg some (by kernel_rfl))
  f29 := Tryz.func174.trans (congrArg some (by kernel_rfl))
  f46 := ⟨Tryz.f234.name, by decide +kernel, Tryz.func234.trans (congrArg some (by kernel_rfl))⟩
  f47 := Tryz.func225.trans (congrArg some (by kernel_rfl))
  f48 := Tryz.func226.trans (congrArg some (by kernel_rfl))
  f49 := ⟨Tryz.f235.name, by decide +kernel, Tryz.func235.trans (congrArg some (by kernel_rfl))⟩
  f50 := ⟨Tryz.f236.name, by decide +kernel, Tryz.func236.trans (congrArg some (by kernel_rfl))⟩
  f57 := ⟨Tryz.f256.name, by decide +kernel, Tryz.func256.trans (congrArg some (by kernel_rfl))⟩
  t0 := Tryz.underlying0
  a0 := Tryz.isAgg0
  z0 := Tryz.sizeOf0
  v0 := Tryz.zeroValue0
  t3 := Tryz.underlying3
  a3 := Tryz.isAgg3
  z3 := Tryz.sizeOf3
  v3 := Tryz.zeroValue3
  t4 := Tryz.underlying4
  a4 := Tryz.isAgg4
  z4 := Tryz.sizeOf4
  v4 := Tryz.zeroValue4
  t5 := Tryz.underlying5
  a5 := Tryz.isAgg5
  z5 := Tryz.sizeOf5
  v5 := Tryz.zeroValue5
  t9 := Tryz.underlying9
  a9 := Tryz.isAgg9
  z9 := Tryz.sizeOf9
  v9 := Tryz.zeroValue9
  t22 := Tryz.underlying65
  a22 := Tryz.isAgg65
  z22 := Tryz.sizeOf65
  v22 := Tryz.zeroValue65
  t25 := Tryz.underlying144
  a25 := Tryz.isAgg144
  z25 := Tryz.sizeOf144
  v25 := Tryz.zeroValue144
  t39 := Tryz.underlying169
  a39 := Tryz.isAgg169
  z39 := Tryz.sizeOf169
  v39 := Tryz.zeroValue169
  t45 := Tryz.underlying203
  a45 := Tryz.isAgg203
  z45 := Tryz.sizeOf203
  v45 := Tryz.zeroValue203
  t46 := Tryz.underlying204
  a46 := Tryz.isAgg204
  z46 := Tryz.sizeOf204
  v46 := Tryz.zeroValue204
  t50 := Tryz.underlying136
  a50 := Tryz.isAgg136
  z50 := Tryz.sizeOf136
  v50 := Tryz.zeroValue136
  t53 := Tryz.underlying210
  a53 := Tryz.isAgg210
  z53 := Tryz.sizeOf210
  v53 := Tryz.zeroValue210
  t55 := Tryz.underlying212
  a55 := Tryz.isAgg212
  z55 := Tryz.sizeOf212
  v55 := Tryz.zeroValue212
  t66 := Tryz.underlying244
  a66 := Tryz.isAgg244
  z66 := Tryz.sizeOf244
  v66 := Tryz.zeroValue244
  t70 := Tryz.underlying248
  a70 := Tryz.isAgg248
  z70 := Tryz.sizeOf248
  v70 := Tryz.zeroValue248
  t76 := Tryz.underlying265
  a76 := Tryz.isAgg265
  z76 := Tryz.sizeOf265
  v76 := Tryz.zeroValue265
  t77 := Tryz.underlying266
  a77 := Tryz.isAgg266
  z77 := Tryz.sizeOf266
  v77 := Tryz.zeroValue266
end Go.Proofs.YtlnelaajlhfabaaGreat.AW

open Go Go.Proofs.YtlnelaajlhfabaaGreat.AW Go.Proofs
namespace Go.Proofs.YtlnelaajlhfabaaGreat.AW
set_option maxRecDepth 100000
set_option linter.unusedSimpArgs false
set_option linter.unusedVariables false
open Go.Shelf

open Go.Shelf
def sortQ_ren : Go.Shelf.Ren := ⟨fun | 6 => 90 | 15 => 123 | 14 => 144 | 28 => 173 | 29 => 174 | 20 => 197 | 21 => 198 | 22 => 199 | 23 => 200 | 24 => 201 | 25 => 202 | 26 => 203 | 27 => 204 | 46 => 234 | 47 => 225 | 48 => 226 | 49 => 235 | 50 => 236 | 57 => 256 | n => n, fun | 22 => 65 | 24 => 9 | 25 => 144 | 3 => 3 | 39 => 169 | 0 => 0 | 53 => 210 | 55 => 212 | 4 => 4 | 46 => 204 | 45 => 203 | 50 => 136 | 5 => 5 | 9 => 9 | 66 => 244 | 70 => 248 | 76 => 265 | 77 => 266 | n => n, fun | n => n⟩
theorem sortQ : SlLaysF.n6 Tryz.prog sortQ_ren where
  mixed := by kernel_rfl
  f6 := ⟨Tryz.f90.name, by decide +kernel, Tryz.func90.trans (congrArg some (by kernel_rfl))⟩
  f14 := ⟨Tryz.f144.name, by decide +kernel, Tryz.func144.trans (congrArg some (by kernel_rfl))⟩
  f15 := Tryz.func123.trans (congrArg some (by kernel_rfl))
  f20 := ⟨Tryz.f197.name, by decide +kernel, Tryz.func197.trans (congrArg some (by kernel_rfl))⟩
  f21 := ⟨Tryz.f198.name, by decide +kernel, Tryz.func198.trans (congrArg some (by kernel_rfl))⟩
  f22 := ⟨Tryz.f199.name, by decide +kernel, Tryz.func199.trans (congrArg some (by kernel_rfl))⟩
  f23 := ⟨Tryz.f200.name, by decide +kernel, Tryz.func200.trans (congrArg some (by kernel_rfl))⟩
  f24 := ⟨Tryz.f201.name, by decide +kernel, Tryz.func201.trans (congrArg some (by kernel_rfl))⟩
  f25 := ⟨Tryz.f202.name, by decide +kernel, Tryz.func202.trans (congrArg some (by kernel_rfl))⟩
  f26 := ⟨Tryz.f203.name, by decide +kernel, Tryz.func203.trans (congrArg some (by kernel_rfl))⟩
  f27 := ⟨Tryz.f204.name, by decide +kernel, Tryz.func204.trans (congrArg some (by kernel_rfl))⟩
  f28 := Tryz.func173.trans (congrArg some (by kernel_rfl))
  f29 := Tryz.func174.trans (congrArg some (by kernel_rfl))
  f46 := ⟨Tryz.f234.name, by decide +kernel, Tryz.func234.trans (congrArg some (by kernel_rfl))⟩
  f47 := Tryz.func225.trans (congrArg some (by kernel_rfl))
  f48 := Tryz.func226.trans (congrArg some (by kernel_rfl))
  f49 := ⟨Tryz.f235.name, by decide +kernel, Tryz.func235.trans (congrArg some (by kernel_rfl))⟩
  f50 := ⟨Tryz.f236.name, by decide +kernel, Tryz.func236.trans (congrArg some (by kernel_rfl))⟩
  f57 := ⟨Tryz.f256.name, by decide +kernel, Tryz.func256.trans (congrArg some (by kernel_rfl))⟩
  t0 := Tryz.underlying0
  a0 := Tryz.isAgg0
  z0 := Tryz.sizeOf0
  v0 := Tryz.zeroValue0
  t3 := Tryz.underlying3
  a3 := Tryz.isAgg3
  z3 := Tryz.sizeOf3
  v3 := Tryz.zeroValue3
  t4 := Tryz.underlying4
  a4 := Tryz.isAgg4
  z4 := Tryz.sizeOf4
  v4 := Tryz.zeroValue4
  t5 := Tryz.underlying5
  a5 := Tryz.isAgg5
  z5 := Tryz.sizeOf5
  v5 := Tryz.zeroValue5
  t9 := Tryz.underlying9
  a9 := Tryz.isAgg9
  z9 := Tryz.sizeOf9
  v9 := Tryz.zeroValue9
  t22 := Tryz.underlying65
  a22 := Tryz.isAgg65
  z22 := Tryz.sizeOf65
  v22 := Tryz.zeroValue65
  a24 := Tryz.isAgg9
  z24 := Tryz.sizeOf9
  t25 := Tryz.underlying144
  a25 := Tryz.isAgg144
  z25 := Tryz.sizeOf144
  v25 := Tryz.zeroValue144
  t39 := Tryz.underlying169
  a39 := Tryz.isAgg169
  z39 := Tryz.sizeOf169
  v39 := Tryz.zeroValue169
  t45 := Tryz.underlying203
  a45 := Tryz.isAgg203
  z45 := Tryz.sizeOf203
  v45 := Tryz.zeroValue203
  t46 := Tryz.underlying204
  a46 := Tryz.isAgg204
  z46 := Tryz.sizeOf204
  v46 := Tryz.zeroValue204
  t50 := Tryz.underlying136
  a50 := Tryz.isAgg136
  z50 := Tryz.sizeOf136
  v50 := Tryz.zeroValue136
  t53 := Tryz.underlying210
  a53 := Tryz.isAgg210
  z53 := Tryz.sizeOf210
  v53 := Tryz.zeroValue210
  t55 := Tryz.underlying212
  a55 := Tryz.isAgg212
  z55 := Tryz.sizeOf212
  v55 := Tryz.zeroValue212
  t66 := Tryz.underlying244
  a66 := Tryz.isAgg244
  z66 := Tryz.sizeOf244
  v66 := Tryz.zeroValue244
  t70 := Tryz.underlying248
  a70 := Tryz.isAgg248
  z70 := Tryz.sizeOf248
  v70 := Tryz.zeroValue248
  t76 := Tryz.underlying265
  a76 := Tryz.isAgg265
  z76 := Tryz.sizeOf265
  v76 := Tryz.zeroValue265
  t77 := Tryz.underlying266
  a77 := Tryz.isAgg266
  z77 := Tryz.sizeOf266
  v77 := Tryz.zeroValue266
end Go.Proofs.YtlnelaajlhfabaaGreat.AW

open Go Go.Proofs.YtlnelaajlhfabaaGreat.AW Go.Proofs
namespace Go.Proofs.YtlnelaajlhfabaaGreat.AW
set_option maxRecDepth 100000
set_option linter.unusedSimpArgs false
set_option linter.unusedVariables false

/-! ### ledger.By -/
theorem perm_outG {α : Type} {f : α → Nat} {fe : α} : ∀ {rest : List α}, (rest.map f).Nodup → fe ∈ rest → rest.Perm (fe :: rest.filter fun q => !(f q == f fe))
  | x :: r, hn, hm => by
    rw [List.map_cons, List.nodup_cons] at hn
    rcases List.mem_cons.1 hm with rfl | hm
    · have e : r.filter (fun q => !(f q == f fe)) = r := List.filter_eq_self.2 fun q hq => by
        have : f q ≠ f fe := fun e => hn.1 (e ▸ List.mem_map_of_mem hq)
        simpa using this
      rw [List.filter_cons, e]; simp
    · have hne : f x ≠ f fe := fun e => hn.1 (e ▸ List.mem_map_of_mem hm)
      rw [List.filter_cons, if_pos (by simpa using hne)]
      exact ((perm_outG hn.2 hm).cons x).trans (List.Perm.swap ..)
theorem nd_eqG {α : Type} {f : α → Nat} {a b : α} : ∀ {l : List α}, (l.map f).Nodup → a ∈ l → b ∈ l → f a = f b → a = b
  | q :: r, hn, ha, hb, e => by
    rw [List.map_cons, List.nodup_cons] at hn
    obtain ⟨hn1, hn2⟩ := hn
    rcases List.mem_cons.1 ha with ha2 | ha2
    · rcases List.mem_cons.1 hb with hb2 | hb2
      · rw [ha2, hb2]
      · exact (hn1 (List.mem_map.2 ⟨b, hb2, by rw [← e, ha2]⟩)).elim
    · rcases List.mem_cons.1 hb with hb2 | hb2
      · exact (hn1 (List.mem_map.2 ⟨a, ha2, by rw [e, hb2]⟩)).elim
      · exact nd_eqG hn2 ha2 hb2 e
def pn0 : PV → Int
  | .agg (.int _ n :: _) => n
  | _ => 0
def pnCmp (x y : PV) : Int := cmpI (pn0 x) (pn0 y)
theorem bycmp_c (x y : PN) (s : Store) (K : AV → Store → Prop) (h : K (.p (ii (pnCmp (pnP x) (pnP y)))) s) : Cal Tryz.prog 85 [.p (pnP x), .p (pnP y)] s K := by
  refine Cal.pure (args := [pnP x, pnP y]) ?_
  refine Cal.intro Tryz.func85 (by decide +kernel) rfl rfl ?_
  have h : K (.p (ii (cmpI x.1 y.1))) s := h
  repeat' (first
    | (apply Br.t; · (first | rfl | (simp only [*] <;> rfl)))
    | (apply Br.f; · (first | rfl | (simp only [*] <;> rfl)))
    | refine Ob.mk (okst rfl rfl rfl) ?_
    | refine Ob.mk (by decide) ?_
    | refine cmpI_c _ _ _ _ ?_
    | refine Br.mkT (fun c => ?_) (fun c => ?_)
    | refine Br.mkF (fun c => ?_) (fun c => ?_)
    | refine Br.mk (fun c => ?_) (fun c => ?_))
  exact h
theorem pn_ord (l : List PV) : Ord (fun x y => pnCmp x y < 0) l := by
  refine ⟨fun x _ h => ?_, fun x y z _ _ _ h k => ?_, fun x y z _ _ _ h k q => ?_⟩
  · have := (cmpI_lt _ _).1 h; omega
  · have h := (cmpI_lt _ _).1 h; have k := (cmpI_lt _ _).1 k; exact (cmpI_lt _ _).2 (by omega)
  · have q := (cmpI_lt _ _).1 q
    have h : ¬ pn0 x < pn0 y := fun e => h ((cmpI_lt _ _).2 e)
    have k : ¬ pn0 y < pn0 z := fun e => k ((cmpI_lt _ _).2 e)
    omega
theorem mapG_of {α : Type} (f : α → PV) {ys : List PV} {l : List α} (h : ys.Perm (l.map f)) : ∃ ps : List α, ys = ps.map f ∧ ps.Perm l := by
  induction l generalizing ys with
  | nil => exact ⟨[], h.eq_nil, .refl _⟩
  | cons p r ih =>
    rw [List.map_cons] at h
    obtain ⟨a, b, rfl⟩ := List.append_of_mem (h.mem_iff.2 (List.mem_cons_self ..))
    have h2 : (a ++ b).Perm (r.map f) := (List.Perm.cons_inv (List.perm_middle.symm.trans h))
    obtain ⟨ps, h3, h4⟩ := ih h2
    obtain ⟨pa, pb, h5, h6, h7⟩ := List.append_eq_map_iff.1 h3
    exact ⟨pa ++ p :: pb, by rw [List.map_append, List.map_cons, h6, h7], List.perm_middle.trans ((h5 ▸ h4).cons p)⟩
def pnsC (l : List PN) : PV := .sl .clip 2 (l.map pnP)
def pnsP (l : List PN) : PV := .sl .shr 2 (l.map pnP)
theorem nAll_take {gs : List Gt} {j : Nat} (hj : j < gs.length) : nAll (gs.take (j + 1)) = nAdd (nAll (gs.take j)) gs[j] := by rw [take_succ' hj, nAll_snoc]
theorem nPut_len (es : List NE) (cl : Nat) (n x : Int) : (nPut es cl n x).length ≤ es.length + 1 := by
  unfold nPut
  split
  · have := congrArg List.length (nSet_st n x es).1; simp at this; omega
  · rw [List.length_append]; exact Nat.le_refl _
theorem nAll_len : ∀ gs : List Gt, (nAll gs).1.length ≤ gs.length := by
  intro gs
  rw [← List.reverse_reverse gs]
  induction gs.reverse with
  | nil => exact Nat.le_refl _
  | cons g r ih =>
    rw [List.reverse_cons, nAll_snoc, List.length_append]
    have := nPut_len (nAll r.reverse).1 (nAll r.reverse).2 g.prod (IntKind.i64.wrap ((nGet (nAll r.reverse).1 g.prod).getD 0 + 1))
    show (nPut _ _ _ _).length ≤ _ + 1
    omega
def neS (q : List NE × Nat) : Option AObj := some (.map (.int .i64) (q.1.map nent) q.2)
set_option maxHeartbeats 16000000 in
theorem by2_c (gs : List Gt) (hg : gs.length ≤ 1000000000) (s : Store) (K : AV → Store → Prop) (h : K (.p (pnsC (byL gs))) s) : Cal Tryz.prog 32 [.p (gsP gs)] s K := by
  refine Cal.pure (args := [gsP gs]) ?_
  refine Cal.intro Tryz.func32 (by decide +kernel) rfl rfl ?_
  have hlm := gsL gs
  refine LoopX.fam [3, 10, 11, 12] (fun (j : Nat) => ([(3, .map 0), (10, .p (gsP gs)), (11, .p (ii (gs.map Gt.pv).length)), (12, .p (ii (j : Nat)))], [neS (nAll (gs.take j))]))
    (fun j => j ≤ gs.length) (fun j => gs.length - j) 0 (Nat.zero_le _) (Trim.mk' rfl rfl rfl rfl (Nat.le_refl _)) ?_
  intro j hj
  have hj : j ≤ gs.length := hj
  refine Br.mk (fun hc => ?_) (fun hc => ?_)
  · have hc : (j : Int) < ((gs.map Gt.pv).length : Nat) := of_decide_eq_true hc
    have hj1 : j < gs.length := by omega
    have ej : IntKind.i64.wrap ((j : Int) + 1) = ((j + 1 : Nat) : Int) := by rw [wrap_i64] <;> omega
    refine Idx.mk _ (Int.natCast_nonneg _) (getG hj1) ?_
    refine Ob.mk (okst rfl rfl rfl) ?_
    have hadd := nAll_take hj1
    have hget := get_nent gs[j].prod (nAll (gs.take j)).1
    have hput := fun x => put_nent (nAll (gs.take j)).1 (nAll (gs.take j)).2 gs[j].prod x
    have hclk := clk_nent (nAll (gs.take j)).1 (nAll (gs.take j)).2 gs[j].prod
    have fin : ∀ x : Int, x = (nGet (nAll (gs.take j)).1 gs[j].prod).getD 0 → (some (.map (.int .i64) (mPut ((nAll (gs.take j)).1.map nent) (nAll (gs.take j)).2 (ii gs[j].prod) (ii (IntKind.i64.wrap (x + 1)))) (mClock ((nAll (gs.take j)).1.map nent) (nAll (gs.take j)).2 (ii gs[j].prod))) : Option AObj) = neS (nAll (gs.take (j + 1))) := fun x hx => by
      rw [hput, hclk, hadd, hx]; rfl
    have stp : ∀ x : Int, x = (nGet (nAll (gs.take j)).1 gs[j].prod).getD 0 → True := fun _ _ => trivial
    cases hn : nGet (nAll (gs.take j)).1 gs[j].prod with
    | some v =>
      rw [hn] at hget fin
      refine Opt.s hget ?_
      refine ⟨j + 1, hj1, by show gs.length - (j + 1) < gs.length - j; omega, (show 1 ≤ 1 by decide), Trim.mk' ?_ ?_ rfl rfl (by show (1 : Nat) ≤ 2; decide)⟩
      · refine Eq.trans (b := [_, _, _, (12, AV.p (ii (IntKind.i64.wrap ((j : Int) + 1))))]) rfl ?_
        rw [ej]; rfl
      · show [some (AObj.map (.int .i64) (mPut ((nAll (gs.take j)).1.map nent) (nAll (gs.take j)).2 (ii gs[j].prod) (ii (IntKind.i64.wrap (v + 1)))) (mClock ((nAll (gs.take j)).1.map nent) (nAll (gs.take j)).2 (ii gs[j].prod)))] = _
        rw [fin v rfl]
    | none =>
      rw [hn] at hget fin
      refine Opt.n hget ?_
      refine ⟨j + 1, hj1, by show gs.length - (j + 1) < gs.length - j; omega, (show 1 ≤ 1 by decide), Trim.mk' ?_ ?_ rfl rfl (by show (1 : Nat) ≤ 2; decide)⟩
      · refine Eq.trans (b := [_, _, _, (12, AV.p (ii (IntKind.i64.wrap ((j : Int) + 1))))]) rfl ?_
        rw [ej]; rfl
      · show [some (AObj.map (.int .i64) (mPut ((nAll (gs.take j)).1.map nent) (nAll (gs.take j)).2 (ii gs[j].prod) (ii (IntKind.i64.wrap (0 + 1)))) (mClock ((nAll (gs.take j)).1.map nent) (nAll (gs.take j)).2 (ii gs[j].prod)))] = _
        rw [fin 0 rfl]
  · have hc : ¬ (j : Int) < ((gs.map Gt.pv).length : Nat) := of_decide_eq_false hc
    have : j = gs.length := by omega
    subst this
    rw [List.take_length]
    have hsame := fun {ps} hp hs => by_same gs (ps := ps) hp hs
    have hi := NInv.all gs
    have hle := nAll_len gs
    obtain ⟨es, hes⟩ : ∃ es, es = (nAll gs).1 := ⟨_, rfl⟩
    obtain ⟨cl, hcl⟩ : ∃ cl, cl = (nAll gs).2 := ⟨_, rfl⟩
    have hne : neS (nAll gs) = some (.map (.int .i64) (es.map nent) cl) := by rw [hes, hcl]; rfl
    rw [hne]
    rw [← hes] at hi hle hsame
    rw [← hcl] at hi
    clear hne hcl hes
    have hfst : (es.map nent).map (·.1) = es.map (·.1) := by rw [List.map_map]; rfl
    refine LoopX.famW [6, 23] (fun (q : List NE × List NE × Option (Nat × Nat)) => ([(6, .osl 2 (q.1.map fun q => pnP q.2).length 0 (q.1.map fun q => pnP q.2).length), (23, .it 1)],
        [some (.map (.int .i64) (es.map nent) cl), some (.iterM 0 ((es.map nent).map (·.1)) (q.2.1.map (·.1), q.2.2)), some (.buf 2 (q.1.map fun q => pnP q.2))]))
      (fun q => (q.1 ++ q.2.1).Perm es) (fun q => q.2.1.length) ([], es, none) (List.Perm.refl _) (by show 2 ≤ 3; decide) (Trim.wk 2 [(2, none)] rfl (by show 2 ≤ 2; decide) (.inr rfl) (by rw [← hfst]; rfl) rfl rfl rfl rfl ⟨.own 2 rfl rfl, .inl rfl, trivial⟩) ?_
    rintro ⟨out, rest, cur⟩ hq
    have hq : (out ++ rest).Perm es := hq
    have hln : out.length + rest.length = es.length := by have := hq.length_eq; simpa using this
    refine Ob.mk rfl ?_
    refine BrL.mk (fun (he : rest.map (·.1) = []) => ?_) (fun (hne : rest.map (·.1) ≠ []) => ?_)
    · have hr : rest = [] := List.map_eq_nil_iff.1 he
      subst hr
      rw [List.append_nil] at hq
      refine Br.f rfl ?_
      refine Cal.sortK (id := 2) (xs := out.map fun q => pnP q.2) (ty := none) sortN (k := 2) (by decide) Tryz.isAgg60 Tryz.sizeOf60 rfl ⟨_, Tryz.func84, by decide +kernel, rfl⟩ ⟨_, Tryz.func85, by decide +kernel, rfl⟩ ?_ ?_ ?_ pnCmp (pn_ord _) ?_ ?_
      · rfl
      · intro x hx
        obtain ⟨q, _, rfl⟩ := List.mem_map.1 hx
        rfl
      · rw [List.length_map]; omega
      · intro x y hx hy
        obtain ⟨q, hqm, rfl⟩ := List.mem_map.1 hx
        obtain ⟨p, hpm, rfl⟩ := List.mem_map.1 hy
        exact bycmp_c _ _ [] _ ⟨rfl, rfl⟩
      · intro ys hp hs
        have hp2 : ys.Perm ((out.map fun q => q.2).map pnP) := by rw [List.map_map]; exact hp
        obtain ⟨ps, rfl, hn⟩ := mapG_of pnP hp2
        have hl : (ps.map pnP).length = (out.map fun q => pnP q.2).length := hp.length_eq
        refine Cal.freeze ?_ ⟨_, Tryz.func86, rfl, rfl⟩
        refine Ob.mk hl ?_
        have e : ((ps.map pnP).drop 0).take (out.map fun q => pnP q.2).length = ps.map pnP := by rw [List.drop_zero, ← hl, List.take_length]
        show Cal _ _ [.p (.sl .shr 2 (((ps.map pnP).drop 0).take (out.map fun q => pnP q.2).length))] _ _
        rw [e]
        have hk := hsame (ps := ps) (hn.trans (hq.map _)) (by
          rw [List.pairwise_map] at hs
          exact hs.imp fun hab q => hab ((cmpI_lt _ _).2 q))
        rw [hk]
        refine clip_p2 _ _ _ ?_
        exact h
    · refine Any.mk fun b k v hb hkv => ?_
      obtain ⟨fe, hfe, hent⟩ := List.mem_map.1 hkv
      cases hent
      obtain ⟨fe', hfe', hbe⟩ := List.mem_map.1 hb
      have hin : fe ∈ rest := by
        have : fe' = fe := nd_eqG (f := (·.1)) hi.nd (hq.mem_iff.1 (List.mem_append_right _ hfe')) hfe hbe
        rw [← this]; exact hfe'
      have hndr : (rest.map (·.1)).Nodup := by
        have h1 : ((out ++ rest).map (·.1)).Nodup := (hq.map _).nodup_iff.2 hi.nd
        rw [List.map_append] at h1
        exact (List.nodup_append.1 h1).2.1
      have hpo := perm_outG (f := (·.1)) hndr hin
      have hpl := hpo.length_eq
      rw [List.length_cons] at hpl
      refine Br.t rfl ?_
      refine Ob.mk rfl ⟨ii fe.2.1, ii fe.2.2, Ob.mk hkv ?_⟩
      refine Ob.mk ?_ ?_
      · refine ⟨rfl, rfl, rfl, ?_⟩
        show ((out.map fun q => pnP q.2).length + 1) * 16 ≤ _
        rw [List.length_map]; omega
      · refine ⟨(out ++ [fe], rest.filter (fun q => !(q.1 == fe.1)), some (fe.1, cl)), ?_, by show (rest.filter _).length < rest.length; omega, (show (2 : Nat) ≤ 3 by decide), Trim.mk' ?_ ?_ rfl rfl (show (3 : Nat) ≤ 3 by decide)⟩
        · show ((out ++ [fe]) ++ rest.filter _).Perm es
          rw [List.append_assoc]
          exact ((hpo.symm.append_left out)).trans hq
        · show _ = [(6, AV.osl 2 ((out ++ [fe]).map fun q => pnP q.2).length 0 ((out ++ [fe]).map fun q => pnP q.2).length), _]
          rw [List.map_append]; rfl
        · show _ = [_, some (AObj.iterM 0 _ ((rest.filter (fun q => !(q.1 == fe.1))).map (·.1), _)), some (AObj.buf 2 ((out ++ [fe]).map fun q => pnP q.2) none)]
          have e1 : (rest.filter (fun q => !(q.1 == fe.1))).map (·.1) = (rest.map (·.1)).filter fun x => !(x == fe.1) := by
            rw [List.filter_map]; rfl
          rw [List.map_append, e1]; rfl
end Go.Proofs.YtlnelaajlhfabaaGreat.AW

open Go Go.Proofs.YtlnelaajlhfabaaGreat.AW Go.Proofs
namespace Go.Proofs.YtlnelaajlhfabaaGreat.AW
set_option maxRecDepth 100000
set_option linter.unusedSimpArgs false
set_option linter.unusedVariables false

/-! ### .. by the document -/
theorem byAt_le : ∀ (l : List PN) (p : Int), byAt l p ≤ l.length
  | [], _ => Nat.le_refl _
  | q :: r, p => by unfold byAt; have := byAt_le r p; split <;> simp <;> omega
theorem byAt_lt : ∀ {l : List PN} {p : Int} {j : Nat} (h : j < byAt l p) (hl : j < l.length), l[j].1 < p
  | q :: r, p, j, h, hl => by
    unfold byAt at h
    split at h
    · rename_i hq
      cases j with
      | zero => exact hq
      | succ j => exact byAt_lt (l := r) (by omega) (by simpa using hl)
    · omega
theorem byAt_stop : ∀ {l : List PN} {p : Int} (hl : byAt l p < l.length), ¬ l[byAt l p].1 < p
  | q :: r, p, hl => by
    by_cases hq : q.1 < p
    · have e : byAt (q :: r) p = byAt r p + 1 := by show (if _ then _ else _) = _; rw [if_pos hq]
      have hl2 : byAt r p < r.length := by rw [e] at hl; simpa using hl
      have := byAt_stop hl2
      simp only [e, List.getElem_cons_succ]
      exact this
    · have e : byAt (q :: r) p = 0 := by show (if _ then _ else _) = _; rw [if_neg hq]
      simp only [e, List.getElem_cons_zero]
      exact hq
theorem getPN {l : List PN} {j : Nat} (h : j < l.length) : (l.map pnP)[(((0 + ((j : Nat) : Int).toNat : Nat)) : Int).toNat]? = some (pnP l[j]) := by
  rw [Int.toNat_natCast, Int.toNat_natCast, Nat.zero_add, List.getElem?_map, List.getElem?_eq_getElem h]; rfl
theorem byL_take {gs : List Gt} {j : Nat} (hj : j < gs.length) : byL (gs.take (j + 1)) = byI (byL (gs.take j)) gs[j].prod := by rw [take_succ' hj, byL_snoc]
theorem byI_len (l : List PN) (p : Int) : (byI l p).length ≤ l.length + 1 := by
  unfold byI
  have := byAt_le l p
  split
  · split
    · rw [List.length_set]; omega
    · rw [List.length_append, List.length_cons, List.length_take, List.length_drop]; omega
  · rw [List.length_append, List.length_cons, List.length_take, List.length_drop]; omega
theorem byL_len : ∀ gs : List Gt, (byL gs).length ≤ gs.length := by
  intro gs
  rw [← List.reverse_reverse gs]
  induction gs.reverse with
  | nil => exact Nat.le_refl _
  | cons g r ih =>
    rw [List.reverse_cons, byL_snoc, List.length_append]
    have := byI_len (byL r.reverse) g.prod
    show _ ≤ _ + 1; omega
set_option maxHeartbeats 16000000 in
theorem by1_c (gs : List Gt) (hg : gs.length ≤ 1000000000) (s : Store) (K : AV → Store → Prop) (h : K (.p (pnsP (byL gs))) s) : Cal Tryz.prog 78 [.p (gsP gs)] s K := by
  refine Cal.pure (args := [gsP gs]) ?_
  refine Cal.intro Tryz.func78 (by decide +kernel) rfl rfl ?_
  have hlm := gsL gs
  refine LoopX.famW [3, 7, 8, 9] (fun (j : Nat) => ([(3, .osl 0 ((byL (gs.take j)).map pnP).length 0 ((byL (gs.take j)).map pnP).length), (7, .p (gsP gs)), (8, .p (ii (gs.map Gt.pv).length)), (9, .p (ii (j : Nat)))], [some (.buf 2 ((byL (gs.take j)).map pnP))]))
    (fun j => j ≤ gs.length) (fun j => gs.length - j) 0 (Nat.zero_le _) (by show 0 ≤ 1; decide) (Trim.wk 0 [(2, none)] rfl (by show 0 ≤ 0; decide) (.inr rfl) rfl rfl rfl rfl rfl ⟨.own 0 rfl rfl, .inl rfl, .inl rfl, .inl rfl, trivial⟩) ?_
  intro j hj
  have hj : j ≤ gs.length := hj
  refine Br.mk (fun hc => ?_) (fun hc => ?_)
  · have hc : (j : Int) < ((gs.map Gt.pv).length : Nat) := of_decide_eq_true hc
    have hj1 : j < gs.length := by omega
    have ej : IntKind.i64.wrap ((j : Int) + 1) = ((j + 1 : Nat) : Int) := by rw [wrap_i64] <;> omega
    have htk := byL_take hj1
    have hol := byL_len (gs.take j)
    rw [List.length_take] at hol
    refine Idx.mk _ (Int.natCast_nonneg _) (getG hj1) ?_
    refine Ob.mk (okst rfl rfl rfl) ?_
    generalize byL (gs.take j) = out at htk hol ⊢
    obtain ⟨p, hp⟩ : ∃ p, gs[j].prod = p := ⟨_, rfl⟩
    rw [hp] at htk
    have hom : (out.map pnP).length = out.length := List.length_map ..
    have hle := byAt_le out p
    by_cases hfd : ∃ h : byAt out p < out.length, out[byAt out p].1 = p
    · obtain ⟨hil, c3'⟩ := hfd
      have hby : byI out p = out.set (byAt out p) (out[byAt out p].1, IntKind.i64.wrap (out[byAt out p].2 + 1)) := by
        unfold byI; rw [List.getElem?_eq_getElem hil]; dsimp only; rw [if_pos c3']
      rw [hby] at htk
      refine LoopX.fam [3, 5, 6, 7, 8, 9] (fun (i : Nat) => ([(3, .osl 0 (out.map pnP).length 0 (out.map pnP).length), (5, .ref 1 0), (6, .p (ii (i : Nat))), (7, .p (gsP gs)), (8, .p (ii (gs.map Gt.pv).length)), (9, .p (ii (j : Nat)))], [some (.buf 2 (out.map pnP)), gC gs[j]]))
        (fun i => i ≤ byAt out p) (fun i => byAt out p - i) 0 (Nat.zero_le _) (Trim.mk' rfl rfl rfl rfl (Nat.le_refl _)) ?_
      intro i hi
      have hi : i ≤ byAt out p := hi
      have ei : IntKind.i64.wrap ((i : Int) + 1) = ((i + 1 : Nat) : Int) := by rw [wrap_i64] <;> omega
      have hio : i < out.length := by omega
      have c1 : decide ((i : Int) < ((out.map pnP).length : Nat)) = true := decide_eq_true (by omega)
      have c1' : (i : Int) < ((out.map pnP).length : Nat) := by omega
      have g1 := getPN hio
      have z0 : (0 : Int) ≤ ((i : Nat) : Int) := Int.natCast_nonneg _
      by_cases hib : i < byAt out p
      · have c2 : decide (out[i].1 < gs[j].prod) = true := decide_eq_true (by rw [hp]; exact byAt_lt hib hio)
        clear hlm hom htk hp hby c3'
        repeat' (first
          | refine Chk.mk (by kernel_rfl) ?_
          | (apply Br.t; · (first | rfl | (simp only [*] <;> rfl)))
          | (apply Br.f; · (first | rfl | (simp only [*] <;> rfl)))
          | refine ⟨_, ⟨rfl, rfl⟩, ?_⟩
          | refine ⟨_, _, ⟨rfl, rfl⟩, rfl, ?_⟩
          | refine ⟨_, Ob.mk ⟨rfl, z0, c1'⟩ ⟨rfl, rfl⟩, ?_⟩
          | refine ⟨_, Ob.mk ⟨rfl, by decide, by decide⟩ ⟨rfl, rfl⟩, ?_⟩
          | refine ⟨_, Ob.mk rfl (Idx.mk _ (Int.natCast_nonneg _) g1 ⟨rfl, rfl⟩), ?_⟩
          | refine ⟨_, Br.t c1 ⟨rfl, rfl⟩, ?_⟩
          | apply Br.t c1
          | apply Br.t c2
          | refine Br.t (congrArg (· == true) c1) ?_
          | refine ⟨_, Ob.mk (by decide) ⟨rfl, rfl⟩, ?_⟩
          | (refine ⟨_, Br.t ?_ ⟨rfl, rfl⟩, ?_⟩; · (first | rfl | (simp only [*] <;> rfl)))
          | (refine ⟨_, Br.f ?_ ⟨rfl, rfl⟩, ?_⟩; · (first | rfl | (simp only [*] <;> rfl)))
          | refine ⟨_, _, Ob.mk (okst rfl rfl rfl) ⟨rfl, rfl⟩, rfl, ?_⟩
          | refine Ob.mk (okst rfl rfl rfl) ?_
          | refine Ob.mk (by decide) ?_
          | refine Br.mkT (fun c => ?_) (fun c => ?_)
          | refine Br.mkF (fun c => ?_) (fun c => ?_)
          | refine Br.mk (fun c => ?_) (fun c => ?_))
        refine ⟨i + 1, hib, by show byAt out p - (i + 1) < byAt out p - i; omega, Nat.le_refl _, Trim.mk' ?_ rfl rfl rfl (Nat.le_refl _)⟩
        refine Eq.trans (b := [_, _, (6, AV.p (ii (IntKind.i64.wrap ((i : Int) + 1)))), _, _, _]) rfl ?_
        rw [ei]; rfl
      · have hie : i = byAt out p := by omega
        have c2 : decide (out[i].1 < gs[j].prod) = false := decide_eq_false (by rw [hp]; subst hie; exact byAt_stop hil)
        have c3 : (out[i].1 == gs[j].prod) = true := by rw [hp]; subst hie; rw [c3']; simp
        have hset : (out.map pnP).set (0 + ((i : Nat) : Int).toNat) (.agg [ii out[i].1, ii (IntKind.i64.wrap (out[i].2 + 1))]) = (byL (gs.take (j + 1))).map pnP := by
          rw [htk, List.map_set, Int.toNat_natCast, Nat.zero_add]
          subst hie; rfl
        have hsl : ((byL (gs.take (j + 1))).map pnP).length = (out.map pnP).length := by rw [← hset, List.length_set]
        clear hlm hom htk hp hby c3' hie
        repeat' (first
          | refine Chk.mk (by kernel_rfl) ?_
          | (apply Br.t; · (first | rfl | (simp only [*] <;> rfl)))
          | (apply Br.f; · (first | rfl | (simp only [*] <;> rfl)))
          | refine ⟨_, ⟨rfl, rfl⟩, ?_⟩
          | refine ⟨_, _, ⟨rfl, rfl⟩, rfl, ?_⟩
          | refine ⟨_, Ob.mk ⟨rfl, z0, c1'⟩ ⟨rfl, rfl⟩, ?_⟩
          | refine ⟨_, Ob.mk ⟨rfl, by decide, by decide⟩ ⟨rfl, rfl⟩, ?_⟩
          | refine ⟨_, Ob.mk rfl (Idx.mk _ (Int.natCast_nonneg _) g1 ⟨rfl, rfl⟩), ?_⟩
          | refine ⟨_, _, Ob.mk ⟨rfl, by decide⟩ (Idx.mk _ (Int.natCast_nonneg _) g1 ⟨rfl, rfl⟩), rfl, ?_⟩
          | refine ⟨_, Br.t c1 ⟨rfl, rfl⟩, ?_⟩
          | apply Br.t c1
          | apply Br.f c2
          | apply Br.t c3
          | refine Br.t (congrArg (· == true) c1) ?_
          | refine ⟨_, Ob.mk (by decide) ⟨rfl, rfl⟩, ?_⟩
          | (refine ⟨_, Br.t ?_ ⟨rfl, rfl⟩, ?_⟩; · (first | rfl | (simp only [*] <;> rfl)))
          | (refine ⟨_, Br.f ?_ ⟨rfl, rfl⟩, ?_⟩; · (first | rfl | (simp only [*] <;> rfl)))
          | refine ⟨_, _, Ob.mk (okst rfl rfl rfl) ⟨rfl, rfl⟩, rfl, ?_⟩
          | refine Ob.mk (okst rfl rfl rfl) ?_
          | refine Ob.mk (by decide) ?_
          | refine Br.mkT (fun c => ?_) (fun c => ?_)
          | refine Br.mkF (fun c => ?_) (fun c => ?_)
          | refine Br.mk (fun c => ?_) (fun c => ?_))
        refine ⟨j + 1, hj1, by show gs.length - (j + 1) < gs.length - j; omega, (show 0 ≤ 1 by decide), Trim.mk' ?_ ?_ rfl rfl (by show (1 : Nat) ≤ 2; decide)⟩
        · refine Eq.trans (b := [(3, .osl 0 (out.map pnP).length 0 (out.map pnP).length), _, _, (9, AV.p (ii (IntKind.i64.wrap ((j : Int) + 1))))]) rfl ?_
          rw [ej, ← hsl]; rfl
        · show [some (AObj.buf 2 ((out.map pnP).set (0 + ((i : Nat) : Int).toNat) (.agg [ii out[i].1, ii (IntKind.i64.wrap (out[i].2 + 1))])) none)] = _
          rw [hset]
    · have hby : byI out p = out.take (byAt out p) ++ (p, 1) :: out.drop (byAt out p) := by
        unfold byI
        cases hq : out[byAt out p]? with
        | none => rfl
        | some q =>
          obtain ⟨h1, h2⟩ := List.getElem?_eq_some_iff.1 hq
          dsimp only
          rw [if_neg (fun e => hfd ⟨h1, by rw [h2]; exact e⟩)]
      rw [hby] at htk
      refine LoopX.fam [3, 5, 6, 7, 8, 9] (fun (i : Nat) => ([(3, .p (pnsP out)), (5, .ref 1 0), (6, .p (ii (i : Nat))), (7, .p (gsP gs)), (8, .p (ii (gs.map Gt.pv).length)), (9, .p (ii (j : Nat)))], [none, gC gs[j]]))
        (fun i => i ≤ byAt out p) (fun i => byAt out p - i) 0 (Nat.zero_le _) (Trim.fz [3] (Ob.mk rfl (TrimO.mk' (by
          show [(3, AV.p (.sl .shr 2 (((out.map pnP).drop 0).take (out.map pnP).length))), _, _, _, _, _] = _
          rw [cut_all]; rfl) rfl rfl rfl (Nat.le_refl _)))) ?_
      intro i hi
      have hi : i ≤ byAt out p := hi
      have ei : IntKind.i64.wrap ((i : Int) + 1) = ((i + 1 : Nat) : Int) := by rw [wrap_i64] <;> omega
      by_cases hib : i < byAt out p
      · have hio : i < out.length := by omega
        have c1 : decide ((i : Int) < ((out.map pnP).length : Nat)) = true := decide_eq_true (by omega)
        have g1 : (out.map pnP)[((i : Nat) : Int).toNat]? = some (pnP out[i]) := by rw [Int.toNat_natCast, List.getElem?_map, List.getElem?_eq_getElem hio]; rfl
        have c2 : decide (out[i].1 < gs[j].prod) = true := decide_eq_true (by rw [hp]; exact byAt_lt hib hio)
        clear hlm hom htk hp hby
        repeat' (first
          | refine Chk.mk (by kernel_rfl) ?_
          | (apply Br.t; · (first | rfl | (simp only [*] <;> rfl)))
          | (apply Br.f; · (first | rfl | (simp only [*] <;> rfl)))
          | refine ⟨_, ⟨rfl, rfl⟩, ?_⟩
          | refine ⟨_, _, ⟨rfl, rfl⟩, rfl, ?_⟩
          | refine ⟨_, Idx.mk _ (Int.natCast_nonneg _) g1 ⟨rfl, rfl⟩, ?_⟩
          | refine ⟨_, Ob.mk ⟨by decide, by decide⟩ ⟨rfl, rfl⟩, ?_⟩
          | refine ⟨_, Br.t c1 ⟨rfl, rfl⟩, ?_⟩
          | apply Br.t c1
          | apply Br.t c2
          | refine Br.t (congrArg (· == true) c1) ?_
          | refine ⟨_, Ob.mk (by decide) ⟨rfl, rfl⟩, ?_⟩
          | (refine ⟨_, Br.t ?_ ⟨rfl, rfl⟩, ?_⟩; · (first | rfl | (simp only [*] <;> rfl)))
          | (refine ⟨_, Br.f ?_ ⟨rfl, rfl⟩, ?_⟩; · (first | rfl | (simp only [*] <;> rfl)))
          | refine ⟨_, _, Ob.mk (okst rfl rfl rfl) ⟨rfl, rfl⟩, rfl, ?_⟩
          | refine Ob.mk (okst rfl rfl rfl) ?_
          | refine Ob.mk (by decide) ?_
          | refine Br.mkT (fun c => ?_) (fun c => ?_)
          | refine Br.mkF (fun c => ?_) (fun c => ?_)
          | refine Br.mk (fun c => ?_) (fun c => ?_))
        refine ⟨i + 1, hib, by show byAt out p - (i + 1) < byAt out p - i; omega, Nat.le_refl _, Trim.mk' ?_ rfl rfl rfl (Nat.le_refl _)⟩
        refine Eq.trans (b := [_, _, (6, AV.p (ii (IntKind.i64.wrap ((i : Int) + 1)))), _, _, _]) rfl ?_
        rw [ei]; rfl
      · have hie : i = byAt out p := by omega
        rw [← hie] at htk
        by_cases hio : i < out.length
        · have c1 : decide ((i : Int) < ((out.map pnP).length : Nat)) = true := decide_eq_true (by omega)
          have g1 : (out.map pnP)[((i : Nat) : Int).toNat]? = some (pnP out[i]) := by rw [Int.toNat_natCast, List.getElem?_map, List.getElem?_eq_getElem hio]; rfl
          have c2 : decide (out[i].1 < gs[j].prod) = false := decide_eq_false (by rw [hp]; subst hie; exact byAt_stop hio)
          have c3 : (out[i].1 == gs[j].prod) = false := by
            rw [hp]
            have : ¬ out[i].1 = p := fun e => hfd (by subst hie; exact ⟨hio, e⟩)
            simpa using this
          have b1 : 0 ≤ (0 : Int) ∧ 0 ≤ ((i : Nat) : Int) ∧ ((i : Nat) : Int) ≤ (((out.map pnP).length : Nat) : Int) := ⟨Int.le_refl _, Int.natCast_nonneg _, by omega⟩
          have b2 : 0 ≤ ((i : Nat) : Int) ∧ ((i : Nat) : Int) ≤ (((out.map pnP).length : Nat) : Int) := ⟨Int.natCast_nonneg _, by omega⟩
          obtain ⟨T, hT⟩ : ∃ T, T = (((out.map pnP).take ((i : Nat) : Int).toNat).drop (0 : Int).toNat) := ⟨_, rfl⟩
          obtain ⟨E, hE⟩ : ∃ E, E = (out.map pnP).drop ((i : Nat) : Int).toNat := ⟨_, rfl⟩
          have tt : T = (out.take i).map pnP := by rw [hT, Int.toNat_natCast, List.map_take]; rfl
          have te : E = (out.drop i).map pnP := by rw [hE, Int.toNat_natCast, List.map_drop]
          have tl : T.length ≤ 1000000000 := by rw [tt, List.length_map, List.length_take]; omega
          have el : E.length ≤ 1000000000 := by rw [te, List.length_map, List.length_drop]; omega
          have hv : pnP (p, 1) = PV.agg [ii gs[j].prod, ii 1] := by rw [hp]; rfl
          by_cases hd0 : i = 0
          · have he : T = [] := by rw [tt, hd0]; rfl
            have hX : [PV.agg [ii gs[j].prod, ii 1]] ++ E = (byL (gs.take (j + 1))).map pnP := by rw [htk, te, hd0, ← hv]; rfl
            have l3 : (1 + E.length) * 16 ≤ 140737488355328 := by omega
            rw [hE] at hX l3
            rw [hT] at he
            clear hlm hom htk hp hT hE tt te tl el hby hie
            repeat' (first
              | refine Chk.mk (by kernel_rfl) ?_
              | (apply Br.t; · (first | rfl | (simp only [*] <;> rfl)))
              | (apply Br.f; · (first | rfl | (simp only [*] <;> rfl)))
              | refine ⟨_, ⟨rfl, rfl⟩, ?_⟩
              | refine ⟨_, _, ⟨rfl, rfl⟩, rfl, ?_⟩
              | refine ⟨_, Ob.mk b1 ⟨rfl, rfl⟩, ?_⟩
              | refine ⟨_, Ob.mk b2 ⟨rfl, rfl⟩, ?_⟩
              | refine ⟨_, _, BrL.mk (fun _ => ⟨rfl, rfl⟩) (fun hne => absurd he hne), rfl, ?_⟩
              | refine ⟨_, _, BrL.c (Ob.mk (show (0 + 1) * 16 ≤ 140737488355328 by decide) ⟨rfl, rfl⟩), rfl, ?_⟩
              | refine ⟨_, _, Ob.mk ⟨rfl, rfl, rfl, l3⟩ ⟨rfl, rfl⟩, rfl, ?_⟩
              | refine ⟨_, Idx.mk _ (Int.natCast_nonneg _) g1 ⟨rfl, rfl⟩, ?_⟩
              | refine ⟨_, Ob.mk ⟨by decide, by decide⟩ ⟨rfl, rfl⟩, ?_⟩
              | refine ⟨_, Br.t c1 ⟨rfl, rfl⟩, ?_⟩
              | apply Br.t c1
              | apply Br.f c2
              | apply Br.f c3
              | refine Br.t (congrArg (· == true) c1) ?_
              | refine ⟨_, Ob.mk (by decide) ⟨rfl, rfl⟩, ?_⟩
              | (refine ⟨_, Br.t ?_ ⟨rfl, rfl⟩, ?_⟩; · (first | rfl | (simp only [*] <;> rfl)))
              | (refine ⟨_, Br.f ?_ ⟨rfl, rfl⟩, ?_⟩; · (first | rfl | (simp only [*] <;> rfl)))
              | refine ⟨_, _, Ob.mk (okst rfl rfl rfl) ⟨rfl, rfl⟩, rfl, ?_⟩
              | refine Ob.mk (okst rfl rfl rfl) ?_
              | refine Ob.mk (by decide) ?_
              | refine Br.mkT (fun c => ?_) (fun c => ?_)
              | refine Br.mkF (fun c => ?_) (fun c => ?_)
              | refine Br.mk (fun c => ?_) (fun c => ?_))
            refine ⟨j + 1, hj1, by show gs.length - (j + 1) < gs.length - j; omega, (show 0 ≤ 1 by decide), Trim.mv [] [2] (TrimR.mk' rfl rfl ?_ rfl ?_)⟩
            · show [some (AObj.buf 2 ([PV.agg [ii gs[j].prod, ii 1]] ++ (out.map pnP).drop ((i : Nat) : Int).toNat) none)] = [some (AObj.buf 2 ((byL (gs.take (j + 1))).map pnP) none)]
              rw [hX]
            · refine Eq.trans (b := [AV.osl 2 ([PV.agg [ii gs[j].prod, ii 1]] ++ (out.map pnP).drop ((i : Nat) : Int).toNat).length 0 ([PV.agg [ii gs[j].prod, ii 1]] ++ (out.map pnP).drop ((i : Nat) : Int).toNat).length, _, _, AV.p (ii (IntKind.i64.wrap ((j : Int) + 1)))]) rfl ?_
              rw [hX, ej]; rfl
          · have hne : T ≠ [] := by
              rw [tt]; intro e
              have := congrArg List.length e
              rw [List.length_map, List.length_take] at this
              have h0 : min i out.length = 0 := this
              omega
            have hX : [] ++ T ++ [PV.agg [ii gs[j].prod, ii 1]] ++ E = (byL (gs.take (j + 1))).map pnP := by rw [htk, te, tt, ← hv]; simp
            have l1 : (0 + T.length) * 16 ≤ 140737488355328 := by omega
            have l2 : (([] ++ T).length + 1) * 16 ≤ 140737488355328 := by rw [List.nil_append]; omega
            have l3 : (([] ++ T ++ [PV.agg [ii gs[j].prod, ii 1]]).length + E.length) * 16 ≤ 140737488355328 := by
              have h1 : ([PV.agg [ii gs[j].prod, ii 1]] : List PV).length = 1 := rfl
              rw [List.length_append, List.nil_append, h1]; omega
            rw [hT, hE] at hX l3
            rw [hT] at hne l1 l2
            clear hlm hom htk hp hT hE tt te tl el hby hie
            repeat' (first
              | refine Chk.mk (by kernel_rfl) ?_
              | (apply Br.t; · (first | rfl | (simp only [*] <;> rfl)))
              | (apply Br.f; · (first | rfl | (simp only [*] <;> rfl)))
              | refine ⟨_, ⟨rfl, rfl⟩, ?_⟩
              | refine ⟨_, _, ⟨rfl, rfl⟩, rfl, ?_⟩
              | refine ⟨_, Ob.mk b1 ⟨rfl, rfl⟩, ?_⟩
              | refine ⟨_, Ob.mk b2 ⟨rfl, rfl⟩, ?_⟩
              | refine ⟨_, _, BrL.mk (fun he => absurd he hne) (fun _ => Ob.mk l1 ⟨rfl, rfl⟩), rfl, ?_⟩
              | refine ⟨_, _, Ob.mk ⟨rfl, rfl, rfl, l2⟩ ⟨rfl, rfl⟩, rfl, ?_⟩
              | refine ⟨_, _, Ob.mk ⟨rfl, rfl, rfl, l3⟩ ⟨rfl, rfl⟩, rfl, ?_⟩
              | refine ⟨_, Idx.mk _ (Int.natCast_nonneg _) g1 ⟨rfl, rfl⟩, ?_⟩
              | refine ⟨_, Ob.mk ⟨by decide, by decide⟩ ⟨rfl, rfl⟩, ?_⟩
              | refine ⟨_, Br.t c1 ⟨rfl, rfl⟩, ?_⟩
              | apply Br.t c1
              | apply Br.f c2
              | apply Br.f c3
              | refine Br.t (congrArg (· == true) c1) ?_
              | refine ⟨_, Ob.mk (by decide) ⟨rfl, rfl⟩, ?_⟩
              | (refine ⟨_, Br.t ?_ ⟨rfl, rfl⟩, ?_⟩; · (first | rfl | (simp only [*] <;> rfl)))
              | (refine ⟨_, Br.f ?_ ⟨rfl, rfl⟩, ?_⟩; · (first | rfl | (simp only [*] <;> rfl)))
              | refine ⟨_, _, Ob.mk (okst rfl rfl rfl) ⟨rfl, rfl⟩, rfl, ?_⟩
              | refine Ob.mk (okst rfl rfl rfl) ?_
              | refine Ob.mk (by decide) ?_
              | refine Br.mkT (fun c => ?_) (fun c => ?_)
              | refine Br.mkF (fun c => ?_) (fun c => ?_)
              | refine Br.mk (fun c => ?_) (fun c => ?_))
            refine ⟨j + 1, hj1, by show gs.length - (j + 1) < gs.length - j; omega, (show 0 ≤ 1 by decide), Trim.mv [] [2] (TrimR.mk' rfl rfl ?_ rfl ?_)⟩
            · show [some (AObj.buf 2 ([] ++ (((out.map pnP).take ((i : Nat) : Int).toNat).drop (0 : Int).toNat) ++ [PV.agg [ii gs[j].prod, ii 1]] ++ (out.map pnP).drop ((i : Nat) : Int).toNat) none)] = [some (AObj.buf 2 ((byL (gs.take (j + 1))).map pnP) none)]
              rw [hX]
            · refine Eq.trans (b := [AV.osl 2 ([] ++ (((out.map pnP).take ((i : Nat) : Int).toNat).drop (0 : Int).toNat) ++ [PV.agg [ii gs[j].prod, ii 1]] ++ (out.map pnP).drop ((i : Nat) : Int).toNat).length 0 ([] ++ (((out.map pnP).take ((i : Nat) : Int).toNat).drop (0 : Int).toNat) ++ [PV.agg [ii gs[j].prod, ii 1]] ++ (out.map pnP).drop ((i : Nat) : Int).toNat).length, _, _, AV.p (ii (IntKind.i64.wrap ((j : Int) + 1)))]) rfl ?_
              rw [hX, ej]; rfl
        · have c1 : decide ((i : Int) < ((out.map pnP).length : Nat)) = false := decide_eq_false (by omega)
          have b1 : 0 ≤ (0 : Int) ∧ 0 ≤ ((i : Nat) : Int) ∧ ((i : Nat) : Int) ≤ (((out.map pnP).length : Nat) : Int) := ⟨Int.le_refl _, Int.natCast_nonneg _, by omega⟩
          have b2 : 0 ≤ ((i : Nat) : Int) ∧ ((i : Nat) : Int) ≤ (((out.map pnP).length : Nat) : Int) := ⟨Int.natCast_nonneg _, by omega⟩
          obtain ⟨T, hT⟩ : ∃ T, T = (((out.map pnP).take ((i : Nat) : Int).toNat).drop (0 : Int).toNat) := ⟨_, rfl⟩
          obtain ⟨E, hE⟩ : ∃ E, E = (out.map pnP).drop ((i : Nat) : Int).toNat := ⟨_, rfl⟩
          have tt : T = (out.take i).map pnP := by rw [hT, Int.toNat_natCast, List.map_take]; rfl
          have te : E = (out.drop i).map pnP := by rw [hE, Int.toNat_natCast, List.map_drop]
          have tl : T.length ≤ 1000000000 := by rw [tt, List.length_map, List.length_take]; omega
          have el : E.length ≤ 1000000000 := by rw [te, List.length_map, List.length_drop]; omega
          have hv : pnP (p, 1) = PV.agg [ii gs[j].prod, ii 1] := by rw [hp]; rfl
          by_cases hd0 : i = 0
          · have he : T = [] := by rw [tt, hd0]; rfl
            have hX : [PV.agg [ii gs[j].prod, ii 1]] ++ E = (byL (gs.take (j + 1))).map pnP := by rw [htk, te, hd0, ← hv]; rfl
            have l3 : (1 + E.length) * 16 ≤ 140737488355328 := by omega
            rw [hE] at hX l3
            rw [hT] at he
            clear hlm hom htk hp hT hE tt te tl el hby hie
            repeat' (first
              | refine Chk.mk (by kernel_rfl) ?_
              | (apply Br.t; · (first | rfl | (simp only [*] <;> rfl)))
              | (apply Br.f; · (first | rfl | (simp only [*] <;> rfl)))
              | refine ⟨_, ⟨rfl, rfl⟩, ?_⟩
              | refine ⟨_, _, ⟨rfl, rfl⟩, rfl, ?_⟩
              | refine ⟨_, Ob.mk b1 ⟨rfl, rfl⟩, ?_⟩
              | refine ⟨_, Ob.mk b2 ⟨rfl, rfl⟩, ?_⟩
              | refine ⟨_, _, BrL.mk (fun _ => ⟨rfl, rfl⟩) (fun hne => absurd he hne), rfl, ?_⟩
              | refine ⟨_, _, BrL.c (Ob.mk (show (0 + 1) * 16 ≤ 140737488355328 by decide) ⟨rfl, rfl⟩), rfl, ?_⟩
              | refine ⟨_, _, Ob.mk ⟨rfl, rfl, rfl, l3⟩ ⟨rfl, rfl⟩, rfl, ?_⟩
              | refine ⟨_, Br.f c1 ⟨rfl, rfl⟩, ?_⟩
              | apply Br.f c1
              | refine Br.f (congrArg (· == true) c1) ?_
              | apply Br.f rfl
              | refine ⟨_, Ob.mk (by decide) ⟨rfl, rfl⟩, ?_⟩
              | (refine ⟨_, Br.t ?_ ⟨rfl, rfl⟩, ?_⟩; · (first | rfl | (simp only [*] <;> rfl)))
              | (refine ⟨_, Br.f ?_ ⟨rfl, rfl⟩, ?_⟩; · (first | rfl | (simp only [*] <;> rfl)))
              | refine ⟨_, _, Ob.mk (okst rfl rfl rfl) ⟨rfl, rfl⟩, rfl, ?_⟩
              | refine Ob.mk (okst rfl rfl rfl) ?_
              | refine Ob.mk (by decide) ?_
              | refine Br.mkT (fun c => ?_) (fun c => ?_)
              | refine Br.mkF (fun c => ?_) (fun c => ?_)
              | refine Br.mk (fun c => ?_) (fun c => ?_))
            refine ⟨j + 1, hj1, by show gs.length - (j + 1) < gs.length - j; omega, (show 0 ≤ 1 by decide), Trim.mv [] [2] (TrimR.mk' rfl rfl ?_ rfl ?_)⟩
            · show [some (AObj.buf 2 ([PV.agg [ii gs[j].prod, ii 1]] ++ (out.map pnP).drop ((i : Nat) : Int).toNat) none)] = [some (AObj.buf 2 ((byL (gs.take (j + 1))).map pnP) none)]
              rw [hX]
            · refine Eq.trans (b := [AV.osl 2 ([PV.agg [ii gs[j].prod, ii 1]] ++ (out.map pnP).drop ((i : Nat) : Int).toNat).length 0 ([PV.agg [ii gs[j].prod, ii 1]] ++ (out.map pnP).drop ((i : Nat) : Int).toNat).length, _, _, AV.p (ii (IntKind.i64.wrap ((j : Int) + 1)))]) rfl ?_
              rw [hX, ej]; rfl
          · have hne : T ≠ [] := by
              rw [tt]; intro e
              have := congrArg List.length e
              rw [List.length_map, List.length_take] at this
              have h0 : min i out.length = 0 := this
              omega
            have hX : [] ++ T ++ [PV.agg [ii gs[j].prod, ii 1]] ++ E = (byL (gs.take (j + 1))).map pnP := by rw [htk, te, tt, ← hv]; simp
            have l1 : (0 + T.length) * 16 ≤ 140737488355328 := by omega
            have l2 : (([] ++ T).length + 1) * 16 ≤ 140737488355328 := by rw [List.nil_append]; omega
            have l3 : (([] ++ T ++ [PV.agg [ii gs[j].prod, ii 1]]).length + E.length) * 16 ≤ 140737488355328 := by
              have h1 : ([PV.agg [ii gs[j].prod, ii 1]] : List PV).length = 1 := rfl
              rw [List.length_append, List.nil_append, h1]; omega
            rw [hT, hE] at hX l3
            rw [hT] at hne l1 l2
            clear hlm hom htk hp hT hE tt te tl el hby hie
            repeat' (first
              | refine Chk.mk (by kernel_rfl) ?_
              | (apply Br.t; · (first | rfl | (simp only [*] <;> rfl)))
              | (apply Br.f; · (first | rfl | (simp only [*] <;> rfl)))
              | refine ⟨_, ⟨rfl, rfl⟩, ?_⟩
              | refine ⟨_, _, ⟨rfl, rfl⟩, rfl, ?_⟩
              | refine ⟨_, Ob.mk b1 ⟨rfl, rfl⟩, ?_⟩
              | refine ⟨_, Ob.mk b2 ⟨rfl, rfl⟩, ?_⟩
              | refine ⟨_, _, BrL.mk (fun he => absurd he hne) (fun _ => Ob.mk l1 ⟨rfl, rfl⟩), rfl, ?_⟩
              | refine ⟨_, _, Ob.mk ⟨rfl, rfl, rfl, l2⟩ ⟨rfl, rfl⟩, rfl, ?_⟩
              | refine ⟨_, _, Ob.mk ⟨rfl, rfl, rfl, l3⟩ ⟨rfl, rfl⟩, rfl, ?_⟩
              | refine ⟨_, Br.f c1 ⟨rfl, rfl⟩, ?_⟩
              | apply Br.f c1
              | refine Br.f (congrArg (· == true) c1) ?_
              | apply Br.f rfl
              | refine ⟨_, Ob.mk (by decide) ⟨rfl, rfl⟩, ?_⟩
              | (refine ⟨_, Br.t ?_ ⟨rfl, rfl⟩, ?_⟩; · (first | rfl | (simp only [*] <;> rfl)))
              | (refine ⟨_, Br.f ?_ ⟨rfl, rfl⟩, ?_⟩; · (first | rfl | (simp only [*] <;> rfl)))
              | refine ⟨_, _, Ob.mk (okst rfl rfl rfl) ⟨rfl, rfl⟩, rfl, ?_⟩
              | refine Ob.mk (okst rfl rfl rfl) ?_
              | refine Ob.mk (by decide) ?_
              | refine Br.mkT (fun c => ?_) (fun c => ?_)
              | refine Br.mkF (fun c => ?_) (fun c => ?_)
              | refine Br.mk (fun c => ?_) (fun c => ?_))
            refine ⟨j + 1, hj1, by show gs.length - (j + 1) < gs.length - j; omega, (show 0 ≤ 1 by decide), Trim.mv [] [2] (TrimR.mk' rfl rfl ?_ rfl ?_)⟩
            · show [some (AObj.buf 2 ([] ++ (((out.map pnP).take ((i : Nat) : Int).toNat).drop (0 : Int).toNat) ++ [PV.agg [ii gs[j].prod, ii 1]] ++ (out.map pnP).drop ((i : Nat) : Int).toNat) none)] = [some (AObj.buf 2 ((byL (gs.take (j + 1))).map pnP) none)]
              rw [hX]
            · refine Eq.trans (b := [AV.osl 2 ([] ++ (((out.map pnP).take ((i : Nat) : Int).toNat).drop (0 : Int).toNat) ++ [PV.agg [ii gs[j].prod, ii 1]] ++ (out.map pnP).drop ((i : Nat) : Int).toNat).length 0 ([] ++ (((out.map pnP).take ((i : Nat) : Int).toNat).drop (0 : Int).toNat) ++ [PV.agg [ii gs[j].prod, ii 1]] ++ (out.map pnP).drop ((i : Nat) : Int).toNat).length, _, _, AV.p (ii (IntKind.i64.wrap ((j : Int) + 1)))]) rfl ?_
              rw [hX, ej]; rfl
  · have hc : ¬ (j : Int) < ((gs.map Gt.pv).length : Nat) := of_decide_eq_false hc
    have : j = gs.length := by omega
    subst this
    rw [List.take_length]
    refine Ob.mk rfl ?_
    show K (.p (.sl .shr 2 ((((byL gs).map pnP).drop 0).take ((byL gs).map pnP).length))) s
    rw [cut_all]; exact h
end Go.Proofs.YtlnelaajlhfabaaGreat.AW

open Go Go.Proofs.YtlnelaajlhfabaaGreat.AW Go.Proofs
namespace Go.Proofs.YtlnelaajlhfabaaGreat.AW
set_option maxRecDepth 100000
set_option linter.unusedSimpArgs false
set_option linter.unusedVariables false

/-! ### ledger.Keys -/
theorem nanS_c (a : Tx) (s : Store) (K : AV → Store → Prop) (h : K (.p (.bool false)) s) : Cal Tryz.prog 146 [.p (.str a)] s K := by
  refine Cal.pure (args := [.str a]) ?_
  refine Cal.intro Tryz.func146 (by decide +kernel) rfl rfl ?_
  have e : (!(a == a)) = false := by simp
  rw [← e] at h
  exact h
theorem cmpTx_c (a b : Tx) (s : Store) (K : AV → Store → Prop) (h : K (.p (ii (cmpTx a b))) s) : Cal Tryz.prog 94 [.p (.str a), .p (.str b)] s K := by
  refine Cal.pure (args := [.str a, .str b]) ?_
  refine Cal.intro Tryz.func94 (by decide +kernel) rfl rfl ?_
  unfold cmpTx at h
  cases h1 : Op.bytesLess a b <;> cases h2 : (a == b)
  all_goals
    simp only [h1, h2] at h
    repeat' (first
      | (apply Br.t; · (first | rfl | (simp only [*] <;> rfl)))
      | (apply Br.f; · (first | rfl | (simp only [*] <;> rfl)))
      | refine Ob.mk (okst rfl rfl rfl) ?_
      | refine nanS_c _ _ _ ?_
      | refine Br.mkT (fun c => ?_) (fun c => ?_)
      | refine Br.mkF (fun c => ?_) (fun c => ?_)
      | refine Br.mk (fun c => ?_) (fun c => ?_)
      | exact h
      | (simp only [*, Bool.true_and, Bool.false_and, Bool.true_or, Bool.false_or, Bool.and_true, Bool.and_false, Bool.or_true, Bool.or_false, Bool.not_true, Bool.not_false, if_true, if_false, reduceIte, Bool.false_eq_true] at h; exact h))
theorem or_c (k : SK) (a b : Int) (s : Store) (K : AV → Store → Prop) (h : K (.p (ii (if a ≠ 0 then a else if b ≠ 0 then b else 0))) s) : Cal Tryz.prog 92 [.p (.sl k 1 [ii a, ii b])] s K := by
  refine Cal.pure (args := [.sl k 1 [ii a, ii b]]) ?_
  refine Cal.intro Tryz.func92 (by decide +kernel) rfl rfl ?_
  refine LoopX.fam [3, 6, 7, 8] (fun (i : Nat) => ([(3, .p (ii 0)), (6, .p (.sl k 1 [ii a, ii b])), (7, .p (ii 2)), (8, .p (ii (i : Nat)))], [])) (fun i => i ≤ 2 ∧ (1 ≤ i → a = 0) ∧ (2 ≤ i → b = 0)) (fun i => 2 - i) 0 ⟨Nat.zero_le _, fun q => absurd q (by decide), fun q => absurd q (by decide)⟩ (Trim.mk' rfl rfl rfl rfl (Nat.le_refl _)) ?_
  rintro i ⟨hi, ha, hb⟩
  match i, hi, ha, hb with
  | 0, _, _, _ =>
    refine Br.t rfl ?_
    refine Idx.mk (ii a) (by decide) rfl ?_
    by_cases hc : a = 0
    · refine Br.f (by rw [hc]; rfl) ?_
      exact ⟨1, ⟨by decide, fun _ => hc, fun q => absurd q (by decide)⟩, by decide, Nat.le_refl _, Trim.mk' rfl rfl rfl rfl (Nat.le_refl _)⟩
    · refine Br.t (by simpa using hc) ?_
      rw [if_pos hc] at h; exact h
  | 1, _, ha, _ =>
    have ha := ha (by decide)
    rw [if_neg (by simpa using ha)] at h
    refine Br.t rfl ?_
    refine Idx.mk (ii b) (by decide) rfl ?_
    by_cases hc : b = 0
    · refine Br.f (by rw [hc]; rfl) ?_
      exact ⟨2, ⟨by decide, fun _ => ha, fun _ => hc⟩, by decide, Nat.le_refl _, Trim.mk' rfl rfl rfl rfl (Nat.le_refl _)⟩
    · refine Br.t (by simpa using hc) ?_
      rw [if_pos hc] at h; exact h
  | 2, _, ha, hb =>
    rw [if_neg (by simpa using ha (by decide)), if_neg (by simpa using hb (by decide))] at h
    refine Br.f rfl ?_
    exact h
def stCmp : PV → PV → Int
  | .str a, .str b => cmpK a b
  | _, _ => 0
theorem kcmp_c (a b : Tx) (ha : a.length < 1099511627776) (hb : b.length < 1099511627776) (s : Store) (K : AV → Store → Prop) (h : K (.p (ii (cmpK a b))) s) : Cal Tryz.prog 91 [.p (.str a), .p (.str b)] s K := by
  refine Cal.pure (args := [.str a, .str b]) ?_
  refine Cal.intro Tryz.func91 (by decide +kernel) rfl rfl ?_
  have h1 := rns_le a
  have h2 := rns_le b
  unfold cmpK at h
  refine compare_c (rns a) (rns b) (by omega) (by omega) _ _ ?_
  refine cmpTx_c a b _ _ ?_
  try refine Or.inl ?_
  refine or_c .clip _ _ _ _ ?_
  exact h
theorem st_ord {S : List Tx} (hg : GoodK S) (l : List Tx) (hl : ∀ x, x ∈ l → x ∈ S) : Ord (fun x y => stCmp x y < 0) (l.map PV.str) := by
  have key : ∀ a b, a ∈ l → b ∈ l → (stCmp (.str a) (.str b) < 0 ↔ lessR a b = true) := fun a b ha hb => cmpK_lt hg (hl a ha) (hl b hb)
  refine ⟨fun x hx h => ?_, fun x y z hx hy hz h k => ?_, fun x y z hx hy hz h k q => ?_⟩
  · obtain ⟨a, ha, rfl⟩ := List.mem_map.1 hx
    exact less_self a ((key a a ha ha).1 h)
  · obtain ⟨a, ha, rfl⟩ := List.mem_map.1 hx
    obtain ⟨b, hb, rfl⟩ := List.mem_map.1 hy
    obtain ⟨c, hc, rfl⟩ := List.mem_map.1 hz
    exact (key a c ha hc).2 (less_trans ((key a b ha hb).1 h) ((key b c hb hc).1 k))
  · obtain ⟨a, ha, rfl⟩ := List.mem_map.1 hx
    obtain ⟨b, hb, rfl⟩ := List.mem_map.1 hy
    obtain ⟨c, hc, rfl⟩ := List.mem_map.1 hz
    exact less_ntrans (fun e => h ((key a b ha hb).2 e)) (fun e => k ((key b c hb hc).2 e)) ((key a c ha hc).1 q)
def bo (b : Bool) : PV := .bool b
def txP (l : List Tx) : PV := .sl .shr 1 (l.map PV.str)
theorem keyN_take {gs : List Gt} {j : Nat} (hj : j < gs.length) : keyN (gs.take (j + 1)) = (aPut (keyN (gs.take j)).1 (keyN (gs.take j)).2 gs[j].key true, aCl (keyN (gs.take j)).1 (keyN (gs.take j)).2 gs[j].key) := by rw [take_succ' hj, keyN_snoc]
def kyS (q : List (SE Bool) × Nat) : Option AObj := some (.map .str (q.1.map (sent bo)) q.2)
set_option maxHeartbeats 16000000 in
theorem keys2_c (gs : List Gt) (hg : gs.length ≤ 1000000000) (hS : GoodK (gs.map Gt.key)) (hk : ∀ g, g ∈ gs → g.key.length < 1099511627776) (s : Store) (K : AV → Store → Prop) (h : K (.p (txP (keysL gs))) s) : Cal Tryz.prog 37 [.p (gsP gs)] s K := by
  refine Cal.pure (args := [gsP gs]) ?_
  refine Cal.intro Tryz.func37 (by decide +kernel) rfl rfl ?_
  have hlm := gsL gs
  refine LoopX.fam [3, 9, 10, 11] (fun (j : Nat) => ([(3, .map 0), (9, .p (gsP gs)), (10, .p (ii (gs.map Gt.pv).length)), (11, .p (ii (j : Nat)))], [kyS (keyN (gs.take j))]))
    (fun j => j ≤ gs.length) (fun j => gs.length - j) 0 (Nat.zero_le _) (Trim.mk' rfl rfl rfl rfl (Nat.le_refl _)) ?_
  intro j hj
  have hj : j ≤ gs.length := hj
  refine Br.mk (fun hc => ?_) (fun hc => ?_)
  · have hc : (j : Int) < ((gs.map Gt.pv).length : Nat) := of_decide_eq_true hc
    have hj1 : j < gs.length := by omega
    have ej : IntKind.i64.wrap ((j : Int) + 1) = ((j + 1 : Nat) : Int) := by rw [wrap_i64] <;> omega
    refine Idx.mk _ (Int.natCast_nonneg _) (getG hj1) ?_
    refine Ob.mk (okst rfl rfl rfl) ?_
    have hput := put_sent bo (keyN (gs.take j)).1 (keyN (gs.take j)).2 gs[j].key true
    have hclk := clk_sent bo (keyN (gs.take j)).1 (keyN (gs.take j)).2 gs[j].key
    refine ⟨j + 1, hj1, by show gs.length - (j + 1) < gs.length - j; omega, (show 1 ≤ 1 by decide), Trim.mk' ?_ ?_ rfl rfl (by show (1 : Nat) ≤ 2; decide)⟩
    · refine Eq.trans (b := [_, _, _, (11, AV.p (ii (IntKind.i64.wrap ((j : Int) + 1))))]) rfl ?_
      rw [ej]; rfl
    · show [some (AObj.map .str (mPut ((keyN (gs.take j)).1.map (sent bo)) (keyN (gs.take j)).2 (.str gs[j].key) (bo true)) (mClock ((keyN (gs.take j)).1.map (sent bo)) (keyN (gs.take j)).2 (.str gs[j].key)))] = [kyS (keyN (gs.take (j + 1)))]
      rw [hput, hclk, keyN_take hj1]; rfl
  · have hc : ¬ (j : Int) < ((gs.map Gt.pv).length : Nat) := of_decide_eq_false hc
    have : j = gs.length := by omega
    subst this
    rw [List.take_length]
    have hsame := fun {ks} hp hs => keys_same (ks := ks) hS hp hs
    obtain ⟨hi, hle, hmem⟩ := keyN_inv gs
    obtain ⟨es, hes⟩ : ∃ es, es = (keyN gs).1 := ⟨_, rfl⟩
    obtain ⟨cl, hcl⟩ : ∃ cl, cl = (keyN gs).2 := ⟨_, rfl⟩
    have hne : kyS (keyN gs) = some (.map .str (es.map (sent bo)) cl) := by rw [hes, hcl]; rfl
    rw [hne]
    rw [← hes] at hi hle hsame hmem
    rw [← hcl] at hi
    clear hne hcl hes
    have hin2 : ∀ q, q ∈ es → q.2.1 ∈ gs.map Gt.key := fun q hq => by
      obtain ⟨g, hm, e⟩ := (hmem q.2.1).1 (by rw [aGet_of hi.keys hq]; rfl)
      rw [← e]; exact List.mem_map_of_mem hm
    have hkl : ∀ q, q ∈ es → q.2.1.length < 1099511627776 := fun q hq => by
      obtain ⟨g, hm, e⟩ := List.mem_map.1 (hin2 q hq)
      rw [← e]; exact hk g hm
    have hfst : (es.map (sent bo)).map (·.1) = es.map (·.1) := by rw [List.map_map]; rfl
    refine LoopX.famW [6, 21] (fun (q : List (SE Bool) × List (SE Bool) × Option (Nat × Nat)) => ([(6, .osl 2 (q.1.map fun q => PV.str q.2.1).length 0 (q.1.map fun q => PV.str q.2.1).length), (21, .it 1)],
        [some (.map .str (es.map (sent bo)) cl), some (.iterM 0 ((es.map (sent bo)).map (·.1)) (q.2.1.map (·.1), q.2.2)), some (.buf 1 (q.1.map fun q => PV.str q.2.1))]))
      (fun q => (q.1 ++ q.2.1).Perm es) (fun q => q.2.1.length) ([], es, none) (List.Perm.refl _) (by show 2 ≤ 3; decide) (Trim.wk 2 [(1, none)] rfl (by show 2 ≤ 2; decide) (.inr rfl) (by rw [← hfst]; rfl) rfl rfl rfl rfl ⟨.own 2 rfl rfl, .inl rfl, trivial⟩) ?_
    rintro ⟨out, rest, cur⟩ hq
    have hq : (out ++ rest).Perm es := hq
    have hln : out.length + rest.length = es.length := by have := hq.length_eq; simpa using this
    refine Ob.mk rfl ?_
    refine BrL.mk (fun (he : rest.map (·.1) = []) => ?_) (fun (hne : rest.map (·.1) ≠ []) => ?_)
    · have hr : rest = [] := List.map_eq_nil_iff.1 he
      subst hr
      rw [List.append_nil] at hq
      have hxs : (out.map fun q => PV.str q.2.1) = (out.map fun q => q.2.1).map PV.str := by rw [List.map_map]; rfl
      have hoS : ∀ x, x ∈ (out.map fun q => q.2.1) → x ∈ gs.map Gt.key := fun x hx => by
        obtain ⟨q, hqm, rfl⟩ := List.mem_map.1 hx
        exact hin2 q (hq.mem_iff.1 hqm)
      refine Br.f rfl ?_
      refine Cal.sort1 (id := 2) (xs := out.map fun q => PV.str q.2.1) (ty := none) (show SlLaysF.n6 Tryz.prog sortS_ren from sortQ) sortS rfl ⟨_, Tryz.func90, by decide +kernel, rfl⟩ ⟨_, Tryz.func91, by decide +kernel, rfl⟩ ?_ ?_ ?_ stCmp (by rw [hxs]; exact st_ord hS _ hoS) ?_ ?_
      · rfl
      · intro x hx
        obtain ⟨q, _, rfl⟩ := List.mem_map.1 hx
        rfl
      · rw [List.length_map]; omega
      · intro x y hx hy
        obtain ⟨q, hqm, rfl⟩ := List.mem_map.1 hx
        obtain ⟨p, hpm, rfl⟩ := List.mem_map.1 hy
        exact kcmp_c _ _ (hkl q (hq.mem_iff.1 hqm)) (hkl p (hq.mem_iff.1 hpm)) [] _ ⟨rfl, rfl⟩
      · intro ys hp hs
        have hp2 : ys.Perm ((out.map fun q => q.2.1).map PV.str) := by rw [← hxs]; exact hp
        obtain ⟨ps, rfl, hn⟩ := mapG_of PV.str hp2
        have hl : (ps.map PV.str).length = (out.map fun q => PV.str q.2.1).length := hp.length_eq
        refine Ob.mk hl ?_
        have e : ((ps.map PV.str).drop 0).take (out.map fun q => PV.str q.2.1).length = ps.map PV.str := by rw [List.drop_zero, ← hl, List.take_length]
        have hk := hsame (ks := ps) (hn.trans (hq.map _)) (by
          rw [List.pairwise_map] at hs
          exact hs)
        show K (.p (.sl .shr 1 (((ps.map PV.str).drop 0).take (out.map fun q => PV.str q.2.1).length))) s
        rw [e, hk]; exact h
    · refine Any.mk fun b k v hb hkv => ?_
      obtain ⟨fe, hfe, hent⟩ := List.mem_map.1 hkv
      cases hent
      obtain ⟨fe', hfe', hbe⟩ := List.mem_map.1 hb
      have hin : fe ∈ rest := by
        have : fe' = fe := nd_eqG (f := (·.1)) hi.nd (hq.mem_iff.1 (List.mem_append_right _ hfe')) hfe hbe
        rw [← this]; exact hfe'
      have hndr : (rest.map (·.1)).Nodup := by
        have h1 : ((out ++ rest).map (·.1)).Nodup := (hq.map _).nodup_iff.2 hi.nd
        rw [List.map_append] at h1
        exact (List.nodup_append.1 h1).2.1
      have hpo := perm_outG (f := (·.1)) hndr hin
      have hpl := hpo.length_eq
      rw [List.length_cons] at hpl
      refine Br.t rfl ?_
      refine Ob.mk rfl ⟨.str fe.2.1, bo fe.2.2, Ob.mk hkv ?_⟩
      refine Ob.mk ?_ ?_
      · refine ⟨rfl, rfl, rfl, ?_⟩
        show ((out.map fun q => PV.str q.2.1).length + 1) * 16 ≤ _
        rw [List.length_map]; omega
      · refine ⟨(out ++ [fe], rest.filter (fun q => !(q.1 == fe.1)), some (fe.1, cl)), ?_, by show (rest.filter _).length < rest.length; omega, (show (2 : Nat) ≤ 3 by decide), Trim.mk' ?_ ?_ rfl rfl (show (3 : Nat) ≤ 3 by decide)⟩
        · show ((out ++ [fe]) ++ rest.filter _).Perm es
          rw [List.append_assoc]
          exact ((hpo.symm.append_left out)).trans hq
        · show _ = [(6, AV.osl 2 ((out ++ [fe]).map fun q => PV.str q.2.1).length 0 ((out ++ [fe]).map fun q => PV.str q.2.1).length), _]
          rw [List.map_append]; rfl
        · show _ = [_, some (AObj.iterM 0 _ ((rest.filter (fun q => !(q.1 == fe.1))).map (·.1), _)), some (AObj.buf 1 ((out ++ [fe]).map fun q => PV.str q.2.1) none)]
          have e1 : (rest.filter (fun q => !(q.1 == fe.1))).map (·.1) = (rest.map (·.1)).filter fun x => !(x == fe.1) := by
            rw [List.filter_map]; rfl
          rw [List.map_append, e1]; rfl
end Go.Proofs.YtlnelaajlhfabaaGreat.AW
