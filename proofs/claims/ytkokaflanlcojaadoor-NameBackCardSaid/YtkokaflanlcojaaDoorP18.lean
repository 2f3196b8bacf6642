/- A part of the proof: LC/X21, LC/X22. -/
import Derived.Test.YtkokaflanlcojaaDoorP17
open Go Go.Proofs.YtkokaflanlcojaaDoor.AW Go.Proofs
namespace Go.Proofs.YtkokaflanlcojaaDoor.AW
set_option maxRecDepth 100000
set_option linter.unusedSimpArgs false
set_option linter.unusedVariables false
attribute [local irreducible] Utf8.encode

theorem first_k {out : List Int} {E : Int} (h0 : 0 ≤ E) : ((intsR out).drop (0 + (0 : Int).toNat)).take (E - 0).toNat = (out.take E.toNat).map (.int .i32) := by
  unfold intsR
  rw [Int.sub_zero]
  show ((out.map (PV.int .i32)).drop 0).take E.toNat = _
  rw [List.drop_zero, ← List.map_take]
theorem rest_k {out : List Int} {E : Int} (h0 : 0 ≤ E) (h1 : E ≤ out.length) : ((intsR out).drop (0 + E.toNat)).take (((intsR out).length : Int) - E).toNat = (out.drop E.toNat).map (.int .i32) := by
  rw [intsR_len]
  unfold intsR
  rw [Nat.zero_add, ← List.map_drop, ← List.map_take, List.take_of_length_le (by rw [List.length_drop]; omega)]
theorem split_k (S : List UInt8) (E : Int) (hS : S.length ≤ 80) : (IntKind.i64.wrap (((rns (encs ((rns S).take E.toNat))).length : Int) + ((rns (encs ((rns S).drop E.toNat))).length : Int)) == ((rns S).length : Int)) = true ∧
    (upper (encs ((rns S).take E.toNat)) ++ upper (encs ((rns S).drop E.toNat)) == upper S) = true ∧ (encs ((rns S).take E.toNat)).length ≤ 320 ∧ (encs ((rns S).drop E.toNat)).length ≤ 320 := by
  have ok := okL_rns S
  have hn := rns_le S
  have h1 := encs_len ((rns S).take E.toNat)
  have h2 := encs_len ((rns S).drop E.toNat)
  rw [List.length_take] at h1
  rw [List.length_drop] at h2
  refine ⟨?_, ?_, by omega, by omega⟩
  · rw [rns_encs _ (okL_take ok _), rns_encs _ (okL_drop ok _), List.length_take, List.length_drop, wrap_i64 (by omega) (by omega)]
    simp only [beq_iff_eq]
    omega
  · unfold upper
    rw [rns_encs _ (okL_take ok _), rns_encs _ (okL_drop ok _), ← encs_app, ← List.map_append, List.take_append_drop]
    exact beq_self_eq_true _
theorem twice_k (S : List UInt8) (hS : S.length ≤ 80) (R : Bool) (hR : isRt S = R) : (isRt (S ++ S) == (R && decide (IntKind.i64.wrap (2 * ((rns S).length : Int)) ≤ 40))) = true := by
  have hn := rns_le S
  rw [isRt_twice, hR, wrap_i64 (by omega) (by omega)]
  exact beq_self_eq_true _
theorem upper_cnt (S : List UInt8) : (((rns (upper S)).length : Int) == ((rns S).length : Int)) = true := by
  rw [rns_upper, List.length_map]; exact beq_self_eq_true _

theorem mod_k (x : Int) {n : Nat} (h : 0 < n) (hn : n ≤ 80) : 0 ≤ (IntKind.i64.wrap (x.tmod n + n)).tmod n ∧ (IntKind.i64.wrap (x.tmod n + n)).tmod n ≤ n := by
  have h1 := Int.tmod_lt_of_pos x (show (0 : Int) < n by omega)
  have h2 : -(n : Int) < x.tmod n := by
    have := Int.lt_tmod_of_pos x (show (0 : Int) < n by omega); omega
  rw [wrap_i64 (by omega) (by omega)]
  have h3 := Int.tmod_nonneg (n : Int) (show 0 ≤ x.tmod n + n by omega)
  have h4 := Int.tmod_lt_of_pos (x.tmod n + n) (show (0 : Int) < n by omega)
  omega

set_option maxHeartbeats 4000000 in
theorem nameRunes_c (a : List UInt8) (x : Int) (s : Store) (K : AV → Store → Prop) (h : K (.p (.bool true)) s) : Cal Tryd.prog 10 [.p (.str a), .p (ii x)] s K := by
  refine Cal.pure (args := [.str a, ii x]) ?_
  refine Cal.intro Tryd.func10 (by decide +kernel) rfl rfl ?_
  refine Br.mk (fun ca => ?_) (fun ca => ?_)
  · skip
    refine Ob.mk (len_cut 80 a (by decide) ca) ?_
    have hS : ((a.take (80 : Int).toNat).drop (0 : Int).toNat).length ≤ 80 := cut_bound 80 a
    have hS1 : ((a.take (80 : Int).toNat).drop (0 : Int).toNat).length < 1099511627776 := lt40 hS (by decide)
    have hle := rns_le ((a.take (80 : Int).toNat).drop (0 : Int).toNat)
    refine LoopX.famW [0, 1, 5, 17] (fun (q : List Int × List UInt8 × Nat) => ([(0, .p (.str ((a.take (80 : Int).toNat).drop (0 : Int).toNat))), (1, .p (ii x)), (5, .osl 1 (intsR q.1).length 0 (intsR q.1).length), (17, .it 0)], [some (.iterS q.2.1 q.2.2), some (.buf 1 (intsR q.1))]))
      (fun q => q.1 ++ rns q.2.1 = rns ((a.take (80 : Int).toNat).drop (0 : Int).toNat)) (fun q => q.2.1.length) ([], ((a.take (80 : Int).toNat).drop (0 : Int).toNat), 0) rfl (by show 1 ≤ 2; decide) (Trim.wk 1 [(1, none)] rfl (by show 1 ≤ 1; decide) (.inr rfl) rfl rfl rfl rfl rfl ⟨.inl rfl, .inl rfl, .own 1 rfl rfl, .inl rfl, trivial⟩) ?_
    rintro ⟨out, rest, pos⟩ hq
    change out ++ rns rest = rns ((a.take (80 : Int).toNat).drop (0 : Int).toNat) at hq
    have hol : out.length ≤ ((a.take (80 : Int).toNat).drop (0 : Int).toNat).length := by
      have := congrArg List.length hq
      rw [List.length_append] at this; omega
    refine BrL.mk (fun (he : rest = []) => ?_) (fun (hne : rest ≠ []) => ?_)
    · refine Br.f rfl ?_
      rw [he, rns_nil, List.append_nil] at hq
      subst hq
      by_cases hz : 0 < (rns ((a.take (80 : Int).toNat).drop (0 : Int).toNat)).length
      · have c1 : decide (((intsR (rns ((a.take (80 : Int).toNat).drop (0 : Int).toNat))).length : Int) > 0) = true := by rw [intsR_len]; exact decide_eq_true (by omega)
        have hz1 : ((intsR (rns ((a.take (80 : Int).toNat).drop (0 : Int).toNat))).length : Int) ≠ 0 := by rw [intsR_len]; omega
        have mk0 : 0 ≤ ((IntKind.i64.wrap (x.tmod ((intsR (rns ((a.take (80 : Int).toNat).drop (0 : Int).toNat))).length : Int) + ((intsR (rns ((a.take (80 : Int).toNat).drop (0 : Int).toNat))).length : Int))).tmod ((intsR (rns ((a.take (80 : Int).toNat).drop (0 : Int).toNat))).length : Int)) ∧ ((IntKind.i64.wrap (x.tmod ((intsR (rns ((a.take (80 : Int).toNat).drop (0 : Int).toNat))).length : Int) + ((intsR (rns ((a.take (80 : Int).toNat).drop (0 : Int).toNat))).length : Int))).tmod ((intsR (rns ((a.take (80 : Int).toNat).drop (0 : Int).toNat))).length : Int)) ≤ ((rns ((a.take (80 : Int).toNat).drop (0 : Int).toNat)).length : Int) := by rw [intsR_len]; exact mod_k x hz (by omega)
        refine Br.t c1 (Ob.mk hz1 (Ob.mk hz1 ?_))
        have k0 : 0 ≤ ((IntKind.i64.wrap (x.tmod ((intsR (rns ((a.take (80 : Int).toNat).drop (0 : Int).toNat))).length : Int) + ((intsR (rns ((a.take (80 : Int).toNat).drop (0 : Int).toNat))).length : Int))).tmod ((intsR (rns ((a.take (80 : Int).toNat).drop (0 : Int).toNat))).length : Int)) := mk0.1
        have k1 : ((IntKind.i64.wrap (x.tmod ((intsR (rns ((a.take (80 : Int).toNat).drop (0 : Int).toNat))).length : Int) + ((intsR (rns ((a.take (80 : Int).toNat).drop (0 : Int).toNat))).length : Int))).tmod ((intsR (rns ((a.take (80 : Int).toNat).drop (0 : Int).toNat))).length : Int)) ≤ ((rns ((a.take (80 : Int).toNat).drop (0 : Int).toNat)).length : Int) := mk0.2
        have k1' : ((IntKind.i64.wrap (x.tmod ((intsR (rns ((a.take (80 : Int).toNat).drop (0 : Int).toNat))).length : Int) + ((intsR (rns ((a.take (80 : Int).toNat).drop (0 : Int).toNat))).length : Int))).tmod ((intsR (rns ((a.take (80 : Int).toNat).drop (0 : Int).toNat))).length : Int)) ≤ ((intsR (rns ((a.take (80 : Int).toNat).drop (0 : Int).toNat))).length : Int) := Int.le_trans k1 (by rw [intsR_len]; exact Int.le_refl _)
        obtain ⟨f1, f3, lA, lB⟩ := split_k ((a.take (80 : Int).toNat).drop (0 : Int).toNat) ((IntKind.i64.wrap (x.tmod ((intsR (rns ((a.take (80 : Int).toNat).drop (0 : Int).toNat))).length : Int) + ((intsR (rns ((a.take (80 : Int).toNat).drop (0 : Int).toNat))).length : Int))).tmod ((intsR (rns ((a.take (80 : Int).toNat).drop (0 : Int).toNat))).length : Int)) hS
        refine ⟨_, ⟨rfl, rfl⟩, ?_⟩
        refine ⟨_, ⟨rfl, rfl⟩, ?_⟩
        refine ⟨_, Ob.mk ⟨rfl, Int.le_refl 0, k0, k1'⟩ ⟨rfl, rfl⟩, ?_⟩
        refine ⟨_, Ob.mk rfl (Ob.mk (.inr rfl) ⟨_, first_k k0, rfl, rfl⟩), ?_⟩
        refine ⟨_, ⟨rfl, rfl⟩, ?_⟩
        refine ⟨_, ⟨rfl, rfl⟩, ?_⟩
        refine ⟨_, Ob.mk ⟨rfl, k0, k1', Int.le_refl _⟩ ⟨rfl, rfl⟩, ?_⟩
        refine ⟨_, Ob.mk rfl (Ob.mk (.inr rfl) ⟨_, rest_k k0 k1, rfl, rfl⟩), ?_⟩
        refine ⟨_, ⟨rfl, rfl⟩, ?_⟩
        refine ⟨_, ⟨rfl, rfl⟩, ?_⟩
        refine Chk.mk (by kernel_rfl) ?_
        have lA1 := lt40 lA (by decide)
        have lB1 := lt40 lB (by decide)
        have uS := upper_len ((a.take (80 : Int).toNat).drop (0 : Int).toNat)
        have uA := upper_len (encs ((rns ((a.take (80 : Int).toNat).drop (0 : Int).toNat)).take (((IntKind.i64.wrap (x.tmod ((intsR (rns ((a.take (80 : Int).toNat).drop (0 : Int).toNat))).length : Int) + ((intsR (rns ((a.take (80 : Int).toNat).drop (0 : Int).toNat))).length : Int))).tmod ((intsR (rns ((a.take (80 : Int).toNat).drop (0 : Int).toNat))).length : Int))).toNat))
        have uB := upper_len (encs ((rns ((a.take (80 : Int).toNat).drop (0 : Int).toNat)).drop (((IntKind.i64.wrap (x.tmod ((intsR (rns ((a.take (80 : Int).toNat).drop (0 : Int).toNat))).length : Int) + ((intsR (rns ((a.take (80 : Int).toNat).drop (0 : Int).toNat))).length : Int))).tmod ((intsR (rns ((a.take (80 : Int).toNat).drop (0 : Int).toNat))).length : Int))).toNat))
        have uS1 : (upper ((a.take (80 : Int).toNat).drop (0 : Int).toNat)).length < 1099511627776 := by omega
        have uAB : (upper (encs ((rns ((a.take (80 : Int).toNat).drop (0 : Int).toNat)).take (((IntKind.i64.wrap (x.tmod ((intsR (rns ((a.take (80 : Int).toNat).drop (0 : Int).toNat))).length : Int) + ((intsR (rns ((a.take (80 : Int).toNat).drop (0 : Int).toNat))).length : Int))).tmod ((intsR (rns ((a.take (80 : Int).toNat).drop (0 : Int).toNat))).length : Int))).toNat))).length + (upper (encs ((rns ((a.take (80 : Int).toNat).drop (0 : Int).toNat)).drop (((IntKind.i64.wrap (x.tmod ((intsR (rns ((a.take (80 : Int).toNat).drop (0 : Int).toNat))).length : Int) + ((intsR (rns ((a.take (80 : Int).toNat).drop (0 : Int).toNat))).length : Int))).tmod ((intsR (rns ((a.take (80 : Int).toNat).drop (0 : Int).toNat))).length : Int))).toNat))).length < 9223372036854775808 := by omega
        have hSS : ((a.take (80 : Int).toNat).drop (0 : Int).toNat).length + ((a.take (80 : Int).toNat).drop (0 : Int).toNat).length < 9223372036854775808 := by omega
        have hSS1 : (((a.take (80 : Int).toNat).drop (0 : Int).toNat) ++ ((a.take (80 : Int).toNat).drop (0 : Int).toNat)).length < 1099511627776 := by rw [List.length_append]; omega
        refine ncount_v rfl lA1 _ _ ?_
        refine ncount_v rfl lB1 _ _ ?_
        refine ncount_v rfl hS1 _ _ ?_
        refine Br.t (congrArg (· == true) f1) ?_
        refine Br.t (congrArg (· == true) f1) ?_
        refine upper_v rfl hS1 _ _ ?_
        refine Br.t (congrArg (· == true) f1) ?_
        refine ncount_v rfl uS1 _ _ ?_
        refine Br.t (congrArg (· == true) f1) ?_
        refine Br.t (congrArg (· == true) f1) ?_
        refine ncount_v rfl hS1 _ _ ?_
        refine Br.t (congrArg (· == true) f1) ?_
        refine Br.t f1 ?_
        have f2 := upper_cnt ((a.take (80 : Int).toNat).drop (0 : Int).toNat)
        refine Br.t (congrArg (· == true) f2) ?_
        refine Br.t (congrArg (· == true) f2) ?_
        refine upper_v rfl lA1 _ _ ?_
        refine Br.t (congrArg (· == true) f2) ?_
        refine Br.t (congrArg (· == true) f2) ?_
        refine upper_v rfl lB1 _ _ ?_
        refine Br.t (congrArg (· == true) f2) ?_
        refine Ob.mk uAB ?_
        refine Br.t (congrArg (· == true) f2) ?_
        refine Br.t (congrArg (· == true) f2) ?_
        refine upper_v rfl hS1 _ _ ?_
        refine Br.t (congrArg (· == true) f2) ?_
        refine Br.t f2 ?_
        refine Br.t (congrArg (· == true) f3) ?_
        refine Br.t (congrArg (· == true) f3) ?_
        refine Br.t (congrArg (· == true) f3) ?_
        refine Ob.mk hSS ?_
        refine Br.t (congrArg (· == true) f3) ?_
        refine right_v rfl hSS1 _ _ ?_
        obtain ⟨R, hR⟩ : ∃ R, isRt ((a.take (80 : Int).toNat).drop (0 : Int).toNat) = R := ⟨_, rfl⟩
        have f4 := twice_k ((a.take (80 : Int).toNat).drop (0 : Int).toNat) hS R hR
        refine Br.t (congrArg (· == true) f3) ?_
        refine Br.t (congrArg (· == true) f3) ?_
        refine right_v hR hS1 _ _ ?_
        refine Br.t (congrArg (· == true) f3) ?_
        cases R with
        | false =>
          refine Br.f rfl ?_
          refine Br.f rfl ?_
          refine Br.f rfl ?_
          refine Br.f rfl ?_
          refine Br.t (congrArg (· == true) f3) ?_
          refine Br.f rfl ?_
          refine Br.t (congrArg (· == true) f3) ?_
          refine Br.t f3 ?_
          refine Br.t (congrArg (· == true) f4) ?_
          refine known3_c _ _ ?_
          refine Br.t f4 ?_
          exact h
        | true =>
          refine Br.t rfl ?_
          refine Br.t rfl ?_
          refine ncount_v rfl hS1 _ _ ?_
          refine Br.t rfl ?_
          refine Br.t rfl ?_
          refine Br.t (congrArg (· == true) f3) ?_
          refine Br.t rfl ?_
          refine Br.t (congrArg (· == true) f3) ?_
          refine Br.t f3 ?_
          refine Br.t (congrArg (· == true) f4) ?_
          refine known3_c _ _ ?_
          refine Br.t f4 ?_
          exact h
      · have c1 : decide (((intsR (rns ((a.take (80 : Int).toNat).drop (0 : Int).toNat))).length : Int) > 0) = false := by rw [intsR_len]; exact decide_eq_false (by omega)
        refine Br.f c1 ?_
        have k0 : 0 ≤ (0 : Int) := Int.le_refl 0
        have k1 : (0 : Int) ≤ ((rns ((a.take (80 : Int).toNat).drop (0 : Int).toNat)).length : Int) := Int.natCast_nonneg _
        have k1' : (0 : Int) ≤ ((intsR (rns ((a.take (80 : Int).toNat).drop (0 : Int).toNat))).length : Int) := Int.le_trans k1 (by rw [intsR_len]; exact Int.le_refl _)
        obtain ⟨f1, f3, lA, lB⟩ := split_k ((a.take (80 : Int).toNat).drop (0 : Int).toNat) (0 : Int) hS
        refine ⟨_, ⟨rfl, rfl⟩, ?_⟩
        refine ⟨_, ⟨rfl, rfl⟩, ?_⟩
        refine ⟨_, Ob.mk ⟨rfl, Int.le_refl 0, k0, k1'⟩ ⟨rfl, rfl⟩, ?_⟩
        refine ⟨_, Ob.mk rfl (Ob.mk (.inr rfl) ⟨_, first_k k0, rfl, rfl⟩), ?_⟩
        refine ⟨_, ⟨rfl, rfl⟩, ?_⟩
        refine ⟨_, ⟨rfl, rfl⟩, ?_⟩
        refine ⟨_, Ob.mk ⟨rfl, k0, k1', Int.le_refl _⟩ ⟨rfl, rfl⟩, ?_⟩
        refine ⟨_, Ob.mk rfl (Ob.mk (.inr rfl) ⟨_, rest_k k0 k1, rfl, rfl⟩), ?_⟩
        refine ⟨_, ⟨rfl, rfl⟩, ?_⟩
        refine ⟨_, ⟨rfl, rfl⟩, ?_⟩
        refine Chk.mk (by kernel_rfl) ?_
        have lA1 := lt40 lA (by decide)
        have lB1 := lt40 lB (by decide)
        have uS := upper_len ((a.take (80 : Int).toNat).drop (0 : Int).toNat)
        have uA := upper_len (encs ((rns ((a.take (80 : Int).toNat).drop (0 : Int).toNat)).take ((0 : Int)).toNat))
        have uB := upper_len (encs ((rns ((a.take (80 : Int).toNat).drop (0 : Int).toNat)).drop ((0 : Int)).toNat))
        have uS1 : (upper ((a.take (80 : Int).toNat).drop (0 : Int).toNat)).length < 1099511627776 := by omega
        have uAB : (upper (encs ((rns ((a.take (80 : Int).toNat).drop (0 : Int).toNat)).take ((0 : Int)).toNat))).length + (upper (encs ((rns ((a.take (80 : Int).toNat).drop (0 : Int).toNat)).drop ((0 : Int)).toNat))).length < 9223372036854775808 := by omega
        have hSS : ((a.take (80 : Int).toNat).drop (0 : Int).toNat).length + ((a.take (80 : Int).toNat).drop (0 : Int).toNat).length < 9223372036854775808 := by omega
        have hSS1 : (((a.take (80 : Int).toNat).drop (0 : Int).toNat) ++ ((a.take (80 : Int).toNat).drop (0 : Int).toNat)).length < 1099511627776 := by rw [List.length_append]; omega
        refine ncount_v rfl lA1 _ _ ?_
        refine ncount_v rfl lB1 _ _ ?_
        refine ncount_v rfl hS1 _ _ ?_
        refine Br.t (congrArg (· == true) f1) ?_
        refine Br.t (congrArg (· == true) f1) ?_
        refine upper_v rfl hS1 _ _ ?_
        refine Br.t (congrArg (· == true) f1) ?_
        refine ncount_v rfl uS1 _ _ ?_
        refine Br.t (congrArg (· == true) f1) ?_
        refine Br.t (congrArg (· == true) f1) ?_
        refine ncount_v rfl hS1 _ _ ?_
        refine Br.t (congrArg (· == true) f1) ?_
        refine Br.t f1 ?_
        have f2 := upper_cnt ((a.take (80 : Int).toNat).drop (0 : Int).toNat)
        refine Br.t (congrArg (· == true) f2) ?_
        refine Br.t (congrArg (· == true) f2) ?_
        refine upper_v rfl lA1 _ _ ?_
        refine Br.t (congrArg (· == true) f2) ?_
        refine Br.t (congrArg (· == true) f2) ?_
        refine upper_v rfl lB1 _ _ ?_
        refine Br.t (congrArg (· == true) f2) ?_
        refine Ob.mk uAB ?_
        refine Br.t (congrArg (· == true) f2) ?_
        refine Br.t (congrArg (· == true) f2) ?_
        refine upper_v rfl hS1 _ _ ?_
        refine Br.t (congrArg (· == true) f2) ?_
        refine Br.t f2 ?_
        refine Br.t (congrArg (· == true) f3) ?_
        refine Br.t (congrArg (· == true) f3) ?_
        refine Br.t (congrArg (· == true) f3) ?_
        refine Ob.mk hSS ?_
        refine Br.t (congrArg (· == true) f3) ?_
        refine right_v rfl hSS1 _ _ ?_
        obtain ⟨R, hR⟩ : ∃ R, isRt ((a.take (80 : Int).toNat).drop (0 : Int).toNat) = R := ⟨_, rfl⟩
        have f4 := twice_k ((a.take (80 : Int).toNat).drop (0 : Int).toNat) hS R hR
        refine Br.t (congrArg (· == true) f3) ?_
        refine Br.t (congrArg (· == true) f3) ?_
        refine right_v hR hS1 _ _ ?_
        refine Br.t (congrArg (· == true) f3) ?_
        cases R with
        | false =>
          refine Br.f rfl ?_
          refine Br.f rfl ?_
          refine Br.f rfl ?_
          refine Br.f rfl ?_
          refine Br.t (congrArg (· == true) f3) ?_
          refine Br.f rfl ?_
          refine Br.t (congrArg (· == true) f3) ?_
          refine Br.t f3 ?_
          refine Br.t (congrArg (· == true) f4) ?_
          refine known3_c _ _ ?_
          refine Br.t f4 ?_
          exact h
        | true =>
          refine Br.t rfl ?_
          refine Br.t rfl ?_
          refine ncount_v rfl hS1 _ _ ?_
          refine Br.t rfl ?_
          refine Br.t rfl ?_
          refine Br.t (congrArg (· == true) f3) ?_
          refine Br.t rfl ?_
          refine Br.t (congrArg (· == true) f3) ?_
          refine Br.t f3 ?_
          refine Br.t (congrArg (· == true) f4) ?_
          refine known3_c _ _ ?_
          refine Br.t f4 ?_
          exact h
    · refine Br.t rfl ?_
      have hd : (rest.drop (decode rest).2).length < rest.length := by
        have h3 := decode_pos rest
        have h4 : 0 < rest.length := List.length_pos_iff.2 hne
        simp; omega
      rw [rns_step hne] at hq
      refine Ob.mk ⟨rfl, rfl, rfl, ?_⟩ ?_
      · show ((intsR out).length + 1) * Tryd.prog.types[21].bytes ≤ 140737488355328
        rw [by21, intsR_len]; omega
      refine ⟨(out ++ [((decode rest).1 : Int)], rest.drop (decode rest).2, pos + (decode rest).2), ?_, hd, (show (1 : Nat) ≤ 2 by decide), Trim.mk' ?_ ?_ rfl rfl (show (2 : Nat) ≤ 2 by decide)⟩
      · dsimp only; rw [← hq, List.append_assoc]; rfl
      · show [_, _, _, _] = [_, _, _, _]
        rw [intsR_app]; rfl
      · show _ = [_, _]
        rw [intsR_app]; rfl
  · skip
    have hS : a.length ≤ 80 := no_cut ca
    have hS1 : a.length < 1099511627776 := lt40 hS (by decide)
    have hle := rns_le a
    refine LoopX.famW [0, 1, 5, 17] (fun (q : List Int × List UInt8 × Nat) => ([(0, .p (.str a)), (1, .p (ii x)), (5, .osl 1 (intsR q.1).length 0 (intsR q.1).length), (17, .it 0)], [some (.iterS q.2.1 q.2.2), some (.buf 1 (intsR q.1))]))
      (fun q => q.1 ++ rns q.2.1 = rns a) (fun q => q.2.1.length) ([], a, 0) rfl (by show 1 ≤ 2; decide) (Trim.wk 1 [(1, none)] rfl (by show 1 ≤ 1; decide) (.inr rfl) rfl rfl rfl rfl rfl ⟨.inl rfl, .inl rfl, .own 1 rfl rfl, .inl rfl, trivial⟩) ?_
    rintro ⟨out, rest, pos⟩ hq
    change out ++ rns rest = rns a at hq
    have hol : out.length ≤ a.length := by
      have := congrArg List.length hq
      rw [List.length_append] at this; omega
    refine BrL.mk (fun (he : rest = []) => ?_) (fun (hne : rest ≠ []) => ?_)
    · refine Br.f rfl ?_
      rw [he, rns_nil, List.append_nil] at hq
      subst hq
      by_cases hz : 0 < (rns a).length
      · have c1 : decide (((intsR (rns a)).length : Int) > 0) = true := by rw [intsR_len]; exact decide_eq_true (by omega)
        have hz1 : ((intsR (rns a)).length : Int) ≠ 0 := by rw [intsR_len]; omega
        have mk0 : 0 ≤ ((IntKind.i64.wrap (x.tmod ((intsR (rns a)).length : Int) + ((intsR (rns a)).length : Int))).tmod ((intsR (rns a)).length : Int)) ∧ ((IntKind.i64.wrap (x.tmod ((intsR (rns a)).length : Int) + ((intsR (rns a)).length : Int))).tmod ((intsR (rns a)).length : Int)) ≤ ((rns a).length : Int) := by rw [intsR_len]; exact mod_k x hz (by omega)
        refine Br.t c1 (Ob.mk hz1 (Ob.mk hz1 ?_))
        have k0 : 0 ≤ ((IntKind.i64.wrap (x.tmod ((intsR (rns a)).length : Int) + ((intsR (rns a)).length : Int))).tmod ((intsR (rns a)).length : Int)) := mk0.1
        have k1 : ((IntKind.i64.wrap (x.tmod ((intsR (rns a)).length : Int) + ((intsR (rns a)).length : Int))).tmod ((intsR (rns a)).length : Int)) ≤ ((rns a).length : Int) := mk0.2
        have k1' : ((IntKind.i64.wrap (x.tmod ((intsR (rns a)).length : Int) + ((intsR (rns a)).length : Int))).tmod ((intsR (rns a)).length : Int)) ≤ ((intsR (rns a)).length : Int) := Int.le_trans k1 (by rw [intsR_len]; exact Int.le_refl _)
        obtain ⟨f1, f3, lA, lB⟩ := split_k a ((IntKind.i64.wrap (x.tmod ((intsR (rns a)).length : Int) + ((intsR (rns a)).length : Int))).tmod ((intsR (rns a)).length : Int)) hS
        refine ⟨_, ⟨rfl, rfl⟩, ?_⟩
        refine ⟨_, ⟨rfl, rfl⟩, ?_⟩
        refine ⟨_, Ob.mk ⟨rfl, Int.le_refl 0, k0, k1'⟩ ⟨rfl, rfl⟩, ?_⟩
        refine ⟨_, Ob.mk rfl (Ob.mk (.inr rfl) ⟨_, first_k k0, rfl, rfl⟩), ?_⟩
        refine ⟨_, ⟨rfl, rfl⟩, ?_⟩
        refine ⟨_, ⟨rfl, rfl⟩, ?_⟩
        refine ⟨_, Ob.mk ⟨rfl, k0, k1', Int.le_refl _⟩ ⟨rfl, rfl⟩, ?_⟩
        refine ⟨_, Ob.mk rfl (Ob.mk (.inr rfl) ⟨_, rest_k k0 k1, rfl, rfl⟩), ?_⟩
        refine ⟨_, ⟨rfl, rfl⟩, ?_⟩
        refine ⟨_, ⟨rfl, rfl⟩, ?_⟩
        refine Chk.mk (by kernel_rfl) ?_
        have lA1 := lt40 lA (by decide)
        have lB1 := lt40 lB (by decide)
        have uS := upper_len a
        have uA := upper_len (encs ((rns a).take (((IntKind.i64.wrap (x.tmod ((intsR (rns a)).length : Int) + ((intsR (rns a)).length : Int))).tmod ((intsR (rns a)).length : Int))).toNat))
        have uB := upper_len (encs ((rns a).drop (((IntKind.i64.wrap (x.tmod ((intsR (rns a)).length : Int) + ((intsR (rns a)).length : Int))).tmod ((intsR (rns a)).length : Int))).toNat))
        have uS1 : (upper a).length < 1099511627776 := by omega
        have uAB : (upper (encs ((rns a).take (((IntKind.i64.wrap (x.tmod ((intsR (rns a)).length : Int) + ((intsR (rns a)).length : Int))).tmod ((intsR (rns a)).length : Int))).toNat))).length + (upper (encs ((rns a).drop (((IntKind.i64.wrap (x.tmod ((intsR (rns a)).length : Int) + ((intsR (rns a)).length : Int))).tmod ((intsR (rns a)).length : Int))).toNat))).length < 9223372036854775808 := by omega
        have hSS : a.length + a.length < 9223372036854775808 := by omega
        have hSS1 : (a ++ a).length < 1099511627776 := by rw [List.length_append]; omega
        refine ncount_v rfl lA1 _ _ ?_
        refine ncount_v rfl lB1 _ _ ?_
        refine ncount_v rfl hS1 _ _ ?_
        refine Br.t (congrArg (· == true) f1) ?_
        refine Br.t (congrArg (· == true) f1) ?_
        refine upper_v rfl hS1 _ _ ?_
        refine Br.t (congrArg (· == true) f1) ?_
        refine ncount_v rfl uS1 _ _ ?_
        refine Br.t (congrArg (· == true) f1) ?_
        refine Br.t (congrArg (· == true) f1) ?_
        refine ncount_v rfl hS1 _ _ ?_
        refine Br.t (congrArg (· == true) f1) ?_
        refine Br.t f1 ?_
        have f2 := upper_cnt a
        refine Br.t (congrArg (· == true) f2) ?_
        refine Br.t (congrArg (· == true) f2) ?_
        refine upper_v rfl lA1 _ _ ?_
        refine Br.t (congrArg (· == true) f2) ?_
        refine Br.t (congrArg (· == true) f2) ?_
        refine upper_v rfl lB1 _ _ ?_
        refine Br.t (congrArg (· == true) f2) ?_
        refine Ob.mk uAB ?_
        refine Br.t (congrArg (· == true) f2) ?_
        refine Br.t (congrArg (· == true) f2) ?_
        refine upper_v rfl hS1 _ _ ?_
        refine Br.t (congrArg (· == true) f2) ?_
        refine Br.t f2 ?_
        refine Br.t (congrArg (· == true) f3) ?_
        refine Br.t (congrArg (· == true) f3) ?_
        refine Br.t (congrArg (· == true) f3) ?_
        refine Ob.mk hSS ?_
        refine Br.t (congrArg (· == true) f3) ?_
        refine right_v rfl hSS1 _ _ ?_
        obtain ⟨R, hR⟩ : ∃ R, isRt a = R := ⟨_, rfl⟩
        have f4 := twice_k a hS R hR
        refine Br.t (congrArg (· == true) f3) ?_
        refine Br.t (congrArg (· == true) f3) ?_
        refine right_v hR hS1 _ _ ?_
        refine Br.t (congrArg (· == true) f3) ?_
        cases R with
        | false =>
          refine Br.f rfl ?_
          refine Br.f rfl ?_
          refine Br.f rfl ?_
          refine Br.f rfl ?_
          refine Br.t (congrArg (· == true) f3) ?_
          refine Br.f rfl ?_
          refine Br.t (congrArg (· == true) f3) ?_
          refine Br.t f3 ?_
          refine Br.t (congrArg (· == true) f4) ?_
          refine known3_c _ _ ?_
          refine Br.t f4 ?_
          exact h
        | true =>
          refine Br.t rfl ?_
          refine Br.t rfl ?_
          refine ncount_v rfl hS1 _ _ ?_
          refine Br.t rfl ?_
          refine Br.t rfl ?_
          refine Br.t (congrArg (· == true) f3) ?_
          refine Br.t rfl ?_
          refine Br.t (congrArg (· == true) f3) ?_
          refine Br.t f3 ?_
          refine Br.t (congrArg (· == true) f4) ?_
          refine known3_c _ _ ?_
          refine Br.t f4 ?_
          exact h
      · have c1 : decide (((intsR (rns a)).length : Int) > 0) = false := by rw [intsR_len]; exact decide_eq_false (by omega)
        refine Br.f c1 ?_
        have k0 : 0 ≤ (0 : Int) := Int.le_refl 0
        have k1 : (0 : Int) ≤ ((rns a).length : Int) := Int.natCast_nonneg _
        have k1' : (0 : Int) ≤ ((intsR (rns a)).length : Int) := Int.le_trans k1 (by rw [intsR_len]; exact Int.le_refl _)
        obtain ⟨f1, f3, lA, lB⟩ := split_k a (0 : Int) hS
        refine ⟨_, ⟨rfl, rfl⟩, ?_⟩
        refine ⟨_, ⟨rfl, rfl⟩, ?_⟩
        refine ⟨_, Ob.mk ⟨rfl, Int.le_refl 0, k0, k1'⟩ ⟨rfl, rfl⟩, ?_⟩
        refine ⟨_, Ob.mk rfl (Ob.mk (.inr rfl) ⟨_, first_k k0, rfl, rfl⟩), ?_⟩
        refine ⟨_, ⟨rfl, rfl⟩, ?_⟩
        refine ⟨_, ⟨rfl, rfl⟩, ?_⟩
        refine ⟨_, Ob.mk ⟨rfl, k0, k1', Int.le_refl _⟩ ⟨rfl, rfl⟩, ?_⟩
        refine ⟨_, Ob.mk rfl (Ob.mk (.inr rfl) ⟨_, rest_k k0 k1, rfl, rfl⟩), ?_⟩
        refine ⟨_, ⟨rfl, rfl⟩, ?_⟩
        refine ⟨_, ⟨rfl, rfl⟩, ?_⟩
        refine Chk.mk (by kernel_rfl) ?_
        have lA1 := lt40 lA (by decide)
        have lB1 := lt40 lB (by decide)
        have uS := upper_len a
        have uA := upper_len (encs ((rns a).take ((0 : Int)).toNat))
        have uB := upper_len (encs ((rns a).drop ((0 : Int)).toNat))
        have uS1 : (upper a).length < 1099511627776 := by omega
        have uAB : (upper (encs ((rns a).take ((0 : Int)).toNat))).length + (upper (encs ((rns a).drop ((0 : Int)).toNat))).length < 9223372036854775808 := by omega
        have hSS : a.length + a.length < 9223372036854775808 := by omega
        have hSS1 : (a ++ a).length < 1099511627776 := by rw [List.length_append]; omega
        refine ncount_v rfl lA1 _ _ ?_
        refine ncount_v rfl lB1 _ _ ?_
        refine ncount_v rfl hS1 _ _ ?_
        refine Br.t (congrArg (· == true) f1) ?_
        refine Br.t (congrArg (· == true) f1) ?_
        refine upper_v rfl hS1 _ _ ?_
        refine Br.t (congrArg (· == true) f1) ?_
        refine ncount_v rfl uS1 _ _ ?_
        refine Br.t (congrArg (· == true) f1) ?_
        refine Br.t (congrArg (· == true) f1) ?_
        refine ncount_v rfl hS1 _ _ ?_
        refine Br.t (congrArg (· == true) f1) ?_
        refine Br.t f1 ?_
        have f2 := upper_cnt a
        refine Br.t (congrArg (· == true) f2) ?_
        refine Br.t (congrArg (· == true) f2) ?_
        refine upper_v rfl lA1 _ _ ?_
        refine Br.t (congrArg (· == true) f2) ?_
        refine Br.t (congrArg (· == true) f2) ?_
        refine upper_v rfl lB1 _ _ ?_
        refine Br.t (congrArg (· == true) f2) ?_
        refine Ob.mk uAB ?_
        refine Br.t (congrArg (· == true) f2) ?_
        refine Br.t (congrArg (· == true) f2) ?_
        refine upper_v rfl hS1 _ _ ?_
        refine Br.t (congrArg (· == true) f2) ?_
        refine Br.t f2 ?_
        refine Br.t (congrArg (· == true) f3) ?_
        refine Br.t (congrArg (· == true) f3) ?_
        refine Br.t (congrArg (· == true) f3) ?_
        refine Ob.mk hSS ?_
        refine Br.t (congrArg (· == true) f3) ?_
        refine right_v rfl hSS1 _ _ ?_
        obtain ⟨R, hR⟩ : ∃ R, isRt a = R := ⟨_, rfl⟩
        have f4 := twice_k a hS R hR
        refine Br.t (congrArg (· == true) f3) ?_
        refine Br.t (congrArg (· == true) f3) ?_
        refine right_v hR hS1 _ _ ?_
        refine Br.t (congrArg (· == true) f3) ?_
        cases R with
        | false =>
          refine Br.f rfl ?_
          refine Br.f rfl ?_
          refine Br.f rfl ?_
          refine Br.f rfl ?_
          refine Br.t (congrArg (· == true) f3) ?_
          refine Br.f rfl ?_
          refine Br.t (congrArg (· == true) f3) ?_
          refine Br.t f3 ?_
          refine Br.t (congrArg (· == true) f4) ?_
          refine known3_c _ _ ?_
          refine Br.t f4 ?_
          exact h
        | true =>
          refine Br.t rfl ?_
          refine Br.t rfl ?_
          refine ncount_v rfl hS1 _ _ ?_
          refine Br.t rfl ?_
          refine Br.t rfl ?_
          refine Br.t (congrArg (· == true) f3) ?_
          refine Br.t rfl ?_
          refine Br.t (congrArg (· == true) f3) ?_
          refine Br.t f3 ?_
          refine Br.t (congrArg (· == true) f4) ?_
          refine known3_c _ _ ?_
          refine Br.t f4 ?_
          exact h
    · refine Br.t rfl ?_
      have hd : (rest.drop (decode rest).2).length < rest.length := by
        have h3 := decode_pos rest
        have h4 : 0 < rest.length := List.length_pos_iff.2 hne
        simp; omega
      rw [rns_step hne] at hq
      refine Ob.mk ⟨rfl, rfl, rfl, ?_⟩ ?_
      · show ((intsR out).length + 1) * Tryd.prog.types[21].bytes ≤ 140737488355328
        rw [by21, intsR_len]; omega
      refine ⟨(out ++ [((decode rest).1 : Int)], rest.drop (decode rest).2, pos + (decode rest).2), ?_, hd, (show (1 : Nat) ≤ 2 by decide), Trim.mk' ?_ ?_ rfl rfl (show (2 : Nat) ≤ 2 by decide)⟩
      · dsimp only; rw [← hq, List.append_assoc]; rfl
      · show [_, _, _, _] = [_, _, _, _]
        rw [intsR_app]; rfl
      · show _ = [_, _]
        rw [intsR_app]; rfl
end Go.Proofs.YtkokaflanlcojaaDoor.AW

open Go Go.Proofs.YtkokaflanlcojaaDoor.AW Go.Proofs
namespace Go.Proofs.YtkokaflanlcojaaDoor.AW
set_option maxRecDepth 100000
set_option linter.unusedSimpArgs false
set_option linter.unusedVariables false
attribute [local irreducible] Utf8.encode

/-! ### A file's name tells its base and kind -/
def asI (l : List UInt8) : List Int := l.map fun c => (c.toNat : Int)
theorem rns_ascs : ∀ (l : List UInt8), (∀ c ∈ l, c.toNat < 128) → ∀ y, rns (l ++ y) = asI l ++ rns y
  | [], _, y => rfl
  | c :: l, h, y => by
    rw [List.cons_append, rns_ascii (h c (by simp)), rns_ascs l (fun d hd => h d (by simp [hd]))]; rfl
theorem cmpR_step (x y : Int) (a b : List Int) : cmpR (x :: a) (y :: b) = if cmp1 x y ≠ 0 then cmp1 x y else cmpR a b := by rw [cmpR]
theorem d1_nat {d : Nat} (h : d < 10) : ((d1 d).toNat : Int) = 48 + d := by
  have := d1_val h
  match d, h with
  | 0, _ | 1, _ | 2, _ | 3, _ | 4, _ | 5, _ | 6, _ | 7, _ | 8, _ | 9, _ => rfl
theorem cmp_dtxt : ∀ (n r q : Nat), r < 10 ^ n → q < 10 ^ n → ∀ T1 T2, cmpR (asI (dtxt r n) ++ T1) (asI (dtxt q n) ++ T2) = if cmp1 r q ≠ 0 then cmp1 r q else cmpR T1 T2
  | 0, r, q, hr, hq, T1, T2 => by
    have h1 : r = 0 := by simpa using hr
    have h2 : q = 0 := by simpa using hq
    subst h1; subst h2
    rfl
  | n + 1, r, q, hr, hq, T1, T2 => by
    rw [Nat.pow_succ] at hr hq
    have e : ∀ U : Nat, ∀ T, asI (dtxt U (n + 1)) ++ T = asI (dtxt (U / 10) n) ++ (((48 : Int) + (U % 10 : Nat)) :: T) := fun U T => by
      rw [dtxt]; unfold asI
      rw [List.map_append, List.map_cons, List.map_nil, List.append_assoc, d1_nat (Nat.mod_lt _ (by decide))]; rfl
    rw [e r, e q, cmp_dtxt n _ _ (by omega) (by omega), cmpR_step]
    unfold cmp1
    have h1 := Nat.div_add_mod r 10
    have h2 := Nat.div_add_mod q 10
    rcases Nat.lt_trichotomy (r / 10) (q / 10) with h | h | h
    · have h3 : (r : Int) < q := by omega
      have h4 : ((r / 10 : Nat) : Int) < (q / 10 : Nat) := by omega
      rw [if_pos h4, if_pos h3]; rfl
    · have h4 : ¬ ((r / 10 : Nat) : Int) < (q / 10 : Nat) := by omega
      have h5 : ¬ ((q / 10 : Nat) : Int) < (r / 10 : Nat) := by omega
      rw [if_neg h4, if_neg h5, if_neg (show ¬ ((0 : Int) ≠ 0) from fun z => z rfl)]
      rcases Nat.lt_trichotomy (r % 10) (q % 10) with k | k | k
      · rw [if_pos (show (48 : Int) + (r % 10 : Nat) < 48 + (q % 10 : Nat) by omega), if_pos (show (r : Int) < q by omega)]
      · rw [if_neg (show ¬ (48 : Int) + (r % 10 : Nat) < 48 + (q % 10 : Nat) by omega), if_neg (show ¬ (48 : Int) + (q % 10 : Nat) < 48 + (r % 10 : Nat) by omega), if_neg (show ¬ (r : Int) < q by omega), if_neg (show ¬ (q : Int) < r by omega)]
      · rw [if_neg (show ¬ (48 : Int) + (r % 10 : Nat) < 48 + (q % 10 : Nat) by omega), if_pos (show (48 : Int) + (q % 10 : Nat) < 48 + (r % 10 : Nat) by omega), if_neg (show ¬ (r : Int) < q by omega), if_pos (show (q : Int) < r by omega)]
    · have h3 : ¬ (r : Int) < q := by omega
      have h3' : (q : Int) < r := by omega
      have h4 : ¬ ((r / 10 : Nat) : Int) < (q / 10 : Nat) := by omega
      have h5 : ((q / 10 : Nat) : Int) < (r / 10 : Nat) := by omega
      rw [if_neg h4, if_pos h5, if_neg h3, if_pos h3']; rfl

def fname (r : Nat) (k : List UInt8) : List UInt8 := dtxt r 20 ++ [46] ++ k
theorem rns_fname (r : Nat) (k : List UInt8) : rns (fname r k) = asI (dtxt r 20) ++ 46 :: rns k := by
  have e : fname r k = dtxt r 20 ++ 46 :: k := by unfold fname; rw [List.append_assoc]; rfl
  rw [e, rns_ascs _ (fun c hc => by have := dtxt_digs r 20 c hc; omega), rns_ascii (by decide)]; rfl
theorem less_fname {r q : Nat} (hr : r ≤ 1099511627775) (hq : q ≤ 1099511627775) (k : List UInt8) : lessR (fname r k) (fname q k) = decide ((r : Int) < q) := by
  have hp : (1099511627775 : Nat) < 10 ^ 20 := by decide
  unfold lessR
  rw [rns_fname, rns_fname, cmp_dtxt 20 r q (by omega) (by omega), cmpR_self]
  rcases Int.lt_trichotomy (r : Int) q with h | h | h
  · have c : cmp1 (r : Int) q = -1 := by unfold cmp1; rw [if_pos h]
    rw [c, decide_eq_true h]; rfl
  · have c : cmp1 (r : Int) q = 0 := by unfold cmp1; rw [if_neg (by omega), if_neg (by omega)]
    rw [c, decide_eq_false (show ¬ (r : Int) < q by omega)]; rfl
  · have c : cmp1 (r : Int) q = 1 := by unfold cmp1; rw [if_neg (by omega), if_pos h]
    rw [c, decide_eq_false (show ¬ (r : Int) < q by omega)]; rfl
theorem file_fname {r : Nat} (hr : r ≤ 1099511627775) {k : List UInt8} (hk : isKd k = true) : fileS r k = (fname r k, true) := by
  unfold fileS
  rw [if_pos ⟨Int.natCast_nonneg r, by omega, hk⟩]; rfl
theorem take_fname (r : Nat) (k : List UInt8) : (fname r k).take 20 = dtxt r 20 ∧ (fname r k).drop 21 = k := by
  have e : fname r k = dtxt r 20 ++ ([46] ++ k) := by unfold fname; rw [List.append_assoc]
  have hl := dtxt_len 20 r
  constructor
  · rw [e, List.take_append_of_le_length (by omega), List.take_of_length_le (by omega)]
  · unfold fname
    rw [List.drop_append_of_le_length (by simp [hl]), List.drop_of_length_le (by simp [hl])]; rfl
theorem parse_fname {r : Nat} (hr : r ≤ 1099511627775) {k : List UInt8} (hk : isKd k = true) : parseS (fname r k) = ((r : Int), k, true) := by
  have hp : (1099511627775 : Nat) < 10 ^ 20 := by decide
  obtain ⟨h1, h2⟩ := take_fname r k
  unfold parseS
  rw [h1, h2, valT_dtxt 20 r (by omega), if_pos (file_fname hr hk)]
theorem eq_fname {r q : Nat} (hr : r ≤ 1099511627775) (hq : q ≤ 1099511627775) (k : List UInt8) : ((fname r k == fname q k) == ((r : Int) == (q : Int))) = true := by
  have hp : (1099511627775 : Nat) < 10 ^ 20 := by decide
  by_cases h : r = q
  · subst h
    rw [beq_self_eq_true, beq_self_eq_true]; rfl
  · have h1 : ¬ fname r k = fname q k := fun e => by
      have := congrArg (fun l => valT (l.take 20)) e
      simp only [(take_fname _ _).1, valT_dtxt 20 r (by omega), valT_dtxt 20 q (by omega)] at this
      exact h this
    have h2 : ¬ (r : Int) = q := by omega
    rw [beq_eq_false_iff_ne.2 h1, beq_eq_false_iff_ne.2 h2]; rfl
theorem isNm_digit {c : UInt8} (h : 48 ≤ c.toNat ∧ c.toNat ≤ 57) : isNm c.toNat = true := by
  unfold isNm
  have h1 : decide (48 ≤ c.toNat) = true := decide_eq_true h.1
  have h2 : decide (c.toNat ≤ 57) = true := decide_eq_true h.2
  rw [h1, h2]; simp
theorem right_fname (r : Nat) {k : List UInt8} (hk : isKd k = true) (hl : k.length ≤ 8) : isRt (fname r k) = true := by
  have h1 : isRt k = true := by
    unfold isKd at hk
    exact (Bool.and_eq_true _ _ ▸ hk : _ ∧ _).1
  unfold isRt at h1 ⊢
  rw [Bool.and_eq_true] at h1
  rw [rns_fname]
  have hn := rns_le k
  have hd : (asI (dtxt r 20)).all (fun x => isNm x.toNat) = true := by
    rw [List.all_eq_true]
    intro x hx
    obtain ⟨c, hc, rfl⟩ := List.mem_map.1 hx
    rw [Int.toNat_natCast]
    exact isNm_digit (dtxt_digs r 20 c hc)
  have hlen : (asI (dtxt r 20)).length = 20 := by unfold asI; rw [List.length_map, dtxt_len]
  rw [List.all_append, hd, List.all_cons, h1.1, List.length_append, List.length_cons, hlen, decide_eq_true (by omega), decide_eq_true (by omega)]
  rfl
theorem count_fname (r : Nat) {k : List UInt8} (hl : k.length ≤ 8) : (((rns (fname r k)).length : Int) == IntKind.i64.wrap (21 + ((rns k).length : Int))) = true := by
  have hn := rns_le k
  have hlen : (asI (dtxt r 20)).length = 20 := by unfold asI; rw [List.length_map, dtxt_len]
  rw [rns_fname, List.length_append, List.length_cons, hlen, wrap_i64 (by omega) (by omega)]
  simp only [beq_iff_eq]
  omega
theorem fname_len (r : Nat) {k : List UInt8} (hl : k.length ≤ 8) : (fname r k).length < 1099511627776 := by
  unfold fname
  simp only [List.length_append, dtxt_len, List.length_cons, List.length_nil]; omega

def knds5 : List (List UInt8) := [[108, 111, 103], [105, 110, 100, 101, 120], [115, 110, 97, 112, 115, 104, 111, 116], [97, 98, 111, 114, 116, 115], [228, 184, 150]]
theorem knd5_at (x : Int) : 0 ≤ (IntKind.i64.wrap (x.tmod 5 + 5)).tmod 5 ∧ ∃ k, (knds5.map PV.str)[((IntKind.i64.wrap (x.tmod 5 + 5)).tmod 5).toNat]? = some (.str k) ∧ k.length ≤ 8 ∧ isKd k = true := by
  have h1 := Int.tmod_lt_of_pos x (show (0 : Int) < 5 by omega)
  have h2 : -(5 : Int) < x.tmod 5 := by
    have := Int.lt_tmod_of_pos x (show (0 : Int) < 5 by omega); omega
  rw [wrap_i64 (by omega) (by omega)]
  have h3 := Int.tmod_nonneg (5 : Int) (show 0 ≤ x.tmod 5 + 5 by omega)
  have h4 := Int.tmod_lt_of_pos (x.tmod 5 + 5) (show (0 : Int) < 5 by omega)
  refine ⟨h3, ?_⟩
  obtain ⟨r, hr⟩ : ∃ r : Nat, (x.tmod 5 + 5).tmod 5 = (r : Int) := ⟨_, (Int.toNat_of_nonneg h3).symm⟩
  rw [hr] at h4 ⊢
  rw [Int.toNat_natCast]
  match r, (by omega : r < 5) with
  | 0, _ => exact ⟨_, rfl, by decide, by decide +kernel⟩
  | 1, _ => exact ⟨_, rfl, by decide, by decide +kernel⟩
  | 2, _ => exact ⟨_, rfl, by decide, by decide +kernel⟩
  | 3, _ => exact ⟨_, rfl, by decide, by decide +kernel⟩
  | 4, _ => exact ⟨_, rfl, by decide, by decide +kernel⟩

theorem nameBack_c (a b x : Int) (s : Store) (K : AV → Store → Prop) (h : K (.p (.bool true)) s) : Cal Tryd.prog 8 [.p (ii a), .p (ii b), .p (ii x)] s K := by
  refine Cal.pure (args := [ii a, ii b, ii x]) ?_
  refine Cal.intro Tryd.func8 (by decide +kernel) rfl rfl ?_
  obtain ⟨k0, kd, hkd, hkl, hk⟩ := knd5_at x
  obtain ⟨r, hr, hr1⟩ := and_mask a 1099511627775 (by decide)
  obtain ⟨q, hq, hq1⟩ := and_mask b 1099511627775 (by decide)
  change bits .and .i64 a 1099511627775 = _ at hr
  change bits .and .i64 b 1099511627775 = _ at hq
  have hF1 : fileS (bits .and .i64 a 1099511627775) kd = (fname r kd, true) := by rw [hr]; exact file_fname hr1 hk
  have hF2 : fileS (bits .and .i64 b 1099511627775) kd = (fname q kd, true) := by rw [hq]; exact file_fname hq1 hk
  have hP := parse_fname hr1 hk
  have g1 : ((r : Int) == bits .and .i64 a 1099511627775) = true := by rw [hr]; simp
  have g2 : (kd == kd) = true := by simp
  have hR := right_fname r hk hkl
  have hL := less_fname hr1 hq1 kd
  have g3 : (lessR (fname r kd) (fname q kd) == decide (bits .and .i64 a 1099511627775 < bits .and .i64 b 1099511627775)) = true := by rw [hr, hq, hL]; simp
  have g4 : ((fname r kd == fname q kd) == (bits .and .i64 a 1099511627775 == bits .and .i64 b 1099511627775)) = true := by rw [hr, hq]; exact eq_fname hr1 hq1 kd
  have g5 := count_fname r hkl
  have lk : kd.length < 1099511627776 := by omega
  have l1 := fname_len r hkl
  have l2 := fname_len q hkl
  refine Ob.mk (by decide) (Ob.mk (by decide) ?_)
  refine Idx.mk _ k0 hkd ?_
  refine file_v hF1 lk _ _ ?_
  refine file_v hF2 lk _ _ ?_
  refine nparse_v hP l1 _ _ ?_
  repeat refine Br.t rfl ?_
  refine Br.t (congrArg (· == true) g1) ?_
  refine Br.t (congrArg (· == true) g1) ?_
  refine Br.t (congrArg (· == true) g1) ?_
  refine Br.t g1 ?_
  refine Br.t (congrArg (· == true) g2) ?_
  refine Br.t (congrArg (· == true) g2) ?_
  refine right_v hR l1 _ _ ?_
  refine Br.t g2 ?_
  refine Br.t rfl ?_
  refine Br.t rfl ?_
  refine Br.t rfl ?_
  refine less_v rfl l1 l2 _ _ ?_
  refine Br.t rfl ?_
  refine Br.t rfl ?_
  refine Br.t rfl ?_
  refine Br.t rfl ?_
  refine Br.t rfl ?_
  iterate 7 refine Br.t (congrArg (· == true) g3) ?_
  refine Br.t g3 ?_
  refine Br.t (congrArg (· == true) g4) ?_
  refine Br.t (congrArg (· == true) g4) ?_
  refine ncount_v rfl l1 _ _ ?_
  refine Br.t (congrArg (· == true) g4) ?_
  refine Br.t (congrArg (· == true) g4) ?_
  refine ncount_v rfl lk _ _ ?_
  refine Br.t (congrArg (· == true) g4) ?_
  refine Br.t (congrArg (· == true) g4) ?_
  refine Br.t g4 ?_
  refine Br.t (congrArg (· == true) g5) ?_
  refine known3_c _ _ ?_
  refine Br.t g5 ?_
  exact h
end Go.Proofs.YtkokaflanlcojaaDoor.AW
