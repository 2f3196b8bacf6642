/- A part of the proof: LC/X21. -/
import Derived.Test.YtkokaflanlcojaaDoorP17
open Go Go.Proofs.YtkokaflanlcojaaDoor.AW Go.Proofs
namespace Go.Proofs.YtkokaflanlcojaaDoor.AW
set_option maxRecDepth 100000
set_option linter.unusedSimpArgs false
set_option linter.unusedVariables false
attribute [local irreducible] Utf8.encode

theorem first_k {out : List Int} {E : Int} (h0 : 0 ≤ E) : ((intsR out).drop (0 + (0 : Int).toNat)).take (E - 0).toNat = (out.take E.toNat).map (.int .i32) := by
  unfold intsR
  rw [Int.sub_zero]
  show ((out.map (PV.int .i32)).drop 0).take E.toNat = _
  rw [List.drop_zero, ← List.map_take]
theorem rest_k {out : List Int} {E : Int} (h0 : 0 ≤ E) (h1 : E ≤ out.length) : ((intsR out).drop (0 + E.toNat)).take (((intsR out).length : Int) - E).toNat = (out.drop E.toNat).map (.int .i32) := by
  rw [intsR_len]
  unfold intsR
  rw [Nat.zero_add, ← List.map_drop, ← List.map_take, List.take_of_length_le (by rw [List.length_drop]; omega)]
theorem split_k (S : List UInt8) (E : Int) (hS : S.length ≤ 80) : (IntKind.i64.wrap (((rns (encs ((rns S).take E.toNat))).length : Int) + ((rns (encs ((rns S).drop E.toNat))).length : Int)) == ((rns S).length : Int)) = true ∧
    (upper (encs ((rns S).take E.toNat)) ++ upper (encs ((rns S).drop E.toNat)) == upper S) = true ∧ (encs ((rns S).take E.toNat)).length ≤ 320 ∧ (encs ((rns S).drop E.toNat)).length ≤ 320 := by
  have ok := okL_rns S
  have hn := rns_le S
  have h1 := encs_len ((rns S).take E.toNat)
  have h2 := encs_len ((rns S).drop E.toNat)
  rw [List.length_take] at h1
  rw [List.length_drop] at h2
  refine ⟨?_, ?_, by omega, by omega⟩
  · rw [rns_encs _ (okL_take ok _), rns_encs _ (okL_drop ok _), List.length_take, List.length_drop, wrap_i64 (by omega) (by omega)]
    simp only [beq_iff_eq]
    omega
  · unfold upper
    rw [rns_encs _ (okL_take ok _), rns_encs _ (okL_drop ok _), ← encs_app, ← List.map_append, List.take_append_drop]
    exact beq_self_eq_true _
theorem twice_k (S : List UInt8) (hS : S.length ≤ 80) (R : Bool) (hR : isRt S = R) : (isRt (S ++ S) == (R && decide (IntKind.i64.wrap (2 * ((rns S).length : Int)) ≤ 40))) = true := by
  have hn := rns_le S
  rw [isRt_twice, hR, wrap_i64 (by omega) (by omega)]
  exact beq_self_eq_true _
theorem upper_cnt (S : List UInt8) : (((rns (upper S)).length : Int) == ((rns S).length : Int)) = true := by
  rw [rns_upper, List.length_map]; exact beq_self_eq_true _

theorem mod_k (x : Int) {n : Nat} (h : 0 < n) (hn : n ≤ 80) : 0 ≤ (IntKind.i64.wrap (x.tmod n + n)).tmod n ∧ (IntKind.i64.wrap (x.tmod n + n)).tmod n ≤ n := by
  have h1 := Int.tmod_lt_of_pos x (show (0 : Int) < n by omega)
  have h2 : -(n : Int) < x.tmod n := by
    have := Int.lt_tmod_of_pos x (show (0 : Int) < n by omega); omega
  rw [wrap_i64 (by omega) (by omega)]
  have h3 := Int.tmod_nonneg (n : Int) (show 0 ≤ x.tmod n + n by omega)
  have h4 := Int.tmod_lt_of_pos (x.tmod n + n) (show (0 : Int) < n by omega)
  omega

set_option maxHeartbeats 4000000 in
theorem nameRunes_c (a : List UInt8) (x : Int) (s : Store) (K : AV → Store → Prop) (h : K (.p (.bool true)) s) : Cal Tryd.prog 10 [.p (.str a), .p (ii x)] s K := by
  refine Cal.pure (args := [.str a, ii x]) ?_
  refine Cal.intro Tryd.func10 (by decide +kernel) rfl rfl ?_
  refine Br.mk (fun ca => ?_) (fun ca => ?_)
  · skip
    refine Ob.mk (len_cut 80 a (by decide) ca) ?_
    have hS : ((a.take (80 : Int).toNat).drop (0 : Int).toNat).length ≤ 80 := cut_bound 80 a
    have hS1 : ((a.take (80 : Int).toNat).drop (0 : Int).toNat).length < 1099511627776 := lt40 hS (by decide)
    have hle := rns_le ((a.take (80 : Int).toNat).drop (0 : Int).toNat)
    refine LoopX.famW [0, 1, 5, 17] (fun (q : List Int × List UInt8 × Nat) => ([(0, .p (.str ((a.take (80 : Int).toNat).drop (0 : Int).toNat))), (1, .p (ii x)), (5, .osl 1 (intsR q.1).length 0 (intsR q.1).length), (17, .it 0)], [some (.iterS q.2.1 q.2.2), some (.buf 1 (intsR q.1))]))
      (fun q => q.1 ++ rns q.2.1 = rns ((a.take (80 : Int).toNat).drop (0 : Int).toNat)) (fun q => q.2.1.length) ([], ((a.take (80 : Int).toNat).drop (0 : Int).toNat), 0) rfl (by show 1 ≤ 2; decide) (Trim.wk 1 [(1, none)] rfl (by show 1 ≤ 1; decide) (.inr rfl) rfl rfl rfl rfl rfl ⟨.inl rfl, .inl rfl, .own 1 rfl rfl, .inl rfl, trivial⟩) ?_
    rintro ⟨out, rest, pos⟩ hq
    change out ++ rns rest = rns ((a.take (80 : Int).toNat).drop (0 : Int).toNat) at hq
    have hol : out.length ≤ ((a.take (80 : Int).toNat).drop (0 : Int).toNat).length := by
      have := congrArg List.length hq
      rw [List.length_append] at this; omega
    refine BrL.mk (fun (he : rest = []) => ?_) (fun (hne : rest ≠ []) => ?_)
    · refine Br.f rfl ?_
      rw [he, rns_nil, List.append_nil] at hq
      subst hq
      by_cases hz : 0 < (rns ((a.take (80 : Int).toNat).drop (0 : Int).toNat)).length
      · have c1 : decide (((intsR (rns ((a.take (80 : Int).toNat).drop (0 : Int).toNat))).length : Int) > 0) = true := by rw [intsR_len]; exact decide_eq_true (by omega)
        have hz1 : ((intsR (rns ((a.take (80 : Int).toNat).drop (0 : Int).toNat))).length : Int) ≠ 0 := by rw [intsR_len]; omega
        have mk0 : 0 ≤ ((IntKind.i64.wrap (x.tmod ((intsR (rns ((a.take (80 : Int).toNat).drop (0 : Int).toNat))).length : Int) + ((intsR (rns ((a.take (80 : Int).toNat).drop (0 : Int).toNat))).length : Int))).tmod ((intsR (rns ((a.take (80 : Int).toNat).drop (0 : Int).toNat))).length : Int)) ∧ ((IntKind.i64.wrap (x.tmod ((intsR (rns ((a.take (80 : Int).toNat).drop (0 : Int).toNat))).length : Int) + ((intsR (rns ((a.take (80 : Int).toNat).drop (0 : Int).toNat))).length : Int))).tmod ((intsR (rns ((a.take (80 : Int).toNat).drop (0 : Int).toNat))).length : Int)) ≤ ((rns ((a.take (80 : Int).toNat).drop (0 : Int).toNat)).length : Int) := by rw [intsR_len]; exact mod_k x hz (by omega)
        refine Br.t c1 (Ob.mk hz1 (Ob.mk hz1 ?_))
        have k0 : 0 ≤ ((IntKind.i64.wrap (x.tmod ((intsR (rns ((a.take (80 : Int).toNat).drop (0 : Int).toNat))).length : Int) + ((intsR (rns ((a.take (80 : Int).toNat).drop (0 : Int).toNat))).length : Int))).tmod ((intsR (rns ((a.take (80 : Int).toNat).drop (0 : Int).toNat))).length : Int)) := mk0.1
        have k1 : ((IntKind.i64.wrap (x.tmod ((intsR (rns ((a.take (80 : Int).toNat).drop (0 : Int).toNat))).length : Int) + ((intsR (rns ((a.take (80 : Int).toNat).drop (0 : Int).toNat))).length : Int))).tmod ((intsR (rns ((a.take (80 : Int).toNat).drop (0 : Int).toNat))).length : Int)) ≤ ((rns ((a.take (80 : Int).toNat).drop (0 : Int).toNat)).length : Int) := mk0.2
        have k1' : ((IntKind.i64.wrap (x.tmod ((intsR (rns ((a.take (80 : Int).toNat).drop (0 : Int).toNat))).length : Int) + ((intsR (rns ((a.take (80 : Int).toNat).drop (0 : Int).toNat))).length : Int))).tmod ((intsR (rns ((a.take (80 : Int).toNat).drop (0 : Int).toNat))).length : Int)) ≤ ((intsR (rns ((a.take (80 : Int).toNat).drop (0 : Int).toNat))).length : Int) := Int.le_trans k1 (by rw [intsR_len]; exact Int.le_refl _)
        obtain ⟨f1, f3, lA, lB⟩ := split_k ((a.take (80 : Int).toNat).drop (0 : Int).toNat) ((IntKind.i64.wrap (x.tmod ((intsR (rns ((a.take (80 : Int).toNat).drop (0 : Int).toNat))).length : Int) + ((intsR (rns ((a.take (80 : Int).toNat).drop (0 : Int).toNat))).length : Int))).tmod ((intsR (rns ((a.take (80 : Int).toNat).drop (0 : Int).toNat))).length : Int)) hS
        refine ⟨_, ⟨rfl, rfl⟩, ?_⟩
        refine ⟨_, ⟨rfl, rfl⟩, ?_⟩
        refine ⟨_, Ob.mk ⟨rfl, Int.le_refl 0, k0, k1'⟩ ⟨rfl, rfl⟩, ?_⟩
        refine ⟨_, Ob.mk rfl (Ob.mk (.inr rfl) ⟨_, first_k k0, rfl, rfl⟩), ?_⟩
        refine ⟨_, ⟨rfl, rfl⟩, ?_⟩
        refine ⟨_, ⟨rfl, rfl⟩, ?_⟩
        refine ⟨_, Ob.mk ⟨rfl, k0, k1', Int.le_refl _⟩ ⟨rfl, rfl⟩, ?_⟩
        refine ⟨_, Ob.mk rfl (Ob.mk (.inr rfl) ⟨_, rest_k k0 k1, rfl, rfl⟩), ?_⟩
        refine ⟨_, ⟨rfl, rfl⟩, ?_⟩
        refine ⟨_, ⟨rfl, rfl⟩, ?_⟩
        refine Chk.mk (by kernel_rfl) ?_
        have lA1 := lt40 lA (by decide)
        have lB1 := lt40 lB (by decide)
        have uS := upper_len ((a.take (80 : Int).toNat).drop (0 : Int).toNat)
        have uA := upper_len (encs ((rns ((a.take (80 : Int).toNat).drop (0 : Int).toNat)).take (((IntKind.i64.wrap (x.tmod ((intsR (rns ((a.take (80 : Int).toNat).drop (0 : Int).toNat))).length : Int) + ((intsR (rns ((a.take (80 : Int).toNat).drop (0 : Int).toNat))).length : Int))).tmod ((intsR (rns ((a.take (80 : Int).toNat).drop (0 : Int).toNat))).length : Int))).toNat))
        have uB := upper_len (encs ((rns ((a.take (80 : Int).toNat).drop (0 : Int).toNat)).drop (((IntKind.i64.wrap (x.tmod ((intsR (rns ((a.take (80 : Int).toNat).drop (0 : Int).toNat))).length : Int) + ((intsR (rns ((a.take (80 : Int).toNat).drop (0 : Int).toNat))).length : Int))).tmod ((intsR (rns ((a.take (80 : Int).toNat).drop (0 : Int).toNat))).length : Int))).toNat))
        have uS1 : (upper ((a.take (80 : Int).toNat).drop (0 : Int).toNat)).length < 1099511627776 := by omega
        have uAB : (upper (encs ((rns ((a.take (80 : Int).toNat).drop (0 : Int).toNat)).take (((IntKind.i64.wrap (x.tmod ((intsR (rns ((a.take (80 : Int).toNat).drop (0 : Int).toNat))).length : Int) + ((intsR (rns ((a.take (80 : Int).toNat).drop (0 : Int).toNat))).length : Int))).tmod ((intsR (rns ((a.take (80 : Int).toNat).drop (0 : Int).toNat))).length : Int))).toNat))).length + (upper (encs ((rns ((a.take (80 : Int).toNat).drop (0 : Int).toNat)).drop (((IntKind.i64.wrap (x.tmod ((intsR (rns ((a.take (80 : Int).toNat).drop (0 : Int).toNat))).length : Int) + ((intsR (rns ((a.take (80 : Int).toNat).drop (0 : Int).toNat))).length : Int))).tmod ((intsR (rns ((a.take (80 : Int).toNat).drop (0 : Int).toNat))).length : Int))).toNat))).length < 9223372036854775808 := by omega
        have hSS : ((a.take (80 : Int).toNat).drop (0 : Int).toNat).length + ((a.take (80 : Int).toNat).drop (0 : Int).toNat).length < 9223372036854775808 := by omega
        have hSS1 : (((a.take (80 : Int).toNat).drop (0 : Int).toNat) ++ ((a.take (80 : Int).toNat).drop (0 : Int).toNat)).length < 1099511627776 := by rw [List.length_append]; omega
        refine ncount_v rfl lA1 _ _ ?_
        refine ncount_v rfl lB1 _ _ ?_
        refine ncount_v rfl hS1 _ _ ?_
        refine Br.t (congrArg (· == true) f1) ?_
        refine Br.t (congrArg (· == true) f1) ?_
        refine upper_v rfl hS1 _ _ ?_
        refine Br.t (congrArg (· == true) f1) ?_
        refine ncount_v rfl uS1 _ _ ?_
        refine Br.t (congrArg (· == true) f1) ?_
        refine Br.t (congrArg (· == true) f1) ?_
        refine ncount_v rfl hS1 _ _ ?_
        refine Br.t (congrArg (· == true) f1) ?_
        refine Br.t f1 ?_
        have f2 := upper_cnt ((a.take (80 : Int).toNat).drop (0 : Int).toNat)
        refine Br.t (congrArg (· == true) f2) ?_
        refine Br.t (congrArg (· == true) f2) ?_
        refine upper_v rfl lA1 _ _ ?_
        refine Br.t (congrArg (· == true) f2) ?_
        refine Br.t (congrArg (· == true) f2) ?_
        refine upper_v rfl lB1 _ _ ?_
        refine Br.t (congrArg (· == true) f2) ?_
        refine Ob.mk uAB ?_
        refine Br.t (congrArg (· == true) f2) ?_
        refine Br.t (congrArg (· == true) f2) ?_
        refine upper_v rfl hS1 _ _ ?_
        refine Br.t (congrArg (· == true) f2) ?_
        refine Br.t f2 ?_
        refine Br.t (congrArg (· == true) f3) ?_
        refine Br.t (congrArg (· == true) f3) ?_
        refine Br.t (congrArg (· == true) f3) ?_
        refine Ob.mk hSS ?_
        refine Br.t (congrArg (· == true) f3) ?_
        refine right_v rfl hSS1 _ _ ?_
        obtain ⟨R, hR⟩ : ∃ R, isRt ((a.take (80 : Int).toNat).drop (0 : Int).toNat) = R := ⟨_, rfl⟩
        have f4 := twice_k ((a.take (80 : Int).toNat).drop (0 : Int).toNat) hS R hR
        refine Br.t (congrArg (· == true) f3) ?_
        refine Br.t (congrArg (· == true) f3) ?_
        refine right_v hR hS1 _ _ ?_
        refine Br.t (congrArg (· == true) f3) ?_
        cases R with
        | false =>
          refine Br.f rfl ?_
          refine Br.f rfl ?_
          refine Br.f rfl ?_
          refine Br.f rfl ?_
          refine Br.t (congrArg (· == true) f3) ?_
          refine Br.f rfl ?_
          refine Br.t (congrArg (· == true) f3) ?_
          refine Br.t f3 ?_
          refine Br.t (congrArg (· == true) f4) ?_
          refine known3_c _ _ ?_
          refine Br.t f4 ?_
          exact h
        | true =>
          refine Br.t rfl ?_
          refine Br.t rfl ?_
          refine ncount_v rfl hS1 _ _ ?_
          refine Br.t rfl ?_
          refine Br.t rfl ?_
          refine Br.t (congrArg (· == true) f3) ?_
          refine Br.t rfl ?_
          refine Br.t (congrArg (· == true) f3) ?_
          refine Br.t f3 ?_
          refine Br.t (congrArg (· == true) f4) ?_
          refine known3_c _ _ ?_
          refine Br.t f4 ?_
          exact h
      · have c1 : decide (((intsR (rns ((a.take (80 : Int).toNat).drop (0 : Int).toNat))).length : Int) > 0) = false := by rw [intsR_len]; exact decide_eq_false (by omega)
        refine Br.f c1 ?_
        have k0 : 0 ≤ (0 : Int) := Int.le_refl 0
        have k1 : (0 : Int) ≤ ((rns ((a.take (80 : Int).toNat).drop (0 : Int).toNat)).length : Int) := Int.natCast_nonneg _
        have k1' : (0 : Int) ≤ ((intsR (rns ((a.take (80 : Int).toNat).drop (0 : Int).toNat))).length : Int) := Int.le_trans k1 (by rw [intsR_len]; exact Int.le_refl _)
        obtain ⟨f1, f3, lA, lB⟩ := split_k ((a.take (80 : Int).toNat).drop (0 : Int).toNat) (0 : Int) hS
        refine ⟨_, ⟨rfl, rfl⟩, ?_⟩
        refine ⟨_, ⟨rfl, rfl⟩, ?_⟩
        refine ⟨_, Ob.mk ⟨rfl, Int.le_refl 0, k0, k1'⟩ ⟨rfl, rfl⟩, ?_⟩
        refine ⟨_, Ob.mk rfl (Ob.mk (.inr rfl) ⟨_, first_k k0, rfl, rfl⟩), ?_⟩
        refine ⟨_, ⟨rfl, rfl⟩, ?_⟩
        refine ⟨_, ⟨rfl, rfl⟩, ?_⟩
        refine ⟨_, Ob.mk ⟨rfl, k0, k1', Int.le_refl _⟩ ⟨rfl, rfl⟩, ?_⟩
        refine ⟨_, Ob.mk rfl (Ob.mk (.inr rfl) ⟨_, rest_k k0 k1, rfl, rfl⟩), ?_⟩
        refine ⟨_, ⟨rfl, rfl⟩, ?_⟩
        refine ⟨_, ⟨rfl, rfl⟩, ?_⟩
        refine Chk.mk (by kernel_rfl) ?_
        have lA1 := lt40 lA (by decide)
        have lB1 := lt40 lB (by decide)
        have uS := upper_len ((a.take (80 : Int).toNat).drop (0 : Int).toNat)
        have uA := upper_len (encs ((rns ((a.take (80 : Int).toNat).drop (0 : Int).toNat)).take ((0 : Int)).toNat))
        have uB := upper_len (encs ((rns ((a.take (80 : Int).toNat).drop (0 : Int).toNat)).drop ((0 : Int)).toNat))
        have uS1 : (upper ((a.take (80 : Int).toNat).drop (0 : Int).toNat)).length < 1099511627776 := by omega
        have uAB : (upper (encs ((rns ((a.take (80 : Int).toNat).drop (0 : Int).toNat)).take ((0 : Int)).toNat))).length + (upper (encs ((rns ((a.take (80 : Int).toNat).drop (0 : Int).toNat)).drop ((0 : Int)).toNat))).length < 9223372036854775808 := by omega
        have hSS : ((a.take (80 : Int).toNat).drop (0 : Int).toNat).length + ((a.take (80 : Int).toNat).drop (0 : Int).toNat).length < 9223372036854775808 := by omega
        have hSS1 : (((a.take (80 : Int).toNat).drop (0 : Int).toNat) ++ ((a.take (80 : Int).toNat).drop (0 : Int).toNat)).length < 1099511627776 := by rw [List.length_append]; omega
        refine ncount_v rfl lA1 _ _ ?_
        refine ncount_v rfl lB1 _ _ ?_
        refine ncount_v rfl hS1 _ _ ?_
        refine Br.t (congrArg (· == true) f1) ?_
        refine Br.t (congrArg (· == true) f1) ?_
        refine upper_v rfl hS1 _ _ ?_
        refine Br.t (congrArg (· == true) f1) ?_
        refine ncount_v rfl uS1 _ _ ?_
        refine Br.t (congrArg (· == true) f1) ?_
        refine Br.t (congrArg (· == true) f1) ?_
        refine ncount_v rfl hS1 _ _ ?_
        refine Br.t (congrArg (· == true) f1) ?_
        refine Br.t f1 ?_
        have f2 := upper_cnt ((a.take (80 : Int).toNat).drop (0 : Int).toNat)
        refine Br.t (congrArg (· == true) f2) ?_
        refine Br.t (congrArg (· == true) f2) ?_
        refine upper_v rfl lA1 _ _ ?_
        refine Br.t (congrArg (· == true) f2) ?_
        refine Br.t (congrArg (· == true) f2) ?_
        refine upper_v rfl lB1 _ _ ?_
        refine Br.t (congrArg (· == true) f2) ?_
        refine Ob.mk uAB ?_
        refine Br.t (congrArg (· == true) f2) ?_
        refine Br.t (congrArg (· == true) f2) ?_
        refine upper_v rfl hS1 _ _ ?_
        refine Br.t (congrArg (· == true) f2) ?_
        refine Br.t f2 ?_
        refine Br.t (congrArg (· == true) f3) ?_
        refine Br.t (congrArg (· == true) f3) ?_
        refine Br.t (congrArg (· == true) f3) ?_
        refine Ob.mk hSS ?_
        refine Br.t (congrArg (· == true) f3) ?_
        refine right_v rfl hSS1 _ _ ?_
        obtain ⟨R, hR⟩ : ∃ R, isRt ((a.take (80 : Int).toNat).drop (0 : Int).toNat) = R := ⟨_, rfl⟩
        have f4 := twice_k ((a.take (80 : Int).toNat).drop (0 : Int).toNat) hS R hR
        refine Br.t (congrArg (· == true) f3) ?_
        refine Br.t (congrArg (· == true) f3) ?_
        refine right_v hR hS1 _ _ ?_
        refine Br.t (congrArg (· == true) f3) ?_
        cases R with
        | false =>
          refine Br.f rfl ?_
          refine Br.f rfl ?_
          refine Br.f rfl ?_
          refine Br.f rfl ?_
          refine Br.t (congrArg (· == true) f3) ?_
          refine Br.f rfl ?_
          refine Br.t (congrArg (· == true) f3) ?_
          refine Br.t f3 ?_
          refine Br.t (congrArg (· == true) f4) ?_
          refine known3_c _ _ ?_
          refine Br.t f4 ?_
          exact h
        | true =>
          refine Br.t rfl ?_
          refine Br.t rfl ?_
          refine ncount_v rfl hS1 _ _ ?_
          refine Br.t rfl ?_
          refine Br.t rfl ?_
          refine Br.t (congrArg (· == true) f3) ?_
          refine Br.t rfl ?_
          refine Br.t (congrArg (· == true) f3) ?_
          refine Br.t f3 ?_
          refine Br.t (congrArg (· == true) f4) ?_
          refine known3_c _ _ ?_
          refine Br.t f4 ?_
          exact h
    · refine Br.t rfl ?_
      have hd : (rest.drop (decode rest).2).length < rest.length := by
        have h3 := decode_pos rest
        have h4 : 0 < rest.length := List.length_pos_iff.2 hne
        simp; omega
      rw [rns_step hne] at hq
      refine Ob.mk ⟨rfl, rfl, rfl, ?_⟩ ?_
      · show ((intsR out).length + 1) * Tryd.prog.types[21].bytes ≤ 140737488355328
        rw [by21, intsR_len]; omega
      refine ⟨(out ++ [((decode rest).1 : Int)], rest.drop (decode rest).2, pos + (decode rest).2), ?_, hd, (show (1 : Nat) ≤ 2 by decide), Trim.mk' ?_ ?_ rfl rfl (show (2 : Nat) ≤ 2 by decide)⟩
      · dsimp only; rw [← hq, List.append_assoc]; rfl
      · show [_, _, _, _] = [_, _, _, _]
        rw [intsR_app]; rfl
      · show _ = [_, _]
        rw [intsR_app]; rfl
  · skip
    have hS : a.length ≤ 80 := no_cut ca
    have hS1 : a.length < 1099511627776 := lt40 hS (by decide)
    have hle := rns_le a
    refine LoopX.famW [0, 1, 5, 17] (fun (q : List Int × List UInt8 × Nat) => ([(0, .p (.str a)), (1, .p (ii x)), (5, .osl 1 (intsR q.1).length 0 (intsR q.1).length), (17, .it 0)], [some (.iterS q.2.1 q.2.2), some (.buf 1 (intsR q.1))]))
      (fun q => q.1 ++ rns q.2.1 = rns a) (fun q => q.2.1.length) ([], a, 0) rfl (by show 1 ≤ 2; decide) (Trim.wk 1 [(1, none)] rfl (by show 1 ≤ 1; decide) (.inr rfl) rfl rfl rfl rfl rfl ⟨.inl rfl, .inl rfl, .own 1 rfl rfl, .inl rfl, trivial⟩) ?_
    rintro ⟨out, rest, pos⟩ hq
    change out ++ rns rest = rns a at hq
    have hol : out.length ≤ a.length := by
      have := congrArg List.length hq
      rw [List.length_append] at this; omega
    refine BrL.mk (fun (he : rest = []) => ?_) (fun (hne : rest ≠ []) => ?_)
    · refine Br.f rfl ?_
      rw [he, rns_nil, List.append_nil] at hq
      subst hq
      by_cases hz : 0 < (rns a).length
      · have c1 : decide (((intsR (rns a)).length : Int) > 0) = true := by rw [intsR_len]; exact decide_eq_true (by omega)
        have hz1 : ((intsR (rns a)).length : Int) ≠ 0 := by rw [intsR_len]; omega
        have mk0 : 0 ≤ ((IntKind.i64.wrap (x.tmod ((intsR (rns a)).length : Int) + ((intsR (rns a)).length : Int))).tmod ((intsR (rns a)).length : Int)) ∧ ((IntKind.i64.wrap (x.tmod ((intsR (rns a)).length : Int) + ((intsR (rns a)).length : Int))).tmod ((intsR (rns a)).length : Int)) ≤ ((rns a).length : Int) := by rw [intsR_len]; exact mod_k x hz (by omega)
        refine Br.t c1 (Ob.mk hz1 (Ob.mk hz1 ?_))
        have k0 : 0 ≤ ((IntKind.i64.wrap (x.tmod ((intsR (rns a)).length : Int) + ((intsR (rns a)).length : Int))).tmod ((intsR (rns a)).length : Int)) := mk0.1
        have k1 : ((IntKind.i64.wrap (x.tmod ((intsR (rns a)).length : Int) + ((intsR (rns a)).length : Int))).tmod ((intsR (rns a)).length : Int)) ≤ ((rns a).length : Int) := mk0.2
        have k1' : ((IntKind.i64.wrap (x.tmod ((intsR (rns a)).length : Int) + ((intsR (rns a)).length : Int))).tmod ((intsR (rns a)).length : Int)) ≤ ((intsR (rns a)).length : Int) := Int.le_trans k1 (by rw [intsR_len]; exact Int.le_refl _)
        obtain ⟨f1, f3, lA, lB⟩ := split_k a ((IntKind.i64.wrap (x.tmod ((intsR (rns a)).length : Int) + ((intsR (rns a)).length : Int))).tmod ((intsR (rns a)).length : Int)) hS
        refine ⟨_, ⟨rfl, rfl⟩, ?_⟩
        refine ⟨_, ⟨rfl, rfl⟩, ?_⟩
        refine ⟨_, Ob.mk ⟨rfl, Int.le_refl 0, k0, k1'⟩ ⟨rfl, rfl⟩, ?_⟩
        refine ⟨_, Ob.mk rfl (Ob.mk (.inr rfl) ⟨_, first_k k0, rfl, rfl⟩), ?_⟩
        refine ⟨_, ⟨rfl, rfl⟩, ?_⟩
        refine ⟨_, ⟨rfl, rfl⟩, ?_⟩
        refine ⟨_, Ob.mk ⟨rfl, k0, k1', Int.le_refl _⟩ ⟨rfl, rfl⟩, ?_⟩
        refine ⟨_, Ob.mk rfl (Ob.mk (.inr rfl) ⟨_, rest_k k0 k1, rfl, rfl⟩), ?_⟩
        refine ⟨_, ⟨rfl, rfl⟩, ?_⟩
        refine ⟨_, ⟨rfl, rfl⟩, ?_⟩
        refine Chk.mk (by kernel_rfl) ?_
        have lA1 := lt40 lA (by decide)
        have lB1 := lt40 lB (by decide)
        have uS := upper_len a
        have uA := upper_len (encs ((rns a).take (((IntKind.i64.wrap (x.tmod ((intsR (rns a)).length : Int) + ((intsR (rns a)).length : Int))).tmod ((intsR (rns a)).length : Int))).toNat))
        have uB := upper_len (encs ((rns a).drop (((IntKind.i64.wrap (x.tmod ((intsR (rns a)).length : Int) + ((intsR (rns a)).length : Int))).tmod ((intsR (rns a)).length : Int))).toNat))
        have uS1 : (upper a).length < 1099511627776 := by omega
        have uAB : (upper (encs ((rns a).take (((IntKind.i64.wrap (x.tmod ((intsR (rns a)).length : Int) + ((intsR (rns a)).length : Int))).tmod ((intsR (rns a)).length : Int))).toNat))).length + (upper (encs ((rns a).drop (((IntKind.i64.wrap (x.tmod ((intsR (rns a)).length : Int) + ((intsR (rns a)).length : Int))).tmod ((intsR (rns a)).length : Int))).toNat))).length < 9223372036854775808 := by omega
        have hSS : a.length + a.length < 9223372036854775808 := by omega
        have hSS1 : (a ++ a).length < 1099511627776 := by rw [List.length_append]; omega
        refine ncount_v rfl lA1 _ _ ?_
        refine ncount_v rfl lB1 _ _ ?_
        refine ncount_v rfl hS1 _ _ ?_
        refine Br.t (congrArg (· == true) f1) ?_
        refine Br.t (congrArg (· == true) f1) ?_
        refine upper_v rfl hS1 _ _ ?_
        refine Br.t (congrArg (· == true) f1) ?_
        refine ncount_v rfl uS1 _ _ ?_
        refine Br.t (congrArg (· == true) f1) ?_
        refine Br.t (congrArg (· == true) f1) ?_
        refine ncount_v rfl hS1 _ _ ?_
        refine Br.t (congrArg (· == true) f1) ?_
        refine Br.t f1 ?_
        have f2 := upper_cnt a
        refine Br.t (congrArg (· == true) f2) ?_
        refine Br.t (congrArg (· == true) f2) ?_
        refine upper_v rfl lA1 _ _ ?_
        refine Br.t (congrArg (· == true) f2) ?_
        refine Br.t (congrArg (· == true) f2) ?_
        refine upper_v rfl lB1 _ _ ?_
        refine Br.t (congrArg (· == true) f2) ?_
        refine Ob.mk uAB ?_
        refine Br.t (congrArg (· == true) f2) ?_
        refine Br.t (congrArg (· == true) f2) ?_
        refine upper_v rfl hS1 _ _ ?_
        refine Br.t (congrArg (· == true) f2) ?_
        refine Br.t f2 ?_
        refine Br.t (congrArg (· == true) f3) ?_
        refine Br.t (congrArg (· == true) f3) ?_
        refine Br.t (congrArg (· == true) f3) ?_
        refine Ob.mk hSS ?_
        refine Br.t (congrArg (· == true) f3) ?_
        refine right_v rfl hSS1 _ _ ?_
        obtain ⟨R, hR⟩ : ∃ R, isRt a = R := ⟨_, rfl⟩
        have f4 := twice_k a hS R hR
        refine Br.t (congrArg (· == true) f3) ?_
        refine Br.t (congrArg (· == true) f3) ?_
        refine right_v hR hS1 _ _ ?_
        refine Br.t (congrArg (· == true) f3) ?_
        cases R with
        | false =>
          refine Br.f rfl ?_
          refine Br.f rfl ?_
          refine Br.f rfl ?_
          refine Br.f rfl ?_
          refine Br.t (congrArg (· == true) f3) ?_
          refine Br.f rfl ?_
          refine Br.t (congrArg (· == true) f3) ?_
          refine Br.t f3 ?_
          refine Br.t (congrArg (· == true) f4) ?_
          refine known3_c _ _ ?_
          refine Br.t f4 ?_
          exact h
        | true =>
          refine Br.t rfl ?_
          refine Br.t rfl ?_
          refine ncount_v rfl hS1 _ _ ?_
          refine Br.t rfl ?_
          refine Br.t rfl ?_
          refine Br.t (congrArg (· == true) f3) ?_
          refine Br.t rfl ?_
          refine Br.t (congrArg (· == true) f3) ?_
          refine Br.t f3 ?_
          refine Br.t (congrArg (· == true) f4) ?_
          refine known3_c _ _ ?_
          refine Br.t f4 ?_
          exact h
      · have c1 : decide (((intsR (rns a)).length : Int) > 0) = false := by rw [intsR_len]; exact decide_eq_false (by omega)
        refine Br.f c1 ?_
        have k0 : 0 ≤ (0 : Int) := Int.le_refl 0
        have k1 : (0 : Int) ≤ ((rns a).length : Int) := Int.natCast_nonneg _
        have k1' : (0 : Int) ≤ ((intsR (rns a)).length : Int) := Int.le_trans k1 (by rw [intsR_len]; exact Int.le_refl _)
        obtain ⟨f1, f3, lA, lB⟩ := split_k a (0 : Int) hS
        refine ⟨_, ⟨rfl, rfl⟩, ?_⟩
        refine ⟨_, ⟨rfl, rfl⟩, ?_⟩
        refine ⟨_, Ob.mk ⟨rfl, Int.le_refl 0, k0, k1'⟩ ⟨rfl, rfl⟩, ?_⟩
        refine ⟨_, Ob.mk rfl (Ob.mk (.inr rfl) ⟨_, first_k k0, rfl, rfl⟩), ?_⟩
        refine ⟨_, ⟨rfl, rfl⟩, ?_⟩
        refine ⟨_, ⟨rfl, rfl⟩, ?_⟩
        refine ⟨_, Ob.mk ⟨rfl, k0, k1', Int.le_refl _⟩ ⟨rfl, rfl⟩, ?_⟩
        refine ⟨_, Ob.mk rfl (Ob.mk (.inr rfl) ⟨_, rest_k k0 k1, rfl, rfl⟩), ?_⟩
        refine ⟨_, ⟨rfl, rfl⟩, ?_⟩
        refine ⟨_, ⟨rfl, rfl⟩, ?_⟩
        refine Chk.mk (by kernel_rfl) ?_
        have lA1 := lt40 lA (by decide)
        have lB1 := lt40 lB (by decide)
        have uS := upper_len a
        have uA := upper_len (encs ((rns a).take ((0 : Int)).toNat))
        have uB := upper_len (encs ((rns a).drop ((0 : Int)).toNat))
        have uS1 : (upper a).length < 1099511627776 := by omega
        have uAB : (upper (encs ((rns a).take ((0 : Int)).toNat))).length + (upper (encs ((rns a).drop ((0 : Int)).toNat))).length < 9223372036854775808 := by omega
        have hSS : a.length + a.length < 9223372036854775808 := by omega
        have hSS1 : (a ++ a).length < 1099511627776 := by rw [List.length_append]; omega
        refine ncount_v rfl lA1 _ _ ?_
        refine ncount_v rfl lB1 _ _ ?_
        refine ncount_v rfl hS1 _ _ ?_
        refine Br.t (congrArg (· == true) f1) ?_
        refine Br.t (congrArg (· == true) f1) ?_
        refine upper_v rfl hS1 _ _ ?_
        refine Br.t (congrArg (· == true) f1) ?_
        refine ncount_v rfl uS1 _ _ ?_
        refine Br.t (congrArg (· == true) f1) ?_
        refine Br.t (congrArg (· == true) f1) ?_
        refine ncount_v rfl hS1 _ _ ?_
        refine Br.t (congrArg (· == true) f1) ?_
        refine Br.t f1 ?_
        have f2 := upper_cnt a
        refine Br.t (congrArg (· == true) f2) ?_
        refine Br.t (congrArg (· == true) f2) ?_
        refine upper_v rfl lA1 _ _ ?_
        refine Br.t (congrArg (· == true) f2) ?_
        refine Br.t (congrArg (· == true) f2) ?_
        refine upper_v rfl lB1 _ _ ?_
        refine Br.t (congrArg (· == true) f2) ?_
        refine Ob.mk uAB ?_
        refine Br.t (congrArg (· == true) f2) ?_
        refine Br.t (congrArg (· == true) f2) ?_
        refine upper_v rfl hS1 _ _ ?_
        refine Br.t (congrArg (· == true) f2) ?_
        refine Br.t f2 ?_
        refine Br.t (congrArg (· == true) f3) ?_
        refine Br.t (congrArg (· == true) f3) ?_
        refine Br.t (congrArg (· == true) f3) ?_
        refine Ob.mk hSS ?_
        refine Br.t (congrArg (· == true) f3) ?_
        refine right_v rfl hSS1 _ _ ?_
        obtain ⟨R, hR⟩ : ∃ R, isRt a = R := ⟨_, rfl⟩
        have f4 := twice_k a hS R hR
        refine Br.t (congrArg (· == true) f3) ?_
        refine Br.t (congrArg (· == true) f3) ?_
        refine right_v hR hS1 _ _ ?_
        refine Br.t (congrArg (· == true) f3) ?_
        cases R with
        | false =>
          refine Br.f rfl ?_
          refine Br.f rfl ?_
          refine Br.f rfl ?_
          refine Br.f rfl ?_
          refine Br.t (congrArg (· == true) f3) ?_
          refine Br.f rfl ?_
          refine Br.t (congrArg (· == true) f3) ?_
          refine Br.t f3 ?_
          refine Br.t (congrArg (· == true) f4) ?_
          refine known3_c _ _ ?_
          refine Br.t f4 ?_
          exact h
        | true =>
          refine Br.t rfl ?_
          refine Br.t rfl ?_
          refine ncount_v rfl hS1 _ _ ?_
          refine Br.t rfl ?_
          refine Br.t rfl ?_
          refine Br.t (congrArg (· == true) f3) ?_
          refine Br.t rfl ?_
          refine Br.t (congrArg (· == true) f3) ?_
          refine Br.t f3 ?_
          refine Br.t (congrArg (· == true) f4) ?_
          refine known3_c _ _ ?_
          refine Br.t f4 ?_
          exact h
    · refine Br.t rfl ?_
      have hd : (rest.drop (decode rest).2).length < rest.length := by
        have h3 := decode_pos rest
        have h4 : 0 < rest.length := List.length_pos_iff.2 hne
        simp; omega
      rw [rns_step hne] at hq
      refine Ob.mk ⟨rfl, rfl, rfl, ?_⟩ ?_
      · show ((intsR out).length + 1) * Tryd.prog.types[21].bytes ≤ 140737488355328
        rw [by21, intsR_len]; omega
      refine ⟨(out ++ [((decode rest).1 : Int)], rest.drop (decode rest).2, pos + (decode rest).2), ?_, hd, (show (1 : Nat) ≤ 2 by decide), Trim.mk' ?_ ?_ rfl rfl (show (2 : Nat) ≤ 2 by decide)⟩
      · dsimp only; rw [← hq, List.append_assoc]; rfl
      · show [_, _, _, _] = [_, _, _, _]
        rw [intsR_app]; rfl
      · show _ = [_, _]
        rw [intsR_app]; rfl
end Go.Proofs.YtkokaflanlcojaaDoor.AW
