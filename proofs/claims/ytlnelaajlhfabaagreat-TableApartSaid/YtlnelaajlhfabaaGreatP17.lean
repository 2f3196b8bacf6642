/- A part of the proof: LG/G32. -/
import Derived.Test.YtlnelaajlhfabaaGreatP15
import Derived.Test.YtlnelaajlhfabaaGreatP16
open Go Go.Proofs.YtlnelaajlhfabaaGreat.AW Go.Proofs
namespace Go.Proofs.YtlnelaajlhfabaaGreat.AW
set_option maxRecDepth 100000
set_option linter.unusedSimpArgs false
set_option linter.unusedVariables false

/-! ### TableApart -/
theorem and3 (n : Int) : bits .and .i64 n 3 ≠ -1 := by
  have e : bits .and .i64 n 3 = IntKind.i64.wrap (((BitVec.ofInt 64 n &&& BitVec.ofInt 64 3).toNat : Nat) : Int) := rfl
  have h : (BitVec.ofInt 64 n &&& BitVec.ofInt 64 3).toNat ≤ 3 := by
    rw [BitVec.toNat_and]
    exact Nat.le_trans Nat.and_le_right (by decide)
  rw [e, wrap_i64] <;> omega
theorem ownL_snoc (L : List Bt) (m : Int) {j : Nat} (hj : j < L.length) : ownL (L.take (j + 1)) m = ownL (L.take j) m ++ (if (L[j].prod == m) = true then [L[j]] else []) := by
  unfold ownL
  rw [take_succ' hj, List.filter_append]
  by_cases h : (L[j].prod == m) = true
  · rw [if_pos h, List.filter_cons_of_pos (p := fun b : Bt => b.prod == m) h]; rfl
  · rw [if_neg h, List.filter_cons_of_neg (p := fun b : Bt => b.prod == m) h]; rfl
theorem ownL_le (L : List Bt) (m : Int) : (ownL L m).length ≤ L.length := List.length_filter_le ..
set_option maxHeartbeats 16000000 in
theorem apart_c (t : List Int) (ht : t.length ≤ 9223372036854775807) (n : Int) (s : Store) (K : AV → Store → Prop) (h : K (.p (.bool true)) s) : Cal Tryz.prog 3 [.p (kl t), .p (ii n)] s K := by
  refine Cal.pure (args := [kl t, ii n]) ?_
  refine Cal.intro Tryz.func3 (by decide +kernel) rfl rfl ?_
  have hm := and3 n
  refine row_c t 0 30 ht (by decide) _ _ fun L hL hlen => ?_
  obtain ⟨m, hmm⟩ : ∃ m, m = bits .and .i64 n 3 := ⟨_, rfl⟩
  rw [← hmm] at hm
  have hlm := rowL L
  refine LoopX.famW [5, 6, 7, 20, 21, 22] (fun (j : Nat) => ([(5, .p (rowP L)), (6, .p (ii m)), (7, .osl 0 ((ownL (L.take j) m).map Bt.pv).length 0 ((ownL (L.take j) m).map Bt.pv).length), (20, .p (rowP L)), (21, .p (ii (L.map Bt.pv).length)), (22, .p (ii (j : Nat)))], [some (.buf 7 ((ownL (L.take j) m).map Bt.pv))]))
    (fun j => j ≤ L.length) (fun j => L.length - j) 0 (Nat.zero_le _) (by show 0 ≤ 1; decide) (Trim.wk 0 [(7, none)] rfl (by show 0 ≤ 0; decide) (.inr rfl) rfl rfl rfl rfl rfl ⟨.inl rfl, .inl (by rw [hmm]; rfl), .own 0 rfl rfl, .inl rfl, .inl rfl, .inl rfl, trivial⟩) ?_
  intro j hj
  have hj : j ≤ L.length := hj
  refine Br.mk (fun hc => ?_) (fun hc => ?_)
  · have hc : (j : Int) < ((L.map Bt.pv).length : Nat) := of_decide_eq_true hc
    have hj1 : j < L.length := by omega
    have ej : IntKind.i64.wrap ((j : Int) + 1) = ((j + 1 : Nat) : Int) := by rw [wrap_i64] <;> omega
    refine Idx.mk _ (Int.natCast_nonneg _) (getL hj1) ?_
    refine Ob.mk (okst rfl rfl rfl) ?_
    have hs := ownL_snoc L m hj1
    have hol := ownL_le (L.take j) m
    rw [List.length_take] at hol
    refine Br.mk (fun hp => ?_) (fun hp => ?_)
    · have hp : L[j].prod = m := of_decide_eq_true hp
      rw [if_pos (by simpa using hp)] at hs
      refine Ob.mk ?_ ?_
      · refine ⟨rfl, rfl, rfl, ?_⟩
        show (((ownL (L.take j) m).map Bt.pv).length + 1) * 72 ≤ _
        rw [List.length_map]; omega
      · refine ⟨j + 1, hj1, by show L.length - (j + 1) < L.length - j; omega, (by show (0 : Nat) ≤ 1; decide), Trim.mk' ?_ ?_ rfl rfl (show (1 : Nat) ≤ 2 by decide)⟩
        · refine Eq.trans (b := [_, _, (7, .osl 0 (((ownL (L.take j) m).map Bt.pv) ++ [L[j].pv]).length 0 (((ownL (L.take j) m).map Bt.pv) ++ [L[j].pv]).length), _, _, (22, AV.p (ii (IntKind.i64.wrap ((j : Int) + 1))))]) rfl ?_
          rw [ej, hs, List.map_append]; rfl
        · show [some (AObj.buf 7 (((ownL (L.take j) m).map Bt.pv) ++ [L[j].pv]) none)] = _
          rw [hs, List.map_append]; rfl
    · have hp : ¬ L[j].prod = m := of_decide_eq_false hp
      rw [if_neg (by simpa using hp), List.append_nil] at hs
      refine ⟨j + 1, hj1, by show L.length - (j + 1) < L.length - j; omega, (by show (0 : Nat) ≤ 1; decide), Trim.mk' ?_ ?_ rfl rfl (show (1 : Nat) ≤ 2 by decide)⟩
      · refine Eq.trans (b := [_, _, (7, .osl 0 ((ownL (L.take j) m).map Bt.pv).length 0 ((ownL (L.take j) m).map Bt.pv).length), _, _, (22, AV.p (ii (IntKind.i64.wrap ((j : Int) + 1))))]) rfl ?_
        rw [ej, hs]; rfl
      · show [some (AObj.buf 7 ((ownL (L.take j) m).map Bt.pv) none)] = _
        rw [hs]
  · have hc : ¬ (j : Int) < ((L.map Bt.pv).length : Nat) := of_decide_eq_false hc
    have : j = L.length := by omega
    subst this
    rw [List.take_length]
    have hsm : ∀ b, b ∈ L → b.small := fun b hb => (hL.tiny b hb).small
    have hso : ∀ b, b ∈ ownL L m → b.small := fun b hb => hsm b (List.mem_filter.1 hb).1
    have hol := ownL_le L m
    have hin : TInv (tApps ([], 0) L).1 (tApps ([], 0) L).2 := TInv.nil.apps
    have hio : TInv (tApps ([], 0) (ownL L m)).1 (tApps ([], 0) (ownL L m)).2 := TInv.nil.apps
    have hget := tGet_own L m
    have hsome := tGet_some (L := L) hm hL.right
    have hown := own_len (L := L) hm hL.right
    have hfo := tfold_o (ownL L m) (by omega) hso
    have hlo : ((ownL L m).map Bt.pv).length = (ownL L m).length := List.length_map ..
    rw [hlo] at hsome ⊢
    refine Cal.frameK [] (tfold_c L (by omega) hsm _ fun _ => ?_) rfl rfl rfl
    refine Cal.frameK [0] (hfo _ fun _ => ?_) rfl rfl rfl
    repeat' (first
      | (apply Br.t; · (first | rfl | (simp only [*] <;> rfl)))
      | (apply Br.f; · (first | rfl | (simp only [*] <;> rfl)))
      | refine Ob.mk (okst rfl rfl rfl) ?_
      | refine Br.mkT (fun c => ?_) (fun c => ?_)
      | refine Br.mkF (fun c => ?_) (fun c => ?_)
      | refine Br.mk (fun c => ?_) (fun c => ?_))
    refine Cal.frameK [1, 2] (tget_c _ _ hin.ok m _ fun _ => ?_) rfl rfl rfl
    refine Ob.mk (okst rfl rfl rfl) ?_
    refine Cal.frameK [3, 4] (tget_c _ _ hio.ok m _ fun _ => ?_) rfl rfl rfl
    rw [← hget]
    rw [← hget] at hsome
    refine Ob.mk (okst rfl rfl rfl) ?_
    have hpl : ((tGet (tApps ([], 0) L).1 m).getD pr0).last.length ≤ 1000000000 := by
      cases ho : tGet (tApps ([], 0) L).1 m with
      | none => exact pr0_len
      | some p => exact hin.ok.get ho
    generalize tGet (tApps ([], 0) L).1 m = o at hsome hpl ⊢
    have hkL : L.length ≤ 1000000000 := by omega
    have hkO : (ownL L m).length ≤ 1000000000 := by omega
    have hkR : ∀ b, b ∈ ownL L m → b.recs.length ≤ 1000000000 := fun b hb => by have := (hso b hb).1; omega
    have hkE : (tApps ([], 0) (ownL L m)).1.length ≤ 1000000000 := by omega
    have hb0 : (o.isSome == o.isSome) = true := by simp
    have hb1 : (decide ((((ownL L m).length : Nat) : Int) > 0) == o.isSome) = true := by rw [hsome]; simp
    clear hsome hget
    have g0 : ((o.isSome == o.isSome) == true) = true := congrArg (· == true) hb0
    have g1 : ((decide ((((ownL L m).length : Nat) : Int) > 0) == o.isSome) == true) = true := congrArg (· == true) hb1
    refine Br.t g0 ?_
    refine Br.t g0 ?_
    refine Br.t g0 ?_
    refine psame_c _ hpl _ _ ?_
    refine Br.t hb0 ?_
    repeat refine Br.t rfl ?_
    repeat (first | refine Br.t g1 ?_ | refine Br.t hb1 ?_)
    refine Cal.frameK [3, 4] (tall_c _ _ hio hkE _ fun ps hps hpp _ => ?_) rfl rfl rfl
    have hmin : ∀ x : Int, x = min (((ownL L m).length : Nat) : Int) 1 → (decide ((((ps.map Pr.pv).length : Nat) : Int) = x)) = true := fun x hx => by
      have hl := hps.length_eq
      rw [List.length_map] at hl
      rw [hx, List.length_map, hl, hown]
      apply decide_eq_true
      omega
    have hmi := hmin (if (1 : Int) < (((ownL L m).length : Nat) : Int) then 1 else (((ownL L m).length : Nat) : Int)) (by split <;> omega)
    have g2 := congrArg (· == true) hmi
    repeat (first | refine Br.t g1 ?_ | refine Br.t hb1 ?_)
    repeat (first | refine Br.t g2 ?_ | refine Br.t hmi ?_)
    have hcut : [PV.sl .shr 7 ((((ownL L m).map Bt.pv).drop 0).take (ownL L m).length)] = [rowP (ownL L m)] := by
      rw [List.drop_zero, ← hlo, List.take_length]; rfl
    refine Cal.lend2 (p := rowP (ownL L m)) ⟨_, Ob.mk hlo ⟨hcut, rfl⟩⟩ (rows_c _ hkO hkR _ _ rfl) rfl ?_
    repeat (first | refine Br.t g2 ?_ | refine Br.t hmi ?_)
    repeat refine Br.t rfl ?_
    refine known_c _ _ ?_
    repeat refine Br.t rfl ?_
    exact h
end Go.Proofs.YtlnelaajlhfabaaGreat.AW
