/- A part of the proof: LG/G57, LG/B13, LG/G58. -/
import Derived.Test.YtlnelaajlhfabaaGreatP20
import Derived.Test.YtlnelaajlhfabaaGreatP18
open Go Go.Proofs.YtlnelaajlhfabaaGreat.AW Go.Proofs
namespace Go.Proofs.YtlnelaajlhfabaaGreat.AW
set_option maxRecDepth 100000
set_option linter.unusedSimpArgs false
set_option linter.unusedVariables false

/-! ### ref14.Stable, ref14.Committed -/
def stV (r : Int × Bool) (L : List Bt) (st : Int) : Int := if r.2 = true then r.1 else endW st L
set_option maxHeartbeats 8000000 in
theorem stable_c (L : List Bt) (hL : L.length ≤ 1000000) (hb : ∀ b, b ∈ L → b.small) (st : Int) (s : Store) (K : AV → Store → Prop) (h : ∀ r, IsLeast ((dFold L).1.map Pr.op) r → K (.p (ii (stV r L st))) s) : Cal Tryz.prog 33 [.p (ii st), .p (rowP L)] s K := by
  refine Cal.pure (args := [ii st, rowP L]) ?_
  refine Cal.intro Tryz.func33 (by decide +kernel) rfl rfl ?_
  obtain ⟨hi1, hi2, hi3⟩ := dFold_inv L
  have hen := fun s K => end1_c L st (by omega) s K
  refine Cal.frameK [] (dfold_c L (by omega) hb _ fun _ => ?_) rfl rfl rfl
  refine dopen_c (dFold L).1 (by omega) _ fun r hr => ?_
  obtain ⟨x, q⟩ := r
  have h' := h _ hr
  unfold stV at h'
  unfold ib
  cases q with
  | true =>
    rw [if_pos rfl] at h'
    repeat' (first
      | (apply Br.t; · (first | rfl | (simp only [*] <;> rfl)))
      | (apply Br.f; · (first | rfl | (simp only [*] <;> rfl)))
      | refine Ob.mk (okst rfl rfl rfl) ?_
      | refine Br.mkT (fun c => ?_) (fun c => ?_)
      | refine Br.mkF (fun c => ?_) (fun c => ?_)
      | refine Br.mk (fun c => ?_) (fun c => ?_)
      | exact h'
      | (simp only [*, Bool.true_and, Bool.false_and, Bool.true_or, Bool.false_or, Bool.and_true, Bool.and_false, Bool.or_true, Bool.or_false, Bool.not_true, Bool.not_false, if_true, if_false, reduceIte, Bool.false_eq_true] at h'; exact h'))
  | false =>
    rw [if_neg (by simp)] at h'
    repeat' (first
      | (apply Br.t; · (first | rfl | (simp only [*] <;> rfl)))
      | (apply Br.f; · (first | rfl | (simp only [*] <;> rfl)))
      | refine Ob.mk (okst rfl rfl rfl) ?_
      | refine hen _ _ ?_
      | refine Br.mkT (fun c => ?_) (fun c => ?_)
      | refine Br.mkF (fun c => ?_) (fun c => ?_)
      | refine Br.mk (fun c => ?_) (fun c => ?_)
      | exact h'
      | (simp only [*, Bool.true_and, Bool.false_and, Bool.true_or, Bool.false_or, Bool.and_true, Bool.and_false, Bool.or_true, Bool.or_false, Bool.not_true, Bool.not_false, if_true, if_false, reduceIte, Bool.false_eq_true] at h'; exact h'))
theorem nextMk_cons (b c : Bt) (r : List Bt) : nextMk b (c :: r) = if endsB b c = true then c.mark else nextMk b r := by
  unfold nextMk
  rw [List.find?_cons]
  cases h : endsB b c with
  | true => simp
  | false => simp
theorem comm_le {fr to : Int} {M : Nat} : ∀ {L : List Bt}, (∀ b, b ∈ L → b.recs.length ≤ M) → (comm fr to L).length ≤ L.length * M
  | [], _ => by simp [comm]
  | b :: r, h => by
    have h1 := comm_le (fr := fr) (to := to) (M := M) (L := r) fun c hc => h c (List.mem_cons_of_mem _ hc)
    have h2 := gtsN_le fr to b b.recs.length
    have h3 := h b (List.mem_cons_self ..)
    have h4 : (if isComm b r = true then gtsB fr to b else []).length ≤ M := by
      split
      · unfold gtsB; omega
      · simp
    show ((if isComm b r = true then gtsB fr to b else []) ++ comm fr to r).length ≤ _
    rw [List.length_append, List.length_cons, Nat.add_mul]; omega
set_option maxHeartbeats 16000000 in
theorem committed_c (L : List Bt) (hL : L.length ≤ 1000000) (hb : ∀ b, b ∈ L → b.small) (st : Int) (r : Int × Bool) (hr : IsLeast ((dFold L).1.map Pr.op) r) (s : Store) (K : AV → Store → Prop)
    (h : K (.p (gsP (comm st (stV r L st) L))) s) : Cal Tryz.prog 34 [.p (ii st), .p (rowP L)] s K := by
  refine Cal.pure (args := [ii st, rowP L]) ?_
  refine Cal.intro Tryz.func34 (by decide +kernel) rfl rfl ?_
  refine stable_c L hL hb st _ _ fun r' hr' => ?_
  have er := hr'.eq hr
  subst er
  generalize hv : stV r' L st = v at h ⊢
  clear hv hr hr'
  have hlm := rowL L
  have hb3 : ∀ b, b ∈ L → b.recs.length ≤ 300 := fun b hm => (hb b hm).1
  have hcl := comm_le (fr := st) (to := v) (M := 300) hb3
  have hcmm : L.length * 300 ≤ 1000000 * 300 := Nat.mul_le_mul_right _ hL
  refine LoopX.famW [0, 1, 5, 6, 14, 15, 16] (fun (q : List Gt × Nat) => ([(0, .p (ii st)), (1, .p (rowP L)), (5, .osl 0 (q.1.map Gt.pv).length 0 (q.1.map Gt.pv).length), (6, .p (ii v)), (14, .p (rowP L)), (15, .p (ii (L.map Bt.pv).length)), (16, .p (ii (q.2 : Nat)))], [some (.buf 4 (q.1.map Gt.pv))]))
    (fun q => q.2 ≤ L.length ∧ q.1 ++ comm st v (L.drop q.2) = comm st v L) (fun q => L.length - q.2) ([], 0) ⟨Nat.zero_le _, rfl⟩ (by show 0 ≤ 1; decide) (Trim.wk 0 [(4, none)] rfl (by show 0 ≤ 0; decide) (.inr rfl) rfl rfl rfl rfl rfl ⟨.inl rfl, .inl rfl, .own 0 rfl rfl, .inl rfl, .inl rfl, .inl rfl, .inl rfl, trivial⟩) ?_
  rintro ⟨X, j⟩ ⟨hj, hX⟩
  have hj : j ≤ L.length := hj
  replace hX : X ++ comm st v (L.drop j) = comm st v L := hX
  have hXl : X.length ≤ 300000000 := by
    have := congrArg List.length hX
    rw [List.length_append] at this; omega
  have hXm : (X.map Gt.pv).length = X.length := List.length_map ..
  refine Br.mk (fun hc => ?_) (fun hc => ?_)
  · have hc : (j : Int) < ((L.map Bt.pv).length : Nat) := of_decide_eq_true hc
    have hj1 : j < L.length := by omega
    have ej : IntKind.i64.wrap ((j : Int) + 1) = ((j + 1 : Nat) : Int) := by rw [wrap_i64] <;> omega
    have hbj := hb _ (List.getElem_mem hj1)
    have edr : L.drop j = L[j] :: L.drop (j + 1) := List.drop_eq_getElem_cons hj1
    rw [edr] at hX
    clear edr
    replace hX : X ++ ((if isComm L[j] (L.drop (j + 1)) = true then gtsB st v L[j] else []) ++ comm st v (L.drop (j + 1))) = comm st v L := hX
    refine Idx.mk _ (Int.natCast_nonneg _) (getL hj1) ?_
    refine Ob.mk (okst rfl rfl rfl) ?_
    repeat' (first
      | (apply Br.t; · (first | rfl | (simp only [*] <;> rfl)))
      | (apply Br.f; · (first | rfl | (simp only [*] <;> rfl)))
      | refine Ob.mk (okst rfl rfl rfl) ?_
      | refine Br.mkT (fun c => ?_) (fun c => ?_)
      | refine Br.mkF (fun c => ?_) (fun c => ?_)
      | refine Br.mk (fun c => ?_) (fun c => ?_))
    have e0 : IntKind.i64.wrap ((((L.map Bt.pv).length : Nat) : Int) - 1) = ((L.length - 1 : Nat) : Int) := by rw [wrap_i64] <;> omega
    refine LoopX.fam [0, 1, 5, 6, 7, 8, 9, 10, 14, 15, 16] (fun (k : Nat) => ([(0, .p (ii st)), (1, .p (rowP L)), (5, .osl 0 (X.map Gt.pv).length 0 (X.map Gt.pv).length), (6, .p (ii v)), (7, .p (ii (j : Nat))), (8, .ref 1 0), (9, .p (ii (nextMk L[j] (L.drop (k + 1))))), (10, .p (ii (k : Nat))), (14, .p (rowP L)), (15, .p (ii (L.map Bt.pv).length)), (16, .p (ii (j : Nat)))], [some (.buf 4 (X.map Gt.pv)), bCells L[j]]))
      (fun k => j ≤ k ∧ k < L.length ∧ (L[j].txn = false → k = L.length - 1)) (fun k => k) (L.length - 1) ⟨by omega, by omega, fun _ => rfl⟩ (Trim.mk' ?_ rfl rfl rfl (Nat.le_refl _)) ?_
    · have en1 : nextMk L[j] (L.drop (L.length - 1 + 1)) = 1 := by rw [show L.length - 1 + 1 = L.length by omega, List.drop_length]; rfl
      refine Eq.trans (b := [_, _, (5, .osl 0 (X.map Gt.pv).length 0 (X.map Gt.pv).length), _, _, _, (9, .p (ii 1)), (10, AV.p (ii (IntKind.i64.wrap ((((L.map Bt.pv).length : Nat) : Int) - 1)))), _, _, _]) rfl ?_
      rw [e0, en1]; rfl
    · intro k hk
      obtain ⟨k1, k2, k3⟩ := hk
      replace k1 : j ≤ k := k1
      replace k2 : k < L.length := k2
      replace k3 : L[j].txn = false → k = L.length - 1 := k3
      have edk : L.drop k = L[k] :: L.drop (k + 1) := List.drop_eq_getElem_cons k2
      have ek : 0 < k → IntKind.i64.wrap ((k : Int) - 1) = ((k - 1 : Nat) : Int) := fun h => by rw [wrap_i64] <;> omega
      have hgk := getL k2
      by_cases hkj : j < k
      · have ckj : decide ((k : Int) > (j : Nat)) = true := decide_eq_true (by omega)
        cases htx : L[j].txn with
        | true =>
          have esk : k - 1 + 1 = k := by omega
          have ek := ek (by omega)
          have hn : nextMk L[j] (L.drop (k - 1 + 1)) = if endsB L[j] L[k] = true then L[k].mark else nextMk L[j] (L.drop (k + 1)) := by rw [esk, edk, nextMk_cons]
          clear edk hX k3 hc hXl hXm hcl hcmm hlm
          repeat' (first
            | (apply Br.t; · (first | rfl | (simp only [*] <;> rfl)))
            | (apply Br.f; · (first | rfl | (simp only [*] <;> rfl)))
            | refine Ob.mk (okst rfl rfl rfl) ?_
            | refine Br.mkT (fun c => ?_) (fun c => ?_)
            | refine Br.mkF (fun c => ?_) (fun c => ?_)
            | refine Br.mk (fun c => ?_) (fun c => ?_))
          repeat' (first
            | refine Chk.mk (by kernel_rfl) ?_
            | (apply Br.t; · (first | rfl | (simp only [*] <;> rfl)))
            | (apply Br.f; · (first | rfl | (simp only [*] <;> rfl)))
            | refine ⟨_, ⟨rfl, rfl⟩, ?_⟩
            | refine ⟨_, _, ⟨rfl, rfl⟩, rfl, ?_⟩
            | refine ⟨_, Idx.mk L[k].pv (Int.natCast_nonneg _) hgk ⟨rfl, rfl⟩, ?_⟩
            | refine ⟨_, Ob.mk (by decide) ⟨rfl, rfl⟩, ?_⟩
            | (refine ⟨_, Br.t ?_ ⟨rfl, rfl⟩, ?_⟩; · (first | rfl | (simp only [*] <;> rfl)))
            | (refine ⟨_, Br.f ?_ ⟨rfl, rfl⟩, ?_⟩; · (first | rfl | (simp only [*] <;> rfl)))
            | refine ⟨_, _, Ob.mk (okst rfl rfl rfl) ⟨rfl, rfl⟩, rfl, ?_⟩
            | refine Ob.mk (okst rfl rfl rfl) ?_
            | refine Ob.mk (by decide) ?_
            | refine Br.mkT (fun c => ?_) (fun c => ?_)
            | refine Br.mkF (fun c => ?_) (fun c => ?_)
            | refine Br.mk (fun c => ?_) (fun c => ?_))
          · refine Idx.mk L[k].pv (Int.natCast_nonneg _) hgk ?_
            have ee : endsB L[j] L[k] = true := by unfold endsB; simp only [*]; rfl
            rw [ee, if_pos rfl] at hn
            refine ⟨k - 1, ⟨by show j ≤ k - 1; omega, by show k - 1 < L.length; omega, fun q => by cases q⟩, by show k - 1 < k; omega, (by show (2 : Nat) ≤ 2; decide), Trim.mk' ?_ rfl rfl rfl (by show (2 : Nat) ≤ 2; decide)⟩
            refine Eq.trans (b := [_, _, (5, .osl 0 (X.map Gt.pv).length 0 (X.map Gt.pv).length), _, _, _, (9, .p (ii (L[k].mark))), (10, AV.p (ii (IntKind.i64.wrap ((k : Int) - 1)))), _, _, _]) rfl ?_
            rw [ek, ← hn]; rfl
          · have ee : endsB L[j] L[k] = false := by unfold endsB; simp only [*]; rfl
            rw [ee, if_neg (by decide)] at hn
            refine ⟨k - 1, ⟨by show j ≤ k - 1; omega, by show k - 1 < L.length; omega, fun q => by cases q⟩, by show k - 1 < k; omega, (by show (2 : Nat) ≤ 2; decide), Trim.mk' ?_ rfl rfl rfl (by show (2 : Nat) ≤ 2; decide)⟩
            refine Eq.trans (b := [_, _, (5, .osl 0 (X.map Gt.pv).length 0 (X.map Gt.pv).length), _, _, _, (9, .p (ii (nextMk L[j] (L.drop (k + 1))))), (10, AV.p (ii (IntKind.i64.wrap ((k : Int) - 1)))), _, _, _]) rfl ?_
            rw [ek, ← hn]; rfl
          · have ee : endsB L[j] L[k] = false := by unfold endsB; simp only [*]; rfl
            rw [ee, if_neg (by decide)] at hn
            refine ⟨k - 1, ⟨by show j ≤ k - 1; omega, by show k - 1 < L.length; omega, fun q => by cases q⟩, by show k - 1 < k; omega, (by show (2 : Nat) ≤ 2; decide), Trim.mk' ?_ rfl rfl rfl (by show (2 : Nat) ≤ 2; decide)⟩
            refine Eq.trans (b := [_, _, (5, .osl 0 (X.map Gt.pv).length 0 (X.map Gt.pv).length), _, _, _, (9, .p (ii (nextMk L[j] (L.drop (k + 1))))), (10, AV.p (ii (IntKind.i64.wrap ((k : Int) - 1)))), _, _, _]) rfl ?_
            rw [ek, ← hn]; rfl
        | false =>
          have hkl : k + 1 = L.length := by have := k3 htx; omega
          have hfin : (nextMk L[j] (L.drop (k + 1)) == 1) = isComm L[j] (L.drop (j + 1)) := by
            rw [hkl, List.drop_length]; unfold isComm; rw [htx]; rfl
          have hw2 : 0 ≤ ((j : Nat) : Int) ∧ ((j : Nat) : Int) ≤ IntKind.i64.wrap ((j : Int) + 1) ∧ IntKind.i64.wrap ((j : Int) + 1) ≤ (((L.map Bt.pv).length : Nat) : Int) := by rw [ej]; omega
          have hcut : (((L.map Bt.pv).take (IntKind.i64.wrap ((j : Int) + 1)).toNat).drop ((j : Nat) : Int).toNat) = [L[j]].map Bt.pv := by
            rw [ej, Int.toNat_natCast, Int.toNat_natCast, ← List.map_take, ← List.map_drop, List.take_succ_eq_append_getElem hj1, List.drop_append_of_le_length (by rw [List.length_take]; omega), List.drop_take, Nat.sub_self]; rfl
          have hre : ∀ s K, K (.p (.sl .shr 4 ((gtsB st v L[j]).map Gt.pv))) s → Cal Tryz.prog 25 [.p (.sl .shr 7 (((L.map Bt.pv).take (IntKind.i64.wrap ((j : Int) + 1)).toNat).drop ((j : Nat) : Int).toNat)), .p (ii st), .p (ii v)] s K := by
            intro s K hK
            rw [hcut]
            refine drecs_c st v [L[j]] (by simp) (fun b hm => by rw [List.mem_singleton.1 hm]; exact hbj.1) s K ?_
            have eg : gts st v [L[j]] = gtsB st v L[j] := by show gtsB st v L[j] ++ [] = _; rw [List.append_nil]
            rw [eg]; exact hK
          have hYl : (gtsB st v L[j]).length ≤ 300 := by have := gtsN_le st v L[j] L[j].recs.length; have := hbj.1; unfold gtsB; omega
          have hYm : ((gtsB st v L[j]).map Gt.pv).length = (gtsB st v L[j]).length := List.length_map ..
          have hob : ((X.map Gt.pv).length + ((gtsB st v L[j]).map Gt.pv).length) * 48 ≤ 140737488355328 := by omega
          cases hcm : (nextMk L[j] (L.drop (k + 1)) == 1) with
          | true =>
            rw [hcm] at hfin
            rw [← hfin, if_pos rfl, ← List.append_assoc] at hX
            generalize nextMk L[j] (L.drop (k + 1)) = mk at hcm ⊢
            have hXs := fun (_ : Unit) => hX
            clear hfin hcut hYl hYm hc hXl hXm hlm edk k3 ek hX e0 hb3 hcl hcmm hgk
            try clear hkl
            try clear hkj'
            repeat' (first
              | (apply Br.t; · (first | rfl | (simp only [*] <;> rfl)))
              | (apply Br.f; · (first | rfl | (simp only [*] <;> rfl)))
              | refine Ob.mk (okst rfl rfl rfl) ?_
              | refine Ob.mk hw2 ?_
              | refine hre _ _ ?_
              | refine Ob.mk ⟨rfl, rfl, rfl, hob⟩ ?_
              | refine Br.mkT (fun c => ?_) (fun c => ?_)
              | refine Br.mkF (fun c => ?_) (fun c => ?_)
              | refine Br.mk (fun c => ?_) (fun c => ?_))
            refine ⟨(X ++ gtsB st v L[j], j + 1), ⟨by show j + 1 ≤ L.length; omega, hXs ()⟩, by show L.length - (j + 1) < L.length - j; omega, (by show (0 : Nat) ≤ 1; decide), Trim.mk' ?_ ?_ rfl rfl (by show (1 : Nat) ≤ 2; decide)⟩
            · refine Eq.trans (b := [_, _, (5, .osl 0 (X.map Gt.pv ++ (gtsB st v L[j]).map Gt.pv).length 0 (X.map Gt.pv ++ (gtsB st v L[j]).map Gt.pv).length), _, _, _, (16, AV.p (ii (IntKind.i64.wrap ((j : Int) + 1))))]) rfl ?_
              rw [ej, ← List.map_append]; rfl
            · show [some (AObj.buf 4 (X.map Gt.pv ++ (gtsB st v L[j]).map Gt.pv) none)] = _
              rw [← List.map_append]
          | false =>
            rw [hcm] at hfin
            rw [← hfin, if_neg (by decide), List.nil_append] at hX
            generalize nextMk L[j] (L.drop (k + 1)) = mk at hcm ⊢
            have hXs := fun (_ : Unit) => hX
            clear hfin hcut hYl hYm hc hXl hXm hlm edk k3 ek hX e0 hb3 hcl hcmm hgk
            try clear hkl
            try clear hkj'
            repeat' (first
              | (apply Br.t; · (first | rfl | (simp only [*] <;> rfl)))
              | (apply Br.f; · (first | rfl | (simp only [*] <;> rfl)))
              | refine Ob.mk (okst rfl rfl rfl) ?_
              | refine Br.mkT (fun c => ?_) (fun c => ?_)
              | refine Br.mkF (fun c => ?_) (fun c => ?_)
              | refine Br.mk (fun c => ?_) (fun c => ?_))
            refine ⟨(X, j + 1), ⟨by show j + 1 ≤ L.length; omega, hXs ()⟩, by show L.length - (j + 1) < L.length - j; omega, (by show (0 : Nat) ≤ 1; decide), Trim.mk' ?_ rfl rfl rfl (by show (1 : Nat) ≤ 2; decide)⟩
            refine Eq.trans (b := [_, _, (5, .osl 0 (X.map Gt.pv).length 0 (X.map Gt.pv).length), _, _, _, (16, AV.p (ii (IntKind.i64.wrap ((j : Int) + 1))))]) rfl ?_
            rw [ej]; rfl
      · have hkj' : k = j := by omega
        have ckj : decide ((k : Int) > (j : Nat)) = false := decide_eq_false (by omega)
        have hfin : (nextMk L[j] (L.drop (k + 1)) == 1) = isComm L[j] (L.drop (j + 1)) := by
          cases htx : L[j].txn with
          | true => rw [hkj']; unfold isComm; rw [htx]; rfl
          | false =>
            have hkl : k + 1 = L.length := by have := k3 htx; omega
            rw [hkl, List.drop_length]; unfold isComm; rw [htx]; rfl
        have hw2 : 0 ≤ ((j : Nat) : Int) ∧ ((j : Nat) : Int) ≤ IntKind.i64.wrap ((j : Int) + 1) ∧ IntKind.i64.wrap ((j : Int) + 1) ≤ (((L.map Bt.pv).length : Nat) : Int) := by rw [ej]; omega
        have hcut : (((L.map Bt.pv).take (IntKind.i64.wrap ((j : Int) + 1)).toNat).drop ((j : Nat) : Int).toNat) = [L[j]].map Bt.pv := by
          rw [ej, Int.toNat_natCast, Int.toNat_natCast, ← List.map_take, ← List.map_drop, List.take_succ_eq_append_getElem hj1, List.drop_append_of_le_length (by rw [List.length_take]; omega), List.drop_take, Nat.sub_self]; rfl
        have hre : ∀ s K, K (.p (.sl .shr 4 ((gtsB st v L[j]).map Gt.pv))) s → Cal Tryz.prog 25 [.p (.sl .shr 7 (((L.map Bt.pv).take (IntKind.i64.wrap ((j : Int) + 1)).toNat).drop ((j : Nat) : Int).toNat)), .p (ii st), .p (ii v)] s K := by
          intro s K hK
          rw [hcut]
          refine drecs_c st v [L[j]] (by simp) (fun b hm => by rw [List.mem_singleton.1 hm]; exact hbj.1) s K ?_
          have eg : gts st v [L[j]] = gtsB st v L[j] := by show gtsB st v L[j] ++ [] = _; rw [List.append_nil]
          rw [eg]; exact hK
        have hYl : (gtsB st v L[j]).length ≤ 300 := by have := gtsN_le st v L[j] L[j].recs.length; have := hbj.1; unfold gtsB; omega
        have hYm : ((gtsB st v L[j]).map Gt.pv).length = (gtsB st v L[j]).length := List.length_map ..
        have hob : ((X.map Gt.pv).length + ((gtsB st v L[j]).map Gt.pv).length) * 48 ≤ 140737488355328 := by omega
        cases hcm : (nextMk L[j] (L.drop (k + 1)) == 1) with
        | true =>
          rw [hcm] at hfin
          rw [← hfin, if_pos rfl, ← List.append_assoc] at hX
          generalize nextMk L[j] (L.drop (k + 1)) = mk at hcm ⊢
          have hXs := fun (_ : Unit) => hX
          clear hfin hcut hYl hYm hc hXl hXm hlm edk k3 ek hX e0 hb3 hcl hcmm hgk
          try clear hkl
          try clear hkj'
          repeat' (first
            | (apply Br.t; · (first | rfl | (simp only [*] <;> rfl)))
            | (apply Br.f; · (first | rfl | (simp only [*] <;> rfl)))
            | refine Ob.mk (okst rfl rfl rfl) ?_
            | refine Ob.mk hw2 ?_
            | refine hre _ _ ?_
            | refine Ob.mk ⟨rfl, rfl, rfl, hob⟩ ?_
            | refine Br.mkT (fun c => ?_) (fun c => ?_)
            | refine Br.mkF (fun c => ?_) (fun c => ?_)
            | refine Br.mk (fun c => ?_) (fun c => ?_))
          refine ⟨(X ++ gtsB st v L[j], j + 1), ⟨by show j + 1 ≤ L.length; omega, hXs ()⟩, by show L.length - (j + 1) < L.length - j; omega, (by show (0 : Nat) ≤ 1; decide), Trim.mk' ?_ ?_ rfl rfl (by show (1 : Nat) ≤ 2; decide)⟩
          · refine Eq.trans (b := [_, _, (5, .osl 0 (X.map Gt.pv ++ (gtsB st v L[j]).map Gt.pv).length 0 (X.map Gt.pv ++ (gtsB st v L[j]).map Gt.pv).length), _, _, _, (16, AV.p (ii (IntKind.i64.wrap ((j : Int) + 1))))]) rfl ?_
            rw [ej, ← List.map_append]; rfl
          · show [some (AObj.buf 4 (X.map Gt.pv ++ (gtsB st v L[j]).map Gt.pv) none)] = _
            rw [← List.map_append]
        | false =>
          rw [hcm] at hfin
          rw [← hfin, if_neg (by decide), List.nil_append] at hX
          generalize nextMk L[j] (L.drop (k + 1)) = mk at hcm ⊢
          have hXs := fun (_ : Unit) => hX
          clear hfin hcut hYl hYm hc hXl hXm hlm edk k3 ek hX e0 hb3 hcl hcmm hgk
          try clear hkl
          try clear hkj'
          repeat' (first
            | (apply Br.t; · (first | rfl | (simp only [*] <;> rfl)))
            | (apply Br.f; · (first | rfl | (simp only [*] <;> rfl)))
            | refine Ob.mk (okst rfl rfl rfl) ?_
            | refine Br.mkT (fun c => ?_) (fun c => ?_)
            | refine Br.mkF (fun c => ?_) (fun c => ?_)
            | refine Br.mk (fun c => ?_) (fun c => ?_))
          refine ⟨(X, j + 1), ⟨by show j + 1 ≤ L.length; omega, hXs ()⟩, by show L.length - (j + 1) < L.length - j; omega, (by show (0 : Nat) ≤ 1; decide), Trim.mk' ?_ rfl rfl rfl (by show (1 : Nat) ≤ 2; decide)⟩
          refine Eq.trans (b := [_, _, (5, .osl 0 (X.map Gt.pv).length 0 (X.map Gt.pv).length), _, _, _, (16, AV.p (ii (IntKind.i64.wrap ((j : Int) + 1))))]) rfl ?_
          rw [ej]; rfl
  · have : j = L.length := by
      have := of_decide_eq_false hc
      omega
    subst this
    rw [List.drop_length] at hX
    have hX : X = comm st v L := by rw [← hX]; simp [comm]
    subst hX
    refine Ob.mk rfl ?_
    show K (.p (.sl .shr 4 ((((comm st v L).map Gt.pv).drop 0).take ((comm st v L).map Gt.pv).length))) s
    rw [List.drop_zero, List.take_length]; exact h
end Go.Proofs.YtlnelaajlhfabaaGreat.AW

open Go Go.Proofs.YtlnelaajlhfabaaGreat.AW Go.Proofs
namespace Go.Proofs.YtlnelaajlhfabaaGreat.AW
set_option maxRecDepth 100000
set_option linter.unusedSimpArgs false
set_option linter.unusedVariables false

/-! ### The sums of a row -/
theorem byI_sum {p : Int} : ∀ {l : List PN}, (∀ q, q ∈ l → 0 ≤ q.2 ∧ q.2 < 4611686018427387904) → ((byI l p).map (·.2)).sum = (l.map (·.2)).sum + 1
  | [], _ => rfl
  | q :: r, h => by
    have hq := h q (List.mem_cons_self ..)
    have ih := byI_sum (p := p) (l := r) fun x hx => h x (List.mem_cons_of_mem _ hx)
    rw [byI_cons]
    split
    · rw [List.map_cons, List.sum_cons, ih, List.map_cons, List.sum_cons]; omega
    · split
      · have e : IntKind.i64.wrap (q.2 + 1) = q.2 + 1 := by rw [wrap_i64] <;> omega
        rw [List.map_cons, List.sum_cons, List.map_cons, List.sum_cons]
        show IntKind.i64.wrap (q.2 + 1) + _ = _
        rw [e]; omega
      · rw [List.map_cons, List.sum_cons, List.map_cons, List.sum_cons]
        show (1 : Int) + _ = _
        omega
theorem byI_le {p M : Int} (hM : 1 ≤ M) (h2 : M < 4611686018427387904) : ∀ {l : List PN}, (∀ q, q ∈ l → 0 ≤ q.2 ∧ q.2 < M) → ∀ q, q ∈ byI l p → 0 ≤ q.2 ∧ q.2 < M + 1
  | [], _, q, hq => by rw [byI_nil] at hq; rw [List.mem_singleton.1 hq]; show (0 : Int) ≤ 1 ∧ (1 : Int) < M + 1; omega
  | x :: r, h, q, hq => by
    have hx := h x (List.mem_cons_self ..)
    have ih := byI_le (p := p) hM h2 (l := r) fun x hx => h x (List.mem_cons_of_mem _ hx)
    rw [byI_cons] at hq
    split at hq
    · rcases List.mem_cons.1 hq with rfl | hq
      · omega
      · exact ih q hq
    · split at hq
      · have e : IntKind.i64.wrap (x.2 + 1) = x.2 + 1 := by rw [wrap_i64] <;> omega
        rcases List.mem_cons.1 hq with rfl | hq
        · show 0 ≤ IntKind.i64.wrap (x.2 + 1) ∧ IntKind.i64.wrap (x.2 + 1) < M + 1
          rw [e]; omega
        · have := h q (List.mem_cons_of_mem _ hq); omega
      · rcases List.mem_cons.1 hq with rfl | hq
        · show (0 : Int) ≤ 1 ∧ (1 : Int) < M + 1; omega
        · have := h q hq; omega
theorem byL_cnt : ∀ l : List Gt, l.length < 4611686018427387903 → ((byL l).map (·.2)).sum = (l.length : Nat) ∧ ∀ q, q ∈ byL l → 0 ≤ q.2 ∧ q.2 < (l.length : Nat) + 1 := by
  intro l
  rw [← List.reverse_reverse l]
  induction l.reverse with
  | nil => intro _; exact ⟨rfl, fun q hq => by cases hq⟩
  | cons g r ih =>
    rw [List.reverse_cons]
    intro h
    rw [List.length_append] at h
    have h1 : ([g] : List Gt).length = 1 := rfl
    rw [h1] at h
    obtain ⟨i1, i2⟩ := ih (by omega)
    rw [byL_snoc, List.length_append, h1]
    refine ⟨?_, ?_⟩
    · rw [byI_sum fun q hq => by have := i2 q hq; omega, i1]; omega
    · intro q hq
      have := byI_le (M := (r.reverse.length : Nat) + 1) (by omega) (by omega) i2 q hq
      omega
/-- The sum of the first counts. -/
def byS (B : List PN) (j : Nat) : Int := ((B.take j).map (·.2)).sum
theorem byS_succ {B : List PN} {j : Nat} (h : j < B.length) : byS B (j + 1) = byS B j + B[j].2 := by
  unfold byS; rw [take_succ' h, List.map_append, List.sum_append]; simp
theorem sum_take_le : ∀ {l : List Int} {j : Nat}, (∀ x, x ∈ l → 0 ≤ x) → 0 ≤ (l.take j).sum ∧ (l.take j).sum ≤ l.sum
  | [], j, _ => by simp
  | x :: l, 0, h => by
    have := sum_take_le (l := l) (j := l.length) fun y hy => h y (List.mem_cons_of_mem _ hy)
    rw [List.take_length] at this
    have := h x (List.mem_cons_self ..)
    rw [List.take_zero, List.sum_nil, List.sum_cons]; omega
  | x :: l, j + 1, h => by
    have := sum_take_le (l := l) (j := j) fun y hy => h y (List.mem_cons_of_mem _ hy)
    have := h x (List.mem_cons_self ..)
    rw [List.take_succ_cons, List.sum_cons, List.sum_cons]; omega
theorem byS_in {G : List Gt} (hG : G.length ≤ 1000000000) (j : Nat) : 0 ≤ byS (byL G) j ∧ byS (byL G) j ≤ (G.length : Nat) := by
  obtain ⟨h1, h2⟩ := byL_cnt G (by omega)
  have := sum_take_le (l := (byL G).map (·.2)) (j := j) fun x hx => by
    obtain ⟨q, hq, rfl⟩ := List.mem_map.1 hx
    exact (h2 q hq).1
  unfold byS
  rw [List.map_take]; omega
theorem byS_all {G : List Gt} (hG : G.length ≤ 1000000000) : byS (byL G) (byL G).length = (G.length : Nat) := by
  unfold byS; rw [List.take_length]; exact (byL_cnt G (by omega)).1
theorem lost_bad {L : List Bt} (h : RowC 0 L) (v : Int) : ((gts 0 v L).countP fun g => decide (g ∉ comm 0 v L)) ≤ (gts 0 (endW 0 L) L).countP (bad (dFold L).2) := by
  have e : bad (dFold L).2 = hit (dFold L).2 := funext fun g => bad_hit (DInv.mk' h) g
  rw [e]
  by_cases hv : v ≤ endW 0 L
  · exact lost_le h (Int.le_refl _) hv
  · rw [gts_all (fr' := 0) (to' := v) h (Int.le_refl _) (Int.le_refl _) (Int.le_refl _) (by omega)]
    exact lost_le h (Int.le_refl _) (Int.le_refl _)
end Go.Proofs.YtlnelaajlhfabaaGreat.AW

open Go Go.Proofs.YtlnelaajlhfabaaGreat.AW Go.Proofs
namespace Go.Proofs.YtlnelaajlhfabaaGreat.AW
set_option maxRecDepth 100000
set_option linter.unusedSimpArgs false
set_option linter.unusedVariables false

/-! ### LedgerSums -/
theorem getPB {l : List PN} {j : Nat} (h : j < l.length) : (l.map pnP)[((j : Nat) : Int).toNat]? = some (.agg [ii l[j].1, ii l[j].2]) := by
  rw [Int.toNat_natCast, List.getElem?_map, List.getElem?_eq_getElem h]; rfl
def eqG (x g : Gt) : Bool := (x.off == g.off) && ((x.prod == g.prod) && (((x.key == g.key) && ((x.val == g.val) && true)) && true))
theorem eqG_iff (x g : Gt) : eqG x g = true ↔ x = g := by
  unfold eqG
  cases x; cases g
  simp
theorem any_mem (C : List Gt) (g : Gt) : (C.any fun x => eqG x g) = decide (g ∈ C) := by
  rw [Bool.eq_iff_iff, List.any_eq_true, decide_eq_true_iff]
  constructor
  · rintro ⟨x, hx, e⟩
    rw [(eqG_iff _ _).1 e] at hx; exact hx
  · intro h; exact ⟨g, h, (eqG_iff _ _).2 rfl⟩
set_option maxHeartbeats 16000000 in
theorem lsums_c (t : List Int) (ht : t.length ≤ 9223372036854775807) (s : Store) (K : AV → Store → Prop) (h : K (.p (.bool true)) s) : Cal Tryz.prog 7 [.p (kl t)] s K := by
  refine Cal.pure (args := [kl t]) ?_
  refine Cal.intro Tryz.func7 (by decide +kernel) rfl rfl ?_
  refine row_c t 0 25 ht (by decide) _ _ fun L hL hlen => ?_
  have hb3 : ∀ b, b ∈ L → b.recs.length ≤ 300 := fun b hm => by have := (hL.tiny b hm).1; omega
  have hbs : ∀ b, b ∈ L → b.small := fun b hm => by
    obtain ⟨h1, h2⟩ := right_small (hL.c.right b hm)
    exact ⟨by omega, fun q hq => by have := h2 q hq; omega⟩
  have hof := fun s K => of_c (st := 0) L (by omega) hL.c s K
  have hre := fun to s K => drecs_c 0 to L (by omega) hb3 s K
  have hen := fun s K => end1_c L 0 (by omega) s K
  have hst := fun s K => stable_c L (by omega) hbs 0 s K
  have hco := fun r hr s K => committed_c L (by omega) hbs 0 r hr s K
  have hgl := fun to => row_len (fr := 0) (to := to) hL
  have hlo := fun v => lost_bad hL.c v
  have hgn := gts_len hL.c (Int.le_refl 0) (Int.le_refl (endW 0 L))
  obtain ⟨hr1, hr2⟩ := row_counts hL.c
  have hlm : (L.map Bt.pv).length = L.length := List.length_map ..
  unfold tlP at hof
  have hG1 := hgl (endW 0 L)
  have hreG := hre (endW 0 L)
  generalize endW 0 L = E at hof hen hlo hgn hr1 hG1 hreG
  generalize gts 0 E L = G at hof hlo hgn hG1 hreG
  have hG : G.length ≤ 1000000000 := by omega
  have hby := fun s K => by2_c G hG s K
  have hSi := byS_in hG
  have hSa := byS_all hG
  have hBl := byL_len G
  generalize byL G = B at hby hSi hSa hBl
  generalize hR : recN L = R at hof hgn hr1
  generalize hM0 : mkN 0 L = m0 at hof hr2
  generalize hM1 : mkN 1 L = m1 at hof hr1 hr2
  generalize hM2 : mkN 2 L = m2 at hof hr1 hr2
  generalize hLo : G.countP (bad (dFold L).2) = lo at hof hlo
  generalize szN L = z at hof
  generalize opN (dFold L).1 = o at hof
  have hGm := gsL G
  clear hR hM0 hM1 hM2 hLo
  have keep : True := trivial
  refine hof _ _ ?_
  refine Ob.mk (okst rfl rfl rfl) ?_
  refine hen _ _ ?_
  refine hreG _ _ ?_
  refine hby _ _ ?_
  have hBm : (B.map pnP).length = B.length := List.length_map ..
  refine LoopX.fam [3, 4, 5, 6, 7, 27, 28, 29] (fun (j : Nat) => ([(3, .p (rowP L)), (4, .ref 0 0), (5, .p (ii E)), (6, .p (gsP G)), (7, .p (ii (byS B j))), (27, .p (pnsC B)), (28, .p (ii (B.map pnP).length)), (29, .p (ii (j : Nat)))], [some (.cells [.p (ii m0), .p (ii R), .p (ii z), .p (ii m1), .p (ii m2), .p (ii o), .p (ii lo)])]))
    (fun j => j ≤ B.length) (fun j => B.length - j) 0 (Nat.zero_le _) (Trim.mk' rfl rfl rfl rfl (Nat.le_refl _)) ?_
  intro j hj
  replace hj : j ≤ B.length := hj
  refine Br.mk (fun hc => ?_) (fun hc => ?_)
  · replace hc : (j : Int) < ((B.map pnP).length : Nat) := of_decide_eq_true hc
    have hj1 : j < B.length := by omega
    have ej : IntKind.i64.wrap ((j : Int) + 1) = ((j + 1 : Nat) : Int) := by rw [wrap_i64] <;> omega
    have s1 := hSi (j + 1)
    have s2 := byS_succ hj1
    have es : IntKind.i64.wrap (byS B j + B[j].2) = byS B (j + 1) := by rw [← s2, wrap_i64] <;> omega
    refine Idx.mk _ (Int.natCast_nonneg _) (getPB hj1) ?_
    clear s1 s2
    refine Or.inl ?_
    repeat' (first
      | (apply Br.t; · (first | rfl | (simp only [*] <;> rfl)))
      | (apply Br.f; · (first | rfl | (simp only [*] <;> rfl)))
      | refine Ob.mk (okst rfl rfl rfl) ?_
      | refine Ob.mk (okst rfl rfl rfl) ?_
      | refine Ob.mk (by decide) ?_
      | refine Br.mkT (fun c => ?_) (fun c => ?_)
      | refine Br.mkF (fun c => ?_) (fun c => ?_)
      | refine Br.mk (fun c => ?_) (fun c => ?_))
    refine ⟨j + 1, by show j + 1 ≤ B.length; omega, by show B.length - (j + 1) < B.length - j; omega, (by show (1 : Nat) ≤ 1; decide), Trim.mk' ?_ rfl rfl rfl (by show (1 : Nat) ≤ 2; decide)⟩
    refine Eq.trans (b := [_, _, _, _, (7, .p (ii (IntKind.i64.wrap (byS B j + B[j].2)))), _, _, (29, AV.p (ii (IntKind.i64.wrap ((j : Int) + 1))))]) rfl ?_
    rw [ej, es]; rfl
  · replace hc : j = B.length := by
      have := of_decide_eq_false hc
      have : ¬ (j : Int) < ((B.map pnP).length : Nat) := this
      omega
    rw [hc, hSa]
    clear hc hj hSi hSa hBl hBm hby
    refine hst _ _ fun r hr => ?_
    have hcr := hco r hr
    generalize stV r L 0 = v at hcr ⊢
    have hG2 := hgl v
    have hlv := hlo v
    have hrv := hre v
    refine hrv _ _ ?_
    have hCl := comm_le (fr := 0) (to := v) (M := 300) hb3
    generalize gts 0 v L = Q at hG2 hlv hrv ⊢
    generalize comm 0 v L = C at hcr hlv hCl
    have hQm := gsL Q
    have hCm := gsL C
    have hbnd : ∀ i, (Q.take i).countP (fun g => decide (g ∉ C)) ≤ Q.length := fun i => Nat.le_trans List.countP_le_length (by rw [List.length_take]; omega)
    refine LoopX.fam [3, 4, 5, 6, 7, 11, 42, 43, 44] (fun (j : Nat) => ([(3, .p (rowP L)), (4, .ref 0 0), (5, .p (ii E)), (6, .p (gsP G)), (7, .p (ii (G.length : Nat))), (11, .p (ii ((Q.take j).countP (fun g => decide (g ∉ C)) : Nat))), (42, .p (gsP Q)), (43, .p (ii (Q.map Gt.pv).length)), (44, .p (ii (j : Nat)))], [some (.cells [.p (ii m0), .p (ii R), .p (ii z), .p (ii m1), .p (ii m2), .p (ii o), .p (ii lo)])]))
      (fun j => j ≤ Q.length) (fun j => Q.length - j) 0 (Nat.zero_le _) (Trim.mk' rfl rfl rfl rfl (Nat.le_refl _)) ?_
    intro j hj
    replace hj : j ≤ Q.length := hj
    refine Br.mk (fun hc => ?_) (fun hc => ?_)
    · replace hc : (j : Int) < ((Q.map Gt.pv).length : Nat) := of_decide_eq_true hc
      have hj1 : j < Q.length := by omega
      have ej : IntKind.i64.wrap ((j : Int) + 1) = ((j + 1 : Nat) : Int) := by rw [wrap_i64] <;> omega
      have hgj := getG hj1
      refine Idx.mk _ (Int.natCast_nonneg _) hgj ?_
      clear hgj
      repeat' (first
        | (apply Br.t; · (first | rfl | (simp only [*] <;> rfl)))
        | (apply Br.f; · (first | rfl | (simp only [*] <;> rfl)))
        | refine Ob.mk (okst rfl rfl rfl) ?_
        | refine Ob.mk (okst rfl rfl rfl) ?_
        | refine hcr _ _ ?_
        | refine Br.mkT (fun c => ?_) (fun c => ?_)
        | refine Br.mkF (fun c => ?_) (fun c => ?_)
        | refine Br.mk (fun c => ?_) (fun c => ?_))
      refine LoopX.fam [3, 4, 5, 6, 7, 11, 13, 14, 42, 43, 44, 49, 50, 51] (fun (k : Nat) => ([(3, .p (rowP L)), (4, .ref 0 0), (5, .p (ii E)), (6, .p (gsP G)), (7, .p (ii (G.length : Nat))), (11, .p (ii ((Q.take j).countP (fun g => decide (g ∉ C)) : Nat))), (13, .ref 1 0), (14, .p (.bool ((C.take k).any fun x => eqG x Q[j]))), (42, .p (gsP Q)), (43, .p (ii (Q.map Gt.pv).length)), (44, .p (ii (j : Nat))), (49, .p (gsP C)), (50, .p (ii (C.map Gt.pv).length)), (51, .p (ii (k : Nat)))], [some (.cells [.p (ii m0), .p (ii R), .p (ii z), .p (ii m1), .p (ii m2), .p (ii o), .p (ii lo)]), some (.cells [.p (ii Q[j].off), .p (ii Q[j].prod), .p (.str Q[j].key), .p (.str Q[j].val)])]))
        (fun k => k ≤ C.length) (fun k => C.length - k) 0 (Nat.zero_le _) (Trim.mk' rfl rfl rfl rfl (Nat.le_refl _)) ?_
      intro k hk
      replace hk : k ≤ C.length := hk
      refine Br.mk (fun hc => ?_) (fun hc => ?_)
      · replace hc : (k : Int) < ((C.map Gt.pv).length : Nat) := of_decide_eq_true hc
        have hk1 : k < C.length := by omega
        have ek : IntKind.i64.wrap ((k : Int) + 1) = ((k + 1 : Nat) : Int) := by rw [wrap_i64] <;> omega
        have hany : ((C.take (k + 1)).any fun x => eqG x Q[j]) = (((C.take k).any fun x => eqG x Q[j]) || eqG C[k] Q[j]) := by rw [take_succ' hk1, List.any_append]; simp
        refine Idx.mk _ (Int.natCast_nonneg _) (getG hk1) ?_
        repeat' (first
          | (apply Br.t; · (first | rfl | (simp only [*] <;> rfl)))
          | (apply Br.f; · (first | rfl | (simp only [*] <;> rfl)))
          | refine Ob.mk (okst rfl rfl rfl) ?_
          | refine Ob.mk (okst rfl rfl rfl) ?_
          | refine Ob.mk ⟨by decide +kernel, by decide +kernel⟩ ?_
          | refine Br.mkT (fun c => ?_) (fun c => ?_)
          | refine Br.mkF (fun c => ?_) (fun c => ?_)
          | refine Br.mk (fun c => ?_) (fun c => ?_))
        · rw [c, Bool.false_or] at hany
          refine ⟨k + 1, by show k + 1 ≤ C.length; omega, by show C.length - (k + 1) < C.length - k; omega, (by show (2 : Nat) ≤ 2; decide), Trim.mk' ?_ rfl rfl rfl (by show (2 : Nat) ≤ 3; decide)⟩
          refine Eq.trans (b := [_, _, _, _, _, _, _, (14, .p (.bool (eqG C[k] Q[j]))), _, _, _, _, _, (51, AV.p (ii (IntKind.i64.wrap ((k : Int) + 1))))]) rfl ?_
          rw [ek, ← hany]; rfl
        · rw [c, Bool.true_or] at hany
          refine ⟨k + 1, by show k + 1 ≤ C.length; omega, by show C.length - (k + 1) < C.length - k; omega, (by show (2 : Nat) ≤ 2; decide), Trim.mk' ?_ rfl rfl rfl (by show (2 : Nat) ≤ 3; decide)⟩
          refine Eq.trans (b := [_, _, _, _, _, _, _, (14, .p (.bool (true))), _, _, _, _, _, (51, AV.p (ii (IntKind.i64.wrap ((k : Int) + 1))))]) rfl ?_
          rw [ek, ← hany]; rfl
      · replace hc : k = C.length := by
          have := of_decide_eq_false hc
          have : ¬ (k : Int) < ((C.map Gt.pv).length : Nat) := this
          omega
        rw [hc, List.take_length, any_mem]
        have htk : (Q.take (j + 1)).countP (fun g => decide (g ∉ C)) = (Q.take j).countP (fun g => decide (g ∉ C)) + if decide (Q[j] ∉ C) = true then 1 else 0 := by rw [take_succ' hj1, List.countP_append, List.countP_singleton]
        have hb1 := hbnd j
        have ec : IntKind.i64.wrap ((((Q.take j).countP (fun g => decide (g ∉ C)) : Nat) : Int) + 1) = (((Q.take j).countP (fun g => decide (g ∉ C)) + 1 : Nat) : Int) := by rw [wrap_i64] <;> omega
        by_cases hm : Q[j] ∈ C
        · have d1 : decide (Q[j] ∈ C) = true := decide_eq_true hm
          have d2 : decide (Q[j] ∉ C) = false := decide_eq_false (fun h => h hm)
          replace htk : (Q.take (j + 1)).countP (fun g => decide (g ∉ C)) = (Q.take j).countP (fun g => decide (g ∉ C)) := by rw [htk, d2]; rfl
          rw [d1]
          repeat' (first
            | (apply Br.t; · (first | rfl | (simp only [*] <;> rfl)))
            | (apply Br.f; · (first | rfl | (simp only [*] <;> rfl)))
            | refine Ob.mk (okst rfl rfl rfl) ?_
            | refine Br.mkT (fun c => ?_) (fun c => ?_)
            | refine Br.mkF (fun c => ?_) (fun c => ?_)
            | refine Br.mk (fun c => ?_) (fun c => ?_))
          refine ⟨j + 1, by show j + 1 ≤ Q.length; omega, by show Q.length - (j + 1) < Q.length - j; omega, (by show (1 : Nat) ≤ 1; decide), Trim.mk' ?_ rfl rfl rfl (by show (1 : Nat) ≤ 2; decide)⟩
          refine Eq.trans (b := [_, _, _, _, _, (11, AV.p (ii ((Q.take j).countP (fun g => decide (g ∉ C)) : Nat))), _, _, (44, AV.p (ii (IntKind.i64.wrap ((j : Int) + 1))))]) rfl ?_
          rw [ej, ← htk]; rfl
        · have d1 : decide (Q[j] ∈ C) = false := decide_eq_false hm
          have d2 : decide (Q[j] ∉ C) = true := decide_eq_true hm
          rw [d2, if_pos rfl] at htk
          rw [d1]
          repeat' (first
            | (apply Br.t; · (first | rfl | (simp only [*] <;> rfl)))
            | (apply Br.f; · (first | rfl | (simp only [*] <;> rfl)))
            | refine Ob.mk (okst rfl rfl rfl) ?_
            | refine Br.mkT (fun c => ?_) (fun c => ?_)
            | refine Br.mkF (fun c => ?_) (fun c => ?_)
            | refine Br.mk (fun c => ?_) (fun c => ?_))
          refine ⟨j + 1, by show j + 1 ≤ Q.length; omega, by show Q.length - (j + 1) < Q.length - j; omega, (by show (1 : Nat) ≤ 1; decide), Trim.mk' ?_ rfl rfl rfl (by show (1 : Nat) ≤ 2; decide)⟩
          refine Eq.trans (b := [_, _, _, _, _, (11, AV.p (ii (IntKind.i64.wrap ((((Q.take j).countP (fun g => decide (g ∉ C)) : Nat) : Int) + 1)))), _, _, (44, AV.p (ii (IntKind.i64.wrap ((j : Int) + 1))))]) rfl ?_
          rw [ej, ec, ← htk]; rfl
    · replace hc : j = Q.length := by
        have := of_decide_eq_false hc
        have : ¬ (j : Int) < ((Q.map Gt.pv).length : Nat) := this
        omega
      rw [hc, List.take_length]
      generalize Q.countP (fun g => decide (g ∉ C)) = cn at hlv
      have hRG : R = G.length := hgn.symm
      have e1 : IntKind.i64.wrap ((R : Nat) + (m1 : Nat)) = ((R + m1 : Nat) : Int) := by rw [wrap_i64] <;> omega
      have e2 : IntKind.i64.wrap (((R + m1 : Nat) : Int) + (m2 : Nat)) = ((R + m1 + m2 : Nat) : Int) := by rw [wrap_i64] <;> omega
      have e3 : IntKind.i64.wrap ((m0 : Nat) + (m1 : Nat)) = ((m0 + m1 : Nat) : Int) := by rw [wrap_i64] <;> omega
      have e4 : IntKind.i64.wrap (((m0 + m1 : Nat) : Int) + (m2 : Nat)) = ((m0 + m1 + m2 : Nat) : Int) := by rw [wrap_i64] <;> omega
      have q1 : (((R : Nat) : Int) == ((G.length : Nat) : Int)) = true := by rw [hRG]; simp
      have q2 : ((((G.map Gt.pv).length : Nat) : Int) == ((R : Nat) : Int)) = true := by rw [hGm, hRG]; simp
      have q3 : decide (((cn : Nat) : Int) ≤ ((lo : Nat) : Int)) = true := decide_eq_true (by omega)
      have q4 : (IntKind.i64.wrap (IntKind.i64.wrap ((R : Nat) + (m1 : Nat)) + (m2 : Nat)) == E) = true := by rw [e1, e2, hr1]; simp
      have q5 : (IntKind.i64.wrap (IntKind.i64.wrap ((m0 : Nat) + (m1 : Nat)) + (m2 : Nat)) == (((L.map Bt.pv).length : Nat) : Int)) = true := by rw [e3, e4, hlm, hr2]; simp
      have hkn := known25_c
      clear e1 e2 e3 e4 hRG hlv hr1 hr2 hlm hgn hGm hQm hCm hbnd hc hj hG2 hCl hgl hG1 hG hlen
      repeat' (first
        | (apply Br.t; · (first | rfl | (simp only [*] <;> rfl)))
        | (apply Br.f; · (first | rfl | (simp only [*] <;> rfl)))
        | refine Ob.mk (okst rfl rfl rfl) ?_
        | refine hkn _ _ ?_
        | refine Br.mkT (fun c => ?_) (fun c => ?_)
        | refine Br.mkF (fun c => ?_) (fun c => ?_)
        | refine Br.mk (fun c => ?_) (fun c => ?_)
        | exact h
        | (simp only [*, Bool.true_and, Bool.false_and, Bool.true_or, Bool.false_or, Bool.and_true, Bool.and_false, Bool.or_true, Bool.or_false, Bool.not_true, Bool.not_false, if_true, if_false, reduceIte, Bool.false_eq_true] at h; exact h))
end Go.Proofs.YtlnelaajlhfabaaGreat.AW
