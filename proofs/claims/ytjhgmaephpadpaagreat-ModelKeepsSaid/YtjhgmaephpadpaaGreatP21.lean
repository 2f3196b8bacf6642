/- A part of the proof: LG/M27. -/
import Derived.Test.YtjhgmaephpadpaaGreatP20

open Go Go.Proofs.YtjhgmaephpadpaaGreat.AW Go.Proofs
namespace Go.Proofs.YtjhgmaephpadpaaGreat.AW
set_option maxRecDepth 100000
set_option linter.unusedSimpArgs false
set_option linter.unusedVariables false

/-! ### ModelKeeps -/
theorem getA {A : List Ac} {j : Nat} (h : j < A.length) : (A.map Ac.pv)[((j : Nat) : Int).toNat]? = some A[j].pv := by
  rw [Int.toNat_natCast]; simp [h]
theorem getF {F : List Int} {j : Nat} (h : j < F.length) : (F.map ii)[((j : Nat) : Int).toNat]? = some (ii F[j]) := by
  rw [Int.toNat_natCast]; simp [h]
attribute [local irreducible] prodV markV in
set_option maxHeartbeats 16000000 in
theorem keeps_c (l : List Int) (hl : l.length ≤ 9223372036854775807) (F : List Int) (hF : F.length ≤ 9223372036854775807) (s : Store) (K : AV → Store → Prop) (h : K (.p (.bool true)) s) : Cal Tryz.prog 5 [.p (kl l), .p (kl F)] s K := by
  refine Cal.pure (args := [kl l, kl F]) ?_
  refine Cal.intro Tryz.func5 (by decide +kernel) rfl rfl ?_
  refine Cal.frameK [] (new_c 0 0 0 1073741824 _ fun _ => ?_) rfl rfl rfl
  refine Br.f rfl ?_
  refine acts_c l 60 hl (by decide) _ _ fun A hA hAl => ?_
  have hAm := acsL A
  have hFl : (F.map ii).length = F.length := List.length_map ..
  refine LoopX.fam [1, 5, 19, 20, 21] (fun (q : List Bt × Int × Nat) => ([(1, .p (kl F)), (5, .ref 0 0), (19, .p (acsP A)), (20, .p (ii (A.map Ac.pv).length)), (21, .p (ii (q.2.2 : Nat)))], lgS 0 0 0 1073741824 q.2.1 q.1))
    (fun q => RowC q.2.1 q.1 ∧ q.1.length ≤ q.2.2 ∧ (0 ≤ q.2.1 ∧ q.2.1 ≤ 1099511627776) ∧ q.2.2 ≤ A.length) (fun q => A.length - q.2.2) ([], 0, 0) ⟨RowC.nil, Nat.le_refl _, ⟨Int.le_refl _, by decide⟩, Nat.zero_le _⟩ (Trim.mk' rfl rfl rfl rfl (Nat.le_refl _)) ?_
  rintro ⟨L, st, j⟩ ⟨hC, hL, ⟨h0, h1⟩, hj⟩
  have hC : RowC st L := hC
  have hL : L.length ≤ j := hL
  have h0 : 0 ≤ st := h0
  have h1 : st ≤ 1099511627776 := h1
  have hj : j ≤ A.length := hj
  refine Br.mk (fun hc => ?_) (fun hc => ?_)
  · have hc : (j : Int) < ((A.map Ac.pv).length : Nat) := of_decide_eq_true hc
    have hj1 : j < A.length := by omega
    have ej : IntKind.i64.wrap ((j : Int) + 1) = ((j + 1 : Nat) : Int) := by rw [wrap_i64] <;> omega
    have hxo := hA _ (List.getElem_mem hj1)
    refine Idx.mk _ (Int.natCast_nonneg _) (getA hj1) ?_
    generalize A[j] = x at hxo
    obtain ⟨kind, b, by_, fr, nn, on, ks, gs⟩ := x
    have hbs : b.small := hxo.1
    refine Ob.mk (okst rfl rfl rfl) ?_
    have hjl : j ≤ 62 := by omega
    clear hA hxo hc hAm
    cases k8 : (kind == 1) with
    | true =>
      refine Br.t k8 ?_
      refine Cal.frameK [0, 1, 2, 3] (lprod_c 0 0 0 1073741824 st L (by omega) hC h0 b hbs _ fun _ => ?_) rfl rfl rfl
      obtain ⟨m1, m2, _, _⟩ := prod_ans (cap := 1073741824) b hC h0 h1
      generalize prodV 1073741824 st L b = r at m1 m2 ⊢
      obtain ⟨r0, L'⟩ := r
      have m1 : RowC st L' := m1
      have m2 : L'.length ≤ L.length + 1 := m2
      have hL'l : L'.length ≤ 1000 := by omega
      have e5 : ((j : Nat) : Int).tmod 5 = ((j % 5 : Nat) : Int) := by rw [Int.tmod_eq_emod_of_nonneg (Int.natCast_nonneg _)]; omega
      have d5 : IntKind.i64.wrap (((j : Nat) : Int).tdiv 5) = ((j / 5 : Nat) : Int) := by rw [Int.tdiv_eq_ediv_of_nonneg (Int.natCast_nonneg _), wrap_i64] <;> omega
      cases k1 : (((j : Nat) : Int).tmod 5 != 4) with
      | true =>
        clear hFl d5 e5
        repeat' (first
          | (apply Br.t; · (first | rfl | (simp only [*] <;> rfl)))
          | (apply Br.f; · (first | rfl | (simp only [*] <;> rfl)))
          | refine Ob.mk (okst rfl rfl rfl) ?_
          | refine Ob.mk (by decide) ?_
          | refine Br.mkT (fun c => ?_) (fun c => ?_)
          | refine Br.mkF (fun c => ?_) (fun c => ?_)
          | refine Br.mk (fun c => ?_) (fun c => ?_))
        refine ⟨(L', st, j + 1), ⟨m1, by show L'.length ≤ j + 1; omega, ⟨h0, h1⟩, hj1⟩, by show A.length - (j + 1) < A.length - j; omega, Nat.le_refl _, Trim.mk' ?_ rfl rfl rfl (show 4 ≤ 5 by decide)⟩
        refine Eq.trans (b := [_, _, _, _, (21, AV.p (ii (IntKind.i64.wrap ((j : Int) + 1))))]) rfl ?_
        rw [ej]; rfl
      | false =>
        cases k2 : decide (IntKind.i64.wrap (((j : Nat) : Int).tdiv 5) ≥ ((F.map ii).length : Nat)) with
        | true =>
          clear hFl d5 e5
          repeat' (first
            | (apply Br.t; · (first | rfl | (simp only [*] <;> rfl)))
            | (apply Br.f; · (first | rfl | (simp only [*] <;> rfl)))
            | refine Ob.mk (okst rfl rfl rfl) ?_
            | refine Ob.mk (by decide) ?_
            | refine Br.mkT (fun c => ?_) (fun c => ?_)
            | refine Br.mkF (fun c => ?_) (fun c => ?_)
            | refine Br.mk (fun c => ?_) (fun c => ?_))
          refine ⟨(L', st, j + 1), ⟨m1, by show L'.length ≤ j + 1; omega, ⟨h0, h1⟩, hj1⟩, by show A.length - (j + 1) < A.length - j; omega, Nat.le_refl _, Trim.mk' ?_ rfl rfl rfl (show 4 ≤ 5 by decide)⟩
          refine Eq.trans (b := [_, _, _, _, (21, AV.p (ii (IntKind.i64.wrap ((j : Int) + 1))))]) rfl ?_
          rw [ej]; rfl
        | false =>
          have hjF : j / 5 < F.length := by have := of_decide_eq_false k2; rw [d5] at this; omega
          have hgF : (F.map ii)[(IntKind.i64.wrap (((j : Nat) : Int).tdiv 5)).toNat]? = some (ii F[j / 5]) := by rw [d5]; exact getF hjF
          have hn0 : 0 ≤ IntKind.i64.wrap (((j : Nat) : Int).tdiv 5) := by rw [d5]; exact Int.natCast_nonneg _
          generalize F[j / 5] = fv at hgF
          obtain ⟨f, hf⟩ : ∃ f, f = bits .and .i64 fv 127 := ⟨_, rfl⟩
          obtain ⟨k, r1, r2, r3, r4, r5, r6, r7, r8, r9⟩ := kp_law m1 h0 h1 f
          have hbt := fun K => lbats_c 0 0 0 1073741824 st L' (by omega) m1.recs K
          have hst := fun K => lstart_c 0 0 0 1073741824 st L' K
          have hen := fun K => lend_c 0 0 0 1073741824 st L' (by omega) K
          have hkp := fun K => lkeep_c 0 0 0 1073741824 st L' (by omega) m1.smalls m1.recs f K
          have hsb := fun s K => mstab_c L' (by omega) m1.smalls st s K
          have hb0 : ∀ h : 0 < (L'.drop k).length, ((L'.drop k)[0]).base = kpS st L' f := fun h => by
            have hk : k < L'.length := by rw [List.length_drop] at h; omega
            rw [List.getElem_drop, r2, bnd_lt hk]; rfl
          have hml : (L'.drop k).length = L'.length - k := List.length_drop ..
          rw [r3] at hkp
          have hbt2 := fun K => lbats_c 0 0 0 1073741824 (kpS st L' f) (L'.drop k) (by omega) r8.recs K
          have hst2 := fun K => lstart_c 0 0 0 1073741824 (kpS st L' f) (L'.drop k) K
          have hen2 := fun K => lend_c 0 0 0 1073741824 (kpS st L' f) (L'.drop k) (by omega) K
          rw [r9] at hen2
          have hrw := fun s K => rows_c (L'.drop k) (by omega) r8.recs s K
          have hwk : IntKind.i64.wrap (((L'.map Bt.pv).length : Int) - (((L'.drop k).map Bt.pv).length : Int)) = ((k : Nat) : Int) := by rw [List.length_map, List.length_map, hml, wrap_i64] <;> omega
          have hrs : ∀ s K, K (.p (.bool true)) s → Cal Tryz.prog 20 [.p (rowP (L'.drop k)), .p (.sl .shr 7 ((L'.map Bt.pv).drop (IntKind.i64.wrap (((L'.map Bt.pv).length : Int) - (((L'.drop k).map Bt.pv).length : Int))).toNat))] s K := fun s K hK => by
            rw [hwk, Int.toNat_natCast, ← List.map_drop]; exact hrw s K hK
          have osl : (0 : Int) ≤ IntKind.i64.wrap (((L'.map Bt.pv).length : Int) - (((L'.drop k).map Bt.pv).length : Int)) ∧ IntKind.i64.wrap (((L'.map Bt.pv).length : Int) - (((L'.drop k).map Bt.pv).length : Int)) ≤ (((L'.map Bt.pv).length : Nat) : Int) := by rw [hwk, List.length_map]; omega
          have q5 : decide (IntKind.i64.wrap (((L'.map Bt.pv).length : Int) - (((L'.drop k).map Bt.pv).length : Int)) < 0) = false := by rw [hwk]; exact decide_eq_false (by omega)
          have q1 : decide (kpS st L' f < st) = false := decide_eq_false (by omega)
          have q2 : decide (kpS st L' f > (if st > f then st else f)) = false := decide_eq_false (by
            rcases r5 with e | e
            · rw [e]; split <;> omega
            · split <;> omega)
          have q7 : decide (kpS st L' f > stbW st L') = false := decide_eq_false (by omega)
          have q3 : (kpS st L' f != kpS st L' f) = false := by simp
          have q4 : (endW st L' != endW st L') = false := by simp
          have hnx : RowC (kpS st L' f) (L'.drop k) ∧ (L'.drop k).length ≤ j + 1 ∧ (0 ≤ kpS st L' f ∧ kpS st L' f ≤ 1099511627776) ∧ j + 1 ≤ A.length := ⟨r8, by omega, ⟨by omega, r7⟩, hj1⟩
          have hms : A.length - (j + 1) < A.length - j := by omega
          generalize kpS st L' f = sn at *
          generalize endW st L' = en at *
          generalize stbW st L' = sb at *
          generalize L'.drop k = M at *
          rw [hf] at q2 hkp
          clear r1 r2 r3 r4 r5 r6 r7 r8 r9 hrw hwk hml e5 d5 hFl hf hL'l m1 m2 hjF
          cases M with
          | nil =>
            clear hb0
            repeat' (first
              | (apply Br.t; · (first | rfl | (simp only [*] <;> rfl)))
              | (apply Br.f; · (first | rfl | (simp only [*] <;> rfl)))
              | refine Ob.mk (okst rfl rfl rfl) ?_
              | refine Ob.mk (by decide) ?_
              | refine Cal.frameK [0, 1, 2, 3] (hbt _ fun _ => ?_) rfl rfl rfl
              | refine Cal.frameK [0, 1, 2, 3] (hst _ fun _ => ?_) rfl rfl rfl
              | refine Cal.frameK [0, 1, 2, 3] (hen _ fun _ => ?_) rfl rfl rfl
              | refine Cal.frameK [0, 1, 2, 3] (hkp _ fun _ => ?_) rfl rfl rfl
              | refine Cal.frameK [0, 5, 6, 7] (hbt2 _ fun _ => ?_) rfl rfl rfl
              | refine Cal.frameK [0, 5, 6, 7] (hst2 _ fun _ => ?_) rfl rfl rfl
              | refine Cal.frameK [0, 5, 6, 7] (hen2 _ fun _ => ?_) rfl rfl rfl
              | refine Idx.mk _ hn0 hgF ?_
              | refine hrs _ _ ?_
              | refine hsb _ _ ?_
              | refine Ob.mk osl ?_
              | refine Idx.mk b1.pv (Int.le_refl 0) rfl ?_
              | refine Br.mkT (fun c => ?_) (fun c => ?_)
              | refine Br.mkF (fun c => ?_) (fun c => ?_)
              | refine Br.mk (fun c => ?_) (fun c => ?_))
            refine ⟨([], sn, j + 1), hnx, hms, Nat.le_refl _, Trim.mv [] [0, 5, 6, 7] (TrimR.mk' rfl rfl ?_ rfl ?_)⟩
            · rfl
            · refine Eq.trans (b := [_, _, _, _, AV.p (ii (IntKind.i64.wrap ((j : Int) + 1)))]) rfl ?_
              rw [ej]; rfl
          | cons b1 M1 =>
            have q8 : (b1.base != sn) = false := by
              have := hb0 (by simp)
              simp only [List.getElem_cons_zero] at this
              rw [this]; simp
            have q6 : decide (((((b1 :: M1).map Bt.pv).length : Nat) : Int) > 0) = true := decide_eq_true (by rw [List.length_map, List.length_cons]; omega)
            clear hb0
            repeat' (first
              | (apply Br.t; · (first | rfl | (simp only [*] <;> rfl)))
              | (apply Br.f; · (first | rfl | (simp only [*] <;> rfl)))
              | refine Ob.mk (okst rfl rfl rfl) ?_
              | refine Ob.mk (by decide) ?_
              | refine Cal.frameK [0, 1, 2, 3] (hbt _ fun _ => ?_) rfl rfl rfl
              | refine Cal.frameK [0, 1, 2, 3] (hst _ fun _ => ?_) rfl rfl rfl
              | refine Cal.frameK [0, 1, 2, 3] (hen _ fun _ => ?_) rfl rfl rfl
              | refine Cal.frameK [0, 1, 2, 3] (hkp _ fun _ => ?_) rfl rfl rfl
              | refine Cal.frameK [0, 5, 6, 7] (hbt2 _ fun _ => ?_) rfl rfl rfl
              | refine Cal.frameK [0, 5, 6, 7] (hst2 _ fun _ => ?_) rfl rfl rfl
              | refine Cal.frameK [0, 5, 6, 7] (hen2 _ fun _ => ?_) rfl rfl rfl
              | refine Idx.mk _ hn0 hgF ?_
              | refine hrs _ _ ?_
              | refine hsb _ _ ?_
              | refine Ob.mk osl ?_
              | refine Idx.mk b1.pv (Int.le_refl 0) rfl ?_
              | refine Br.mkT (fun c => ?_) (fun c => ?_)
              | refine Br.mkF (fun c => ?_) (fun c => ?_)
              | refine Br.mk (fun c => ?_) (fun c => ?_))
            refine ⟨((b1::M1), sn, j + 1), hnx, hms, Nat.le_refl _, Trim.mv [] [0, 5, 6, 7] (TrimR.mk' rfl rfl ?_ rfl ?_)⟩
            · rfl
            · refine Eq.trans (b := [_, _, _, _, AV.p (ii (IntKind.i64.wrap ((j : Int) + 1)))]) rfl ?_
              rw [ej]; rfl
    | false =>
      refine Br.f k8 ?_
      cases k9 : (kind == 3) with
      | true =>
        refine Br.t k9 ?_
        refine Cal.frameK [0, 1, 2, 3] (lmark_c 0 0 0 1073741824 st L (by omega) hC h0 h1 b.prod b.epoch b.mark _ fun _ => ?_) rfl rfl rfl
        obtain ⟨m1, m2, _, _⟩ := mark_ans (cap := 1073741824) b.prod b.epoch b.mark hC h0 h1
        generalize markV 1073741824 st L b.prod b.epoch b.mark = r at m1 m2 ⊢
        obtain ⟨r0, L'⟩ := r
        have m1 : RowC st L' := m1
        have m2 : L'.length ≤ L.length + 1 := m2
        have hL'l : L'.length ≤ 1000 := by omega
        have e5 : ((j : Nat) : Int).tmod 5 = ((j % 5 : Nat) : Int) := by rw [Int.tmod_eq_emod_of_nonneg (Int.natCast_nonneg _)]; omega
        have d5 : IntKind.i64.wrap (((j : Nat) : Int).tdiv 5) = ((j / 5 : Nat) : Int) := by rw [Int.tdiv_eq_ediv_of_nonneg (Int.natCast_nonneg _), wrap_i64] <;> omega
        cases k1 : (((j : Nat) : Int).tmod 5 != 4) with
        | true =>
          clear hFl d5 e5
          repeat' (first
            | (apply Br.t; · (first | rfl | (simp only [*] <;> rfl)))
            | (apply Br.f; · (first | rfl | (simp only [*] <;> rfl)))
            | refine Ob.mk (okst rfl rfl rfl) ?_
            | refine Ob.mk (by decide) ?_
            | refine Br.mkT (fun c => ?_) (fun c => ?_)
            | refine Br.mkF (fun c => ?_) (fun c => ?_)
            | refine Br.mk (fun c => ?_) (fun c => ?_))
          refine ⟨(L', st, j + 1), ⟨m1, by show L'.length ≤ j + 1; omega, ⟨h0, h1⟩, hj1⟩, by show A.length - (j + 1) < A.length - j; omega, Nat.le_refl _, Trim.mk' ?_ rfl rfl rfl (show 4 ≤ 5 by decide)⟩
          refine Eq.trans (b := [_, _, _, _, (21, AV.p (ii (IntKind.i64.wrap ((j : Int) + 1))))]) rfl ?_
          rw [ej]; rfl
        | false =>
          cases k2 : decide (IntKind.i64.wrap (((j : Nat) : Int).tdiv 5) ≥ ((F.map ii).length : Nat)) with
          | true =>
            clear hFl d5 e5
            repeat' (first
              | (apply Br.t; · (first | rfl | (simp only [*] <;> rfl)))
              | (apply Br.f; · (first | rfl | (simp only [*] <;> rfl)))
              | refine Ob.mk (okst rfl rfl rfl) ?_
              | refine Ob.mk (by decide) ?_
              | refine Br.mkT (fun c => ?_) (fun c => ?_)
              | refine Br.mkF (fun c => ?_) (fun c => ?_)
              | refine Br.mk (fun c => ?_) (fun c => ?_))
            refine ⟨(L', st, j + 1), ⟨m1, by show L'.length ≤ j + 1; omega, ⟨h0, h1⟩, hj1⟩, by show A.length - (j + 1) < A.length - j; omega, Nat.le_refl _, Trim.mk' ?_ rfl rfl rfl (show 4 ≤ 5 by decide)⟩
            refine Eq.trans (b := [_, _, _, _, (21, AV.p (ii (IntKind.i64.wrap ((j : Int) + 1))))]) rfl ?_
            rw [ej]; rfl
          | false =>
            have hjF : j / 5 < F.length := by have := of_decide_eq_false k2; rw [d5] at this; omega
            have hgF : (F.map ii)[(IntKind.i64.wrap (((j : Nat) : Int).tdiv 5)).toNat]? = some (ii F[j / 5]) := by rw [d5]; exact getF hjF
            have hn0 : 0 ≤ IntKind.i64.wrap (((j : Nat) : Int).tdiv 5) := by rw [d5]; exact Int.natCast_nonneg _
            generalize F[j / 5] = fv at hgF
            obtain ⟨f, hf⟩ : ∃ f, f = bits .and .i64 fv 127 := ⟨_, rfl⟩
            obtain ⟨k, r1, r2, r3, r4, r5, r6, r7, r8, r9⟩ := kp_law m1 h0 h1 f
            have hbt := fun K => lbats_c 0 0 0 1073741824 st L' (by omega) m1.recs K
            have hst := fun K => lstart_c 0 0 0 1073741824 st L' K
            have hen := fun K => lend_c 0 0 0 1073741824 st L' (by omega) K
            have hkp := fun K => lkeep_c 0 0 0 1073741824 st L' (by omega) m1.smalls m1.recs f K
            have hsb := fun s K => mstab_c L' (by omega) m1.smalls st s K
            have hb0 : ∀ h : 0 < (L'.drop k).length, ((L'.drop k)[0]).base = kpS st L' f := fun h => by
              have hk : k < L'.length := by rw [List.length_drop] at h; omega
              rw [List.getElem_drop, r2, bnd_lt hk]; rfl
            have hml : (L'.drop k).length = L'.length - k := List.length_drop ..
            rw [r3] at hkp
            have hbt2 := fun K => lbats_c 0 0 0 1073741824 (kpS st L' f) (L'.drop k) (by omega) r8.recs K
            have hst2 := fun K => lstart_c 0 0 0 1073741824 (kpS st L' f) (L'.drop k) K
            have hen2 := fun K => lend_c 0 0 0 1073741824 (kpS st L' f) (L'.drop k) (by omega) K
            rw [r9] at hen2
            have hrw := fun s K => rows_c (L'.drop k) (by omega) r8.recs s K
            have hwk : IntKind.i64.wrap (((L'.map Bt.pv).length : Int) - (((L'.drop k).map Bt.pv).length : Int)) = ((k : Nat) : Int) := by rw [List.length_map, List.length_map, hml, wrap_i64] <;> omega
            have hrs : ∀ s K, K (.p (.bool true)) s → Cal Tryz.prog 20 [.p (rowP (L'.drop k)), .p (.sl .shr 7 ((L'.map Bt.pv).drop (IntKind.i64.wrap (((L'.map Bt.pv).length : Int) - (((L'.drop k).map Bt.pv).length : Int))).toNat))] s K := fun s K hK => by
              rw [hwk, Int.toNat_natCast, ← List.map_drop]; exact hrw s K hK
            have osl : (0 : Int) ≤ IntKind.i64.wrap (((L'.map Bt.pv).length : Int) - (((L'.drop k).map Bt.pv).length : Int)) ∧ IntKind.i64.wrap (((L'.map Bt.pv).length : Int) - (((L'.drop k).map Bt.pv).length : Int)) ≤ (((L'.map Bt.pv).length : Nat) : Int) := by rw [hwk, List.length_map]; omega
            have q5 : decide (IntKind.i64.wrap (((L'.map Bt.pv).length : Int) - (((L'.drop k).map Bt.pv).length : Int)) < 0) = false := by rw [hwk]; exact decide_eq_false (by omega)
            have q1 : decide (kpS st L' f < st) = false := decide_eq_false (by omega)
            have q2 : decide (kpS st L' f > (if st > f then st else f)) = false := decide_eq_false (by
              rcases r5 with e | e
              · rw [e]; split <;> omega
              · split <;> omega)
            have q7 : decide (kpS st L' f > stbW st L') = false := decide_eq_false (by omega)
            have q3 : (kpS st L' f != kpS st L' f) = false := by simp
            have q4 : (endW st L' != endW st L') = false := by simp
            have hnx : RowC (kpS st L' f) (L'.drop k) ∧ (L'.drop k).length ≤ j + 1 ∧ (0 ≤ kpS st L' f ∧ kpS st L' f ≤ 1099511627776) ∧ j + 1 ≤ A.length := ⟨r8, by omega, ⟨by omega, r7⟩, hj1⟩
            have hms : A.length - (j + 1) < A.length - j := by omega
            generalize kpS st L' f = sn at *
            generalize endW st L' = en at *
            generalize stbW st L' = sb at *
            generalize L'.drop k = M at *
            rw [hf] at q2 hkp
            clear r1 r2 r3 r4 r5 r6 r7 r8 r9 hrw hwk hml e5 d5 hFl hf hL'l m1 m2 hjF
            cases M with
            | nil =>
              clear hb0
              repeat' (first
                | (apply Br.t; · (first | rfl | (simp only [*] <;> rfl)))
                | (apply Br.f; · (first | rfl | (simp only [*] <;> rfl)))
                | refine Ob.mk (okst rfl rfl rfl) ?_
                | refine Ob.mk (by decide) ?_
                | refine Cal.frameK [0, 1, 2, 3] (hbt _ fun _ => ?_) rfl rfl rfl
                | refine Cal.frameK [0, 1, 2, 3] (hst _ fun _ => ?_) rfl rfl rfl
                | refine Cal.frameK [0, 1, 2, 3] (hen _ fun _ => ?_) rfl rfl rfl
                | refine Cal.frameK [0, 1, 2, 3] (hkp _ fun _ => ?_) rfl rfl rfl
                | refine Cal.frameK [0, 5, 6, 7] (hbt2 _ fun _ => ?_) rfl rfl rfl
                | refine Cal.frameK [0, 5, 6, 7] (hst2 _ fun _ => ?_) rfl rfl rfl
                | refine Cal.frameK [0, 5, 6, 7] (hen2 _ fun _ => ?_) rfl rfl rfl
                | refine Idx.mk _ hn0 hgF ?_
                | refine hrs _ _ ?_
                | refine hsb _ _ ?_
                | refine Ob.mk osl ?_
                | refine Idx.mk b1.pv (Int.le_refl 0) rfl ?_
                | refine Br.mkT (fun c => ?_) (fun c => ?_)
                | refine Br.mkF (fun c => ?_) (fun c => ?_)
                | refine Br.mk (fun c => ?_) (fun c => ?_))
              refine ⟨([], sn, j + 1), hnx, hms, Nat.le_refl _, Trim.mv [] [0, 5, 6, 7] (TrimR.mk' rfl rfl ?_ rfl ?_)⟩
              · rfl
              · refine Eq.trans (b := [_, _, _, _, AV.p (ii (IntKind.i64.wrap ((j : Int) + 1)))]) rfl ?_
                rw [ej]; rfl
            | cons b1 M1 =>
              have q8 : (b1.base != sn) = false := by
                have := hb0 (by simp)
                simp only [List.getElem_cons_zero] at this
                rw [this]; simp
              have q6 : decide (((((b1 :: M1).map Bt.pv).length : Nat) : Int) > 0) = true := decide_eq_true (by rw [List.length_map, List.length_cons]; omega)
              clear hb0
              repeat' (first
                | (apply Br.t; · (first | rfl | (simp only [*] <;> rfl)))
                | (apply Br.f; · (first | rfl | (simp only [*] <;> rfl)))
                | refine Ob.mk (okst rfl rfl rfl) ?_
                | refine Ob.mk (by decide) ?_
                | refine Cal.frameK [0, 1, 2, 3] (hbt _ fun _ => ?_) rfl rfl rfl
                | refine Cal.frameK [0, 1, 2, 3] (hst _ fun _ => ?_) rfl rfl rfl
                | refine Cal.frameK [0, 1, 2, 3] (hen _ fun _ => ?_) rfl rfl rfl
                | refine Cal.frameK [0, 1, 2, 3] (hkp _ fun _ => ?_) rfl rfl rfl
                | refine Cal.frameK [0, 5, 6, 7] (hbt2 _ fun _ => ?_) rfl rfl rfl
                | refine Cal.frameK [0, 5, 6, 7] (hst2 _ fun _ => ?_) rfl rfl rfl
                | refine Cal.frameK [0, 5, 6, 7] (hen2 _ fun _ => ?_) rfl rfl rfl
                | refine Idx.mk _ hn0 hgF ?_
                | refine hrs _ _ ?_
                | refine hsb _ _ ?_
                | refine Ob.mk osl ?_
                | refine Idx.mk b1.pv (Int.le_refl 0) rfl ?_
                | refine Br.mkT (fun c => ?_) (fun c => ?_)
                | refine Br.mkF (fun c => ?_) (fun c => ?_)
                | refine Br.mk (fun c => ?_) (fun c => ?_))
              refine ⟨((b1::M1), sn, j + 1), hnx, hms, Nat.le_refl _, Trim.mv [] [0, 5, 6, 7] (TrimR.mk' rfl rfl ?_ rfl ?_)⟩
              · rfl
              · refine Eq.trans (b := [_, _, _, _, AV.p (ii (IntKind.i64.wrap ((j : Int) + 1)))]) rfl ?_
                rw [ej]; rfl
      | false =>
        refine Br.f k9 ?_
        have m1 : RowC st L := hC
        obtain ⟨L', hL'⟩ : ∃ L', L' = L := ⟨_, rfl⟩
        rw [← hL'] at m1 ⊢
        have m2 : L'.length ≤ L.length + 1 := by rw [hL']; exact Nat.le_succ _
        clear hL'
        have hL'l : L'.length ≤ 1000 := by omega
        have e5 : ((j : Nat) : Int).tmod 5 = ((j % 5 : Nat) : Int) := by rw [Int.tmod_eq_emod_of_nonneg (Int.natCast_nonneg _)]; omega
        have d5 : IntKind.i64.wrap (((j : Nat) : Int).tdiv 5) = ((j / 5 : Nat) : Int) := by rw [Int.tdiv_eq_ediv_of_nonneg (Int.natCast_nonneg _), wrap_i64] <;> omega
        cases k1 : (((j : Nat) : Int).tmod 5 != 4) with
        | true =>
          clear hFl d5 e5
          repeat' (first
            | (apply Br.t; · (first | rfl | (simp only [*] <;> rfl)))
            | (apply Br.f; · (first | rfl | (simp only [*] <;> rfl)))
            | refine Ob.mk (okst rfl rfl rfl) ?_
            | refine Ob.mk (by decide) ?_
            | refine Br.mkT (fun c => ?_) (fun c => ?_)
            | refine Br.mkF (fun c => ?_) (fun c => ?_)
            | refine Br.mk (fun c => ?_) (fun c => ?_))
          refine ⟨(L', st, j + 1), ⟨m1, by show L'.length ≤ j + 1; omega, ⟨h0, h1⟩, hj1⟩, by show A.length - (j + 1) < A.length - j; omega, Nat.le_refl _, Trim.mk' ?_ rfl rfl rfl (show 4 ≤ 5 by decide)⟩
          refine Eq.trans (b := [_, _, _, _, (21, AV.p (ii (IntKind.i64.wrap ((j : Int) + 1))))]) rfl ?_
          rw [ej]; rfl
        | false =>
          cases k2 : decide (IntKind.i64.wrap (((j : Nat) : Int).tdiv 5) ≥ ((F.map ii).length : Nat)) with
          | true =>
            clear hFl d5 e5
            repeat' (first
              | (apply Br.t; · (first | rfl | (simp only [*] <;> rfl)))
              | (apply Br.f; · (first | rfl | (simp only [*] <;> rfl)))
              | refine Ob.mk (okst rfl rfl rfl) ?_
              | refine Ob.mk (by decide) ?_
              | refine Br.mkT (fun c => ?_) (fun c => ?_)
              | refine Br.mkF (fun c => ?_) (fun c => ?_)
              | refine Br.mk (fun c => ?_) (fun c => ?_))
            refine ⟨(L', st, j + 1), ⟨m1, by show L'.length ≤ j + 1; omega, ⟨h0, h1⟩, hj1⟩, by show A.length - (j + 1) < A.length - j; omega, Nat.le_refl _, Trim.mk' ?_ rfl rfl rfl (show 4 ≤ 5 by decide)⟩
            refine Eq.trans (b := [_, _, _, _, (21, AV.p (ii (IntKind.i64.wrap ((j : Int) + 1))))]) rfl ?_
            rw [ej]; rfl
          | false =>
            have hjF : j / 5 < F.length := by have := of_decide_eq_false k2; rw [d5] at this; omega
            have hgF : (F.map ii)[(IntKind.i64.wrap (((j : Nat) : Int).tdiv 5)).toNat]? = some (ii F[j / 5]) := by rw [d5]; exact getF hjF
            have hn0 : 0 ≤ IntKind.i64.wrap (((j : Nat) : Int).tdiv 5) := by rw [d5]; exact Int.natCast_nonneg _
            generalize F[j / 5] = fv at hgF
            obtain ⟨f, hf⟩ : ∃ f, f = bits .and .i64 fv 127 := ⟨_, rfl⟩
            obtain ⟨k, r1, r2, r3, r4, r5, r6, r7, r8, r9⟩ := kp_law m1 h0 h1 f
            have hbt := fun K => lbats_c 0 0 0 1073741824 st L' (by omega) m1.recs K
            have hst := fun K => lstart_c 0 0 0 1073741824 st L' K
            have hen := fun K => lend_c 0 0 0 1073741824 st L' (by omega) K
            have hkp := fun K => lkeep_c 0 0 0 1073741824 st L' (by omega) m1.smalls m1.recs f K
            have hsb := fun s K => mstab_c L' (by omega) m1.smalls st s K
            have hb0 : ∀ h : 0 < (L'.drop k).length, ((L'.drop k)[0]).base = kpS st L' f := fun h => by
              have hk : k < L'.length := by rw [List.length_drop] at h; omega
              rw [List.getElem_drop, r2, bnd_lt hk]; rfl
            have hml : (L'.drop k).length = L'.length - k := List.length_drop ..
            rw [r3] at hkp
            have hbt2 := fun K => lbats_c 0 0 0 1073741824 (kpS st L' f) (L'.drop k) (by omega) r8.recs K
            have hst2 := fun K => lstart_c 0 0 0 1073741824 (kpS st L' f) (L'.drop k) K
            have hen2 := fun K => lend_c 0 0 0 1073741824 (kpS st L' f) (L'.drop k) (by omega) K
            rw [r9] at hen2
            have hrw := fun s K => rows_c (L'.drop k) (by omega) r8.recs s K
            have hwk : IntKind.i64.wrap (((L'.map Bt.pv).length : Int) - (((L'.drop k).map Bt.pv).length : Int)) = ((k : Nat) : Int) := by rw [List.length_map, List.length_map, hml, wrap_i64] <;> omega
            have hrs : ∀ s K, K (.p (.bool true)) s → Cal Tryz.prog 20 [.p (rowP (L'.drop k)), .p (.sl .shr 7 ((L'.map Bt.pv).drop (IntKind.i64.wrap (((L'.map Bt.pv).length : Int) - (((L'.drop k).map Bt.pv).length : Int))).toNat))] s K := fun s K hK => by
              rw [hwk, Int.toNat_natCast, ← List.map_drop]; exact hrw s K hK
            have osl : (0 : Int) ≤ IntKind.i64.wrap (((L'.map Bt.pv).length : Int) - (((L'.drop k).map Bt.pv).length : Int)) ∧ IntKind.i64.wrap (((L'.map Bt.pv).length : Int) - (((L'.drop k).map Bt.pv).length : Int)) ≤ (((L'.map Bt.pv).length : Nat) : Int) := by rw [hwk, List.length_map]; omega
            have q5 : decide (IntKind.i64.wrap (((L'.map Bt.pv).length : Int) - (((L'.drop k).map Bt.pv).length : Int)) < 0) = false := by rw [hwk]; exact decide_eq_false (by omega)
            have q1 : decide (kpS st L' f < st) = false := decide_eq_false (by omega)
            have q2 : decide (kpS st L' f > (if st > f then st else f)) = false := decide_eq_false (by
              rcases r5 with e | e
              · rw [e]; split <;> omega
              · split <;> omega)
            have q7 : decide (kpS st L' f > stbW st L') = false := decide_eq_false (by omega)
            have q3 : (kpS st L' f != kpS st L' f) = false := by simp
            have q4 : (endW st L' != endW st L') = false := by simp
            have hnx : RowC (kpS st L' f) (L'.drop k) ∧ (L'.drop k).length ≤ j + 1 ∧ (0 ≤ kpS st L' f ∧ kpS st L' f ≤ 1099511627776) ∧ j + 1 ≤ A.length := ⟨r8, by omega, ⟨by omega, r7⟩, hj1⟩
            have hms : A.length - (j + 1) < A.length - j := by omega
            generalize kpS st L' f = sn at *
            generalize endW st L' = en at *
            generalize stbW st L' = sb at *
            generalize L'.drop k = M at *
            rw [hf] at q2 hkp
            clear r1 r2 r3 r4 r5 r6 r7 r8 r9 hrw hwk hml e5 d5 hFl hf hL'l m1 m2 hjF
            cases M with
            | nil =>
              clear hb0
              repeat' (first
                | (apply Br.t; · (first | rfl | (simp only [*] <;> rfl)))
                | (apply Br.f; · (first | rfl | (simp only [*] <;> rfl)))
                | refine Ob.mk (okst rfl rfl rfl) ?_
                | refine Ob.mk (by decide) ?_
                | refine Cal.frameK [0, 1, 2, 3] (hbt _ fun _ => ?_) rfl rfl rfl
                | refine Cal.frameK [0, 1, 2, 3] (hst _ fun _ => ?_) rfl rfl rfl
                | refine Cal.frameK [0, 1, 2, 3] (hen _ fun _ => ?_) rfl rfl rfl
                | refine Cal.frameK [0, 1, 2, 3] (hkp _ fun _ => ?_) rfl rfl rfl
                | refine Cal.frameK [0, 5, 6, 7] (hbt2 _ fun _ => ?_) rfl rfl rfl
                | refine Cal.frameK [0, 5, 6, 7] (hst2 _ fun _ => ?_) rfl rfl rfl
                | refine Cal.frameK [0, 5, 6, 7] (hen2 _ fun _ => ?_) rfl rfl rfl
                | refine Idx.mk _ hn0 hgF ?_
                | refine hrs _ _ ?_
                | refine hsb _ _ ?_
                | refine Ob.mk osl ?_
                | refine Idx.mk b1.pv (Int.le_refl 0) rfl ?_
                | refine Br.mkT (fun c => ?_) (fun c => ?_)
                | refine Br.mkF (fun c => ?_) (fun c => ?_)
                | refine Br.mk (fun c => ?_) (fun c => ?_))
              refine ⟨([], sn, j + 1), hnx, hms, Nat.le_refl _, Trim.mv [] [0, 5, 6, 7] (TrimR.mk' rfl rfl ?_ rfl ?_)⟩
              · rfl
              · refine Eq.trans (b := [_, _, _, _, AV.p (ii (IntKind.i64.wrap ((j : Int) + 1)))]) rfl ?_
                rw [ej]; rfl
            | cons b1 M1 =>
              have q8 : (b1.base != sn) = false := by
                have := hb0 (by simp)
                simp only [List.getElem_cons_zero] at this
                rw [this]; simp
              have q6 : decide (((((b1 :: M1).map Bt.pv).length : Nat) : Int) > 0) = true := decide_eq_true (by rw [List.length_map, List.length_cons]; omega)
              clear hb0
              repeat' (first
                | (apply Br.t; · (first | rfl | (simp only [*] <;> rfl)))
                | (apply Br.f; · (first | rfl | (simp only [*] <;> rfl)))
                | refine Ob.mk (okst rfl rfl rfl) ?_
                | refine Ob.mk (by decide) ?_
                | refine Cal.frameK [0, 1, 2, 3] (hbt _ fun _ => ?_) rfl rfl rfl
                | refine Cal.frameK [0, 1, 2, 3] (hst _ fun _ => ?_) rfl rfl rfl
                | refine Cal.frameK [0, 1, 2, 3] (hen _ fun _ => ?_) rfl rfl rfl
                | refine Cal.frameK [0, 1, 2, 3] (hkp _ fun _ => ?_) rfl rfl rfl
                | refine Cal.frameK [0, 5, 6, 7] (hbt2 _ fun _ => ?_) rfl rfl rfl
                | refine Cal.frameK [0, 5, 6, 7] (hst2 _ fun _ => ?_) rfl rfl rfl
                | refine Cal.frameK [0, 5, 6, 7] (hen2 _ fun _ => ?_) rfl rfl rfl
                | refine Idx.mk _ hn0 hgF ?_
                | refine hrs _ _ ?_
                | refine hsb _ _ ?_
                | refine Ob.mk osl ?_
                | refine Idx.mk b1.pv (Int.le_refl 0) rfl ?_
                | refine Br.mkT (fun c => ?_) (fun c => ?_)
                | refine Br.mkF (fun c => ?_) (fun c => ?_)
                | refine Br.mk (fun c => ?_) (fun c => ?_))
              refine ⟨((b1::M1), sn, j + 1), hnx, hms, Nat.le_refl _, Trim.mv [] [0, 5, 6, 7] (TrimR.mk' rfl rfl ?_ rfl ?_)⟩
              · rfl
              · refine Eq.trans (b := [_, _, _, _, AV.p (ii (IntKind.i64.wrap ((j : Int) + 1)))]) rfl ?_
                rw [ej]; rfl
  · refine known15_c _ _ ?_
    exact h
end Go.Proofs.YtjhgmaephpadpaaGreat.AW
