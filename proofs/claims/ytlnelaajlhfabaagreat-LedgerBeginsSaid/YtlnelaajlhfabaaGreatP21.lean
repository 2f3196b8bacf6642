/- A part of the proof: LG/G56. -/
import Derived.Test.YtlnelaajlhfabaaGreatP20
open Go Go.Proofs.YtlnelaajlhfabaaGreat.AW Go.Proofs
namespace Go.Proofs.YtlnelaajlhfabaaGreat.AW
set_option maxRecDepth 100000
set_option linter.unusedSimpArgs false
set_option linter.unusedVariables false

/-! ### LedgerBegins -/
theorem getG1 {l : List Gt} {j : Nat} (h0 : 0 < j) (h : j < l.length) (hl : l.length ≤ 1000000000) : (l.map Gt.pv)[(IntKind.i64.wrap ((j : Int) - 1)).toNat]? = some l[j - 1].pv := by
  have e : IntKind.i64.wrap ((j : Int) - 1) = ((j - 1 : Nat) : Int) := by rw [wrap_i64] <;> omega
  rw [e]; exact getG (by omega)
set_option maxHeartbeats 16000000 in
theorem lbegins_c (t : List Int) (ht : t.length ≤ 9223372036854775807) (n : Int) (s : Store) (K : AV → Store → Prop) (h : K (.p (.bool true)) s) : Cal Tryz.prog 8 [.p (kl t), .p (ii n)] s K := by
  refine Cal.pure (args := [kl t, ii n]) ?_
  refine Cal.intro Tryz.func8 (by decide +kernel) rfl rfl ?_
  refine row_c t 0 25 ht (by decide) _ _ fun L hL hlen => ?_
  have hlm : (L.map Bt.pv).length = L.length := List.length_map ..
  refine within_c n (((L.map Bt.pv).length : Nat) : Int) (Int.natCast_nonneg _) (by omega) _ _ ?_
  obtain ⟨w1, w2⟩ := wi_in n (H := (((L.map Bt.pv).length : Nat) : Int)) (Int.natCast_nonneg _)
  obtain ⟨k, hk⟩ : ∃ k : Nat, (k : Int) = wi n (((L.map Bt.pv).length : Nat) : Int) := ⟨(wi n (((L.map Bt.pv).length : Nat) : Int)).toNat, by omega⟩
  rw [← hk] at w1 w2 ⊢
  have hcut : (((L.map Bt.pv).take ((k : Nat) : Int).toNat).drop (0 : Int).toNat) = (L.take k).map Bt.pv := by rw [Int.toNat_natCast, List.map_take]; rfl
  have hbg := begN hL.c k
  have hofA : ∀ s K, K (.p (tlP (mkN 0 (L.take k)) (recN (L.take k)) (szN (L.take k)) (mkN 1 (L.take k)) (mkN 2 (L.take k)) (opN (dFold (L.take k)).1) ((gts 0 (endW 0 (L.take k)) (L.take k)).countP (bad (dFold (L.take k)).2)))) s →
      Cal Tryz.prog 26 [.p (ii 0), .p (.sl .shr 7 (((L.map Bt.pv).take ((k : Nat) : Int).toNat).drop (0 : Int).toNat))] s K := by
    intro s K hK
    rw [hcut]
    exact of_c (st := 0) (L.take k) (by rw [List.length_take]; omega) (hL.c.take k) s K hK
  have hofL := fun s K => of_c (st := 0) L (by omega) hL.c s K
  obtain ⟨ba, bb, bc, bd, be, bf⟩ := hbg
  have ob1 : 0 ≤ (0 : Int) ∧ 0 ≤ ((k : Nat) : Int) ∧ ((k : Nat) : Int) ≤ (((L.map Bt.pv).length : Nat) : Int) := ⟨Int.le_refl _, w1, w2⟩
  have hb3 : ∀ b, b ∈ L → b.recs.length ≤ 300 := fun b hm => by have := (hL.tiny b hm).1; omega
  have hre := fun s K => drecs_c 0 1099511627776 L (by omega) hb3 s K
  have hgl := row_len (fr := 0) (to := 1099511627776) hL
  have hgk := row_keys (fr := 0) (to := 1099511627776) hL
  have hpr := gts_pair (fr := 0) (to := 1099511627776) hL.c
  unfold tlP at hofA hofL
  generalize mkN 0 (L.take k) = a0 at ba hofA
  generalize mkN 0 L = b0 at ba hofL
  generalize recN (L.take k) = a1 at bb hofA
  generalize recN L = b1 at bb hofL
  generalize szN (L.take k) = a2 at bc hofA
  generalize szN L = b2 at bc hofL
  generalize mkN 1 (L.take k) = a3 at bd hofA
  generalize mkN 1 L = b3 at bd hofL
  generalize mkN 2 (L.take k) = a4 at be hofA
  generalize mkN 2 L = b4 at be hofL
  generalize (gts 0 (endW 0 (L.take k)) (L.take k)).countP (bad (dFold (L.take k)).2) = a5 at bf hofA
  generalize (gts 0 (endW 0 L) L).countP (bad (dFold L).2) = b5 at bf hofL
  generalize opN (dFold (L.take k)).1 = a6 at hofA
  generalize opN (dFold L).1 = b6 at hofL
  generalize gts 0 1099511627776 L = G at hgl hgk hre hpr
  obtain ⟨h1, h2, h3, h4⟩ := sameOk_of (gs := G) (by omega) hgk
  have hla := fun s K => lastG2_c G h1 h2 s K
  have hke := fun s K => keys2_c G h1 h3 h4 s K
  have hid : isort (bests G G.length) = bests G G.length := isort_id _ (bests_pair hpr _ (Nat.le_refl _))
  have hlen2 := bests_keys h3
  have hpb := bests_pair hpr _ (Nat.le_refl _)
  rw [hid] at hla
  generalize hks : keysL G = T at hke hlen2
  generalize bests G G.length = I at h2 hla hlen2 hpb
  have ba' : ((a0 : Nat) : Int) ≤ (b0 : Nat) := by omega
  have bb' : ((a1 : Nat) : Int) ≤ (b1 : Nat) := by omega
  have bd' : ((a3 : Nat) : Int) ≤ (b3 : Nat) := by omega
  have be' : ((a4 : Nat) : Int) ≤ (b4 : Nat) := by omega
  have bf' : ((a5 : Nat) : Int) ≤ (b5 : Nat) := by omega
  clear hgk hgl hb3 hks hlm hid ba bb bd be bf hk h1 h3 h4 hpr hcut w1 w2
  refine Ob.mk ob1 ?_
  repeat' (first
    | (apply Br.t; · (first | rfl | (simp only [*] <;> rfl)))
    | (apply Br.f; · (first | rfl | (simp only [*] <;> rfl)))
    | refine Ob.mk (okst rfl rfl rfl) ?_
    | refine hofA _ _ ?_
    | refine hofL _ _ ?_
    | refine hre _ _ ?_
    | refine hla _ _ ?_
    | refine Ob.mk (okst rfl rfl rfl) ?_
    | refine Br.mkT (fun c => ?_) (fun c => ?_)
    | refine Br.mkF (fun c => ?_) (fun c => ?_)
    | refine Br.mk (fun c => ?_) (fun c => ?_))
  have hIl := gsL I
  refine LoopX.fam [7, 8, 9, 10, 28, 29, 30] (fun (j : Nat) => ([(7, .ref 0 0), (8, .ref 1 0), (9, .p (gsP G)), (10, .p (gsC I)), (28, .p (gsC I)), (29, .p (ii (I.map Gt.pv).length)), (30, .p (ii (j : Nat)))], [some (.cells [.p (ii a0), .p (ii a1), .p (ii a2), .p (ii a3), .p (ii a4), .p (ii a6), .p (ii a5)]), some (.cells [.p (ii b0), .p (ii b1), .p (ii b2), .p (ii b3), .p (ii b4), .p (ii b6), .p (ii b5)])]))
    (fun j => j ≤ I.length) (fun j => I.length - j) 0 (Nat.zero_le _) (Trim.mk' rfl rfl rfl rfl (Nat.le_refl _)) ?_
  intro j hj
  have hj : j ≤ I.length := hj
  refine Br.mk (fun hc => ?_) (fun hc => ?_)
  · have hc : (j : Int) < ((I.map Gt.pv).length : Nat) := of_decide_eq_true hc
    have hj1 : j < I.length := by omega
    have ej : IntKind.i64.wrap ((j : Int) + 1) = ((j + 1 : Nat) : Int) := by rw [wrap_i64] <;> omega
    have hg := getG hj1
    by_cases h0 : 0 < j
    · have hg1 := getG1 h0 hj1 (by omega)
      have ew : 0 ≤ IntKind.i64.wrap ((j : Int) - 1) := by rw [wrap_i64] <;> omega
      have hlt : I[j - 1].off < I[j].off := List.pairwise_iff_getElem.1 hpb (j - 1) j (by omega) hj1 (by omega)
      have c1 : decide ((j : Int) > 0) = true := decide_eq_true (by omega)
      have c2 : decide (I[j].off ≤ I[j - 1].off) = false := decide_eq_false (by omega)
      clear hlt hpb
      repeat' (first
        | refine Chk.mk (by kernel_rfl) ?_
        | (apply Br.t; · (first | rfl | (simp only [*] <;> rfl)))
        | (apply Br.f; · (first | rfl | (simp only [*] <;> rfl)))
        | refine ⟨_, ⟨rfl, rfl⟩, ?_⟩
        | refine ⟨_, _, ⟨rfl, rfl⟩, rfl, ?_⟩
        | refine ⟨_, Idx.mk I[j].pv (Int.natCast_nonneg _) hg ⟨rfl, rfl⟩, ?_⟩
        | refine ⟨_, Idx.mk I[j - 1].pv ew hg1 ⟨rfl, rfl⟩, ?_⟩
        | refine ⟨_, Ob.mk (by decide) ⟨rfl, rfl⟩, ?_⟩
        | (refine ⟨_, Br.t ?_ ⟨rfl, rfl⟩, ?_⟩; · (first | rfl | (simp only [*] <;> rfl)))
        | (refine ⟨_, Br.f ?_ ⟨rfl, rfl⟩, ?_⟩; · (first | rfl | (simp only [*] <;> rfl)))
        | refine ⟨_, _, Ob.mk (okst rfl rfl rfl) ⟨rfl, rfl⟩, rfl, ?_⟩
        | refine Ob.mk (okst rfl rfl rfl) ?_
        | refine Ob.mk (by decide) ?_
        | refine Br.mkT (fun c => ?_) (fun c => ?_)
        | refine Br.mkF (fun c => ?_) (fun c => ?_)
        | refine Br.mk (fun c => ?_) (fun c => ?_))
      refine ⟨j + 1, by show j + 1 ≤ I.length; omega, by show I.length - (j + 1) < I.length - j; omega, (show 2 ≤ 2 by decide), Trim.mk' ?_ rfl rfl rfl (Nat.le_refl _)⟩
      refine Eq.trans (b := [_, _, _, _, _, _, (30, AV.p (ii (IntKind.i64.wrap ((j : Int) + 1))))]) rfl ?_
      rw [ej]; rfl
    · have h00 : j = 0 := by omega
      subst h00
      have c1 : decide ((((0 : Nat) : Int)) > 0) = false := by decide
      have ej0 : IntKind.i64.wrap ((((0 : Nat) : Int)) + 1) = ((1 : Nat) : Int) := by decide
      repeat' (first
        | refine Chk.mk (by kernel_rfl) ?_
        | (apply Br.t; · (first | rfl | (simp only [*] <;> rfl)))
        | (apply Br.f; · (first | rfl | (simp only [*] <;> rfl)))
        | refine ⟨_, ⟨rfl, rfl⟩, ?_⟩
        | refine ⟨_, _, ⟨rfl, rfl⟩, rfl, ?_⟩
        | refine ⟨_, Ob.mk (by decide) ⟨rfl, rfl⟩, ?_⟩
        | (refine ⟨_, Br.t ?_ ⟨rfl, rfl⟩, ?_⟩; · (first | rfl | (simp only [*] <;> rfl)))
        | (refine ⟨_, Br.f ?_ ⟨rfl, rfl⟩, ?_⟩; · (first | rfl | (simp only [*] <;> rfl)))
        | refine ⟨_, _, Ob.mk (okst rfl rfl rfl) ⟨rfl, rfl⟩, rfl, ?_⟩
        | refine Ob.mk (okst rfl rfl rfl) ?_
        | refine Ob.mk (by decide) ?_
        | refine Br.mkT (fun c => ?_) (fun c => ?_)
        | refine Br.mkF (fun c => ?_) (fun c => ?_)
        | refine Br.mk (fun c => ?_) (fun c => ?_))
      refine ⟨1, by show 1 ≤ I.length; omega, by show I.length - 1 < I.length - 0; omega, (show 2 ≤ 2 by decide), Trim.mk' ?_ rfl rfl rfl (Nat.le_refl _)⟩
      refine Eq.trans (b := [_, _, _, _, _, _, (30, AV.p (ii (IntKind.i64.wrap (((0 : Nat) : Int) + 1))))]) rfl ?_
      rw [ej0]; rfl
  · have hTl : (T.map PV.str).length = T.length := List.length_map ..
    have c1 : decide (((a0 : Nat) : Int) ≤ ((b0 : Nat) : Int)) = true := decide_eq_true ba'
    have c2 : decide (((a1 : Nat) : Int) ≤ ((b1 : Nat) : Int)) = true := decide_eq_true bb'
    have c3 : decide (a2 ≤ b2) = true := decide_eq_true bc
    have c4 : decide (((a3 : Nat) : Int) ≤ ((b3 : Nat) : Int)) = true := decide_eq_true bd'
    have c5 : decide (((a4 : Nat) : Int) ≤ ((b4 : Nat) : Int)) = true := decide_eq_true be'
    have c6 : decide (((a5 : Nat) : Int) ≤ ((b5 : Nat) : Int)) = true := decide_eq_true bf'
    have ql : ((((I.map Gt.pv).length : Nat) : Int) == (((T.map PV.str).length : Nat) : Int)) = true := by rw [hIl, hTl, hlen2]; simp
    have hkn := known25_c
    clear hTl hIl hlen2 hc hj ba' bb' bc bd' be' bf' hlen h2 ob1 hpb
    repeat' (first
      | (apply Br.t; · (first | rfl | (simp only [*] <;> rfl)))
      | (apply Br.f; · (first | rfl | (simp only [*] <;> rfl)))
      | refine Ob.mk (okst rfl rfl rfl) ?_
      | refine hke _ _ ?_
      | refine hkn _ _ ?_
      | refine Br.mkT (fun c => ?_) (fun c => ?_)
      | refine Br.mkF (fun c => ?_) (fun c => ?_)
      | refine Br.mk (fun c => ?_) (fun c => ?_)
      | exact h
      | (simp only [*, Bool.true_and, Bool.false_and, Bool.true_or, Bool.false_or, Bool.and_true, Bool.and_false, Bool.or_true, Bool.or_false, Bool.not_true, Bool.not_false, if_true, if_false, reduceIte, Bool.false_eq_true] at h; exact h))
end Go.Proofs.YtlnelaajlhfabaaGreat.AW
