/- A part of the proof: LG/G50, LG/G51, LG/G52, LG/G53, LG/B11, LG/G54, LG/G55, LG/B12. -/
import Derived.Test.YtlnelaajlhfabaaGreatP19
import Derived.Test.YtlnelaajlhfabaaGreatP18
open Go Go.Proofs.YtlnelaajlhfabaaGreat.AW Go.Proofs
namespace Go.Proofs.YtlnelaajlhfabaaGreat.AW
set_option maxRecDepth 100000
set_option linter.unusedSimpArgs false
set_option linter.unusedVariables false

/-! ### .. by the document -/
theorem txpL (l : List Tx) : (l.map PV.str).length = l.length := List.length_map ..
theorem keysL_take {gs : List Gt} {j : Nat} (hj : j < gs.length) : keysL (gs.take (j + 1)) = keyI (keysL (gs.take j)) gs[j].key := by rw [take_succ' hj, keysL_snoc]
theorem less2_v {a b : Tx} {r : Bool} (hb : lessR a b = r) (ha : a.length < 1099511627776) (hl : b.length < 1099511627776) (s : Store) (K : AV → Store → Prop) (h : K (.p (.bool r)) s) : Cal Tryz.prog 141 [.p (.str a), .p (.str b)] s K := less2_c a b ha hl s K (by rw [hb]; exact h)
theorem keysL_sub : ∀ gs : List Gt, ∀ x, x ∈ keysL gs → ∃ g, g ∈ gs ∧ g.key = x := by
  intro gs
  rw [← List.reverse_reverse gs]
  induction gs.reverse with
  | nil => intro x hx; cases hx
  | cons g r ih =>
    rw [List.reverse_cons, keysL_snoc]
    intro x hx
    rcases keyI_mem.1 hx with hx | hx
    · obtain ⟨y, hy, e⟩ := ih x hx; exact ⟨y, List.mem_append_left _ hy, e⟩
    · exact ⟨g, by simp, hx.symm⟩
set_option maxHeartbeats 16000000 in
theorem keys1_c (gs : List Gt) (hg : gs.length ≤ 1000000000) (hk : ∀ g, g ∈ gs → g.key.length < 1099511627776) (s : Store) (K : AV → Store → Prop) (h : K (.p (txP (keysL gs))) s) : Cal Tryz.prog 80 [.p (gsP gs)] s K := by
  refine Cal.pure (args := [gsP gs]) ?_
  refine Cal.intro Tryz.func80 (by decide +kernel) rfl rfl ?_
  have hlm := gsL gs
  refine LoopX.famW [3, 10, 11, 12] (fun (j : Nat) => ([(3, .p (txP (keysL (gs.take j)))), (10, .p (gsP gs)), (11, .p (ii (gs.map Gt.pv).length)), (12, .p (ii (j : Nat)))], []))
    (fun j => j ≤ gs.length) (fun j => gs.length - j) 0 (Nat.zero_le _) (Nat.le_refl _) (Trim.wk 0 [] rfl (Nat.le_refl _) (.inl rfl) rfl rfl rfl rfl rfl ⟨WkV.nil .shr 1, .inl rfl, .inl rfl, .inl rfl, trivial⟩) ?_
  intro j hj
  have hj : j ≤ gs.length := hj
  refine Br.mk (fun hc => ?_) (fun hc => ?_)
  · have hc : (j : Int) < ((gs.map Gt.pv).length : Nat) := of_decide_eq_true hc
    have hj1 : j < gs.length := by omega
    have ej : IntKind.i64.wrap ((j : Int) + 1) = ((j + 1 : Nat) : Int) := by rw [wrap_i64] <;> omega
    have htk := keysL_take hj1
    have hol := keysL_len (gs.take j)
    have hol2 := keysL_sub (gs.take j)
    rw [List.length_take] at hol
    have hkj := hk _ (List.getElem_mem hj1)
    refine Idx.mk _ (Int.natCast_nonneg _) (getG hj1) ?_
    refine Ob.mk (okst rfl rfl rfl) ?_
    generalize keysL (gs.take j) = out at htk hol hol2 ⊢
    have hko : ∀ x, x ∈ out → x.length < 1099511627776 := fun x hx => by
      obtain ⟨g, hm, e⟩ := hol2 x hx
      rw [← e]; exact hk g (List.mem_of_mem_take hm)
    clear hol2
    have hom := txpL out
    have hple := kPos_le out gs[j].key out.length
    refine LoopX.fam [3, 5, 6, 10, 11, 12] (fun (i : Nat) => ([(3, .p (txP out)), (5, .ref 0 0), (6, .p (ii (i : Nat))), (10, .p (gsP gs)), (11, .p (ii (gs.map Gt.pv).length)), (12, .p (ii (j : Nat)))], [gC gs[j]]))
      (fun i => i ≤ out.length ∧ kPos out gs[j].key i = kPos out gs[j].key out.length) (fun i => i) out.length ⟨Nat.le_refl _, rfl⟩ (Trim.mk' (by
        refine Eq.trans (b := [_, _, (6, AV.p (ii ((out.map PV.str).length : Nat))), _, _, _]) rfl ?_
        rw [hom]; rfl) rfl rfl rfl (Nat.le_refl _)) ?_
    rintro i ⟨hi, hip⟩
    have hi : i ≤ out.length := hi
    have hip : kPos out gs[j].key i = kPos out gs[j].key out.length := hip
    cases i with
    | zero =>
      repeat (first
        | refine ⟨_, ⟨rfl, rfl⟩, ?_⟩
        | refine Br.f rfl ?_
        | refine ⟨_, Br.f rfl ⟨rfl, rfl⟩, ?_⟩
        | refine Chk.mk (by kernel_rfl) ?_)
      have hfin : 0 = kPos out gs[j].key out.length := hip
      obtain ⟨i, hi0⟩ : ∃ i : Nat, 0 = i := ⟨0, rfl⟩
      rw [hi0] at hfin hi
      have ci : ((0 : Nat) : Int) = ((i : Nat) : Int) := by rw [hi0]
      rw [show (AV.p (ii ((0 : Nat) : Int))) = AV.p (ii ((i : Nat) : Int)) by rw [ci]]
      have hip : i = kPos out gs[j].key out.length := hfin
      refine LoopX.fam [3, 5, 6, 7, 10, 11, 12, 33, 34, 35] (fun (k : Nat) => ([(3, .p (txP out)), (5, .ref 0 0), (6, .p (ii (i : Nat))), (7, .p (.bool ((out.take k).any (· == gs[j].key)))), (10, .p (gsP gs)), (11, .p (ii (gs.map Gt.pv).length)), (12, .p (ii (j : Nat))), (33, .p (txP out)), (34, .p (ii (out.map PV.str).length)), (35, .p (ii (k : Nat)))], [gC gs[j]]))
        (fun k => k ≤ out.length) (fun k => out.length - k) 0 (Nat.zero_le _) (Trim.mk' rfl rfl rfl rfl (Nat.le_refl _)) ?_
      intro k hk2
      have hk2 : k ≤ out.length := hk2
      refine Br.mk (fun hc2 => ?_) (fun hc2 => ?_)
      · have hc2 : (k : Int) < ((out.map PV.str).length : Nat) := of_decide_eq_true hc2
        have hk1 : k < out.length := by omega
        have ek : IntKind.i64.wrap ((k : Int) + 1) = ((k + 1 : Nat) : Int) := by rw [wrap_i64] <;> omega
        have hsn : (out.take (k + 1)).any (· == gs[j].key) = ((out.take k).any (· == gs[j].key) || (out[k] == gs[j].key)) := by rw [take_succ' hk1, List.any_append]; simp
        refine Idx.mk _ (Int.natCast_nonneg _) (show (out.map PV.str)[((k : Nat) : Int).toNat]? = some (.str out[k]) by rw [Int.toNat_natCast, List.getElem?_map, List.getElem?_eq_getElem hk1]; rfl) ?_
        cases hb : (out.take k).any (· == gs[j].key) with
        | true =>
          rw [hb, Bool.true_or] at hsn
          repeat (first | refine Br.f rfl ?_ | refine Br.t rfl ?_)
          refine ⟨k + 1, hk1, by show out.length - (k + 1) < out.length - k; omega, Nat.le_refl _, Trim.mk' ?_ rfl rfl rfl (Nat.le_refl _)⟩
          refine Eq.trans (b := [_, _, _, (7, AV.p (.bool true)), _, _, _, _, _, (35, AV.p (ii (IntKind.i64.wrap ((k : Int) + 1))))]) rfl ?_
          show _ = [_, _, _, (7, AV.p (.bool ((out.take (k + 1)).any (· == gs[j].key)))), _, _, _, _, _, (35, AV.p (ii ((k + 1 : Nat) : Int)))]
          rw [ek, hsn] <;> rfl
        | false =>
          rw [hb, Bool.false_or] at hsn
          repeat (first | refine Br.t rfl ?_ | refine Br.f rfl ?_)
          refine ⟨k + 1, hk1, by show out.length - (k + 1) < out.length - k; omega, Nat.le_refl _, Trim.mk' ?_ rfl rfl rfl (Nat.le_refl _)⟩
          refine Eq.trans (b := [_, _, _, (7, AV.p (.bool (out[k] == gs[j].key))), _, _, _, _, _, (35, AV.p (ii (IntKind.i64.wrap ((k : Int) + 1))))]) rfl ?_
          show _ = [_, _, _, (7, AV.p (.bool ((out.take (k + 1)).any (· == gs[j].key)))), _, _, _, _, _, (35, AV.p (ii ((k + 1 : Nat) : Int)))]
          rw [ek, hsn] <;> rfl
      · have hc2 : ¬ (k : Int) < ((out.map PV.str).length : Nat) := of_decide_eq_false hc2
        have : k = out.length := by omega
        subst this
        rw [List.take_length]
        have hki : keyI out gs[j].key = if out.any (· == gs[j].key) = true then out else out.take i ++ gs[j].key :: out.drop i := by unfold keyI; rw [← hip]
        rw [hki] at htk
        cases hb : out.any (· == gs[j].key) with
        | true =>
          rw [if_pos hb] at htk
          refine Br.f rfl ?_
          refine ⟨j + 1, hj1, by show gs.length - (j + 1) < gs.length - j; omega, (show 0 ≤ 0 by decide), Trim.mk' ?_ rfl rfl rfl (Nat.zero_le _)⟩
          refine Eq.trans (b := [(3, .p (txP out)), _, _, (12, AV.p (ii (IntKind.i64.wrap ((j : Int) + 1))))]) rfl ?_
          rw [ej, ← htk]; rfl
        | false =>
          rw [if_neg (by rw [hb]; decide)] at htk
          refine Br.t rfl ?_
          have b1 : 0 ≤ (0 : Int) ∧ 0 ≤ ((i : Nat) : Int) ∧ ((i : Nat) : Int) ≤ (((out.map PV.str).length : Nat) : Int) := ⟨Int.le_refl _, Int.natCast_nonneg _, by omega⟩
          have b2 : 0 ≤ ((i : Nat) : Int) ∧ ((i : Nat) : Int) ≤ (((out.map PV.str).length : Nat) : Int) := ⟨Int.natCast_nonneg _, by omega⟩
          obtain ⟨T, hT⟩ : ∃ T, T = (((out.map PV.str).take ((i : Nat) : Int).toNat).drop (0 : Int).toNat) := ⟨_, rfl⟩
          obtain ⟨E, hE⟩ : ∃ E, E = (out.map PV.str).drop ((i : Nat) : Int).toNat := ⟨_, rfl⟩
          have tt : T = (out.take i).map PV.str := by rw [hT, Int.toNat_natCast, List.map_take]; rfl
          have te : E = (out.drop i).map PV.str := by rw [hE, Int.toNat_natCast, List.map_drop]
          have tl : T.length ≤ 1000000000 := by rw [tt, List.length_map, List.length_take]; omega
          have el : E.length ≤ 1000000000 := by rw [te, List.length_map, List.length_drop]; omega
          by_cases hd0 : i = 0
          · have he : T = [] := by rw [tt, hd0]; rfl
            have hX : [PV.str gs[j].key] ++ E = (keysL (gs.take (j + 1))).map PV.str := by rw [htk, te, hd0]; rfl
            have l3 : (1 + E.length) * 16 ≤ 140737488355328 := by omega
            rw [hE] at hX l3
            rw [hT] at he
            clear hlm hom htk hT hE tt te tl el hki hip hfin hko hkj hple
            repeat' (first
              | refine Chk.mk (by kernel_rfl) ?_
              | (apply Br.t; · (first | rfl | (simp only [*] <;> rfl)))
              | (apply Br.f; · (first | rfl | (simp only [*] <;> rfl)))
              | refine ⟨_, ⟨rfl, rfl⟩, ?_⟩
              | refine ⟨_, _, ⟨rfl, rfl⟩, rfl, ?_⟩
              | refine ⟨_, Ob.mk b1 ⟨rfl, rfl⟩, ?_⟩
              | refine ⟨_, Ob.mk b2 ⟨rfl, rfl⟩, ?_⟩
              | refine ⟨_, _, BrL.mk (fun _ => ⟨rfl, rfl⟩) (fun hne => absurd he hne), rfl, ?_⟩
              | refine ⟨_, _, BrL.c (Ob.mk (show (0 + 1) * 16 ≤ 140737488355328 by decide) ⟨rfl, rfl⟩), rfl, ?_⟩
              | refine ⟨_, _, Ob.mk ⟨rfl, rfl, rfl, l3⟩ ⟨rfl, rfl⟩, rfl, ?_⟩
              | refine ⟨_, Ob.mk (by decide) ⟨rfl, rfl⟩, ?_⟩
              | (refine ⟨_, Br.t ?_ ⟨rfl, rfl⟩, ?_⟩; · (first | rfl | (simp only [*] <;> rfl)))
              | (refine ⟨_, Br.f ?_ ⟨rfl, rfl⟩, ?_⟩; · (first | rfl | (simp only [*] <;> rfl)))
              | refine ⟨_, _, Ob.mk (okst rfl rfl rfl) ⟨rfl, rfl⟩, rfl, ?_⟩
              | refine Ob.mk (okst rfl rfl rfl) ?_
              | refine Ob.mk (by decide) ?_
              | refine Br.mkT (fun c => ?_) (fun c => ?_)
              | refine Br.mkF (fun c => ?_) (fun c => ?_)
              | refine Br.mk (fun c => ?_) (fun c => ?_))
            refine ⟨j + 1, hj1, by show gs.length - (j + 1) < gs.length - j; omega, (show 0 ≤ 0 by decide), Trim.fz [3] (Ob.mk rfl (TrimO.mk' ?_ rfl rfl rfl (Nat.zero_le _)))⟩
            refine Eq.trans (b := [(3, AV.p (.sl .shr 1 (([PV.str gs[j].key] ++ (out.map PV.str).drop ((i : Nat) : Int).toNat).drop 0 |>.take ([PV.str gs[j].key] ++ (out.map PV.str).drop ((i : Nat) : Int).toNat).length))), _, _, (12, AV.p (ii (IntKind.i64.wrap ((j : Int) + 1))))]) rfl ?_
            rw [cut_all, hX, ej]; rfl
          · have hne : T ≠ [] := by
              rw [tt]; intro e
              have := congrArg List.length e
              rw [List.length_map, List.length_take] at this
              have h0 : min i out.length = 0 := this
              omega
            have hX : [] ++ T ++ [PV.str gs[j].key] ++ E = (keysL (gs.take (j + 1))).map PV.str := by rw [htk, te, tt]; simp
            have l1 : (0 + T.length) * 16 ≤ 140737488355328 := by omega
            have l2 : (([] ++ T).length + 1) * 16 ≤ 140737488355328 := by rw [List.nil_append]; omega
            have l3 : (([] ++ T ++ [PV.str gs[j].key]).length + E.length) * 16 ≤ 140737488355328 := by
              have h1 : ([PV.str gs[j].key] : List PV).length = 1 := rfl
              rw [List.length_append, List.nil_append, h1]; omega
            rw [hT, hE] at hX l3
            rw [hT] at hne l1 l2
            clear hlm hom htk hT hE tt te tl el hki hip hfin hko hkj hple
            repeat' (first
              | refine Chk.mk (by kernel_rfl) ?_
              | (apply Br.t; · (first | rfl | (simp only [*] <;> rfl)))
              | (apply Br.f; · (first | rfl | (simp only [*] <;> rfl)))
              | refine ⟨_, ⟨rfl, rfl⟩, ?_⟩
              | refine ⟨_, _, ⟨rfl, rfl⟩, rfl, ?_⟩
              | refine ⟨_, Ob.mk b1 ⟨rfl, rfl⟩, ?_⟩
              | refine ⟨_, Ob.mk b2 ⟨rfl, rfl⟩, ?_⟩
              | refine ⟨_, _, BrL.mk (fun he => absurd he hne) (fun _ => Ob.mk l1 ⟨rfl, rfl⟩), rfl, ?_⟩
              | refine ⟨_, _, Ob.mk ⟨rfl, rfl, rfl, l2⟩ ⟨rfl, rfl⟩, rfl, ?_⟩
              | refine ⟨_, _, Ob.mk ⟨rfl, rfl, rfl, l3⟩ ⟨rfl, rfl⟩, rfl, ?_⟩
              | refine ⟨_, Ob.mk (by decide) ⟨rfl, rfl⟩, ?_⟩
              | (refine ⟨_, Br.t ?_ ⟨rfl, rfl⟩, ?_⟩; · (first | rfl | (simp only [*] <;> rfl)))
              | (refine ⟨_, Br.f ?_ ⟨rfl, rfl⟩, ?_⟩; · (first | rfl | (simp only [*] <;> rfl)))
              | refine ⟨_, _, Ob.mk (okst rfl rfl rfl) ⟨rfl, rfl⟩, rfl, ?_⟩
              | refine Ob.mk (okst rfl rfl rfl) ?_
              | refine Ob.mk (by decide) ?_
              | refine Br.mkT (fun c => ?_) (fun c => ?_)
              | refine Br.mkF (fun c => ?_) (fun c => ?_)
              | refine Br.mk (fun c => ?_) (fun c => ?_))
            refine ⟨j + 1, hj1, by show gs.length - (j + 1) < gs.length - j; omega, (show 0 ≤ 0 by decide), Trim.fz [3] (Ob.mk rfl (TrimO.mk' ?_ rfl rfl rfl (Nat.zero_le _)))⟩
            refine Eq.trans (b := [(3, AV.p (.sl .shr 1 (([] ++ (((out.map PV.str).take ((i : Nat) : Int).toNat).drop (0 : Int).toNat) ++ [PV.str gs[j].key] ++ (out.map PV.str).drop ((i : Nat) : Int).toNat).drop 0 |>.take ([] ++ (((out.map PV.str).take ((i : Nat) : Int).toNat).drop (0 : Int).toNat) ++ [PV.str gs[j].key] ++ (out.map PV.str).drop ((i : Nat) : Int).toNat).length))), _, _, (12, AV.p (ii (IntKind.i64.wrap ((j : Int) + 1))))]) rfl ?_
            rw [cut_all, hX, ej]; rfl
    | succ n =>
      have hio : n < out.length := by omega
      have en : IntKind.i64.wrap (((n + 1 : Nat) : Int) - 1) = ((n : Nat) : Int) := by rw [wrap_i64] <;> omega
      have c0 : decide (((n + 1 : Nat) : Int) > 0) = true := decide_eq_true (by omega)
      have b0 : (0 : Int) ≤ IntKind.i64.wrap (((n + 1 : Nat) : Int) - 1) := by rw [en]; exact Int.natCast_nonneg _
      have g1 : (out.map PV.str)[(IntKind.i64.wrap (((n + 1 : Nat) : Int) - 1)).toNat]? = some (.str out[n]) := by rw [en, Int.toNat_natCast, List.getElem?_map, List.getElem?_eq_getElem hio]; rfl
      have hstep : kPos out gs[j].key (n + 1) = if lessR gs[j].key out[n] = true then kPos out gs[j].key n else n + 1 := by
        show (if lessR gs[j].key (out.getD n []) = true then _ else _) = _
        rw [List.getD_eq_getElem?_getD, List.getElem?_eq_getElem hio]; rfl
      have hkn := hko _ (List.getElem_mem hio)
      cases hlt : lessR gs[j].key out[n] with
      | true =>
        rw [if_pos hlt] at hstep
        have hls := fun s K hh => less2_v hlt hkj hkn s K hh
        clear hlm hom hple hko hkj hkn
        repeat (first
          | refine ⟨_, ⟨rfl, rfl⟩, ?_⟩
          | refine Br.t c0 ?_
          | refine Br.t (congrArg (· == true) c0) ?_
          | refine ⟨_, Br.t c0 ⟨rfl, rfl⟩, ?_⟩
          | refine ⟨_, Idx.mk _ b0 g1 ⟨rfl, rfl⟩, ?_⟩
          | refine Or.inl ⟨_, fun s' => hls s' _ ⟨rfl, rfl⟩, rfl, ?_⟩
          | refine Br.t rfl ?_
          | refine Chk.mk (by kernel_rfl) ?_)
        refine ⟨n, ⟨by show n ≤ out.length; omega, by show kPos out gs[j].key n = _; rw [← hip, hstep]⟩, Nat.lt_succ_self _, Nat.le_refl _, Trim.mk' ?_ rfl rfl rfl (Nat.le_refl _)⟩
        refine Eq.trans (b := [_, _, (6, AV.p (ii (IntKind.i64.wrap (((n + 1 : Nat) : Int) - 1)))), _, _, _]) rfl ?_
        rw [en]; rfl
      | false =>
        rw [if_neg (by rw [hlt]; decide)] at hstep
        have hls := fun s K hh => less2_v hlt hkj hkn s K hh
        have hfin : n + 1 = kPos out gs[j].key out.length := by rw [← hip, hstep]
        clear hkn
        repeat (first
          | refine ⟨_, ⟨rfl, rfl⟩, ?_⟩
          | refine Br.t c0 ?_
          | refine Br.t (congrArg (· == true) c0) ?_
          | refine ⟨_, Br.t c0 ⟨rfl, rfl⟩, ?_⟩
          | refine ⟨_, Idx.mk _ b0 g1 ⟨rfl, rfl⟩, ?_⟩
          | refine Or.inl ⟨_, fun s' => hls s' _ ⟨rfl, rfl⟩, rfl, ?_⟩
          | refine Br.f rfl ?_
          | refine Chk.mk (by kernel_rfl) ?_)
        clear hip hstep en c0 b0 g1 hlt hls
        generalize n + 1 = i at hi hfin ⊢
        have hip : i = kPos out gs[j].key out.length := hfin
        refine LoopX.fam [3, 5, 6, 7, 10, 11, 12, 33, 34, 35] (fun (k : Nat) => ([(3, .p (txP out)), (5, .ref 0 0), (6, .p (ii (i : Nat))), (7, .p (.bool ((out.take k).any (· == gs[j].key)))), (10, .p (gsP gs)), (11, .p (ii (gs.map Gt.pv).length)), (12, .p (ii (j : Nat))), (33, .p (txP out)), (34, .p (ii (out.map PV.str).length)), (35, .p (ii (k : Nat)))], [gC gs[j]]))
          (fun k => k ≤ out.length) (fun k => out.length - k) 0 (Nat.zero_le _) (Trim.mk' rfl rfl rfl rfl (Nat.le_refl _)) ?_
        intro k hk2
        have hk2 : k ≤ out.length := hk2
        refine Br.mk (fun hc2 => ?_) (fun hc2 => ?_)
        · have hc2 : (k : Int) < ((out.map PV.str).length : Nat) := of_decide_eq_true hc2
          have hk1 : k < out.length := by omega
          have ek : IntKind.i64.wrap ((k : Int) + 1) = ((k + 1 : Nat) : Int) := by rw [wrap_i64] <;> omega
          have hsn : (out.take (k + 1)).any (· == gs[j].key) = ((out.take k).any (· == gs[j].key) || (out[k] == gs[j].key)) := by rw [take_succ' hk1, List.any_append]; simp
          refine Idx.mk _ (Int.natCast_nonneg _) (show (out.map PV.str)[((k : Nat) : Int).toNat]? = some (.str out[k]) by rw [Int.toNat_natCast, List.getElem?_map, List.getElem?_eq_getElem hk1]; rfl) ?_
          cases hb : (out.take k).any (· == gs[j].key) with
          | true =>
            rw [hb, Bool.true_or] at hsn
            repeat (first | refine Br.f rfl ?_ | refine Br.t rfl ?_)
            refine ⟨k + 1, hk1, by show out.length - (k + 1) < out.length - k; omega, Nat.le_refl _, Trim.mk' ?_ rfl rfl rfl (Nat.le_refl _)⟩
            refine Eq.trans (b := [_, _, _, (7, AV.p (.bool true)), _, _, _, _, _, (35, AV.p (ii (IntKind.i64.wrap ((k : Int) + 1))))]) rfl ?_
            show _ = [_, _, _, (7, AV.p (.bool ((out.take (k + 1)).any (· == gs[j].key)))), _, _, _, _, _, (35, AV.p (ii ((k + 1 : Nat) : Int)))]
            rw [ek, hsn] <;> rfl
          | false =>
            rw [hb, Bool.false_or] at hsn
            repeat (first | refine Br.t rfl ?_ | refine Br.f rfl ?_)
            refine ⟨k + 1, hk1, by show out.length - (k + 1) < out.length - k; omega, Nat.le_refl _, Trim.mk' ?_ rfl rfl rfl (Nat.le_refl _)⟩
            refine Eq.trans (b := [_, _, _, (7, AV.p (.bool (out[k] == gs[j].key))), _, _, _, _, _, (35, AV.p (ii (IntKind.i64.wrap ((k : Int) + 1))))]) rfl ?_
            show _ = [_, _, _, (7, AV.p (.bool ((out.take (k + 1)).any (· == gs[j].key)))), _, _, _, _, _, (35, AV.p (ii ((k + 1 : Nat) : Int)))]
            rw [ek, hsn] <;> rfl
        · have hc2 : ¬ (k : Int) < ((out.map PV.str).length : Nat) := of_decide_eq_false hc2
          have : k = out.length := by omega
          subst this
          rw [List.take_length]
          have hki : keyI out gs[j].key = if out.any (· == gs[j].key) = true then out else out.take i ++ gs[j].key :: out.drop i := by unfold keyI; rw [← hip]
          rw [hki] at htk
          cases hb : out.any (· == gs[j].key) with
          | true =>
            rw [if_pos hb] at htk
            refine Br.f rfl ?_
            refine ⟨j + 1, hj1, by show gs.length - (j + 1) < gs.length - j; omega, (show 0 ≤ 0 by decide), Trim.mk' ?_ rfl rfl rfl (Nat.zero_le _)⟩
            refine Eq.trans (b := [(3, .p (txP out)), _, _, (12, AV.p (ii (IntKind.i64.wrap ((j : Int) + 1))))]) rfl ?_
            rw [ej, ← htk]; rfl
          | false =>
            rw [if_neg (by rw [hb]; decide)] at htk
            refine Br.t rfl ?_
            have b1 : 0 ≤ (0 : Int) ∧ 0 ≤ ((i : Nat) : Int) ∧ ((i : Nat) : Int) ≤ (((out.map PV.str).length : Nat) : Int) := ⟨Int.le_refl _, Int.natCast_nonneg _, by omega⟩
            have b2 : 0 ≤ ((i : Nat) : Int) ∧ ((i : Nat) : Int) ≤ (((out.map PV.str).length : Nat) : Int) := ⟨Int.natCast_nonneg _, by omega⟩
            obtain ⟨T, hT⟩ : ∃ T, T = (((out.map PV.str).take ((i : Nat) : Int).toNat).drop (0 : Int).toNat) := ⟨_, rfl⟩
            obtain ⟨E, hE⟩ : ∃ E, E = (out.map PV.str).drop ((i : Nat) : Int).toNat := ⟨_, rfl⟩
            have tt : T = (out.take i).map PV.str := by rw [hT, Int.toNat_natCast, List.map_take]; rfl
            have te : E = (out.drop i).map PV.str := by rw [hE, Int.toNat_natCast, List.map_drop]
            have tl : T.length ≤ 1000000000 := by rw [tt, List.length_map, List.length_take]; omega
            have el : E.length ≤ 1000000000 := by rw [te, List.length_map, List.length_drop]; omega
            by_cases hd0 : i = 0
            · have he : T = [] := by rw [tt, hd0]; rfl
              have hX : [PV.str gs[j].key] ++ E = (keysL (gs.take (j + 1))).map PV.str := by rw [htk, te, hd0]; rfl
              have l3 : (1 + E.length) * 16 ≤ 140737488355328 := by omega
              rw [hE] at hX l3
              rw [hT] at he
              clear hlm hom htk hT hE tt te tl el hki hip hfin hko hkj hple
              repeat' (first
                | refine Chk.mk (by kernel_rfl) ?_
                | (apply Br.t; · (first | rfl | (simp only [*] <;> rfl)))
                | (apply Br.f; · (first | rfl | (simp only [*] <;> rfl)))
                | refine ⟨_, ⟨rfl, rfl⟩, ?_⟩
                | refine ⟨_, _, ⟨rfl, rfl⟩, rfl, ?_⟩
                | refine ⟨_, Ob.mk b1 ⟨rfl, rfl⟩, ?_⟩
                | refine ⟨_, Ob.mk b2 ⟨rfl, rfl⟩, ?_⟩
                | refine ⟨_, _, BrL.mk (fun _ => ⟨rfl, rfl⟩) (fun hne => absurd he hne), rfl, ?_⟩
                | refine ⟨_, _, BrL.c (Ob.mk (show (0 + 1) * 16 ≤ 140737488355328 by decide) ⟨rfl, rfl⟩), rfl, ?_⟩
                | refine ⟨_, _, Ob.mk ⟨rfl, rfl, rfl, l3⟩ ⟨rfl, rfl⟩, rfl, ?_⟩
                | refine ⟨_, Ob.mk (by decide) ⟨rfl, rfl⟩, ?_⟩
                | (refine ⟨_, Br.t ?_ ⟨rfl, rfl⟩, ?_⟩; · (first | rfl | (simp only [*] <;> rfl)))
                | (refine ⟨_, Br.f ?_ ⟨rfl, rfl⟩, ?_⟩; · (first | rfl | (simp only [*] <;> rfl)))
                | refine ⟨_, _, Ob.mk (okst rfl rfl rfl) ⟨rfl, rfl⟩, rfl, ?_⟩
                | refine Ob.mk (okst rfl rfl rfl) ?_
                | refine Ob.mk (by decide) ?_
                | refine Br.mkT (fun c => ?_) (fun c => ?_)
                | refine Br.mkF (fun c => ?_) (fun c => ?_)
                | refine Br.mk (fun c => ?_) (fun c => ?_))
              refine ⟨j + 1, hj1, by show gs.length - (j + 1) < gs.length - j; omega, (show 0 ≤ 0 by decide), Trim.fz [3] (Ob.mk rfl (TrimO.mk' ?_ rfl rfl rfl (Nat.zero_le _)))⟩
              refine Eq.trans (b := [(3, AV.p (.sl .shr 1 (([PV.str gs[j].key] ++ (out.map PV.str).drop ((i : Nat) : Int).toNat).drop 0 |>.take ([PV.str gs[j].key] ++ (out.map PV.str).drop ((i : Nat) : Int).toNat).length))), _, _, (12, AV.p (ii (IntKind.i64.wrap ((j : Int) + 1))))]) rfl ?_
              rw [cut_all, hX, ej]; rfl
            · have hne : T ≠ [] := by
                rw [tt]; intro e
                have := congrArg List.length e
                rw [List.length_map, List.length_take] at this
                have h0 : min i out.length = 0 := this
                omega
              have hX : [] ++ T ++ [PV.str gs[j].key] ++ E = (keysL (gs.take (j + 1))).map PV.str := by rw [htk, te, tt]; simp
              have l1 : (0 + T.length) * 16 ≤ 140737488355328 := by omega
              have l2 : (([] ++ T).length + 1) * 16 ≤ 140737488355328 := by rw [List.nil_append]; omega
              have l3 : (([] ++ T ++ [PV.str gs[j].key]).length + E.length) * 16 ≤ 140737488355328 := by
                have h1 : ([PV.str gs[j].key] : List PV).length = 1 := rfl
                rw [List.length_append, List.nil_append, h1]; omega
              rw [hT, hE] at hX l3
              rw [hT] at hne l1 l2
              clear hlm hom htk hT hE tt te tl el hki hip hfin hko hkj hple
              repeat' (first
                | refine Chk.mk (by kernel_rfl) ?_
                | (apply Br.t; · (first | rfl | (simp only [*] <;> rfl)))
                | (apply Br.f; · (first | rfl | (simp only [*] <;> rfl)))
                | refine ⟨_, ⟨rfl, rfl⟩, ?_⟩
                | refine ⟨_, _, ⟨rfl, rfl⟩, rfl, ?_⟩
                | refine ⟨_, Ob.mk b1 ⟨rfl, rfl⟩, ?_⟩
                | refine ⟨_, Ob.mk b2 ⟨rfl, rfl⟩, ?_⟩
                | refine ⟨_, _, BrL.mk (fun he => absurd he hne) (fun _ => Ob.mk l1 ⟨rfl, rfl⟩), rfl, ?_⟩
                | refine ⟨_, _, Ob.mk ⟨rfl, rfl, rfl, l2⟩ ⟨rfl, rfl⟩, rfl, ?_⟩
                | refine ⟨_, _, Ob.mk ⟨rfl, rfl, rfl, l3⟩ ⟨rfl, rfl⟩, rfl, ?_⟩
                | refine ⟨_, Ob.mk (by decide) ⟨rfl, rfl⟩, ?_⟩
                | (refine ⟨_, Br.t ?_ ⟨rfl, rfl⟩, ?_⟩; · (first | rfl | (simp only [*] <;> rfl)))
                | (refine ⟨_, Br.f ?_ ⟨rfl, rfl⟩, ?_⟩; · (first | rfl | (simp only [*] <;> rfl)))
                | refine ⟨_, _, Ob.mk (okst rfl rfl rfl) ⟨rfl, rfl⟩, rfl, ?_⟩
                | refine Ob.mk (okst rfl rfl rfl) ?_
                | refine Ob.mk (by decide) ?_
                | refine Br.mkT (fun c => ?_) (fun c => ?_)
                | refine Br.mkF (fun c => ?_) (fun c => ?_)
                | refine Br.mk (fun c => ?_) (fun c => ?_))
              refine ⟨j + 1, hj1, by show gs.length - (j + 1) < gs.length - j; omega, (show 0 ≤ 0 by decide), Trim.fz [3] (Ob.mk rfl (TrimO.mk' ?_ rfl rfl rfl (Nat.zero_le _)))⟩
              refine Eq.trans (b := [(3, AV.p (.sl .shr 1 (([] ++ (((out.map PV.str).take ((i : Nat) : Int).toNat).drop (0 : Int).toNat) ++ [PV.str gs[j].key] ++ (out.map PV.str).drop ((i : Nat) : Int).toNat).drop 0 |>.take ([] ++ (((out.map PV.str).take ((i : Nat) : Int).toNat).drop (0 : Int).toNat) ++ [PV.str gs[j].key] ++ (out.map PV.str).drop ((i : Nat) : Int).toNat).length))), _, _, (12, AV.p (ii (IntKind.i64.wrap ((j : Int) + 1))))]) rfl ?_
              rw [cut_all, hX, ej]; rfl
  · have hc : ¬ (j : Int) < ((gs.map Gt.pv).length : Nat) := of_decide_eq_false hc
    have : j = gs.length := by omega
    subst this
    rw [List.take_length]
    exact h
end Go.Proofs.YtlnelaajlhfabaaGreat.AW

open Go Go.Proofs.YtlnelaajlhfabaaGreat.AW Go.Proofs
namespace Go.Proofs.YtlnelaajlhfabaaGreat.AW
set_option maxRecDepth 100000
set_option linter.unusedSimpArgs false
set_option linter.unusedVariables false

/-! ### ledger.Last -/
theorem at_get {gs : List Gt} {i : Nat} (h : i < gs.length) : at' gs i = gs[i] := getD_G h
def lsS (q : List (SE Int) × Nat) : Option AObj := some (.map .str (q.1.map (sent ii)) q.2)
theorem lst_map (gs : List Gt) (j : Nat) : some (AObj.map .str (mPut ((lstN gs j).1.map (sent ii)) (lstN gs j).2 (.str (at' gs j).key) (ii (j : Nat))) (mClock ((lstN gs j).1.map (sent ii)) (lstN gs j).2 (.str (at' gs j).key))) = lsS (aPut (lstN gs j).1 (lstN gs j).2 (at' gs j).key (j : Nat), aCl (lstN gs j).1 (lstN gs j).2 (at' gs j).key) := by
  rw [put_sent ii, clk_sent ii]; rfl
set_option maxHeartbeats 16000000 in
theorem lastG2_c (gs : List Gt) (hg : gs.length ≤ 1000000000) (h20 : (bests gs gs.length).length ≤ 20) (s : Store) (K : AV → Store → Prop) (h : K (.p (gsC (isort (bests gs gs.length)))) s) : Cal Tryz.prog 36 [.p (gsP gs)] s K := by
  refine Cal.pure (args := [gsP gs]) ?_
  refine Cal.intro Tryz.func36 (by decide +kernel) rfl rfl ?_
  have hlm := gsL gs
  refine LoopX.fam [0, 3, 12, 13, 14] (fun (j : Nat) => ([(0, .p (gsP gs)), (3, .map 0), (12, .p (gsP gs)), (13, .p (ii (gs.map Gt.pv).length)), (14, .p (ii (j : Nat)))], [lsS (lstN gs j)]))
    (fun j => j ≤ gs.length) (fun j => gs.length - j) 0 (Nat.zero_le _) (Trim.mk' rfl rfl rfl rfl (Nat.le_refl _)) ?_
  intro j hj
  have hj : j ≤ gs.length := hj
  refine Br.mk (fun hc => ?_) (fun hc => ?_)
  · have hc : (j : Int) < ((gs.map Gt.pv).length : Nat) := of_decide_eq_true hc
    have hj1 : j < gs.length := by omega
    have ej : IntKind.i64.wrap ((j : Int) + 1) = ((j + 1 : Nat) : Int) := by rw [wrap_i64] <;> omega
    have hat := at_get hj1
    have hget := get_sent ii gs[j].key (lstN gs j).1
    have hinv := lstN_get gs j gs[j].key
    have hmp := lst_map gs j
    have hst : lstN gs (j + 1) = lstA gs (lstN gs j) j := rfl
    unfold lstA at hst
    rw [hat] at hmp hst
    refine Idx.mk _ (Int.natCast_nonneg _) (getG hj1) ?_
    refine Ob.mk (okst rfl rfl rfl) ?_
    cases hn : aGet (lstN gs j).1 gs[j].key with
    | none =>
      rw [hn] at hget hst
      refine Opt.n hget ?_
      repeat' (first
        | refine Chk.mk (by kernel_rfl) ?_
        | (apply Br.t; · (first | rfl | (simp only [*] <;> rfl)))
        | (apply Br.f; · (first | rfl | (simp only [*] <;> rfl)))
        | refine ⟨_, ⟨rfl, rfl⟩, ?_⟩
        | refine ⟨_, _, ⟨rfl, rfl⟩, rfl, ?_⟩
        | refine ⟨_, Ob.mk (by decide) ⟨rfl, rfl⟩, ?_⟩
        | (refine ⟨_, Br.t ?_ ⟨rfl, rfl⟩, ?_⟩; · (first | rfl | (simp only [*] <;> rfl)))
        | (refine ⟨_, Br.f ?_ ⟨rfl, rfl⟩, ?_⟩; · (first | rfl | (simp only [*] <;> rfl)))
        | refine ⟨_, _, Ob.mk (okst rfl rfl rfl) ⟨rfl, rfl⟩, rfl, ?_⟩
        | refine Ob.mk (okst rfl rfl rfl) ?_
        | refine Ob.mk (by decide) ?_
        | refine Br.mkT (fun c => ?_) (fun c => ?_)
        | refine Br.mkF (fun c => ?_) (fun c => ?_)
        | refine Br.mk (fun c => ?_) (fun c => ?_))
      refine ⟨j + 1, hj1, by show gs.length - (j + 1) < gs.length - j; omega, (show 1 ≤ 1 by decide), Trim.mk' ?_ ?_ rfl rfl (by show (1 : Nat) ≤ 2; decide)⟩
      · refine Eq.trans (b := [_, _, _, _, (14, AV.p (ii (IntKind.i64.wrap ((j : Int) + 1))))]) rfl ?_
        rw [ej]; rfl
      · show [some (AObj.map .str (mPut ((lstN gs j).1.map (sent ii)) (lstN gs j).2 (.str gs[j].key) (ii (j : Nat))) (mClock ((lstN gs j).1.map (sent ii)) (lstN gs j).2 (.str gs[j].key)))] = [lsS (lstN gs (j + 1))]
        rw [hmp, hst]
    | some w =>
      rw [hn] at hget hst hinv
      obtain ⟨w0, wj, _, _⟩ := hinv
      have hwl : w.toNat < gs.length := by omega
      have g1 : (gs.map Gt.pv)[w.toNat]? = some gs[w.toNat].pv := by rw [List.getElem?_map, List.getElem?_eq_getElem hwl]; rfl
      dsimp only at hst
      rw [at_get hwl] at hst
      refine Opt.s hget ?_
      cases hge : decide (gs[j].off ≥ gs[w.toNat].off) with
      | true =>
        have hst2 : lstN gs (j + 1) = (aPut (lstN gs j).1 (lstN gs j).2 gs[j].key (j : Nat), aCl (lstN gs j).1 (lstN gs j).2 gs[j].key) := by rw [hst, hge, if_pos rfl]
        clear hst hget hn hlm hat
        repeat' (first
          | refine Chk.mk (by kernel_rfl) ?_
          | (apply Br.t; · (first | rfl | (simp only [*] <;> rfl)))
          | (apply Br.f; · (first | rfl | (simp only [*] <;> rfl)))
          | refine ⟨_, ⟨rfl, rfl⟩, ?_⟩
          | refine ⟨_, _, ⟨rfl, rfl⟩, rfl, ?_⟩
          | refine ⟨_, Idx.mk _ w0 g1 ⟨rfl, rfl⟩, ?_⟩
          | apply Br.t hge
          | refine ⟨_, Ob.mk (by decide) ⟨rfl, rfl⟩, ?_⟩
          | (refine ⟨_, Br.t ?_ ⟨rfl, rfl⟩, ?_⟩; · (first | rfl | (simp only [*] <;> rfl)))
          | (refine ⟨_, Br.f ?_ ⟨rfl, rfl⟩, ?_⟩; · (first | rfl | (simp only [*] <;> rfl)))
          | refine ⟨_, _, Ob.mk (okst rfl rfl rfl) ⟨rfl, rfl⟩, rfl, ?_⟩
          | refine Ob.mk (okst rfl rfl rfl) ?_
          | refine Ob.mk (by decide) ?_
          | refine Br.mkT (fun c => ?_) (fun c => ?_)
          | refine Br.mkF (fun c => ?_) (fun c => ?_)
          | refine Br.mk (fun c => ?_) (fun c => ?_))
        refine ⟨j + 1, hj1, by show gs.length - (j + 1) < gs.length - j; omega, (show 1 ≤ 1 by decide), Trim.mk' ?_ ?_ rfl rfl (by show (1 : Nat) ≤ 2; decide)⟩
        · refine Eq.trans (b := [_, _, _, _, (14, AV.p (ii (IntKind.i64.wrap ((j : Int) + 1))))]) rfl ?_
          rw [ej]; rfl
        · show [some (AObj.map .str (mPut ((lstN gs j).1.map (sent ii)) (lstN gs j).2 (.str gs[j].key) (ii (j : Nat))) (mClock ((lstN gs j).1.map (sent ii)) (lstN gs j).2 (.str gs[j].key)))] = [lsS (lstN gs (j + 1))]
          rw [hmp, hst2]
      | false =>
        have hst2 : lstN gs (j + 1) = lstN gs j := by rw [hst, hge]; rfl
        clear hst hget hn hlm hat hmp
        repeat' (first
          | refine Chk.mk (by kernel_rfl) ?_
          | (apply Br.t; · (first | rfl | (simp only [*] <;> rfl)))
          | (apply Br.f; · (first | rfl | (simp only [*] <;> rfl)))
          | refine ⟨_, ⟨rfl, rfl⟩, ?_⟩
          | refine ⟨_, _, ⟨rfl, rfl⟩, rfl, ?_⟩
          | refine ⟨_, Idx.mk _ w0 g1 ⟨rfl, rfl⟩, ?_⟩
          | apply Br.f hge
          | refine ⟨_, Ob.mk (by decide) ⟨rfl, rfl⟩, ?_⟩
          | (refine ⟨_, Br.t ?_ ⟨rfl, rfl⟩, ?_⟩; · (first | rfl | (simp only [*] <;> rfl)))
          | (refine ⟨_, Br.f ?_ ⟨rfl, rfl⟩, ?_⟩; · (first | rfl | (simp only [*] <;> rfl)))
          | refine ⟨_, _, Ob.mk (okst rfl rfl rfl) ⟨rfl, rfl⟩, rfl, ?_⟩
          | refine Ob.mk (okst rfl rfl rfl) ?_
          | refine Ob.mk (by decide) ?_
          | refine Br.mkT (fun c => ?_) (fun c => ?_)
          | refine Br.mkF (fun c => ?_) (fun c => ?_)
          | refine Br.mk (fun c => ?_) (fun c => ?_))
        refine ⟨j + 1, hj1, by show gs.length - (j + 1) < gs.length - j; omega, (show 1 ≤ 1 by decide), Trim.mk' ?_ ?_ rfl rfl (by show (1 : Nat) ≤ 2; decide)⟩
        · refine Eq.trans (b := [_, _, _, _, (14, AV.p (ii (IntKind.i64.wrap ((j : Int) + 1))))]) rfl ?_
          rw [ej]; rfl
        · show [lsS (lstN gs j)] = [lsS (lstN gs (j + 1))]
          rw [hst2]
  · have hc : ¬ (j : Int) < ((gs.map Gt.pv).length : Nat) := of_decide_eq_false hc
    have : j = gs.length := by omega
    subst this
    obtain ⟨q, hq⟩ : ∃ q, q = lstN gs gs.length := ⟨_, rfl⟩
    have hbest := fun i (hi : i < gs.length) => best_iff gs hi
    rw [← hq] at hbest ⊢
    clear hq
    refine LoopX.famW [3, 8, 45, 46, 47] (fun (j : Nat) => ([(3, .map 0), (8, .osl 1 ((bests gs j).map Gt.pv).length 0 ((bests gs j).map Gt.pv).length), (45, .p (gsP gs)), (46, .p (ii (gs.map Gt.pv).length)), (47, .p (ii (j : Nat)))], [lsS q, some (.buf 4 ((bests gs j).map Gt.pv))]))
      (fun j => j ≤ gs.length) (fun j => gs.length - j) 0 (Nat.zero_le _) (by show 1 ≤ 2; decide) (Trim.wk 1 [(4, none)] rfl (by show 1 ≤ 1; decide) (.inr rfl) rfl rfl rfl rfl rfl ⟨.inl rfl, .own 1 rfl rfl, .inl rfl, .inl rfl, .inl rfl, trivial⟩) ?_
    intro j hj
    have hj : j ≤ gs.length := hj
    refine Br.mk (fun hc => ?_) (fun hc => ?_)
    · have hc : (j : Int) < ((gs.map Gt.pv).length : Nat) := of_decide_eq_true hc
      have hj1 : j < gs.length := by omega
      have ej : IntKind.i64.wrap ((j : Int) + 1) = ((j + 1 : Nat) : Int) := by rw [wrap_i64] <;> omega
      have hat := at_get hj1
      obtain ⟨w, hw1, hw2⟩ := hbest j hj1
      rw [hat] at hw1
      have hget := get_sent ii gs[j].key q.1
      rw [hw1] at hget
      have hsn := bests_succ gs j
      rw [hat] at hsn
      have hbl := bests_le gs j
      refine Idx.mk _ (Int.natCast_nonneg _) (getG hj1) ?_
      refine Ob.mk (okst rfl rfl rfl) ?_
      refine Opt.s hget ?_
      refine Br.mk (fun hd => ?_) (fun hd => ?_)
      · have hd : w = (j : Nat) := by simpa using hd
        rw [decide_eq_true hd] at hw2
        rw [if_pos hw2.symm] at hsn
        refine Ob.mk ⟨rfl, rfl, rfl, (show (((bests gs j).map Gt.pv).length + 1) * 48 ≤ 140737488355328 by rw [List.length_map]; omega)⟩ ?_
        refine ⟨j + 1, hj1, by show gs.length - (j + 1) < gs.length - j; omega, (show 1 ≤ 2 by decide), Trim.mk' ?_ ?_ rfl rfl (by show (2 : Nat) ≤ 3; decide)⟩
        · refine Eq.trans (b := [_, (8, .osl 1 ((bests gs j).map Gt.pv ++ [gs[j].pv]).length 0 ((bests gs j).map Gt.pv ++ [gs[j].pv]).length), _, _, (47, AV.p (ii (IntKind.i64.wrap ((j : Int) + 1))))]) rfl ?_
          rw [ej, hsn, List.map_append]; rfl
        · show [_, some (AObj.buf 4 ((bests gs j).map Gt.pv ++ [gs[j].pv]) none)] = [_, some (AObj.buf 4 ((bests gs (j + 1)).map Gt.pv) none)]
          rw [hsn, List.map_append]; rfl
      · have hd : ¬ w = (j : Nat) := by simpa using hd
        rw [decide_eq_false hd] at hw2
        rw [if_neg (by rw [← hw2]; decide), List.append_nil] at hsn
        refine ⟨j + 1, hj1, by show gs.length - (j + 1) < gs.length - j; omega, (show 1 ≤ 2 by decide), Trim.mk' ?_ ?_ rfl rfl (by show (2 : Nat) ≤ 3; decide)⟩
        · refine Eq.trans (b := [_, (8, .osl 1 ((bests gs j).map Gt.pv).length 0 ((bests gs j).map Gt.pv).length), _, _, (47, AV.p (ii (IntKind.i64.wrap ((j : Int) + 1))))]) rfl ?_
          rw [ej, hsn]; rfl
        · show [_, some (AObj.buf 4 ((bests gs j).map Gt.pv) none)] = [_, some (AObj.buf 4 ((bests gs (j + 1)).map Gt.pv) none)]
          rw [hsn]
    · have hc : ¬ (j : Int) < ((gs.map Gt.pv).length : Nat) := of_decide_eq_false hc
      have : j = gs.length := by omega
      subst this
      have hbl := gsL (bests gs gs.length)
      have hil : ((isort (bests gs gs.length)).map Gt.pv).length = (bests gs gs.length).length := by rw [List.length_map, isort_len]
      rw [hbl]
      refine Cal.frameK [1] (stab_c (bests gs gs.length) h20 _ fun _ => ?_) rfl rfl rfl
      refine Cal.freeze ?_ ⟨_, Tryz.func89, rfl, rfl⟩
      refine Ob.mk hil ?_
      show Cal _ _ [.p (.sl .shr 4 ((((isort (bests gs gs.length)).map Gt.pv).drop 0).take (bests gs gs.length).length))] _ _
      rw [← hil, cut_all]
      exact clip_got _ _ _ h
end Go.Proofs.YtlnelaajlhfabaaGreat.AW

open Go Go.Proofs.YtlnelaajlhfabaaGreat.AW Go.Proofs
namespace Go.Proofs.YtlnelaajlhfabaaGreat.AW
set_option maxRecDepth 100000
set_option linter.unusedSimpArgs false
set_option linter.unusedVariables false

/-! ### .. by the document -/
theorem isortB_succ (gs : List Gt) (i : Nat) : isort (bests gs (i + 1)) = if bestB gs i = true then insG (isort (bests gs i)) (at' gs i) else isort (bests gs i) := by
  rw [bests_succ]
  by_cases h : bestB gs i = true
  · rw [if_pos h, if_pos h, isort_snoc]
  · rw [if_neg h, if_neg h, List.append_nil]
set_option maxHeartbeats 32000000 in
theorem lastG1_c (gs : List Gt) (hg : gs.length ≤ 1000000000) (s : Store) (K : AV → Store → Prop) (h : K (.p (gsP (isort (bests gs gs.length)))) s) : Cal Tryz.prog 82 [.p (gsP gs)] s K := by
  refine Cal.pure (args := [gsP gs]) ?_
  refine Cal.intro Tryz.func82 (by decide +kernel) rfl rfl ?_
  have hlm := gsL gs
  refine LoopX.famW [0, 3, 10, 11, 12] (fun (j : Nat) => ([(0, .p (gsP gs)), (3, .p (gsP (isort (bests gs j)))), (10, .p (gsP gs)), (11, .p (ii (gs.map Gt.pv).length)), (12, .p (ii (j : Nat)))], []))
    (fun j => j ≤ gs.length) (fun j => gs.length - j) 0 (Nat.zero_le _) (Nat.le_refl _) (Trim.wk 0 [] rfl (Nat.le_refl _) (.inl rfl) rfl rfl rfl rfl rfl ⟨.inl rfl, WkV.nil .shr 4, .inl rfl, .inl rfl, .inl rfl, trivial⟩) ?_
  intro j hj
  have hj : j ≤ gs.length := hj
  refine Br.mk (fun hc => ?_) (fun hc => ?_)
  · have hc : (j : Int) < ((gs.map Gt.pv).length : Nat) := of_decide_eq_true hc
    have hj1 : j < gs.length := by omega
    have ej : IntKind.i64.wrap ((j : Int) + 1) = ((j + 1 : Nat) : Int) := by rw [wrap_i64] <;> omega
    have htk := isortB_succ gs j
    rw [at_get hj1] at htk
    have hol : (isort (bests gs j)).length ≤ j := by rw [isort_len]; exact bests_le gs j
    refine Idx.mk _ (Int.natCast_nonneg _) (getG hj1) ?_
    refine Ob.mk (okst rfl rfl rfl) ?_
    generalize isort (bests gs j) = out at htk hol ⊢
    have hom := gsL out
    refine LoopX.fam [0, 3, 4, 5, 6, 10, 11, 12, 17, 18, 19] (fun (k : Nat) => ([(0, .p (gsP gs)), (3, .p (gsP out)), (4, .p (ii (j : Nat))), (5, .ref 0 0), (6, .p (.bool (bestN gs j k))), (10, .p (gsP gs)), (11, .p (ii (gs.map Gt.pv).length)), (12, .p (ii (j : Nat))), (17, .p (gsP gs)), (18, .p (ii (gs.map Gt.pv).length)), (19, .p (ii (k : Nat)))], [gC gs[j]]))
      (fun k => k ≤ gs.length) (fun k => gs.length - k) 0 (Nat.zero_le _) (Trim.mk' rfl rfl rfl rfl (Nat.le_refl _)) ?_
    intro k hk
    have hk : k ≤ gs.length := hk
    refine Br.mk (fun hc2 => ?_) (fun hc2 => ?_)
    · have hc2 : (k : Int) < ((gs.map Gt.pv).length : Nat) := of_decide_eq_true hc2
      have hk1 : k < gs.length := by omega
      have ek : IntKind.i64.wrap ((k : Int) + 1) = ((k + 1 : Nat) : Int) := by rw [wrap_i64] <;> omega
      have hbs := bestN_succ gs j k
      have hlb : laterB gs j k = ((gs[k].key == gs[j].key) && (decide (gs[k].off > gs[j].off) || ((gs[k].off == gs[j].off) && decide (((k : Nat) : Int) > ((j : Nat) : Int))))) := by
        unfold laterB; rw [at_get hk1, at_get hj1]
        congr 3
        exact decide_eq_decide.2 (by omega)
      refine Idx.mk _ (Int.natCast_nonneg _) (getG hk1) ?_
      refine Ob.mk (okst rfl rfl rfl) ?_
      clear htk hol hom hlm hc hc2
      cases k1 : (gs[k].key == gs[j].key) with
      | false =>
        rw [k1, Bool.false_and] at hlb
        rw [hlb, Bool.not_false, Bool.and_true] at hbs
        clear hlb
        repeat' (first
          | (apply Br.t; · (first | rfl | (simp only [*] <;> rfl)))
          | (apply Br.f; · (first | rfl | (simp only [*] <;> rfl)))
          | refine Ob.mk (okst rfl rfl rfl) ?_
          | refine Br.mkT (fun c => ?_) (fun c => ?_)
          | refine Br.mkF (fun c => ?_) (fun c => ?_)
          | refine Br.mk (fun c => ?_) (fun c => ?_))
        refine ⟨k + 1, hk1, by show gs.length - (k + 1) < gs.length - k; omega, Nat.le_refl _, Trim.mk' ?_ rfl rfl rfl (by show (1 : Nat) ≤ 2; decide)⟩
        refine Eq.trans (b := [_, _, _, _, (6, AV.p (.bool (bestN gs j k))), _, _, _, _, _, (19, AV.p (ii (IntKind.i64.wrap ((k : Int) + 1))))]) rfl ?_
        show _ = [_, _, _, _, (6, AV.p (.bool (bestN gs j (k + 1)))), _, _, _, _, _, (19, AV.p (ii ((k + 1 : Nat) : Int)))]
        rw [ek, hbs] <;> rfl
      | true =>
        cases k2 : decide (gs[k].off > gs[j].off) with
        | true =>
          rw [k1, k2] at hlb
          rw [hlb] at hbs
          simp only [Bool.true_or, Bool.true_and, Bool.not_true, Bool.and_false] at hbs
          clear hlb
          repeat' (first
            | (apply Br.t; · (first | rfl | (simp only [*] <;> rfl)))
            | (apply Br.f; · (first | rfl | (simp only [*] <;> rfl)))
            | refine Ob.mk (okst rfl rfl rfl) ?_
            | refine Br.mkT (fun c => ?_) (fun c => ?_)
            | refine Br.mkF (fun c => ?_) (fun c => ?_)
            | refine Br.mk (fun c => ?_) (fun c => ?_))
          refine ⟨k + 1, hk1, by show gs.length - (k + 1) < gs.length - k; omega, Nat.le_refl _, Trim.mk' ?_ rfl rfl rfl (by show (1 : Nat) ≤ 2; decide)⟩
          refine Eq.trans (b := [_, _, _, _, (6, AV.p (.bool (false))), _, _, _, _, _, (19, AV.p (ii (IntKind.i64.wrap ((k : Int) + 1))))]) rfl ?_
          show _ = [_, _, _, _, (6, AV.p (.bool (bestN gs j (k + 1)))), _, _, _, _, _, (19, AV.p (ii ((k + 1 : Nat) : Int)))]
          rw [ek, hbs] <;> rfl
        | false =>
          cases k3 : (gs[k].off == gs[j].off) with
          | false =>
            rw [k1, k2, k3] at hlb
            rw [hlb] at hbs
            simp only [Bool.true_and, Bool.false_and, Bool.or_false, Bool.not_false, Bool.and_true] at hbs
            clear hlb
            repeat' (first
              | (apply Br.t; · (first | rfl | (simp only [*] <;> rfl)))
              | (apply Br.f; · (first | rfl | (simp only [*] <;> rfl)))
              | refine Ob.mk (okst rfl rfl rfl) ?_
              | refine Br.mkT (fun c => ?_) (fun c => ?_)
              | refine Br.mkF (fun c => ?_) (fun c => ?_)
              | refine Br.mk (fun c => ?_) (fun c => ?_))
            refine ⟨k + 1, hk1, by show gs.length - (k + 1) < gs.length - k; omega, Nat.le_refl _, Trim.mk' ?_ rfl rfl rfl (by show (1 : Nat) ≤ 2; decide)⟩
            refine Eq.trans (b := [_, _, _, _, (6, AV.p (.bool (bestN gs j k))), _, _, _, _, _, (19, AV.p (ii (IntKind.i64.wrap ((k : Int) + 1))))]) rfl ?_
            show _ = [_, _, _, _, (6, AV.p (.bool (bestN gs j (k + 1)))), _, _, _, _, _, (19, AV.p (ii ((k + 1 : Nat) : Int)))]
            rw [ek, hbs] <;> rfl
          | true =>
            cases k4 : decide (((k : Nat) : Int) > ((j : Nat) : Int)) with
            | false =>
              rw [k1, k2, k3, k4] at hlb
              rw [hlb] at hbs
              simp only [Bool.true_and, Bool.false_and, Bool.and_false, Bool.or_false, Bool.not_false, Bool.and_true] at hbs
              clear hlb
              repeat' (first
                | (apply Br.t; · (first | rfl | (simp only [*] <;> rfl)))
                | (apply Br.f; · (first | rfl | (simp only [*] <;> rfl)))
                | refine Ob.mk (okst rfl rfl rfl) ?_
                | refine Br.mkT (fun c => ?_) (fun c => ?_)
                | refine Br.mkF (fun c => ?_) (fun c => ?_)
                | refine Br.mk (fun c => ?_) (fun c => ?_))
              refine ⟨k + 1, hk1, by show gs.length - (k + 1) < gs.length - k; omega, Nat.le_refl _, Trim.mk' ?_ rfl rfl rfl (by show (1 : Nat) ≤ 2; decide)⟩
              refine Eq.trans (b := [_, _, _, _, (6, AV.p (.bool (bestN gs j k))), _, _, _, _, _, (19, AV.p (ii (IntKind.i64.wrap ((k : Int) + 1))))]) rfl ?_
              show _ = [_, _, _, _, (6, AV.p (.bool (bestN gs j (k + 1)))), _, _, _, _, _, (19, AV.p (ii ((k + 1 : Nat) : Int)))]
              rw [ek, hbs] <;> rfl
            | true =>
              rw [k1, k2, k3, k4] at hlb
              rw [hlb] at hbs
              simp only [Bool.false_or, Bool.true_and, Bool.not_true, Bool.and_false] at hbs
              clear hlb
              repeat' (first
                | (apply Br.t; · (first | rfl | (simp only [*] <;> rfl)))
                | (apply Br.f; · (first | rfl | (simp only [*] <;> rfl)))
                | refine Ob.mk (okst rfl rfl rfl) ?_
                | refine Br.mkT (fun c => ?_) (fun c => ?_)
                | refine Br.mkF (fun c => ?_) (fun c => ?_)
                | refine Br.mk (fun c => ?_) (fun c => ?_))
              refine ⟨k + 1, hk1, by show gs.length - (k + 1) < gs.length - k; omega, Nat.le_refl _, Trim.mk' ?_ rfl rfl rfl (by show (1 : Nat) ≤ 2; decide)⟩
              refine Eq.trans (b := [_, _, _, _, (6, AV.p (.bool (false))), _, _, _, _, _, (19, AV.p (ii (IntKind.i64.wrap ((k : Int) + 1))))]) rfl ?_
              show _ = [_, _, _, _, (6, AV.p (.bool (bestN gs j (k + 1)))), _, _, _, _, _, (19, AV.p (ii ((k + 1 : Nat) : Int)))]
              rw [ek, hbs] <;> rfl
    · have hc2 : ¬ (k : Int) < ((gs.map Gt.pv).length : Nat) := of_decide_eq_false hc2
      have : k = gs.length := by omega
      subst this
      show Br (bestB gs j) _ _
      cases hb : bestB gs j with
      | false =>
        rw [hb, if_neg (by decide)] at htk
        refine Br.f rfl ?_
        refine ⟨j + 1, hj1, by show gs.length - (j + 1) < gs.length - j; omega, (show 0 ≤ 0 by decide), Trim.mk' ?_ rfl rfl rfl (Nat.zero_le _)⟩
        refine Eq.trans (b := [_, (3, .p (gsP out)), _, _, (12, AV.p (ii (IntKind.i64.wrap ((j : Int) + 1))))]) rfl ?_
        rw [ej, ← htk]; rfl
      | true =>
        rw [hb, if_pos rfl] at htk
        refine Br.t rfl ?_
        have hple := insP_le out gs[j] out.length
        refine LoopX.fam [0, 3, 5, 9, 10, 11, 12] (fun (i : Nat) => ([(0, .p (gsP gs)), (3, .p (gsP out)), (5, .ref 0 0), (9, .p (ii (i : Nat))), (10, .p (gsP gs)), (11, .p (ii (gs.map Gt.pv).length)), (12, .p (ii (j : Nat)))], [gC gs[j]]))
          (fun i => i ≤ out.length ∧ insP out gs[j] i = insP out gs[j] out.length) (fun i => i) out.length ⟨Nat.le_refl _, rfl⟩ (Trim.mk' (by
            refine Eq.trans (b := [_, _, _, (9, AV.p (ii ((out.map Gt.pv).length : Nat))), _, _, _]) rfl ?_
            rw [hom]; rfl) rfl rfl rfl (Nat.le_refl _)) ?_
        rintro i ⟨hi, hip⟩
        have hi : i ≤ out.length := hi
        have hip : insP out gs[j] i = insP out gs[j] out.length := hip
        cases i with
        | zero =>
          repeat (first
            | refine ⟨_, ⟨rfl, rfl⟩, ?_⟩
            | refine Br.f rfl ?_
            | refine ⟨_, Br.f rfl ⟨rfl, rfl⟩, ?_⟩
            | refine Chk.mk (by kernel_rfl) ?_)
          have hfin : 0 = insP out gs[j] out.length := hip
          obtain ⟨i, hi0⟩ : ∃ i : Nat, 0 = i := ⟨0, rfl⟩
          rw [hi0] at hfin hi
          have ci : ((0 : Nat) : Int) = ((i : Nat) : Int) := by rw [hi0]
          rw [show (AV.p (ii ((0 : Nat) : Int))) = AV.p (ii ((i : Nat) : Int)) by rw [ci]]
          clear hip ci
          have hip : i = insP out gs[j] out.length := hfin
          have htk2 : isort (bests gs (j + 1)) = out.take i ++ gs[j] :: out.drop i := by rw [htk, hip]; rfl
          clear htk
          have b1 : 0 ≤ (0 : Int) ∧ 0 ≤ ((i : Nat) : Int) ∧ ((i : Nat) : Int) ≤ (((out.map Gt.pv).length : Nat) : Int) := ⟨Int.le_refl _, Int.natCast_nonneg _, by omega⟩
          have b2 : 0 ≤ ((i : Nat) : Int) ∧ ((i : Nat) : Int) ≤ (((out.map Gt.pv).length : Nat) : Int) := ⟨Int.natCast_nonneg _, by omega⟩
          obtain ⟨T, hT⟩ : ∃ T, T = (((out.map Gt.pv).take ((i : Nat) : Int).toNat).drop (0 : Int).toNat) := ⟨_, rfl⟩
          obtain ⟨E, hE⟩ : ∃ E, E = (out.map Gt.pv).drop ((i : Nat) : Int).toNat := ⟨_, rfl⟩
          have tt : T = (out.take i).map Gt.pv := by rw [hT, Int.toNat_natCast, List.map_take]; rfl
          have te : E = (out.drop i).map Gt.pv := by rw [hE, Int.toNat_natCast, List.map_drop]
          have tl : T.length ≤ 1000000000 := by rw [tt, List.length_map, List.length_take]; omega
          have el : E.length ≤ 1000000000 := by rw [te, List.length_map, List.length_drop]; omega
          by_cases hd0 : i = 0
          · have he : T = [] := by rw [tt, hd0]; rfl
            have hX : [PV.agg [ii gs[j].off, ii gs[j].prod, PV.str gs[j].key, PV.str gs[j].val]] ++ E = (isort (bests gs (j + 1))).map Gt.pv := by rw [htk2, te, hd0]; rfl
            have l3 : (1 + E.length) * 48 ≤ 140737488355328 := by omega
            rw [hE] at hX l3
            rw [hT] at he
            clear hlm hom htk2 hT hE tt te tl el hip hfin hple
            repeat' (first
              | refine Chk.mk (by kernel_rfl) ?_
              | (apply Br.t; · (first | rfl | (simp only [*] <;> rfl)))
              | (apply Br.f; · (first | rfl | (simp only [*] <;> rfl)))
              | refine ⟨_, ⟨rfl, rfl⟩, ?_⟩
              | refine ⟨_, _, ⟨rfl, rfl⟩, rfl, ?_⟩
              | refine ⟨_, Ob.mk b1 ⟨rfl, rfl⟩, ?_⟩
              | refine ⟨_, Ob.mk b2 ⟨rfl, rfl⟩, ?_⟩
              | refine ⟨_, _, BrL.mk (fun _ => ⟨rfl, rfl⟩) (fun hne => absurd he hne), rfl, ?_⟩
              | refine ⟨_, _, BrL.c (Ob.mk (show (0 + 1) * 48 ≤ 140737488355328 by decide) ⟨rfl, rfl⟩), rfl, ?_⟩
              | refine ⟨_, _, Ob.mk ⟨rfl, rfl, rfl, l3⟩ ⟨rfl, rfl⟩, rfl, ?_⟩
              | refine ⟨_, Ob.mk (by decide) ⟨rfl, rfl⟩, ?_⟩
              | (refine ⟨_, Br.t ?_ ⟨rfl, rfl⟩, ?_⟩; · (first | rfl | (simp only [*] <;> rfl)))
              | (refine ⟨_, Br.f ?_ ⟨rfl, rfl⟩, ?_⟩; · (first | rfl | (simp only [*] <;> rfl)))
              | refine ⟨_, _, Ob.mk (okst rfl rfl rfl) ⟨rfl, rfl⟩, rfl, ?_⟩
              | refine Ob.mk (okst rfl rfl rfl) ?_
              | refine Ob.mk (by decide) ?_
              | refine Br.mkT (fun c => ?_) (fun c => ?_)
              | refine Br.mkF (fun c => ?_) (fun c => ?_)
              | refine Br.mk (fun c => ?_) (fun c => ?_))
            refine ⟨j + 1, hj1, by show gs.length - (j + 1) < gs.length - j; omega, (show 0 ≤ 0 by decide), Trim.fz [3] (Ob.mk rfl (TrimO.mk' ?_ rfl rfl rfl (Nat.zero_le _)))⟩
            refine Eq.trans (b := [_, (3, AV.p (.sl .shr 4 (([PV.agg [ii gs[j].off, ii gs[j].prod, PV.str gs[j].key, PV.str gs[j].val]] ++ (out.map Gt.pv).drop ((i : Nat) : Int).toNat).drop 0 |>.take ([PV.agg [ii gs[j].off, ii gs[j].prod, PV.str gs[j].key, PV.str gs[j].val]] ++ (out.map Gt.pv).drop ((i : Nat) : Int).toNat).length))), _, _, (12, AV.p (ii (IntKind.i64.wrap ((j : Int) + 1))))]) rfl ?_
            rw [cut_all (xs := [PV.agg [ii gs[j].off, ii gs[j].prod, PV.str gs[j].key, PV.str gs[j].val]] ++ (out.map Gt.pv).drop ((i : Nat) : Int).toNat), hX, ej]; rfl
          · have hne : T ≠ [] := by
              rw [tt]; intro e
              have := congrArg List.length e
              rw [List.length_map, List.length_take] at this
              have h0 : min i out.length = 0 := this
              omega
            have hX : [] ++ T ++ [PV.agg [ii gs[j].off, ii gs[j].prod, PV.str gs[j].key, PV.str gs[j].val]] ++ E = (isort (bests gs (j + 1))).map Gt.pv := by rw [htk2, te, tt]; show [] ++ _ ++ [gs[j].pv] ++ _ = _; simp
            have l1 : (0 + T.length) * 48 ≤ 140737488355328 := by omega
            have l2 : (([] ++ T).length + 1) * 48 ≤ 140737488355328 := by rw [List.nil_append]; omega
            have l3 : (([] ++ T ++ [gs[j].pv]).length + E.length) * 48 ≤ 140737488355328 := by
              have h1 : ([gs[j].pv] : List PV).length = 1 := rfl
              rw [List.length_append, List.nil_append, h1]; omega
            rw [hT, hE] at hX l3
            rw [hT] at hne l1 l2
            clear hlm hom htk2 hT hE tt te tl el hip hfin hple
            repeat' (first
              | refine Chk.mk (by kernel_rfl) ?_
              | (apply Br.t; · (first | rfl | (simp only [*] <;> rfl)))
              | (apply Br.f; · (first | rfl | (simp only [*] <;> rfl)))
              | refine ⟨_, ⟨rfl, rfl⟩, ?_⟩
              | refine ⟨_, _, ⟨rfl, rfl⟩, rfl, ?_⟩
              | refine ⟨_, Ob.mk b1 ⟨rfl, rfl⟩, ?_⟩
              | refine ⟨_, Ob.mk b2 ⟨rfl, rfl⟩, ?_⟩
              | refine ⟨_, _, BrL.mk (fun he => absurd he hne) (fun _ => Ob.mk l1 ⟨rfl, rfl⟩), rfl, ?_⟩
              | refine ⟨_, _, Ob.mk ⟨rfl, rfl, rfl, l2⟩ ⟨rfl, rfl⟩, rfl, ?_⟩
              | refine ⟨_, _, Ob.mk ⟨rfl, rfl, rfl, l3⟩ ⟨rfl, rfl⟩, rfl, ?_⟩
              | refine ⟨_, Ob.mk (by decide) ⟨rfl, rfl⟩, ?_⟩
              | (refine ⟨_, Br.t ?_ ⟨rfl, rfl⟩, ?_⟩; · (first | rfl | (simp only [*] <;> rfl)))
              | (refine ⟨_, Br.f ?_ ⟨rfl, rfl⟩, ?_⟩; · (first | rfl | (simp only [*] <;> rfl)))
              | refine ⟨_, _, Ob.mk (okst rfl rfl rfl) ⟨rfl, rfl⟩, rfl, ?_⟩
              | refine Ob.mk (okst rfl rfl rfl) ?_
              | refine Ob.mk (by decide) ?_
              | refine Br.mkT (fun c => ?_) (fun c => ?_)
              | refine Br.mkF (fun c => ?_) (fun c => ?_)
              | refine Br.mk (fun c => ?_) (fun c => ?_))
            refine ⟨j + 1, hj1, by show gs.length - (j + 1) < gs.length - j; omega, (show 0 ≤ 0 by decide), Trim.fz [3] (Ob.mk rfl (TrimO.mk' ?_ rfl rfl rfl (Nat.zero_le _)))⟩
            refine Eq.trans (b := [_, (3, AV.p (.sl .shr 4 (([] ++ (((out.map Gt.pv).take ((i : Nat) : Int).toNat).drop (0 : Int).toNat) ++ [PV.agg [ii gs[j].off, ii gs[j].prod, PV.str gs[j].key, PV.str gs[j].val]] ++ (out.map Gt.pv).drop ((i : Nat) : Int).toNat).drop 0 |>.take ([] ++ (((out.map Gt.pv).take ((i : Nat) : Int).toNat).drop (0 : Int).toNat) ++ [PV.agg [ii gs[j].off, ii gs[j].prod, PV.str gs[j].key, PV.str gs[j].val]] ++ (out.map Gt.pv).drop ((i : Nat) : Int).toNat).length))), _, _, (12, AV.p (ii (IntKind.i64.wrap ((j : Int) + 1))))]) rfl ?_
            rw [cut_all (xs := [] ++ (((out.map Gt.pv).take ((i : Nat) : Int).toNat).drop (0 : Int).toNat) ++ [PV.agg [ii gs[j].off, ii gs[j].prod, PV.str gs[j].key, PV.str gs[j].val]] ++ (out.map Gt.pv).drop ((i : Nat) : Int).toNat), hX, ej]; rfl
        | succ n =>
          have hio : n < out.length := by omega
          have en : IntKind.i64.wrap (((n + 1 : Nat) : Int) - 1) = ((n : Nat) : Int) := by rw [wrap_i64] <;> omega
          have c0 : decide (((n + 1 : Nat) : Int) > 0) = true := decide_eq_true (by omega)
          have b0 : (0 : Int) ≤ IntKind.i64.wrap (((n + 1 : Nat) : Int) - 1) := by rw [en]; exact Int.natCast_nonneg _
          have g1 : (out.map Gt.pv)[(IntKind.i64.wrap (((n + 1 : Nat) : Int) - 1)).toNat]? = some out[n].pv := by rw [en, Int.toNat_natCast, List.getElem?_map, List.getElem?_eq_getElem hio]; rfl
          have hstep : insP out gs[j] (n + 1) = if out[n].off > gs[j].off then insP out gs[j] n else n + 1 := by
            show (if (out.getD n ⟨0, 0, [], []⟩).off > gs[j].off then _ else _) = _
            rw [getD_G hio]
          cases hlt : decide (out[n].off > gs[j].off) with
          | true =>
            rw [if_pos (of_decide_eq_true hlt)] at hstep
            repeat (first
              | refine ⟨_, ⟨rfl, rfl⟩, ?_⟩
              | refine Br.t c0 ?_
              | refine Br.t (congrArg (· == true) c0) ?_
              | refine ⟨_, Br.t c0 ⟨rfl, rfl⟩, ?_⟩
              | refine ⟨_, Idx.mk _ b0 g1 ⟨rfl, rfl⟩, ?_⟩
              | refine Br.t hlt ?_
              | refine Chk.mk (by kernel_rfl) ?_)
            refine ⟨n, ⟨by show n ≤ out.length; omega, by show insP out gs[j] n = _; rw [← hip, hstep]⟩, Nat.lt_succ_self _, Nat.le_refl _, Trim.mk' ?_ rfl rfl rfl (Nat.le_refl _)⟩
            refine Eq.trans (b := [_, _, _, (9, AV.p (ii (IntKind.i64.wrap (((n + 1 : Nat) : Int) - 1)))), _, _, _]) rfl ?_
            rw [en]; rfl
          | false =>
            rw [if_neg (of_decide_eq_false hlt)] at hstep
            have hfin : n + 1 = insP out gs[j] out.length := by rw [← hip, hstep]
            repeat (first
              | refine ⟨_, ⟨rfl, rfl⟩, ?_⟩
              | refine Br.t c0 ?_
              | refine Br.t (congrArg (· == true) c0) ?_
              | refine ⟨_, Br.t c0 ⟨rfl, rfl⟩, ?_⟩
              | refine ⟨_, Idx.mk _ b0 g1 ⟨rfl, rfl⟩, ?_⟩
              | refine Br.f hlt ?_
              | refine Chk.mk (by kernel_rfl) ?_)
            clear hip hstep en c0 b0 g1 hlt
            generalize n + 1 = i at hi hfin ⊢
            have hip : i = insP out gs[j] out.length := hfin
            have htk2 : isort (bests gs (j + 1)) = out.take i ++ gs[j] :: out.drop i := by rw [htk, hip]; rfl
            clear htk
            have b1 : 0 ≤ (0 : Int) ∧ 0 ≤ ((i : Nat) : Int) ∧ ((i : Nat) : Int) ≤ (((out.map Gt.pv).length : Nat) : Int) := ⟨Int.le_refl _, Int.natCast_nonneg _, by omega⟩
            have b2 : 0 ≤ ((i : Nat) : Int) ∧ ((i : Nat) : Int) ≤ (((out.map Gt.pv).length : Nat) : Int) := ⟨Int.natCast_nonneg _, by omega⟩
            obtain ⟨T, hT⟩ : ∃ T, T = (((out.map Gt.pv).take ((i : Nat) : Int).toNat).drop (0 : Int).toNat) := ⟨_, rfl⟩
            obtain ⟨E, hE⟩ : ∃ E, E = (out.map Gt.pv).drop ((i : Nat) : Int).toNat := ⟨_, rfl⟩
            have tt : T = (out.take i).map Gt.pv := by rw [hT, Int.toNat_natCast, List.map_take]; rfl
            have te : E = (out.drop i).map Gt.pv := by rw [hE, Int.toNat_natCast, List.map_drop]
            have tl : T.length ≤ 1000000000 := by rw [tt, List.length_map, List.length_take]; omega
            have el : E.length ≤ 1000000000 := by rw [te, List.length_map, List.length_drop]; omega
            by_cases hd0 : i = 0
            · have he : T = [] := by rw [tt, hd0]; rfl
              have hX : [PV.agg [ii gs[j].off, ii gs[j].prod, PV.str gs[j].key, PV.str gs[j].val]] ++ E = (isort (bests gs (j + 1))).map Gt.pv := by rw [htk2, te, hd0]; rfl
              have l3 : (1 + E.length) * 48 ≤ 140737488355328 := by omega
              rw [hE] at hX l3
              rw [hT] at he
              clear hlm hom htk2 hT hE tt te tl el hip hfin hple
              repeat' (first
                | refine Chk.mk (by kernel_rfl) ?_
                | (apply Br.t; · (first | rfl | (simp only [*] <;> rfl)))
                | (apply Br.f; · (first | rfl | (simp only [*] <;> rfl)))
                | refine ⟨_, ⟨rfl, rfl⟩, ?_⟩
                | refine ⟨_, _, ⟨rfl, rfl⟩, rfl, ?_⟩
                | refine ⟨_, Ob.mk b1 ⟨rfl, rfl⟩, ?_⟩
                | refine ⟨_, Ob.mk b2 ⟨rfl, rfl⟩, ?_⟩
                | refine ⟨_, _, BrL.mk (fun _ => ⟨rfl, rfl⟩) (fun hne => absurd he hne), rfl, ?_⟩
                | refine ⟨_, _, BrL.c (Ob.mk (show (0 + 1) * 48 ≤ 140737488355328 by decide) ⟨rfl, rfl⟩), rfl, ?_⟩
                | refine ⟨_, _, Ob.mk ⟨rfl, rfl, rfl, l3⟩ ⟨rfl, rfl⟩, rfl, ?_⟩
                | refine ⟨_, Ob.mk (by decide) ⟨rfl, rfl⟩, ?_⟩
                | (refine ⟨_, Br.t ?_ ⟨rfl, rfl⟩, ?_⟩; · (first | rfl | (simp only [*] <;> rfl)))
                | (refine ⟨_, Br.f ?_ ⟨rfl, rfl⟩, ?_⟩; · (first | rfl | (simp only [*] <;> rfl)))
                | refine ⟨_, _, Ob.mk (okst rfl rfl rfl) ⟨rfl, rfl⟩, rfl, ?_⟩
                | refine Ob.mk (okst rfl rfl rfl) ?_
                | refine Ob.mk (by decide) ?_
                | refine Br.mkT (fun c => ?_) (fun c => ?_)
                | refine Br.mkF (fun c => ?_) (fun c => ?_)
                | refine Br.mk (fun c => ?_) (fun c => ?_))
              refine ⟨j + 1, hj1, by show gs.length - (j + 1) < gs.length - j; omega, (show 0 ≤ 0 by decide), Trim.fz [3] (Ob.mk rfl (TrimO.mk' ?_ rfl rfl rfl (Nat.zero_le _)))⟩
              refine Eq.trans (b := [_, (3, AV.p (.sl .shr 4 (([PV.agg [ii gs[j].off, ii gs[j].prod, PV.str gs[j].key, PV.str gs[j].val]] ++ (out.map Gt.pv).drop ((i : Nat) : Int).toNat).drop 0 |>.take ([PV.agg [ii gs[j].off, ii gs[j].prod, PV.str gs[j].key, PV.str gs[j].val]] ++ (out.map Gt.pv).drop ((i : Nat) : Int).toNat).length))), _, _, (12, AV.p (ii (IntKind.i64.wrap ((j : Int) + 1))))]) rfl ?_
              rw [cut_all (xs := [PV.agg [ii gs[j].off, ii gs[j].prod, PV.str gs[j].key, PV.str gs[j].val]] ++ (out.map Gt.pv).drop ((i : Nat) : Int).toNat), hX, ej]; rfl
            · have hne : T ≠ [] := by
                rw [tt]; intro e
                have := congrArg List.length e
                rw [List.length_map, List.length_take] at this
                have h0 : min i out.length = 0 := this
                omega
              have hX : [] ++ T ++ [PV.agg [ii gs[j].off, ii gs[j].prod, PV.str gs[j].key, PV.str gs[j].val]] ++ E = (isort (bests gs (j + 1))).map Gt.pv := by rw [htk2, te, tt]; show [] ++ _ ++ [gs[j].pv] ++ _ = _; simp
              have l1 : (0 + T.length) * 48 ≤ 140737488355328 := by omega
              have l2 : (([] ++ T).length + 1) * 48 ≤ 140737488355328 := by rw [List.nil_append]; omega
              have l3 : (([] ++ T ++ [gs[j].pv]).length + E.length) * 48 ≤ 140737488355328 := by
                have h1 : ([gs[j].pv] : List PV).length = 1 := rfl
                rw [List.length_append, List.nil_append, h1]; omega
              rw [hT, hE] at hX l3
              rw [hT] at hne l1 l2
              clear hlm hom htk2 hT hE tt te tl el hip hfin hple
              repeat' (first
                | refine Chk.mk (by kernel_rfl) ?_
                | (apply Br.t; · (first | rfl | (simp only [*] <;> rfl)))
                | (apply Br.f; · (first | rfl | (simp only [*] <;> rfl)))
                | refine ⟨_, ⟨rfl, rfl⟩, ?_⟩
                | refine ⟨_, _, ⟨rfl, rfl⟩, rfl, ?_⟩
                | refine ⟨_, Ob.mk b1 ⟨rfl, rfl⟩, ?_⟩
                | refine ⟨_, Ob.mk b2 ⟨rfl, rfl⟩, ?_⟩
                | refine ⟨_, _, BrL.mk (fun he => absurd he hne) (fun _ => Ob.mk l1 ⟨rfl, rfl⟩), rfl, ?_⟩
                | refine ⟨_, _, Ob.mk ⟨rfl, rfl, rfl, l2⟩ ⟨rfl, rfl⟩, rfl, ?_⟩
                | refine ⟨_, _, Ob.mk ⟨rfl, rfl, rfl, l3⟩ ⟨rfl, rfl⟩, rfl, ?_⟩
                | refine ⟨_, Ob.mk (by decide) ⟨rfl, rfl⟩, ?_⟩
                | (refine ⟨_, Br.t ?_ ⟨rfl, rfl⟩, ?_⟩; · (first | rfl | (simp only [*] <;> rfl)))
                | (refine ⟨_, Br.f ?_ ⟨rfl, rfl⟩, ?_⟩; · (first | rfl | (simp only [*] <;> rfl)))
                | refine ⟨_, _, Ob.mk (okst rfl rfl rfl) ⟨rfl, rfl⟩, rfl, ?_⟩
                | refine Ob.mk (okst rfl rfl rfl) ?_
                | refine Ob.mk (by decide) ?_
                | refine Br.mkT (fun c => ?_) (fun c => ?_)
                | refine Br.mkF (fun c => ?_) (fun c => ?_)
                | refine Br.mk (fun c => ?_) (fun c => ?_))
              refine ⟨j + 1, hj1, by show gs.length - (j + 1) < gs.length - j; omega, (show 0 ≤ 0 by decide), Trim.fz [3] (Ob.mk rfl (TrimO.mk' ?_ rfl rfl rfl (Nat.zero_le _)))⟩
              refine Eq.trans (b := [_, (3, AV.p (.sl .shr 4 (([] ++ (((out.map Gt.pv).take ((i : Nat) : Int).toNat).drop (0 : Int).toNat) ++ [PV.agg [ii gs[j].off, ii gs[j].prod, PV.str gs[j].key, PV.str gs[j].val]] ++ (out.map Gt.pv).drop ((i : Nat) : Int).toNat).drop 0 |>.take ([] ++ (((out.map Gt.pv).take ((i : Nat) : Int).toNat).drop (0 : Int).toNat) ++ [PV.agg [ii gs[j].off, ii gs[j].prod, PV.str gs[j].key, PV.str gs[j].val]] ++ (out.map Gt.pv).drop ((i : Nat) : Int).toNat).length))), _, _, (12, AV.p (ii (IntKind.i64.wrap ((j : Int) + 1))))]) rfl ?_
              rw [cut_all (xs := [] ++ (((out.map Gt.pv).take ((i : Nat) : Int).toNat).drop (0 : Int).toNat) ++ [PV.agg [ii gs[j].off, ii gs[j].prod, PV.str gs[j].key, PV.str gs[j].val]] ++ (out.map Gt.pv).drop ((i : Nat) : Int).toNat), hX, ej]; rfl
  · have hc : ¬ (j : Int) < ((gs.map Gt.pv).length : Nat) := of_decide_eq_false hc
    have : j = gs.length := by omega
    subst this
    exact h
end Go.Proofs.YtlnelaajlhfabaaGreat.AW

open Go Go.Proofs.YtlnelaajlhfabaaGreat.AW Go.Proofs
namespace Go.Proofs.YtlnelaajlhfabaaGreat.AW
set_option maxRecDepth 100000
set_option linter.unusedSimpArgs false
set_option linter.unusedVariables false

/-! ### The two tell the same -/
theorem gots_c (r : List Gt) (hr : r.length ≤ 1000000000) (s : Store) (K : AV → Store → Prop) (h : K (.p (.bool true)) s) : Cal Tryz.prog 81 [.p (gsP r), .p (gsP r)] s K := by
  refine Cal.pure (args := [gsP r, gsP r]) ?_
  refine Cal.intro Tryz.func81 (by decide +kernel) rfl rfl ?_
  have q1 := bne_s
  repeat' (first
    | (apply Br.t; · (first | rfl | (simp only [*] <;> rfl)))
    | (apply Br.f; · (first | rfl | (simp only [*] <;> rfl)))
    | refine Ob.mk (okst rfl rfl rfl) ?_
    | refine Br.mkT (fun c => ?_) (fun c => ?_)
    | refine Br.mkF (fun c => ?_) (fun c => ?_)
    | refine Br.mk (fun c => ?_) (fun c => ?_))
  have hl := gsL r
  refine LoopX.fam [0, 1, 12, 13] (fun (j : Nat) => ([(0, .p (gsP r)), (1, .p (gsP r)), (12, .p (ii (r.map Gt.pv).length)), (13, .p (ii (j : Nat)))], []))
    (fun j => j ≤ r.length) (fun j => r.length - j) 0 (Nat.zero_le _) (Trim.mk' rfl rfl rfl rfl (Nat.le_refl _)) ?_
  intro j hj
  have hj : j ≤ r.length := hj
  refine Br.mk (fun hc => ?_) (fun hc => ?_)
  · have hc : (j : Int) < ((r.map Gt.pv).length : Nat) := of_decide_eq_true hc
    have hj1 : j < r.length := by omega
    have ej : IntKind.i64.wrap ((j : Int) + 1) = ((j + 1 : Nat) : Int) := by rw [wrap_i64] <;> omega
    have q2 : ∀ x : List UInt8, (x == x) = true := fun x => by simp
    have q3 : ∀ x : Int, (x == x) = true := fun x => by simp
    have hg := getG hj1
    repeat' (first
      | refine Chk.mk (by kernel_rfl) ?_
      | (apply Br.t; · (first | rfl | (simp only [*] <;> rfl)))
      | (apply Br.f; · (first | rfl | (simp only [*] <;> rfl)))
      | refine ⟨_, ⟨rfl, rfl⟩, ?_⟩
      | refine ⟨_, _, ⟨rfl, rfl⟩, rfl, ?_⟩
      | refine ⟨_, Idx.mk r[j].pv (Int.natCast_nonneg _) hg ⟨rfl, rfl⟩, ?_⟩
      | refine ⟨_, Ob.mk ⟨by decide +kernel, by decide +kernel⟩ ⟨rfl, rfl⟩, ?_⟩
      | refine ⟨_, Ob.mk (by decide) ⟨rfl, rfl⟩, ?_⟩
      | (refine ⟨_, Br.t ?_ ⟨rfl, rfl⟩, ?_⟩; · (first | rfl | (simp only [*] <;> rfl)))
      | (refine ⟨_, Br.f ?_ ⟨rfl, rfl⟩, ?_⟩; · (first | rfl | (simp only [*] <;> rfl)))
      | refine ⟨_, _, Ob.mk (okst rfl rfl rfl) ⟨rfl, rfl⟩, rfl, ?_⟩
      | refine Ob.mk (okst rfl rfl rfl) ?_
      | refine Ob.mk (by decide) ?_
      | refine Br.mkT (fun c => ?_) (fun c => ?_)
      | refine Br.mkF (fun c => ?_) (fun c => ?_)
      | refine Br.mk (fun c => ?_) (fun c => ?_))
    refine ⟨j + 1, by show j + 1 ≤ r.length; omega, by show r.length - (j + 1) < r.length - j; omega, Nat.le_refl _, Trim.mk' ?_ rfl rfl rfl (Nat.le_refl _)⟩
    refine Eq.trans (b := [_, _, _, (13, AV.p (ii (IntKind.i64.wrap ((j : Int) + 1))))]) rfl ?_
    rw [ej]; rfl
  · exact h
theorem gotsC_c (r : List Gt) (hr : r.length ≤ 1000000000) (s : Store) (K : AV → Store → Prop) (h : K (.p (.bool true)) s) : Cal Tryz.prog 81 [.p (gsC r), .p (gsP r)] s K :=
  Cal.argsD (args' := [.p (gsP r), .p (gsP r)]) (gots_c r hr s K h) ⟨.inr ⟨_, _, rfl, rfl, wk_gsC r⟩, .inl rfl, trivial⟩
theorem sameS_c (r : List Tx) (hr : r.length ≤ 1000000000) (s : Store) (K : AV → Store → Prop) (h : K (.p (.bool true)) s) : Cal Tryz.prog 79 [.p (txP r), .p (txP r)] s K := by
  refine Cal.pure (args := [txP r, txP r]) ?_
  refine Cal.intro Tryz.func79 (by decide +kernel) rfl rfl ?_
  have q1 := bne_s
  repeat' (first
    | (apply Br.t; · (first | rfl | (simp only [*] <;> rfl)))
    | (apply Br.f; · (first | rfl | (simp only [*] <;> rfl)))
    | refine Ob.mk (okst rfl rfl rfl) ?_
    | refine Br.mkT (fun c => ?_) (fun c => ?_)
    | refine Br.mkF (fun c => ?_) (fun c => ?_)
    | refine Br.mk (fun c => ?_) (fun c => ?_))
  have hl := txpL r
  refine LoopX.fam [0, 1, 5] (fun (j : Nat) => ([(0, .p (txP r)), (1, .p (txP r)), (5, .p (ii (j : Nat)))], []))
    (fun j => j ≤ r.length) (fun j => r.length - j) 0 (Nat.zero_le _) (Trim.mk' rfl rfl rfl rfl (Nat.le_refl _)) ?_
  intro j hj
  have hj : j ≤ r.length := hj
  refine Br.mk (fun hc => ?_) (fun hc => ?_)
  · have hc : (j : Int) < ((r.map PV.str).length : Nat) := of_decide_eq_true hc
    have hj1 : j < r.length := by omega
    have ej : IntKind.i64.wrap ((j : Int) + 1) = ((j + 1 : Nat) : Int) := by rw [wrap_i64] <;> omega
    have q2 : ∀ x : List UInt8, (x == x) = true := fun x => by simp
    have hg : (r.map PV.str)[((j : Nat) : Int).toNat]? = some (.str r[j]) := by rw [Int.toNat_natCast]; simp [hj1]
    repeat' (first
      | refine Chk.mk (by kernel_rfl) ?_
      | (apply Br.t; · (first | rfl | (simp only [*] <;> rfl)))
      | (apply Br.f; · (first | rfl | (simp only [*] <;> rfl)))
      | refine ⟨_, ⟨rfl, rfl⟩, ?_⟩
      | refine ⟨_, _, ⟨rfl, rfl⟩, rfl, ?_⟩
      | refine ⟨_, Idx.mk (.str r[j]) (Int.natCast_nonneg _) hg ⟨rfl, rfl⟩, ?_⟩
      | refine ⟨_, Ob.mk (by decide) ⟨rfl, rfl⟩, ?_⟩
      | (refine ⟨_, Br.t ?_ ⟨rfl, rfl⟩, ?_⟩; · (first | rfl | (simp only [*] <;> rfl)))
      | (refine ⟨_, Br.f ?_ ⟨rfl, rfl⟩, ?_⟩; · (first | rfl | (simp only [*] <;> rfl)))
      | refine ⟨_, _, Ob.mk (okst rfl rfl rfl) ⟨rfl, rfl⟩, rfl, ?_⟩
      | refine Ob.mk (okst rfl rfl rfl) ?_
      | refine Ob.mk (by decide) ?_
      | refine Br.mkT (fun c => ?_) (fun c => ?_)
      | refine Br.mkF (fun c => ?_) (fun c => ?_)
      | refine Br.mk (fun c => ?_) (fun c => ?_))
    refine ⟨j + 1, by show j + 1 ≤ r.length; omega, by show r.length - (j + 1) < r.length - j; omega, Nat.le_refl _, Trim.mk' ?_ rfl rfl rfl (Nat.le_refl _)⟩
    refine Eq.trans (b := [_, _, (5, AV.p (ii (IntKind.i64.wrap ((j : Int) + 1))))]) rfl ?_
    rw [ej]; rfl
  · exact h
/-- What is asked of records: few last ones, keys told apart by their runes. -/
structure SameOk (gs : List Gt) : Prop where
  len : gs.length ≤ 1000000000
  few : (bests gs gs.length).length ≤ 20
  good : GoodK (gs.map Gt.key)
  short : ∀ g, g ∈ gs → g.key.length < 1099511627776
set_option maxHeartbeats 16000000 in
theorem same_c (gs : List Gt) (ho : SameOk gs) (s : Store) (K : AV → Store → Prop) (h : K (.p (.bool true)) s) : Cal Tryz.prog 28 [.p (gsP gs)] s K := by
  refine Cal.pure (args := [gsP gs]) ?_
  refine Cal.intro Tryz.func28 (by decide +kernel) rfl rfl ?_
  obtain ⟨hg, h20, hgd, hsh⟩ := ho
  have hkl := keysL_len gs
  have hil : (isort (bests gs gs.length)).length ≤ 1000000000 := by rw [isort_len]; omega
  have hbl := byL_len gs
  refine by2_c gs hg _ _ ?_
  refine by1_c gs hg _ _ ?_
  generalize byL gs = B at hbl ⊢
  have q1 := bne_s
  repeat' (first
    | (apply Br.t; · (first | rfl | (simp only [*] <;> rfl)))
    | (apply Br.f; · (first | rfl | (simp only [*] <;> rfl)))
    | refine Ob.mk (okst rfl rfl rfl) ?_
    | refine keys2_c gs hg hgd hsh _ _ ?_
    | refine keys1_c gs hg hsh _ _ ?_
    | refine sameS_c _ (by omega) _ _ ?_
    | refine lastG2_c gs hg h20 _ _ ?_
    | refine lastG1_c gs hg _ _ ?_
    | refine gotsC_c _ hil _ _ ?_
    | refine Br.mkT (fun c => ?_) (fun c => ?_)
    | refine Br.mkF (fun c => ?_) (fun c => ?_)
    | refine Br.mk (fun c => ?_) (fun c => ?_))
  have hl : (B.map pnP).length = B.length := List.length_map ..
  refine LoopX.fam [3, 4, 32, 33] (fun (j : Nat) => ([(3, .p (pnsC B)), (4, .p (pnsP B)), (32, .p (ii (B.map pnP).length)), (33, .p (ii (j : Nat)))], []))
    (fun j => j ≤ B.length) (fun j => B.length - j) 0 (Nat.zero_le _) (Trim.mk' rfl rfl rfl rfl (Nat.le_refl _)) ?_
  intro j hj
  have hj : j ≤ B.length := hj
  refine Br.mk (fun hc => ?_) (fun hc => ?_)
  · have hc : (j : Int) < ((B.map pnP).length : Nat) := of_decide_eq_true hc
    have hj1 : j < B.length := by omega
    have ej : IntKind.i64.wrap ((j : Int) + 1) = ((j + 1 : Nat) : Int) := by rw [wrap_i64] <;> omega
    have q3 : ∀ x : Int, (x == x) = true := fun x => by simp
    have hgt : (B.map pnP)[((j : Nat) : Int).toNat]? = some (pnP B[j]) := by rw [Int.toNat_natCast]; simp [hj1]
    clear q1 hl
    repeat' (first
      | refine Chk.mk (by kernel_rfl) ?_
      | (apply Br.t; · (first | rfl | (simp only [*] <;> rfl)))
      | (apply Br.f; · (first | rfl | (simp only [*] <;> rfl)))
      | refine ⟨_, ⟨rfl, rfl⟩, ?_⟩
      | refine ⟨_, _, ⟨rfl, rfl⟩, rfl, ?_⟩
      | refine ⟨_, Idx.mk (pnP B[j]) (Int.natCast_nonneg _) hgt ⟨rfl, rfl⟩, ?_⟩
      | refine ⟨_, Ob.mk (by decide +kernel) ⟨rfl, rfl⟩, ?_⟩
      | refine ⟨_, Ob.mk (by decide) ⟨rfl, rfl⟩, ?_⟩
      | (refine ⟨_, Br.t ?_ ⟨rfl, rfl⟩, ?_⟩; · (first | rfl | (simp only [*] <;> rfl)))
      | (refine ⟨_, Br.f ?_ ⟨rfl, rfl⟩, ?_⟩; · (first | rfl | (simp only [*] <;> rfl)))
      | refine ⟨_, _, Ob.mk (okst rfl rfl rfl) ⟨rfl, rfl⟩, rfl, ?_⟩
      | refine Ob.mk (okst rfl rfl rfl) ?_
      | refine Ob.mk (by decide) ?_
      | refine Br.mkT (fun c => ?_) (fun c => ?_)
      | refine Br.mkF (fun c => ?_) (fun c => ?_)
      | refine Br.mk (fun c => ?_) (fun c => ?_))
    refine ⟨j + 1, by show j + 1 ≤ B.length; omega, by show B.length - (j + 1) < B.length - j; omega, Nat.le_refl _, Trim.mk' ?_ rfl rfl rfl (Nat.le_refl _)⟩
    refine Eq.trans (b := [_, _, _, (33, AV.p (ii (IntKind.i64.wrap ((j : Int) + 1))))]) rfl ?_
    rw [ej]; rfl
  · exact h
end Go.Proofs.YtlnelaajlhfabaaGreat.AW

open Go Go.Proofs.YtlnelaajlhfabaaGreat.AW Go.Proofs
namespace Go.Proofs.YtlnelaajlhfabaaGreat.AW
set_option linter.unusedSimpArgs false
set_option linter.unusedVariables false

/-! ### Records of a tape's row: few keys -/
theorem txL_good : ∀ a, a ∈ txL → ∀ b, b ∈ txL → rns a = rns b → a = b := by decide +kernel
theorem row_keys {st fr to : Int} {L : List Bt} (h : RowOk st L) : ∀ g, g ∈ gts fr to L → g.key ∈ txL := by
  intro g hg
  obtain ⟨b, hb, hgb⟩ := List.mem_flatMap.1 hg
  obtain ⟨k, hk, rfl, _⟩ := gtsN_mem hgb
  have ht := (h.tiny b hb).2 b.recs[k] (List.getElem_mem hk)
  show (b.recs.getD k ([], [])).1 ∈ txL
  rw [List.getD_eq_getElem?_getD, List.getElem?_eq_getElem hk]
  exact ht.2.2
theorem later_tot {l : List Gt} {i k : Nat} (hik : i < k) (hk : (at' l i).key = (at' l k).key) : laterB l i k = true ∨ laterB l k i = true := by
  unfold laterB
  rw [hk]
  by_cases h : (at' l k).off ≥ (at' l i).off
  · left; simp; omega
  · right; simp; omega
theorem best_not {l : List Gt} {i k : Nat} (hk : k < l.length) (h : laterB l i k = true) : bestB l i = false := by
  unfold bestB bestN
  rw [Bool.not_eq_false', List.any_eq_true]
  exact ⟨k, List.mem_range.2 hk, h⟩
theorem bests_nodup (l : List Gt) {n : Nat} (hn : n ≤ l.length) : ((bests l n).map Gt.key).Nodup := by
  unfold bests
  rw [List.map_map]
  refine List.pairwise_map.2 ?_
  refine List.Pairwise.imp_of_mem (R := fun i k => i < k) (fun {i k} hi hk hik e => ?_) (List.Pairwise.filter _ List.pairwise_lt_range)
  obtain ⟨hi1, hi2⟩ := List.mem_filter.1 hi
  obtain ⟨hk1, hk2⟩ := List.mem_filter.1 hk
  have hi1 := List.mem_range.1 hi1
  have hk1 := List.mem_range.1 hk1
  rcases later_tot (l := l) hik e with q | q
  · rw [best_not (by omega) q] at hi2; cases hi2
  · rw [best_not (by omega) q] at hk2; cases hk2
theorem bests_key {l : List Gt} {n : Nat} (hn : n ≤ l.length) {S : List Tx} (h : ∀ g, g ∈ l → g.key ∈ S) : ∀ x, x ∈ (bests l n).map Gt.key → x ∈ S := by
  intro x hx
  obtain ⟨g, hg, rfl⟩ := List.mem_map.1 hx
  obtain ⟨i, hi, rfl⟩ := List.mem_map.1 hg
  have hi1 := List.mem_range.1 (List.mem_filter.1 hi).1
  have : at' l i ∈ l := by
    unfold at'; rw [List.getD_eq_getElem?_getD, List.getElem?_eq_getElem (by omega)]; exact List.getElem_mem _
  exact h _ this
theorem bests_few {l : List Gt} {S : List Tx} (h : ∀ g, g ∈ l → g.key ∈ S) : (bests l l.length).length ≤ S.length := by
  have := List.Nodup.length_le_of_subset (bests_nodup l (Nat.le_refl _)) (bests_key (Nat.le_refl _) h)
  rwa [List.length_map] at this
theorem good_sub {S T : List Tx} (hS : GoodK S) (h : ∀ x, x ∈ T → x ∈ S) : GoodK T := fun a ha b hb => hS a (h a ha) b (h b hb)
theorem upper_inj {a b : Tx} (h : rns (upper a) = rns (upper b)) : upper a = upper b := by
  rw [rns_upper, rns_upper] at h
  unfold upper; rw [h]
theorem and16 (n : Int) : 0 ≤ bits .and .i64 n 65535 ∧ bits .and .i64 n 65535 ≤ 65535 := by
  have e : bits .and .i64 n 65535 = IntKind.i64.wrap (((BitVec.ofInt 64 n &&& BitVec.ofInt 64 65535).toNat : Nat) : Int) := rfl
  have h : (BitVec.ofInt 64 n &&& BitVec.ofInt 64 65535).toNat ≤ 65535 := by
    rw [BitVec.toNat_and]
    exact Nat.le_trans Nat.and_le_right (by decide)
  rw [e, wrap_i64] <;> omega
/-- Every key has one last record: as many as there are keys. -/
theorem bests_keys {gs : List Gt} (hg : GoodK (gs.map Gt.key)) : (bests gs gs.length).length = (keysL gs).length := by
  obtain ⟨k1, k2⟩ := keysL_inv hg gs fun g hm => List.mem_map_of_mem hm
  have hnd : (keysL gs).Nodup := List.Pairwise.imp (fun {a b} h e => by rw [e] at h; exact less_self b h) k1
  refine Nat.le_antisymm ?_ ?_
  · have := List.Nodup.length_le_of_subset (bests_nodup gs (Nat.le_refl _)) (bests_key (S := keysL gs) (Nat.le_refl _) fun g hm => (k2 _).2 ⟨g, hm, rfl⟩)
    rwa [List.length_map] at this
  · have hsub : ∀ x, x ∈ keysL gs → x ∈ (bests gs gs.length).map Gt.key := fun x hx => by
      obtain ⟨g, hm, rfl⟩ := (k2 x).1 hx
      obtain ⟨i, hi, rfl⟩ := List.mem_iff_getElem.1 hm
      have hat : at' gs i = gs[i] := by unfold at'; rw [List.getD_eq_getElem?_getD, List.getElem?_eq_getElem hi]; rfl
      have h := lstN_get gs gs.length gs[i].key
      cases hl : aGet (lstN gs gs.length).1 gs[i].key with
      | none => rw [hl] at h; exact absurd (by rw [hat]) (h i hi)
      | some w =>
        rw [hl] at h
        obtain ⟨a1, a2, a3, a4⟩ := h
        obtain ⟨v, hv1, hv2⟩ := best_iff gs a2
        rw [a3, hl] at hv1
        cases hv1
        have hb : bestB gs w.toNat = true := by rw [← hv2]; exact decide_eq_true (by omega)
        exact List.mem_map.2 ⟨at' gs w.toNat, List.mem_map.2 ⟨w.toNat, List.mem_filter.2 ⟨List.mem_range.2 a2, hb⟩, rfl⟩, a3⟩
    have := List.Nodup.length_le_of_subset hnd hsub
    rwa [List.length_map] at this
/-- Sorted ones stay. -/
theorem insP_last {out : List Gt} {g : Gt} (h : ∀ x, x ∈ out → x.off ≤ g.off) : insP out g out.length = out.length := by
  cases hl : out.length with
  | zero => rfl
  | succ n =>
    have hn : n < out.length := by omega
    show (if (out.getD n ⟨0, 0, [], []⟩).off > g.off then _ else _) = _
    rw [List.getD_eq_getElem?_getD, List.getElem?_eq_getElem hn]
    have := h out[n] (List.getElem_mem hn)
    rw [if_neg]
    show ¬ (out[n].off > g.off); omega
theorem isort_id : ∀ gs : List Gt, gs.Pairwise (fun a b => a.off < b.off) → isort gs = gs := by
  intro gs
  rw [← List.reverse_reverse gs]
  induction gs.reverse with
  | nil => exact fun _ => rfl
  | cons g r ih =>
    rw [List.reverse_cons]
    intro h
    rw [List.pairwise_append] at h
    rw [isort_snoc, ih h.1]
    unfold insG
    rw [insP_last fun x hx => by have := h.2.2 x hx g (by simp); omega, List.take_length, List.drop_length]
theorem bests_pair {gs : List Gt} (h : gs.Pairwise fun a b => a.off < b.off) : ∀ n, n ≤ gs.length → (bests gs n).Pairwise fun a b => a.off < b.off := by
  intro n hn
  unfold bests
  refine List.pairwise_map.2 ?_
  refine List.Pairwise.imp_of_mem (R := fun i k => i < k) (fun {i k} hi hk hik => ?_) (List.Pairwise.filter _ List.pairwise_lt_range)
  have hk1 := List.mem_range.1 (List.mem_filter.1 hk).1
  unfold at'
  rw [List.getD_eq_getElem?_getD, List.getD_eq_getElem?_getD, List.getElem?_eq_getElem (by omega), List.getElem?_eq_getElem (by omega)]
  exact List.pairwise_iff_getElem.1 h i k (by omega) (by omega) hik
theorem gts_pair {st fr to : Int} {L : List Bt} (h : RowC st L) : (gts fr to L).Pairwise fun a b => a.off < b.off := by
  induction h with
  | nil => exact .nil
  | snoc L b h h1 h2 h3 ih =>
    rw [gts_snoc]
    refine List.pairwise_append.2 ⟨ih, ?_, fun x hx y hy => ?_⟩
    · have : ∀ i, i ≤ b.recs.length → (gtsN fr to b i).Pairwise fun a b => a.off < b.off := by
        intro i
        induction i with
        | zero => exact fun _ => .nil
        | succ i ih2 =>
          intro hi
          unfold gtsN
          refine List.pairwise_append.2 ⟨ih2 (by omega), ?_, fun x hx y hy => ?_⟩
          · split
            · exact List.pairwise_singleton _ _
            · exact .nil
          · obtain ⟨k, hk, rfl, _⟩ := gtsN_mem hx
            split at hy
            · rw [List.mem_singleton.1 hy, gtAt_off h2 (by omega), gtAt_off h2 (by omega)]; omega
            · cases hy
      exact this _ (Nat.le_refl _)
    · obtain ⟨c, hc, hxc⟩ := List.mem_flatMap.1 hx
      obtain ⟨k, hk, rfl, hko⟩ := gtsN_mem hxc
      obtain ⟨m, hm, rfl, _⟩ := gtsN_mem hy
      have hcr := h.right c hc
      rw [gtAt_off hcr hk, gtAt_off h2 hm, h1]
      have hce : endB c ≤ endW st L := by
        clear hx hxc hy ih h1 h2 h3
        induction h with
        | nil => cases hc
        | snoc L d h h1 h2 h3 ih =>
          rw [endW_snoc]
          rcases List.mem_append.1 hc with hc | hc
          · have := ih hc
            have := right_end h2; have := right_cnt h2
            omega
          · rw [List.mem_singleton.1 hc]; exact Int.le_refl _
      have he := right_end hcr
      have hcm : c.mark = 0 := by unfold gtOk at hko; simp at hko; exact hko.1
      have : cntV c = c.recs.length := by unfold cntV; rw [hcm]; rfl
      omega
end Go.Proofs.YtlnelaajlhfabaaGreat.AW

open Go Go.Proofs.YtlnelaajlhfabaaGreat.AW Go.Proofs
namespace Go.Proofs.YtlnelaajlhfabaaGreat.AW
set_option maxRecDepth 100000
set_option linter.unusedSimpArgs false
set_option linter.unusedVariables false

/-! ### Tapes, runs of chapter 25 -/
theorem tape25_c (n : Int) (s : Store) (K : AV → Store → Prop) (h : ∀ t : List Int, t.length ≤ 400 → K (.p (kl t)) s) : Cal Tryz.prog 24 [.p (ii n)] s K := by
  refine Cal.pure (args := [ii n]) ?_
  refine Cal.intro Tryz.func24 (by decide +kernel) rfl rfl ?_
  refine LoopX.famW [0, 3, 4] (fun (q : List Int × Nat) => ([(0, .p (ii n)), (3, .osl 0 (q.1.map ii).length 0 (q.1.map ii).length), (4, .p (ii (q.2 : Nat)))], [some (.buf 1 (q.1.map ii))]))
    (fun q => q.1.length ≤ q.2 ∧ q.2 ≤ 400) (fun q => 400 - q.2) ([], 0) ⟨Nat.le_refl _, Nat.zero_le _⟩ (by show 0 ≤ 1; decide) (Trim.wk 0 [(1, none)] rfl (by show 0 ≤ 0; decide) (.inr rfl) rfl rfl rfl rfl rfl ⟨.inl rfl, .own 0 rfl rfl, .inl rfl, trivial⟩) ?_
  rintro ⟨l, i⟩ ⟨hl, hi⟩
  have hl : l.length ≤ i := hl
  have hi : i ≤ 400 := hi
  refine Br.mk (fun hc => ?_) (fun hc => ?_)
  · have hc : (i : Int) < 400 := of_decide_eq_true hc
    have ei : IntKind.i64.wrap ((i : Int) + 1) = ((i + 1 : Nat) : Int) := by rw [wrap_i64] <;> omega
    refine Ob.mk (by decide) ?_
    refine Ob.mk ⟨rfl, rfl, rfl, ?_⟩ ?_
    · show ((l.map ii).length + 1) * 8 ≤ _
      rw [List.length_map]; omega
    · refine ⟨(l ++ [(Int.tmod (IntKind.i64.wrap (IntKind.i64.wrap (IntKind.i64.wrap (IntKind.i64.wrap ((i : Int) * (i : Int)) * 7) + IntKind.i64.wrap (n * 89)) + IntKind.i64.wrap ((i : Int) * n))) 211)], i + 1), ⟨by show (l ++ [(Int.tmod (IntKind.i64.wrap (IntKind.i64.wrap (IntKind.i64.wrap (IntKind.i64.wrap ((i : Int) * (i : Int)) * 7) + IntKind.i64.wrap (n * 89)) + IntKind.i64.wrap ((i : Int) * n))) 211)]).length ≤ i + 1; rw [List.length_append]; show l.length + 1 ≤ _; omega, by show i + 1 ≤ 400; omega⟩, by show 400 - (i + 1) < 400 - i; omega, (by show (0 : Nat) ≤ 1; decide), Trim.mk' ?_ ?_ rfl rfl (by show (1 : Nat) ≤ 1; decide)⟩
      · refine Eq.trans (b := [_, (3, AV.osl 0 ((l.map ii) ++ [ii (Int.tmod (IntKind.i64.wrap (IntKind.i64.wrap (IntKind.i64.wrap (IntKind.i64.wrap ((i : Int) * (i : Int)) * 7) + IntKind.i64.wrap (n * 89)) + IntKind.i64.wrap ((i : Int) * n))) 211)]).length 0 ((l.map ii) ++ [ii (Int.tmod (IntKind.i64.wrap (IntKind.i64.wrap (IntKind.i64.wrap (IntKind.i64.wrap ((i : Int) * (i : Int)) * 7) + IntKind.i64.wrap (n * 89)) + IntKind.i64.wrap ((i : Int) * n))) 211)]).length), (4, AV.p (ii (IntKind.i64.wrap ((i : Int) + 1))))]) rfl ?_
        rw [ei, List.map_append]; rfl
      · show [some (AObj.buf 1 ((l.map ii) ++ [ii (Int.tmod (IntKind.i64.wrap (IntKind.i64.wrap (IntKind.i64.wrap (IntKind.i64.wrap ((i : Int) * (i : Int)) * 7) + IntKind.i64.wrap (n * 89)) + IntKind.i64.wrap ((i : Int) * n))) 211)]) none)] = _
        rw [List.map_append]; rfl
  · refine Ob.mk rfl ?_
    have := h l (by omega)
    show K (.p (.sl .shr 1 (((l.map ii).drop 0).take (l.map ii).length))) s
    rw [List.drop_zero, List.take_length]; exact this

def n1 : Gt := ⟨4, 1, [98], []⟩
def n2 : Gt := ⟨2, 1, [97], []⟩
def n3 : Gt := ⟨9, 0, [98], [120]⟩
theorem n_ok : SameOk [n1, n2, n3] := ⟨by decide, by decide +kernel, by unfold GoodK; decide +kernel, by decide⟩
theorem n_last : isort (bests [n1, n2, n3] [n1, n2, n3].length) = [n2, n3] := by decide +kernel
theorem n_by : byL [n1, n2, n3] = [(0, 1), (1, 2)] := by decide +kernel
theorem n_keys : keysL [n1, n2, n3] = [[97], [98]] := by decide +kernel
theorem of0_c (s : Store) (K : AV → Store → Prop) (h : K (.p (tlP 0 0 0 0 0 0 0)) s) : Cal Tryz.prog 26 [.p (ii 0), .p (.sl .nil 0 [])] s K :=
  Cal.argsD (args' := [.p (ii 0), .p (rowP [])]) (of_c (st := 0) [] (by decide) .nil s K h) ⟨.inl rfl, .inr ⟨_, _, rfl, rfl, .nil 0 .shr 7⟩, trivial⟩
theorem wk_n : WkD (.sl .clip 4 [n1.pv, n2.pv, n3.pv]) (gsP [n1, n2, n3]) := .sl _ _ _ _ rfl (fun y hy => by
  simp only [List.mem_cons, List.map_cons, List.map_nil, List.not_mem_nil, or_false] at hy
  rcases hy with rfl | rfl | rfl <;> exact ⟨rfl, rfl⟩) (wkds_refl _)
set_option maxHeartbeats 8000000 in
theorem known25_c (s : Store) (K : AV → Store → Prop) (h : K (.p (.bool true)) s) : Cal Tryz.prog 29 [] s K := by
  refine Cal.pure (args := []) ?_
  refine Cal.intro Tryz.func29 (by decide +kernel) rfl rfl ?_
  have hl := fun s K => lastG2_c [n1, n2, n3] n_ok.len n_ok.few s K
  have hb := fun s K => by2_c [n1, n2, n3] n_ok.len s K
  have hk := fun s K => keys2_c [n1, n2, n3] n_ok.len n_ok.good n_ok.short s K
  rw [n_last] at hl
  rw [n_by] at hb
  rw [n_keys] at hk
  have wk : WkL [.p (.sl .clip 4 [n1.pv, n2.pv, n3.pv])] [.p (gsP [n1, n2, n3])] := ⟨.inr ⟨_, _, rfl, rfl, wk_n⟩, trivial⟩
  try refine Or.inl ?_
  refine Cal.argsD (args' := [.p (gsP [n1, n2, n3])]) (hl _ _ ?_) wk
  refine Cal.argsD (args' := [.p (gsP [n1, n2, n3])]) (hb _ _ ?_) wk
  refine of0_c _ _ ?_
  refine Ob.mk ⟨by decide +kernel, by decide +kernel⟩ ?_
  have ws : WkL [.p (txP [[97], [98]]), .p (.sl .clip 1 [.str [97], .str [98]])] [.p (txP [[97], [98]]), .p (txP [[97], [98]])] := ⟨.inl rfl, .inr ⟨_, _, rfl, rfl, .sl _ _ _ _ rfl (fun y hy => by
    simp only [List.mem_cons, List.map_cons, List.map_nil, List.not_mem_nil, or_false] at hy
    rcases hy with rfl | rfl <;> exact ⟨rfl, rfl⟩) (wkds_refl _)⟩, trivial⟩
  repeat' (first
    | (apply Br.t; · (first | rfl | (simp only [*] <;> rfl)))
    | (apply Br.f; · (first | rfl | (simp only [*] <;> rfl)))
    | refine Ob.mk (okst rfl rfl rfl) ?_
    | refine Cal.argsD (args' := [.p (gsP [n1, n2, n3])]) (hk _ _ ?_) wk
    | refine Or.inl ?_
    | refine Cal.argsD (args' := [.p (txP [[97], [98]]), .p (txP [[97], [98]])]) (sameS_c _ (by decide) _ _ ?_) ws
    | refine Idx.mk _ (by decide) rfl ?_
    | refine Ob.mk (by decide +kernel) ?_
    | refine Br.mkT (fun c => ?_) (fun c => ?_)
    | refine Br.mkF (fun c => ?_) (fun c => ?_)
    | refine Br.mk (fun c => ?_) (fun c => ?_))
  exact h
end Go.Proofs.YtlnelaajlhfabaaGreat.AW

open Go Go.Proofs.YtlnelaajlhfabaaGreat.AW Go.Proofs
namespace Go.Proofs.YtlnelaajlhfabaaGreat.AW
set_option maxRecDepth 100000
set_option linter.unusedSimpArgs false
set_option linter.unusedVariables false

/-! ### LedgerNumbers, LedgerTells -/
theorem sameOk_of {gs : List Gt} (hl : gs.length ≤ 1000000000) (hk : ∀ g, g ∈ gs → g.key ∈ txL) : SameOk gs := by
  refine ⟨hl, Nat.le_trans (bests_few hk) (by decide), good_sub txL_good fun x hx => ?_, fun g hg => ?_⟩
  · obtain ⟨g, hg, rfl⟩ := List.mem_map.1 hx
    exact hk g hg
  · have : ∀ x, x ∈ txL → x.length < 1099511627776 := by decide
    exact this _ (hk g hg)
theorem row_len {st fr to : Int} {L : List Bt} (h : RowOk st L) : (gts fr to L).length ≤ L.length * 4 := gts_le fun b hb => (h.tiny b hb).1
set_option maxHeartbeats 16000000 in
theorem lnumbers_c (s : Store) (K : AV → Store → Prop) (h : K (.p (.bool true)) s) : Cal Tryz.prog 5 [] s K := by
  refine Cal.pure (args := []) ?_
  refine Cal.intro Tryz.func5 (by decide +kernel) rfl rfl ?_
  refine LoopX.fam [1] (fun (k : Nat) => ([(1, .p (ii (k : Nat)))], [])) (fun k => k ≤ 40) (fun k => 40 - k) 0 (Nat.zero_le _) (Trim.mk' rfl rfl rfl rfl (Nat.le_refl _)) ?_
  intro k hk
  have hk : k ≤ 40 := hk
  refine Br.mk (fun hc => ?_) (fun hc => ?_)
  · have hc : (k : Int) < 40 := of_decide_eq_true hc
    have ek : IntKind.i64.wrap ((k : Int) + 1) = ((k + 1 : Nat) : Int) := by rw [wrap_i64] <;> omega
    refine tape25_c _ _ _ fun t ht => ?_
    refine row_c t 2 25 (by omega) (by decide) _ _ fun L hL hlen => ?_
    have hb3 : ∀ b, b ∈ L → b.recs.length ≤ 300 := fun b hm => by have := (hL.tiny b hm).1; omega
    refine drecs_c 0 1099511627776 L (by omega) hb3 _ _ ?_
    have hgl := row_len (fr := 0) (to := 1099511627776) hL
    have hgk := row_keys (fr := 0) (to := 1099511627776) hL
    have hof := fun s K => of_c (st := 2) L (by omega) hL.c s K
    have hta := fun s K => tally_c (st := 2) L (by omega) (by decide) hL.c s K
    obtain ⟨T, hT⟩ : ∃ T, T = tlP (mkN 0 L) (recN L) (szN L) (mkN 1 L) (mkN 2 L) (opN (dFold L).1) ((gts 2 (endW 2 L) L).countP (bad (dFold L).2)) := ⟨_, rfl⟩
    unfold tlP at hT hof hta
    generalize gts 0 1099511627776 L = G at hgl hgk ⊢
    have hs1 := same_c G (sameOk_of (by omega) hgk)
    have hs2 := same_c (G ++ G) (sameOk_of (by rw [List.length_append]; omega) fun g hg => by
      rcases List.mem_append.1 hg with q | q <;> exact hgk g q)
    have q1 := bne_s
    have q3 : ∀ x : Int, (x == x) = true := fun x => by simp
    have hGl := gsL G
    clear hT T
    by_cases hG : G = []
    · subst hG
      clear hgk hgl hGl hb3
      repeat' (first
        | (apply Br.t; · (first | rfl | (simp only [*] <;> rfl)))
        | (apply Br.f; · (first | rfl | (simp only [*] <;> rfl)))
        | refine Ob.mk (okst rfl rfl rfl) ?_
        | refine hof _ _ ?_
        | refine hta _ _ ?_
        | refine Ob.mk ⟨by decide +kernel, by decide +kernel⟩ ?_
        | refine hs1 _ _ ?_
        | refine Or.inl ?_
        | refine BrL.n ?_
        | refine Cal.argsD (args' := [.p (gsP [])]) (hs1 _ _ ?_) ⟨.inr ⟨_, _, rfl, rfl, .sl .clip 4 _ _ rfl (fun y hy => by cases hy) .nil⟩, trivial⟩
        | refine Br.mkT (fun c => ?_) (fun c => ?_)
        | refine Br.mkF (fun c => ?_) (fun c => ?_)
        | refine Br.mk (fun c => ?_) (fun c => ?_))
      refine ⟨k + 1, by show k + 1 ≤ 40; omega, by show 40 - (k + 1) < 40 - k; omega, Nat.le_refl _, Trim.mk' ?_ rfl rfl rfl (Nat.zero_le _)⟩
      refine Eq.trans (b := [(1, AV.p (ii (IntKind.i64.wrap ((k : Int) + 1))))]) rfl ?_
      rw [ek]
    · have hne : G.map Gt.pv ≠ [] := fun e => hG (List.map_eq_nil_iff.1 e)
      have l1 : (0 + (G.map Gt.pv).length) * 48 ≤ 140737488355328 := by omega
      have l2 : (([] ++ G.map Gt.pv).length + (G.map Gt.pv).length) * 48 ≤ 140737488355328 := by rw [List.nil_append]; omega
      have hfz : [PV.sl .shr 4 (((([] ++ G.map Gt.pv) ++ G.map Gt.pv).drop 0).take (([] ++ G.map Gt.pv) ++ G.map Gt.pv).length)] = [gsP (G ++ G)] := by
        rw [cut_all, List.nil_append]; unfold gsP; rw [List.map_append]
      clear hgk hgl hGl hb3
      repeat' (first
        | (apply Br.t; · (first | rfl | (simp only [*] <;> rfl)))
        | (apply Br.f; · (first | rfl | (simp only [*] <;> rfl)))
        | refine Ob.mk (okst rfl rfl rfl) ?_
        | refine hof _ _ ?_
        | refine hta _ _ ?_
        | refine Ob.mk ⟨by decide +kernel, by decide +kernel⟩ ?_
        | refine hs1 _ _ ?_
        | refine Or.inl ?_
        | refine BrL.mk (fun he => absurd he hne) (fun _ => ?_)
        | refine Ob.mk l1 ?_
        | refine Ob.mk ⟨rfl, rfl, rfl, l2⟩ ?_
        | refine Cal.lend (ps := [gsP (G ++ G)]) (Ob.mk rfl hfz) (hs2 [] _ rfl) rfl ?_
        | refine Br.mkT (fun c => ?_) (fun c => ?_)
        | refine Br.mkF (fun c => ?_) (fun c => ?_)
        | refine Br.mk (fun c => ?_) (fun c => ?_))
      refine ⟨k + 1, by show k + 1 ≤ 40; omega, by show 40 - (k + 1) < 40 - k; omega, Nat.le_refl _, Trim.mk' ?_ rfl rfl rfl (Nat.zero_le _)⟩
      refine Eq.trans (b := [(1, AV.p (ii (IntKind.i64.wrap ((k : Int) + 1))))]) rfl ?_
      rw [ek]
  · refine known25_c _ _ ?_
    exact h
def upG (g : Gt) : Gt := ⟨g.off, g.prod, upper g.key, g.val⟩
theorem plain_ok' {R : List Gt} (hl : R.length ≤ 20) (hs : ∀ g, g ∈ R → g.key.length ≤ 1073741824) : SameOk (R.map upG) := by
  refine ⟨by rw [List.length_map]; omega, Nat.le_trans (bests_le _ _) (by rw [List.length_map]; exact hl), fun a ha b hb e => ?_, fun g hg => ?_⟩
  · obtain ⟨x, hx, rfl⟩ := List.mem_map.1 ha
    obtain ⟨x', hx', rfl⟩ := List.mem_map.1 hx
    obtain ⟨y, hy, rfl⟩ := List.mem_map.1 hb
    obtain ⟨y', hy', rfl⟩ := List.mem_map.1 hy
    exact upper_inj e
  · obtain ⟨x, hx, rfl⟩ := List.mem_map.1 hg
    have h1 := hs x hx
    have h2 := encs_len ((rns x.key).map up)
    have h3 := rns_le x.key
    show (encs ((rns x.key).map up)).length < _
    rw [List.length_map] at h2; omega
theorem upG_take {R : List Gt} {j : Nat} (hj : j < R.length) : (R.take (j + 1)).map upG = (R.take j).map upG ++ [upG R[j]] := by rw [take_succ' hj, List.map_append]; rfl
set_option maxHeartbeats 16000000 in
theorem ltells_c (t : List Int) (ht : t.length ≤ 9223372036854775807) (n : Int) (R : List Gt) (hRl : R.length ≤ 1000000000) (hRs : ∀ g, g ∈ R → g.key.length ≤ 1073741824) (s : Store) (K : AV → Store → Prop) (h : K (.p (.bool true)) s) : Cal Tryz.prog 6 [.p (kl t), .p (ii n), .p (gsP R)] s K := by
  refine Cal.pure (args := [kl t, ii n, gsP R]) ?_
  refine Cal.intro Tryz.func6 (by decide +kernel) rfl rfl ?_
  obtain ⟨hn0, hn1⟩ := and16 n
  refine row_c t (bits .and .i64 n 65535) 25 ht (by decide) _ _ fun L hL hlen => ?_
  have hb3 : ∀ b, b ∈ L → b.recs.length ≤ 300 := fun b hm => by have := (hL.tiny b hm).1; omega
  obtain ⟨n0, hn⟩ : ∃ n0, n0 = bits .and .i64 n 65535 := ⟨_, rfl⟩
  rw [← hn] at hn0 hn1 hL
  have main : ∀ (R' : List Gt), R'.length ≤ 20 → (∀ g, g ∈ R' → g.key.length ≤ 1073741824) → True := fun _ _ _ => trivial
  have hgl := row_len (fr := n0) (to := 1099511627776) hL
  have hgk := row_keys (fr := n0) (to := 1099511627776) hL
  have hof := fun s K => of_c (st := n0) L (by omega) hL.c s K
  have hta := fun s K => tally_c (st := n0) L (by omega) hn0 hL.c s K
  unfold tlP at hof hta
  have hre := fun s K => drecs_c n0 1099511627776 L (by omega) hb3 s K
  rw [hn] at hof hta hre
  have hs1 := same_c (gts n0 1099511627776 L) (sameOk_of (by omega) hgk)
  rw [hn] at hs1
  have q1 := bne_s
  have q3 : ∀ x : Int, (x == x) = true := fun x => by simp
  have hRm := gsL R
  clear hn hgk hgl hb3 main
  by_cases h20 : R.length > 20
  · have c1 : decide ((((R.map Gt.pv).length : Nat) : Int) > 20) = true := decide_eq_true (by omega)
    have hT20 : (R.take 20).length ≤ 20 := by rw [List.length_take]; omega
    have hcut : (((R.map Gt.pv).take (20 : Int).toNat).drop (0 : Int).toNat) = (R.take 20).map Gt.pv := by rw [List.map_take]; rfl
    refine Br.t c1 ?_
    refine Ob.mk ⟨Int.le_refl _, by decide, by omega⟩ ?_
    refine LoopX.famW [7, 8, 9, 22, 23, 24] (fun (j : Nat) => ([(7, .p (ii (bits .and .i64 n 65535))), (8, .p (rowP L)), (9, .osl 0 ((((R.take 20).take j).map upG).map Gt.pv).length 0 ((((R.take 20).take j).map upG).map Gt.pv).length), (22, .p (gsP (R.take 20))), (23, .p (ii ((R.take 20).map Gt.pv).length)), (24, .p (ii (j : Nat)))], [some (.buf 4 ((((R.take 20).take j).map upG).map Gt.pv))]))
      (fun j => j ≤ (R.take 20).length) (fun j => (R.take 20).length - j) 0 (Nat.zero_le _) (by show 0 ≤ 1; decide) (Trim.wk 0 [(4, none)] rfl (by show 0 ≤ 0; decide) (.inr rfl) rfl rfl rfl rfl rfl ⟨.inl rfl, .inl rfl, .own 0 rfl rfl, .inl (by show AV.p (.sl _ 4 _) = _; rw [hcut]; rfl), .inl (by show AV.p (ii _) = _; rw [hcut]), .inl rfl, trivial⟩) ?_
    intro j hj
    have hj : j ≤ (R.take 20).length := hj
    have hpm := gsL (R.take 20)
    refine Br.mk (fun hc => ?_) (fun hc => ?_)
    · have hc : (j : Int) < (((R.take 20).map Gt.pv).length : Nat) := of_decide_eq_true hc
      have hj1 : j < (R.take 20).length := by omega
      have ej : IntKind.i64.wrap ((j : Int) + 1) = ((j + 1 : Nat) : Int) := by rw [wrap_i64] <;> omega
      have htk := upG_take hj1
      have hkl := hRs _ (List.mem_of_mem_take (List.getElem_mem hj1))
      have hll : ((((R.take 20).take j).map upG).map Gt.pv).length ≤ 20 := by rw [List.length_map, List.length_map, List.length_take]; omega
      refine Idx.mk _ (Int.natCast_nonneg _) (getG hj1) ?_
      refine Ob.mk (okst rfl rfl rfl) ?_
      refine upper2_c _ (by omega) _ _ ?_
      refine Ob.mk (okst rfl rfl rfl) ?_
      refine Ob.mk ⟨rfl, rfl, rfl, (show (((((R.take 20).take j).map upG).map Gt.pv).length + 1) * 48 ≤ 140737488355328 by omega)⟩ ?_
      refine ⟨j + 1, hj1, by show (R.take 20).length - (j + 1) < (R.take 20).length - j; omega, (show 0 ≤ 1 by decide), Trim.mk' ?_ ?_ rfl rfl (by show (1 : Nat) ≤ 2; decide)⟩
      · refine Eq.trans (b := [_, _, (9, .osl 0 ((((R.take 20).take j).map upG).map Gt.pv ++ [(upG (R.take 20)[j]).pv]).length 0 ((((R.take 20).take j).map upG).map Gt.pv ++ [(upG (R.take 20)[j]).pv]).length), _, _, (24, AV.p (ii (IntKind.i64.wrap ((j : Int) + 1))))]) rfl ?_
        rw [ej, htk, List.map_append]; rfl
      · show [some (AObj.buf 4 ((((R.take 20).take j).map upG).map Gt.pv ++ [(upG (R.take 20)[j]).pv]) none)] = _
        rw [htk, List.map_append]; rfl
    · have hc : ¬ (j : Int) < (((R.take 20).map Gt.pv).length : Nat) := of_decide_eq_false hc
      have : j = (R.take 20).length := by omega
      subst this
      rw [List.take_length]
      have hs2 := same_c ((R.take 20).map upG) (plain_ok' (by omega) fun g hg => hRs g (List.mem_of_mem_take hg))
      have hfz : [PV.sl .shr 4 ((((((R.take 20).map upG).map Gt.pv).drop 0).take (((R.take 20).map upG).map Gt.pv).length))] = [gsP ((R.take 20).map upG)] := by rw [cut_all]; rfl
      clear hpm hRm hRs
      repeat' (first
        | (apply Br.t; · (first | rfl | (simp only [*] <;> rfl)))
        | (apply Br.f; · (first | rfl | (simp only [*] <;> rfl)))
        | refine Ob.mk (okst rfl rfl rfl) ?_
        | refine hof _ _ ?_
        | refine hta _ _ ?_
        | refine Ob.mk ⟨by decide +kernel, by decide +kernel⟩ ?_
        | refine hre _ _ ?_
        | refine hs1 _ _ ?_
        | refine Cal.lend (ps := [gsP ((R.take 20).map upG)]) (Ob.mk rfl hfz) (hs2 [] _ rfl) rfl ?_
        | refine known25_c _ _ ?_
        | refine Br.mkT (fun c => ?_) (fun c => ?_)
        | refine Br.mkF (fun c => ?_) (fun c => ?_)
        | refine Br.mk (fun c => ?_) (fun c => ?_))
      exact h
  · have c1 : decide ((((R.map Gt.pv).length : Nat) : Int) > 20) = false := decide_eq_false (by omega)
    refine Br.f c1 ?_
    refine LoopX.famW [7, 8, 9, 22, 23, 24] (fun (j : Nat) => ([(7, .p (ii (bits .and .i64 n 65535))), (8, .p (rowP L)), (9, .osl 0 (((R.take j).map upG).map Gt.pv).length 0 (((R.take j).map upG).map Gt.pv).length), (22, .p (gsP R)), (23, .p (ii (R.map Gt.pv).length)), (24, .p (ii (j : Nat)))], [some (.buf 4 (((R.take j).map upG).map Gt.pv))]))
      (fun j => j ≤ R.length) (fun j => R.length - j) 0 (Nat.zero_le _) (by show 0 ≤ 1; decide) (Trim.wk 0 [(4, none)] rfl (by show 0 ≤ 0; decide) (.inr rfl) rfl rfl rfl rfl rfl ⟨.inl rfl, .inl rfl, .own 0 rfl rfl, .inl rfl, .inl rfl, .inl rfl, trivial⟩) ?_
    intro j hj
    have hj : j ≤ R.length := hj
    have hpm := gsL R
    refine Br.mk (fun hc => ?_) (fun hc => ?_)
    · have hc : (j : Int) < ((R.map Gt.pv).length : Nat) := of_decide_eq_true hc
      have hj1 : j < R.length := by omega
      have ej : IntKind.i64.wrap ((j : Int) + 1) = ((j + 1 : Nat) : Int) := by rw [wrap_i64] <;> omega
      have htk := upG_take hj1
      have hkl := hRs _ (List.getElem_mem hj1)
      have hll : (((R.take j).map upG).map Gt.pv).length ≤ 20 := by rw [List.length_map, List.length_map, List.length_take]; omega
      refine Idx.mk _ (Int.natCast_nonneg _) (getG hj1) ?_
      refine Ob.mk (okst rfl rfl rfl) ?_
      refine upper2_c _ (by omega) _ _ ?_
      refine Ob.mk (okst rfl rfl rfl) ?_
      refine Ob.mk ⟨rfl, rfl, rfl, (show ((((R.take j).map upG).map Gt.pv).length + 1) * 48 ≤ 140737488355328 by omega)⟩ ?_
      refine ⟨j + 1, hj1, by show R.length - (j + 1) < R.length - j; omega, (show 0 ≤ 1 by decide), Trim.mk' ?_ ?_ rfl rfl (by show (1 : Nat) ≤ 2; decide)⟩
      · refine Eq.trans (b := [_, _, (9, .osl 0 (((R.take j).map upG).map Gt.pv ++ [(upG R[j]).pv]).length 0 (((R.take j).map upG).map Gt.pv ++ [(upG R[j]).pv]).length), _, _, (24, AV.p (ii (IntKind.i64.wrap ((j : Int) + 1))))]) rfl ?_
        rw [ej, htk, List.map_append]; rfl
      · show [some (AObj.buf 4 (((R.take j).map upG).map Gt.pv ++ [(upG R[j]).pv]) none)] = _
        rw [htk, List.map_append]; rfl
    · have hc : ¬ (j : Int) < ((R.map Gt.pv).length : Nat) := of_decide_eq_false hc
      have : j = R.length := by omega
      subst this
      rw [List.take_length]
      have hs2 := same_c (R.map upG) (plain_ok' (by omega) fun g hg => hRs g (hg))
      have hfz : [PV.sl .shr 4 (((((R.map upG).map Gt.pv).drop 0).take ((R.map upG).map Gt.pv).length))] = [gsP (R.map upG)] := by rw [cut_all]; rfl
      clear hpm hRm hRs
      repeat' (first
        | (apply Br.t; · (first | rfl | (simp only [*] <;> rfl)))
        | (apply Br.f; · (first | rfl | (simp only [*] <;> rfl)))
        | refine Ob.mk (okst rfl rfl rfl) ?_
        | refine hof _ _ ?_
        | refine hta _ _ ?_
        | refine Ob.mk ⟨by decide +kernel, by decide +kernel⟩ ?_
        | refine hre _ _ ?_
        | refine hs1 _ _ ?_
        | refine Cal.lend (ps := [gsP (R.map upG)]) (Ob.mk rfl hfz) (hs2 [] _ rfl) rfl ?_
        | refine known25_c _ _ ?_
        | refine Br.mkT (fun c => ?_) (fun c => ?_)
        | refine Br.mkF (fun c => ?_) (fun c => ?_)
        | refine Br.mk (fun c => ?_) (fun c => ?_))
      exact h
end Go.Proofs.YtlnelaajlhfabaaGreat.AW

open Go Go.Proofs.YtlnelaajlhfabaaGreat.AW Go.Proofs
namespace Go.Proofs.YtlnelaajlhfabaaGreat.AW
set_option maxRecDepth 100000
set_option linter.unusedSimpArgs false
set_option linter.unusedVariables false

/-! ### The counts of a row's beginning -/
theorem mkN_app (k : Int) (A B : List Bt) : mkN k (A ++ B) = mkN k A + mkN k B := by unfold mkN; rw [List.countP_append]
theorem recN_app (A B : List Bt) : recN (A ++ B) = recN A + recN B := by unfold recN; rw [List.map_append, List.sum_append]
theorem szN_app (A B : List Bt) : szN (A ++ B) = szN A + szN B := by unfold szN; rw [List.map_append, List.sum_append]
theorem bad_mono {D E : List Dr} (h : D <+: E) (g : Gt) (hb : bad D g = true) : bad E g = true := by
  unfold bad at *
  rw [List.any_eq_true] at *
  obtain ⟨d, hd, hg⟩ := hb
  exact ⟨d, h.subset hd, hg⟩
structure BegN (A L : List Bt) : Prop where
  a : mkN 0 A ≤ mkN 0 L
  b : recN A ≤ recN L
  c : szN A ≤ szN L
  d : mkN 1 A ≤ mkN 1 L
  e : mkN 2 A ≤ mkN 2 L
  f : (gts 0 (endW 0 A) A).countP (bad (dFold A).2) ≤ (gts 0 (endW 0 L) L).countP (bad (dFold L).2)
theorem begN {L : List Bt} (h : RowC 0 L) (k : Nat) : BegN (L.take k) L := by
  have hA := h.take k
  have hd := drops_pre (L.take k) (L.drop k)
  have e1 := (row_counts hA).1
  have e2 := (row_counts h).1
  have hg : gts 0 (endW 0 L) L = gts 0 (endW 0 L) (L.take k) ++ gts 0 (endW 0 L) (L.drop k) := by rw [← gts_app, List.take_append_drop]
  have m0 := mkN_app 0 (L.take k) (L.drop k)
  have m1 := mkN_app 1 (L.take k) (L.drop k)
  have m2 := mkN_app 2 (L.take k) (L.drop k)
  have m3 := recN_app (L.take k) (L.drop k)
  have m4 := szN_app (L.take k) (L.drop k)
  have m5 := (szN_in (L.drop k)).1
  rw [List.take_append_drop] at m0 m1 m2 m3 m4 hd
  have hge : endW 0 (L.take k) ≤ endW 0 L := by rw [e1, e2]; omega
  refine ⟨by omega, by omega, by omega, by omega, by omega, ?_⟩
  rw [hg, List.countP_append, gts_all (fr' := 0) (to' := endW 0 L) hA (Int.le_refl _) (Int.le_refl _) (Int.le_refl _) hge]
  refine Nat.le_trans ?_ (Nat.le_add_right _ _)
  exact List.countP_mono_left fun g _ hb => bad_mono hd g hb
end Go.Proofs.YtlnelaajlhfabaaGreat.AW
