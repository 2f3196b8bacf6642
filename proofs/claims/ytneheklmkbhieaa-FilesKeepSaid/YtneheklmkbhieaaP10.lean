/- A part of the proof: LF/F10. -/
import Derived.Test.YtneheklmkbhieaaP9
open Go Go.Proofs.Ytneheklmkbhieaa.AW Go.Proofs
namespace Go.Proofs.Ytneheklmkbhieaa.AW
set_option maxRecDepth 100000
set_option linter.unusedSimpArgs false
set_option linter.unusedVariables false

/-! ### FilesKeep -/
theorem xorF_get (c : List UInt8) (a b : Nat) (g : UInt8) (j : Nat) : (xorF c a b g)[j]? = c[j]?.map fun x => if a ≤ j ∧ j < b then x ^^^ g else x := by
  unfold xorF
  rw [List.getElem?_mapIdx]
theorem gbl_take (garble : List UInt8) (i : Nat) (c : List UInt8) (l : Nat) : (gbl garble i c l).take l = c.take l := by
  unfold gbl
  cases garble[i]? with
  | none => rfl
  | some g =>
    simp only
    apply List.ext_getElem?
    intro j
    rw [List.getElem?_take, List.getElem?_take]
    by_cases h : j < l
    · rw [if_pos h, if_pos h, xorF_get]
      cases c[j]? with
      | none => rfl
      | some x => show some (if _ then _ else _) = _; rw [if_neg (by omega)]
    · rw [if_neg h, if_neg h]
theorem keep_at {A B : List UInt8} {g : UInt8} {n i : Nat} (hn : n ≤ B.length) (hi : i < n) (x : UInt8) (hx : B[i]? = some x) :
    (gbl [g] 0 ((A ++ B).take (A.length + n)) A.length)[A.length + i]? = some (if (i : Int) ≥ (n : Int) - 64 then x ^^^ g else x) := by
  show (xorF ((A ++ B).take (A.length + n)) (max A.length (((A ++ B).take (A.length + n)).length - 64)) ((A ++ B).take (A.length + n)).length g)[A.length + i]? = _
  have hl : ((A ++ B).take (A.length + n)).length = A.length + n := by rw [List.length_take, List.length_append]; omega
  rw [xorF_get, hl, List.getElem?_take, if_pos (by omega), List.getElem?_append_right (by omega), Nat.add_sub_cancel_left, hx]
  show some (if _ then _ else _) = _
  by_cases h : (i : Int) ≥ (n : Int) - 64
  · rw [if_pos h, if_pos (by omega)]
  · rw [if_neg h, if_neg (by omega)]

set_option maxHeartbeats 8000000 in
theorem filesKeep_c (a b : List UInt8) (k : Int) (g : UInt8) (K : AV → Store → Prop) (h : ∀ s, K (.p (.bool true)) s) : Cal Try.prog 3 [.p (bsl a), .p (bsl b), .p (ii k), .p (.int .u8 g.toNat)] [] K := by
  refine Cal.intro Try.func3 (by decide +kernel) rfl rfl ?_
  have la := bytesP_len a
  have lb := bytesP_len b
  by_cases ha : 200 < a.length
  · refine Br.t (decide_eq_true (show ((bytesP a).length : Int) > 200 by rw [la]; omega)) ?_
    refine Ob.mk ⟨Int.le_refl 0, (by decide), (show (200 : Int) ≤ ((bytesP a).length : Int) by rw [la]; omega)⟩ ?_
    by_cases hb : 200 < b.length
    · refine Br.t (decide_eq_true (show ((bytesP b).length : Int) > 200 by rw [lb]; omega)) ?_
      refine Ob.mk ⟨Int.le_refl 0, (by decide), (show (200 : Int) ≤ ((bytesP b).length : Int) by rw [lb]; omega)⟩ ?_
      obtain ⟨A, hA⟩ : ∃ A, A = a.take 200 := ⟨_, rfl⟩
      have eA : (((bytesP a).take (200 : Int).toNat).drop (0 : Int).toNat) = bytesP A := by rw [hA]; exact cut_b rfl
      have lA : A.length ≤ 200 := by rw [hA]; rw [List.length_take]; omega
      obtain ⟨B, hB⟩ : ∃ B, B = b.take 200 := ⟨_, rfl⟩
      have eB : (((bytesP b).take (200 : Int).toNat).drop (0 : Int).toNat) = bytesP B := by rw [hB]; exact cut_b rfl
      have lB : B.length ≤ 200 := by rw [hB]; rw [List.length_take]; omega
      have nA : (((bytesP a).take (200 : Int).toNat).drop (0 : Int).toNat).length = A.length := by rw [eA, bytesP_len]
      have nB : (((bytesP b).take (200 : Int).toNat).drop (0 : Int).toNat).length = B.length := by rw [eB, bytesP_len]
      refine new_c _ ?_
      repeat (first | refine Br.t rfl ?_ | refine Br.f rfl ?_)
      have c1 : ∀ K', K' (.p (ii 0)) (fsS [(0, [120], A, 0)] 1 (-1) 1) → Cal Try.prog 11 [fsP, .p (.str [120]), .p (.sl .shr 1 (((bytesP a).take (200 : Int).toNat).drop (0 : Int).toNat))] (fsS [] 0 (-1) 0) K' := fun K' hK => by
        rw [eA]
        exact append_k [] 0 (-1) 0 (fok_nil _ _ (by decide) (by decide)) [120] A (by decide +kernel) (by decide) (by decide) (by decide) (by omega) _ hK
      refine c1 _ ?_
      repeat (first | refine Br.t rfl ?_ | refine Br.f rfl ?_)
      refine sync_k [(0, [120], A, 0)] 1 (-1) 1 (fok_one (by decide) (by decide) (by omega) (by omega)) [120] (A, 0) rfl (by decide) _ ?_
      repeat (first | refine Br.t rfl ?_ | refine Br.f rfl ?_)
      have c2 : ∀ K', K' (.p (ii 0)) (fsS [(0, [120], A ++ B, A.length)] 1 (-1) 3) → Cal Try.prog 11 [fsP, .p (.str [120]), .p (.sl .shr 1 (((bytesP b).take (200 : Int).toNat).drop (0 : Int).toNat))] (fsS [(0, [120], A, A.length)] 1 (-1) 2) K' := fun K' hK => by
        rw [eB]
        exact append_k [(0, [120], A, A.length)] 1 (-1) 2 (fok_one (by decide) (by decide) (by omega) (by omega)) [120] B (by decide +kernel) (show 1 < 64 by decide) (by decide) (by decide) (by omega) _ hK
      refine c2 _ ?_
      repeat (first | refine Br.t rfl ?_ | refine Br.f rfl ?_)
      refine Or.inl ?_
      have lAB : (A ++ B).length = A.length + B.length := List.length_append
      obtain ⟨n, hn⟩ : ∃ n, n = kpN [k] 0 (A ++ B) A.length := ⟨_, rfl⟩
      obtain ⟨X, hX⟩ : ∃ X, X = crB [k] [g] 0 (A ++ B) A.length := ⟨_, rfl⟩
      have hnB : n ≤ B.length := by have := kpN_le (keeps := [k]) (i := 0) (b := A ++ B) (l := A.length) (by omega) (by omega); omega
      have hXl : X.length = A.length + n := by rw [hX, hn]; exact crB_len (by omega) (by omega)
      have c3 : ∀ K', K' (.tup []) (fsS [(0, [120], X, X.length)] 1 (-1) 3) → Cal Try.prog 13 [fsP, .p (.sl .clip 1 [ii k]), .p (.sl .clip 1 [.int .u8 g.toNat])] (fsS [(0, [120], A ++ B, A.length)] 1 (-1) 3) K' := fun K' hK =>
        crash_w [(0, [120], A ++ B, A.length)] 1 (-1) 3 (fok_one (by decide) (by decide) (by omega) (by omega)) (fi_one (by decide)) [k] [g] _ _ .shr .shr _ (fun ns hp _ => by
          have := perm_one hp; subst this
          rw [hX] at hK
          exact hK)
      refine c3 _ ?_
      refine read_c [(0, [120], X, X.length)] 1 (-1) 3 (fok_one (by decide) (by decide) (by omega) (by omega)) [120] _ ?_
      have hw : IntKind.i64.wrap (((bytesP (A ++ B)).length : Int) - A.length) = B.length := by rw [bytesP_len, wrap_i64 (by omega) (by omega)]; omega
      have hM : (if (0 : Int) > (if (((((bytesP b).take (200 : Int).toNat).drop (0 : Int).toNat).length : Nat) : Int) < k then (((((bytesP b).take (200 : Int).toNat).drop (0 : Int).toNat).length : Nat) : Int) else k) then (0 : Int) else (if (((((bytesP b).take (200 : Int).toNat).drop (0 : Int).toNat).length : Nat) : Int) < k then (((((bytesP b).take (200 : Int).toNat).drop (0 : Int).toNat).length : Nat) : Int) else k)) = (n : Int) := by
        rw [hn, nB]
        show _ = ((kpI k (A ++ B) A.length).toNat : Int)
        unfold kpI
        rw [hw]
        repeat' split
        all_goals omega
      have lX := bytesP_len X
      have f72 : (((bytesP X).length : Int) != IntKind.i64.wrap (((((bytesP a).take (200 : Int).toNat).drop (0 : Int).toNat).length : Int) + (if (0 : Int) > (if (((((bytesP b).take (200 : Int).toNat).drop (0 : Int).toNat).length : Nat) : Int) < k then (((((bytesP b).take (200 : Int).toNat).drop (0 : Int).toNat).length : Nat) : Int) else k) then (0 : Int) else (if (((((bytesP b).take (200 : Int).toNat).drop (0 : Int).toNat).length : Nat) : Int) < k then (((((bytesP b).take (200 : Int).toNat).drop (0 : Int).toNat).length : Nat) : Int) else k)))) = false := by
        rw [hM, nA, lX, wrap_i64 (by omega) (by omega), hXl]; simp
      have f72b : ((((bytesP X).length : Int) != IntKind.i64.wrap (((((bytesP a).take (200 : Int).toNat).drop (0 : Int).toNat).length : Int) + (if (0 : Int) > (if (((((bytesP b).take (200 : Int).toNat).drop (0 : Int).toNat).length : Nat) : Int) < k then (((((bytesP b).take (200 : Int).toNat).drop (0 : Int).toNat).length : Nat) : Int) else k) then (0 : Int) else (if (((((bytesP b).take (200 : Int).toNat).drop (0 : Int).toNat).length : Nat) : Int) < k then (((((bytesP b).take (200 : Int).toNat).drop (0 : Int).toNat).length : Nat) : Int) else k)))) == false) = true := by rw [f72]; rfl
      have cX : ((bytesP X).take (((((bytesP a).take (200 : Int).toNat).drop (0 : Int).toNat).length : Nat) : Int).toNat).drop (0 : Int).toNat = bytesP A := by
        rw [cut_b (m := A.length) (by rw [nA])]
        rw [hX]; unfold crB
        rw [gbl_take, ← hn, List.take_take, Nat.min_eq_left (by omega), List.take_left]
      iterate 3 refine ⟨_, ⟨rfl, rfl⟩, ?_⟩
      iterate 7 (refine Br.t rfl ?_; refine ⟨_, ⟨rfl, rfl⟩, ?_⟩)
      refine ⟨_, Br.f rfl ⟨rfl, rfl⟩, ?_⟩
      refine ⟨_, ⟨rfl, rfl⟩, ?_⟩
      iterate 3 (refine Br.t f72b ?_; refine ⟨_, ⟨rfl, rfl⟩, ?_⟩)
      refine Br.t f72b ?_
      refine ⟨_, Ob.mk ⟨Int.le_refl 0, Int.natCast_nonneg _, (show (((((bytesP a).take (200 : Int).toNat).drop (0 : Int).toNat).length : Nat) : Int) ≤ ((bytesP X).length : Int) by rw [nA, lX]; omega)⟩ ⟨rfl, rfl⟩, ?_⟩
      refine Br.t f72b ?_
      refine ⟨_, Ob.mk (.inr rfl) ⟨A, cX, ⟨rfl, rfl⟩⟩, ?_⟩
      refine Br.t f72b ?_
      refine ⟨_, ⟨rfl, rfl⟩, ?_⟩
      refine Br.t f72b ?_
      refine ⟨_, Ob.mk (.inr rfl) ⟨A, eA, ⟨rfl, rfl⟩⟩, ?_⟩
      refine Br.t f72b ?_
      refine ⟨_, ⟨rfl, rfl⟩, ?_⟩
      refine ⟨_, Br.f f72 ⟨rfl, rfl⟩, ?_⟩
      refine Chk.mk (by kernel_rfl) ?_
      refine Br.f (show (!(A == A)) = false by simp) ?_
      refine LoopX.fam [0, 1, 3, 10, 12, 13] (fun (i : Nat) => ([(0, .p (.sl .shr 1 (((bytesP a).take (200 : Int).toNat).drop (0 : Int).toNat))), (1, .p (.sl .shr 1 (((bytesP b).take (200 : Int).toNat).drop (0 : Int).toNat))), (3, .p (.int .u8 g.toNat)), (10, .p (bsl X)), (12, .p (ii (if (0 : Int) > (if (((((bytesP b).take (200 : Int).toNat).drop (0 : Int).toNat).length : Nat) : Int) < k then (((((bytesP b).take (200 : Int).toNat).drop (0 : Int).toNat).length : Nat) : Int) else k) then (0 : Int) else (if (((((bytesP b).take (200 : Int).toNat).drop (0 : Int).toNat).length : Nat) : Int) < k then (((((bytesP b).take (200 : Int).toNat).drop (0 : Int).toNat).length : Nat) : Int) else k)))), (13, .p (ii i))], fsS [(0, [120], X, X.length)] 1 (-1) 3))
        (fun i => i ≤ n) (fun i => n - i) 0 (Nat.zero_le _) (Trim.mk' rfl rfl rfl rfl (Nat.le_refl _)) ?_
      intro i hin
      have hin : i ≤ n := hin
      refine Br.mk (fun hc => ?_) (fun hc => ?_)
      · have hc : i < n := by have := of_decide_eq_true hc; rw [hM] at this; omega
        obtain ⟨y, hy⟩ : ∃ y, B[i]? = some y := ⟨_, List.getElem?_eq_getElem (by omega)⟩
        have ei : IntKind.i64.wrap ((i : Int) + 1) = ((i + 1 : Nat) : Int) := by rw [wrap_i64] <;> omega
        have e64 : IntKind.i64.wrap ((if (0 : Int) > (if (((((bytesP b).take (200 : Int).toNat).drop (0 : Int).toNat).length : Nat) : Int) < k then (((((bytesP b).take (200 : Int).toNat).drop (0 : Int).toNat).length : Nat) : Int) else k) then (0 : Int) else (if (((((bytesP b).take (200 : Int).toNat).drop (0 : Int).toNat).length : Nat) : Int) < k then (((((bytesP b).take (200 : Int).toNat).drop (0 : Int).toNat).length : Nat) : Int) else k)) - 64) = (n : Int) - 64 := by rw [hM, wrap_i64 (by omega) (by omega)]
        have eadd : IntKind.i64.wrap (((((bytesP a).take (200 : Int).toNat).drop (0 : Int).toNat).length : Int) + (i : Int)) = ((A.length + i : Nat) : Int) := by rw [nA, wrap_i64 (by omega) (by omega)]; omega
        have hk := keep_at (A := A) (g := g) hnB hc y hy
        have hXg : gbl [g] 0 ((A ++ B).take (A.length + n)) A.length = X := by rw [hX]; unfold crB; rw [← hn]
        rw [hXg] at hk
        refine Idx.mk (.int .u8 y.toNat) (Int.natCast_nonneg i) (by rw [eB]; exact bytes_at hy) ?_
        by_cases hq : (i : Int) ≥ (n : Int) - 64
        · refine Br.t (decide_eq_true (show (i : Int) ≥ IntKind.i64.wrap ((if (0 : Int) > (if (((((bytesP b).take (200 : Int).toNat).drop (0 : Int).toNat).length : Nat) : Int) < k then (((((bytesP b).take (200 : Int).toNat).drop (0 : Int).toNat).length : Nat) : Int) else k) then (0 : Int) else (if (((((bytesP b).take (200 : Int).toNat).drop (0 : Int).toNat).length : Nat) : Int) < k then (((((bytesP b).take (200 : Int).toNat).drop (0 : Int).toNat).length : Nat) : Int) else k)) - 64) by rw [e64]; exact hq)) ?_
          rw [if_pos hq] at hk
          refine Idx.mk (.int .u8 (y ^^^ g).toNat) (by rw [eadd]; exact Int.natCast_nonneg _) (by rw [eadd]; exact bytes_at hk) ?_
          refine Br.f (show (((y ^^^ g).toNat : Int) != bits .xor .u8 (y.toNat : Int) (g.toNat : Int)) = false by rw [xor_u8]; simp) ?_
          refine ⟨i + 1, (show i + 1 ≤ n by omega), (show n - (i + 1) < n - i by omega), Nat.le_refl _, Trim.mk' ?_ rfl rfl rfl (Nat.le_refl _)⟩
          refine Eq.trans (b := [_, _, _, _, _, (13, AV.p (ii (IntKind.i64.wrap ((i : Int) + 1))))]) rfl ?_
          first | (rw [ei]; done) | (rw [ei]; rfl)
        · refine Br.f (decide_eq_false (show ¬ (i : Int) ≥ IntKind.i64.wrap ((if (0 : Int) > (if (((((bytesP b).take (200 : Int).toNat).drop (0 : Int).toNat).length : Nat) : Int) < k then (((((bytesP b).take (200 : Int).toNat).drop (0 : Int).toNat).length : Nat) : Int) else k) then (0 : Int) else (if (((((bytesP b).take (200 : Int).toNat).drop (0 : Int).toNat).length : Nat) : Int) < k then (((((bytesP b).take (200 : Int).toNat).drop (0 : Int).toNat).length : Nat) : Int) else k)) - 64) by rw [e64]; exact hq)) ?_
          rw [if_neg hq] at hk
          refine Idx.mk (.int .u8 y.toNat) (by rw [eadd]; exact Int.natCast_nonneg _) (by rw [eadd]; exact bytes_at hk) ?_
          refine Br.f (show ((y.toNat : Int) != (y.toNat : Int)) = false by simp) ?_
          refine ⟨i + 1, (show i + 1 ≤ n by omega), (show n - (i + 1) < n - i by omega), Nat.le_refl _, Trim.mk' ?_ rfl rfl rfl (Nat.le_refl _)⟩
          refine Eq.trans (b := [_, _, _, _, _, (13, AV.p (ii (IntKind.i64.wrap ((i : Int) + 1))))]) rfl ?_
          first | (rw [ei]; done) | (rw [ei]; rfl)
      · refine Cal.frameK [] (known_c _ fun _ => ?_) rfl rfl rfl
        exact h _
    · refine Br.f (decide_eq_false (show ¬ ((bytesP b).length : Int) > 200 by rw [lb]; omega)) ?_
      obtain ⟨A, hA⟩ : ∃ A, A = a.take 200 := ⟨_, rfl⟩
      have eA : (((bytesP a).take (200 : Int).toNat).drop (0 : Int).toNat) = bytesP A := by rw [hA]; exact cut_b rfl
      have lA : A.length ≤ 200 := by rw [hA]; rw [List.length_take]; omega
      obtain ⟨B, hB⟩ : ∃ B, B = b := ⟨_, rfl⟩
      have eB : (bytesP b) = bytesP B := by rw [hB]
      have lB : B.length ≤ 200 := by rw [hB]; omega
      have nA : (((bytesP a).take (200 : Int).toNat).drop (0 : Int).toNat).length = A.length := by rw [eA, bytesP_len]
      have nB : (bytesP b).length = B.length := by rw [eB, bytesP_len]
      refine new_c _ ?_
      repeat (first | refine Br.t rfl ?_ | refine Br.f rfl ?_)
      have c1 : ∀ K', K' (.p (ii 0)) (fsS [(0, [120], A, 0)] 1 (-1) 1) → Cal Try.prog 11 [fsP, .p (.str [120]), .p (.sl .shr 1 (((bytesP a).take (200 : Int).toNat).drop (0 : Int).toNat))] (fsS [] 0 (-1) 0) K' := fun K' hK => by
        rw [eA]
        exact append_k [] 0 (-1) 0 (fok_nil _ _ (by decide) (by decide)) [120] A (by decide +kernel) (by decide) (by decide) (by decide) (by omega) _ hK
      refine c1 _ ?_
      repeat (first | refine Br.t rfl ?_ | refine Br.f rfl ?_)
      refine sync_k [(0, [120], A, 0)] 1 (-1) 1 (fok_one (by decide) (by decide) (by omega) (by omega)) [120] (A, 0) rfl (by decide) _ ?_
      repeat (first | refine Br.t rfl ?_ | refine Br.f rfl ?_)
      have c2 : ∀ K', K' (.p (ii 0)) (fsS [(0, [120], A ++ B, A.length)] 1 (-1) 3) → Cal Try.prog 11 [fsP, .p (.str [120]), .p (.sl .shr 1 (bytesP b))] (fsS [(0, [120], A, A.length)] 1 (-1) 2) K' := fun K' hK => by
        rw [eB]
        exact append_k [(0, [120], A, A.length)] 1 (-1) 2 (fok_one (by decide) (by decide) (by omega) (by omega)) [120] B (by decide +kernel) (show 1 < 64 by decide) (by decide) (by decide) (by omega) _ hK
      refine c2 _ ?_
      repeat (first | refine Br.t rfl ?_ | refine Br.f rfl ?_)
      refine Or.inl ?_
      have lAB : (A ++ B).length = A.length + B.length := List.length_append
      obtain ⟨n, hn⟩ : ∃ n, n = kpN [k] 0 (A ++ B) A.length := ⟨_, rfl⟩
      obtain ⟨X, hX⟩ : ∃ X, X = crB [k] [g] 0 (A ++ B) A.length := ⟨_, rfl⟩
      have hnB : n ≤ B.length := by have := kpN_le (keeps := [k]) (i := 0) (b := A ++ B) (l := A.length) (by omega) (by omega); omega
      have hXl : X.length = A.length + n := by rw [hX, hn]; exact crB_len (by omega) (by omega)
      have c3 : ∀ K', K' (.tup []) (fsS [(0, [120], X, X.length)] 1 (-1) 3) → Cal Try.prog 13 [fsP, .p (.sl .clip 1 [ii k]), .p (.sl .clip 1 [.int .u8 g.toNat])] (fsS [(0, [120], A ++ B, A.length)] 1 (-1) 3) K' := fun K' hK =>
        crash_w [(0, [120], A ++ B, A.length)] 1 (-1) 3 (fok_one (by decide) (by decide) (by omega) (by omega)) (fi_one (by decide)) [k] [g] _ _ .shr .shr _ (fun ns hp _ => by
          have := perm_one hp; subst this
          rw [hX] at hK
          exact hK)
      refine c3 _ ?_
      refine read_c [(0, [120], X, X.length)] 1 (-1) 3 (fok_one (by decide) (by decide) (by omega) (by omega)) [120] _ ?_
      have hw : IntKind.i64.wrap (((bytesP (A ++ B)).length : Int) - A.length) = B.length := by rw [bytesP_len, wrap_i64 (by omega) (by omega)]; omega
      have hM : (if (0 : Int) > (if (((bytesP b).length : Nat) : Int) < k then (((bytesP b).length : Nat) : Int) else k) then (0 : Int) else (if (((bytesP b).length : Nat) : Int) < k then (((bytesP b).length : Nat) : Int) else k)) = (n : Int) := by
        rw [hn, nB]
        show _ = ((kpI k (A ++ B) A.length).toNat : Int)
        unfold kpI
        rw [hw]
        repeat' split
        all_goals omega
      have lX := bytesP_len X
      have f72 : (((bytesP X).length : Int) != IntKind.i64.wrap (((((bytesP a).take (200 : Int).toNat).drop (0 : Int).toNat).length : Int) + (if (0 : Int) > (if (((bytesP b).length : Nat) : Int) < k then (((bytesP b).length : Nat) : Int) else k) then (0 : Int) else (if (((bytesP b).length : Nat) : Int) < k then (((bytesP b).length : Nat) : Int) else k)))) = false := by
        rw [hM, nA, lX, wrap_i64 (by omega) (by omega), hXl]; simp
      have f72b : ((((bytesP X).length : Int) != IntKind.i64.wrap (((((bytesP a).take (200 : Int).toNat).drop (0 : Int).toNat).length : Int) + (if (0 : Int) > (if (((bytesP b).length : Nat) : Int) < k then (((bytesP b).length : Nat) : Int) else k) then (0 : Int) else (if (((bytesP b).length : Nat) : Int) < k then (((bytesP b).length : Nat) : Int) else k)))) == false) = true := by rw [f72]; rfl
      have cX : ((bytesP X).take (((((bytesP a).take (200 : Int).toNat).drop (0 : Int).toNat).length : Nat) : Int).toNat).drop (0 : Int).toNat = bytesP A := by
        rw [cut_b (m := A.length) (by rw [nA])]
        rw [hX]; unfold crB
        rw [gbl_take, ← hn, List.take_take, Nat.min_eq_left (by omega), List.take_left]
      iterate 3 refine ⟨_, ⟨rfl, rfl⟩, ?_⟩
      iterate 7 (refine Br.t rfl ?_; refine ⟨_, ⟨rfl, rfl⟩, ?_⟩)
      refine ⟨_, Br.f rfl ⟨rfl, rfl⟩, ?_⟩
      refine ⟨_, ⟨rfl, rfl⟩, ?_⟩
      iterate 3 (refine Br.t f72b ?_; refine ⟨_, ⟨rfl, rfl⟩, ?_⟩)
      refine Br.t f72b ?_
      refine ⟨_, Ob.mk ⟨Int.le_refl 0, Int.natCast_nonneg _, (show (((((bytesP a).take (200 : Int).toNat).drop (0 : Int).toNat).length : Nat) : Int) ≤ ((bytesP X).length : Int) by rw [nA, lX]; omega)⟩ ⟨rfl, rfl⟩, ?_⟩
      refine Br.t f72b ?_
      refine ⟨_, Ob.mk (.inr rfl) ⟨A, cX, ⟨rfl, rfl⟩⟩, ?_⟩
      refine Br.t f72b ?_
      refine ⟨_, ⟨rfl, rfl⟩, ?_⟩
      refine Br.t f72b ?_
      refine ⟨_, Ob.mk (.inr rfl) ⟨A, eA, ⟨rfl, rfl⟩⟩, ?_⟩
      refine Br.t f72b ?_
      refine ⟨_, ⟨rfl, rfl⟩, ?_⟩
      refine ⟨_, Br.f f72 ⟨rfl, rfl⟩, ?_⟩
      refine Chk.mk (by kernel_rfl) ?_
      refine Br.f (show (!(A == A)) = false by simp) ?_
      refine LoopX.fam [0, 1, 3, 10, 12, 13] (fun (i : Nat) => ([(0, .p (.sl .shr 1 (((bytesP a).take (200 : Int).toNat).drop (0 : Int).toNat))), (1, .p (.sl .shr 1 (bytesP b))), (3, .p (.int .u8 g.toNat)), (10, .p (bsl X)), (12, .p (ii (if (0 : Int) > (if (((bytesP b).length : Nat) : Int) < k then (((bytesP b).length : Nat) : Int) else k) then (0 : Int) else (if (((bytesP b).length : Nat) : Int) < k then (((bytesP b).length : Nat) : Int) else k)))), (13, .p (ii i))], fsS [(0, [120], X, X.length)] 1 (-1) 3))
        (fun i => i ≤ n) (fun i => n - i) 0 (Nat.zero_le _) (Trim.mk' rfl rfl rfl rfl (Nat.le_refl _)) ?_
      intro i hin
      have hin : i ≤ n := hin
      refine Br.mk (fun hc => ?_) (fun hc => ?_)
      · have hc : i < n := by have := of_decide_eq_true hc; rw [hM] at this; omega
        obtain ⟨y, hy⟩ : ∃ y, B[i]? = some y := ⟨_, List.getElem?_eq_getElem (by omega)⟩
        have ei : IntKind.i64.wrap ((i : Int) + 1) = ((i + 1 : Nat) : Int) := by rw [wrap_i64] <;> omega
        have e64 : IntKind.i64.wrap ((if (0 : Int) > (if (((bytesP b).length : Nat) : Int) < k then (((bytesP b).length : Nat) : Int) else k) then (0 : Int) else (if (((bytesP b).length : Nat) : Int) < k then (((bytesP b).length : Nat) : Int) else k)) - 64) = (n : Int) - 64 := by rw [hM, wrap_i64 (by omega) (by omega)]
        have eadd : IntKind.i64.wrap (((((bytesP a).take (200 : Int).toNat).drop (0 : Int).toNat).length : Int) + (i : Int)) = ((A.length + i : Nat) : Int) := by rw [nA, wrap_i64 (by omega) (by omega)]; omega
        have hk := keep_at (A := A) (g := g) hnB hc y hy
        have hXg : gbl [g] 0 ((A ++ B).take (A.length + n)) A.length = X := by rw [hX]; unfold crB; rw [← hn]
        rw [hXg] at hk
        refine Idx.mk (.int .u8 y.toNat) (Int.natCast_nonneg i) (by rw [eB]; exact bytes_at hy) ?_
        by_cases hq : (i : Int) ≥ (n : Int) - 64
        · refine Br.t (decide_eq_true (show (i : Int) ≥ IntKind.i64.wrap ((if (0 : Int) > (if (((bytesP b).length : Nat) : Int) < k then (((bytesP b).length : Nat) : Int) else k) then (0 : Int) else (if (((bytesP b).length : Nat) : Int) < k then (((bytesP b).length : Nat) : Int) else k)) - 64) by rw [e64]; exact hq)) ?_
          rw [if_pos hq] at hk
          refine Idx.mk (.int .u8 (y ^^^ g).toNat) (by rw [eadd]; exact Int.natCast_nonneg _) (by rw [eadd]; exact bytes_at hk) ?_
          refine Br.f (show (((y ^^^ g).toNat : Int) != bits .xor .u8 (y.toNat : Int) (g.toNat : Int)) = false by rw [xor_u8]; simp) ?_
          refine ⟨i + 1, (show i + 1 ≤ n by omega), (show n - (i + 1) < n - i by omega), Nat.le_refl _, Trim.mk' ?_ rfl rfl rfl (Nat.le_refl _)⟩
          refine Eq.trans (b := [_, _, _, _, _, (13, AV.p (ii (IntKind.i64.wrap ((i : Int) + 1))))]) rfl ?_
          first | (rw [ei]; done) | (rw [ei]; rfl)
        · refine Br.f (decide_eq_false (show ¬ (i : Int) ≥ IntKind.i64.wrap ((if (0 : Int) > (if (((bytesP b).length : Nat) : Int) < k then (((bytesP b).length : Nat) : Int) else k) then (0 : Int) else (if (((bytesP b).length : Nat) : Int) < k then (((bytesP b).length : Nat) : Int) else k)) - 64) by rw [e64]; exact hq)) ?_
          rw [if_neg hq] at hk
          refine Idx.mk (.int .u8 y.toNat) (by rw [eadd]; exact Int.natCast_nonneg _) (by rw [eadd]; exact bytes_at hk) ?_
          refine Br.f (show ((y.toNat : Int) != (y.toNat : Int)) = false by simp) ?_
          refine ⟨i + 1, (show i + 1 ≤ n by omega), (show n - (i + 1) < n - i by omega), Nat.le_refl _, Trim.mk' ?_ rfl rfl rfl (Nat.le_refl _)⟩
          refine Eq.trans (b := [_, _, _, _, _, (13, AV.p (ii (IntKind.i64.wrap ((i : Int) + 1))))]) rfl ?_
          first | (rw [ei]; done) | (rw [ei]; rfl)
      · refine Cal.frameK [] (known_c _ fun _ => ?_) rfl rfl rfl
        exact h _
  · refine Br.f (decide_eq_false (show ¬ ((bytesP a).length : Int) > 200 by rw [la]; omega)) ?_
    by_cases hb : 200 < b.length
    · refine Br.t (decide_eq_true (show ((bytesP b).length : Int) > 200 by rw [lb]; omega)) ?_
      refine Ob.mk ⟨Int.le_refl 0, (by decide), (show (200 : Int) ≤ ((bytesP b).length : Int) by rw [lb]; omega)⟩ ?_
      obtain ⟨A, hA⟩ : ∃ A, A = a := ⟨_, rfl⟩
      have eA : (bytesP a) = bytesP A := by rw [hA]
      have lA : A.length ≤ 200 := by rw [hA]; omega
      obtain ⟨B, hB⟩ : ∃ B, B = b.take 200 := ⟨_, rfl⟩
      have eB : (((bytesP b).take (200 : Int).toNat).drop (0 : Int).toNat) = bytesP B := by rw [hB]; exact cut_b rfl
      have lB : B.length ≤ 200 := by rw [hB]; rw [List.length_take]; omega
      have nA : (bytesP a).length = A.length := by rw [eA, bytesP_len]
      have nB : (((bytesP b).take (200 : Int).toNat).drop (0 : Int).toNat).length = B.length := by rw [eB, bytesP_len]
      refine new_c _ ?_
      repeat (first | refine Br.t rfl ?_ | refine Br.f rfl ?_)
      have c1 : ∀ K', K' (.p (ii 0)) (fsS [(0, [120], A, 0)] 1 (-1) 1) → Cal Try.prog 11 [fsP, .p (.str [120]), .p (.sl .shr 1 (bytesP a))] (fsS [] 0 (-1) 0) K' := fun K' hK => by
        rw [eA]
        exact append_k [] 0 (-1) 0 (fok_nil _ _ (by decide) (by decide)) [120] A (by decide +kernel) (by decide) (by decide) (by decide) (by omega) _ hK
      refine c1 _ ?_
      repeat (first | refine Br.t rfl ?_ | refine Br.f rfl ?_)
      refine sync_k [(0, [120], A, 0)] 1 (-1) 1 (fok_one (by decide) (by decide) (by omega) (by omega)) [120] (A, 0) rfl (by decide) _ ?_
      repeat (first | refine Br.t rfl ?_ | refine Br.f rfl ?_)
      have c2 : ∀ K', K' (.p (ii 0)) (fsS [(0, [120], A ++ B, A.length)] 1 (-1) 3) → Cal Try.prog 11 [fsP, .p (.str [120]), .p (.sl .shr 1 (((bytesP b).take (200 : Int).toNat).drop (0 : Int).toNat))] (fsS [(0, [120], A, A.length)] 1 (-1) 2) K' := fun K' hK => by
        rw [eB]
        exact append_k [(0, [120], A, A.length)] 1 (-1) 2 (fok_one (by decide) (by decide) (by omega) (by omega)) [120] B (by decide +kernel) (show 1 < 64 by decide) (by decide) (by decide) (by omega) _ hK
      refine c2 _ ?_
      repeat (first | refine Br.t rfl ?_ | refine Br.f rfl ?_)
      refine Or.inl ?_
      have lAB : (A ++ B).length = A.length + B.length := List.length_append
      obtain ⟨n, hn⟩ : ∃ n, n = kpN [k] 0 (A ++ B) A.length := ⟨_, rfl⟩
      obtain ⟨X, hX⟩ : ∃ X, X = crB [k] [g] 0 (A ++ B) A.length := ⟨_, rfl⟩
      have hnB : n ≤ B.length := by have := kpN_le (keeps := [k]) (i := 0) (b := A ++ B) (l := A.length) (by omega) (by omega); omega
      have hXl : X.length = A.length + n := by rw [hX, hn]; exact crB_len (by omega) (by omega)
      have c3 : ∀ K', K' (.tup []) (fsS [(0, [120], X, X.length)] 1 (-1) 3) → Cal Try.prog 13 [fsP, .p (.sl .clip 1 [ii k]), .p (.sl .clip 1 [.int .u8 g.toNat])] (fsS [(0, [120], A ++ B, A.length)] 1 (-1) 3) K' := fun K' hK =>
        crash_w [(0, [120], A ++ B, A.length)] 1 (-1) 3 (fok_one (by decide) (by decide) (by omega) (by omega)) (fi_one (by decide)) [k] [g] _ _ .shr .shr _ (fun ns hp _ => by
          have := perm_one hp; subst this
          rw [hX] at hK
          exact hK)
      refine c3 _ ?_
      refine read_c [(0, [120], X, X.length)] 1 (-1) 3 (fok_one (by decide) (by decide) (by omega) (by omega)) [120] _ ?_
      have hw : IntKind.i64.wrap (((bytesP (A ++ B)).length : Int) - A.length) = B.length := by rw [bytesP_len, wrap_i64 (by omega) (by omega)]; omega
      have hM : (if (0 : Int) > (if (((((bytesP b).take (200 : Int).toNat).drop (0 : Int).toNat).length : Nat) : Int) < k then (((((bytesP b).take (200 : Int).toNat).drop (0 : Int).toNat).length : Nat) : Int) else k) then (0 : Int) else (if (((((bytesP b).take (200 : Int).toNat).drop (0 : Int).toNat).length : Nat) : Int) < k then (((((bytesP b).take (200 : Int).toNat).drop (0 : Int).toNat).length : Nat) : Int) else k)) = (n : Int) := by
        rw [hn, nB]
        show _ = ((kpI k (A ++ B) A.length).toNat : Int)
        unfold kpI
        rw [hw]
        repeat' split
        all_goals omega
      have lX := bytesP_len X
      have f72 : (((bytesP X).length : Int) != IntKind.i64.wrap (((bytesP a).length : Int) + (if (0 : Int) > (if (((((bytesP b).take (200 : Int).toNat).drop (0 : Int).toNat).length : Nat) : Int) < k then (((((bytesP b).take (200 : Int).toNat).drop (0 : Int).toNat).length : Nat) : Int) else k) then (0 : Int) else (if (((((bytesP b).take (200 : Int).toNat).drop (0 : Int).toNat).length : Nat) : Int) < k then (((((bytesP b).take (200 : Int).toNat).drop (0 : Int).toNat).length : Nat) : Int) else k)))) = false := by
        rw [hM, nA, lX, wrap_i64 (by omega) (by omega), hXl]; simp
      have f72b : ((((bytesP X).length : Int) != IntKind.i64.wrap (((bytesP a).length : Int) + (if (0 : Int) > (if (((((bytesP b).take (200 : Int).toNat).drop (0 : Int).toNat).length : Nat) : Int) < k then (((((bytesP b).take (200 : Int).toNat).drop (0 : Int).toNat).length : Nat) : Int) else k) then (0 : Int) else (if (((((bytesP b).take (200 : Int).toNat).drop (0 : Int).toNat).length : Nat) : Int) < k then (((((bytesP b).take (200 : Int).toNat).drop (0 : Int).toNat).length : Nat) : Int) else k)))) == false) = true := by rw [f72]; rfl
      have cX : ((bytesP X).take (((bytesP a).length : Nat) : Int).toNat).drop (0 : Int).toNat = bytesP A := by
        rw [cut_b (m := A.length) (by rw [nA])]
        rw [hX]; unfold crB
        rw [gbl_take, ← hn, List.take_take, Nat.min_eq_left (by omega), List.take_left]
      iterate 3 refine ⟨_, ⟨rfl, rfl⟩, ?_⟩
      iterate 7 (refine Br.t rfl ?_; refine ⟨_, ⟨rfl, rfl⟩, ?_⟩)
      refine ⟨_, Br.f rfl ⟨rfl, rfl⟩, ?_⟩
      refine ⟨_, ⟨rfl, rfl⟩, ?_⟩
      iterate 3 (refine Br.t f72b ?_; refine ⟨_, ⟨rfl, rfl⟩, ?_⟩)
      refine Br.t f72b ?_
      refine ⟨_, Ob.mk ⟨Int.le_refl 0, Int.natCast_nonneg _, (show (((bytesP a).length : Nat) : Int) ≤ ((bytesP X).length : Int) by rw [nA, lX]; omega)⟩ ⟨rfl, rfl⟩, ?_⟩
      refine Br.t f72b ?_
      refine ⟨_, Ob.mk (.inr rfl) ⟨A, cX, ⟨rfl, rfl⟩⟩, ?_⟩
      refine Br.t f72b ?_
      refine ⟨_, ⟨rfl, rfl⟩, ?_⟩
      refine Br.t f72b ?_
      refine ⟨_, Ob.mk (.inr rfl) ⟨A, eA, ⟨rfl, rfl⟩⟩, ?_⟩
      refine Br.t f72b ?_
      refine ⟨_, ⟨rfl, rfl⟩, ?_⟩
      refine ⟨_, Br.f f72 ⟨rfl, rfl⟩, ?_⟩
      refine Chk.mk (by kernel_rfl) ?_
      refine Br.f (show (!(A == A)) = false by simp) ?_
      refine LoopX.fam [0, 1, 3, 10, 12, 13] (fun (i : Nat) => ([(0, .p (.sl .shr 1 (bytesP a))), (1, .p (.sl .shr 1 (((bytesP b).take (200 : Int).toNat).drop (0 : Int).toNat))), (3, .p (.int .u8 g.toNat)), (10, .p (bsl X)), (12, .p (ii (if (0 : Int) > (if (((((bytesP b).take (200 : Int).toNat).drop (0 : Int).toNat).length : Nat) : Int) < k then (((((bytesP b).take (200 : Int).toNat).drop (0 : Int).toNat).length : Nat) : Int) else k) then (0 : Int) else (if (((((bytesP b).take (200 : Int).toNat).drop (0 : Int).toNat).length : Nat) : Int) < k then (((((bytesP b).take (200 : Int).toNat).drop (0 : Int).toNat).length : Nat) : Int) else k)))), (13, .p (ii i))], fsS [(0, [120], X, X.length)] 1 (-1) 3))
        (fun i => i ≤ n) (fun i => n - i) 0 (Nat.zero_le _) (Trim.mk' rfl rfl rfl rfl (Nat.le_refl _)) ?_
      intro i hin
      have hin : i ≤ n := hin
      refine Br.mk (fun hc => ?_) (fun hc => ?_)
      · have hc : i < n := by have := of_decide_eq_true hc; rw [hM] at this; omega
        obtain ⟨y, hy⟩ : ∃ y, B[i]? = some y := ⟨_, List.getElem?_eq_getElem (by omega)⟩
        have ei : IntKind.i64.wrap ((i : Int) + 1) = ((i + 1 : Nat) : Int) := by rw [wrap_i64] <;> omega
        have e64 : IntKind.i64.wrap ((if (0 : Int) > (if (((((bytesP b).take (200 : Int).toNat).drop (0 : Int).toNat).length : Nat) : Int) < k then (((((bytesP b).take (200 : Int).toNat).drop (0 : Int).toNat).length : Nat) : Int) else k) then (0 : Int) else (if (((((bytesP b).take (200 : Int).toNat).drop (0 : Int).toNat).length : Nat) : Int) < k then (((((bytesP b).take (200 : Int).toNat).drop (0 : Int).toNat).length : Nat) : Int) else k)) - 64) = (n : Int) - 64 := by rw [hM, wrap_i64 (by omega) (by omega)]
        have eadd : IntKind.i64.wrap (((bytesP a).length : Int) + (i : Int)) = ((A.length + i : Nat) : Int) := by rw [nA, wrap_i64 (by omega) (by omega)]; omega
        have hk := keep_at (A := A) (g := g) hnB hc y hy
        have hXg : gbl [g] 0 ((A ++ B).take (A.length + n)) A.length = X := by rw [hX]; unfold crB; rw [← hn]
        rw [hXg] at hk
        refine Idx.mk (.int .u8 y.toNat) (Int.natCast_nonneg i) (by rw [eB]; exact bytes_at hy) ?_
        by_cases hq : (i : Int) ≥ (n : Int) - 64
        · refine Br.t (decide_eq_true (show (i : Int) ≥ IntKind.i64.wrap ((if (0 : Int) > (if (((((bytesP b).take (200 : Int).toNat).drop (0 : Int).toNat).length : Nat) : Int) < k then (((((bytesP b).take (200 : Int).toNat).drop (0 : Int).toNat).length : Nat) : Int) else k) then (0 : Int) else (if (((((bytesP b).take (200 : Int).toNat).drop (0 : Int).toNat).length : Nat) : Int) < k then (((((bytesP b).take (200 : Int).toNat).drop (0 : Int).toNat).length : Nat) : Int) else k)) - 64) by rw [e64]; exact hq)) ?_
          rw [if_pos hq] at hk
          refine Idx.mk (.int .u8 (y ^^^ g).toNat) (by rw [eadd]; exact Int.natCast_nonneg _) (by rw [eadd]; exact bytes_at hk) ?_
          refine Br.f (show (((y ^^^ g).toNat : Int) != bits .xor .u8 (y.toNat : Int) (g.toNat : Int)) = false by rw [xor_u8]; simp) ?_
          refine ⟨i + 1, (show i + 1 ≤ n by omega), (show n - (i + 1) < n - i by omega), Nat.le_refl _, Trim.mk' ?_ rfl rfl rfl (Nat.le_refl _)⟩
          refine Eq.trans (b := [_, _, _, _, _, (13, AV.p (ii (IntKind.i64.wrap ((i : Int) + 1))))]) rfl ?_
          first | (rw [ei]; done) | (rw [ei]; rfl)
        · refine Br.f (decide_eq_false (show ¬ (i : Int) ≥ IntKind.i64.wrap ((if (0 : Int) > (if (((((bytesP b).take (200 : Int).toNat).drop (0 : Int).toNat).length : Nat) : Int) < k then (((((bytesP b).take (200 : Int).toNat).drop (0 : Int).toNat).length : Nat) : Int) else k) then (0 : Int) else (if (((((bytesP b).take (200 : Int).toNat).drop (0 : Int).toNat).length : Nat) : Int) < k then (((((bytesP b).take (200 : Int).toNat).drop (0 : Int).toNat).length : Nat) : Int) else k)) - 64) by rw [e64]; exact hq)) ?_
          rw [if_neg hq] at hk
          refine Idx.mk (.int .u8 y.toNat) (by rw [eadd]; exact Int.natCast_nonneg _) (by rw [eadd]; exact bytes_at hk) ?_
          refine Br.f (show ((y.toNat : Int) != (y.toNat : Int)) = false by simp) ?_
          refine ⟨i + 1, (show i + 1 ≤ n by omega), (show n - (i + 1) < n - i by omega), Nat.le_refl _, Trim.mk' ?_ rfl rfl rfl (Nat.le_refl _)⟩
          refine Eq.trans (b := [_, _, _, _, _, (13, AV.p (ii (IntKind.i64.wrap ((i : Int) + 1))))]) rfl ?_
          first | (rw [ei]; done) | (rw [ei]; rfl)
      · refine Cal.frameK [] (known_c _ fun _ => ?_) rfl rfl rfl
        exact h _
    · refine Br.f (decide_eq_false (show ¬ ((bytesP b).length : Int) > 200 by rw [lb]; omega)) ?_
      obtain ⟨A, hA⟩ : ∃ A, A = a := ⟨_, rfl⟩
      have eA : (bytesP a) = bytesP A := by rw [hA]
      have lA : A.length ≤ 200 := by rw [hA]; omega
      obtain ⟨B, hB⟩ : ∃ B, B = b := ⟨_, rfl⟩
      have eB : (bytesP b) = bytesP B := by rw [hB]
      have lB : B.length ≤ 200 := by rw [hB]; omega
      have nA : (bytesP a).length = A.length := by rw [eA, bytesP_len]
      have nB : (bytesP b).length = B.length := by rw [eB, bytesP_len]
      refine new_c _ ?_
      repeat (first | refine Br.t rfl ?_ | refine Br.f rfl ?_)
      have c1 : ∀ K', K' (.p (ii 0)) (fsS [(0, [120], A, 0)] 1 (-1) 1) → Cal Try.prog 11 [fsP, .p (.str [120]), .p (.sl .shr 1 (bytesP a))] (fsS [] 0 (-1) 0) K' := fun K' hK => by
        rw [eA]
        exact append_k [] 0 (-1) 0 (fok_nil _ _ (by decide) (by decide)) [120] A (by decide +kernel) (by decide) (by decide) (by decide) (by omega) _ hK
      refine c1 _ ?_
      repeat (first | refine Br.t rfl ?_ | refine Br.f rfl ?_)
      refine sync_k [(0, [120], A, 0)] 1 (-1) 1 (fok_one (by decide) (by decide) (by omega) (by omega)) [120] (A, 0) rfl (by decide) _ ?_
      repeat (first | refine Br.t rfl ?_ | refine Br.f rfl ?_)
      have c2 : ∀ K', K' (.p (ii 0)) (fsS [(0, [120], A ++ B, A.length)] 1 (-1) 3) → Cal Try.prog 11 [fsP, .p (.str [120]), .p (.sl .shr 1 (bytesP b))] (fsS [(0, [120], A, A.length)] 1 (-1) 2) K' := fun K' hK => by
        rw [eB]
        exact append_k [(0, [120], A, A.length)] 1 (-1) 2 (fok_one (by decide) (by decide) (by omega) (by omega)) [120] B (by decide +kernel) (show 1 < 64 by decide) (by decide) (by decide) (by omega) _ hK
      refine c2 _ ?_
      repeat (first | refine Br.t rfl ?_ | refine Br.f rfl ?_)
      refine Or.inl ?_
      have lAB : (A ++ B).length = A.length + B.length := List.length_append
      obtain ⟨n, hn⟩ : ∃ n, n = kpN [k] 0 (A ++ B) A.length := ⟨_, rfl⟩
      obtain ⟨X, hX⟩ : ∃ X, X = crB [k] [g] 0 (A ++ B) A.length := ⟨_, rfl⟩
      have hnB : n ≤ B.length := by have := kpN_le (keeps := [k]) (i := 0) (b := A ++ B) (l := A.length) (by omega) (by omega); omega
      have hXl : X.length = A.length + n := by rw [hX, hn]; exact crB_len (by omega) (by omega)
      have c3 : ∀ K', K' (.tup []) (fsS [(0, [120], X, X.length)] 1 (-1) 3) → Cal Try.prog 13 [fsP, .p (.sl .clip 1 [ii k]), .p (.sl .clip 1 [.int .u8 g.toNat])] (fsS [(0, [120], A ++ B, A.length)] 1 (-1) 3) K' := fun K' hK =>
        crash_w [(0, [120], A ++ B, A.length)] 1 (-1) 3 (fok_one (by decide) (by decide) (by omega) (by omega)) (fi_one (by decide)) [k] [g] _ _ .shr .shr _ (fun ns hp _ => by
          have := perm_one hp; subst this
          rw [hX] at hK
          exact hK)
      refine c3 _ ?_
      refine read_c [(0, [120], X, X.length)] 1 (-1) 3 (fok_one (by decide) (by decide) (by omega) (by omega)) [120] _ ?_
      have hw : IntKind.i64.wrap (((bytesP (A ++ B)).length : Int) - A.length) = B.length := by rw [bytesP_len, wrap_i64 (by omega) (by omega)]; omega
      have hM : (if (0 : Int) > (if (((bytesP b).length : Nat) : Int) < k then (((bytesP b).length : Nat) : Int) else k) then (0 : Int) else (if (((bytesP b).length : Nat) : Int) < k then (((bytesP b).length : Nat) : Int) else k)) = (n : Int) := by
        rw [hn, nB]
        show _ = ((kpI k (A ++ B) A.length).toNat : Int)
        unfold kpI
        rw [hw]
        repeat' split
        all_goals omega
      have lX := bytesP_len X
      have f72 : (((bytesP X).length : Int) != IntKind.i64.wrap (((bytesP a).length : Int) + (if (0 : Int) > (if (((bytesP b).length : Nat) : Int) < k then (((bytesP b).length : Nat) : Int) else k) then (0 : Int) else (if (((bytesP b).length : Nat) : Int) < k then (((bytesP b).length : Nat) : Int) else k)))) = false := by
        rw [hM, nA, lX, wrap_i64 (by omega) (by omega), hXl]; simp
      have f72b : ((((bytesP X).length : Int) != IntKind.i64.wrap (((bytesP a).length : Int) + (if (0 : Int) > (if (((bytesP b).length : Nat) : Int) < k then (((bytesP b).length : Nat) : Int) else k) then (0 : Int) else (if (((bytesP b).length : Nat) : Int) < k then (((bytesP b).length : Nat) : Int) else k)))) == false) = true := by rw [f72]; rfl
      have cX : ((bytesP X).take (((bytesP a).length : Nat) : Int).toNat).drop (0 : Int).toNat = bytesP A := by
        rw [cut_b (m := A.length) (by rw [nA])]
        rw [hX]; unfold crB
        rw [gbl_take, ← hn, List.take_take, Nat.min_eq_left (by omega), List.take_left]
      iterate 3 refine ⟨_, ⟨rfl, rfl⟩, ?_⟩
      iterate 7 (refine Br.t rfl ?_; refine ⟨_, ⟨rfl, rfl⟩, ?_⟩)
      refine ⟨_, Br.f rfl ⟨rfl, rfl⟩, ?_⟩
      refine ⟨_, ⟨rfl, rfl⟩, ?_⟩
      iterate 3 (refine Br.t f72b ?_; refine ⟨_, ⟨rfl, rfl⟩, ?_⟩)
      refine Br.t f72b ?_
      refine ⟨_, Ob.mk ⟨Int.le_refl 0, Int.natCast_nonneg _, (show (((bytesP a).length : Nat) : Int) ≤ ((bytesP X).length : Int) by rw [nA, lX]; omega)⟩ ⟨rfl, rfl⟩, ?_⟩
      refine Br.t f72b ?_
      refine ⟨_, Ob.mk (.inr rfl) ⟨A, cX, ⟨rfl, rfl⟩⟩, ?_⟩
      refine Br.t f72b ?_
      refine ⟨_, ⟨rfl, rfl⟩, ?_⟩
      refine Br.t f72b ?_
      refine ⟨_, Ob.mk (.inr rfl) ⟨A, eA, ⟨rfl, rfl⟩⟩, ?_⟩
      refine Br.t f72b ?_
      refine ⟨_, ⟨rfl, rfl⟩, ?_⟩
      refine ⟨_, Br.f f72 ⟨rfl, rfl⟩, ?_⟩
      refine Chk.mk (by kernel_rfl) ?_
      refine Br.f (show (!(A == A)) = false by simp) ?_
      refine LoopX.fam [0, 1, 3, 10, 12, 13] (fun (i : Nat) => ([(0, .p (.sl .shr 1 (bytesP a))), (1, .p (.sl .shr 1 (bytesP b))), (3, .p (.int .u8 g.toNat)), (10, .p (bsl X)), (12, .p (ii (if (0 : Int) > (if (((bytesP b).length : Nat) : Int) < k then (((bytesP b).length : Nat) : Int) else k) then (0 : Int) else (if (((bytesP b).length : Nat) : Int) < k then (((bytesP b).length : Nat) : Int) else k)))), (13, .p (ii i))], fsS [(0, [120], X, X.length)] 1 (-1) 3))
        (fun i => i ≤ n) (fun i => n - i) 0 (Nat.zero_le _) (Trim.mk' rfl rfl rfl rfl (Nat.le_refl _)) ?_
      intro i hin
      have hin : i ≤ n := hin
      refine Br.mk (fun hc => ?_) (fun hc => ?_)
      · have hc : i < n := by have := of_decide_eq_true hc; rw [hM] at this; omega
        obtain ⟨y, hy⟩ : ∃ y, B[i]? = some y := ⟨_, List.getElem?_eq_getElem (by omega)⟩
        have ei : IntKind.i64.wrap ((i : Int) + 1) = ((i + 1 : Nat) : Int) := by rw [wrap_i64] <;> omega
        have e64 : IntKind.i64.wrap ((if (0 : Int) > (if (((bytesP b).length : Nat) : Int) < k then (((bytesP b).length : Nat) : Int) else k) then (0 : Int) else (if (((bytesP b).length : Nat) : Int) < k then (((bytesP b).length : Nat) : Int) else k)) - 64) = (n : Int) - 64 := by rw [hM, wrap_i64 (by omega) (by omega)]
        have eadd : IntKind.i64.wrap (((bytesP a).length : Int) + (i : Int)) = ((A.length + i : Nat) : Int) := by rw [nA, wrap_i64 (by omega) (by omega)]; omega
        have hk := keep_at (A := A) (g := g) hnB hc y hy
        have hXg : gbl [g] 0 ((A ++ B).take (A.length + n)) A.length = X := by rw [hX]; unfold crB; rw [← hn]
        rw [hXg] at hk
        refine Idx.mk (.int .u8 y.toNat) (Int.natCast_nonneg i) (by rw [eB]; exact bytes_at hy) ?_
        by_cases hq : (i : Int) ≥ (n : Int) - 64
        · refine Br.t (decide_eq_true (show (i : Int) ≥ IntKind.i64.wrap ((if (0 : Int) > (if (((bytesP b).length : Nat) : Int) < k then (((bytesP b).length : Nat) : Int) else k) then (0 : Int) else (if (((bytesP b).length : Nat) : Int) < k then (((bytesP b).length : Nat) : Int) else k)) - 64) by rw [e64]; exact hq)) ?_
          rw [if_pos hq] at hk
          refine Idx.mk (.int .u8 (y ^^^ g).toNat) (by rw [eadd]; exact Int.natCast_nonneg _) (by rw [eadd]; exact bytes_at hk) ?_
          refine Br.f (show (((y ^^^ g).toNat : Int) != bits .xor .u8 (y.toNat : Int) (g.toNat : Int)) = false by rw [xor_u8]; simp) ?_
          refine ⟨i + 1, (show i + 1 ≤ n by omega), (show n - (i + 1) < n - i by omega), Nat.le_refl _, Trim.mk' ?_ rfl rfl rfl (Nat.le_refl _)⟩
          refine Eq.trans (b := [_, _, _, _, _, (13, AV.p (ii (IntKind.i64.wrap ((i : Int) + 1))))]) rfl ?_
          first | (rw [ei]; done) | (rw [ei]; rfl)
        · refine Br.f (decide_eq_false (show ¬ (i : Int) ≥ IntKind.i64.wrap ((if (0 : Int) > (if (((bytesP b).length : Nat) : Int) < k then (((bytesP b).length : Nat) : Int) else k) then (0 : Int) else (if (((bytesP b).length : Nat) : Int) < k then (((bytesP b).length : Nat) : Int) else k)) - 64) by rw [e64]; exact hq)) ?_
          rw [if_neg hq] at hk
          refine Idx.mk (.int .u8 y.toNat) (by rw [eadd]; exact Int.natCast_nonneg _) (by rw [eadd]; exact bytes_at hk) ?_
          refine Br.f (show ((y.toNat : Int) != (y.toNat : Int)) = false by simp) ?_
          refine ⟨i + 1, (show i + 1 ≤ n by omega), (show n - (i + 1) < n - i by omega), Nat.le_refl _, Trim.mk' ?_ rfl rfl rfl (Nat.le_refl _)⟩
          refine Eq.trans (b := [_, _, _, _, _, (13, AV.p (ii (IntKind.i64.wrap ((i : Int) + 1))))]) rfl ?_
          first | (rw [ei]; done) | (rw [ei]; rfl)
      · refine Cal.frameK [] (known_c _ fun _ => ?_) rfl rfl rfl
        exact h _
end Go.Proofs.Ytneheklmkbhieaa.AW
