/- A part of the proof: LF/F10, LF/F11. -/
import Derived.Test.YtneheklmkbhieaaP9
open Go Go.Proofs.Ytneheklmkbhieaa.AW Go.Proofs
namespace Go.Proofs.Ytneheklmkbhieaa.AW
set_option maxRecDepth 100000
set_option linter.unusedSimpArgs false
set_option linter.unusedVariables false

/-! ### FilesKeep -/
theorem xorF_get (c : List UInt8) (a b : Nat) (g : UInt8) (j : Nat) : (xorF c a b g)[j]? = c[j]?.map fun x => if a ≤ j ∧ j < b then x ^^^ g else x := by
  unfold xorF
  rw [List.getElem?_mapIdx]
theorem gbl_take (garble : List UInt8) (i : Nat) (c : List UInt8) (l : Nat) : (gbl garble i c l).take l = c.take l := by
  unfold gbl
  cases garble[i]? with
  | none => rfl
  | some g =>
    simp only
    apply List.ext_getElem?
    intro j
    rw [List.getElem?_take, List.getElem?_take]
    by_cases h : j < l
    · rw [if_pos h, if_pos h, xorF_get]
      cases c[j]? with
      | none => rfl
      | some x => show some (if _ then _ else _) = _; rw [if_neg (by omega)]
    · rw [if_neg h, if_neg h]
theorem keep_at {A B : List UInt8} {g : UInt8} {n i : Nat} (hn : n ≤ B.length) (hi : i < n) (x : UInt8) (hx : B[i]? = some x) :
    (gbl [g] 0 ((A ++ B).take (A.length + n)) A.length)[A.length + i]? = some (if (i : Int) ≥ (n : Int) - 64 then x ^^^ g else x) := by
  show (xorF ((A ++ B).take (A.length + n)) (max A.length (((A ++ B).take (A.length + n)).length - 64)) ((A ++ B).take (A.length + n)).length g)[A.length + i]? = _
  have hl : ((A ++ B).take (A.length + n)).length = A.length + n := by rw [List.length_take, List.length_append]; omega
  rw [xorF_get, hl, List.getElem?_take, if_pos (by omega), List.getElem?_append_right (by omega), Nat.add_sub_cancel_left, hx]
  show some (if _ then _ else _) = _
  by_cases h : (i : Int) ≥ (n : Int) - 64
  · rw [if_pos h, if_pos (by omega)]
  · rw [if_neg h, if_neg (by omega)]

set_option maxHeartbeats 8000000 in
theorem filesKeep_c (a b : List UInt8) (k : Int) (g : UInt8) (K : AV → Store → Prop) (h : ∀ s, K (.p (.bool true)) s) : Cal Try.prog 3 [.p (bsl a), .p (bsl b), .p (ii k), .p (.int .u8 g.toNat)] [] K := by
  refine Cal.intro Try.func3 (by decide +kernel) rfl rfl ?_
  have la := bytesP_len a
  have lb := bytesP_len b
  by_cases ha : 200 < a.length
  · refine Br.t (decide_eq_true (show ((bytesP a).length : Int) > 200 by rw [la]; omega)) ?_
    refine Ob.mk ⟨Int.le_refl 0, (by decide), (show (200 : Int) ≤ ((bytesP a).length : Int) by rw [la]; omega)⟩ ?_
    by_cases hb : 200 < b.length
    · refine Br.t (decide_eq_true (show ((bytesP b).length : Int) > 200 by rw [lb]; omega)) ?_
      refine Ob.mk ⟨Int.le_refl 0, (by decide), (show (200 : Int) ≤ ((bytesP b).length : Int) by rw [lb]; omega)⟩ ?_
      obtain ⟨A, hA⟩ : ∃ A, A = a.take 200 := ⟨_, rfl⟩
      have eA : (((bytesP a).take (200 : Int).toNat).drop (0 : Int).toNat) = bytesP A := by rw [hA]; exact cut_b rfl
      have lA : A.length ≤ 200 := by rw [hA]; rw [List.length_take]; omega
      obtain ⟨B, hB⟩ : ∃ B, B = b.take 200 := ⟨_, rfl⟩
      have eB : (((bytesP b).take (200 : Int).toNat).drop (0 : Int).toNat) = bytesP B := by rw [hB]; exact cut_b rfl
      have lB : B.length ≤ 200 := by rw [hB]; rw [List.length_take]; omega
      have nA : (((bytesP a).take (200 : Int).toNat).drop (0 : Int).toNat).length = A.length := by rw [eA, bytesP_len]
      have nB : (((bytesP b).take (200 : Int).toNat).drop (0 : Int).toNat).length = B.length := by rw [eB, bytesP_len]
      refine new_c _ ?_
      repeat (first | refine Br.t rfl ?_ | refine Br.f rfl ?_)
      have c1 : ∀ K', K' (.p (ii 0)) (fsS [(0, [120], A, 0)] 1 (-1) 1) → Cal Try.prog 11 [fsP, .p (.str [120]), .p (.sl .shr 1 (((bytesP a).take (200 : Int).toNat).drop (0 : Int).toNat))] (fsS [] 0 (-1) 0) K' := fun K' hK => by
        rw [eA]
        exact append_k [] 0 (-1) 0 (fok_nil _ _ (by decide) (by decide)) [120] A (by decide +kernel) (by decide) (by decide) (by decide) (by omega) _ hK
      refine c1 _ ?_
      repeat (first | refine Br.t rfl ?_ | refine Br.f rfl ?_)
      refine sync_k [(0, [120], A, 0)] 1 (-1) 1 (fok_one (by decide) (by decide) (by omega) (by omega)) [120] (A, 0) rfl (by decide) _ ?_
      repeat (first | refine Br.t rfl ?_ | refine Br.f rfl ?_)
      have c2 : ∀ K', K' (.p (ii 0)) (fsS [(0, [120], A ++ B, A.length)] 1 (-1) 3) → Cal Try.prog 11 [fsP, .p (.str [120]), .p (.sl .shr 1 (((bytesP b).take (200 : Int).toNat).drop (0 : Int).toNat))] (fsS [(0, [120], A, A.length)] 1 (-1) 2) K' := fun K' hK => by
        rw [eB]
        exact append_k [(0, [120], A, A.length)] 1 (-1) 2 (fok_one (by decide) (by decide) (by omega) (by omega)) [120] B (by decide +kernel) (show 1 < 64 by decide) (by decide) (by decide) (by omega) _ hK
      refine c2 _ ?_
      repeat (first | refine Br.t rfl ?_ | refine Br.f rfl ?_)
      refine Or.inl ?_
      have lAB : (A ++ B).length = A.length + B.length := List.length_append
      obtain ⟨n, hn⟩ : ∃ n, n = kpN [k] 0 (A ++ B) A.length := ⟨_, rfl⟩
      obtain ⟨X, hX⟩ : ∃ X, X = crB [k] [g] 0 (A ++ B) A.length := ⟨_, rfl⟩
      have hnB : n ≤ B.length := by have := kpN_le (keeps := [k]) (i := 0) (b := A ++ B) (l := A.length) (by omega) (by omega); omega
      have hXl : X.length = A.length + n := by rw [hX, hn]; exact crB_len (by omega) (by omega)
      have c3 : ∀ K', K' (.tup []) (fsS [(0, [120], X, X.length)] 1 (-1) 3) → Cal Try.prog 13 [fsP, .p (.sl .clip 1 [ii k]), .p (.sl .clip 1 [.int .u8 g.toNat])] (fsS [(0, [120], A ++ B, A.length)] 1 (-1) 3) K' := fun K' hK =>
        crash_w [(0, [120], A ++ B, A.length)] 1 (-1) 3 (fok_one (by decide) (by decide) (by omega) (by omega)) (fi_one (by decide)) [k] [g] _ _ .shr .shr _ (fun ns hp _ => by
          have := perm_one hp; subst this
          rw [hX] at hK
          exact hK)
      refine c3 _ ?_
      refine read_c [(0, [120], X, X.length)] 1 (-1) 3 (fok_one (by decide) (by decide) (by omega) (by omega)) [120] _ ?_
      have hw : IntKind.i64.wrap (((bytesP (A ++ B)).length : Int) - A.length) = B.length := by rw [bytesP_len, wrap_i64 (by omega) (by omega)]; omega
      have hM : (if (0 : Int) > (if (((((bytesP b).take (200 : Int).toNat).drop (0 : Int).toNat).length : Nat) : Int) < k then (((((bytesP b).take (200 : Int).toNat).drop (0 : Int).toNat).length : Nat) : Int) else k) then (0 : Int) else (if (((((bytesP b).take (200 : Int).toNat).drop (0 : Int).toNat).length : Nat) : Int) < k then (((((bytesP b).take (200 : Int).toNat).drop (0 : Int).toNat).length : Nat) : Int) else k)) = (n : Int) := by
        rw [hn, nB]
        show _ = ((kpI k (A ++ B) A.length).toNat : Int)
        unfold kpI
        rw [hw]
        repeat' split
        all_goals omega
      have lX := bytesP_len X
      have f72 : (((bytesP X).length : Int) != IntKind.i64.wrap (((((bytesP a).take (200 : Int).toNat).drop (0 : Int).toNat).length : Int) + (if (0 : Int) > (if (((((bytesP b).take (200 : Int).toNat).drop (0 : Int).toNat).length : Nat) : Int) < k then (((((bytesP b).take (200 : Int).toNat).drop (0 : Int).toNat).length : Nat) : Int) else k) then (0 : Int) else (if (((((bytesP b).take (200 : Int).toNat).drop (0 : Int).toNat).length : Nat) : Int) < k then (((((bytesP b).take (200 : Int).toNat).drop (0 : Int).toNat).length : Nat) : Int) else k)))) = false := by
        rw [hM, nA, lX, wrap_i64 (by omega) (by omega), hXl]; simp
      have f72b : ((((bytesP X).length : Int) != IntKind.i64.wrap (((((bytesP a).take (200 : Int).toNat).drop (0 : Int).toNat).length : Int) + (if (0 : Int) > (if (((((bytesP b).take (200 : Int).toNat).drop (0 : Int).toNat).length : Nat) : Int) < k then (((((bytesP b).take (200 : Int).toNat).drop (0 : Int).toNat).length : Nat) : Int) else k) then (0 : Int) else (if (((((bytesP b).take (200 : Int).toNat).drop (0 : Int).toNat).length : Nat) : Int) < k then (((((bytesP b).take (200 : Int).toNat).drop (0 : Int).toNat).length : Nat) : Int) else k)))) == false) = true := by rw [f72]; rfl
      have cX : ((bytesP X).take (((((bytesP a).take (200 : Int).toNat).drop (0 : Int).toNat).length : Nat) : Int).toNat).drop (0 : Int).toNat = bytesP A := by
        rw [cut_b (m := A.length) (by rw [nA])]
        rw [hX]; unfold crB
        rw [gbl_take, ← hn, List.take_take, Nat.min_eq_left (by omega), List.take_left]
      iterate 3 refine ⟨_, ⟨rfl, rfl⟩, ?_⟩
      iterate 7 (refine Br.t rfl ?_; refine ⟨_, ⟨rfl, rfl⟩, ?_⟩)
      refine ⟨_, Br.f rfl ⟨rfl, rfl⟩, ?_⟩
      refine ⟨_, ⟨rfl, rfl⟩, ?_⟩
      iterate 3 (refine Br.t f72b ?_; refine ⟨_, ⟨rfl, rfl⟩, ?_⟩)
      refine Br.t f72b ?_
      refine ⟨_, Ob.mk ⟨Int.le_refl 0, Int.natCast_nonneg _, (show (((((bytesP a).take (200 : Int).toNat).drop (0 : Int).toNat).length : Nat) : Int) ≤ ((bytesP X).length : Int) by rw [nA, lX]; omega)⟩ ⟨rfl, rfl⟩, ?_⟩
      refine Br.t f72b ?_
      refine ⟨_, Ob.mk (.inr rfl) ⟨A, cX, ⟨rfl, rfl⟩⟩, ?_⟩
      refine Br.t f72b ?_
      refine ⟨_, ⟨rfl, rfl⟩, ?_⟩
      refine Br.t f72b ?_
      refine ⟨_, Ob.mk (.inr rfl) ⟨A, eA, ⟨rfl, rfl⟩⟩, ?_⟩
      refine Br.t f72b ?_
      refine ⟨_, ⟨rfl, rfl⟩, ?_⟩
      refine ⟨_, Br.f f72 ⟨rfl, rfl⟩, ?_⟩
      refine Chk.mk (by kernel_rfl) ?_
      refine Br.f (show (!(A == A)) = false by simp) ?_
      refine LoopX.fam [0, 1, 3, 10, 12, 13] (fun (i : Nat) => ([(0, .p (.sl .shr 1 (((bytesP a).take (200 : Int).toNat).drop (0 : Int).toNat))), (1, .p (.sl .shr 1 (((bytesP b).take (200 : Int).toNat).drop (0 : Int).toNat))), (3, .p (.int .u8 g.toNat)), (10, .p (bsl X)), (12, .p (ii (if (0 : Int) > (if (((((bytesP b).take (200 : Int).toNat).drop (0 : Int).toNat).length : Nat) : Int) < k then (((((bytesP b).take (200 : Int).toNat).drop (0 : Int).toNat).length : Nat) : Int) else k) then (0 : Int) else (if (((((bytesP b).take (200 : Int).toNat).drop (0 : Int).toNat).length : Nat) : Int) < k then (((((bytesP b).take (200 : Int).toNat).drop (0 : Int).toNat).length : Nat) : Int) else k)))), (13, .p (ii i))], fsS [(0, [120], X, X.length)] 1 (-1) 3))
        (fun i => i ≤ n) (fun i => n - i) 0 (Nat.zero_le _) (Trim.mk' rfl rfl rfl rfl (Nat.le_refl _)) ?_
      intro i hin
      have hin : i ≤ n := hin
      refine Br.mk (fun hc => ?_) (fun hc => ?_)
      · have hc : i < n := by have := of_decide_eq_true hc; rw [hM] at this; omega
        obtain ⟨y, hy⟩ : ∃ y, B[i]? = some y := ⟨_, List.getElem?_eq_getElem (by omega)⟩
        have ei : IntKind.i64.wrap ((i : Int) + 1) = ((i + 1 : Nat) : Int) := by rw [wrap_i64] <;> omega
        have e64 : IntKind.i64.wrap ((if (0 : Int) > (if (((((bytesP b).take (200 : Int).toNat).drop (0 : Int).toNat).length : Nat) : Int) < k then (((((bytesP b).take (200 : Int).toNat).drop (0 : Int).toNat).length : Nat) : Int) else k) then (0 : Int) else (if (((((bytesP b).take (200 : Int).toNat).drop (0 : Int).toNat).length : Nat) : Int) < k then (((((bytesP b).take (200 : Int).toNat).drop (0 : Int).toNat).length : Nat) : Int) else k)) - 64) = (n : Int) - 64 := by rw [hM, wrap_i64 (by omega) (by omega)]
        have eadd : IntKind.i64.wrap (((((bytesP a).take (200 : Int).toNat).drop (0 : Int).toNat).length : Int) + (i : Int)) = ((A.length + i : Nat) : Int) := by rw [nA, wrap_i64 (by omega) (by omega)]; omega
        have hk := keep_at (A := A) (g := g) hnB hc y hy
        have hXg : gbl [g] 0 ((A ++ B).take (A.length + n)) A.length = X := by rw [hX]; unfold crB; rw [← hn]
        rw [hXg] at hk
        refine Idx.mk (.int .u8 y.toNat) (Int.natCast_nonneg i) (by rw [eB]; exact bytes_at hy) ?_
        by_cases hq : (i : Int) ≥ (n : Int) - 64
        · refine Br.t (decide_eq_true (show (i : Int) ≥ IntKind.i64.wrap ((if (0 : Int) > (if (((((bytesP b).take (200 : Int).toNat).drop (0 : Int).toNat).length : Nat) : Int) < k then (((((bytesP b).take (200 : Int).toNat).drop (0 : Int).toNat).length : Nat) : Int) else k) then (0 : Int) else (if (((((bytesP b).take (200 : Int).toNat).drop (0 : Int).toNat).length : Nat) : Int) < k then (((((bytesP b).take (200 : Int).toNat).drop (0 : Int).toNat).length : Nat) : Int) else k)) - 64) by rw [e64]; exact hq)) ?_
          rw [if_pos hq] at hk
          refine Idx.mk (.int .u8 (y ^^^ g).toNat) (by rw [eadd]; exact Int.natCast_nonneg _) (by rw [eadd]; exact bytes_at hk) ?_
          refine Br.f (show (((y ^^^ g).toNat : Int) != bits .xor .u8 (y.toNat : Int) (g.toNat : Int)) = false by rw [xor_u8]; simp) ?_
          refine ⟨i + 1, (show i + 1 ≤ n by omega), (show n - (i + 1) < n - i by omega), Nat.le_refl _, Trim.mk' ?_ rfl rfl rfl (Nat.le_refl _)⟩
          refine Eq.trans (b := [_, _, _, _, _, (13, AV.p (ii (IntKind.i64.wrap ((i : Int) + 1))))]) rfl ?_
          first | (rw [ei]; done) | (rw [ei]; rfl)
        · refine Br.f (decide_eq_false (show ¬ (i : Int) ≥ IntKind.i64.wrap ((if (0 : Int) > (if (((((bytesP b).take (200 : Int).toNat).drop (0 : Int).toNat).length : Nat) : Int) < k then (((((bytesP b).take (200 : Int).toNat).drop (0 : Int).toNat).length : Nat) : Int) else k) then (0 : Int) else (if (((((bytesP b).take (200 : Int).toNat).drop (0 : Int).toNat).length : Nat) : Int) < k then (((((bytesP b).take (200 : Int).toNat).drop (0 : Int).toNat).length : Nat) : Int) else k)) - 64) by rw [e64]; exact hq)) ?_
          rw [if_neg hq] at hk
          refine Idx.mk (.int .u8 y.toNat) (by rw [eadd]; exact Int.natCast_nonneg _) (by rw [eadd]; exact bytes_at hk) ?_
          refine Br.f (show ((y.toNat : Int) != (y.toNat : Int)) = false by simp) ?_
          refine ⟨i + 1, (show i + 1 ≤ n by omega), (show n - (i + 1) < n - i by omega), Nat.le_refl _, Trim.mk' ?_ rfl rfl rfl (Nat.le_refl _)⟩
          refine Eq.trans (b := [_, _, _, _, _, (13, AV.p (ii (IntKind.i64.wrap ((i : Int) + 1))))]) rfl ?_
          first | (rw [ei]; done) | (rw [ei]; rfl)
      · refine Cal.frameK [] (known_c _ fun _ => ?_) rfl rfl rfl
        exact h _
    · refine Br.f (decide_eq_false (show ¬ ((bytesP b).length : Int) > 200 by rw [lb]; omega)) ?_
      obtain ⟨A, hA⟩ : ∃ A, A = a.take 200 := ⟨_, rfl⟩
      have eA : (((bytesP a).take (200 : Int).toNat).drop (0 : Int).toNat) = bytesP A := by rw [hA]; exact cut_b rfl
      have lA : A.length ≤ 200 := by rw [hA]; rw [List.length_take]; omega
      obtain ⟨B, hB⟩ : ∃ B, B = b := ⟨_, rfl⟩
      have eB : (bytesP b) = bytesP B := by rw [hB]
      have lB : B.length ≤ 200 := by rw [hB]; omega
      have nA : (((bytesP a).take (200 : Int).toNat).drop (0 : Int).toNat).length = A.length := by rw [eA, bytesP_len]
      have nB : (bytesP b).length = B.length := by rw [eB, bytesP_len]
      refine new_c _ ?_
      repeat (first | refine Br.t rfl ?_ | refine Br.f rfl ?_)
      have c1 : ∀ K', K' (.p (ii 0)) (fsS [(0, [120], A, 0)] 1 (-1) 1) → Cal Try.prog 11 [fsP, .p (.str [120]), .p (.sl .shr 1 (((bytesP a).take (200 : Int).toNat).drop (0 : Int).toNat))] (fsS [] 0 (-1) 0) K' := fun K' hK => by
        rw [eA]
        exact append_k [] 0 (-1) 0 (fok_nil _ _ (by decide) (by decide)) [120] A (by decide +kernel) (by decide) (by decide) (by decide) (by omega) _ hK
      refine c1 _ ?_
      repeat (first | refine Br.t rfl ?_ | refine Br.f rfl ?_)
      refine sync_k [(0, [120], A, 0)] 1 (-1) 1 (fok_one (by decide) (by decide) (by omega) (by omega)) [120] (A, 0) rfl (by decide) _ ?_
      repeat (first | refine Br.t rfl ?_ | refine Br.f rfl ?_)
      have c2 : ∀ K', K' (.p (ii 0)) (fsS [(0, [120], A ++ B, A.length)] 1 (-1) 3) → Cal Try.prog 11 [fsP, .p (.str [120]), .p (.sl .shr 1 (bytesP b))] (fsS [(0, [120], A, A.length)] 1 (-1) 2) K' := fun K' hK => by
        rw [eB]
        exact append_k [(0, [120], A, A.length)] 1 (-1) 2 (fok_one (by decide) (by decide) (by omega) (by omega)) [120] B (by decide +kernel) (show 1 < 64 by decide) (by decide) (by decide) (by omega) _ hK
      refine c2 _ ?_
      repeat (first | refine Br.t rfl ?_ | refine Br.f rfl ?_)
      refine Or.inl ?_
      have lAB : (A ++ B).length = A.length + B.length := List.length_append
      obtain ⟨n, hn⟩ : ∃ n, n = kpN [k] 0 (A ++ B) A.length := ⟨_, rfl⟩
      obtain ⟨X, hX⟩ : ∃ X, X = crB [k] [g] 0 (A ++ B) A.length := ⟨_, rfl⟩
      have hnB : n ≤ B.length := by have := kpN_le (keeps := [k]) (i := 0) (b := A ++ B) (l := A.length) (by omega) (by omega); omega
      have hXl : X.length = A.length + n := by rw [hX, hn]; exact crB_len (by omega) (by omega)
      have c3 : ∀ K', K' (.tup []) (fsS [(0, [120], X, X.length)] 1 (-1) 3) → Cal Try.prog 13 [fsP, .p (.sl .clip 1 [ii k]), .p (.sl .clip 1 [.int .u8 g.toNat])] (fsS [(0, [120], A ++ B, A.length)] 1 (-1) 3) K' := fun K' hK =>
        crash_w [(0, [120], A ++ B, A.length)] 1 (-1) 3 (fok_one (by decide) (by decide) (by omega) (by omega)) (fi_one (by decide)) [k] [g] _ _ .shr .shr _ (fun ns hp _ => by
          have := perm_one hp; subst this
          rw [hX] at hK
          exact hK)
      refine c3 _ ?_
      refine read_c [(0, [120], X, X.length)] 1 (-1) 3 (fok_one (by decide) (by decide) (by omega) (by omega)) [120] _ ?_
      have hw : IntKind.i64.wrap (((bytesP (A ++ B)).length : Int) - A.length) = B.length := by rw [bytesP_len, wrap_i64 (by omega) (by omega)]; omega
      have hM : (if (0 : Int) > (if (((bytesP b).length : Nat) : Int) < k then (((bytesP b).length : Nat) : Int) else k) then (0 : Int) else (if (((bytesP b).length : Nat) : Int) < k then (((bytesP b).length : Nat) : Int) else k)) = (n : Int) := by
        rw [hn, nB]
        show _ = ((kpI k (A ++ B) A.length).toNat : Int)
        unfold kpI
        rw [hw]
        repeat' split
        all_goals omega
      have lX := bytesP_len X
      have f72 : (((bytesP X).length : Int) != IntKind.i64.wrap (((((bytesP a).take (200 : Int).toNat).drop (0 : Int).toNat).length : Int) + (if (0 : Int) > (if (((bytesP b).length : Nat) : Int) < k then (((bytesP b).length : Nat) : Int) else k) then (0 : Int) else (if (((bytesP b).length : Nat) : Int) < k then (((bytesP b).length : Nat) : Int) else k)))) = false := by
        rw [hM, nA, lX, wrap_i64 (by omega) (by omega), hXl]; simp
      have f72b : ((((bytesP X).length : Int) != IntKind.i64.wrap (((((bytesP a).take (200 : Int).toNat).drop (0 : Int).toNat).length : Int) + (if (0 : Int) > (if (((bytesP b).length : Nat) : Int) < k then (((bytesP b).length : Nat) : Int) else k) then (0 : Int) else (if (((bytesP b).length : Nat) : Int) < k then (((bytesP b).length : Nat) : Int) else k)))) == false) = true := by rw [f72]; rfl
      have cX : ((bytesP X).take (((((bytesP a).take (200 : Int).toNat).drop (0 : Int).toNat).length : Nat) : Int).toNat).drop (0 : Int).toNat = bytesP A := by
        rw [cut_b (m := A.length) (by rw [nA])]
        rw [hX]; unfold crB
        rw [gbl_take, ← hn, List.take_take, Nat.min_eq_left (by omega), List.take_left]
      iterate 3 refine ⟨_, ⟨rfl, rfl⟩, ?_⟩
      iterate 7 (refine Br.t rfl ?_; refine ⟨_, ⟨rfl, rfl⟩, ?_⟩)
      refine ⟨_, Br.f rfl ⟨rfl, rfl⟩, ?_⟩
      refine ⟨_, ⟨rfl, rfl⟩, ?_⟩
      iterate 3 (refine Br.t f72b ?_; refine ⟨_, ⟨rfl, rfl⟩, ?_⟩)
      refine Br.t f72b ?_
      refine ⟨_, Ob.mk ⟨Int.le_refl 0, Int.natCast_nonneg _, (show (((((bytesP a).take (200 : Int).toNat).drop (0 : Int).toNat).length : Nat) : Int) ≤ ((bytesP X).length : Int) by rw [nA, lX]; omega)⟩ ⟨rfl, rfl⟩, ?_⟩
      refine Br.t f72b ?_
      refine ⟨_, Ob.mk (.inr rfl) ⟨A, cX, ⟨rfl, rfl⟩⟩, ?_⟩
      refine Br.t f72b ?_
      refine ⟨_, ⟨rfl, rfl⟩, ?_⟩
      refine Br.t f72b ?_
      refine ⟨_, Ob.mk (.inr rfl) ⟨A, eA, ⟨rfl, rfl⟩⟩, ?_⟩
      refine Br.t f72b ?_
      refine ⟨_, ⟨rfl, rfl⟩, ?_⟩
      refine ⟨_, Br.f f72 ⟨rfl, rfl⟩, ?_⟩
      refine Chk.mk (by kernel_rfl) ?_
      refine Br.f (show (!(A == A)) = false by simp) ?_
      refine LoopX.fam [0, 1, 3, 10, 12, 13] (fun (i : Nat) => ([(0, .p (.sl .shr 1 (((bytesP a).take (200 : Int).toNat).drop (0 : Int).toNat))), (1, .p (.sl .shr 1 (bytesP b))), (3, .p (.int .u8 g.toNat)), (10, .p (bsl X)), (12, .p (ii (if (0 : Int) > (if (((bytesP b).length : Nat) : Int) < k then (((bytesP b).length : Nat) : Int) else k) then (0 : Int) else (if (((bytesP b).length : Nat) : Int) < k then (((bytesP b).length : Nat) : Int) else k)))), (13, .p (ii i))], fsS [(0, [120], X, X.length)] 1 (-1) 3))
        (fun i => i ≤ n) (fun i => n - i) 0 (Nat.zero_le _) (Trim.mk' rfl rfl rfl rfl (Nat.le_refl _)) ?_
      intro i hin
      have hin : i ≤ n := hin
      refine Br.mk (fun hc => ?_) (fun hc => ?_)
      · have hc : i < n := by have := of_decide_eq_true hc; rw [hM] at this; omega
        obtain ⟨y, hy⟩ : ∃ y, B[i]? = some y := ⟨_, List.getElem?_eq_getElem (by omega)⟩
        have ei : IntKind.i64.wrap ((i : Int) + 1) = ((i + 1 : Nat) : Int) := by rw [wrap_i64] <;> omega
        have e64 : IntKind.i64.wrap ((if (0 : Int) > (if (((bytesP b).length : Nat) : Int) < k then (((bytesP b).length : Nat) : Int) else k) then (0 : Int) else (if (((bytesP b).length : Nat) : Int) < k then (((bytesP b).length : Nat) : Int) else k)) - 64) = (n : Int) - 64 := by rw [hM, wrap_i64 (by omega) (by omega)]
        have eadd : IntKind.i64.wrap (((((bytesP a).take (200 : Int).toNat).drop (0 : Int).toNat).length : Int) + (i : Int)) = ((A.length + i : Nat) : Int) := by rw [nA, wrap_i64 (by omega) (by omega)]; omega
        have hk := keep_at (A := A) (g := g) hnB hc y hy
        have hXg : gbl [g] 0 ((A ++ B).take (A.length + n)) A.length = X := by rw [hX]; unfold crB; rw [← hn]
        rw [hXg] at hk
        refine Idx.mk (.int .u8 y.toNat) (Int.natCast_nonneg i) (by rw [eB]; exact bytes_at hy) ?_
        by_cases hq : (i : Int) ≥ (n : Int) - 64
        · refine Br.t (decide_eq_true (show (i : Int) ≥ IntKind.i64.wrap ((if (0 : Int) > (if (((bytesP b).length : Nat) : Int) < k then (((bytesP b).length : Nat) : Int) else k) then (0 : Int) else (if (((bytesP b).length : Nat) : Int) < k then (((bytesP b).length : Nat) : Int) else k)) - 64) by rw [e64]; exact hq)) ?_
          rw [if_pos hq] at hk
          refine Idx.mk (.int .u8 (y ^^^ g).toNat) (by rw [eadd]; exact Int.natCast_nonneg _) (by rw [eadd]; exact bytes_at hk) ?_
          refine Br.f (show (((y ^^^ g).toNat : Int) != bits .xor .u8 (y.toNat : Int) (g.toNat : Int)) = false by rw [xor_u8]; simp) ?_
          refine ⟨i + 1, (show i + 1 ≤ n by omega), (show n - (i + 1) < n - i by omega), Nat.le_refl _, Trim.mk' ?_ rfl rfl rfl (Nat.le_refl _)⟩
          refine Eq.trans (b := [_, _, _, _, _, (13, AV.p (ii (IntKind.i64.wrap ((i : Int) + 1))))]) rfl ?_
          first | (rw [ei]; done) | (rw [ei]; rfl)
        · refine Br.f (decide_eq_false (show ¬ (i : Int) ≥ IntKind.i64.wrap ((if (0 : Int) > (if (((bytesP b).length : Nat) : Int) < k then (((bytesP b).length : Nat) : Int) else k) then (0 : Int) else (if (((bytesP b).length : Nat) : Int) < k then (((bytesP b).length : Nat) : Int) else k)) - 64) by rw [e64]; exact hq)) ?_
          rw [if_neg hq] at hk
          refine Idx.mk (.int .u8 y.toNat) (by rw [eadd]; exact Int.natCast_nonneg _) (by rw [eadd]; exact bytes_at hk) ?_
          refine Br.f (show ((y.toNat : Int) != (y.toNat : Int)) = false by simp) ?_
          refine ⟨i + 1, (show i + 1 ≤ n by omega), (show n - (i + 1) < n - i by omega), Nat.le_refl _, Trim.mk' ?_ rfl rfl rfl (Nat.le_refl _)⟩
          refine Eq.trans (b := [_, _, _, _, _, (13, AV.p (ii (IntKind.i64.wrap ((i : Int) + 1))))]) rfl ?_
          first | (rw [ei]; done) | (rw [ei]; rfl)
      · refine Cal.frameK [] (known_c _ fun _ => ?_) rfl rfl rfl
        exact h _
  · refine Br.f (decide_eq_false (show ¬ ((bytesP a).length : Int) > 200 by rw [la]; omega)) ?_
    by_cases hb : 200 < b.length
    · refine Br.t (decide_eq_true (show ((bytesP b).length : Int) > 200 by rw [lb]; omega)) ?_
      refine Ob.mk ⟨Int.le_refl 0, (by decide), (show (200 : Int) ≤ ((bytesP b).length : Int) by rw [lb]; omega)⟩ ?_
      obtain ⟨A, hA⟩ : ∃ A, A = a := ⟨_, rfl⟩
      have eA : (bytesP a) = bytesP A := by rw [hA]
      have lA : A.length ≤ 200 := by rw [hA]; omega
      obtain ⟨B, hB⟩ : ∃ B, B = b.take 200 := ⟨_, rfl⟩
      have eB : (((bytesP b).take (200 : Int).toNat).drop (0 : Int).toNat) = bytesP B := by rw [hB]; exact cut_b rfl
      have lB : B.length ≤ 200 := by rw [hB]; rw [List.length_take]; omega
      have nA : (bytesP a).length = A.length := by rw [eA, bytesP_len]
      have nB : (((bytesP b).take (200 : Int).toNat).drop (0 : Int).toNat).length = B.length := by rw [eB, bytesP_len]
      refine new_c _ ?_
      repeat (first | refine Br.t rfl ?_ | refine Br.f rfl ?_)
      have c1 : ∀ K', K' (.p (ii 0)) (fsS [(0, [120], A, 0)] 1 (-1) 1) → Cal Try.prog 11 [fsP, .p (.str [120]), .p (.sl .shr 1 (bytesP a))] (fsS [] 0 (-1) 0) K' := fun K' hK => by
        rw [eA]
        exact append_k [] 0 (-1) 0 (fok_nil _ _ (by decide) (by decide)) [120] A (by decide +kernel) (by decide) (by decide) (by decide) (by omega) _ hK
      refine c1 _ ?_
      repeat (first | refine Br.t rfl ?_ | refine Br.f rfl ?_)
      refine sync_k [(0, [120], A, 0)] 1 (-1) 1 (fok_one (by decide) (by decide) (by omega) (by omega)) [120] (A, 0) rfl (by decide) _ ?_
      repeat (first | refine Br.t rfl ?_ | refine Br.f rfl ?_)
      have c2 : ∀ K', K' (.p (ii 0)) (fsS [(0, [120], A ++ B, A.length)] 1 (-1) 3) → Cal Try.prog 11 [fsP, .p (.str [120]), .p (.sl .shr 1 (((bytesP b).take (200 : Int).toNat).drop (0 : Int).toNat))] (fsS [(0, [120], A, A.length)] 1 (-1) 2) K' := fun K' hK => by
        rw [eB]
        exact append_k [(0, [120], A, A.length)] 1 (-1) 2 (fok_one (by decide) (by decide) (by omega) (by omega)) [120] B (by decide +kernel) (show 1 < 64 by decide) (by decide) (by decide) (by omega) _ hK
      refine c2 _ ?_
      repeat (first | refine Br.t rfl ?_ | refine Br.f rfl ?_)
      refine Or.inl ?_
      have lAB : (A ++ B).length = A.length + B.length := List.length_append
      obtain ⟨n, hn⟩ : ∃ n, n = kpN [k] 0 (A ++ B) A.length := ⟨_, rfl⟩
      obtain ⟨X, hX⟩ : ∃ X, X = crB [k] [g] 0 (A ++ B) A.length := ⟨_, rfl⟩
      have hnB : n ≤ B.length := by have := kpN_le (keeps := [k]) (i := 0) (b := A ++ B) (l := A.length) (by omega) (by omega); omega
      have hXl : X.length = A.length + n := by rw [hX, hn]; exact crB_len (by omega) (by omega)
      have c3 : ∀ K', K' (.tup []) (fsS [(0, [120], X, X.length)] 1 (-1) 3) → Cal Try.prog 13 [fsP, .p (.sl .clip 1 [ii k]), .p (.sl .clip 1 [.int .u8 g.toNat])] (fsS [(0, [120], A ++ B, A.length)] 1 (-1) 3) K' := fun K' hK =>
        crash_w [(0, [120], A ++ B, A.length)] 1 (-1) 3 (fok_one (by decide) (by decide) (by omega) (by omega)) (fi_one (by decide)) [k] [g] _ _ .shr .shr _ (fun ns hp _ => by
          have := perm_one hp; subst this
          rw [hX] at hK
          exact hK)
      refine c3 _ ?_
      refine read_c [(0, [120], X, X.length)] 1 (-1) 3 (fok_one (by decide) (by decide) (by omega) (by omega)) [120] _ ?_
      have hw : IntKind.i64.wrap (((bytesP (A ++ B)).length : Int) - A.length) = B.length := by rw [bytesP_len, wrap_i64 (by omega) (by omega)]; omega
      have hM : (if (0 : Int) > (if (((((bytesP b).take (200 : Int).toNat).drop (0 : Int).toNat).length : Nat) : Int) < k then (((((bytesP b).take (200 : Int).toNat).drop (0 : Int).toNat).length : Nat) : Int) else k) then (0 : Int) else (if (((((bytesP b).take (200 : Int).toNat).drop (0 : Int).toNat).length : Nat) : Int) < k then (((((bytesP b).take (200 : Int).toNat).drop (0 : Int).toNat).length : Nat) : Int) else k)) = (n : Int) := by
        rw [hn, nB]
        show _ = ((kpI k (A ++ B) A.length).toNat : Int)
        unfold kpI
        rw [hw]
        repeat' split
        all_goals omega
      have lX := bytesP_len X
      have f72 : (((bytesP X).length : Int) != IntKind.i64.wrap (((bytesP a).length : Int) + (if (0 : Int) > (if (((((bytesP b).take (200 : Int).toNat).drop (0 : Int).toNat).length : Nat) : Int) < k then (((((bytesP b).take (200 : Int).toNat).drop (0 : Int).toNat).length : Nat) : Int) else k) then (0 : Int) else (if (((((bytesP b).take (200 : Int).toNat).drop (0 : Int).toNat).length : Nat) : Int) < k then (((((bytesP b).take (200 : Int).toNat).drop (0 : Int).toNat).length : Nat) : Int) else k)))) = false := by
        rw [hM, nA, lX, wrap_i64 (by omega) (by omega), hXl]; simp
      have f72b : ((((bytesP X).length : Int) != IntKind.i64.wrap (((bytesP a).length : Int) + (if (0 : Int) > (if (((((bytesP b).take (200 : Int).toNat).drop (0 : Int).toNat).length : Nat) : Int) < k then (((((bytesP b).take (200 : Int).toNat).drop (0 : Int).toNat).length : Nat) : Int) else k) then (0 : Int) else (if (((((bytesP b).take (200 : Int).toNat).drop (0 : Int).toNat).length : Nat) : Int) < k then (((((bytesP b).take (200 : Int).toNat).drop (0 : Int).toNat).length : Nat) : Int) else k)))) == false) = true := by rw [f72]; rfl
      have cX : ((bytesP X).take (((bytesP a).length : Nat) : Int).toNat).drop (0 : Int).toNat = bytesP A := by
        rw [cut_b (m := A.length) (by rw [nA])]
        rw [hX]; unfold crB
        rw [gbl_take, ← hn, List.take_take, Nat.min_eq_left (by omega), List.take_left]
      iterate 3 refine ⟨_, ⟨rfl, rfl⟩, ?_⟩
      iterate 7 (refine Br.t rfl ?_; refine ⟨_, ⟨rfl, rfl⟩, ?_⟩)
      refine ⟨_, Br.f rfl ⟨rfl, rfl⟩, ?_⟩
      refine ⟨_, ⟨rfl, rfl⟩, ?_⟩
      iterate 3 (refine Br.t f72b ?_; refine ⟨_, ⟨rfl, rfl⟩, ?_⟩)
      refine Br.t f72b ?_
      refine ⟨_, Ob.mk ⟨Int.le_refl 0, Int.natCast_nonneg _, (show (((bytesP a).length : Nat) : Int) ≤ ((bytesP X).length : Int) by rw [nA, lX]; omega)⟩ ⟨rfl, rfl⟩, ?_⟩
      refine Br.t f72b ?_
      refine ⟨_, Ob.mk (.inr rfl) ⟨A, cX, ⟨rfl, rfl⟩⟩, ?_⟩
      refine Br.t f72b ?_
      refine ⟨_, ⟨rfl, rfl⟩, ?_⟩
      refine Br.t f72b ?_
      refine ⟨_, Ob.mk (.inr rfl) ⟨A, eA, ⟨rfl, rfl⟩⟩, ?_⟩
      refine Br.t f72b ?_
      refine ⟨_, ⟨rfl, rfl⟩, ?_⟩
      refine ⟨_, Br.f f72 ⟨rfl, rfl⟩, ?_⟩
      refine Chk.mk (by kernel_rfl) ?_
      refine Br.f (show (!(A == A)) = false by simp) ?_
      refine LoopX.fam [0, 1, 3, 10, 12, 13] (fun (i : Nat) => ([(0, .p (.sl .shr 1 (bytesP a))), (1, .p (.sl .shr 1 (((bytesP b).take (200 : Int).toNat).drop (0 : Int).toNat))), (3, .p (.int .u8 g.toNat)), (10, .p (bsl X)), (12, .p (ii (if (0 : Int) > (if (((((bytesP b).take (200 : Int).toNat).drop (0 : Int).toNat).length : Nat) : Int) < k then (((((bytesP b).take (200 : Int).toNat).drop (0 : Int).toNat).length : Nat) : Int) else k) then (0 : Int) else (if (((((bytesP b).take (200 : Int).toNat).drop (0 : Int).toNat).length : Nat) : Int) < k then (((((bytesP b).take (200 : Int).toNat).drop (0 : Int).toNat).length : Nat) : Int) else k)))), (13, .p (ii i))], fsS [(0, [120], X, X.length)] 1 (-1) 3))
        (fun i => i ≤ n) (fun i => n - i) 0 (Nat.zero_le _) (Trim.mk' rfl rfl rfl rfl (Nat.le_refl _)) ?_
      intro i hin
      have hin : i ≤ n := hin
      refine Br.mk (fun hc => ?_) (fun hc => ?_)
      · have hc : i < n := by have := of_decide_eq_true hc; rw [hM] at this; omega
        obtain ⟨y, hy⟩ : ∃ y, B[i]? = some y := ⟨_, List.getElem?_eq_getElem (by omega)⟩
        have ei : IntKind.i64.wrap ((i : Int) + 1) = ((i + 1 : Nat) : Int) := by rw [wrap_i64] <;> omega
        have e64 : IntKind.i64.wrap ((if (0 : Int) > (if (((((bytesP b).take (200 : Int).toNat).drop (0 : Int).toNat).length : Nat) : Int) < k then (((((bytesP b).take (200 : Int).toNat).drop (0 : Int).toNat).length : Nat) : Int) else k) then (0 : Int) else (if (((((bytesP b).take (200 : Int).toNat).drop (0 : Int).toNat).length : Nat) : Int) < k then (((((bytesP b).take (200 : Int).toNat).drop (0 : Int).toNat).length : Nat) : Int) else k)) - 64) = (n : Int) - 64 := by rw [hM, wrap_i64 (by omega) (by omega)]
        have eadd : IntKind.i64.wrap (((bytesP a).length : Int) + (i : Int)) = ((A.length + i : Nat) : Int) := by rw [nA, wrap_i64 (by omega) (by omega)]; omega
        have hk := keep_at (A := A) (g := g) hnB hc y hy
        have hXg : gbl [g] 0 ((A ++ B).take (A.length + n)) A.length = X := by rw [hX]; unfold crB; rw [← hn]
        rw [hXg] at hk
        refine Idx.mk (.int .u8 y.toNat) (Int.natCast_nonneg i) (by rw [eB]; exact bytes_at hy) ?_
        by_cases hq : (i : Int) ≥ (n : Int) - 64
        · refine Br.t (decide_eq_true (show (i : Int) ≥ IntKind.i64.wrap ((if (0 : Int) > (if (((((bytesP b).take (200 : Int).toNat).drop (0 : Int).toNat).length : Nat) : Int) < k then (((((bytesP b).take (200 : Int).toNat).drop (0 : Int).toNat).length : Nat) : Int) else k) then (0 : Int) else (if (((((bytesP b).take (200 : Int).toNat).drop (0 : Int).toNat).length : Nat) : Int) < k then (((((bytesP b).take (200 : Int).toNat).drop (0 : Int).toNat).length : Nat) : Int) else k)) - 64) by rw [e64]; exact hq)) ?_
          rw [if_pos hq] at hk
          refine Idx.mk (.int .u8 (y ^^^ g).toNat) (by rw [eadd]; exact Int.natCast_nonneg _) (by rw [eadd]; exact bytes_at hk) ?_
          refine Br.f (show (((y ^^^ g).toNat : Int) != bits .xor .u8 (y.toNat : Int) (g.toNat : Int)) = false by rw [xor_u8]; simp) ?_
          refine ⟨i + 1, (show i + 1 ≤ n by omega), (show n - (i + 1) < n - i by omega), Nat.le_refl _, Trim.mk' ?_ rfl rfl rfl (Nat.le_refl _)⟩
          refine Eq.trans (b := [_, _, _, _, _, (13, AV.p (ii (IntKind.i64.wrap ((i : Int) + 1))))]) rfl ?_
          first | (rw [ei]; done) | (rw [ei]; rfl)
        · refine Br.f (decide_eq_false (show ¬ (i : Int) ≥ IntKind.i64.wrap ((if (0 : Int) > (if (((((bytesP b).take (200 : Int).toNat).drop (0 : Int).toNat).length : Nat) : Int) < k then (((((bytesP b).take (200 : Int).toNat).drop (0 : Int).toNat).length : Nat) : Int) else k) then (0 : Int) else (if (((((bytesP b).take (200 : Int).toNat).drop (0 : Int).toNat).length : Nat) : Int) < k then (((((bytesP b).take (200 : Int).toNat).drop (0 : Int).toNat).length : Nat) : Int) else k)) - 64) by rw [e64]; exact hq)) ?_
          rw [if_neg hq] at hk
          refine Idx.mk (.int .u8 y.toNat) (by rw [eadd]; exact Int.natCast_nonneg _) (by rw [eadd]; exact bytes_at hk) ?_
          refine Br.f (show ((y.toNat : Int) != (y.toNat : Int)) = false by simp) ?_
          refine ⟨i + 1, (show i + 1 ≤ n by omega), (show n - (i + 1) < n - i by omega), Nat.le_refl _, Trim.mk' ?_ rfl rfl rfl (Nat.le_refl _)⟩
          refine Eq.trans (b := [_, _, _, _, _, (13, AV.p (ii (IntKind.i64.wrap ((i : Int) + 1))))]) rfl ?_
          first | (rw [ei]; done) | (rw [ei]; rfl)
      · refine Cal.frameK [] (known_c _ fun _ => ?_) rfl rfl rfl
        exact h _
    · refine Br.f (decide_eq_false (show ¬ ((bytesP b).length : Int) > 200 by rw [lb]; omega)) ?_
      obtain ⟨A, hA⟩ : ∃ A, A = a := ⟨_, rfl⟩
      have eA : (bytesP a) = bytesP A := by rw [hA]
      have lA : A.length ≤ 200 := by rw [hA]; omega
      obtain ⟨B, hB⟩ : ∃ B, B = b := ⟨_, rfl⟩
      have eB : (bytesP b) = bytesP B := by rw [hB]
      have lB : B.length ≤ 200 := by rw [hB]; omega
      have nA : (bytesP a).length = A.length := by rw [eA, bytesP_len]
      have nB : (bytesP b).length = B.length := by rw [eB, bytesP_len]
      refine new_c _ ?_
      repeat (first | refine Br.t rfl ?_ | refine Br.f rfl ?_)
      have c1 : ∀ K', K' (.p (ii 0)) (fsS [(0, [120], A, 0)] 1 (-1) 1) → Cal Try.prog 11 [fsP, .p (.str [120]), .p (.sl .shr 1 (bytesP a))] (fsS [] 0 (-1) 0) K' := fun K' hK => by
        rw [eA]
        exact append_k [] 0 (-1) 0 (fok_nil _ _ (by decide) (by decide)) [120] A (by decide +kernel) (by decide) (by decide) (by decide) (by omega) _ hK
      refine c1 _ ?_
      repeat (first | refine Br.t rfl ?_ | refine Br.f rfl ?_)
      refine sync_k [(0, [120], A, 0)] 1 (-1) 1 (fok_one (by decide) (by decide) (by omega) (by omega)) [120] (A, 0) rfl (by decide) _ ?_
      repeat (first | refine Br.t rfl ?_ | refine Br.f rfl ?_)
      have c2 : ∀ K', K' (.p (ii 0)) (fsS [(0, [120], A ++ B, A.length)] 1 (-1) 3) → Cal Try.prog 11 [fsP, .p (.str [120]), .p (.sl .shr 1 (bytesP b))] (fsS [(0, [120], A, A.length)] 1 (-1) 2) K' := fun K' hK => by
        rw [eB]
        exact append_k [(0, [120], A, A.length)] 1 (-1) 2 (fok_one (by decide) (by decide) (by omega) (by omega)) [120] B (by decide +kernel) (show 1 < 64 by decide) (by decide) (by decide) (by omega) _ hK
      refine c2 _ ?_
      repeat (first | refine Br.t rfl ?_ | refine Br.f rfl ?_)
      refine Or.inl ?_
      have lAB : (A ++ B).length = A.length + B.length := List.length_append
      obtain ⟨n, hn⟩ : ∃ n, n = kpN [k] 0 (A ++ B) A.length := ⟨_, rfl⟩
      obtain ⟨X, hX⟩ : ∃ X, X = crB [k] [g] 0 (A ++ B) A.length := ⟨_, rfl⟩
      have hnB : n ≤ B.length := by have := kpN_le (keeps := [k]) (i := 0) (b := A ++ B) (l := A.length) (by omega) (by omega); omega
      have hXl : X.length = A.length + n := by rw [hX, hn]; exact crB_len (by omega) (by omega)
      have c3 : ∀ K', K' (.tup []) (fsS [(0, [120], X, X.length)] 1 (-1) 3) → Cal Try.prog 13 [fsP, .p (.sl .clip 1 [ii k]), .p (.sl .clip 1 [.int .u8 g.toNat])] (fsS [(0, [120], A ++ B, A.length)] 1 (-1) 3) K' := fun K' hK =>
        crash_w [(0, [120], A ++ B, A.length)] 1 (-1) 3 (fok_one (by decide) (by decide) (by omega) (by omega)) (fi_one (by decide)) [k] [g] _ _ .shr .shr _ (fun ns hp _ => by
          have := perm_one hp; subst this
          rw [hX] at hK
          exact hK)
      refine c3 _ ?_
      refine read_c [(0, [120], X, X.length)] 1 (-1) 3 (fok_one (by decide) (by decide) (by omega) (by omega)) [120] _ ?_
      have hw : IntKind.i64.wrap (((bytesP (A ++ B)).length : Int) - A.length) = B.length := by rw [bytesP_len, wrap_i64 (by omega) (by omega)]; omega
      have hM : (if (0 : Int) > (if (((bytesP b).length : Nat) : Int) < k then (((bytesP b).length : Nat) : Int) else k) then (0 : Int) else (if (((bytesP b).length : Nat) : Int) < k then (((bytesP b).length : Nat) : Int) else k)) = (n : Int) := by
        rw [hn, nB]
        show _ = ((kpI k (A ++ B) A.length).toNat : Int)
        unfold kpI
        rw [hw]
        repeat' split
        all_goals omega
      have lX := bytesP_len X
      have f72 : (((bytesP X).length : Int) != IntKind.i64.wrap (((bytesP a).length : Int) + (if (0 : Int) > (if (((bytesP b).length : Nat) : Int) < k then (((bytesP b).length : Nat) : Int) else k) then (0 : Int) else (if (((bytesP b).length : Nat) : Int) < k then (((bytesP b).length : Nat) : Int) else k)))) = false := by
        rw [hM, nA, lX, wrap_i64 (by omega) (by omega), hXl]; simp
      have f72b : ((((bytesP X).length : Int) != IntKind.i64.wrap (((bytesP a).length : Int) + (if (0 : Int) > (if (((bytesP b).length : Nat) : Int) < k then (((bytesP b).length : Nat) : Int) else k) then (0 : Int) else (if (((bytesP b).length : Nat) : Int) < k then (((bytesP b).length : Nat) : Int) else k)))) == false) = true := by rw [f72]; rfl
      have cX : ((bytesP X).take (((bytesP a).length : Nat) : Int).toNat).drop (0 : Int).toNat = bytesP A := by
        rw [cut_b (m := A.length) (by rw [nA])]
        rw [hX]; unfold crB
        rw [gbl_take, ← hn, List.take_take, Nat.min_eq_left (by omega), List.take_left]
      iterate 3 refine ⟨_, ⟨rfl, rfl⟩, ?_⟩
      iterate 7 (refine Br.t rfl ?_; refine ⟨_, ⟨rfl, rfl⟩, ?_⟩)
      refine ⟨_, Br.f rfl ⟨rfl, rfl⟩, ?_⟩
      refine ⟨_, ⟨rfl, rfl⟩, ?_⟩
      iterate 3 (refine Br.t f72b ?_; refine ⟨_, ⟨rfl, rfl⟩, ?_⟩)
      refine Br.t f72b ?_
      refine ⟨_, Ob.mk ⟨Int.le_refl 0, Int.natCast_nonneg _, (show (((bytesP a).length : Nat) : Int) ≤ ((bytesP X).length : Int) by rw [nA, lX]; omega)⟩ ⟨rfl, rfl⟩, ?_⟩
      refine Br.t f72b ?_
      refine ⟨_, Ob.mk (.inr rfl) ⟨A, cX, ⟨rfl, rfl⟩⟩, ?_⟩
      refine Br.t f72b ?_
      refine ⟨_, ⟨rfl, rfl⟩, ?_⟩
      refine Br.t f72b ?_
      refine ⟨_, Ob.mk (.inr rfl) ⟨A, eA, ⟨rfl, rfl⟩⟩, ?_⟩
      refine Br.t f72b ?_
      refine ⟨_, ⟨rfl, rfl⟩, ?_⟩
      refine ⟨_, Br.f f72 ⟨rfl, rfl⟩, ?_⟩
      refine Chk.mk (by kernel_rfl) ?_
      refine Br.f (show (!(A == A)) = false by simp) ?_
      refine LoopX.fam [0, 1, 3, 10, 12, 13] (fun (i : Nat) => ([(0, .p (.sl .shr 1 (bytesP a))), (1, .p (.sl .shr 1 (bytesP b))), (3, .p (.int .u8 g.toNat)), (10, .p (bsl X)), (12, .p (ii (if (0 : Int) > (if (((bytesP b).length : Nat) : Int) < k then (((bytesP b).length : Nat) : Int) else k) then (0 : Int) else (if (((bytesP b).length : Nat) : Int) < k then (((bytesP b).length : Nat) : Int) else k)))), (13, .p (ii i))], fsS [(0, [120], X, X.length)] 1 (-1) 3))
        (fun i => i ≤ n) (fun i => n - i) 0 (Nat.zero_le _) (Trim.mk' rfl rfl rfl rfl (Nat.le_refl _)) ?_
      intro i hin
      have hin : i ≤ n := hin
      refine Br.mk (fun hc => ?_) (fun hc => ?_)
      · have hc : i < n := by have := of_decide_eq_true hc; rw [hM] at this; omega
        obtain ⟨y, hy⟩ : ∃ y, B[i]? = some y := ⟨_, List.getElem?_eq_getElem (by omega)⟩
        have ei : IntKind.i64.wrap ((i : Int) + 1) = ((i + 1 : Nat) : Int) := by rw [wrap_i64] <;> omega
        have e64 : IntKind.i64.wrap ((if (0 : Int) > (if (((bytesP b).length : Nat) : Int) < k then (((bytesP b).length : Nat) : Int) else k) then (0 : Int) else (if (((bytesP b).length : Nat) : Int) < k then (((bytesP b).length : Nat) : Int) else k)) - 64) = (n : Int) - 64 := by rw [hM, wrap_i64 (by omega) (by omega)]
        have eadd : IntKind.i64.wrap (((bytesP a).length : Int) + (i : Int)) = ((A.length + i : Nat) : Int) := by rw [nA, wrap_i64 (by omega) (by omega)]; omega
        have hk := keep_at (A := A) (g := g) hnB hc y hy
        have hXg : gbl [g] 0 ((A ++ B).take (A.length + n)) A.length = X := by rw [hX]; unfold crB; rw [← hn]
        rw [hXg] at hk
        refine Idx.mk (.int .u8 y.toNat) (Int.natCast_nonneg i) (by rw [eB]; exact bytes_at hy) ?_
        by_cases hq : (i : Int) ≥ (n : Int) - 64
        · refine Br.t (decide_eq_true (show (i : Int) ≥ IntKind.i64.wrap ((if (0 : Int) > (if (((bytesP b).length : Nat) : Int) < k then (((bytesP b).length : Nat) : Int) else k) then (0 : Int) else (if (((bytesP b).length : Nat) : Int) < k then (((bytesP b).length : Nat) : Int) else k)) - 64) by rw [e64]; exact hq)) ?_
          rw [if_pos hq] at hk
          refine Idx.mk (.int .u8 (y ^^^ g).toNat) (by rw [eadd]; exact Int.natCast_nonneg _) (by rw [eadd]; exact bytes_at hk) ?_
          refine Br.f (show (((y ^^^ g).toNat : Int) != bits .xor .u8 (y.toNat : Int) (g.toNat : Int)) = false by rw [xor_u8]; simp) ?_
          refine ⟨i + 1, (show i + 1 ≤ n by omega), (show n - (i + 1) < n - i by omega), Nat.le_refl _, Trim.mk' ?_ rfl rfl rfl (Nat.le_refl _)⟩
          refine Eq.trans (b := [_, _, _, _, _, (13, AV.p (ii (IntKind.i64.wrap ((i : Int) + 1))))]) rfl ?_
          first | (rw [ei]; done) | (rw [ei]; rfl)
        · refine Br.f (decide_eq_false (show ¬ (i : Int) ≥ IntKind.i64.wrap ((if (0 : Int) > (if (((bytesP b).length : Nat) : Int) < k then (((bytesP b).length : Nat) : Int) else k) then (0 : Int) else (if (((bytesP b).length : Nat) : Int) < k then (((bytesP b).length : Nat) : Int) else k)) - 64) by rw [e64]; exact hq)) ?_
          rw [if_neg hq] at hk
          refine Idx.mk (.int .u8 y.toNat) (by rw [eadd]; exact Int.natCast_nonneg _) (by rw [eadd]; exact bytes_at hk) ?_
          refine Br.f (show ((y.toNat : Int) != (y.toNat : Int)) = false by simp) ?_
          refine ⟨i + 1, (show i + 1 ≤ n by omega), (show n - (i + 1) < n - i by omega), Nat.le_refl _, Trim.mk' ?_ rfl rfl rfl (Nat.le_refl _)⟩
          refine Eq.trans (b := [_, _, _, _, _, (13, AV.p (ii (IntKind.i64.wrap ((i : Int) + 1))))]) rfl ?_
          first | (rw [ei]; done) | (rw [ei]; rfl)
      · refine Cal.frameK [] (known_c _ fun _ => ?_) rfl rfl rfl
        exact h _
end Go.Proofs.Ytneheklmkbhieaa.AW

open Go Go.Proofs.Ytneheklmkbhieaa.AW Go.Proofs
namespace Go.Proofs.Ytneheklmkbhieaa.AW
set_option maxRecDepth 100000
set_option linter.unusedSimpArgs false
set_option linter.unusedVariables false

/-! ### FilesRename -/
theorem fok_cons {t : Nat} {m b : List UInt8} {k : Nat} {es : List FE} {l d : Int} (h1 : b.length + 1 ≤ 549755813888) (h2 : k ≤ b.length) (h : FOk es l d) : FOk ((t, m, b, k) :: es) l d :=
  ⟨h.l, h.d, fun n q hq => by
    unfold fGet at hq
    split at hq
    · cases hq; exact ⟨h1, h2⟩
    · exact h.b n q hq⟩
theorem known_p (s : Store) (K : AV → Store → Prop) (h : K (.p (.bool true)) s) : Cal Try.prog 15 [] s K := Cal.pure (args := []) (known_c _ h)

set_option maxHeartbeats 8000000 in
theorem filesRename_c (a b c : List UInt8) (k : Int) (lB : b.length ≤ 1048576) (K : AV → Store → Prop) (h : ∀ s, K (.p (.bool true)) s) : Cal Try.prog 4 [.p (bsl a), .p (bsl b), .p (bsl c), .p (ii k)] [] K := by
  refine Cal.intro Try.func4 (by decide +kernel) rfl rfl ?_
  have la := bytesP_len a
  have lc := bytesP_len c
  refine new_c _ ?_
  refine Br.f rfl ?_
  by_cases ha : 60 < a.length
  · refine Br.t (decide_eq_true (show ((bytesP a).length : Int) > 60 by rw [la]; omega)) ?_
    refine Ob.mk ⟨Int.le_refl 0, (by decide), (show (60 : Int) ≤ ((bytesP a).length : Int) by rw [la]; omega)⟩ ?_
    by_cases hb : 60 < c.length
    · refine Br.t (decide_eq_true (show ((bytesP c).length : Int) > 60 by rw [lc]; omega)) ?_
      refine Ob.mk ⟨Int.le_refl 0, (by decide), (show (60 : Int) ≤ ((bytesP c).length : Int) by rw [lc]; omega)⟩ ?_
      obtain ⟨A, hA⟩ : ∃ A, A = a.take 60 := ⟨_, rfl⟩
      have eA : (((bytesP a).take (60 : Int).toNat).drop (0 : Int).toNat) = bytesP A := by rw [hA]; exact cut_b rfl
      have lA : A.length ≤ 60 := by rw [hA]; rw [List.length_take]; omega
      obtain ⟨C, hC⟩ : ∃ C, C = c.take 60 := ⟨_, rfl⟩
      have eC : (((bytesP c).take (60 : Int).toNat).drop (0 : Int).toNat) = bytesP C := by rw [hC]; exact cut_b rfl
      have lC : C.length ≤ 60 := by rw [hC]; rw [List.length_take]; omega
      have nA : (((bytesP a).take (60 : Int).toNat).drop (0 : Int).toNat).length = A.length := by rw [eA, bytesP_len]
      have nC : (((bytesP c).take (60 : Int).toNat).drop (0 : Int).toNat).length = C.length := by rw [eC, bytesP_len]
      have c1 : ∀ K', K' (.p (ii 0)) (fsS [(0, [120], A, 0)] 1 (-1) 1) → Cal Try.prog 11 [fsP, .p (.str [120]), .p (.sl .shr 1 (((bytesP a).take (60 : Int).toNat).drop (0 : Int).toNat))] (fsS [] 0 (-1) 0) K' := fun K' hK => by
        rw [eA]
        exact append_k [] 0 (-1) 0 (fok_nil _ _ (by decide) (by decide)) [120] A (by decide +kernel) (by decide) (by decide) (by decide) (by omega) _ hK
      refine c1 _ ?_
      refine sync_k [(0, [120], A, 0)] 1 (-1) 1 (fok_one (by decide) (by decide) (by omega) (by omega)) [120] (A, 0) rfl (by decide) _ ?_
      have c2 : ∀ K', K' (.p (ii 0)) (fsS [(0, [120], A ++ C, A.length)] 1 (-1) 3) → Cal Try.prog 11 [fsP, .p (.str [120]), .p (.sl .shr 1 (((bytesP c).take (60 : Int).toNat).drop (0 : Int).toNat))] (fsS [(0, [120], A, A.length)] 1 (-1) 2) K' := fun K' hK => by
        rw [eC]
        exact append_k [(0, [120], A, A.length)] 1 (-1) 2 (fok_one (by decide) (by decide) (by omega) (by omega)) [120] C (by decide +kernel) (show 1 < 64 by decide) (by decide) (by decide) (by omega) _ hK
      refine c2 _ ?_
      have lAC : (A ++ C).length = A.length + C.length := List.length_append
      refine append_k [(0, [120], A ++ C, A.length)] 1 (-1) 3 (fok_one (by decide) (by decide) (by omega) (by omega)) [121] b (by decide +kernel) (show 1 < 64 by decide) (by decide) (by decide) (by omega) _ ?_
      refine sync_k [(0, [120], A ++ C, A.length), (1, [121], b, 0)] 2 (-1) 4 (fok_cons (by omega) (by omega) (fok_one (by decide) (by decide) (by omega) (by omega))) [121] (b, 0) rfl (by decide) _ ?_
      refine rename_c [(0, [120], A ++ C, A.length), (1, [121], b, b.length)] 2 (-1) 5 (fok_cons (by omega) (by omega) (fok_one (by decide) (by decide) (by omega) (by omega))) [120] [121] (by decide) _ (fun h => by cases h) (fun q _ h => absurd h (by decide +kernel)) (fun q _ _ h => absurd h (by decide)) (fun q hq _ _ => ?_)
      have hq : some (A ++ C, A.length) = some q := hq
      cases hq
      refine Br.t rfl ?_
      refine Br.t rfl ?_
      refine list_c [(1, [121], A ++ C, A.length)] 2 (-1) 6 (fi_one (by decide)) _ (fun ns hp _ => ?_)
      have := perm_one hp; subst this
      repeat (first | refine Br.t rfl ?_ | refine Br.f rfl ?_)
      refine len_c [(1, [121], A ++ C, A.length)] 2 (-1) 6 [121] _ ?_
      have f59 : ((((fB [(1, [121], A ++ C, A.length)] [121]).length : Nat) : Int) != IntKind.i64.wrap (((((bytesP a).take (60 : Int).toNat).drop (0 : Int).toNat).length : Int) + ((((bytesP c).take (60 : Int).toNat).drop (0 : Int).toNat).length : Int))) = false := by
        show ((((A ++ C).length : Nat) : Int) != IntKind.i64.wrap (((((bytesP a).take (60 : Int).toNat).drop (0 : Int).toNat).length : Int) + ((((bytesP c).take (60 : Int).toNat).drop (0 : Int).toNat).length : Int))) = false
        rw [nA, nC, wrap_i64 (by omega) (by omega), lAC]; simp
      iterate 6 refine Br.t rfl ?_
      refine Br.f rfl ?_
      refine Br.f f59 ?_
      obtain ⟨n, hn⟩ : ∃ n, n = kpN [k] 0 (A ++ C) A.length := ⟨_, rfl⟩
      have hnC : n ≤ C.length := by have := kpN_le (keeps := [k]) (i := 0) (b := A ++ C) (l := A.length) (by omega) (by omega); omega
      have lCn : (C.take n).length = n := by rw [List.length_take]; omega
      have lX : (A ++ C.take n).length = A.length + n := by rw [List.length_append, lCn]
      have c3 : ∀ K', K' (.tup []) (fsS [(1, [121], A ++ C.take n, (A ++ C.take n).length)] 2 (-1) 6) → Cal Try.prog 13 [fsP, .p (.sl .clip 1 [ii k]), .p (.sl .nil 0 [])] (fsS [(1, [121], A ++ C, A.length)] 2 (-1) 6) K' := fun K' hK =>
        crash_w [(1, [121], A ++ C, A.length)] 2 (-1) 6 (fok_one (by decide) (by decide) (by omega) (by omega)) (fi_one (by decide)) [k] [] _ _ .shr (.nil _ _) _ (fun ns hp _ => by
          have := perm_one hp; subst this
          have e : crB [k] [] 0 (A ++ C) A.length = A ++ C.take n := by
            show (A ++ C).take (A.length + kpN [k] 0 (A ++ C) A.length) = _
            rw [← hn, List.take_length_add_append]
          rw [← e] at hK
          exact hK)
      refine c3 _ ?_
      refine read_c [(1, [121], A ++ C.take n, (A ++ C.take n).length)] 2 (-1) 6 (fok_one (by decide) (by decide) (by omega) (by omega)) [121] _ ?_
      refine read_c [(1, [121], A ++ C.take n, (A ++ C.take n).length)] 2 (-1) 6 (fok_one (by decide) (by decide) (by omega) (by omega)) [120] _ ?_
      have hw : IntKind.i64.wrap (((bytesP (A ++ C)).length : Int) - A.length) = C.length := by rw [bytesP_len, wrap_i64 (by omega) (by omega)]; omega
      have hM : (if (0 : Int) > (if (((((bytesP c).take (60 : Int).toNat).drop (0 : Int).toNat).length : Nat) : Int) < k then (((((bytesP c).take (60 : Int).toNat).drop (0 : Int).toNat).length : Nat) : Int) else k) then (0 : Int) else (if (((((bytesP c).take (60 : Int).toNat).drop (0 : Int).toNat).length : Nat) : Int) < k then (((((bytesP c).take (60 : Int).toNat).drop (0 : Int).toNat).length : Nat) : Int) else k)) = (n : Int) := by
        rw [hn, nC]
        show _ = ((kpI k (A ++ C) A.length).toNat : Int)
        unfold kpI
        rw [hw]
        repeat' split
        all_goals omega
      have hM0 : (0 : Int) ≤ (if (0 : Int) > (if (((((bytesP c).take (60 : Int).toNat).drop (0 : Int).toNat).length : Nat) : Int) < k then (((((bytesP c).take (60 : Int).toNat).drop (0 : Int).toNat).length : Nat) : Int) else k) then (0 : Int) else (if (((((bytesP c).take (60 : Int).toNat).drop (0 : Int).toNat).length : Nat) : Int) < k then (((((bytesP c).take (60 : Int).toNat).drop (0 : Int).toNat).length : Nat) : Int) else k)) := by rw [hM]; exact Int.natCast_nonneg _
      have hM1 : (if (0 : Int) > (if (((((bytesP c).take (60 : Int).toNat).drop (0 : Int).toNat).length : Nat) : Int) < k then (((((bytesP c).take (60 : Int).toNat).drop (0 : Int).toNat).length : Nat) : Int) else k) then (0 : Int) else (if (((((bytesP c).take (60 : Int).toNat).drop (0 : Int).toNat).length : Nat) : Int) < k then (((((bytesP c).take (60 : Int).toNat).drop (0 : Int).toNat).length : Nat) : Int) else k)) ≤ (((((bytesP c).take (60 : Int).toNat).drop (0 : Int).toNat).length : Nat) : Int) := by rw [hM, nC]; omega
      have cC : ((((bytesP c).take (60 : Int).toNat).drop (0 : Int).toNat).take (if (0 : Int) > (if (((((bytesP c).take (60 : Int).toNat).drop (0 : Int).toNat).length : Nat) : Int) < k then (((((bytesP c).take (60 : Int).toNat).drop (0 : Int).toNat).length : Nat) : Int) else k) then (0 : Int) else (if (((((bytesP c).take (60 : Int).toNat).drop (0 : Int).toNat).length : Nat) : Int) < k then (((((bytesP c).take (60 : Int).toNat).drop (0 : Int).toNat).length : Nat) : Int) else k)).toNat).drop (0 : Int).toNat = bytesP (C.take n) := by
        have := cut_b (b := C) hM
        rw [← eC] at this
        exact this
      have fE : (A ++ C.take n == A ++ C.take n) = true := by simp
      have fE2 : ((A ++ C.take n == A ++ C.take n) == true) = true := by rw [fE]; rfl
      iterate 2 refine ⟨_, ⟨rfl, rfl⟩, ?_⟩
      iterate 2 (refine Br.t rfl ?_; refine ⟨_, ⟨rfl, rfl⟩, ?_⟩)
      refine ⟨_, Br.t rfl ⟨rfl, rfl⟩, ?_⟩
      refine ⟨_, ⟨rfl, rfl⟩, ?_⟩
      refine Br.t rfl ?_
      refine ⟨_, ⟨rfl, rfl⟩, ?_⟩
      refine Br.t rfl ?_
      refine ⟨_, Ob.mk (.inr rfl) ⟨A ++ C.take n, rfl, ⟨rfl, rfl⟩⟩, ?_⟩
      refine Br.t rfl ?_
      refine ⟨_, ⟨rfl, rfl⟩, ?_⟩
      refine Br.t rfl ?_
      refine ⟨_, Ob.mk (.inr rfl) ⟨A, eA, ⟨rfl, rfl⟩⟩, ?_⟩
      iterate 2 (refine Br.t rfl ?_; refine ⟨_, ⟨rfl, rfl⟩, ?_⟩)
      refine Br.t rfl ?_
      refine ⟨_, Ob.mk ⟨Int.le_refl 0, hM0, hM1⟩ ⟨rfl, rfl⟩, ?_⟩
      refine Br.t rfl ?_
      refine ⟨_, Ob.mk (.inr rfl) ⟨C.take n, cC, ⟨rfl, rfl⟩⟩, ?_⟩
      refine Br.t rfl ?_
      refine ⟨_, Ob.mk (show A.length + (C.take n).length < 9223372036854775808 by rw [lCn]; omega) ⟨rfl, rfl⟩, ?_⟩
      refine Br.t rfl ?_
      refine ⟨_, ⟨rfl, rfl⟩, ?_⟩
      refine ⟨_, Br.t rfl ⟨rfl, rfl⟩, ?_⟩
      refine ⟨_, ⟨rfl, rfl⟩, ?_⟩
      refine Br.t fE2 ?_
      refine ⟨_, ⟨rfl, rfl⟩, ?_⟩
      refine Br.t fE2 ?_
      refine ⟨_, _, deeds_c [(1, [121], A ++ C.take n, (A ++ C.take n).length)] 2 (-1) 6 _ ⟨rfl, rfl⟩, rfl, ?_⟩
      refine Br.t fE2 ?_
      refine ⟨_, ⟨rfl, rfl⟩, ?_⟩
      refine ⟨_, Br.t fE ⟨rfl, rfl⟩, ?_⟩
      refine ⟨_, ⟨rfl, rfl⟩, ?_⟩
      refine Br.t rfl ?_
      refine ⟨_, fun s' => known_p s' _ ⟨rfl, rfl⟩, rfl, ?_⟩
      refine ⟨_, Br.t rfl ⟨rfl, rfl⟩, ?_⟩
      refine ⟨_, ⟨rfl, rfl⟩, ?_⟩
      refine Chk.mk (by kernel_rfl) ?_
      exact h _
    · refine Br.f (decide_eq_false (show ¬ ((bytesP c).length : Int) > 60 by rw [lc]; omega)) ?_
      obtain ⟨A, hA⟩ : ∃ A, A = a.take 60 := ⟨_, rfl⟩
      have eA : (((bytesP a).take (60 : Int).toNat).drop (0 : Int).toNat) = bytesP A := by rw [hA]; exact cut_b rfl
      have lA : A.length ≤ 60 := by rw [hA]; rw [List.length_take]; omega
      obtain ⟨C, hC⟩ : ∃ C, C = c := ⟨_, rfl⟩
      have eC : (bytesP c) = bytesP C := by rw [hC]
      have lC : C.length ≤ 60 := by rw [hC]; omega
      have nA : (((bytesP a).take (60 : Int).toNat).drop (0 : Int).toNat).length = A.length := by rw [eA, bytesP_len]
      have nC : (bytesP c).length = C.length := by rw [eC, bytesP_len]
      have c1 : ∀ K', K' (.p (ii 0)) (fsS [(0, [120], A, 0)] 1 (-1) 1) → Cal Try.prog 11 [fsP, .p (.str [120]), .p (.sl .shr 1 (((bytesP a).take (60 : Int).toNat).drop (0 : Int).toNat))] (fsS [] 0 (-1) 0) K' := fun K' hK => by
        rw [eA]
        exact append_k [] 0 (-1) 0 (fok_nil _ _ (by decide) (by decide)) [120] A (by decide +kernel) (by decide) (by decide) (by decide) (by omega) _ hK
      refine c1 _ ?_
      refine sync_k [(0, [120], A, 0)] 1 (-1) 1 (fok_one (by decide) (by decide) (by omega) (by omega)) [120] (A, 0) rfl (by decide) _ ?_
      have c2 : ∀ K', K' (.p (ii 0)) (fsS [(0, [120], A ++ C, A.length)] 1 (-1) 3) → Cal Try.prog 11 [fsP, .p (.str [120]), .p (.sl .shr 1 (bytesP c))] (fsS [(0, [120], A, A.length)] 1 (-1) 2) K' := fun K' hK => by
        rw [eC]
        exact append_k [(0, [120], A, A.length)] 1 (-1) 2 (fok_one (by decide) (by decide) (by omega) (by omega)) [120] C (by decide +kernel) (show 1 < 64 by decide) (by decide) (by decide) (by omega) _ hK
      refine c2 _ ?_
      have lAC : (A ++ C).length = A.length + C.length := List.length_append
      refine append_k [(0, [120], A ++ C, A.length)] 1 (-1) 3 (fok_one (by decide) (by decide) (by omega) (by omega)) [121] b (by decide +kernel) (show 1 < 64 by decide) (by decide) (by decide) (by omega) _ ?_
      refine sync_k [(0, [120], A ++ C, A.length), (1, [121], b, 0)] 2 (-1) 4 (fok_cons (by omega) (by omega) (fok_one (by decide) (by decide) (by omega) (by omega))) [121] (b, 0) rfl (by decide) _ ?_
      refine rename_c [(0, [120], A ++ C, A.length), (1, [121], b, b.length)] 2 (-1) 5 (fok_cons (by omega) (by omega) (fok_one (by decide) (by decide) (by omega) (by omega))) [120] [121] (by decide) _ (fun h => by cases h) (fun q _ h => absurd h (by decide +kernel)) (fun q _ _ h => absurd h (by decide)) (fun q hq _ _ => ?_)
      have hq : some (A ++ C, A.length) = some q := hq
      cases hq
      refine Br.t rfl ?_
      refine Br.t rfl ?_
      refine list_c [(1, [121], A ++ C, A.length)] 2 (-1) 6 (fi_one (by decide)) _ (fun ns hp _ => ?_)
      have := perm_one hp; subst this
      repeat (first | refine Br.t rfl ?_ | refine Br.f rfl ?_)
      refine len_c [(1, [121], A ++ C, A.length)] 2 (-1) 6 [121] _ ?_
      have f59 : ((((fB [(1, [121], A ++ C, A.length)] [121]).length : Nat) : Int) != IntKind.i64.wrap (((((bytesP a).take (60 : Int).toNat).drop (0 : Int).toNat).length : Int) + ((bytesP c).length : Int))) = false := by
        show ((((A ++ C).length : Nat) : Int) != IntKind.i64.wrap (((((bytesP a).take (60 : Int).toNat).drop (0 : Int).toNat).length : Int) + ((bytesP c).length : Int))) = false
        rw [nA, nC, wrap_i64 (by omega) (by omega), lAC]; simp
      iterate 6 refine Br.t rfl ?_
      refine Br.f rfl ?_
      refine Br.f f59 ?_
      obtain ⟨n, hn⟩ : ∃ n, n = kpN [k] 0 (A ++ C) A.length := ⟨_, rfl⟩
      have hnC : n ≤ C.length := by have := kpN_le (keeps := [k]) (i := 0) (b := A ++ C) (l := A.length) (by omega) (by omega); omega
      have lCn : (C.take n).length = n := by rw [List.length_take]; omega
      have lX : (A ++ C.take n).length = A.length + n := by rw [List.length_append, lCn]
      have c3 : ∀ K', K' (.tup []) (fsS [(1, [121], A ++ C.take n, (A ++ C.take n).length)] 2 (-1) 6) → Cal Try.prog 13 [fsP, .p (.sl .clip 1 [ii k]), .p (.sl .nil 0 [])] (fsS [(1, [121], A ++ C, A.length)] 2 (-1) 6) K' := fun K' hK =>
        crash_w [(1, [121], A ++ C, A.length)] 2 (-1) 6 (fok_one (by decide) (by decide) (by omega) (by omega)) (fi_one (by decide)) [k] [] _ _ .shr (.nil _ _) _ (fun ns hp _ => by
          have := perm_one hp; subst this
          have e : crB [k] [] 0 (A ++ C) A.length = A ++ C.take n := by
            show (A ++ C).take (A.length + kpN [k] 0 (A ++ C) A.length) = _
            rw [← hn, List.take_length_add_append]
          rw [← e] at hK
          exact hK)
      refine c3 _ ?_
      refine read_c [(1, [121], A ++ C.take n, (A ++ C.take n).length)] 2 (-1) 6 (fok_one (by decide) (by decide) (by omega) (by omega)) [121] _ ?_
      refine read_c [(1, [121], A ++ C.take n, (A ++ C.take n).length)] 2 (-1) 6 (fok_one (by decide) (by decide) (by omega) (by omega)) [120] _ ?_
      have hw : IntKind.i64.wrap (((bytesP (A ++ C)).length : Int) - A.length) = C.length := by rw [bytesP_len, wrap_i64 (by omega) (by omega)]; omega
      have hM : (if (0 : Int) > (if (((bytesP c).length : Nat) : Int) < k then (((bytesP c).length : Nat) : Int) else k) then (0 : Int) else (if (((bytesP c).length : Nat) : Int) < k then (((bytesP c).length : Nat) : Int) else k)) = (n : Int) := by
        rw [hn, nC]
        show _ = ((kpI k (A ++ C) A.length).toNat : Int)
        unfold kpI
        rw [hw]
        repeat' split
        all_goals omega
      have hM0 : (0 : Int) ≤ (if (0 : Int) > (if (((bytesP c).length : Nat) : Int) < k then (((bytesP c).length : Nat) : Int) else k) then (0 : Int) else (if (((bytesP c).length : Nat) : Int) < k then (((bytesP c).length : Nat) : Int) else k)) := by rw [hM]; exact Int.natCast_nonneg _
      have hM1 : (if (0 : Int) > (if (((bytesP c).length : Nat) : Int) < k then (((bytesP c).length : Nat) : Int) else k) then (0 : Int) else (if (((bytesP c).length : Nat) : Int) < k then (((bytesP c).length : Nat) : Int) else k)) ≤ (((bytesP c).length : Nat) : Int) := by rw [hM, nC]; omega
      have cC : ((bytesP c).take (if (0 : Int) > (if (((bytesP c).length : Nat) : Int) < k then (((bytesP c).length : Nat) : Int) else k) then (0 : Int) else (if (((bytesP c).length : Nat) : Int) < k then (((bytesP c).length : Nat) : Int) else k)).toNat).drop (0 : Int).toNat = bytesP (C.take n) := by
        have := cut_b (b := C) hM
        rw [← eC] at this
        exact this
      have fE : (A ++ C.take n == A ++ C.take n) = true := by simp
      have fE2 : ((A ++ C.take n == A ++ C.take n) == true) = true := by rw [fE]; rfl
      iterate 2 refine ⟨_, ⟨rfl, rfl⟩, ?_⟩
      iterate 2 (refine Br.t rfl ?_; refine ⟨_, ⟨rfl, rfl⟩, ?_⟩)
      refine ⟨_, Br.t rfl ⟨rfl, rfl⟩, ?_⟩
      refine ⟨_, ⟨rfl, rfl⟩, ?_⟩
      refine Br.t rfl ?_
      refine ⟨_, ⟨rfl, rfl⟩, ?_⟩
      refine Br.t rfl ?_
      refine ⟨_, Ob.mk (.inr rfl) ⟨A ++ C.take n, rfl, ⟨rfl, rfl⟩⟩, ?_⟩
      refine Br.t rfl ?_
      refine ⟨_, ⟨rfl, rfl⟩, ?_⟩
      refine Br.t rfl ?_
      refine ⟨_, Ob.mk (.inr rfl) ⟨A, eA, ⟨rfl, rfl⟩⟩, ?_⟩
      iterate 2 (refine Br.t rfl ?_; refine ⟨_, ⟨rfl, rfl⟩, ?_⟩)
      refine Br.t rfl ?_
      refine ⟨_, Ob.mk ⟨Int.le_refl 0, hM0, hM1⟩ ⟨rfl, rfl⟩, ?_⟩
      refine Br.t rfl ?_
      refine ⟨_, Ob.mk (.inr rfl) ⟨C.take n, cC, ⟨rfl, rfl⟩⟩, ?_⟩
      refine Br.t rfl ?_
      refine ⟨_, Ob.mk (show A.length + (C.take n).length < 9223372036854775808 by rw [lCn]; omega) ⟨rfl, rfl⟩, ?_⟩
      refine Br.t rfl ?_
      refine ⟨_, ⟨rfl, rfl⟩, ?_⟩
      refine ⟨_, Br.t rfl ⟨rfl, rfl⟩, ?_⟩
      refine ⟨_, ⟨rfl, rfl⟩, ?_⟩
      refine Br.t fE2 ?_
      refine ⟨_, ⟨rfl, rfl⟩, ?_⟩
      refine Br.t fE2 ?_
      refine ⟨_, _, deeds_c [(1, [121], A ++ C.take n, (A ++ C.take n).length)] 2 (-1) 6 _ ⟨rfl, rfl⟩, rfl, ?_⟩
      refine Br.t fE2 ?_
      refine ⟨_, ⟨rfl, rfl⟩, ?_⟩
      refine ⟨_, Br.t fE ⟨rfl, rfl⟩, ?_⟩
      refine ⟨_, ⟨rfl, rfl⟩, ?_⟩
      refine Br.t rfl ?_
      refine ⟨_, fun s' => known_p s' _ ⟨rfl, rfl⟩, rfl, ?_⟩
      refine ⟨_, Br.t rfl ⟨rfl, rfl⟩, ?_⟩
      refine ⟨_, ⟨rfl, rfl⟩, ?_⟩
      refine Chk.mk (by kernel_rfl) ?_
      exact h _
  · refine Br.f (decide_eq_false (show ¬ ((bytesP a).length : Int) > 60 by rw [la]; omega)) ?_
    by_cases hb : 60 < c.length
    · refine Br.t (decide_eq_true (show ((bytesP c).length : Int) > 60 by rw [lc]; omega)) ?_
      refine Ob.mk ⟨Int.le_refl 0, (by decide), (show (60 : Int) ≤ ((bytesP c).length : Int) by rw [lc]; omega)⟩ ?_
      obtain ⟨A, hA⟩ : ∃ A, A = a := ⟨_, rfl⟩
      have eA : (bytesP a) = bytesP A := by rw [hA]
      have lA : A.length ≤ 60 := by rw [hA]; omega
      obtain ⟨C, hC⟩ : ∃ C, C = c.take 60 := ⟨_, rfl⟩
      have eC : (((bytesP c).take (60 : Int).toNat).drop (0 : Int).toNat) = bytesP C := by rw [hC]; exact cut_b rfl
      have lC : C.length ≤ 60 := by rw [hC]; rw [List.length_take]; omega
      have nA : (bytesP a).length = A.length := by rw [eA, bytesP_len]
      have nC : (((bytesP c).take (60 : Int).toNat).drop (0 : Int).toNat).length = C.length := by rw [eC, bytesP_len]
      have c1 : ∀ K', K' (.p (ii 0)) (fsS [(0, [120], A, 0)] 1 (-1) 1) → Cal Try.prog 11 [fsP, .p (.str [120]), .p (.sl .shr 1 (bytesP a))] (fsS [] 0 (-1) 0) K' := fun K' hK => by
        rw [eA]
        exact append_k [] 0 (-1) 0 (fok_nil _ _ (by decide) (by decide)) [120] A (by decide +kernel) (by decide) (by decide) (by decide) (by omega) _ hK
      refine c1 _ ?_
      refine sync_k [(0, [120], A, 0)] 1 (-1) 1 (fok_one (by decide) (by decide) (by omega) (by omega)) [120] (A, 0) rfl (by decide) _ ?_
      have c2 : ∀ K', K' (.p (ii 0)) (fsS [(0, [120], A ++ C, A.length)] 1 (-1) 3) → Cal Try.prog 11 [fsP, .p (.str [120]), .p (.sl .shr 1 (((bytesP c).take (60 : Int).toNat).drop (0 : Int).toNat))] (fsS [(0, [120], A, A.length)] 1 (-1) 2) K' := fun K' hK => by
        rw [eC]
        exact append_k [(0, [120], A, A.length)] 1 (-1) 2 (fok_one (by decide) (by decide) (by omega) (by omega)) [120] C (by decide +kernel) (show 1 < 64 by decide) (by decide) (by decide) (by omega) _ hK
      refine c2 _ ?_
      have lAC : (A ++ C).length = A.length + C.length := List.length_append
      refine append_k [(0, [120], A ++ C, A.length)] 1 (-1) 3 (fok_one (by decide) (by decide) (by omega) (by omega)) [121] b (by decide +kernel) (show 1 < 64 by decide) (by decide) (by decide) (by omega) _ ?_
      refine sync_k [(0, [120], A ++ C, A.length), (1, [121], b, 0)] 2 (-1) 4 (fok_cons (by omega) (by omega) (fok_one (by decide) (by decide) (by omega) (by omega))) [121] (b, 0) rfl (by decide) _ ?_
      refine rename_c [(0, [120], A ++ C, A.length), (1, [121], b, b.length)] 2 (-1) 5 (fok_cons (by omega) (by omega) (fok_one (by decide) (by decide) (by omega) (by omega))) [120] [121] (by decide) _ (fun h => by cases h) (fun q _ h => absurd h (by decide +kernel)) (fun q _ _ h => absurd h (by decide)) (fun q hq _ _ => ?_)
      have hq : some (A ++ C, A.length) = some q := hq
      cases hq
      refine Br.t rfl ?_
      refine Br.t rfl ?_
      refine list_c [(1, [121], A ++ C, A.length)] 2 (-1) 6 (fi_one (by decide)) _ (fun ns hp _ => ?_)
      have := perm_one hp; subst this
      repeat (first | refine Br.t rfl ?_ | refine Br.f rfl ?_)
      refine len_c [(1, [121], A ++ C, A.length)] 2 (-1) 6 [121] _ ?_
      have f59 : ((((fB [(1, [121], A ++ C, A.length)] [121]).length : Nat) : Int) != IntKind.i64.wrap (((bytesP a).length : Int) + ((((bytesP c).take (60 : Int).toNat).drop (0 : Int).toNat).length : Int))) = false := by
        show ((((A ++ C).length : Nat) : Int) != IntKind.i64.wrap (((bytesP a).length : Int) + ((((bytesP c).take (60 : Int).toNat).drop (0 : Int).toNat).length : Int))) = false
        rw [nA, nC, wrap_i64 (by omega) (by omega), lAC]; simp
      iterate 6 refine Br.t rfl ?_
      refine Br.f rfl ?_
      refine Br.f f59 ?_
      obtain ⟨n, hn⟩ : ∃ n, n = kpN [k] 0 (A ++ C) A.length := ⟨_, rfl⟩
      have hnC : n ≤ C.length := by have := kpN_le (keeps := [k]) (i := 0) (b := A ++ C) (l := A.length) (by omega) (by omega); omega
      have lCn : (C.take n).length = n := by rw [List.length_take]; omega
      have lX : (A ++ C.take n).length = A.length + n := by rw [List.length_append, lCn]
      have c3 : ∀ K', K' (.tup []) (fsS [(1, [121], A ++ C.take n, (A ++ C.take n).length)] 2 (-1) 6) → Cal Try.prog 13 [fsP, .p (.sl .clip 1 [ii k]), .p (.sl .nil 0 [])] (fsS [(1, [121], A ++ C, A.length)] 2 (-1) 6) K' := fun K' hK =>
        crash_w [(1, [121], A ++ C, A.length)] 2 (-1) 6 (fok_one (by decide) (by decide) (by omega) (by omega)) (fi_one (by decide)) [k] [] _ _ .shr (.nil _ _) _ (fun ns hp _ => by
          have := perm_one hp; subst this
          have e : crB [k] [] 0 (A ++ C) A.length = A ++ C.take n := by
            show (A ++ C).take (A.length + kpN [k] 0 (A ++ C) A.length) = _
            rw [← hn, List.take_length_add_append]
          rw [← e] at hK
          exact hK)
      refine c3 _ ?_
      refine read_c [(1, [121], A ++ C.take n, (A ++ C.take n).length)] 2 (-1) 6 (fok_one (by decide) (by decide) (by omega) (by omega)) [121] _ ?_
      refine read_c [(1, [121], A ++ C.take n, (A ++ C.take n).length)] 2 (-1) 6 (fok_one (by decide) (by decide) (by omega) (by omega)) [120] _ ?_
      have hw : IntKind.i64.wrap (((bytesP (A ++ C)).length : Int) - A.length) = C.length := by rw [bytesP_len, wrap_i64 (by omega) (by omega)]; omega
      have hM : (if (0 : Int) > (if (((((bytesP c).take (60 : Int).toNat).drop (0 : Int).toNat).length : Nat) : Int) < k then (((((bytesP c).take (60 : Int).toNat).drop (0 : Int).toNat).length : Nat) : Int) else k) then (0 : Int) else (if (((((bytesP c).take (60 : Int).toNat).drop (0 : Int).toNat).length : Nat) : Int) < k then (((((bytesP c).take (60 : Int).toNat).drop (0 : Int).toNat).length : Nat) : Int) else k)) = (n : Int) := by
        rw [hn, nC]
        show _ = ((kpI k (A ++ C) A.length).toNat : Int)
        unfold kpI
        rw [hw]
        repeat' split
        all_goals omega
      have hM0 : (0 : Int) ≤ (if (0 : Int) > (if (((((bytesP c).take (60 : Int).toNat).drop (0 : Int).toNat).length : Nat) : Int) < k then (((((bytesP c).take (60 : Int).toNat).drop (0 : Int).toNat).length : Nat) : Int) else k) then (0 : Int) else (if (((((bytesP c).take (60 : Int).toNat).drop (0 : Int).toNat).length : Nat) : Int) < k then (((((bytesP c).take (60 : Int).toNat).drop (0 : Int).toNat).length : Nat) : Int) else k)) := by rw [hM]; exact Int.natCast_nonneg _
      have hM1 : (if (0 : Int) > (if (((((bytesP c).take (60 : Int).toNat).drop (0 : Int).toNat).length : Nat) : Int) < k then (((((bytesP c).take (60 : Int).toNat).drop (0 : Int).toNat).length : Nat) : Int) else k) then (0 : Int) else (if (((((bytesP c).take (60 : Int).toNat).drop (0 : Int).toNat).length : Nat) : Int) < k then (((((bytesP c).take (60 : Int).toNat).drop (0 : Int).toNat).length : Nat) : Int) else k)) ≤ (((((bytesP c).take (60 : Int).toNat).drop (0 : Int).toNat).length : Nat) : Int) := by rw [hM, nC]; omega
      have cC : ((((bytesP c).take (60 : Int).toNat).drop (0 : Int).toNat).take (if (0 : Int) > (if (((((bytesP c).take (60 : Int).toNat).drop (0 : Int).toNat).length : Nat) : Int) < k then (((((bytesP c).take (60 : Int).toNat).drop (0 : Int).toNat).length : Nat) : Int) else k) then (0 : Int) else (if (((((bytesP c).take (60 : Int).toNat).drop (0 : Int).toNat).length : Nat) : Int) < k then (((((bytesP c).take (60 : Int).toNat).drop (0 : Int).toNat).length : Nat) : Int) else k)).toNat).drop (0 : Int).toNat = bytesP (C.take n) := by
        have := cut_b (b := C) hM
        rw [← eC] at this
        exact this
      have fE : (A ++ C.take n == A ++ C.take n) = true := by simp
      have fE2 : ((A ++ C.take n == A ++ C.take n) == true) = true := by rw [fE]; rfl
      iterate 2 refine ⟨_, ⟨rfl, rfl⟩, ?_⟩
      iterate 2 (refine Br.t rfl ?_; refine ⟨_, ⟨rfl, rfl⟩, ?_⟩)
      refine ⟨_, Br.t rfl ⟨rfl, rfl⟩, ?_⟩
      refine ⟨_, ⟨rfl, rfl⟩, ?_⟩
      refine Br.t rfl ?_
      refine ⟨_, ⟨rfl, rfl⟩, ?_⟩
      refine Br.t rfl ?_
      refine ⟨_, Ob.mk (.inr rfl) ⟨A ++ C.take n, rfl, ⟨rfl, rfl⟩⟩, ?_⟩
      refine Br.t rfl ?_
      refine ⟨_, ⟨rfl, rfl⟩, ?_⟩
      refine Br.t rfl ?_
      refine ⟨_, Ob.mk (.inr rfl) ⟨A, eA, ⟨rfl, rfl⟩⟩, ?_⟩
      iterate 2 (refine Br.t rfl ?_; refine ⟨_, ⟨rfl, rfl⟩, ?_⟩)
      refine Br.t rfl ?_
      refine ⟨_, Ob.mk ⟨Int.le_refl 0, hM0, hM1⟩ ⟨rfl, rfl⟩, ?_⟩
      refine Br.t rfl ?_
      refine ⟨_, Ob.mk (.inr rfl) ⟨C.take n, cC, ⟨rfl, rfl⟩⟩, ?_⟩
      refine Br.t rfl ?_
      refine ⟨_, Ob.mk (show A.length + (C.take n).length < 9223372036854775808 by rw [lCn]; omega) ⟨rfl, rfl⟩, ?_⟩
      refine Br.t rfl ?_
      refine ⟨_, ⟨rfl, rfl⟩, ?_⟩
      refine ⟨_, Br.t rfl ⟨rfl, rfl⟩, ?_⟩
      refine ⟨_, ⟨rfl, rfl⟩, ?_⟩
      refine Br.t fE2 ?_
      refine ⟨_, ⟨rfl, rfl⟩, ?_⟩
      refine Br.t fE2 ?_
      refine ⟨_, _, deeds_c [(1, [121], A ++ C.take n, (A ++ C.take n).length)] 2 (-1) 6 _ ⟨rfl, rfl⟩, rfl, ?_⟩
      refine Br.t fE2 ?_
      refine ⟨_, ⟨rfl, rfl⟩, ?_⟩
      refine ⟨_, Br.t fE ⟨rfl, rfl⟩, ?_⟩
      refine ⟨_, ⟨rfl, rfl⟩, ?_⟩
      refine Br.t rfl ?_
      refine ⟨_, fun s' => known_p s' _ ⟨rfl, rfl⟩, rfl, ?_⟩
      refine ⟨_, Br.t rfl ⟨rfl, rfl⟩, ?_⟩
      refine ⟨_, ⟨rfl, rfl⟩, ?_⟩
      refine Chk.mk (by kernel_rfl) ?_
      exact h _
    · refine Br.f (decide_eq_false (show ¬ ((bytesP c).length : Int) > 60 by rw [lc]; omega)) ?_
      obtain ⟨A, hA⟩ : ∃ A, A = a := ⟨_, rfl⟩
      have eA : (bytesP a) = bytesP A := by rw [hA]
      have lA : A.length ≤ 60 := by rw [hA]; omega
      obtain ⟨C, hC⟩ : ∃ C, C = c := ⟨_, rfl⟩
      have eC : (bytesP c) = bytesP C := by rw [hC]
      have lC : C.length ≤ 60 := by rw [hC]; omega
      have nA : (bytesP a).length = A.length := by rw [eA, bytesP_len]
      have nC : (bytesP c).length = C.length := by rw [eC, bytesP_len]
      have c1 : ∀ K', K' (.p (ii 0)) (fsS [(0, [120], A, 0)] 1 (-1) 1) → Cal Try.prog 11 [fsP, .p (.str [120]), .p (.sl .shr 1 (bytesP a))] (fsS [] 0 (-1) 0) K' := fun K' hK => by
        rw [eA]
        exact append_k [] 0 (-1) 0 (fok_nil _ _ (by decide) (by decide)) [120] A (by decide +kernel) (by decide) (by decide) (by decide) (by omega) _ hK
      refine c1 _ ?_
      refine sync_k [(0, [120], A, 0)] 1 (-1) 1 (fok_one (by decide) (by decide) (by omega) (by omega)) [120] (A, 0) rfl (by decide) _ ?_
      have c2 : ∀ K', K' (.p (ii 0)) (fsS [(0, [120], A ++ C, A.length)] 1 (-1) 3) → Cal Try.prog 11 [fsP, .p (.str [120]), .p (.sl .shr 1 (bytesP c))] (fsS [(0, [120], A, A.length)] 1 (-1) 2) K' := fun K' hK => by
        rw [eC]
        exact append_k [(0, [120], A, A.length)] 1 (-1) 2 (fok_one (by decide) (by decide) (by omega) (by omega)) [120] C (by decide +kernel) (show 1 < 64 by decide) (by decide) (by decide) (by omega) _ hK
      refine c2 _ ?_
      have lAC : (A ++ C).length = A.length + C.length := List.length_append
      refine append_k [(0, [120], A ++ C, A.length)] 1 (-1) 3 (fok_one (by decide) (by decide) (by omega) (by omega)) [121] b (by decide +kernel) (show 1 < 64 by decide) (by decide) (by decide) (by omega) _ ?_
      refine sync_k [(0, [120], A ++ C, A.length), (1, [121], b, 0)] 2 (-1) 4 (fok_cons (by omega) (by omega) (fok_one (by decide) (by decide) (by omega) (by omega))) [121] (b, 0) rfl (by decide) _ ?_
      refine rename_c [(0, [120], A ++ C, A.length), (1, [121], b, b.length)] 2 (-1) 5 (fok_cons (by omega) (by omega) (fok_one (by decide) (by decide) (by omega) (by omega))) [120] [121] (by decide) _ (fun h => by cases h) (fun q _ h => absurd h (by decide +kernel)) (fun q _ _ h => absurd h (by decide)) (fun q hq _ _ => ?_)
      have hq : some (A ++ C, A.length) = some q := hq
      cases hq
      refine Br.t rfl ?_
      refine Br.t rfl ?_
      refine list_c [(1, [121], A ++ C, A.length)] 2 (-1) 6 (fi_one (by decide)) _ (fun ns hp _ => ?_)
      have := perm_one hp; subst this
      repeat (first | refine Br.t rfl ?_ | refine Br.f rfl ?_)
      refine len_c [(1, [121], A ++ C, A.length)] 2 (-1) 6 [121] _ ?_
      have f59 : ((((fB [(1, [121], A ++ C, A.length)] [121]).length : Nat) : Int) != IntKind.i64.wrap (((bytesP a).length : Int) + ((bytesP c).length : Int))) = false := by
        show ((((A ++ C).length : Nat) : Int) != IntKind.i64.wrap (((bytesP a).length : Int) + ((bytesP c).length : Int))) = false
        rw [nA, nC, wrap_i64 (by omega) (by omega), lAC]; simp
      iterate 6 refine Br.t rfl ?_
      refine Br.f rfl ?_
      refine Br.f f59 ?_
      obtain ⟨n, hn⟩ : ∃ n, n = kpN [k] 0 (A ++ C) A.length := ⟨_, rfl⟩
      have hnC : n ≤ C.length := by have := kpN_le (keeps := [k]) (i := 0) (b := A ++ C) (l := A.length) (by omega) (by omega); omega
      have lCn : (C.take n).length = n := by rw [List.length_take]; omega
      have lX : (A ++ C.take n).length = A.length + n := by rw [List.length_append, lCn]
      have c3 : ∀ K', K' (.tup []) (fsS [(1, [121], A ++ C.take n, (A ++ C.take n).length)] 2 (-1) 6) → Cal Try.prog 13 [fsP, .p (.sl .clip 1 [ii k]), .p (.sl .nil 0 [])] (fsS [(1, [121], A ++ C, A.length)] 2 (-1) 6) K' := fun K' hK =>
        crash_w [(1, [121], A ++ C, A.length)] 2 (-1) 6 (fok_one (by decide) (by decide) (by omega) (by omega)) (fi_one (by decide)) [k] [] _ _ .shr (.nil _ _) _ (fun ns hp _ => by
          have := perm_one hp; subst this
          have e : crB [k] [] 0 (A ++ C) A.length = A ++ C.take n := by
            show (A ++ C).take (A.length + kpN [k] 0 (A ++ C) A.length) = _
            rw [← hn, List.take_length_add_append]
          rw [← e] at hK
          exact hK)
      refine c3 _ ?_
      refine read_c [(1, [121], A ++ C.take n, (A ++ C.take n).length)] 2 (-1) 6 (fok_one (by decide) (by decide) (by omega) (by omega)) [121] _ ?_
      refine read_c [(1, [121], A ++ C.take n, (A ++ C.take n).length)] 2 (-1) 6 (fok_one (by decide) (by decide) (by omega) (by omega)) [120] _ ?_
      have hw : IntKind.i64.wrap (((bytesP (A ++ C)).length : Int) - A.length) = C.length := by rw [bytesP_len, wrap_i64 (by omega) (by omega)]; omega
      have hM : (if (0 : Int) > (if (((bytesP c).length : Nat) : Int) < k then (((bytesP c).length : Nat) : Int) else k) then (0 : Int) else (if (((bytesP c).length : Nat) : Int) < k then (((bytesP c).length : Nat) : Int) else k)) = (n : Int) := by
        rw [hn, nC]
        show _ = ((kpI k (A ++ C) A.length).toNat : Int)
        unfold kpI
        rw [hw]
        repeat' split
        all_goals omega
      have hM0 : (0 : Int) ≤ (if (0 : Int) > (if (((bytesP c).length : Nat) : Int) < k then (((bytesP c).length : Nat) : Int) else k) then (0 : Int) else (if (((bytesP c).length : Nat) : Int) < k then (((bytesP c).length : Nat) : Int) else k)) := by rw [hM]; exact Int.natCast_nonneg _
      have hM1 : (if (0 : Int) > (if (((bytesP c).length : Nat) : Int) < k then (((bytesP c).length : Nat) : Int) else k) then (0 : Int) else (if (((bytesP c).length : Nat) : Int) < k then (((bytesP c).length : Nat) : Int) else k)) ≤ (((bytesP c).length : Nat) : Int) := by rw [hM, nC]; omega
      have cC : ((bytesP c).take (if (0 : Int) > (if (((bytesP c).length : Nat) : Int) < k then (((bytesP c).length : Nat) : Int) else k) then (0 : Int) else (if (((bytesP c).length : Nat) : Int) < k then (((bytesP c).length : Nat) : Int) else k)).toNat).drop (0 : Int).toNat = bytesP (C.take n) := by
        have := cut_b (b := C) hM
        rw [← eC] at this
        exact this
      have fE : (A ++ C.take n == A ++ C.take n) = true := by simp
      have fE2 : ((A ++ C.take n == A ++ C.take n) == true) = true := by rw [fE]; rfl
      iterate 2 refine ⟨_, ⟨rfl, rfl⟩, ?_⟩
      iterate 2 (refine Br.t rfl ?_; refine ⟨_, ⟨rfl, rfl⟩, ?_⟩)
      refine ⟨_, Br.t rfl ⟨rfl, rfl⟩, ?_⟩
      refine ⟨_, ⟨rfl, rfl⟩, ?_⟩
      refine Br.t rfl ?_
      refine ⟨_, ⟨rfl, rfl⟩, ?_⟩
      refine Br.t rfl ?_
      refine ⟨_, Ob.mk (.inr rfl) ⟨A ++ C.take n, rfl, ⟨rfl, rfl⟩⟩, ?_⟩
      refine Br.t rfl ?_
      refine ⟨_, ⟨rfl, rfl⟩, ?_⟩
      refine Br.t rfl ?_
      refine ⟨_, Ob.mk (.inr rfl) ⟨A, eA, ⟨rfl, rfl⟩⟩, ?_⟩
      iterate 2 (refine Br.t rfl ?_; refine ⟨_, ⟨rfl, rfl⟩, ?_⟩)
      refine Br.t rfl ?_
      refine ⟨_, Ob.mk ⟨Int.le_refl 0, hM0, hM1⟩ ⟨rfl, rfl⟩, ?_⟩
      refine Br.t rfl ?_
      refine ⟨_, Ob.mk (.inr rfl) ⟨C.take n, cC, ⟨rfl, rfl⟩⟩, ?_⟩
      refine Br.t rfl ?_
      refine ⟨_, Ob.mk (show A.length + (C.take n).length < 9223372036854775808 by rw [lCn]; omega) ⟨rfl, rfl⟩, ?_⟩
      refine Br.t rfl ?_
      refine ⟨_, ⟨rfl, rfl⟩, ?_⟩
      refine ⟨_, Br.t rfl ⟨rfl, rfl⟩, ?_⟩
      refine ⟨_, ⟨rfl, rfl⟩, ?_⟩
      refine Br.t fE2 ?_
      refine ⟨_, ⟨rfl, rfl⟩, ?_⟩
      refine Br.t fE2 ?_
      refine ⟨_, _, deeds_c [(1, [121], A ++ C.take n, (A ++ C.take n).length)] 2 (-1) 6 _ ⟨rfl, rfl⟩, rfl, ?_⟩
      refine Br.t fE2 ?_
      refine ⟨_, ⟨rfl, rfl⟩, ?_⟩
      refine ⟨_, Br.t fE ⟨rfl, rfl⟩, ?_⟩
      refine ⟨_, ⟨rfl, rfl⟩, ?_⟩
      refine Br.t rfl ?_
      refine ⟨_, fun s' => known_p s' _ ⟨rfl, rfl⟩, rfl, ?_⟩
      refine ⟨_, Br.t rfl ⟨rfl, rfl⟩, ?_⟩
      refine ⟨_, ⟨rfl, rfl⟩, ?_⟩
      refine Chk.mk (by kernel_rfl) ?_
      exact h _
end Go.Proofs.Ytneheklmkbhieaa.AW
