/- A part of the proof: LF/F10, LF/F11, LF/F12, LF/F13, LF/F15. -/
import Derived.Test.YtneheklmkbhieaaP10
open Go Go.Proofs.Ytneheklmkbhieaa.AW Go.Proofs
namespace Go.Proofs.Ytneheklmkbhieaa.AW
set_option maxRecDepth 100000
set_option linter.unusedSimpArgs false
set_option linter.unusedVariables false

/-! ### FilesKeep -/
theorem xorF_get (c : List UInt8) (a b : Nat) (g : UInt8) (j : Nat) : (xorF c a b g)[j]? = c[j]?.map fun x => if a ≤ j ∧ j < b then x ^^^ g else x := by
  unfold xorF
  rw [List.getElem?_mapIdx]
theorem gbl_take (garble : List UInt8) (i : Nat) (c : List UInt8) (l : Nat) : (gbl garble i c l).take l = c.take l := by
  unfold gbl
  cases garble[i]? with
  | none => rfl
  | some g =>
    simp only
    apply List.ext_getElem?
    intro j
    rw [List.getElem?_take, List.getElem?_take]
    by_cases h : j < l
    · rw [if_pos h, if_pos h, xorF_get]
      cases c[j]? with
      | none => rfl
      | some x => show some (if _ then _ else _) = _; rw [if_neg (by omega)]
    · rw [if_neg h, if_neg h]
theorem keep_at {A B : List UInt8} {g : UInt8} {n i : Nat} (hn : n ≤ B.length) (hi : i < n) (x : UInt8) (hx : B[i]? = some x) :
    (gbl [g] 0 ((A ++ B).take (A.length + n)) A.length)[A.length + i]? = some (if (i : Int) ≥ (n : Int) - 64 then x ^^^ g else x) := by
  show (xorF ((A ++ B).take (A.length + n)) (max A.length (((A ++ B).take (A.length + n)).length - 64)) ((A ++ B).take (A.length + n)).length g)[A.length + i]? = _
  have hl : ((A ++ B).take (A.length + n)).length = A.length + n := by rw [List.length_take, List.length_append]; omega
  rw [xorF_get, hl, List.getElem?_take, if_pos (by omega), List.getElem?_append_right (by omega), Nat.add_sub_cancel_left, hx]
  show some (if _ then _ else _) = _
  by_cases h : (i : Int) ≥ (n : Int) - 64
  · rw [if_pos h, if_pos (by omega)]
  · rw [if_neg h, if_neg (by omega)]

set_option maxHeartbeats 8000000 in
theorem filesKeep_c (a b : List UInt8) (k : Int) (g : UInt8) (K : AV → Store → Prop) (h : ∀ s, K (.p (.bool true)) s) : Cal Try.prog 3 [.p (bsl a), .p (bsl b), .p (ii k), .p (.int .u8 g.toNat)] [] K := by
  refine Cal.intro Try.func3 (by decide +kernel) rfl rfl ?_
  have la := bytesP_len a
  have lb := bytesP_len b
  by_cases ha : 200 < a.length
  · refine Br.t (decide_eq_true (show ((bytesP a).length : Int) > 200 by rw [la]; omega)) ?_
    refine Ob.mk ⟨Int.le_refl 0, (by decide), (show (200 : Int) ≤ ((bytesP a).length : Int) by rw [la]; omega)⟩ ?_
    by_cases hb : 200 < b.length
    · refine Br.t (decide_eq_true (show ((bytesP b).length : Int) > 200 by rw [lb]; omega)) ?_
      refine Ob.mk ⟨Int.le_refl 0, (by decide), (show (200 : Int) ≤ ((bytesP b).length : Int) by rw [lb]; omega)⟩ ?_
      obtain ⟨A, hA⟩ : ∃ A, A = a.take 200 := ⟨_, rfl⟩
      have eA : (((bytesP a).take (200 : Int).toNat).drop (0 : Int).toNat) = bytesP A := by rw [hA]; exact cut_b rfl
      have lA : A.length ≤ 200 := by rw [hA]; rw [List.length_take]; omega
      obtain ⟨B, hB⟩ : ∃ B, B = b.take 200 := ⟨_, rfl⟩
      have eB : (((bytesP b).take (200 : Int).toNat).drop (0 : Int).toNat) = bytesP B := by rw [hB]; exact cut_b rfl
      have lB : B.length ≤ 200 := by rw [hB]; rw [List.length_take]; omega
      have nA : (((bytesP a).take (200 : Int).toNat).drop (0 : Int).toNat).length = A.length := by rw [eA, bytesP_len]
      have nB : (((bytesP b).take (200 : Int).toNat).drop (0 : Int).toNat).length = B.length := by rw [eB, bytesP_len]
      refine new_c _ ?_
      repeat (first | refine Br.t rfl ?_ | refine Br.f rfl ?_)
      have c1 : ∀ K', K' (.p (ii 0)) (fsS [(0, [120], A, 0)] 1 (-1) 1) → Cal Try.prog 11 [fsP, .p (.str [120]), .p (.sl .shr 1 (((bytesP a).take (200 : Int).toNat).drop (0 : Int).toNat))] (fsS [] 0 (-1) 0) K' := fun K' hK => by
        rw [eA]
        exact append_k [] 0 (-1) 0 (fok_nil _ _ (by decide) (by decide)) [120] A (by decide +kernel) (by decide) (by decide) (by decide) (by omega) _ hK
      refine c1 _ ?_
      repeat (first | refine Br.t rfl ?_ | refine Br.f rfl ?_)
      refine sync_k [(0, [120], A, 0)] 1 (-1) 1 (fok_one (by decide) (by decide) (by omega) (by omega)) [120] (A, 0) rfl (by decide) _ ?_
      repeat (first | refine Br.t rfl ?_ | refine Br.f rfl ?_)
      have c2 : ∀ K', K' (.p (ii 0)) (fsS [(0, [120], A ++ B, A.length)] 1 (-1) 3) → Cal Try.prog 11 [fsP, .p (.str [120]), .p (.sl .shr 1 (((bytesP b).take (200 : Int).toNat).drop (0 : Int).toNat))] (fsS [(0, [120], A, A.length)] 1 (-1) 2) K' := fun K' hK => by
        rw [eB]
        exact append_k [(0, [120], A, A.length)] 1 (-1) 2 (fok_one (by decide) (by decide) (by omega) (by omega)) [120] B (by decide +kernel) (show 1 < 64 by decide) (by decide) (by decide) (by omega) _ hK
      refine c2 _ ?_
      repeat (first | refine Br.t rfl ?_ | refine Br.f rfl ?_)
      refine Or.inl ?_
      have lAB : (A ++ B).length = A.length + B.length := List.length_append
      obtain ⟨n, hn⟩ : ∃ n, n = kpN [k] 0 (A ++ B) A.length := ⟨_, rfl⟩
      obtain ⟨X, hX⟩ : ∃ X, X = crB [k] [g] 0 (A ++ B) A.length := ⟨_, rfl⟩
      have hnB : n ≤ B.length := by have := kpN_le (keeps := [k]) (i := 0) (b := A ++ B) (l := A.length) (by omega) (by omega); omega
      have hXl : X.length = A.length + n := by rw [hX, hn]; exact crB_len (by omega) (by omega)
      have c3 : ∀ K', K' (.tup []) (fsS [(0, [120], X, X.length)] 1 (-1) 3) → Cal Try.prog 13 [fsP, .p (.sl .clip 1 [ii k]), .p (.sl .clip 1 [.int .u8 g.toNat])] (fsS [(0, [120], A ++ B, A.length)] 1 (-1) 3) K' := fun K' hK =>
        crash_w [(0, [120], A ++ B, A.length)] 1 (-1) 3 (fok_one (by decide) (by decide) (by omega) (by omega)) (fi_one (by decide)) [k] [g] _ _ .shr .shr _ (fun ns hp _ => by
          have := perm_one hp; subst this
          rw [hX] at hK
          exact hK)
      refine c3 _ ?_
      refine read_c [(0, [120], X, X.length)] 1 (-1) 3 (fok_one (by decide) (by decide) (by omega) (by omega)) [120] _ ?_
      have hw : IntKind.i64.wrap (((bytesP (A ++ B)).length : Int) - A.length) = B.length := by rw [bytesP_len, wrap_i64 (by omega) (by omega)]; omega
      have hM : (if (0 : Int) > (if (((((bytesP b).take (200 : Int).toNat).drop (0 : Int).toNat).length : Nat) : Int) < k then (((((bytesP b).take (200 : Int).toNat).drop (0 : Int).toNat).length : Nat) : Int) else k) then (0 : Int) else (if (((((bytesP b).take (200 : Int).toNat).drop (0 : Int).toNat).length : Nat) : Int) < k then (((((bytesP b).take (200 : Int).toNat).drop (0 : Int).toNat).length : Nat) : Int) else k)) = (n : Int) := by
        rw [hn, nB]
        show _ = ((kpI k (A ++ B) A.length).toNat : Int)
        unfold kpI
        rw [hw]
        repeat' split
        all_goals omega
      have lX := bytesP_len X
      have f72 : (((bytesP X).length : Int) != IntKind.i64.wrap (((((bytesP a).take (200 : Int).toNat).drop (0 : Int).toNat).length : Int) + (if (0 : Int) > (if (((((bytesP b).take (200 : Int).toNat).drop (0 : Int).toNat).length : Nat) : Int) < k then (((((bytesP b).take (200 : Int).toNat).drop (0 : Int).toNat).length : Nat) : Int) else k) then (0 : Int) else (if (((((bytesP b).take (200 : Int).toNat).drop (0 : Int).toNat).length : Nat) : Int) < k then (((((bytesP b).take (200 : Int).toNat).drop (0 : Int).toNat).length : Nat) : Int) else k)))) = false := by
        rw [hM, nA, lX, wrap_i64 (by omega) (by omega), hXl]; simp
      have f72b : ((((bytesP X).length : Int) != IntKind.i64.wrap (((((bytesP a).take (200 : Int).toNat).drop (0 : Int).toNat).length : Int) + (if (0 : Int) > (if (((((bytesP b).take (200 : Int).toNat).drop (0 : Int).toNat).length : Nat) : Int) < k then (((((bytesP b).take (200 : Int).toNat).drop (0 : Int).toNat).length : Nat) : Int) else k) then (0 : Int) else (if (((((bytesP b).take (200 : Int).toNat).drop (0 : Int).toNat).length : Nat) : Int) < k then (((((bytesP b).take (200 : Int).toNat).drop (0 : Int).toNat).length : Nat) : Int) else k)))) == false) = true := by rw [f72]; rfl
      have cX : ((bytesP X).take (((((bytesP a).take (200 : Int).toNat).drop (0 : Int).toNat).length : Nat) : Int).toNat).drop (0 : Int).toNat = bytesP A := by
        rw [cut_b (m := A.length) (by rw [nA])]
        rw [hX]; unfold crB
        rw [gbl_take, ← hn, List.take_take, Nat.min_eq_left (by omega), List.take_left]
      iterate 3 refine ⟨_, ⟨rfl, rfl⟩, ?_⟩
      iterate 7 (refine Br.t rfl ?_; refine ⟨_, ⟨rfl, rfl⟩, ?_⟩)
      refine ⟨_, Br.f rfl ⟨rfl, rfl⟩, ?_⟩
      refine ⟨_, ⟨rfl, rfl⟩, ?_⟩
      iterate 3 (refine Br.t f72b ?_; refine ⟨_, ⟨rfl, rfl⟩, ?_⟩)
      refine Br.t f72b ?_
      refine ⟨_, Ob.mk ⟨Int.le_refl 0, Int.natCast_nonneg _, (show (((((bytesP a).take (200 : Int).toNat).drop (0 : Int).toNat).length : Nat) : Int) ≤ ((bytesP X).length : Int) by rw [nA, lX]; omega)⟩ ⟨rfl, rfl⟩, ?_⟩
      refine Br.t f72b ?_
      refine ⟨_, Ob.mk (.inr rfl) ⟨A, cX, ⟨rfl, rfl⟩⟩, ?_⟩
      refine Br.t f72b ?_
      refine ⟨_, ⟨rfl, rfl⟩, ?_⟩
      refine Br.t f72b ?_
      refine ⟨_, Ob.mk (.inr rfl) ⟨A, eA, ⟨rfl, rfl⟩⟩, ?_⟩
      refine Br.t f72b ?_
      refine ⟨_, ⟨rfl, rfl⟩, ?_⟩
      refine ⟨_, Br.f f72 ⟨rfl, rfl⟩, ?_⟩
      refine Chk.mk (by kernel_rfl) ?_
      refine Br.f (show (!(A == A)) = false by simp) ?_
      refine LoopX.fam [0, 1, 3, 10, 12, 13] (fun (i : Nat) => ([(0, .p (.sl .shr 1 (((bytesP a).take (200 : Int).toNat).drop (0 : Int).toNat))), (1, .p (.sl .shr 1 (((bytesP b).take (200 : Int).toNat).drop (0 : Int).toNat))), (3, .p (.int .u8 g.toNat)), (10, .p (bsl X)), (12, .p (ii (if (0 : Int) > (if (((((bytesP b).take (200 : Int).toNat).drop (0 : Int).toNat).length : Nat) : Int) < k then (((((bytesP b).take (200 : Int).toNat).drop (0 : Int).toNat).length : Nat) : Int) else k) then (0 : Int) else (if (((((bytesP b).take (200 : Int).toNat).drop (0 : Int).toNat).length : Nat) : Int) < k then (((((bytesP b).take (200 : Int).toNat).drop (0 : Int).toNat).length : Nat) : Int) else k)))), (13, .p (ii i))], fsS [(0, [120], X, X.length)] 1 (-1) 3))
        (fun i => i ≤ n) (fun i => n - i) 0 (Nat.zero_le _) (Trim.mk' rfl rfl rfl rfl (Nat.le_refl _)) ?_
      intro i hin
      have hin : i ≤ n := hin
      refine Br.mk (fun hc => ?_) (fun hc => ?_)
      · have hc : i < n := by have := of_decide_eq_true hc; rw [hM] at this; omega
        obtain ⟨y, hy⟩ : ∃ y, B[i]? = some y := ⟨_, List.getElem?_eq_getElem (by omega)⟩
        have ei : IntKind.i64.wrap ((i : Int) + 1) = ((i + 1 : Nat) : Int) := by rw [wrap_i64] <;> omega
        have e64 : IntKind.i64.wrap ((if (0 : Int) > (if (((((bytesP b).take (200 : Int).toNat).drop (0 : Int).toNat).length : Nat) : Int) < k then (((((bytesP b).take (200 : Int).toNat).drop (0 : Int).toNat).length : Nat) : Int) else k) then (0 : Int) else (if (((((bytesP b).take (200 : Int).toNat).drop (0 : Int).toNat).length : Nat) : Int) < k then (((((bytesP b).take (200 : Int).toNat).drop (0 : Int).toNat).length : Nat) : Int) else k)) - 64) = (n : Int) - 64 := by rw [hM, wrap_i64 (by omega) (by omega)]
        have eadd : IntKind.i64.wrap (((((bytesP a).take (200 : Int).toNat).drop (0 : Int).toNat).length : Int) + (i : Int)) = ((A.length + i : Nat) : Int) := by rw [nA, wrap_i64 (by omega) (by omega)]; omega
        have hk := keep_at (A := A) (g := g) hnB hc y hy
        have hXg : gbl [g] 0 ((A ++ B).take (A.length + n)) A.length = X := by rw [hX]; unfold crB; rw [← hn]
        rw [hXg] at hk
        refine Idx.mk (.int .u8 y.toNat) (Int.natCast_nonneg i) (by rw [eB]; exact bytes_at hy) ?_
        by_cases hq : (i : Int) ≥ (n : Int) - 64
        · refine Br.t (decide_eq_true (show (i : Int) ≥ IntKind.i64.wrap ((if (0 : Int) > (if (((((bytesP b).take (200 : Int).toNat).drop (0 : Int).toNat).length : Nat) : Int) < k then (((((bytesP b).take (200 : Int).toNat).drop (0 : Int).toNat).length : Nat) : Int) else k) then (0 : Int) else (if (((((bytesP b).take (200 : Int).toNat).drop (0 : Int).toNat).length : Nat) : Int) < k then (((((bytesP b).take (200 : Int).toNat).drop (0 : Int).toNat).length : Nat) : Int) else k)) - 64) by rw [e64]; exact hq)) ?_
          rw [if_pos hq] at hk
          refine Idx.mk (.int .u8 (y ^^^ g).toNat) (by rw [eadd]; exact Int.natCast_nonneg _) (by rw [eadd]; exact bytes_at hk) ?_
          refine Br.f (show (((y ^^^ g).toNat : Int) != bits .xor .u8 (y.toNat : Int) (g.toNat : Int)) = false by rw [xor_u8]; simp) ?_
          refine ⟨i + 1, (show i + 1 ≤ n by omega), (show n - (i + 1) < n - i by omega), Nat.le_refl _, Trim.mk' ?_ rfl rfl rfl (Nat.le_refl _)⟩
          refine Eq.trans (b := [_, _, _, _, _, (13, AV.p (ii (IntKind.i64.wrap ((i : Int) + 1))))]) rfl ?_
          first | (rw [ei]; done) | (rw [ei]; rfl)
        · refine Br.f (decide_eq_false (show ¬ (i : Int) ≥ IntKind.i64.wrap ((if (0 : Int) > (if (((((bytesP b).take (200 : Int).toNat).drop (0 : Int).toNat).length : Nat) : Int) < k then (((((bytesP b).take (200 : Int).toNat).drop (0 : Int).toNat).length : Nat) : Int) else k) then (0 : Int) else (if (((((bytesP b).take (200 : Int).toNat).drop (0 : Int).toNat).length : Nat) : Int) < k then (((((bytesP b).take (200 : Int).toNat).drop (0 : Int).toNat).length : Nat) : Int) else k)) - 64) by rw [e64]; exact hq)) ?_
          rw [if_neg hq] at hk
          refine Idx.mk (.int .u8 y.toNat) (by rw [eadd]; exact Int.natCast_nonneg _) (by rw [eadd]; exact bytes_at hk) ?_
          refine Br.f (show ((y.toNat : Int) != (y.toNat : Int)) = false by simp) ?_
          refine ⟨i + 1, (show i + 1 ≤ n by omega), (show n - (i + 1) < n - i by omega), Nat.le_refl _, Trim.mk' ?_ rfl rfl rfl (Nat.le_refl _)⟩
          refine Eq.trans (b := [_, _, _, _, _, (13, AV.p (ii (IntKind.i64.wrap ((i : Int) + 1))))]) rfl ?_
          first | (rw [ei]; done) | (rw [ei]; rfl)
      · refine Cal.frameK [] (known_c _ fun _ => ?_) rfl rfl rfl
        exact h _
    · refine Br.f (decide_eq_false (show ¬ ((bytesP b).length : Int) > 200 by rw [lb]; omega)) ?_
      obtain ⟨A, hA⟩ : ∃ A, A = a.take 200 := ⟨_, rfl⟩
      have eA : (((bytesP a).take (200 : Int).toNat).drop (0 : Int).toNat) = bytesP A := by rw [hA]; exact cut_b rfl
      have lA : A.length ≤ 200 := by rw [hA]; rw [List.length_take]; omega
      obtain ⟨B, hB⟩ : ∃ B, B = b := ⟨_, rfl⟩
      have eB : (bytesP b) = bytesP B := by rw [hB]
      have lB : B.length ≤ 200 := by rw [hB]; omega
      have nA : (((bytesP a).take (200 : Int).toNat).drop (0 : Int).toNat).length = A.length := by rw [eA, bytesP_len]
      have nB : (bytesP b).length = B.length := by rw [eB, bytesP_len]
      refine new_c _ ?_
      repeat (first | refine Br.t rfl ?_ | refine Br.f rfl ?_)
      have c1 : ∀ K', K' (.p (ii 0)) (fsS [(0, [120], A, 0)] 1 (-1) 1) → Cal Try.prog 11 [fsP, .p (.str [120]), .p (.sl .shr 1 (((bytesP a).take (200 : Int).toNat).drop (0 : Int).toNat))] (fsS [] 0 (-1) 0) K' := fun K' hK => by
        rw [eA]
        exact append_k [] 0 (-1) 0 (fok_nil _ _ (by decide) (by decide)) [120] A (by decide +kernel) (by decide) (by decide) (by decide) (by omega) _ hK
      refine c1 _ ?_
      repeat (first | refine Br.t rfl ?_ | refine Br.f rfl ?_)
      refine sync_k [(0, [120], A, 0)] 1 (-1) 1 (fok_one (by decide) (by decide) (by omega) (by omega)) [120] (A, 0) rfl (by decide) _ ?_
      repeat (first | refine Br.t rfl ?_ | refine Br.f rfl ?_)
      have c2 : ∀ K', K' (.p (ii 0)) (fsS [(0, [120], A ++ B, A.length)] 1 (-1) 3) → Cal Try.prog 11 [fsP, .p (.str [120]), .p (.sl .shr 1 (bytesP b))] (fsS [(0, [120], A, A.length)] 1 (-1) 2) K' := fun K' hK => by
        rw [eB]
        exact append_k [(0, [120], A, A.length)] 1 (-1) 2 (fok_one (by decide) (by decide) (by omega) (by omega)) [120] B (by decide +kernel) (show 1 < 64 by decide) (by decide) (by decide) (by omega) _ hK
      refine c2 _ ?_
      repeat (first | refine Br.t rfl ?_ | refine Br.f rfl ?_)
      refine Or.inl ?_
      have lAB : (A ++ B).length = A.length + B.length := List.length_append
      obtain ⟨n, hn⟩ : ∃ n, n = kpN [k] 0 (A ++ B) A.length := ⟨_, rfl⟩
      obtain ⟨X, hX⟩ : ∃ X, X = crB [k] [g] 0 (A ++ B) A.length := ⟨_, rfl⟩
      have hnB : n ≤ B.length := by have := kpN_le (keeps := [k]) (i := 0) (b := A ++ B) (l := A.length) (by omega) (by omega); omega
      have hXl : X.length = A.length + n := by rw [hX, hn]; exact crB_len (by omega) (by omega)
      have c3 : ∀ K', K' (.tup []) (fsS [(0, [120], X, X.length)] 1 (-1) 3) → Cal Try.prog 13 [fsP, .p (.sl .clip 1 [ii k]), .p (.sl .clip 1 [.int .u8 g.toNat])] (fsS [(0, [120], A ++ B, A.length)] 1 (-1) 3) K' := fun K' hK =>
        crash_w [(0, [120], A ++ B, A.length)] 1 (-1) 3 (fok_one (by decide) (by decide) (by omega) (by omega)) (fi_one (by decide)) [k] [g] _ _ .shr .shr _ (fun ns hp _ => by
          have := perm_one hp; subst this
          rw [hX] at hK
          exact hK)
      refine c3 _ ?_
      refine read_c [(0, [120], X, X.length)] 1 (-1) 3 (fok_one (by decide) (by decide) (by omega) (by omega)) [120] _ ?_
      have hw : IntKind.i64.wrap (((bytesP (A ++ B)).length : Int) - A.length) = B.length := by rw [bytesP_len, wrap_i64 (by omega) (by omega)]; omega
      have hM : (if (0 : Int) > (if (((bytesP b).length : Nat) : Int) < k then (((bytesP b).length : Nat) : Int) else k) then (0 : Int) else (if (((bytesP b).length : Nat) : Int) < k then (((bytesP b).length : Nat) : Int) else k)) = (n : Int) := by
        rw [hn, nB]
        show _ = ((kpI k (A ++ B) A.length).toNat : Int)
        unfold kpI
        rw [hw]
        repeat' split
        all_goals omega
      have lX := bytesP_len X
      have f72 : (((bytesP X).length : Int) != IntKind.i64.wrap (((((bytesP a).take (200 : Int).toNat).drop (0 : Int).toNat).length : Int) + (if (0 : Int) > (if (((bytesP b).length : Nat) : Int) < k then (((bytesP b).length : Nat) : Int) else k) then (0 : Int) else (if (((bytesP b).length : Nat) : Int) < k then (((bytesP b).length : Nat) : Int) else k)))) = false := by
        rw [hM, nA, lX, wrap_i64 (by omega) (by omega), hXl]; simp
      have f72b : ((((bytesP X).length : Int) != IntKind.i64.wrap (((((bytesP a).take (200 : Int).toNat).drop (0 : Int).toNat).length : Int) + (if (0 : Int) > (if (((bytesP b).length : Nat) : Int) < k then (((bytesP b).length : Nat) : Int) else k) then (0 : Int) else (if (((bytesP b).length : Nat) : Int) < k then (((bytesP b).length : Nat) : Int) else k)))) == false) = true := by rw [f72]; rfl
      have cX : ((bytesP X).take (((((bytesP a).take (200 : Int).toNat).drop (0 : Int).toNat).length : Nat) : Int).toNat).drop (0 : Int).toNat = bytesP A := by
        rw [cut_b (m := A.length) (by rw [nA])]
        rw [hX]; unfold crB
        rw [gbl_take, ← hn, List.take_take, Nat.min_eq_left (by omega), List.take_left]
      iterate 3 refine ⟨_, ⟨rfl, rfl⟩, ?_⟩
      iterate 7 (refine Br.t rfl ?_; refine ⟨_, ⟨rfl, rfl⟩, ?_⟩)
      refine ⟨_, Br.f rfl ⟨rfl, rfl⟩, ?_⟩
      refine ⟨_, ⟨rfl, rfl⟩, ?_⟩
      iterate 3 (refine Br.t f72b ?_; refine ⟨_, ⟨rfl, rfl⟩, ?_⟩)
      refine Br.t f72b ?_
      refine ⟨_, Ob.mk ⟨Int.le_refl 0, Int.natCast_nonneg _, (show (((((bytesP a).take (200 : Int).toNat).drop (0 : Int).toNat).length : Nat) : Int) ≤ ((bytesP X).length : Int) by rw [nA, lX]; omega)⟩ ⟨rfl, rfl⟩, ?_⟩
      refine Br.t f72b ?_
      refine ⟨_, Ob.mk (.inr rfl) ⟨A, cX, ⟨rfl, rfl⟩⟩, ?_⟩
      refine Br.t f72b ?_
      refine ⟨_, ⟨rfl, rfl⟩, ?_⟩
      refine Br.t f72b ?_
      refine ⟨_, Ob.mk (.inr rfl) ⟨A, eA, ⟨rfl, rfl⟩⟩, ?_⟩
      refine Br.t f72b ?_
      refine ⟨_, ⟨rfl, rfl⟩, ?_⟩
      refine ⟨_, Br.f f72 ⟨rfl, rfl⟩, ?_⟩
      refine Chk.mk (by kernel_rfl) ?_
      refine Br.f (show (!(A == A)) = false by simp) ?_
      refine LoopX.fam [0, 1, 3, 10, 12, 13] (fun (i : Nat) => ([(0, .p (.sl .shr 1 (((bytesP a).take (200 : Int).toNat).drop (0 : Int).toNat))), (1, .p (.sl .shr 1 (bytesP b))), (3, .p (.int .u8 g.toNat)), (10, .p (bsl X)), (12, .p (ii (if (0 : Int) > (if (((bytesP b).length : Nat) : Int) < k then (((bytesP b).length : Nat) : Int) else k) then (0 : Int) else (if (((bytesP b).length : Nat) : Int) < k then (((bytesP b).length : Nat) : Int) else k)))), (13, .p (ii i))], fsS [(0, [120], X, X.length)] 1 (-1) 3))
        (fun i => i ≤ n) (fun i => n - i) 0 (Nat.zero_le _) (Trim.mk' rfl rfl rfl rfl (Nat.le_refl _)) ?_
      intro i hin
      have hin : i ≤ n := hin
      refine Br.mk (fun hc => ?_) (fun hc => ?_)
      · have hc : i < n := by have := of_decide_eq_true hc; rw [hM] at this; omega
        obtain ⟨y, hy⟩ : ∃ y, B[i]? = some y := ⟨_, List.getElem?_eq_getElem (by omega)⟩
        have ei : IntKind.i64.wrap ((i : Int) + 1) = ((i + 1 : Nat) : Int) := by rw [wrap_i64] <;> omega
        have e64 : IntKind.i64.wrap ((if (0 : Int) > (if (((bytesP b).length : Nat) : Int) < k then (((bytesP b).length : Nat) : Int) else k) then (0 : Int) else (if (((bytesP b).length : Nat) : Int) < k then (((bytesP b).length : Nat) : Int) else k)) - 64) = (n : Int) - 64 := by rw [hM, wrap_i64 (by omega) (by omega)]
        have eadd : IntKind.i64.wrap (((((bytesP a).take (200 : Int).toNat).drop (0 : Int).toNat).length : Int) + (i : Int)) = ((A.length + i : Nat) : Int) := by rw [nA, wrap_i64 (by omega) (by omega)]; omega
        have hk := keep_at (A := A) (g := g) hnB hc y hy
        have hXg : gbl [g] 0 ((A ++ B).take (A.length + n)) A.length = X := by rw [hX]; unfold crB; rw [← hn]
        rw [hXg] at hk
        refine Idx.mk (.int .u8 y.toNat) (Int.natCast_nonneg i) (by rw [eB]; exact bytes_at hy) ?_
        by_cases hq : (i : Int) ≥ (n : Int) - 64
        · refine Br.t (decide_eq_true (show (i : Int) ≥ IntKind.i64.wrap ((if (0 : Int) > (if (((bytesP b).length : Nat) : Int) < k then (((bytesP b).length : Nat) : Int) else k) then (0 : Int) else (if (((bytesP b).length : Nat) : Int) < k then (((bytesP b).length : Nat) : Int) else k)) - 64) by rw [e64]; exact hq)) ?_
          rw [if_pos hq] at hk
          refine Idx.mk (.int .u8 (y ^^^ g).toNat) (by rw [eadd]; exact Int.natCast_nonneg _) (by rw [eadd]; exact bytes_at hk) ?_
          refine Br.f (show (((y ^^^ g).toNat : Int) != bits .xor .u8 (y.toNat : Int) (g.toNat : Int)) = false by rw [xor_u8]; simp) ?_
          refine ⟨i + 1, (show i + 1 ≤ n by omega), (show n - (i + 1) < n - i by omega), Nat.le_refl _, Trim.mk' ?_ rfl rfl rfl (Nat.le_refl _)⟩
          refine Eq.trans (b := [_, _, _, _, _, (13, AV.p (ii (IntKind.i64.wrap ((i : Int) + 1))))]) rfl ?_
          first | (rw [ei]; done) | (rw [ei]; rfl)
        · refine Br.f (decide_eq_false (show ¬ (i : Int) ≥ IntKind.i64.wrap ((if (0 : Int) > (if (((bytesP b).length : Nat) : Int) < k then (((bytesP b).length : Nat) : Int) else k) then (0 : Int) else (if (((bytesP b).length : Nat) : Int) < k then (((bytesP b).length : Nat) : Int) else k)) - 64) by rw [e64]; exact hq)) ?_
          rw [if_neg hq] at hk
          refine Idx.mk (.int .u8 y.toNat) (by rw [eadd]; exact Int.natCast_nonneg _) (by rw [eadd]; exact bytes_at hk) ?_
          refine Br.f (show ((y.toNat : Int) != (y.toNat : Int)) = false by simp) ?_
          refine ⟨i + 1, (show i + 1 ≤ n by omega), (show n - (i + 1) < n - i by omega), Nat.le_refl _, Trim.mk' ?_ rfl rfl rfl (Nat.le_refl _)⟩
          refine Eq.trans (b := [_, _, _, _, _, (13, AV.p (ii (IntKind.i64.wrap ((i : Int) + 1))))]) rfl ?_
          first | (rw [ei]; done) | (rw [ei]; rfl)
      · refine Cal.frameK [] (known_c _ fun _ => ?_) rfl rfl rfl
        exact h _
  · refine Br.f (decide_eq_false (show ¬ ((bytesP a).length : Int) > 200 by rw [la]; omega)) ?_
    by_cases hb : 200 < b.length
    · refine Br.t (decide_eq_true (show ((bytesP b).length : Int) > 200 by rw [lb]; omega)) ?_
      refine Ob.mk ⟨Int.le_refl 0, (by decide), (show (200 : Int) ≤ ((bytesP b).length : Int) by rw [lb]; omega)⟩ ?_
      obtain ⟨A, hA⟩ : ∃ A, A = a := ⟨_, rfl⟩
      have eA : (bytesP a) = bytesP A := by rw [hA]
      have lA : A.length ≤ 200 := by rw [hA]; omega
      obtain ⟨B, hB⟩ : ∃ B, B = b.take 200 := ⟨_, rfl⟩
      have eB : (((bytesP b).take (200 : Int).toNat).drop (0 : Int).toNat) = bytesP B := by rw [hB]; exact cut_b rfl
      have lB : B.length ≤ 200 := by rw [hB]; rw [List.length_take]; omega
      have nA : (bytesP a).length = A.length := by rw [eA, bytesP_len]
      have nB : (((bytesP b).take (200 : Int).toNat).drop (0 : Int).toNat).length = B.length := by rw [eB, bytesP_len]
      refine new_c _ ?_
      repeat (first | refine Br.t rfl ?_ | refine Br.f rfl ?_)
      have c1 : ∀ K', K' (.p (ii 0)) (fsS [(0, [120], A, 0)] 1 (-1) 1) → Cal Try.prog 11 [fsP, .p (.str [120]), .p (.sl .shr 1 (bytesP a))] (fsS [] 0 (-1) 0) K' := fun K' hK => by
        rw [eA]
        exact append_k [] 0 (-1) 0 (fok_nil _ _ (by decide) (by decide)) [120] A (by decide +kernel) (by decide) (by decide) (by decide) (by omega) _ hK
      refine c1 _ ?_
      repeat (first | refine Br.t rfl ?_ | refine Br.f rfl ?_)
      refine sync_k [(0, [120], A, 0)] 1 (-1) 1 (fok_one (by decide) (by decide) (by omega) (by omega)) [120] (A, 0) rfl (by decide) _ ?_
      repeat (first | refine Br.t rfl ?_ | refine Br.f rfl ?_)
      have c2 : ∀ K', K' (.p (ii 0)) (fsS [(0, [120], A ++ B, A.length)] 1 (-1) 3) → Cal Try.prog 11 [fsP, .p (.str [120]), .p (.sl .shr 1 (((bytesP b).take (200 : Int).toNat).drop (0 : Int).toNat))] (fsS [(0, [120], A, A.length)] 1 (-1) 2) K' := fun K' hK => by
        rw [eB]
        exact append_k [(0, [120], A, A.length)] 1 (-1) 2 (fok_one (by decide) (by decide) (by omega) (by omega)) [120] B (by decide +kernel) (show 1 < 64 by decide) (by decide) (by decide) (by omega) _ hK
      refine c2 _ ?_
      repeat (first | refine Br.t rfl ?_ | refine Br.f rfl ?_)
      refine Or.inl ?_
      have lAB : (A ++ B).length = A.length + B.length := List.length_append
      obtain ⟨n, hn⟩ : ∃ n, n = kpN [k] 0 (A ++ B) A.length := ⟨_, rfl⟩
      obtain ⟨X, hX⟩ : ∃ X, X = crB [k] [g] 0 (A ++ B) A.length := ⟨_, rfl⟩
      have hnB : n ≤ B.length := by have := kpN_le (keeps := [k]) (i := 0) (b := A ++ B) (l := A.length) (by omega) (by omega); omega
      have hXl : X.length = A.length + n := by rw [hX, hn]; exact crB_len (by omega) (by omega)
      have c3 : ∀ K', K' (.tup []) (fsS [(0, [120], X, X.length)] 1 (-1) 3) → Cal Try.prog 13 [fsP, .p (.sl .clip 1 [ii k]), .p (.sl .clip 1 [.int .u8 g.toNat])] (fsS [(0, [120], A ++ B, A.length)] 1 (-1) 3) K' := fun K' hK =>
        crash_w [(0, [120], A ++ B, A.length)] 1 (-1) 3 (fok_one (by decide) (by decide) (by omega) (by omega)) (fi_one (by decide)) [k] [g] _ _ .shr .shr _ (fun ns hp _ => by
          have := perm_one hp; subst this
          rw [hX] at hK
          exact hK)
      refine c3 _ ?_
      refine read_c [(0, [120], X, X.length)] 1 (-1) 3 (fok_one (by decide) (by decide) (by omega) (by omega)) [120] _ ?_
      have hw : IntKind.i64.wrap (((bytesP (A ++ B)).length : Int) - A.length) = B.length := by rw [bytesP_len, wrap_i64 (by omega) (by omega)]; omega
      have hM : (if (0 : Int) > (if (((((bytesP b).take (200 : Int).toNat).drop (0 : Int).toNat).length : Nat) : Int) < k then (((((bytesP b).take (200 : Int).toNat).drop (0 : Int).toNat).length : Nat) : Int) else k) then (0 : Int) else (if (((((bytesP b).take (200 : Int).toNat).drop (0 : Int).toNat).length : Nat) : Int) < k then (((((bytesP b).take (200 : Int).toNat).drop (0 : Int).toNat).length : Nat) : Int) else k)) = (n : Int) := by
        rw [hn, nB]
        show _ = ((kpI k (A ++ B) A.length).toNat : Int)
        unfold kpI
        rw [hw]
        repeat' split
        all_goals omega
      have lX := bytesP_len X
      have f72 : (((bytesP X).length : Int) != IntKind.i64.wrap (((bytesP a).length : Int) + (if (0 : Int) > (if (((((bytesP b).take (200 : Int).toNat).drop (0 : Int).toNat).length : Nat) : Int) < k then (((((bytesP b).take (200 : Int).toNat).drop (0 : Int).toNat).length : Nat) : Int) else k) then (0 : Int) else (if (((((bytesP b).take (200 : Int).toNat).drop (0 : Int).toNat).length : Nat) : Int) < k then (((((bytesP b).take (200 : Int).toNat).drop (0 : Int).toNat).length : Nat) : Int) else k)))) = false := by
        rw [hM, nA, lX, wrap_i64 (by omega) (by omega), hXl]; simp
      have f72b : ((((bytesP X).length : Int) != IntKind.i64.wrap (((bytesP a).length : Int) + (if (0 : Int) > (if (((((bytesP b).take (200 : Int).toNat).drop (0 : Int).toNat).length : Nat) : Int) < k then (((((bytesP b).take (200 : Int).toNat).drop (0 : Int).toNat).length : Nat) : Int) else k) then (0 : Int) else (if (((((bytesP b).take (200 : Int).toNat).drop (0 : Int).toNat).length : Nat) : Int) < k then (((((bytesP b).take (200 : Int).toNat).drop (0 : Int).toNat).length : Nat) : Int) else k)))) == false) = true := by rw [f72]; rfl
      have cX : ((bytesP X).take (((bytesP a).length : Nat) : Int).toNat).drop (0 : Int).toNat = bytesP A := by
        rw [cut_b (m := A.length) (by rw [nA])]
        rw [hX]; unfold crB
        rw [gbl_take, ← hn, List.take_take, Nat.min_eq_left (by omega), List.take_left]
      iterate 3 refine ⟨_, ⟨rfl, rfl⟩, ?_⟩
      iterate 7 (refine Br.t rfl ?_; refine ⟨_, ⟨rfl, rfl⟩, ?_⟩)
      refine ⟨_, Br.f rfl ⟨rfl, rfl⟩, ?_⟩
      refine ⟨_, ⟨rfl, rfl⟩, ?_⟩
      iterate 3 (refine Br.t f72b ?_; refine ⟨_, ⟨rfl, rfl⟩, ?_⟩)
      refine Br.t f72b ?_
      refine ⟨_, Ob.mk ⟨Int.le_refl 0, Int.natCast_nonneg _, (show (((bytesP a).length : Nat) : Int) ≤ ((bytesP X).length : Int) by rw [nA, lX]; omega)⟩ ⟨rfl, rfl⟩, ?_⟩
      refine Br.t f72b ?_
      refine ⟨_, Ob.mk (.inr rfl) ⟨A, cX, ⟨rfl, rfl⟩⟩, ?_⟩
      refine Br.t f72b ?_
      refine ⟨_, ⟨rfl, rfl⟩, ?_⟩
      refine Br.t f72b ?_
      refine ⟨_, Ob.mk (.inr rfl) ⟨A, eA, ⟨rfl, rfl⟩⟩, ?_⟩
      refine Br.t f72b ?_
      refine ⟨_, ⟨rfl, rfl⟩, ?_⟩
      refine ⟨_, Br.f f72 ⟨rfl, rfl⟩, ?_⟩
      refine Chk.mk (by kernel_rfl) ?_
      refine Br.f (show (!(A == A)) = false by simp) ?_
      refine LoopX.fam [0, 1, 3, 10, 12, 13] (fun (i : Nat) => ([(0, .p (.sl .shr 1 (bytesP a))), (1, .p (.sl .shr 1 (((bytesP b).take (200 : Int).toNat).drop (0 : Int).toNat))), (3, .p (.int .u8 g.toNat)), (10, .p (bsl X)), (12, .p (ii (if (0 : Int) > (if (((((bytesP b).take (200 : Int).toNat).drop (0 : Int).toNat).length : Nat) : Int) < k then (((((bytesP b).take (200 : Int).toNat).drop (0 : Int).toNat).length : Nat) : Int) else k) then (0 : Int) else (if (((((bytesP b).take (200 : Int).toNat).drop (0 : Int).toNat).length : Nat) : Int) < k then (((((bytesP b).take (200 : Int).toNat).drop (0 : Int).toNat).length : Nat) : Int) else k)))), (13, .p (ii i))], fsS [(0, [120], X, X.length)] 1 (-1) 3))
        (fun i => i ≤ n) (fun i => n - i) 0 (Nat.zero_le _) (Trim.mk' rfl rfl rfl rfl (Nat.le_refl _)) ?_
      intro i hin
      have hin : i ≤ n := hin
      refine Br.mk (fun hc => ?_) (fun hc => ?_)
      · have hc : i < n := by have := of_decide_eq_true hc; rw [hM] at this; omega
        obtain ⟨y, hy⟩ : ∃ y, B[i]? = some y := ⟨_, List.getElem?_eq_getElem (by omega)⟩
        have ei : IntKind.i64.wrap ((i : Int) + 1) = ((i + 1 : Nat) : Int) := by rw [wrap_i64] <;> omega
        have e64 : IntKind.i64.wrap ((if (0 : Int) > (if (((((bytesP b).take (200 : Int).toNat).drop (0 : Int).toNat).length : Nat) : Int) < k then (((((bytesP b).take (200 : Int).toNat).drop (0 : Int).toNat).length : Nat) : Int) else k) then (0 : Int) else (if (((((bytesP b).take (200 : Int).toNat).drop (0 : Int).toNat).length : Nat) : Int) < k then (((((bytesP b).take (200 : Int).toNat).drop (0 : Int).toNat).length : Nat) : Int) else k)) - 64) = (n : Int) - 64 := by rw [hM, wrap_i64 (by omega) (by omega)]
        have eadd : IntKind.i64.wrap (((bytesP a).length : Int) + (i : Int)) = ((A.length + i : Nat) : Int) := by rw [nA, wrap_i64 (by omega) (by omega)]; omega
        have hk := keep_at (A := A) (g := g) hnB hc y hy
        have hXg : gbl [g] 0 ((A ++ B).take (A.length + n)) A.length = X := by rw [hX]; unfold crB; rw [← hn]
        rw [hXg] at hk
        refine Idx.mk (.int .u8 y.toNat) (Int.natCast_nonneg i) (by rw [eB]; exact bytes_at hy) ?_
        by_cases hq : (i : Int) ≥ (n : Int) - 64
        · refine Br.t (decide_eq_true (show (i : Int) ≥ IntKind.i64.wrap ((if (0 : Int) > (if (((((bytesP b).take (200 : Int).toNat).drop (0 : Int).toNat).length : Nat) : Int) < k then (((((bytesP b).take (200 : Int).toNat).drop (0 : Int).toNat).length : Nat) : Int) else k) then (0 : Int) else (if (((((bytesP b).take (200 : Int).toNat).drop (0 : Int).toNat).length : Nat) : Int) < k then (((((bytesP b).take (200 : Int).toNat).drop (0 : Int).toNat).length : Nat) : Int) else k)) - 64) by rw [e64]; exact hq)) ?_
          rw [if_pos hq] at hk
          refine Idx.mk (.int .u8 (y ^^^ g).toNat) (by rw [eadd]; exact Int.natCast_nonneg _) (by rw [eadd]; exact bytes_at hk) ?_
          refine Br.f (show (((y ^^^ g).toNat : Int) != bits .xor .u8 (y.toNat : Int) (g.toNat : Int)) = false by rw [xor_u8]; simp) ?_
          refine ⟨i + 1, (show i + 1 ≤ n by omega), (show n - (i + 1) < n - i by omega), Nat.le_refl _, Trim.mk' ?_ rfl rfl rfl (Nat.le_refl _)⟩
          refine Eq.trans (b := [_, _, _, _, _, (13, AV.p (ii (IntKind.i64.wrap ((i : Int) + 1))))]) rfl ?_
          first | (rw [ei]; done) | (rw [ei]; rfl)
        · refine Br.f (decide_eq_false (show ¬ (i : Int) ≥ IntKind.i64.wrap ((if (0 : Int) > (if (((((bytesP b).take (200 : Int).toNat).drop (0 : Int).toNat).length : Nat) : Int) < k then (((((bytesP b).take (200 : Int).toNat).drop (0 : Int).toNat).length : Nat) : Int) else k) then (0 : Int) else (if (((((bytesP b).take (200 : Int).toNat).drop (0 : Int).toNat).length : Nat) : Int) < k then (((((bytesP b).take (200 : Int).toNat).drop (0 : Int).toNat).length : Nat) : Int) else k)) - 64) by rw [e64]; exact hq)) ?_
          rw [if_neg hq] at hk
          refine Idx.mk (.int .u8 y.toNat) (by rw [eadd]; exact Int.natCast_nonneg _) (by rw [eadd]; exact bytes_at hk) ?_
          refine Br.f (show ((y.toNat : Int) != (y.toNat : Int)) = false by simp) ?_
          refine ⟨i + 1, (show i + 1 ≤ n by omega), (show n - (i + 1) < n - i by omega), Nat.le_refl _, Trim.mk' ?_ rfl rfl rfl (Nat.le_refl _)⟩
          refine Eq.trans (b := [_, _, _, _, _, (13, AV.p (ii (IntKind.i64.wrap ((i : Int) + 1))))]) rfl ?_
          first | (rw [ei]; done) | (rw [ei]; rfl)
      · refine Cal.frameK [] (known_c _ fun _ => ?_) rfl rfl rfl
        exact h _
    · refine Br.f (decide_eq_false (show ¬ ((bytesP b).length : Int) > 200 by rw [lb]; omega)) ?_
      obtain ⟨A, hA⟩ : ∃ A, A = a := ⟨_, rfl⟩
      have eA : (bytesP a) = bytesP A := by rw [hA]
      have lA : A.length ≤ 200 := by rw [hA]; omega
      obtain ⟨B, hB⟩ : ∃ B, B = b := ⟨_, rfl⟩
      have eB : (bytesP b) = bytesP B := by rw [hB]
      have lB : B.length ≤ 200 := by rw [hB]; omega
      have nA : (bytesP a).length = A.length := by rw [eA, bytesP_len]
      have nB : (bytesP b).length = B.length := by rw [eB, bytesP_len]
      refine new_c _ ?_
      repeat (first | refine Br.t rfl ?_ | refine Br.f rfl ?_)
      have c1 : ∀ K', K' (.p (ii 0)) (fsS [(0, [120], A, 0)] 1 (-1) 1) → Cal Try.prog 11 [fsP, .p (.str [120]), .p (.sl .shr 1 (bytesP a))] (fsS [] 0 (-1) 0) K' := fun K' hK => by
        rw [eA]
        exact append_k [] 0 (-1) 0 (fok_nil _ _ (by decide) (by decide)) [120] A (by decide +kernel) (by decide) (by decide) (by decide) (by omega) _ hK
      refine c1 _ ?_
      repeat (first | refine Br.t rfl ?_ | refine Br.f rfl ?_)
      refine sync_k [(0, [120], A, 0)] 1 (-1) 1 (fok_one (by decide) (by decide) (by omega) (by omega)) [120] (A, 0) rfl (by decide) _ ?_
      repeat (first | refine Br.t rfl ?_ | refine Br.f rfl ?_)
      have c2 : ∀ K', K' (.p (ii 0)) (fsS [(0, [120], A ++ B, A.length)] 1 (-1) 3) → Cal Try.prog 11 [fsP, .p (.str [120]), .p (.sl .shr 1 (bytesP b))] (fsS [(0, [120], A, A.length)] 1 (-1) 2) K' := fun K' hK => by
        rw [eB]
        exact append_k [(0, [120], A, A.length)] 1 (-1) 2 (fok_one (by decide) (by decide) (by omega) (by omega)) [120] B (by decide +kernel) (show 1 < 64 by decide) (by decide) (by decide) (by omega) _ hK
      refine c2 _ ?_
      repeat (first | refine Br.t rfl ?_ | refine Br.f rfl ?_)
      refine Or.inl ?_
      have lAB : (A ++ B).length = A.length + B.length := List.length_append
      obtain ⟨n, hn⟩ : ∃ n, n = kpN [k] 0 (A ++ B) A.length := ⟨_, rfl⟩
      obtain ⟨X, hX⟩ : ∃ X, X = crB [k] [g] 0 (A ++ B) A.length := ⟨_, rfl⟩
      have hnB : n ≤ B.length := by have := kpN_le (keeps := [k]) (i := 0) (b := A ++ B) (l := A.length) (by omega) (by omega); omega
      have hXl : X.length = A.length + n := by rw [hX, hn]; exact crB_len (by omega) (by omega)
      have c3 : ∀ K', K' (.tup []) (fsS [(0, [120], X, X.length)] 1 (-1) 3) → Cal Try.prog 13 [fsP, .p (.sl .clip 1 [ii k]), .p (.sl .clip 1 [.int .u8 g.toNat])] (fsS [(0, [120], A ++ B, A.length)] 1 (-1) 3) K' := fun K' hK =>
        crash_w [(0, [120], A ++ B, A.length)] 1 (-1) 3 (fok_one (by decide) (by decide) (by omega) (by omega)) (fi_one (by decide)) [k] [g] _ _ .shr .shr _ (fun ns hp _ => by
          have := perm_one hp; subst this
          rw [hX] at hK
          exact hK)
      refine c3 _ ?_
      refine read_c [(0, [120], X, X.length)] 1 (-1) 3 (fok_one (by decide) (by decide) (by omega) (by omega)) [120] _ ?_
      have hw : IntKind.i64.wrap (((bytesP (A ++ B)).length : Int) - A.length) = B.length := by rw [bytesP_len, wrap_i64 (by omega) (by omega)]; omega
      have hM : (if (0 : Int) > (if (((bytesP b).length : Nat) : Int) < k then (((bytesP b).length : Nat) : Int) else k) then (0 : Int) else (if (((bytesP b).length : Nat) : Int) < k then (((bytesP b).length : Nat) : Int) else k)) = (n : Int) := by
        rw [hn, nB]
        show _ = ((kpI k (A ++ B) A.length).toNat : Int)
        unfold kpI
        rw [hw]
        repeat' split
        all_goals omega
      have lX := bytesP_len X
      have f72 : (((bytesP X).length : Int) != IntKind.i64.wrap (((bytesP a).length : Int) + (if (0 : Int) > (if (((bytesP b).length : Nat) : Int) < k then (((bytesP b).length : Nat) : Int) else k) then (0 : Int) else (if (((bytesP b).length : Nat) : Int) < k then (((bytesP b).length : Nat) : Int) else k)))) = false := by
        rw [hM, nA, lX, wrap_i64 (by omega) (by omega), hXl]; simp
      have f72b : ((((bytesP X).length : Int) != IntKind.i64.wrap (((bytesP a).length : Int) + (if (0 : Int) > (if (((bytesP b).length : Nat) : Int) < k then (((bytesP b).length : Nat) : Int) else k) then (0 : Int) else (if (((bytesP b).length : Nat) : Int) < k then (((bytesP b).length : Nat) : Int) else k)))) == false) = true := by rw [f72]; rfl
      have cX : ((bytesP X).take (((bytesP a).length : Nat) : Int).toNat).drop (0 : Int).toNat = bytesP A := by
        rw [cut_b (m := A.length) (by rw [nA])]
        rw [hX]; unfold crB
        rw [gbl_take, ← hn, List.take_take, Nat.min_eq_left (by omega), List.take_left]
      iterate 3 refine ⟨_, ⟨rfl, rfl⟩, ?_⟩
      iterate 7 (refine Br.t rfl ?_; refine ⟨_, ⟨rfl, rfl⟩, ?_⟩)
      refine ⟨_, Br.f rfl ⟨rfl, rfl⟩, ?_⟩
      refine ⟨_, ⟨rfl, rfl⟩, ?_⟩
      iterate 3 (refine Br.t f72b ?_; refine ⟨_, ⟨rfl, rfl⟩, ?_⟩)
      refine Br.t f72b ?_
      refine ⟨_, Ob.mk ⟨Int.le_refl 0, Int.natCast_nonneg _, (show (((bytesP a).length : Nat) : Int) ≤ ((bytesP X).length : Int) by rw [nA, lX]; omega)⟩ ⟨rfl, rfl⟩, ?_⟩
      refine Br.t f72b ?_
      refine ⟨_, Ob.mk (.inr rfl) ⟨A, cX, ⟨rfl, rfl⟩⟩, ?_⟩
      refine Br.t f72b ?_
      refine ⟨_, ⟨rfl, rfl⟩, ?_⟩
      refine Br.t f72b ?_
      refine ⟨_, Ob.mk (.inr rfl) ⟨A, eA, ⟨rfl, rfl⟩⟩, ?_⟩
      refine Br.t f72b ?_
      refine ⟨_, ⟨rfl, rfl⟩, ?_⟩
      refine ⟨_, Br.f f72 ⟨rfl, rfl⟩, ?_⟩
      refine Chk.mk (by kernel_rfl) ?_
      refine Br.f (show (!(A == A)) = false by simp) ?_
      refine LoopX.fam [0, 1, 3, 10, 12, 13] (fun (i : Nat) => ([(0, .p (.sl .shr 1 (bytesP a))), (1, .p (.sl .shr 1 (bytesP b))), (3, .p (.int .u8 g.toNat)), (10, .p (bsl X)), (12, .p (ii (if (0 : Int) > (if (((bytesP b).length : Nat) : Int) < k then (((bytesP b).length : Nat) : Int) else k) then (0 : Int) else (if (((bytesP b).length : Nat) : Int) < k then (((bytesP b).length : Nat) : Int) else k)))), (13, .p (ii i))], fsS [(0, [120], X, X.length)] 1 (-1) 3))
        (fun i => i ≤ n) (fun i => n - i) 0 (Nat.zero_le _) (Trim.mk' rfl rfl rfl rfl (Nat.le_refl _)) ?_
      intro i hin
      have hin : i ≤ n := hin
      refine Br.mk (fun hc => ?_) (fun hc => ?_)
      · have hc : i < n := by have := of_decide_eq_true hc; rw [hM] at this; omega
        obtain ⟨y, hy⟩ : ∃ y, B[i]? = some y := ⟨_, List.getElem?_eq_getElem (by omega)⟩
        have ei : IntKind.i64.wrap ((i : Int) + 1) = ((i + 1 : Nat) : Int) := by rw [wrap_i64] <;> omega
        have e64 : IntKind.i64.wrap ((if (0 : Int) > (if (((bytesP b).length : Nat) : Int) < k then (((bytesP b).length : Nat) : Int) else k) then (0 : Int) else (if (((bytesP b).length : Nat) : Int) < k then (((bytesP b).length : Nat) : Int) else k)) - 64) = (n : Int) - 64 := by rw [hM, wrap_i64 (by omega) (by omega)]
        have eadd : IntKind.i64.wrap (((bytesP a).length : Int) + (i : Int)) = ((A.length + i : Nat) : Int) := by rw [nA, wrap_i64 (by omega) (by omega)]; omega
        have hk := keep_at (A := A) (g := g) hnB hc y hy
        have hXg : gbl [g] 0 ((A ++ B).take (A.length + n)) A.length = X := by rw [hX]; unfold crB; rw [← hn]
        rw [hXg] at hk
        refine Idx.mk (.int .u8 y.toNat) (Int.natCast_nonneg i) (by rw [eB]; exact bytes_at hy) ?_
        by_cases hq : (i : Int) ≥ (n : Int) - 64
        · refine Br.t (decide_eq_true (show (i : Int) ≥ IntKind.i64.wrap ((if (0 : Int) > (if (((bytesP b).length : Nat) : Int) < k then (((bytesP b).length : Nat) : Int) else k) then (0 : Int) else (if (((bytesP b).length : Nat) : Int) < k then (((bytesP b).length : Nat) : Int) else k)) - 64) by rw [e64]; exact hq)) ?_
          rw [if_pos hq] at hk
          refine Idx.mk (.int .u8 (y ^^^ g).toNat) (by rw [eadd]; exact Int.natCast_nonneg _) (by rw [eadd]; exact bytes_at hk) ?_
          refine Br.f (show (((y ^^^ g).toNat : Int) != bits .xor .u8 (y.toNat : Int) (g.toNat : Int)) = false by rw [xor_u8]; simp) ?_
          refine ⟨i + 1, (show i + 1 ≤ n by omega), (show n - (i + 1) < n - i by omega), Nat.le_refl _, Trim.mk' ?_ rfl rfl rfl (Nat.le_refl _)⟩
          refine Eq.trans (b := [_, _, _, _, _, (13, AV.p (ii (IntKind.i64.wrap ((i : Int) + 1))))]) rfl ?_
          first | (rw [ei]; done) | (rw [ei]; rfl)
        · refine Br.f (decide_eq_false (show ¬ (i : Int) ≥ IntKind.i64.wrap ((if (0 : Int) > (if (((bytesP b).length : Nat) : Int) < k then (((bytesP b).length : Nat) : Int) else k) then (0 : Int) else (if (((bytesP b).length : Nat) : Int) < k then (((bytesP b).length : Nat) : Int) else k)) - 64) by rw [e64]; exact hq)) ?_
          rw [if_neg hq] at hk
          refine Idx.mk (.int .u8 y.toNat) (by rw [eadd]; exact Int.natCast_nonneg _) (by rw [eadd]; exact bytes_at hk) ?_
          refine Br.f (show ((y.toNat : Int) != (y.toNat : Int)) = false by simp) ?_
          refine ⟨i + 1, (show i + 1 ≤ n by omega), (show n - (i + 1) < n - i by omega), Nat.le_refl _, Trim.mk' ?_ rfl rfl rfl (Nat.le_refl _)⟩
          refine Eq.trans (b := [_, _, _, _, _, (13, AV.p (ii (IntKind.i64.wrap ((i : Int) + 1))))]) rfl ?_
          first | (rw [ei]; done) | (rw [ei]; rfl)
      · refine Cal.frameK [] (known_c _ fun _ => ?_) rfl rfl rfl
        exact h _
end Go.Proofs.Ytneheklmkbhieaa.AW

open Go Go.Proofs.Ytneheklmkbhieaa.AW Go.Proofs
namespace Go.Proofs.Ytneheklmkbhieaa.AW
set_option maxRecDepth 100000
set_option linter.unusedSimpArgs false
set_option linter.unusedVariables false

/-! ### FilesRename -/
theorem fok_cons {t : Nat} {m b : List UInt8} {k : Nat} {es : List FE} {l d : Int} (h1 : b.length + 1 ≤ 549755813888) (h2 : k ≤ b.length) (h : FOk es l d) : FOk ((t, m, b, k) :: es) l d :=
  ⟨h.l, h.d, fun n q hq => by
    unfold fGet at hq
    split at hq
    · cases hq; exact ⟨h1, h2⟩
    · exact h.b n q hq⟩
theorem known_p (s : Store) (K : AV → Store → Prop) (h : K (.p (.bool true)) s) : Cal Try.prog 15 [] s K := Cal.pure (args := []) (known_c _ h)

set_option maxHeartbeats 8000000 in
theorem filesRename_c (a b c : List UInt8) (k : Int) (lB : b.length ≤ 1048576) (K : AV → Store → Prop) (h : ∀ s, K (.p (.bool true)) s) : Cal Try.prog 4 [.p (bsl a), .p (bsl b), .p (bsl c), .p (ii k)] [] K := by
  refine Cal.intro Try.func4 (by decide +kernel) rfl rfl ?_
  have la := bytesP_len a
  have lc := bytesP_len c
  refine new_c _ ?_
  refine Br.f rfl ?_
  by_cases ha : 60 < a.length
  · refine Br.t (decide_eq_true (show ((bytesP a).length : Int) > 60 by rw [la]; omega)) ?_
    refine Ob.mk ⟨Int.le_refl 0, (by decide), (show (60 : Int) ≤ ((bytesP a).length : Int) by rw [la]; omega)⟩ ?_
    by_cases hb : 60 < c.length
    · refine Br.t (decide_eq_true (show ((bytesP c).length : Int) > 60 by rw [lc]; omega)) ?_
      refine Ob.mk ⟨Int.le_refl 0, (by decide), (show (60 : Int) ≤ ((bytesP c).length : Int) by rw [lc]; omega)⟩ ?_
      obtain ⟨A, hA⟩ : ∃ A, A = a.take 60 := ⟨_, rfl⟩
      have eA : (((bytesP a).take (60 : Int).toNat).drop (0 : Int).toNat) = bytesP A := by rw [hA]; exact cut_b rfl
      have lA : A.length ≤ 60 := by rw [hA]; rw [List.length_take]; omega
      obtain ⟨C, hC⟩ : ∃ C, C = c.take 60 := ⟨_, rfl⟩
      have eC : (((bytesP c).take (60 : Int).toNat).drop (0 : Int).toNat) = bytesP C := by rw [hC]; exact cut_b rfl
      have lC : C.length ≤ 60 := by rw [hC]; rw [List.length_take]; omega
      have nA : (((bytesP a).take (60 : Int).toNat).drop (0 : Int).toNat).length = A.length := by rw [eA, bytesP_len]
      have nC : (((bytesP c).take (60 : Int).toNat).drop (0 : Int).toNat).length = C.length := by rw [eC, bytesP_len]
      have c1 : ∀ K', K' (.p (ii 0)) (fsS [(0, [120], A, 0)] 1 (-1) 1) → Cal Try.prog 11 [fsP, .p (.str [120]), .p (.sl .shr 1 (((bytesP a).take (60 : Int).toNat).drop (0 : Int).toNat))] (fsS [] 0 (-1) 0) K' := fun K' hK => by
        rw [eA]
        exact append_k [] 0 (-1) 0 (fok_nil _ _ (by decide) (by decide)) [120] A (by decide +kernel) (by decide) (by decide) (by decide) (by omega) _ hK
      refine c1 _ ?_
      refine sync_k [(0, [120], A, 0)] 1 (-1) 1 (fok_one (by decide) (by decide) (by omega) (by omega)) [120] (A, 0) rfl (by decide) _ ?_
      have c2 : ∀ K', K' (.p (ii 0)) (fsS [(0, [120], A ++ C, A.length)] 1 (-1) 3) → Cal Try.prog 11 [fsP, .p (.str [120]), .p (.sl .shr 1 (((bytesP c).take (60 : Int).toNat).drop (0 : Int).toNat))] (fsS [(0, [120], A, A.length)] 1 (-1) 2) K' := fun K' hK => by
        rw [eC]
        exact append_k [(0, [120], A, A.length)] 1 (-1) 2 (fok_one (by decide) (by decide) (by omega) (by omega)) [120] C (by decide +kernel) (show 1 < 64 by decide) (by decide) (by decide) (by omega) _ hK
      refine c2 _ ?_
      have lAC : (A ++ C).length = A.length + C.length := List.length_append
      refine append_k [(0, [120], A ++ C, A.length)] 1 (-1) 3 (fok_one (by decide) (by decide) (by omega) (by omega)) [121] b (by decide +kernel) (show 1 < 64 by decide) (by decide) (by decide) (by omega) _ ?_
      refine sync_k [(0, [120], A ++ C, A.length), (1, [121], b, 0)] 2 (-1) 4 (fok_cons (by omega) (by omega) (fok_one (by decide) (by decide) (by omega) (by omega))) [121] (b, 0) rfl (by decide) _ ?_
      refine rename_c [(0, [120], A ++ C, A.length), (1, [121], b, b.length)] 2 (-1) 5 (fok_cons (by omega) (by omega) (fok_one (by decide) (by decide) (by omega) (by omega))) [120] [121] (by decide) _ (fun h => by cases h) (fun q _ h => absurd h (by decide +kernel)) (fun q _ _ h => absurd h (by decide)) (fun q hq _ _ => ?_)
      have hq : some (A ++ C, A.length) = some q := hq
      cases hq
      refine Br.t rfl ?_
      refine Br.t rfl ?_
      refine list_c [(1, [121], A ++ C, A.length)] 2 (-1) 6 (fi_one (by decide)) _ (fun ns hp _ => ?_)
      have := perm_one hp; subst this
      repeat (first | refine Br.t rfl ?_ | refine Br.f rfl ?_)
      refine len_c [(1, [121], A ++ C, A.length)] 2 (-1) 6 [121] _ ?_
      have f59 : ((((fB [(1, [121], A ++ C, A.length)] [121]).length : Nat) : Int) != IntKind.i64.wrap (((((bytesP a).take (60 : Int).toNat).drop (0 : Int).toNat).length : Int) + ((((bytesP c).take (60 : Int).toNat).drop (0 : Int).toNat).length : Int))) = false := by
        show ((((A ++ C).length : Nat) : Int) != IntKind.i64.wrap (((((bytesP a).take (60 : Int).toNat).drop (0 : Int).toNat).length : Int) + ((((bytesP c).take (60 : Int).toNat).drop (0 : Int).toNat).length : Int))) = false
        rw [nA, nC, wrap_i64 (by omega) (by omega), lAC]; simp
      iterate 6 refine Br.t rfl ?_
      refine Br.f rfl ?_
      refine Br.f f59 ?_
      obtain ⟨n, hn⟩ : ∃ n, n = kpN [k] 0 (A ++ C) A.length := ⟨_, rfl⟩
      have hnC : n ≤ C.length := by have := kpN_le (keeps := [k]) (i := 0) (b := A ++ C) (l := A.length) (by omega) (by omega); omega
      have lCn : (C.take n).length = n := by rw [List.length_take]; omega
      have lX : (A ++ C.take n).length = A.length + n := by rw [List.length_append, lCn]
      have c3 : ∀ K', K' (.tup []) (fsS [(1, [121], A ++ C.take n, (A ++ C.take n).length)] 2 (-1) 6) → Cal Try.prog 13 [fsP, .p (.sl .clip 1 [ii k]), .p (.sl .nil 0 [])] (fsS [(1, [121], A ++ C, A.length)] 2 (-1) 6) K' := fun K' hK =>
        crash_w [(1, [121], A ++ C, A.length)] 2 (-1) 6 (fok_one (by decide) (by decide) (by omega) (by omega)) (fi_one (by decide)) [k] [] _ _ .shr (.nil _ _) _ (fun ns hp _ => by
          have := perm_one hp; subst this
          have e : crB [k] [] 0 (A ++ C) A.length = A ++ C.take n := by
            show (A ++ C).take (A.length + kpN [k] 0 (A ++ C) A.length) = _
            rw [← hn, List.take_length_add_append]
          rw [← e] at hK
          exact hK)
      refine c3 _ ?_
      refine read_c [(1, [121], A ++ C.take n, (A ++ C.take n).length)] 2 (-1) 6 (fok_one (by decide) (by decide) (by omega) (by omega)) [121] _ ?_
      refine read_c [(1, [121], A ++ C.take n, (A ++ C.take n).length)] 2 (-1) 6 (fok_one (by decide) (by decide) (by omega) (by omega)) [120] _ ?_
      have hw : IntKind.i64.wrap (((bytesP (A ++ C)).length : Int) - A.length) = C.length := by rw [bytesP_len, wrap_i64 (by omega) (by omega)]; omega
      have hM : (if (0 : Int) > (if (((((bytesP c).take (60 : Int).toNat).drop (0 : Int).toNat).length : Nat) : Int) < k then (((((bytesP c).take (60 : Int).toNat).drop (0 : Int).toNat).length : Nat) : Int) else k) then (0 : Int) else (if (((((bytesP c).take (60 : Int).toNat).drop (0 : Int).toNat).length : Nat) : Int) < k then (((((bytesP c).take (60 : Int).toNat).drop (0 : Int).toNat).length : Nat) : Int) else k)) = (n : Int) := by
        rw [hn, nC]
        show _ = ((kpI k (A ++ C) A.length).toNat : Int)
        unfold kpI
        rw [hw]
        repeat' split
        all_goals omega
      have hM0 : (0 : Int) ≤ (if (0 : Int) > (if (((((bytesP c).take (60 : Int).toNat).drop (0 : Int).toNat).length : Nat) : Int) < k then (((((bytesP c).take (60 : Int).toNat).drop (0 : Int).toNat).length : Nat) : Int) else k) then (0 : Int) else (if (((((bytesP c).take (60 : Int).toNat).drop (0 : Int).toNat).length : Nat) : Int) < k then (((((bytesP c).take (60 : Int).toNat).drop (0 : Int).toNat).length : Nat) : Int) else k)) := by rw [hM]; exact Int.natCast_nonneg _
      have hM1 : (if (0 : Int) > (if (((((bytesP c).take (60 : Int).toNat).drop (0 : Int).toNat).length : Nat) : Int) < k then (((((bytesP c).take (60 : Int).toNat).drop (0 : Int).toNat).length : Nat) : Int) else k) then (0 : Int) else (if (((((bytesP c).take (60 : Int).toNat).drop (0 : Int).toNat).length : Nat) : Int) < k then (((((bytesP c).take (60 : Int).toNat).drop (0 : Int).toNat).length : Nat) : Int) else k)) ≤ (((((bytesP c).take (60 : Int).toNat).drop (0 : Int).toNat).length : Nat) : Int) := by rw [hM, nC]; omega
      have cC : ((((bytesP c).take (60 : Int).toNat).drop (0 : Int).toNat).take (if (0 : Int) > (if (((((bytesP c).take (60 : Int).toNat).drop (0 : Int).toNat).length : Nat) : Int) < k then (((((bytesP c).take (60 : Int).toNat).drop (0 : Int).toNat).length : Nat) : Int) else k) then (0 : Int) else (if (((((bytesP c).take (60 : Int).toNat).drop (0 : Int).toNat).length : Nat) : Int) < k then (((((bytesP c).take (60 : Int).toNat).drop (0 : Int).toNat).length : Nat) : Int) else k)).toNat).drop (0 : Int).toNat = bytesP (C.take n) := by
        have := cut_b (b := C) hM
        rw [← eC] at this
        exact this
      have fE : (A ++ C.take n == A ++ C.take n) = true := by simp
      have fE2 : ((A ++ C.take n == A ++ C.take n) == true) = true := by rw [fE]; rfl
      iterate 2 refine ⟨_, ⟨rfl, rfl⟩, ?_⟩
      iterate 2 (refine Br.t rfl ?_; refine ⟨_, ⟨rfl, rfl⟩, ?_⟩)
      refine ⟨_, Br.t rfl ⟨rfl, rfl⟩, ?_⟩
      refine ⟨_, ⟨rfl, rfl⟩, ?_⟩
      refine Br.t rfl ?_
      refine ⟨_, ⟨rfl, rfl⟩, ?_⟩
      refine Br.t rfl ?_
      refine ⟨_, Ob.mk (.inr rfl) ⟨A ++ C.take n, rfl, ⟨rfl, rfl⟩⟩, ?_⟩
      refine Br.t rfl ?_
      refine ⟨_, ⟨rfl, rfl⟩, ?_⟩
      refine Br.t rfl ?_
      refine ⟨_, Ob.mk (.inr rfl) ⟨A, eA, ⟨rfl, rfl⟩⟩, ?_⟩
      iterate 2 (refine Br.t rfl ?_; refine ⟨_, ⟨rfl, rfl⟩, ?_⟩)
      refine Br.t rfl ?_
      refine ⟨_, Ob.mk ⟨Int.le_refl 0, hM0, hM1⟩ ⟨rfl, rfl⟩, ?_⟩
      refine Br.t rfl ?_
      refine ⟨_, Ob.mk (.inr rfl) ⟨C.take n, cC, ⟨rfl, rfl⟩⟩, ?_⟩
      refine Br.t rfl ?_
      refine ⟨_, Ob.mk (show A.length + (C.take n).length < 9223372036854775808 by rw [lCn]; omega) ⟨rfl, rfl⟩, ?_⟩
      refine Br.t rfl ?_
      refine ⟨_, ⟨rfl, rfl⟩, ?_⟩
      refine ⟨_, Br.t rfl ⟨rfl, rfl⟩, ?_⟩
      refine ⟨_, ⟨rfl, rfl⟩, ?_⟩
      refine Br.t fE2 ?_
      refine ⟨_, ⟨rfl, rfl⟩, ?_⟩
      refine Br.t fE2 ?_
      refine ⟨_, _, deeds_c [(1, [121], A ++ C.take n, (A ++ C.take n).length)] 2 (-1) 6 _ ⟨rfl, rfl⟩, rfl, ?_⟩
      refine Br.t fE2 ?_
      refine ⟨_, ⟨rfl, rfl⟩, ?_⟩
      refine ⟨_, Br.t fE ⟨rfl, rfl⟩, ?_⟩
      refine ⟨_, ⟨rfl, rfl⟩, ?_⟩
      refine Br.t rfl ?_
      refine ⟨_, fun s' => known_p s' _ ⟨rfl, rfl⟩, rfl, ?_⟩
      refine ⟨_, Br.t rfl ⟨rfl, rfl⟩, ?_⟩
      refine ⟨_, ⟨rfl, rfl⟩, ?_⟩
      refine Chk.mk (by kernel_rfl) ?_
      exact h _
    · refine Br.f (decide_eq_false (show ¬ ((bytesP c).length : Int) > 60 by rw [lc]; omega)) ?_
      obtain ⟨A, hA⟩ : ∃ A, A = a.take 60 := ⟨_, rfl⟩
      have eA : (((bytesP a).take (60 : Int).toNat).drop (0 : Int).toNat) = bytesP A := by rw [hA]; exact cut_b rfl
      have lA : A.length ≤ 60 := by rw [hA]; rw [List.length_take]; omega
      obtain ⟨C, hC⟩ : ∃ C, C = c := ⟨_, rfl⟩
      have eC : (bytesP c) = bytesP C := by rw [hC]
      have lC : C.length ≤ 60 := by rw [hC]; omega
      have nA : (((bytesP a).take (60 : Int).toNat).drop (0 : Int).toNat).length = A.length := by rw [eA, bytesP_len]
      have nC : (bytesP c).length = C.length := by rw [eC, bytesP_len]
      have c1 : ∀ K', K' (.p (ii 0)) (fsS [(0, [120], A, 0)] 1 (-1) 1) → Cal Try.prog 11 [fsP, .p (.str [120]), .p (.sl .shr 1 (((bytesP a).take (60 : Int).toNat).drop (0 : Int).toNat))] (fsS [] 0 (-1) 0) K' := fun K' hK => by
        rw [eA]
        exact append_k [] 0 (-1) 0 (fok_nil _ _ (by decide) (by decide)) [120] A (by decide +kernel) (by decide) (by decide) (by decide) (by omega) _ hK
      refine c1 _ ?_
      refine sync_k [(0, [120], A, 0)] 1 (-1) 1 (fok_one (by decide) (by decide) (by omega) (by omega)) [120] (A, 0) rfl (by decide) _ ?_
      have c2 : ∀ K', K' (.p (ii 0)) (fsS [(0, [120], A ++ C, A.length)] 1 (-1) 3) → Cal Try.prog 11 [fsP, .p (.str [120]), .p (.sl .shr 1 (bytesP c))] (fsS [(0, [120], A, A.length)] 1 (-1) 2) K' := fun K' hK => by
        rw [eC]
        exact append_k [(0, [120], A, A.length)] 1 (-1) 2 (fok_one (by decide) (by decide) (by omega) (by omega)) [120] C (by decide +kernel) (show 1 < 64 by decide) (by decide) (by decide) (by omega) _ hK
      refine c2 _ ?_
      have lAC : (A ++ C).length = A.length + C.length := List.length_append
      refine append_k [(0, [120], A ++ C, A.length)] 1 (-1) 3 (fok_one (by decide) (by decide) (by omega) (by omega)) [121] b (by decide +kernel) (show 1 < 64 by decide) (by decide) (by decide) (by omega) _ ?_
      refine sync_k [(0, [120], A ++ C, A.length), (1, [121], b, 0)] 2 (-1) 4 (fok_cons (by omega) (by omega) (fok_one (by decide) (by decide) (by omega) (by omega))) [121] (b, 0) rfl (by decide) _ ?_
      refine rename_c [(0, [120], A ++ C, A.length), (1, [121], b, b.length)] 2 (-1) 5 (fok_cons (by omega) (by omega) (fok_one (by decide) (by decide) (by omega) (by omega))) [120] [121] (by decide) _ (fun h => by cases h) (fun q _ h => absurd h (by decide +kernel)) (fun q _ _ h => absurd h (by decide)) (fun q hq _ _ => ?_)
      have hq : some (A ++ C, A.length) = some q := hq
      cases hq
      refine Br.t rfl ?_
      refine Br.t rfl ?_
      refine list_c [(1, [121], A ++ C, A.length)] 2 (-1) 6 (fi_one (by decide)) _ (fun ns hp _ => ?_)
      have := perm_one hp; subst this
      repeat (first | refine Br.t rfl ?_ | refine Br.f rfl ?_)
      refine len_c [(1, [121], A ++ C, A.length)] 2 (-1) 6 [121] _ ?_
      have f59 : ((((fB [(1, [121], A ++ C, A.length)] [121]).length : Nat) : Int) != IntKind.i64.wrap (((((bytesP a).take (60 : Int).toNat).drop (0 : Int).toNat).length : Int) + ((bytesP c).length : Int))) = false := by
        show ((((A ++ C).length : Nat) : Int) != IntKind.i64.wrap (((((bytesP a).take (60 : Int).toNat).drop (0 : Int).toNat).length : Int) + ((bytesP c).length : Int))) = false
        rw [nA, nC, wrap_i64 (by omega) (by omega), lAC]; simp
      iterate 6 refine Br.t rfl ?_
      refine Br.f rfl ?_
      refine Br.f f59 ?_
      obtain ⟨n, hn⟩ : ∃ n, n = kpN [k] 0 (A ++ C) A.length := ⟨_, rfl⟩
      have hnC : n ≤ C.length := by have := kpN_le (keeps := [k]) (i := 0) (b := A ++ C) (l := A.length) (by omega) (by omega); omega
      have lCn : (C.take n).length = n := by rw [List.length_take]; omega
      have lX : (A ++ C.take n).length = A.length + n := by rw [List.length_append, lCn]
      have c3 : ∀ K', K' (.tup []) (fsS [(1, [121], A ++ C.take n, (A ++ C.take n).length)] 2 (-1) 6) → Cal Try.prog 13 [fsP, .p (.sl .clip 1 [ii k]), .p (.sl .nil 0 [])] (fsS [(1, [121], A ++ C, A.length)] 2 (-1) 6) K' := fun K' hK =>
        crash_w [(1, [121], A ++ C, A.length)] 2 (-1) 6 (fok_one (by decide) (by decide) (by omega) (by omega)) (fi_one (by decide)) [k] [] _ _ .shr (.nil _ _) _ (fun ns hp _ => by
          have := perm_one hp; subst this
          have e : crB [k] [] 0 (A ++ C) A.length = A ++ C.take n := by
            show (A ++ C).take (A.length + kpN [k] 0 (A ++ C) A.length) = _
            rw [← hn, List.take_length_add_append]
          rw [← e] at hK
          exact hK)
      refine c3 _ ?_
      refine read_c [(1, [121], A ++ C.take n, (A ++ C.take n).length)] 2 (-1) 6 (fok_one (by decide) (by decide) (by omega) (by omega)) [121] _ ?_
      refine read_c [(1, [121], A ++ C.take n, (A ++ C.take n).length)] 2 (-1) 6 (fok_one (by decide) (by decide) (by omega) (by omega)) [120] _ ?_
      have hw : IntKind.i64.wrap (((bytesP (A ++ C)).length : Int) - A.length) = C.length := by rw [bytesP_len, wrap_i64 (by omega) (by omega)]; omega
      have hM : (if (0 : Int) > (if (((bytesP c).length : Nat) : Int) < k then (((bytesP c).length : Nat) : Int) else k) then (0 : Int) else (if (((bytesP c).length : Nat) : Int) < k then (((bytesP c).length : Nat) : Int) else k)) = (n : Int) := by
        rw [hn, nC]
        show _ = ((kpI k (A ++ C) A.length).toNat : Int)
        unfold kpI
        rw [hw]
        repeat' split
        all_goals omega
      have hM0 : (0 : Int) ≤ (if (0 : Int) > (if (((bytesP c).length : Nat) : Int) < k then (((bytesP c).length : Nat) : Int) else k) then (0 : Int) else (if (((bytesP c).length : Nat) : Int) < k then (((bytesP c).length : Nat) : Int) else k)) := by rw [hM]; exact Int.natCast_nonneg _
      have hM1 : (if (0 : Int) > (if (((bytesP c).length : Nat) : Int) < k then (((bytesP c).length : Nat) : Int) else k) then (0 : Int) else (if (((bytesP c).length : Nat) : Int) < k then (((bytesP c).length : Nat) : Int) else k)) ≤ (((bytesP c).length : Nat) : Int) := by rw [hM, nC]; omega
      have cC : ((bytesP c).take (if (0 : Int) > (if (((bytesP c).length : Nat) : Int) < k then (((bytesP c).length : Nat) : Int) else k) then (0 : Int) else (if (((bytesP c).length : Nat) : Int) < k then (((bytesP c).length : Nat) : Int) else k)).toNat).drop (0 : Int).toNat = bytesP (C.take n) := by
        have := cut_b (b := C) hM
        rw [← eC] at this
        exact this
      have fE : (A ++ C.take n == A ++ C.take n) = true := by simp
      have fE2 : ((A ++ C.take n == A ++ C.take n) == true) = true := by rw [fE]; rfl
      iterate 2 refine ⟨_, ⟨rfl, rfl⟩, ?_⟩
      iterate 2 (refine Br.t rfl ?_; refine ⟨_, ⟨rfl, rfl⟩, ?_⟩)
      refine ⟨_, Br.t rfl ⟨rfl, rfl⟩, ?_⟩
      refine ⟨_, ⟨rfl, rfl⟩, ?_⟩
      refine Br.t rfl ?_
      refine ⟨_, ⟨rfl, rfl⟩, ?_⟩
      refine Br.t rfl ?_
      refine ⟨_, Ob.mk (.inr rfl) ⟨A ++ C.take n, rfl, ⟨rfl, rfl⟩⟩, ?_⟩
      refine Br.t rfl ?_
      refine ⟨_, ⟨rfl, rfl⟩, ?_⟩
      refine Br.t rfl ?_
      refine ⟨_, Ob.mk (.inr rfl) ⟨A, eA, ⟨rfl, rfl⟩⟩, ?_⟩
      iterate 2 (refine Br.t rfl ?_; refine ⟨_, ⟨rfl, rfl⟩, ?_⟩)
      refine Br.t rfl ?_
      refine ⟨_, Ob.mk ⟨Int.le_refl 0, hM0, hM1⟩ ⟨rfl, rfl⟩, ?_⟩
      refine Br.t rfl ?_
      refine ⟨_, Ob.mk (.inr rfl) ⟨C.take n, cC, ⟨rfl, rfl⟩⟩, ?_⟩
      refine Br.t rfl ?_
      refine ⟨_, Ob.mk (show A.length + (C.take n).length < 9223372036854775808 by rw [lCn]; omega) ⟨rfl, rfl⟩, ?_⟩
      refine Br.t rfl ?_
      refine ⟨_, ⟨rfl, rfl⟩, ?_⟩
      refine ⟨_, Br.t rfl ⟨rfl, rfl⟩, ?_⟩
      refine ⟨_, ⟨rfl, rfl⟩, ?_⟩
      refine Br.t fE2 ?_
      refine ⟨_, ⟨rfl, rfl⟩, ?_⟩
      refine Br.t fE2 ?_
      refine ⟨_, _, deeds_c [(1, [121], A ++ C.take n, (A ++ C.take n).length)] 2 (-1) 6 _ ⟨rfl, rfl⟩, rfl, ?_⟩
      refine Br.t fE2 ?_
      refine ⟨_, ⟨rfl, rfl⟩, ?_⟩
      refine ⟨_, Br.t fE ⟨rfl, rfl⟩, ?_⟩
      refine ⟨_, ⟨rfl, rfl⟩, ?_⟩
      refine Br.t rfl ?_
      refine ⟨_, fun s' => known_p s' _ ⟨rfl, rfl⟩, rfl, ?_⟩
      refine ⟨_, Br.t rfl ⟨rfl, rfl⟩, ?_⟩
      refine ⟨_, ⟨rfl, rfl⟩, ?_⟩
      refine Chk.mk (by kernel_rfl) ?_
      exact h _
  · refine Br.f (decide_eq_false (show ¬ ((bytesP a).length : Int) > 60 by rw [la]; omega)) ?_
    by_cases hb : 60 < c.length
    · refine Br.t (decide_eq_true (show ((bytesP c).length : Int) > 60 by rw [lc]; omega)) ?_
      refine Ob.mk ⟨Int.le_refl 0, (by decide), (show (60 : Int) ≤ ((bytesP c).length : Int) by rw [lc]; omega)⟩ ?_
      obtain ⟨A, hA⟩ : ∃ A, A = a := ⟨_, rfl⟩
      have eA : (bytesP a) = bytesP A := by rw [hA]
      have lA : A.length ≤ 60 := by rw [hA]; omega
      obtain ⟨C, hC⟩ : ∃ C, C = c.take 60 := ⟨_, rfl⟩
      have eC : (((bytesP c).take (60 : Int).toNat).drop (0 : Int).toNat) = bytesP C := by rw [hC]; exact cut_b rfl
      have lC : C.length ≤ 60 := by rw [hC]; rw [List.length_take]; omega
      have nA : (bytesP a).length = A.length := by rw [eA, bytesP_len]
      have nC : (((bytesP c).take (60 : Int).toNat).drop (0 : Int).toNat).length = C.length := by rw [eC, bytesP_len]
      have c1 : ∀ K', K' (.p (ii 0)) (fsS [(0, [120], A, 0)] 1 (-1) 1) → Cal Try.prog 11 [fsP, .p (.str [120]), .p (.sl .shr 1 (bytesP a))] (fsS [] 0 (-1) 0) K' := fun K' hK => by
        rw [eA]
        exact append_k [] 0 (-1) 0 (fok_nil _ _ (by decide) (by decide)) [120] A (by decide +kernel) (by decide) (by decide) (by decide) (by omega) _ hK
      refine c1 _ ?_
      refine sync_k [(0, [120], A, 0)] 1 (-1) 1 (fok_one (by decide) (by decide) (by omega) (by omega)) [120] (A, 0) rfl (by decide) _ ?_
      have c2 : ∀ K', K' (.p (ii 0)) (fsS [(0, [120], A ++ C, A.length)] 1 (-1) 3) → Cal Try.prog 11 [fsP, .p (.str [120]), .p (.sl .shr 1 (((bytesP c).take (60 : Int).toNat).drop (0 : Int).toNat))] (fsS [(0, [120], A, A.length)] 1 (-1) 2) K' := fun K' hK => by
        rw [eC]
        exact append_k [(0, [120], A, A.length)] 1 (-1) 2 (fok_one (by decide) (by decide) (by omega) (by omega)) [120] C (by decide +kernel) (show 1 < 64 by decide) (by decide) (by decide) (by omega) _ hK
      refine c2 _ ?_
      have lAC : (A ++ C).length = A.length + C.length := List.length_append
      refine append_k [(0, [120], A ++ C, A.length)] 1 (-1) 3 (fok_one (by decide) (by decide) (by omega) (by omega)) [121] b (by decide +kernel) (show 1 < 64 by decide) (by decide) (by decide) (by omega) _ ?_
      refine sync_k [(0, [120], A ++ C, A.length), (1, [121], b, 0)] 2 (-1) 4 (fok_cons (by omega) (by omega) (fok_one (by decide) (by decide) (by omega) (by omega))) [121] (b, 0) rfl (by decide) _ ?_
      refine rename_c [(0, [120], A ++ C, A.length), (1, [121], b, b.length)] 2 (-1) 5 (fok_cons (by omega) (by omega) (fok_one (by decide) (by decide) (by omega) (by omega))) [120] [121] (by decide) _ (fun h => by cases h) (fun q _ h => absurd h (by decide +kernel)) (fun q _ _ h => absurd h (by decide)) (fun q hq _ _ => ?_)
      have hq : some (A ++ C, A.length) = some q := hq
      cases hq
      refine Br.t rfl ?_
      refine Br.t rfl ?_
      refine list_c [(1, [121], A ++ C, A.length)] 2 (-1) 6 (fi_one (by decide)) _ (fun ns hp _ => ?_)
      have := perm_one hp; subst this
      repeat (first | refine Br.t rfl ?_ | refine Br.f rfl ?_)
      refine len_c [(1, [121], A ++ C, A.length)] 2 (-1) 6 [121] _ ?_
      have f59 : ((((fB [(1, [121], A ++ C, A.length)] [121]).length : Nat) : Int) != IntKind.i64.wrap (((bytesP a).length : Int) + ((((bytesP c).take (60 : Int).toNat).drop (0 : Int).toNat).length : Int))) = false := by
        show ((((A ++ C).length : Nat) : Int) != IntKind.i64.wrap (((bytesP a).length : Int) + ((((bytesP c).take (60 : Int).toNat).drop (0 : Int).toNat).length : Int))) = false
        rw [nA, nC, wrap_i64 (by omega) (by omega), lAC]; simp
      iterate 6 refine Br.t rfl ?_
      refine Br.f rfl ?_
      refine Br.f f59 ?_
      obtain ⟨n, hn⟩ : ∃ n, n = kpN [k] 0 (A ++ C) A.length := ⟨_, rfl⟩
      have hnC : n ≤ C.length := by have := kpN_le (keeps := [k]) (i := 0) (b := A ++ C) (l := A.length) (by omega) (by omega); omega
      have lCn : (C.take n).length = n := by rw [List.length_take]; omega
      have lX : (A ++ C.take n).length = A.length + n := by rw [List.length_append, lCn]
      have c3 : ∀ K', K' (.tup []) (fsS [(1, [121], A ++ C.take n, (A ++ C.take n).length)] 2 (-1) 6) → Cal Try.prog 13 [fsP, .p (.sl .clip 1 [ii k]), .p (.sl .nil 0 [])] (fsS [(1, [121], A ++ C, A.length)] 2 (-1) 6) K' := fun K' hK =>
        crash_w [(1, [121], A ++ C, A.length)] 2 (-1) 6 (fok_one (by decide) (by decide) (by omega) (by omega)) (fi_one (by decide)) [k] [] _ _ .shr (.nil _ _) _ (fun ns hp _ => by
          have := perm_one hp; subst this
          have e : crB [k] [] 0 (A ++ C) A.length = A ++ C.take n := by
            show (A ++ C).take (A.length + kpN [k] 0 (A ++ C) A.length) = _
            rw [← hn, List.take_length_add_append]
          rw [← e] at hK
          exact hK)
      refine c3 _ ?_
      refine read_c [(1, [121], A ++ C.take n, (A ++ C.take n).length)] 2 (-1) 6 (fok_one (by decide) (by decide) (by omega) (by omega)) [121] _ ?_
      refine read_c [(1, [121], A ++ C.take n, (A ++ C.take n).length)] 2 (-1) 6 (fok_one (by decide) (by decide) (by omega) (by omega)) [120] _ ?_
      have hw : IntKind.i64.wrap (((bytesP (A ++ C)).length : Int) - A.length) = C.length := by rw [bytesP_len, wrap_i64 (by omega) (by omega)]; omega
      have hM : (if (0 : Int) > (if (((((bytesP c).take (60 : Int).toNat).drop (0 : Int).toNat).length : Nat) : Int) < k then (((((bytesP c).take (60 : Int).toNat).drop (0 : Int).toNat).length : Nat) : Int) else k) then (0 : Int) else (if (((((bytesP c).take (60 : Int).toNat).drop (0 : Int).toNat).length : Nat) : Int) < k then (((((bytesP c).take (60 : Int).toNat).drop (0 : Int).toNat).length : Nat) : Int) else k)) = (n : Int) := by
        rw [hn, nC]
        show _ = ((kpI k (A ++ C) A.length).toNat : Int)
        unfold kpI
        rw [hw]
        repeat' split
        all_goals omega
      have hM0 : (0 : Int) ≤ (if (0 : Int) > (if (((((bytesP c).take (60 : Int).toNat).drop (0 : Int).toNat).length : Nat) : Int) < k then (((((bytesP c).take (60 : Int).toNat).drop (0 : Int).toNat).length : Nat) : Int) else k) then (0 : Int) else (if (((((bytesP c).take (60 : Int).toNat).drop (0 : Int).toNat).length : Nat) : Int) < k then (((((bytesP c).take (60 : Int).toNat).drop (0 : Int).toNat).length : Nat) : Int) else k)) := by rw [hM]; exact Int.natCast_nonneg _
      have hM1 : (if (0 : Int) > (if (((((bytesP c).take (60 : Int).toNat).drop (0 : Int).toNat).length : Nat) : Int) < k then (((((bytesP c).take (60 : Int).toNat).drop (0 : Int).toNat).length : Nat) : Int) else k) then (0 : Int) else (if (((((bytesP c).take (60 : Int).toNat).drop (0 : Int).toNat).length : Nat) : Int) < k then (((((bytesP c).take (60 : Int).toNat).drop (0 : Int).toNat).length : Nat) : Int) else k)) ≤ (((((bytesP c).take (60 : Int).toNat).drop (0 : Int).toNat).length : Nat) : Int) := by rw [hM, nC]; omega
      have cC : ((((bytesP c).take (60 : Int).toNat).drop (0 : Int).toNat).take (if (0 : Int) > (if (((((bytesP c).take (60 : Int).toNat).drop (0 : Int).toNat).length : Nat) : Int) < k then (((((bytesP c).take (60 : Int).toNat).drop (0 : Int).toNat).length : Nat) : Int) else k) then (0 : Int) else (if (((((bytesP c).take (60 : Int).toNat).drop (0 : Int).toNat).length : Nat) : Int) < k then (((((bytesP c).take (60 : Int).toNat).drop (0 : Int).toNat).length : Nat) : Int) else k)).toNat).drop (0 : Int).toNat = bytesP (C.take n) := by
        have := cut_b (b := C) hM
        rw [← eC] at this
        exact this
      have fE : (A ++ C.take n == A ++ C.take n) = true := by simp
      have fE2 : ((A ++ C.take n == A ++ C.take n) == true) = true := by rw [fE]; rfl
      iterate 2 refine ⟨_, ⟨rfl, rfl⟩, ?_⟩
      iterate 2 (refine Br.t rfl ?_; refine ⟨_, ⟨rfl, rfl⟩, ?_⟩)
      refine ⟨_, Br.t rfl ⟨rfl, rfl⟩, ?_⟩
      refine ⟨_, ⟨rfl, rfl⟩, ?_⟩
      refine Br.t rfl ?_
      refine ⟨_, ⟨rfl, rfl⟩, ?_⟩
      refine Br.t rfl ?_
      refine ⟨_, Ob.mk (.inr rfl) ⟨A ++ C.take n, rfl, ⟨rfl, rfl⟩⟩, ?_⟩
      refine Br.t rfl ?_
      refine ⟨_, ⟨rfl, rfl⟩, ?_⟩
      refine Br.t rfl ?_
      refine ⟨_, Ob.mk (.inr rfl) ⟨A, eA, ⟨rfl, rfl⟩⟩, ?_⟩
      iterate 2 (refine Br.t rfl ?_; refine ⟨_, ⟨rfl, rfl⟩, ?_⟩)
      refine Br.t rfl ?_
      refine ⟨_, Ob.mk ⟨Int.le_refl 0, hM0, hM1⟩ ⟨rfl, rfl⟩, ?_⟩
      refine Br.t rfl ?_
      refine ⟨_, Ob.mk (.inr rfl) ⟨C.take n, cC, ⟨rfl, rfl⟩⟩, ?_⟩
      refine Br.t rfl ?_
      refine ⟨_, Ob.mk (show A.length + (C.take n).length < 9223372036854775808 by rw [lCn]; omega) ⟨rfl, rfl⟩, ?_⟩
      refine Br.t rfl ?_
      refine ⟨_, ⟨rfl, rfl⟩, ?_⟩
      refine ⟨_, Br.t rfl ⟨rfl, rfl⟩, ?_⟩
      refine ⟨_, ⟨rfl, rfl⟩, ?_⟩
      refine Br.t fE2 ?_
      refine ⟨_, ⟨rfl, rfl⟩, ?_⟩
      refine Br.t fE2 ?_
      refine ⟨_, _, deeds_c [(1, [121], A ++ C.take n, (A ++ C.take n).length)] 2 (-1) 6 _ ⟨rfl, rfl⟩, rfl, ?_⟩
      refine Br.t fE2 ?_
      refine ⟨_, ⟨rfl, rfl⟩, ?_⟩
      refine ⟨_, Br.t fE ⟨rfl, rfl⟩, ?_⟩
      refine ⟨_, ⟨rfl, rfl⟩, ?_⟩
      refine Br.t rfl ?_
      refine ⟨_, fun s' => known_p s' _ ⟨rfl, rfl⟩, rfl, ?_⟩
      refine ⟨_, Br.t rfl ⟨rfl, rfl⟩, ?_⟩
      refine ⟨_, ⟨rfl, rfl⟩, ?_⟩
      refine Chk.mk (by kernel_rfl) ?_
      exact h _
    · refine Br.f (decide_eq_false (show ¬ ((bytesP c).length : Int) > 60 by rw [lc]; omega)) ?_
      obtain ⟨A, hA⟩ : ∃ A, A = a := ⟨_, rfl⟩
      have eA : (bytesP a) = bytesP A := by rw [hA]
      have lA : A.length ≤ 60 := by rw [hA]; omega
      obtain ⟨C, hC⟩ : ∃ C, C = c := ⟨_, rfl⟩
      have eC : (bytesP c) = bytesP C := by rw [hC]
      have lC : C.length ≤ 60 := by rw [hC]; omega
      have nA : (bytesP a).length = A.length := by rw [eA, bytesP_len]
      have nC : (bytesP c).length = C.length := by rw [eC, bytesP_len]
      have c1 : ∀ K', K' (.p (ii 0)) (fsS [(0, [120], A, 0)] 1 (-1) 1) → Cal Try.prog 11 [fsP, .p (.str [120]), .p (.sl .shr 1 (bytesP a))] (fsS [] 0 (-1) 0) K' := fun K' hK => by
        rw [eA]
        exact append_k [] 0 (-1) 0 (fok_nil _ _ (by decide) (by decide)) [120] A (by decide +kernel) (by decide) (by decide) (by decide) (by omega) _ hK
      refine c1 _ ?_
      refine sync_k [(0, [120], A, 0)] 1 (-1) 1 (fok_one (by decide) (by decide) (by omega) (by omega)) [120] (A, 0) rfl (by decide) _ ?_
      have c2 : ∀ K', K' (.p (ii 0)) (fsS [(0, [120], A ++ C, A.length)] 1 (-1) 3) → Cal Try.prog 11 [fsP, .p (.str [120]), .p (.sl .shr 1 (bytesP c))] (fsS [(0, [120], A, A.length)] 1 (-1) 2) K' := fun K' hK => by
        rw [eC]
        exact append_k [(0, [120], A, A.length)] 1 (-1) 2 (fok_one (by decide) (by decide) (by omega) (by omega)) [120] C (by decide +kernel) (show 1 < 64 by decide) (by decide) (by decide) (by omega) _ hK
      refine c2 _ ?_
      have lAC : (A ++ C).length = A.length + C.length := List.length_append
      refine append_k [(0, [120], A ++ C, A.length)] 1 (-1) 3 (fok_one (by decide) (by decide) (by omega) (by omega)) [121] b (by decide +kernel) (show 1 < 64 by decide) (by decide) (by decide) (by omega) _ ?_
      refine sync_k [(0, [120], A ++ C, A.length), (1, [121], b, 0)] 2 (-1) 4 (fok_cons (by omega) (by omega) (fok_one (by decide) (by decide) (by omega) (by omega))) [121] (b, 0) rfl (by decide) _ ?_
      refine rename_c [(0, [120], A ++ C, A.length), (1, [121], b, b.length)] 2 (-1) 5 (fok_cons (by omega) (by omega) (fok_one (by decide) (by decide) (by omega) (by omega))) [120] [121] (by decide) _ (fun h => by cases h) (fun q _ h => absurd h (by decide +kernel)) (fun q _ _ h => absurd h (by decide)) (fun q hq _ _ => ?_)
      have hq : some (A ++ C, A.length) = some q := hq
      cases hq
      refine Br.t rfl ?_
      refine Br.t rfl ?_
      refine list_c [(1, [121], A ++ C, A.length)] 2 (-1) 6 (fi_one (by decide)) _ (fun ns hp _ => ?_)
      have := perm_one hp; subst this
      repeat (first | refine Br.t rfl ?_ | refine Br.f rfl ?_)
      refine len_c [(1, [121], A ++ C, A.length)] 2 (-1) 6 [121] _ ?_
      have f59 : ((((fB [(1, [121], A ++ C, A.length)] [121]).length : Nat) : Int) != IntKind.i64.wrap (((bytesP a).length : Int) + ((bytesP c).length : Int))) = false := by
        show ((((A ++ C).length : Nat) : Int) != IntKind.i64.wrap (((bytesP a).length : Int) + ((bytesP c).length : Int))) = false
        rw [nA, nC, wrap_i64 (by omega) (by omega), lAC]; simp
      iterate 6 refine Br.t rfl ?_
      refine Br.f rfl ?_
      refine Br.f f59 ?_
      obtain ⟨n, hn⟩ : ∃ n, n = kpN [k] 0 (A ++ C) A.length := ⟨_, rfl⟩
      have hnC : n ≤ C.length := by have := kpN_le (keeps := [k]) (i := 0) (b := A ++ C) (l := A.length) (by omega) (by omega); omega
      have lCn : (C.take n).length = n := by rw [List.length_take]; omega
      have lX : (A ++ C.take n).length = A.length + n := by rw [List.length_append, lCn]
      have c3 : ∀ K', K' (.tup []) (fsS [(1, [121], A ++ C.take n, (A ++ C.take n).length)] 2 (-1) 6) → Cal Try.prog 13 [fsP, .p (.sl .clip 1 [ii k]), .p (.sl .nil 0 [])] (fsS [(1, [121], A ++ C, A.length)] 2 (-1) 6) K' := fun K' hK =>
        crash_w [(1, [121], A ++ C, A.length)] 2 (-1) 6 (fok_one (by decide) (by decide) (by omega) (by omega)) (fi_one (by decide)) [k] [] _ _ .shr (.nil _ _) _ (fun ns hp _ => by
          have := perm_one hp; subst this
          have e : crB [k] [] 0 (A ++ C) A.length = A ++ C.take n := by
            show (A ++ C).take (A.length + kpN [k] 0 (A ++ C) A.length) = _
            rw [← hn, List.take_length_add_append]
          rw [← e] at hK
          exact hK)
      refine c3 _ ?_
      refine read_c [(1, [121], A ++ C.take n, (A ++ C.take n).length)] 2 (-1) 6 (fok_one (by decide) (by decide) (by omega) (by omega)) [121] _ ?_
      refine read_c [(1, [121], A ++ C.take n, (A ++ C.take n).length)] 2 (-1) 6 (fok_one (by decide) (by decide) (by omega) (by omega)) [120] _ ?_
      have hw : IntKind.i64.wrap (((bytesP (A ++ C)).length : Int) - A.length) = C.length := by rw [bytesP_len, wrap_i64 (by omega) (by omega)]; omega
      have hM : (if (0 : Int) > (if (((bytesP c).length : Nat) : Int) < k then (((bytesP c).length : Nat) : Int) else k) then (0 : Int) else (if (((bytesP c).length : Nat) : Int) < k then (((bytesP c).length : Nat) : Int) else k)) = (n : Int) := by
        rw [hn, nC]
        show _ = ((kpI k (A ++ C) A.length).toNat : Int)
        unfold kpI
        rw [hw]
        repeat' split
        all_goals omega
      have hM0 : (0 : Int) ≤ (if (0 : Int) > (if (((bytesP c).length : Nat) : Int) < k then (((bytesP c).length : Nat) : Int) else k) then (0 : Int) else (if (((bytesP c).length : Nat) : Int) < k then (((bytesP c).length : Nat) : Int) else k)) := by rw [hM]; exact Int.natCast_nonneg _
      have hM1 : (if (0 : Int) > (if (((bytesP c).length : Nat) : Int) < k then (((bytesP c).length : Nat) : Int) else k) then (0 : Int) else (if (((bytesP c).length : Nat) : Int) < k then (((bytesP c).length : Nat) : Int) else k)) ≤ (((bytesP c).length : Nat) : Int) := by rw [hM, nC]; omega
      have cC : ((bytesP c).take (if (0 : Int) > (if (((bytesP c).length : Nat) : Int) < k then (((bytesP c).length : Nat) : Int) else k) then (0 : Int) else (if (((bytesP c).length : Nat) : Int) < k then (((bytesP c).length : Nat) : Int) else k)).toNat).drop (0 : Int).toNat = bytesP (C.take n) := by
        have := cut_b (b := C) hM
        rw [← eC] at this
        exact this
      have fE : (A ++ C.take n == A ++ C.take n) = true := by simp
      have fE2 : ((A ++ C.take n == A ++ C.take n) == true) = true := by rw [fE]; rfl
      iterate 2 refine ⟨_, ⟨rfl, rfl⟩, ?_⟩
      iterate 2 (refine Br.t rfl ?_; refine ⟨_, ⟨rfl, rfl⟩, ?_⟩)
      refine ⟨_, Br.t rfl ⟨rfl, rfl⟩, ?_⟩
      refine ⟨_, ⟨rfl, rfl⟩, ?_⟩
      refine Br.t rfl ?_
      refine ⟨_, ⟨rfl, rfl⟩, ?_⟩
      refine Br.t rfl ?_
      refine ⟨_, Ob.mk (.inr rfl) ⟨A ++ C.take n, rfl, ⟨rfl, rfl⟩⟩, ?_⟩
      refine Br.t rfl ?_
      refine ⟨_, ⟨rfl, rfl⟩, ?_⟩
      refine Br.t rfl ?_
      refine ⟨_, Ob.mk (.inr rfl) ⟨A, eA, ⟨rfl, rfl⟩⟩, ?_⟩
      iterate 2 (refine Br.t rfl ?_; refine ⟨_, ⟨rfl, rfl⟩, ?_⟩)
      refine Br.t rfl ?_
      refine ⟨_, Ob.mk ⟨Int.le_refl 0, hM0, hM1⟩ ⟨rfl, rfl⟩, ?_⟩
      refine Br.t rfl ?_
      refine ⟨_, Ob.mk (.inr rfl) ⟨C.take n, cC, ⟨rfl, rfl⟩⟩, ?_⟩
      refine Br.t rfl ?_
      refine ⟨_, Ob.mk (show A.length + (C.take n).length < 9223372036854775808 by rw [lCn]; omega) ⟨rfl, rfl⟩, ?_⟩
      refine Br.t rfl ?_
      refine ⟨_, ⟨rfl, rfl⟩, ?_⟩
      refine ⟨_, Br.t rfl ⟨rfl, rfl⟩, ?_⟩
      refine ⟨_, ⟨rfl, rfl⟩, ?_⟩
      refine Br.t fE2 ?_
      refine ⟨_, ⟨rfl, rfl⟩, ?_⟩
      refine Br.t fE2 ?_
      refine ⟨_, _, deeds_c [(1, [121], A ++ C.take n, (A ++ C.take n).length)] 2 (-1) 6 _ ⟨rfl, rfl⟩, rfl, ?_⟩
      refine Br.t fE2 ?_
      refine ⟨_, ⟨rfl, rfl⟩, ?_⟩
      refine ⟨_, Br.t fE ⟨rfl, rfl⟩, ?_⟩
      refine ⟨_, ⟨rfl, rfl⟩, ?_⟩
      refine Br.t rfl ?_
      refine ⟨_, fun s' => known_p s' _ ⟨rfl, rfl⟩, rfl, ?_⟩
      refine ⟨_, Br.t rfl ⟨rfl, rfl⟩, ?_⟩
      refine ⟨_, ⟨rfl, rfl⟩, ?_⟩
      refine Chk.mk (by kernel_rfl) ?_
      exact h _
end Go.Proofs.Ytneheklmkbhieaa.AW

open Go Go.Proofs.Ytneheklmkbhieaa.AW Go.Proofs
namespace Go.Proofs.Ytneheklmkbhieaa.AW
set_option maxRecDepth 100000
set_option linter.unusedSimpArgs false
set_option linter.unusedVariables false

/-! ### What stays so of files, whatever is asked -/
theorem nm_len {n : List UInt8} (h : n ∈ nmL) : n.length < 1099511627776 := by
  have : ∀ n ∈ nmL, n.length < 1099511627776 := by decide
  exact this n h
structure FInv (c B : Nat) (es : List FE) (cl : Nat) : Prop where
  nd : (es.map (·.1)).Nodup
  nn : (es.map (·.2.1)).Nodup
  lt : ∀ q, q ∈ es → q.1 < cl
  nm : ∀ q, q ∈ es → q.2.1 ∈ nmL
  n : es.length ≤ c
  b : ∀ q, q ∈ es → q.2.2.1.length ≤ B ∧ q.2.2.2 ≤ q.2.2.1.length

theorem get_in {es : List FE} {n : List UInt8} {q : List UInt8 × Nat} (h : fGet es n = some q) : ∃ t, (t, n, q.1, q.2) ∈ es := by
  induction es with
  | nil => cases h
  | cons e r ih =>
    obtain ⟨t, p, b, l⟩ := e
    unfold fGet at h
    split at h
    · rename_i hn
      cases h
      exact ⟨t, by rw [hn]; exact List.mem_cons_self ..⟩
    · obtain ⟨t', ht⟩ := ih h
      exact ⟨t', List.mem_cons_of_mem _ ht⟩
theorem get_no {es : List FE} {n : List UInt8} (h : fGet es n = none) : n ∉ es.map (·.2.1) := fun hm => by
  obtain ⟨q, hq⟩ := get_mem hm
  rw [hq] at h; cases h
theorem set_st (n x : List UInt8) (k : Nat) : ∀ es : List FE, (fSet es n x k).map (·.1) = es.map (·.1)
  | [] => rfl
  | (t, p, b, l) :: r => by
    unfold fSet
    split
    · rfl
    · rw [List.map_cons, set_st n x k r]; rfl
theorem set_nm (n x : List UInt8) (k : Nat) : ∀ es : List FE, (fSet es n x k).map (·.2.1) = es.map (·.2.1)
  | [] => rfl
  | (t, p, b, l) :: r => by
    unfold fSet
    split
    · rename_i h; subst h; rfl
    · rw [List.map_cons, set_nm n x k r]; rfl
theorem set_in {n x : List UInt8} {k : Nat} {q : FE} : ∀ {es : List FE}, q ∈ fSet es n x k → q ∈ es ∨ q.2.2 = (x, k) ∧ ∃ p, p ∈ es ∧ p.1 = q.1 ∧ p.2.1 = q.2.1
  | [], h => by cases h
  | (t, p, b, l) :: r, h => by
    unfold fSet at h
    split at h
    · rename_i hn
      rcases List.mem_cons.1 h with rfl | h
      · exact .inr ⟨rfl, _, List.mem_cons_self .., rfl, hn.symm⟩
      · exact .inl (List.mem_cons_of_mem _ h)
    · rcases List.mem_cons.1 h with rfl | h
      · exact .inl (List.mem_cons_self ..)
      · rcases set_in h with h | ⟨h1, p', h2, h3⟩
        · exact .inl (List.mem_cons_of_mem _ h)
        · exact .inr ⟨h1, p', List.mem_cons_of_mem _ h2, h3⟩
theorem del_sub (n : List UInt8) : ∀ es : List FE, (fDel es n).Sublist es
  | [] => List.Sublist.refl _
  | (t, p, b, l) :: r => by
    unfold fDel
    split
    · exact List.sublist_cons_self ..
    · exact (del_sub n r).cons_cons _
theorem get_del {n m : List UInt8} (h : m ≠ n) : ∀ es : List FE, fGet (fDel es n) m = fGet es m
  | [] => rfl
  | (t, p, b, l) :: r => by
    unfold fDel
    split
    · rename_i hn
      show _ = if m = p then _ else _
      rw [if_neg (by rw [← hn]; exact h)]
    · show (if m = p then _ else _) = if m = p then _ else _
      rw [get_del h r]

theorem FInv.set {c B : Nat} {es : List FE} {cl : Nat} (h : FInv c B es cl) {B' : Nat} (hB : B ≤ B') {n x : List UInt8} {k : Nat} (hx : x.length ≤ B') (hk : k ≤ x.length) : FInv c B' (fSet es n x k) cl := by
  refine ⟨by rw [set_st]; exact h.nd, by rw [set_nm]; exact h.nn, fun q hq => ?_, fun q hq => ?_, ?_, fun q hq => ?_⟩
  · rcases set_in hq with h1 | ⟨_, p, h2, h3, _⟩
    · exact h.lt q h1
    · rw [← h3]; exact h.lt p h2
  · rcases set_in hq with h1 | ⟨_, p, h2, _, h3⟩
    · exact h.nm q h1
    · rw [← h3]; exact h.nm p h2
  · have := congrArg List.length (set_st n x k es)
    rw [List.length_map, List.length_map] at this
    rw [this]; exact h.n
  · rcases set_in hq with h1 | ⟨h1, _⟩
    · have := h.b q h1; omega
    · rw [h1]; exact ⟨hx, hk⟩
theorem FInv.del {c B : Nat} {es : List FE} {cl : Nat} (h : FInv c B es cl) (n : List UInt8) : FInv c B (fDel es n) cl := by
  have hs := del_sub n es
  exact ⟨(hs.map _).nodup h.nd, (hs.map _).nodup h.nn, fun q hq => h.lt q (hs.subset hq), fun q hq => h.nm q (hs.subset hq), Nat.le_trans hs.length_le h.n, fun q hq => h.b q (hs.subset hq)⟩
theorem FInv.put {c B : Nat} {es : List FE} {cl : Nat} (h : FInv c B es cl) {B' : Nat} (hB : B ≤ B') {n x : List UInt8} {k : Nat} (hn : n ∈ nmL) (hx : x.length ≤ B') (hk : k ≤ x.length) : FInv (c + 1) B' (fPut es cl n x k) (fCl es cl n) := by
  unfold fPut fCl
  cases hg : fGet es n with
  | some q =>
    have := h.set hB (n := n) hx hk
    exact ⟨this.nd, this.nn, this.lt, this.nm, Nat.le_succ_of_le this.n, this.b⟩
  | none =>
    simp only
    refine ⟨?_, ?_, fun q hq => ?_, fun q hq => ?_, ?_, fun q hq => ?_⟩
    · rw [List.map_append, List.nodup_append]
      refine ⟨h.nd, by simp, fun a ha b hb => ?_⟩
      obtain ⟨q, hq, rfl⟩ := List.mem_map.1 ha
      have := h.lt q hq
      simp at hb
      omega
    · rw [List.map_append, List.nodup_append]
      refine ⟨h.nn, by simp, fun a ha b hb => ?_⟩
      simp at hb
      subst hb
      exact fun e => get_no hg (e ▸ ha)
    · rcases List.mem_append.1 hq with h1 | h1
      · have := h.lt q h1; omega
      · rw [List.mem_singleton] at h1; subst h1; exact Nat.lt_succ_self _
    · rcases List.mem_append.1 hq with h1 | h1
      · exact h.nm q h1
      · rw [List.mem_singleton] at h1; subst h1; exact hn
    · rw [List.length_append]; have := h.n; simp; omega
    · rcases List.mem_append.1 hq with h1 | h1
      · have := h.b q h1; omega
      · rw [List.mem_singleton] at h1; subst h1; exact ⟨hx, hk⟩
theorem FInv.more {c B : Nat} {es : List FE} {cl : Nat} (h : FInv c B es cl) {c' B' : Nat} (hc : c ≤ c') (hB : B ≤ B') : FInv c' B' es cl :=
  ⟨h.nd, h.nn, h.lt, h.nm, Nat.le_trans h.n hc, fun q hq => by have := h.b q hq; omega⟩
theorem FInv.get {c B : Nat} {es : List FE} {cl : Nat} (h : FInv c B es cl) {n : List UInt8} {q : List UInt8 × Nat} (hq : fGet es n = some q) : q.1.length ≤ B ∧ q.2 ≤ q.1.length := by
  obtain ⟨t, ht⟩ := get_in hq
  exact h.b _ ht
theorem FInv.fB {c B : Nat} {es : List FE} {cl : Nat} (h : FInv c B es cl) (n : List UInt8) : (fB es n).length ≤ B ∧ fL es n ≤ (fB es n).length := by
  unfold Go.Proofs.Ytneheklmkbhieaa.AW.fB Go.Proofs.Ytneheklmkbhieaa.AW.fL
  cases hg : fGet es n with
  | none => exact ⟨Nat.zero_le _, Nat.le_refl _⟩
  | some q => exact h.get hg
theorem FInv.ok {c B : Nat} {es : List FE} {cl : Nat} (h : FInv c B es cl) (hB : B + 1 ≤ 549755813888) {l d : Int} (hl : -9223372036854775808 ≤ l ∧ l < 9223372036854775808) (hd : 0 ≤ d ∧ d < 9223372036854775807) : FOk es l d :=
  ⟨hl, hd, fun n q hq => by have := h.get hq; omega⟩
theorem FInv.fi {c B : Nat} {es : List FE} {cl : Nat} (h : FInv c B es cl) (hc : c < 1099511627776) : FI es := ⟨h.nd, fun q hq => nm_len (h.nm q hq), Nat.lt_of_le_of_lt h.n hc⟩

theorem crB_le {keeps : List Int} {garble : List UInt8} {i : Nat} {b : List UInt8} {l : Nat} : (crB keeps garble i b l).length ≤ b.length := by
  unfold crB
  rw [gbl_len, List.length_take]
  exact Nat.min_le_right ..
theorem FInv.cr {c B : Nat} {es : List FE} {cl : Nat} (h : FInv c B es cl) (keeps : List Int) (garble : List UInt8) (ns : List (List UInt8)) (j : Nat) : FInv c B (crS keeps garble ns es j) cl := by
  induction j with
  | zero => exact h
  | succ j ih =>
    exact ih.set (Nat.le_refl _) (Nat.le_trans crB_le (ih.fB _).1) (Nat.le_refl _)
/-- What is synced whole stays so behind a crash. -/
theorem kpN_full {keeps : List Int} {i : Nat} {b : List UInt8} (hb : b.length ≤ 549755813888) : kpN keeps i b b.length = 0 := by
  have := kpN_le (keeps := keeps) (i := i) (b := b) (l := b.length) (Nat.le_refl _) hb
  omega
theorem crB_full {keeps : List Int} {garble : List UInt8} {i : Nat} {b : List UInt8} (hb : b.length ≤ 549755813888) : crB keeps garble i b b.length = b := by
  unfold crB
  rw [kpN_full hb, Nat.add_zero, List.take_length]
  unfold gbl
  cases garble[i]? with
  | none => rfl
  | some g =>
    simp only
    rw [Nat.max_eq_left (by omega)]
    exact xorF_none _ _ _
theorem crS_full {keeps : List Int} {garble : List UInt8} {ns : List (List UInt8)} {es : List FE} {z a : List UInt8} (ha : a.length ≤ 549755813888) (hz : fGet es z = some (a, a.length)) (j : Nat) : fGet (crS keeps garble ns es j) z = some (a, a.length) := by
  induction j with
  | zero => exact hz
  | succ j ih =>
    show fGet (fSet _ _ _ _) z = _
    rw [get_set]
    by_cases h : z = ns.getD j []
    · rw [if_pos h, ← h, ih]
      have e1 : fB (crS keeps garble ns es j) z = a := by unfold fB; rw [ih]
      have e2 : fL (crS keeps garble ns es j) z = a.length := by unfold fL; rw [ih]
      rw [e1, e2, crB_full ha]; rfl
    · rw [if_neg h]; exact ih

/-! ### The order is one -/
theorem nm_anti : ∀ a, a ∈ nmL → ∀ b, b ∈ nmL → ¬ lessR a b = true → ¬ lessR b a = true → a = b := by decide +kernel
theorem srt_one {l m : List (List UInt8)} (hp : l.Perm m) (hl : l.Pairwise fun a b => ¬ lessR b a = true) (hm : m.Pairwise fun a b => ¬ lessR b a = true) (hn : ∀ a, a ∈ m → a ∈ nmL) : l = m :=
  hp.eq_of_pairwise (fun a b ha hb h1 h2 => nm_anti a (hn a (hp.subset ha)) b (hn b hb) h2 h1) hl hm
end Go.Proofs.Ytneheklmkbhieaa.AW

open Go Go.Proofs.Ytneheklmkbhieaa.AW Go.Proofs
namespace Go.Proofs.Ytneheklmkbhieaa.AW
set_option maxRecDepth 100000
set_option linter.unusedSimpArgs false
set_option linter.unusedVariables false

/-! ### One file that stays, whatever is asked of others -/
def zlog : List UInt8 := [122, 46, 108, 111, 103]
theorem zlog_in : zlog ∈ nmL := by decide
structure Gd (a : List UInt8) (i : Nat) (es : List FE) (cl : Nat) (d : Int) : Prop where
  v : FInv (i + 2) (1048576 * (i + 1)) es cl
  z : fGet es zlog = some (a, a.length)
  d : 0 ≤ d ∧ d ≤ (i : Int) + 2
theorem Gd.ok {a : List UInt8} {i : Nat} {es : List FE} {cl : Nat} {d : Int} (h : Gd a i es cl d) (hi : i ≤ 60) : FOk es (-1) d := h.v.ok (by omega) (by decide) (by have := h.d; omega)
theorem Gd.more {a : List UInt8} {i : Nat} {es : List FE} {cl : Nat} {d : Int} (h : Gd a i es cl d) : Gd a (i + 1) es cl d := ⟨h.v.more (by omega) (by omega), h.z, by have := h.d; omega⟩
theorem nm_short {n : List UInt8} (h : n ∈ nmL) : n.length < 1099511627776 := nm_len h

theorem truncate_x {a : List UInt8} {i : Nat} {es : List FE} {cl : Nat} {d : Int} (h : Gd a i es cl d) (hi : i ≤ 60) (n : List UInt8) (hn : n ≠ zlog) (k : Int) :
    ∃ r es' cl' d', Gd a (i + 1) es' cl' d' ∧ ∀ K : AV → Store → Prop, K (.p (ii r)) (fsS es' cl' (-1) d') → Cal Try.prog 24 [fsP, .p (.str n), .p (ii k)] (fsS es cl (-1) d) K := by
  have ok := h.ok hi
  cases hg : fGet es n with
  | none => exact ⟨22, es, cl, d, h.more, fun K hK => truncate_c es cl (-1) d ok n k K (fun _ => hK) (fun q hq => by rw [hg] at hq; cases hq) (fun q hq => by rw [hg] at hq; cases hq) (fun q hq => by rw [hg] at hq; cases hq)⟩
  | some q =>
    obtain ⟨b1, b2⟩ := h.v.get hg
    by_cases hk : k < 0 ∨ k > q.1.length
    · exact ⟨1, es, cl, d, h.more, fun K hK => truncate_c es cl (-1) d ok n k K (fun h => by rw [hg] at h; cases h) (fun _ _ _ => hK) (fun q' hq h1 h2 => by rw [hg] at hq; cases hq; omega) (fun q' hq h1 h2 => by rw [hg] at hq; cases hq; omega)⟩
    · have hl : (q.1.take k.toNat).length = k.toNat := by rw [List.length_take]; omega
      refine ⟨0, fSet es n (q.1.take k.toNat) k.toNat, cl, d + 1, ⟨(h.v.set (Nat.le_refl _) (by omega) (by omega)).more (by omega) (by omega), ?_, by have := h.d; omega⟩, fun K hK => truncate_c es cl (-1) d ok n k K (fun h => by rw [hg] at h; cases h) (fun q' hq h1 => by rw [hg] at hq; cases hq; omega) (fun _ _ _ _ h => absurd h (by decide)) (fun q' hq _ _ _ => by rw [hg] at hq; cases hq; exact hK)⟩
      rw [get_set, if_neg hn.symm]; exact h.z
theorem rename_x {a : List UInt8} {i : Nat} {es : List FE} {cl : Nat} {d : Int} (h : Gd a i es cl d) (hi : i ≤ 60) (n m : List UInt8) (hn : n ≠ zlog) (hm : m ≠ zlog) (hmn : m ∈ nmL) :
    ∃ r es' cl' d', Gd a (i + 1) es' cl' d' ∧ ∀ K : AV → Store → Prop, K (.p (ii r)) (fsS es' cl' (-1) d') → Cal Try.prog 16 [fsP, .p (.str n), .p (.str m)] (fsS es cl (-1) d) K := by
  have ok := h.ok hi
  have hms := nm_short hmn
  cases hg : fGet es n with
  | none => exact ⟨22, es, cl, d, h.more, fun K hK => rename_c es cl (-1) d ok n m hms K (fun _ => hK) (fun q hq => by rw [hg] at hq; cases hq) (fun q hq => by rw [hg] at hq; cases hq) (fun q hq => by rw [hg] at hq; cases hq)⟩
  | some q =>
    obtain ⟨b1, b2⟩ := h.v.get hg
    cases hr : isRt m with
    | false => exact ⟨1, es, cl, d, h.more, fun K hK => rename_c es cl (-1) d ok n m hms K (fun h => by rw [hg] at h; cases h) (fun _ _ _ => hK) (fun q' hq h1 => by rw [hr] at h1; cases h1) (fun q' hq h1 => by rw [hr] at h1; cases h1)⟩
    | true =>
      refine ⟨0, fPut (fDel es n) cl m q.1 q.2, fCl (fDel es n) cl m, d + 1, ⟨((h.v.del n).put (Nat.le_refl _) hmn b1 b2).more (by omega) (by omega), ?_, by have := h.d; omega⟩, fun K hK => rename_c es cl (-1) d ok n m hms K (fun h => by rw [hg] at h; cases h) (fun q' hq h1 => by rw [hr] at h1; cases h1) (fun _ _ _ h => absurd h (by decide)) (fun q' hq _ _ => by rw [hg] at hq; cases hq; exact hK)⟩
      rw [get_put, if_neg hm.symm, get_del hn.symm]; exact h.z
theorem remove_x {a : List UInt8} {i : Nat} {es : List FE} {cl : Nat} {d : Int} (h : Gd a i es cl d) (hi : i ≤ 60) (n : List UInt8) (hn : n ≠ zlog) :
    ∃ r es' cl' d', Gd a (i + 1) es' cl' d' ∧ ∀ K : AV → Store → Prop, K (.p (ii r)) (fsS es' cl' (-1) d') → Cal Try.prog 23 [fsP, .p (.str n)] (fsS es cl (-1) d) K := by
  have ok := h.ok hi
  cases hg : fGet es n with
  | none => exact ⟨22, es, cl, d, h.more, fun K hK => remove_c es cl (-1) d ok n K (fun _ => hK) (fun q hq => by rw [hg] at hq; cases hq) (fun q hq => by rw [hg] at hq; cases hq)⟩
  | some q =>
    refine ⟨0, fDel es n, cl, d + 1, ⟨(h.v.del n).more (by omega) (by omega), ?_, by have := h.d; omega⟩, fun K hK => remove_c es cl (-1) d ok n K (fun h => by rw [hg] at h; cases h) (fun _ _ h => absurd h (by decide)) (fun q' hq _ => hK)⟩
    rw [get_del hn.symm]; exact h.z
theorem crash_x {a : List UInt8} (ha : a.length ≤ 1048576) {i : Nat} {es : List FE} {cl : Nat} {d : Int} (h : Gd a i es cl d) (hi : i ≤ 60) (keeps : List Int) (garble : List UInt8) :
    ∃ es', Gd a (i + 1) es' cl d ∧ ∀ K : AV → Store → Prop, K (.tup []) (fsS es' cl (-1) d) → Cal Try.prog 13 [fsP, .p (kl keeps), .p (bsl garble)] (fsS es cl (-1) d) K := by
  have ok := h.ok hi
  by_cases hs : ∃ ns : List (List UInt8), ns.Perm (es.map (·.2.1)) ∧ ns.Pairwise (fun a b => ¬ lessR b a = true)
  · obtain ⟨ns0, p0, s0⟩ := hs
    refine ⟨crS keeps garble ns0 es ns0.length, (⟨h.v.cr keeps garble ns0 _, crS_full (by omega) h.z _, h.d⟩ : Gd a i _ cl d).more, fun K hK => crash_c es cl (-1) d ok (h.v.fi (by omega)) keeps garble K (fun ns hp hpw => ?_)⟩
    have : ns = ns0 := srt_one (hp.trans p0.symm) hpw s0 (fun x hx => by
      obtain ⟨q, hq, rfl⟩ := List.mem_map.1 (p0.subset hx)
      exact h.v.nm q hq)
    rw [this]; exact hK
  · exact ⟨es, h.more, fun K hK => crash_c es cl (-1) d ok (h.v.fi (by omega)) keeps garble K (fun ns hp hpw => absurd ⟨ns, hp, hpw⟩ hs)⟩
theorem append_x {a : List UInt8} {i : Nat} {es : List FE} {cl : Nat} {d : Int} (h : Gd a i es cl d) (hi : i ≤ 60) (n : List UInt8) (hn : n ≠ zlog) (hnm : n ∈ nmL) (b : List UInt8) (hb : b.length ≤ 1048576) :
    ∃ r es' cl' d', Gd a (i + 1) es' cl' d' ∧ ∀ K : AV → Store → Prop, K (.p (ii r)) (fsS es' cl' (-1) d') → Cal Try.prog 11 [fsP, .p (.str n), .p (bsl b)] (fsS es cl (-1) d) K := by
  have ok := h.ok hi
  have hns := nm_short hnm
  cases hr : isRt n with
  | false => exact ⟨1, es, cl, d, h.more, fun K hK => append_c es cl (-1) d ok n b hns (by omega) K (fun _ => hK) (fun h => by rw [hr] at h; cases h) (fun h => by rw [hr] at h; cases h) (fun h => by rw [hr] at h; cases h)⟩
  | true =>
    by_cases hf : fGet es n = none ∧ 64 ≤ es.length
    · exact ⟨17, es, cl, d, h.more, fun K hK => append_c es cl (-1) d ok n b hns (by omega) K (fun h => by rw [hr] at h; cases h) (fun _ _ _ => hK) (fun _ h1 h2 => absurd h2 (by decide)) (fun _ h1 h2 => absurd (h1 hf.1) (by omega))⟩
    · obtain ⟨b1, b2⟩ := h.v.fB n
      have hbl : (fB es n ++ b).length = (fB es n).length + b.length := List.length_append
      refine ⟨0, fPut es cl n (fB es n ++ b) (fL es n), fCl es cl n, d + 1, ⟨(h.v.put (B' := 1048576 * (i + 2)) (by omega) hnm (by omega) (by omega)).more (by omega) (by omega), ?_, by have := h.d; omega⟩, fun K hK => append_c es cl (-1) d ok n b hns (by omega) K (fun h => by rw [hr] at h; cases h) (fun _ h1 h2 => absurd ⟨h1, h2⟩ hf) (fun _ _ h => absurd h (by decide)) (fun _ _ _ => hK)⟩
      rw [get_put, if_neg hn.symm]; exact h.z
theorem read_z {a : List UInt8} {i : Nat} {es : List FE} {cl : Nat} {d : Int} (h : Gd a i es cl d) (hi : i ≤ 60) (K : AV → Store → Prop) (hK : K (.tup [.p (bsl a), .p (.bool true)]) (fsS es cl (-1) d)) : Cal Try.prog 14 [fsP, .p (.str zlog)] (fsS es cl (-1) d) K := by
  refine read_c es cl (-1) d (h.ok hi) zlog K ?_
  have e1 : fB es zlog = a := by unfold fB; rw [h.z]
  rw [e1, h.z]; exact hK
theorem len_z {a : List UInt8} {i : Nat} {es : List FE} {cl : Nat} {d : Int} (h : Gd a i es cl d) (K : AV → Store → Prop) (hK : K (.p (ii a.length)) (fsS es cl (-1) d)) : Cal Try.prog 18 [fsP, .p (.str zlog)] (fsS es cl (-1) d) K := by
  refine len_c es cl (-1) d zlog K ?_
  have e1 : fB es zlog = a := by unfold fB; rw [h.z]
  rw [e1]; exact hK

/-! ### What is asked -/
structure Op7 where
  k : Int
  a : Int
  b : Int
  n : Int
  p : List UInt8
  ks : List Int
  g : List UInt8
def Op7.pv (o : Op7) : PV := .agg [ii o.k, ii o.a, ii o.b, ii o.n, bsl o.p, kl o.ks, bsl o.g]
def opsP (l : List Op7) : PV := .sl .shr 7 (l.map Op7.pv)
def nmAt (n : Int) : List UInt8 := nmL.getD (wi n 3).toNat []
theorem nmAt_get (n : Int) : (nmL.map PV.str)[(wi n 3).toNat]? = some (.str (nmAt n)) := by
  obtain ⟨h1, h2⟩ := wi_in n (H := 3) (by decide)
  have h3 : (wi n 3).toNat < nmL.length := by show _ < 7; omega
  unfold nmAt
  rw [List.getElem?_map, List.getElem?_eq_getElem h3]
  simp [h3]
theorem nmAt_in (n : Int) : nmAt n ∈ nmL ∧ nmAt n ≠ zlog := by
  obtain ⟨h1, h2⟩ := wi_in n (H := 3) (by decide)
  unfold nmAt
  have h3 : (wi n 3).toNat = 0 ∨ (wi n 3).toNat = 1 ∨ (wi n 3).toNat = 2 ∨ (wi n 3).toNat = 3 := by omega
  rcases h3 with h | h | h | h <;> rw [h] <;> decide
end Go.Proofs.Ytneheklmkbhieaa.AW

open Go Go.Proofs.Ytneheklmkbhieaa.AW Go.Proofs
namespace Go.Proofs.Ytneheklmkbhieaa.AW
set_option maxRecDepth 100000
set_option linter.unusedSimpArgs false
set_option linter.unusedVariables false

/-! ### Files that are soon stopped, and files that are not -/
def Aft (f : Nat) (args : List AV) (i : Nat) (es : List FE) (cl : Nat) (d t : Int) : Prop :=
  ∃ r1 r2 e1 c1 d1, FInv (i + 1) (1048576 * (i + 1)) e1 c1 ∧ d ≤ d1 ∧ d1 ≤ t ∧
    (∀ K : AV → Store → Prop, K (.p (ii r1)) (fsS e1 c1 (t - d1) d1) → Cal Try.prog f args (fsS es cl (t - d) d) K) ∧
    (d < t → ∀ K : AV → Store → Prop, K (.p (ii r2)) (fsS e1 c1 (-1) d1) → Cal Try.prog f args (fsS es cl (-1) d) K) ∧ (¬ d < t → e1 = es ∧ c1 = cl ∧ d1 = d)
theorem lft_dec {t d : Int} (h : d < t) : lft (t - d) = t - (d + 1) := by unfold lft; rw [if_pos (by omega)]; omega
theorem lft_m : lft (-1) = -1 := rfl

section
variable {i : Nat} {es : List FE} {cl : Nat} {d t : Int}
theorem aft_same {f : Nat} {args : List AV} (hv : FInv i (1048576 * i) es cl) (hd : d ≤ t) (r1 r2 : Int) (h1 : ∀ K : AV → Store → Prop, K (.p (ii r1)) (fsS es cl (t - d) d) → Cal Try.prog f args (fsS es cl (t - d) d) K)
    (h2 : ∀ K : AV → Store → Prop, K (.p (ii r2)) (fsS es cl (-1) d) → Cal Try.prog f args (fsS es cl (-1) d) K) : Aft f args i es cl d t :=
  ⟨r1, r2, es, cl, d, hv.more (by omega) (by omega), Int.le_refl _, hd, h1, fun _ => h2, fun _ => ⟨rfl, rfl, rfl⟩⟩
theorem sync_y (hv : FInv i (1048576 * i) es cl) (hi : i ≤ 60) (hd : 0 ≤ d ∧ d ≤ t) (ht : t ≤ 20) (n : List UInt8) : Aft 12 [fsP, .p (.str n)] i es cl d t := by
  have ok1 : FOk es (t - d) d := hv.ok (by omega) (by omega) (by omega)
  have ok2 : FOk es (-1) d := hv.ok (by omega) (by decide) (by omega)
  cases hg : fGet es n with
  | none => exact aft_same hv hd.2 22 22 (fun K hK => sync_c es cl (t - d) d ok1 n K (fun _ => hK) (fun q h => by rw [hg] at h; cases h) (fun q h => by rw [hg] at h; cases h)) (fun K hK => sync_c es cl (-1) d ok2 n K (fun _ => hK) (fun q h => by rw [hg] at h; cases h) (fun q h => by rw [hg] at h; cases h))
  | some q =>
    by_cases hdt : d < t
    · refine ⟨0, 0, fSet es n q.1 q.1.length, cl, d + 1, (hv.set (B' := 1048576 * (i + 1)) (by omega) (by have := hv.get hg; omega) (Nat.le_refl _)).more (by omega) (Nat.le_refl _), by omega, by omega, fun K hK => ?_, fun _ K hK => ?_, fun h => absurd hdt h⟩
      · refine sync_c es cl (t - d) d ok1 n K (fun h => by rw [hg] at h; cases h) (fun _ _ h => by omega) (fun q' h _ => ?_)
        rw [hg] at h; cases h
        rw [lft_dec hdt]; exact hK
      · refine sync_c es cl (-1) d ok2 n K (fun h => by rw [hg] at h; cases h) (fun _ _ h => absurd h (by decide)) (fun q' h _ => ?_)
        rw [hg] at h; cases h
        exact hK
    · refine ⟨0, 0, es, cl, d, hv.more (by omega) (by omega), Int.le_refl _, hd.2, fun K hK => ?_, fun h => absurd h hdt, fun _ => ⟨rfl, rfl, rfl⟩⟩
      exact sync_c es cl (t - d) d ok1 n K (fun h => by rw [hg] at h; cases h) (fun _ _ _ => hK) (fun q' h hl => by omega)
theorem remove_y (hv : FInv i (1048576 * i) es cl) (hi : i ≤ 60) (hd : 0 ≤ d ∧ d ≤ t) (ht : t ≤ 20) (n : List UInt8) : Aft 23 [fsP, .p (.str n)] i es cl d t := by
  have ok1 : FOk es (t - d) d := hv.ok (by omega) (by omega) (by omega)
  have ok2 : FOk es (-1) d := hv.ok (by omega) (by decide) (by omega)
  cases hg : fGet es n with
  | none => exact aft_same hv hd.2 22 22 (fun K hK => remove_c es cl (t - d) d ok1 n K (fun _ => hK) (fun q h => by rw [hg] at h; cases h) (fun q h => by rw [hg] at h; cases h)) (fun K hK => remove_c es cl (-1) d ok2 n K (fun _ => hK) (fun q h => by rw [hg] at h; cases h) (fun q h => by rw [hg] at h; cases h))
  | some q =>
    by_cases hdt : d < t
    · refine ⟨0, 0, fDel es n, cl, d + 1, (hv.del n).more (by omega) (by omega), by omega, by omega, fun K hK => ?_, fun _ K hK => ?_, fun h => absurd hdt h⟩
      · refine remove_c es cl (t - d) d ok1 n K (fun h => by rw [hg] at h; cases h) (fun _ _ h => by omega) (fun q' h _ => ?_)
        rw [lft_dec hdt]; exact hK
      · exact remove_c es cl (-1) d ok2 n K (fun h => by rw [hg] at h; cases h) (fun _ _ h => absurd h (by decide)) (fun q' h _ => hK)
    · refine ⟨0, 0, es, cl, d, hv.more (by omega) (by omega), Int.le_refl _, hd.2, fun K hK => ?_, fun h => absurd h hdt, fun _ => ⟨rfl, rfl, rfl⟩⟩
      exact remove_c es cl (t - d) d ok1 n K (fun h => by rw [hg] at h; cases h) (fun _ _ _ => hK) (fun q' h hl => by omega)
theorem rename_y (hv : FInv i (1048576 * i) es cl) (hi : i ≤ 60) (hd : 0 ≤ d ∧ d ≤ t) (ht : t ≤ 20) (n m : List UInt8) (hm : m ∈ nmL) : Aft 16 [fsP, .p (.str n), .p (.str m)] i es cl d t := by
  have ok1 : FOk es (t - d) d := hv.ok (by omega) (by omega) (by omega)
  have ok2 : FOk es (-1) d := hv.ok (by omega) (by decide) (by omega)
  have hms := nm_len hm
  cases hg : fGet es n with
  | none => exact aft_same hv hd.2 22 22 (fun K hK => rename_c es cl (t - d) d ok1 n m hms K (fun _ => hK) (fun q h => by rw [hg] at h; cases h) (fun q h => by rw [hg] at h; cases h) (fun q h => by rw [hg] at h; cases h)) (fun K hK => rename_c es cl (-1) d ok2 n m hms K (fun _ => hK) (fun q h => by rw [hg] at h; cases h) (fun q h => by rw [hg] at h; cases h) (fun q h => by rw [hg] at h; cases h))
  | some q =>
    cases hr : isRt m with
    | false => exact aft_same hv hd.2 1 1 (fun K hK => rename_c es cl (t - d) d ok1 n m hms K (fun h => by rw [hg] at h; cases h) (fun _ _ _ => hK) (fun q _ h => by rw [hr] at h; cases h) (fun q _ h => by rw [hr] at h; cases h)) (fun K hK => rename_c es cl (-1) d ok2 n m hms K (fun h => by rw [hg] at h; cases h) (fun _ _ _ => hK) (fun q _ h => by rw [hr] at h; cases h) (fun q _ h => by rw [hr] at h; cases h))
    | true =>
      obtain ⟨b1, b2⟩ := hv.get hg
      by_cases hdt : d < t
      · refine ⟨0, 0, fPut (fDel es n) cl m q.1 q.2, fCl (fDel es n) cl m, d + 1, ((hv.del n).put (Nat.le_refl _) hm b1 b2).more (by omega) (by omega), by omega, by omega, fun K hK => ?_, fun _ K hK => ?_, fun h => absurd hdt h⟩
        · refine rename_c es cl (t - d) d ok1 n m hms K (fun h => by rw [hg] at h; cases h) (fun q _ h => by rw [hr] at h; cases h) (fun _ _ _ h => by omega) (fun q' h _ _ => ?_)
          rw [hg] at h; cases h
          rw [lft_dec hdt]; exact hK
        · refine rename_c es cl (-1) d ok2 n m hms K (fun h => by rw [hg] at h; cases h) (fun q _ h => by rw [hr] at h; cases h) (fun _ _ _ h => absurd h (by decide)) (fun q' h _ _ => ?_)
          rw [hg] at h; cases h
          exact hK
      · refine ⟨0, 0, es, cl, d, hv.more (by omega) (by omega), Int.le_refl _, hd.2, fun K hK => ?_, fun h => absurd h hdt, fun _ => ⟨rfl, rfl, rfl⟩⟩
        exact rename_c es cl (t - d) d ok1 n m hms K (fun h => by rw [hg] at h; cases h) (fun q _ h => by rw [hr] at h; cases h) (fun _ _ _ _ => hK) (fun q' h _ hl => by omega)
theorem append_y (hv : FInv i (1048576 * i) es cl) (hi : i ≤ 60) (hd : 0 ≤ d ∧ d ≤ t) (ht : t ≤ 20) (n : List UInt8) (hn : n ∈ nmL) (b : List UInt8) (hb : b.length ≤ 1048576) : Aft 11 [fsP, .p (.str n), .p (bsl b)] i es cl d t := by
  have ok1 : FOk es (t - d) d := hv.ok (by omega) (by omega) (by omega)
  have ok2 : FOk es (-1) d := hv.ok (by omega) (by decide) (by omega)
  have hns := nm_len hn
  have hlen := hv.n
  cases hr : isRt n with
  | false => exact aft_same hv hd.2 1 1 (fun K hK => append_c es cl (t - d) d ok1 n b hns (by omega) K (fun _ => hK) (fun h => by rw [hr] at h; cases h) (fun h => by rw [hr] at h; cases h) (fun h => by rw [hr] at h; cases h)) (fun K hK => append_c es cl (-1) d ok2 n b hns (by omega) K (fun _ => hK) (fun h => by rw [hr] at h; cases h) (fun h => by rw [hr] at h; cases h) (fun h => by rw [hr] at h; cases h))
  | true =>
    obtain ⟨b1, b2⟩ := hv.fB n
    have hbl : (fB es n ++ b).length = (fB es n).length + b.length := List.length_append
    by_cases hdt : d < t
    · refine ⟨0, 0, fPut es cl n (fB es n ++ b) (fL es n), fCl es cl n, d + 1, hv.put (B' := 1048576 * (i + 1)) (by omega) hn (by omega) (by omega), by omega, by omega, fun K hK => ?_, fun _ K hK => ?_, fun h => absurd hdt h⟩
      · refine append_c es cl (t - d) d ok1 n b hns (by omega) K (fun h => by rw [hr] at h; cases h) (fun _ _ h => by omega) (fun _ _ h => by omega) (fun _ _ _ => ?_)
        rw [lft_dec hdt]; exact hK
      · exact append_c es cl (-1) d ok2 n b hns (by omega) K (fun h => by rw [hr] at h; cases h) (fun _ _ h => by omega) (fun _ _ h => absurd h (by decide)) (fun _ _ _ => hK)
    · refine ⟨0, 0, es, cl, d, hv.more (by omega) (by omega), Int.le_refl _, hd.2, fun K hK => ?_, fun h => absurd h hdt, fun _ => ⟨rfl, rfl, rfl⟩⟩
      exact append_c es cl (t - d) d ok1 n b hns (by omega) K (fun h => by rw [hr] at h; cases h) (fun _ _ h => by omega) (fun _ _ _ => hK) (fun _ _ h => by omega)
end
end Go.Proofs.Ytneheklmkbhieaa.AW
