/- A part of the proof: LF/F16. -/
import Derived.Test.YtneheklmkbhieaaP11
open Go Go.Proofs.Ytneheklmkbhieaa.AW Go.Proofs
namespace Go.Proofs.Ytneheklmkbhieaa.AW
set_option maxRecDepth 100000
set_option linter.unusedSimpArgs false
set_option linter.unusedVariables false

/-! ### FilesStop -/
def two (es : List FE) (cl : Nat) (l d : Int) (es2 : List FE) (cl2 : Nat) (l2 d2 : Int) : Store :=
  [some (.map .str (es.map ent) cl), some (.cells [.map 0, .p (ii l), .p (ii d)]), some (.map .str (es2.map ent) cl2), some (.cells [.map 2, .p (ii l2), .p (ii d2)])]
def sto (t : Int) (es : List FE) (cl : Nat) (d : Int) (e1 : List FE) (c1 : Nat) (d1 : Int) : Nat → Store
  | 0 => two es cl (t - d) d es cl (-1) d ++ [some (.cells [.ref 1 0, .ref 3 0])]
  | 1 => two e1 c1 (t - d1) d1 es cl (-1) d ++ [some (.cells [.ref 1 0, .ref 3 0])]
  | _ => two e1 c1 (t - d1) d1 e1 c1 (-1) d1 ++ [some (.cells [.ref 1 0, .ref 3 0])]

set_option maxHeartbeats 16000000 in
theorem filesStop_c (ops : List Op7) (n : Int) (hp : ∀ o, o ∈ ops → o.p.length ≤ 1048576) (K : AV → Store → Prop) (h : ∀ s, K (.p (.bool true)) s) : Cal Try.prog 5 [.p (opsP ops), .p (ii n)] [] K := by
  refine Cal.intro Try.func5 (by decide +kernel) rfl rfl ?_
  refine new_c _ ?_
  refine Cal.frameK [] (new_c _ fun _ => ?_) rfl rfl rfl
  iterate 2 refine Br.t rfl ?_
  refine Br.f rfl ?_
  refine Br.f rfl ?_
  refine within_c n 20 (by decide) (by decide) _ _ ?_
  obtain ⟨ht0, ht1⟩ := wi_in n (H := 20) (by decide)
  obtain ⟨t, ht⟩ : ∃ t, t = wi n 20 := ⟨_, rfl⟩
  rw [← ht] at ht0 ht1
  have hst : ∀ K', K' (.tup []) (fsS [] 0 (t - 0) 0) → Cal Try.prog 21 [fsP, .p (ii (wi n 20))] (fsS [] 0 (-1) 0) K' := fun K' hK => by
    rw [← ht]
    refine stop_c [] 0 (-1) 0 t _ ?_
    rw [if_pos (by omega), show t = t - 0 by omega]; exact hK
  refine Cal.frameK [0, 1] (hst _ fun _ => ?_) rfl rfl rfl
  have hol : (ops.map Op7.pv).length = ops.length := List.length_map ..
  have hv0 : FInv 0 (1048576 * 0) [] 0 := ⟨by simp, by simp, (fun q hq => by cases hq), (fun q hq => by cases hq), Nat.zero_le _, (fun q hq => by cases hq)⟩
  refine LoopX.fam [0, 5, 6, 7, 8] (fun (q : Nat × List FE × Nat × Int) => ([(0, .p (opsP ops)), (5, fsP), (6, .ref 3 0), (7, .p (ii t)), (8, .p (ii q.1))], two q.2.1 q.2.2.1 (t - q.2.2.2) q.2.2.2 q.2.1 q.2.2.1 (-1) q.2.2.2))
    (fun q => FInv q.1 (1048576 * q.1) q.2.1 q.2.2.1 ∧ (0 ≤ q.2.2.2 ∧ q.2.2.2 ≤ t) ∧ q.1 ≤ ops.length ∧ q.1 ≤ 60) (fun q => ops.length - q.1) (0, [], 0, 0)
    ⟨hv0, ⟨Int.le_refl _, ht0⟩, Nat.zero_le _, Nat.zero_le _⟩ (Trim.mk' ?_ rfl rfl rfl (Nat.le_refl _)) ?_
  · refine Eq.trans (b := [_, _, _, (7, AV.p (ii (wi n 20))), _]) rfl ?_
    rw [← ht]; rfl
  rintro ⟨i, es, cl, d⟩ ⟨hv, hd, hi1, hi2⟩
  have hv : FInv i (1048576 * i) es cl := hv
  have hd : 0 ≤ d ∧ d ≤ t := hd
  have hi1 : i ≤ ops.length := hi1
  have hi2 : i ≤ 60 := hi2
  have ei : IntKind.i64.wrap ((i : Int) + 1) = ((i + 1 : Nat) : Int) := by rw [wrap_i64] <;> omega
  by_cases hc : i < ops.length
  · have f1 : decide ((i : Int) < ((ops.map Op7.pv).length : Int)) = true := decide_eq_true (by rw [hol]; omega)
    have f1b : (decide ((i : Int) < ((ops.map Op7.pv).length : Int)) == true) = true := by rw [f1]; rfl
    iterate 2 refine Br.t f1b ?_
    refine Br.t f1 ?_
    by_cases hc6 : i < 60
    · refine Br.t (decide_eq_true (show (i : Int) < 60 by omega)) ?_
      obtain ⟨o, ho⟩ : ∃ o, o = ops[i] := ⟨_, rfl⟩
      have hol7 : o.p.length ≤ 1048576 := hp o (by rw [ho]; exact List.getElem_mem _)
      have hoi : (ops.map Op7.pv)[((i : Nat) : Int).toNat]? = some o.pv := by rw [Int.toNat_natCast, List.getElem?_map, List.getElem?_eq_getElem hc, ho]; rfl
      obtain ⟨hn1, hn2⟩ := nmAt_in o.a
      obtain ⟨hm1, hm2⟩ := nmAt_in o.b
      refine ⟨_, fun s' => names_c s' _ ⟨rfl, rfl⟩, rfl, ?_⟩
      iterate 2 refine ⟨_, ⟨rfl, rfl⟩, ?_⟩
      refine ⟨_, Idx.mk o.pv (Int.natCast_nonneg i) hoi ⟨rfl, rfl⟩, ?_⟩
      iterate 2 refine ⟨_, ⟨rfl, rfl⟩, ?_⟩
      refine ⟨_, fun s' => within_c o.a 3 (by decide) (by decide) s' _ ⟨rfl, rfl⟩, rfl, ?_⟩
      refine ⟨_, Idx.mk (.str (nmAt o.a)) (wi_in o.a (by decide)).1 (nmAt_get o.a) ⟨rfl, rfl⟩, ?_⟩
      refine ⟨_, ⟨rfl, rfl⟩, ?_⟩
      refine ⟨_, fun s' => names_c s' _ ⟨rfl, rfl⟩, rfl, ?_⟩
      iterate 2 refine ⟨_, ⟨rfl, rfl⟩, ?_⟩
      refine ⟨_, Idx.mk o.pv (Int.natCast_nonneg i) hoi ⟨rfl, rfl⟩, ?_⟩
      iterate 2 refine ⟨_, ⟨rfl, rfl⟩, ?_⟩
      refine ⟨_, fun s' => within_c o.b 3 (by decide) (by decide) s' _ ⟨rfl, rfl⟩, rfl, ?_⟩
      refine ⟨_, Idx.mk (.str (nmAt o.b)) (wi_in o.b (by decide)).1 (nmAt_get o.b) ⟨rfl, rfl⟩, ?_⟩
      iterate 3 refine ⟨_, ⟨rfl, rfl⟩, ?_⟩
      refine Chk.mk (by kernel_rfl) ?_
      refine Or.inr ?_
      cases h0 : (wi o.k 4 == (0 : Int)) with
      | true =>
        obtain ⟨r1, r2, e1, c1, d1, hv1, hda, hdb, hC1, hC2, hC3⟩ := rename_y hv hi2 hd ht1 (nmAt o.a) (nmAt o.b) hm1
        refine LoopX.fam [0, 5, 6, 7, 8, 9, 10, 63, 64, 65] (fun (j : Nat) => ([(0, .p (opsP ops)), (5, fsP), (6, .ref 3 0), (7, .p (ii t)), (8, .p (ii i)), (9, .p (.str (nmAt o.a))), (10, .p (.str (nmAt o.b))), (63, .osl 4 0 1 2), (64, .p (ii 2)), (65, .p (ii j))], sto t es cl d e1 c1 d1 j))
          (fun j => j ≤ 2) (fun j => 2 - j) 0 (Nat.zero_le _) (Trim.mk' rfl rfl rfl rfl (Nat.le_refl _)) ?_
        intro j hj
        have hj3 : j = 0 ∨ j = 1 ∨ j = 2 := by omega
        clear hj
        rcases hj3 with rfl | rfl | rfl
        · refine Br.t rfl ?_
          refine Ob.mk ⟨by decide, by decide⟩ ?_
          iterate 4 refine Br.f rfl ?_
          refine Br.f rfl ?_
          refine Br.f rfl ?_
          refine Idx.mk o.pv (Int.natCast_nonneg i) hoi ?_
          refine within_c o.k 4 (by decide) (by decide) _ _ ?_
          refine Br.t h0 ?_
          refine Cal.frameK [0, 1] (hC1 _ fun _ => ?_) rfl rfl rfl
          exact ⟨1, by decide, by decide, Nat.le_refl _, Trim.mk' rfl rfl rfl rfl (Nat.le_refl _)⟩
        · refine Br.t rfl ?_
          refine Ob.mk ⟨by decide, by decide⟩ ?_
          iterate 2 refine Br.t rfl ?_
          refine Cal.frameK [2, 3] (deeds_c es cl (-1) d _ fun _ => ?_) rfl rfl rfl
          iterate 2 refine Br.t rfl ?_
          refine Br.t rfl ?_
          by_cases hdt : d < t
          · refine Br.f (decide_eq_false (show ¬ d ≥ t by omega)) ?_
            refine Idx.mk o.pv (Int.natCast_nonneg i) hoi ?_
            refine within_c o.k 4 (by decide) (by decide) _ _ ?_
            refine Br.t h0 ?_
            refine Cal.frameK [2, 3] (hC2 hdt _ fun _ => ?_) rfl rfl rfl
            exact ⟨2, by decide, by decide, Nat.le_refl _, Trim.mk' rfl rfl rfl rfl (Nat.le_refl _)⟩
          · refine Br.t (decide_eq_true (show d ≥ t by omega)) ?_
            obtain ⟨q1, q2, q3⟩ := hC3 hdt
            subst q1; subst q2; subst q3
            exact ⟨2, by decide, by decide, Nat.le_refl _, Trim.mk' rfl rfl rfl rfl (Nat.le_refl _)⟩
        · refine Br.f rfl ?_
          refine Cal.frameK [0, 1] (deeds_c e1 c1 (t - d1) d1 _ fun _ => ?_) rfl rfl rfl
          refine Cal.frameK [2, 3] (deeds_c e1 c1 (-1) d1 _ fun _ => ?_) rfl rfl rfl
          have f1 : (d1 != d1) = false := by simp
          have f2 : ((d1 != d1) == false) = true := by rw [f1]; rfl
          iterate 2 refine Br.t f2 ?_
          refine Cal.frameK [0, 1] (deeds_c e1 c1 (t - d1) d1 _ fun _ => ?_) rfl rfl rfl
          iterate 2 refine Br.t f2 ?_
          refine Br.f f1 ?_
          refine Br.f (decide_eq_false (show ¬ d1 > t by omega)) ?_
          refine ⟨(i + 1, e1, c1, d1), ⟨hv1, ⟨(show 0 ≤ d1 by omega), hdb⟩, (show i + 1 ≤ ops.length by omega), (show i + 1 ≤ 60 by omega)⟩, (show ops.length - (i + 1) < ops.length - i by omega), (show 4 ≤ 4 by decide), Trim.mk' ?_ rfl rfl rfl (show 4 ≤ 5 by decide)⟩
          refine Eq.trans (b := [_, _, _, _, (8, AV.p (ii (IntKind.i64.wrap ((i : Int) + 1))))]) rfl ?_
          first | (rw [ei]; done) | (rw [ei]; rfl)
      | false =>
        cases h1 : (wi o.k 4 == (1 : Int)) with
        | true =>
          obtain ⟨r1, r2, e1, c1, d1, hv1, hda, hdb, hC1, hC2, hC3⟩ := remove_y hv hi2 hd ht1 (nmAt o.a)
          refine LoopX.fam [0, 5, 6, 7, 8, 9, 10, 63, 64, 65] (fun (j : Nat) => ([(0, .p (opsP ops)), (5, fsP), (6, .ref 3 0), (7, .p (ii t)), (8, .p (ii i)), (9, .p (.str (nmAt o.a))), (10, .p (.str (nmAt o.b))), (63, .osl 4 0 1 2), (64, .p (ii 2)), (65, .p (ii j))], sto t es cl d e1 c1 d1 j))
            (fun j => j ≤ 2) (fun j => 2 - j) 0 (Nat.zero_le _) (Trim.mk' rfl rfl rfl rfl (Nat.le_refl _)) ?_
          intro j hj
          have hj3 : j = 0 ∨ j = 1 ∨ j = 2 := by omega
          clear hj
          rcases hj3 with rfl | rfl | rfl
          · refine Br.t rfl ?_
            refine Ob.mk ⟨by decide, by decide⟩ ?_
            iterate 4 refine Br.f rfl ?_
            refine Br.f rfl ?_
            refine Br.f rfl ?_
            refine Idx.mk o.pv (Int.natCast_nonneg i) hoi ?_
            refine within_c o.k 4 (by decide) (by decide) _ _ ?_
            refine Br.f h0 ?_
            refine Br.t h1 ?_
            refine Cal.frameK [0, 1] (hC1 _ fun _ => ?_) rfl rfl rfl
            exact ⟨1, by decide, by decide, Nat.le_refl _, Trim.mk' rfl rfl rfl rfl (Nat.le_refl _)⟩
          · refine Br.t rfl ?_
            refine Ob.mk ⟨by decide, by decide⟩ ?_
            iterate 2 refine Br.t rfl ?_
            refine Cal.frameK [2, 3] (deeds_c es cl (-1) d _ fun _ => ?_) rfl rfl rfl
            iterate 2 refine Br.t rfl ?_
            refine Br.t rfl ?_
            by_cases hdt : d < t
            · refine Br.f (decide_eq_false (show ¬ d ≥ t by omega)) ?_
              refine Idx.mk o.pv (Int.natCast_nonneg i) hoi ?_
              refine within_c o.k 4 (by decide) (by decide) _ _ ?_
              refine Br.f h0 ?_
              refine Br.t h1 ?_
              refine Cal.frameK [2, 3] (hC2 hdt _ fun _ => ?_) rfl rfl rfl
              exact ⟨2, by decide, by decide, Nat.le_refl _, Trim.mk' rfl rfl rfl rfl (Nat.le_refl _)⟩
            · refine Br.t (decide_eq_true (show d ≥ t by omega)) ?_
              obtain ⟨q1, q2, q3⟩ := hC3 hdt
              subst q1; subst q2; subst q3
              exact ⟨2, by decide, by decide, Nat.le_refl _, Trim.mk' rfl rfl rfl rfl (Nat.le_refl _)⟩
          · refine Br.f rfl ?_
            refine Cal.frameK [0, 1] (deeds_c e1 c1 (t - d1) d1 _ fun _ => ?_) rfl rfl rfl
            refine Cal.frameK [2, 3] (deeds_c e1 c1 (-1) d1 _ fun _ => ?_) rfl rfl rfl
            have f1 : (d1 != d1) = false := by simp
            have f2 : ((d1 != d1) == false) = true := by rw [f1]; rfl
            iterate 2 refine Br.t f2 ?_
            refine Cal.frameK [0, 1] (deeds_c e1 c1 (t - d1) d1 _ fun _ => ?_) rfl rfl rfl
            iterate 2 refine Br.t f2 ?_
            refine Br.f f1 ?_
            refine Br.f (decide_eq_false (show ¬ d1 > t by omega)) ?_
            refine ⟨(i + 1, e1, c1, d1), ⟨hv1, ⟨(show 0 ≤ d1 by omega), hdb⟩, (show i + 1 ≤ ops.length by omega), (show i + 1 ≤ 60 by omega)⟩, (show ops.length - (i + 1) < ops.length - i by omega), (show 4 ≤ 4 by decide), Trim.mk' ?_ rfl rfl rfl (show 4 ≤ 5 by decide)⟩
            refine Eq.trans (b := [_, _, _, _, (8, AV.p (ii (IntKind.i64.wrap ((i : Int) + 1))))]) rfl ?_
            first | (rw [ei]; done) | (rw [ei]; rfl)
        | false =>
          cases h2 : (wi o.k 4 == (2 : Int)) with
          | true =>
            obtain ⟨r1, r2, e1, c1, d1, hv1, hda, hdb, hC1, hC2, hC3⟩ := sync_y hv hi2 hd ht1 (nmAt o.a)
            refine LoopX.fam [0, 5, 6, 7, 8, 9, 10, 63, 64, 65] (fun (j : Nat) => ([(0, .p (opsP ops)), (5, fsP), (6, .ref 3 0), (7, .p (ii t)), (8, .p (ii i)), (9, .p (.str (nmAt o.a))), (10, .p (.str (nmAt o.b))), (63, .osl 4 0 1 2), (64, .p (ii 2)), (65, .p (ii j))], sto t es cl d e1 c1 d1 j))
              (fun j => j ≤ 2) (fun j => 2 - j) 0 (Nat.zero_le _) (Trim.mk' rfl rfl rfl rfl (Nat.le_refl _)) ?_
            intro j hj
            have hj3 : j = 0 ∨ j = 1 ∨ j = 2 := by omega
            clear hj
            rcases hj3 with rfl | rfl | rfl
            · refine Br.t rfl ?_
              refine Ob.mk ⟨by decide, by decide⟩ ?_
              iterate 4 refine Br.f rfl ?_
              refine Br.f rfl ?_
              refine Br.f rfl ?_
              refine Idx.mk o.pv (Int.natCast_nonneg i) hoi ?_
              refine within_c o.k 4 (by decide) (by decide) _ _ ?_
              refine Br.f h0 ?_
              refine Br.f h1 ?_
              refine Br.t h2 ?_
              refine Cal.frameK [0, 1] (hC1 _ fun _ => ?_) rfl rfl rfl
              exact ⟨1, by decide, by decide, Nat.le_refl _, Trim.mk' rfl rfl rfl rfl (Nat.le_refl _)⟩
            · refine Br.t rfl ?_
              refine Ob.mk ⟨by decide, by decide⟩ ?_
              iterate 2 refine Br.t rfl ?_
              refine Cal.frameK [2, 3] (deeds_c es cl (-1) d _ fun _ => ?_) rfl rfl rfl
              iterate 2 refine Br.t rfl ?_
              refine Br.t rfl ?_
              by_cases hdt : d < t
              · refine Br.f (decide_eq_false (show ¬ d ≥ t by omega)) ?_
                refine Idx.mk o.pv (Int.natCast_nonneg i) hoi ?_
                refine within_c o.k 4 (by decide) (by decide) _ _ ?_
                refine Br.f h0 ?_
                refine Br.f h1 ?_
                refine Br.t h2 ?_
                refine Cal.frameK [2, 3] (hC2 hdt _ fun _ => ?_) rfl rfl rfl
                exact ⟨2, by decide, by decide, Nat.le_refl _, Trim.mk' rfl rfl rfl rfl (Nat.le_refl _)⟩
              · refine Br.t (decide_eq_true (show d ≥ t by omega)) ?_
                obtain ⟨q1, q2, q3⟩ := hC3 hdt
                subst q1; subst q2; subst q3
                exact ⟨2, by decide, by decide, Nat.le_refl _, Trim.mk' rfl rfl rfl rfl (Nat.le_refl _)⟩
            · refine Br.f rfl ?_
              refine Cal.frameK [0, 1] (deeds_c e1 c1 (t - d1) d1 _ fun _ => ?_) rfl rfl rfl
              refine Cal.frameK [2, 3] (deeds_c e1 c1 (-1) d1 _ fun _ => ?_) rfl rfl rfl
              have f1 : (d1 != d1) = false := by simp
              have f2 : ((d1 != d1) == false) = true := by rw [f1]; rfl
              iterate 2 refine Br.t f2 ?_
              refine Cal.frameK [0, 1] (deeds_c e1 c1 (t - d1) d1 _ fun _ => ?_) rfl rfl rfl
              iterate 2 refine Br.t f2 ?_
              refine Br.f f1 ?_
              refine Br.f (decide_eq_false (show ¬ d1 > t by omega)) ?_
              refine ⟨(i + 1, e1, c1, d1), ⟨hv1, ⟨(show 0 ≤ d1 by omega), hdb⟩, (show i + 1 ≤ ops.length by omega), (show i + 1 ≤ 60 by omega)⟩, (show ops.length - (i + 1) < ops.length - i by omega), (show 4 ≤ 4 by decide), Trim.mk' ?_ rfl rfl rfl (show 4 ≤ 5 by decide)⟩
              refine Eq.trans (b := [_, _, _, _, (8, AV.p (ii (IntKind.i64.wrap ((i : Int) + 1))))]) rfl ?_
              first | (rw [ei]; done) | (rw [ei]; rfl)
          | false =>
            obtain ⟨r1, r2, e1, c1, d1, hv1, hda, hdb, hC1, hC2, hC3⟩ := append_y hv hi2 hd ht1 (nmAt o.a) hn1 o.p hol7
            refine LoopX.fam [0, 5, 6, 7, 8, 9, 10, 63, 64, 65] (fun (j : Nat) => ([(0, .p (opsP ops)), (5, fsP), (6, .ref 3 0), (7, .p (ii t)), (8, .p (ii i)), (9, .p (.str (nmAt o.a))), (10, .p (.str (nmAt o.b))), (63, .osl 4 0 1 2), (64, .p (ii 2)), (65, .p (ii j))], sto t es cl d e1 c1 d1 j))
              (fun j => j ≤ 2) (fun j => 2 - j) 0 (Nat.zero_le _) (Trim.mk' rfl rfl rfl rfl (Nat.le_refl _)) ?_
            intro j hj
            have hj3 : j = 0 ∨ j = 1 ∨ j = 2 := by omega
            clear hj
            rcases hj3 with rfl | rfl | rfl
            · refine Br.t rfl ?_
              refine Ob.mk ⟨by decide, by decide⟩ ?_
              iterate 4 refine Br.f rfl ?_
              refine Br.f rfl ?_
              refine Br.f rfl ?_
              refine Idx.mk o.pv (Int.natCast_nonneg i) hoi ?_
              refine within_c o.k 4 (by decide) (by decide) _ _ ?_
              refine Br.f h0 ?_
              refine Br.f h1 ?_
              refine Br.f h2 ?_
              refine Idx.mk o.pv (Int.natCast_nonneg i) hoi ?_
              refine Cal.frameK [0, 1] (hC1 _ fun _ => ?_) rfl rfl rfl
              exact ⟨1, by decide, by decide, Nat.le_refl _, Trim.mk' rfl rfl rfl rfl (Nat.le_refl _)⟩
            · refine Br.t rfl ?_
              refine Ob.mk ⟨by decide, by decide⟩ ?_
              iterate 2 refine Br.t rfl ?_
              refine Cal.frameK [2, 3] (deeds_c es cl (-1) d _ fun _ => ?_) rfl rfl rfl
              iterate 2 refine Br.t rfl ?_
              refine Br.t rfl ?_
              by_cases hdt : d < t
              · refine Br.f (decide_eq_false (show ¬ d ≥ t by omega)) ?_
                refine Idx.mk o.pv (Int.natCast_nonneg i) hoi ?_
                refine within_c o.k 4 (by decide) (by decide) _ _ ?_
                refine Br.f h0 ?_
                refine Br.f h1 ?_
                refine Br.f h2 ?_
                refine Idx.mk o.pv (Int.natCast_nonneg i) hoi ?_
                refine Cal.frameK [2, 3] (hC2 hdt _ fun _ => ?_) rfl rfl rfl
                exact ⟨2, by decide, by decide, Nat.le_refl _, Trim.mk' rfl rfl rfl rfl (Nat.le_refl _)⟩
              · refine Br.t (decide_eq_true (show d ≥ t by omega)) ?_
                obtain ⟨q1, q2, q3⟩ := hC3 hdt
                subst q1; subst q2; subst q3
                exact ⟨2, by decide, by decide, Nat.le_refl _, Trim.mk' rfl rfl rfl rfl (Nat.le_refl _)⟩
            · refine Br.f rfl ?_
              refine Cal.frameK [0, 1] (deeds_c e1 c1 (t - d1) d1 _ fun _ => ?_) rfl rfl rfl
              refine Cal.frameK [2, 3] (deeds_c e1 c1 (-1) d1 _ fun _ => ?_) rfl rfl rfl
              have f1 : (d1 != d1) = false := by simp
              have f2 : ((d1 != d1) == false) = true := by rw [f1]; rfl
              iterate 2 refine Br.t f2 ?_
              refine Cal.frameK [0, 1] (deeds_c e1 c1 (t - d1) d1 _ fun _ => ?_) rfl rfl rfl
              iterate 2 refine Br.t f2 ?_
              refine Br.f f1 ?_
              refine Br.f (decide_eq_false (show ¬ d1 > t by omega)) ?_
              refine ⟨(i + 1, e1, c1, d1), ⟨hv1, ⟨(show 0 ≤ d1 by omega), hdb⟩, (show i + 1 ≤ ops.length by omega), (show i + 1 ≤ 60 by omega)⟩, (show ops.length - (i + 1) < ops.length - i by omega), (show 4 ≤ 4 by decide), Trim.mk' ?_ rfl rfl rfl (show 4 ≤ 5 by decide)⟩
              refine Eq.trans (b := [_, _, _, _, (8, AV.p (ii (IntKind.i64.wrap ((i : Int) + 1))))]) rfl ?_
              first | (rw [ei]; done) | (rw [ei]; rfl)
    · refine Br.f (decide_eq_false (show ¬ (i : Int) < 60 by omega)) ?_
      have ok1 : FOk es (t - d) d := hv.ok (by omega) (by omega) (by omega)
      have ok2 : FOk es (-1) d := hv.ok (by omega) (by decide) (by omega)
      have hfi := hv.fi (by omega)
      refine Cal.frameK [0, 1] (list_c es cl (t - d) d hfi _ (fun ns hp1 hs1 _ => ?_)) rfl rfl rfl
      refine Cal.frameK [2, 3] (list_c es cl (-1) d hfi _ (fun ns2 hp2 hs2 _ => ?_)) rfl rfl rfl
      have e2 : ns2 = ns := srt_one (hp2.trans hp1.symm) hs2 hs1 (fun x hx => by
        obtain ⟨q, hq, rfl⟩ := List.mem_map.1 (hp1.subset hx)
        exact hv.nm q hq)
      subst e2
      have hnl : (ns2.map PV.str).length = ns2.length := List.length_map ..
      have hnn : ns2.length < 1099511627776 := by have := hp1.length_eq; have := hv.n; simp at *; omega
      refine Br.f (show (((ns2.map PV.str).length : Int) != ((ns2.map PV.str).length : Int)) = false by simp) ?_
      refine LoopX.fam [5, 6, 13, 14, 130, 131] (fun (j : Nat) => ([(5, fsP), (6, .ref 3 0), (13, .p (.sl .shr 1 (ns2.map .str))), (14, .p (.sl .shr 1 (ns2.map .str))), (130, .p (ii (ns2.map PV.str).length)), (131, .p (ii j))], two es cl (t - d) d es cl (-1) d))
        (fun j => j ≤ ns2.length) (fun j => ns2.length - j) 0 (Nat.zero_le _) (Trim.mk' rfl rfl rfl rfl (Nat.le_refl _)) ?_
      intro j hj
      have hj : j ≤ ns2.length := hj
      refine Br.mk (fun hc => ?_) (fun hc => ?_)
      · have hc : j < ns2.length := by have := of_decide_eq_true hc; rw [hnl] at this; omega
        have ej : IntKind.i64.wrap ((j : Int) + 1) = ((j + 1 : Nat) : Int) := by rw [wrap_i64] <;> omega
        obtain ⟨m, hm⟩ : ∃ m, m = ns2[j] := ⟨_, rfl⟩
        have hmj : (ns2.map PV.str)[((j : Nat) : Int).toNat]? = some (.str m) := by rw [Int.toNat_natCast, List.getElem?_map, List.getElem?_eq_getElem hc, hm]; rfl
        refine Idx.mk (.str m) (Int.natCast_nonneg j) hmj ?_
        refine Cal.frameK [0, 1] (read_c es cl (t - d) d ok1 m _ fun _ => ?_) rfl rfl rfl
        refine Idx.mk (.str m) (Int.natCast_nonneg j) hmj ?_
        refine Cal.frameK [2, 3] (read_c es cl (-1) d ok2 m _ fun _ => ?_) rfl rfl rfl
        have g1 : (!(m == m)) = false := by simp
        have g2 : ((!(m == m)) == false) = true := by rw [g1]; rfl
        have g3 : (!(fB es m == fB es m)) = false := by simp
        iterate 2 refine ⟨_, ⟨rfl, rfl⟩, ?_⟩
        refine ⟨_, Idx.mk (.str m) (Int.natCast_nonneg j) hmj ⟨rfl, rfl⟩, ?_⟩
        iterate 3 refine ⟨_, ⟨rfl, rfl⟩, ?_⟩
        refine ⟨_, Idx.mk (.str m) (Int.natCast_nonneg j) hmj ⟨rfl, rfl⟩, ?_⟩
        iterate 3 refine ⟨_, ⟨rfl, rfl⟩, ?_⟩
        refine Br.t g2 ?_
        refine ⟨_, ⟨rfl, rfl⟩, ?_⟩
        refine Br.t g2 ?_
        refine ⟨_, Ob.mk (.inr rfl) ⟨fB es m, rfl, ⟨rfl, rfl⟩⟩, ?_⟩
        refine Br.t g2 ?_
        refine ⟨_, ⟨rfl, rfl⟩, ?_⟩
        refine Br.t g2 ?_
        refine ⟨_, Ob.mk (.inr rfl) ⟨fB es m, rfl, ⟨rfl, rfl⟩⟩, ?_⟩
        refine Br.t g2 ?_
        refine ⟨_, ⟨rfl, rfl⟩, ?_⟩
        refine ⟨_, Br.f g1 ⟨rfl, rfl⟩, ?_⟩
        refine Chk.mk (by kernel_rfl) ?_
        refine Br.f g3 ?_
        refine ⟨j + 1, (show j + 1 ≤ ns2.length by omega), (show ns2.length - (j + 1) < ns2.length - j by omega), Nat.le_refl _, Trim.mk' ?_ rfl rfl rfl (Nat.le_refl _)⟩
        refine Eq.trans (b := [_, _, _, _, _, (131, AV.p (ii (IntKind.i64.wrap ((j : Int) + 1))))]) rfl ?_
        first | (rw [ej]; done) | (rw [ej]; rfl)
      · refine known_p _ _ ?_
        exact h _
  · have f1 : decide ((i : Int) < ((ops.map Op7.pv).length : Int)) = false := decide_eq_false (by rw [hol]; omega)
    have f1b : (decide ((i : Int) < ((ops.map Op7.pv).length : Int)) == true) = false := by rw [f1]; rfl
    iterate 2 refine Br.f f1b ?_
    refine Br.f f1 ?_
    refine Br.f rfl ?_
    have ok1 : FOk es (t - d) d := hv.ok (by omega) (by omega) (by omega)
    have ok2 : FOk es (-1) d := hv.ok (by omega) (by decide) (by omega)
    have hfi := hv.fi (by omega)
    refine Cal.frameK [0, 1] (list_c es cl (t - d) d hfi _ (fun ns hp1 hs1 _ => ?_)) rfl rfl rfl
    refine Cal.frameK [2, 3] (list_c es cl (-1) d hfi _ (fun ns2 hp2 hs2 _ => ?_)) rfl rfl rfl
    have e2 : ns2 = ns := srt_one (hp2.trans hp1.symm) hs2 hs1 (fun x hx => by
      obtain ⟨q, hq, rfl⟩ := List.mem_map.1 (hp1.subset hx)
      exact hv.nm q hq)
    subst e2
    have hnl : (ns2.map PV.str).length = ns2.length := List.length_map ..
    have hnn : ns2.length < 1099511627776 := by have := hp1.length_eq; have := hv.n; simp at *; omega
    refine Br.f (show (((ns2.map PV.str).length : Int) != ((ns2.map PV.str).length : Int)) = false by simp) ?_
    refine LoopX.fam [5, 6, 13, 14, 130, 131] (fun (j : Nat) => ([(5, fsP), (6, .ref 3 0), (13, .p (.sl .shr 1 (ns2.map .str))), (14, .p (.sl .shr 1 (ns2.map .str))), (130, .p (ii (ns2.map PV.str).length)), (131, .p (ii j))], two es cl (t - d) d es cl (-1) d))
      (fun j => j ≤ ns2.length) (fun j => ns2.length - j) 0 (Nat.zero_le _) (Trim.mk' rfl rfl rfl rfl (Nat.le_refl _)) ?_
    intro j hj
    have hj : j ≤ ns2.length := hj
    refine Br.mk (fun hc => ?_) (fun hc => ?_)
    · have hc : j < ns2.length := by have := of_decide_eq_true hc; rw [hnl] at this; omega
      have ej : IntKind.i64.wrap ((j : Int) + 1) = ((j + 1 : Nat) : Int) := by rw [wrap_i64] <;> omega
      obtain ⟨m, hm⟩ : ∃ m, m = ns2[j] := ⟨_, rfl⟩
      have hmj : (ns2.map PV.str)[((j : Nat) : Int).toNat]? = some (.str m) := by rw [Int.toNat_natCast, List.getElem?_map, List.getElem?_eq_getElem hc, hm]; rfl
      refine Idx.mk (.str m) (Int.natCast_nonneg j) hmj ?_
      refine Cal.frameK [0, 1] (read_c es cl (t - d) d ok1 m _ fun _ => ?_) rfl rfl rfl
      refine Idx.mk (.str m) (Int.natCast_nonneg j) hmj ?_
      refine Cal.frameK [2, 3] (read_c es cl (-1) d ok2 m _ fun _ => ?_) rfl rfl rfl
      have g1 : (!(m == m)) = false := by simp
      have g2 : ((!(m == m)) == false) = true := by rw [g1]; rfl
      have g3 : (!(fB es m == fB es m)) = false := by simp
      iterate 2 refine ⟨_, ⟨rfl, rfl⟩, ?_⟩
      refine ⟨_, Idx.mk (.str m) (Int.natCast_nonneg j) hmj ⟨rfl, rfl⟩, ?_⟩
      iterate 3 refine ⟨_, ⟨rfl, rfl⟩, ?_⟩
      refine ⟨_, Idx.mk (.str m) (Int.natCast_nonneg j) hmj ⟨rfl, rfl⟩, ?_⟩
      iterate 3 refine ⟨_, ⟨rfl, rfl⟩, ?_⟩
      refine Br.t g2 ?_
      refine ⟨_, ⟨rfl, rfl⟩, ?_⟩
      refine Br.t g2 ?_
      refine ⟨_, Ob.mk (.inr rfl) ⟨fB es m, rfl, ⟨rfl, rfl⟩⟩, ?_⟩
      refine Br.t g2 ?_
      refine ⟨_, ⟨rfl, rfl⟩, ?_⟩
      refine Br.t g2 ?_
      refine ⟨_, Ob.mk (.inr rfl) ⟨fB es m, rfl, ⟨rfl, rfl⟩⟩, ?_⟩
      refine Br.t g2 ?_
      refine ⟨_, ⟨rfl, rfl⟩, ?_⟩
      refine ⟨_, Br.f g1 ⟨rfl, rfl⟩, ?_⟩
      refine Chk.mk (by kernel_rfl) ?_
      refine Br.f g3 ?_
      refine ⟨j + 1, (show j + 1 ≤ ns2.length by omega), (show ns2.length - (j + 1) < ns2.length - j by omega), Nat.le_refl _, Trim.mk' ?_ rfl rfl rfl (Nat.le_refl _)⟩
      refine Eq.trans (b := [_, _, _, _, _, (131, AV.p (ii (IntKind.i64.wrap ((j : Int) + 1))))]) rfl ?_
      first | (rw [ej]; done) | (rw [ej]; rfl)
    · refine known_p _ _ ?_
      exact h _
end Go.Proofs.Ytneheklmkbhieaa.AW
