/- A part of the proof: LB/W8, LB/W9, LB/W10, LB/W11, LB/W12. -/
import Derived.Test.YtkokaflanlcojaaDoorP12
import Derived.Test.YtkokaflanlcojaaDoorP13
open Go Go.Proofs.YtkokaflanlcojaaDoor.AW Go.Proofs
namespace Go.Proofs.YtkokaflanlcojaaDoor.AW
set_option maxRecDepth 100000
set_option linter.unusedSimpArgs false
set_option linter.unusedVariables false

def evZ (why base : Int) : Ev := ⟨why, base, [], [], 0, 0⟩
def evZP (why base : Int) : PV := .agg [ii why, ii base, .sl .nil 0 [], .sl .nil 0 [], ii 0, ii 0]
theorem evZ_ok {why base : Int} (h1 : I64 why) (h2 : I64 base) : EvOk (evZ why base) := ⟨h1, h2, (show I64 0 from ⟨by decide, by decide⟩), (show I64 0 from ⟨by decide, by decide⟩), by simp [evZ], by simp [evZ], by simp [evZ], by simp [evZ]⟩
theorem evZ_wk (why base : Int) : WkD (evZP why base) (evP (evZ why base)) :=
  .agg _ _ (.cons _ _ _ _ (.refl _) (.cons _ _ _ _ (.refl _) (.cons _ _ _ _ (.nil _ _ _) (.cons _ _ _ _ (.nil _ _ _) (.cons _ _ _ _ (.refl _) (.cons _ _ _ _ (.refl _) .nil))))))
theorem evZ_S (why base : Int) : evS (evZ why base) = headS (evZ why base) := by unfold evS; rw [if_pos ⟨rfl, rfl, rfl, rfl⟩]
/-- An event without a fetch. -/
theorem eventZ_c (why base : Int) (h1 : I64 why) (h2 : I64 base) (s : Store) (K : AV → Store → Prop) (h : K (.p (.str ([101] ++ fmtS why ++ [32] ++ fmtS base))) s) : Cal Tryd.prog 14 [.p (evZP why base)] s K := by
  refine Cal.arg1 (event_c (evZ why base) (evZ_ok h1 h2) s K ?_) (evZ_wk why base)
  rw [evZ_S]; exact h
theorem plain_v {l x : List UInt8} (hx : plS l = x) (hl : l.length < 1099511627776) (s : Store) (K : AV → Store → Prop) (h : K (.p (.str x)) s) : Cal Tryd.prog 17 [.p (.str l)] s K := plain_text l hl s K (by rw [hx]; exact h)
theorem unplain_v {l x : List UInt8} {b : Bool} (hx : unS l = (x, b)) (hl : l.length < 1073741824) (s : Store) (K : AV → Store → Prop) (h : K (.tup [.p (.str x), .p (.bool b)]) s) : Cal Tryd.prog 18 [.p (.str l)] s K := unplain_c l hl s K (by rw [hx]; exact h)

theorem tellRec_v {a b x : List UInt8} (hx : recS a b = x) (ha : a.length < 1099511627776) (hb : b.length < 1099511627776) (s : Store) (K : AV → Store → Prop) (h : K (.p (.str x)) s) : Cal Tryd.prog 21 [.p (rec2 a b)] s K := tellRec_c a b ha hb s K (by rw [hx]; exact h)

def lineZ (q : Int × Int) : List UInt8 := [101] ++ fmtS q.1 ++ [32] ++ fmtS q.2 ++ [10]
theorem evZ_flat : ∀ (l : List (Int × Int)), WkDs (flat (l.map fun q => evZP q.1 q.2)) (flat ((l.map fun q => evZ q.1 q.2).map evP))
  | [] => .nil
  | q :: l => by
    have h1 : WkDs (evZP q.1 q.2).cells (evP (evZ q.1 q.2)).cells := (.cons _ _ _ _ (.refl _) (.cons _ _ _ _ (.refl _) (.cons _ _ _ _ (.nil _ _ _) (.cons _ _ _ _ (.nil _ _ _) (.cons _ _ _ _ (.refl _) (.cons _ _ _ _ (.refl _) .nil))))))
    exact h1.append (evZ_flat l)
theorem linesZ_c (k : SK) (q : Int × Int) (l : List (Int × Int)) (hok : ∀ x ∈ q :: l, I64 x.1 ∧ I64 x.2) (hl : l.length < 1000) (s : Store) (K : AV → Store → Prop) (h : K (.p (.str ((q :: l).flatMap lineZ))) s) :
    Cal Tryd.prog 22 [.p (.sl k 6 ((q :: l).map fun q => evZP q.1 q.2))] s K := by
  refine Cal.arg1 (lines_c (evZ q.1 q.2) (l.map fun (x : Int × Int) => evZ x.1 x.2) (fun e he => ?_) (by simpa using hl) s K ?_) (.sl _ _ _ _ (by simp) (fun y hy => ?_) (evZ_flat (q :: l)))
  · obtain ⟨x, hx, rfl⟩ := List.mem_map.1 (show e ∈ (q :: l).map fun q => evZ q.1 q.2 from he)
    exact evZ_ok (hok x hx).1 (hok x hx).2
  · have e : ∀ l : List (Int × Int), (l.map fun q => evZ q.1 q.2).flatMap lineS = l.flatMap lineZ := by
      intro l
      induction l with
      | nil => rfl
      | cons x r ih =>
        rw [List.map_cons, List.flatMap_cons, List.flatMap_cons, ih]
        congr 1
    have e2 := e (q :: l)
    rw [← e2] at h
    exact h
  · obtain ⟨x, hx, rfl⟩ := List.mem_map.1 hy
    exact ⟨rfl, rfl⟩

theorem known_c (s : Store) (K : AV → Store → Prop) (h : K (.p (.bool true)) s) : Cal Tryd.prog 16 [] s K := by
  refine Cal.pure (args := []) ?_
  refine Cal.intro Tryd.func16 (by decide +kernel) rfl rfl ?_
  refine unplain_v (x := [97, 32, 98]) (b := true) (by decide +kernel) (by decide) _ _ ?_
  refine unplain_v (x := []) (b := false) (by decide +kernel) (by decide) _ _ ?_
  refine plain_v (x := [97, 92, 48, 48, 50, 48, 98]) (by decide +kernel) (by decide) _ _ ?_
  repeat (first | refine Br.t rfl ?_ )
  refine plain_v (x := [92, 102, 102, 102, 100]) (by decide +kernel) (by decide) _ _ ?_
  repeat (first | refine Br.t rfl ?_ )
  refine eventZ_c 0 0 ⟨by decide, by decide⟩ ⟨by decide, by decide⟩ _ _ ?_
  repeat (first | refine Br.t rfl ?_ )
  refine tellRec_v (a := [107]) (b := [49]) (x := [107, 61, 49]) (by decide +kernel) (by decide) (by decide) _ _ ?_
  repeat (first | refine Br.t rfl ?_ )
  refine linesZ_c .clip (17, -1) [] (by intro x hx; simp at hx; subst hx; exact ⟨⟨by decide, by decide⟩, ⟨by decide, by decide⟩⟩) (by decide) _ _ ?_
  repeat (first | refine Br.t rfl ?_ )
  exact h
end Go.Proofs.YtkokaflanlcojaaDoor.AW

open Go Go.Proofs.YtkokaflanlcojaaDoor.AW Go.Proofs
namespace Go.Proofs.YtkokaflanlcojaaDoor.AW
set_option maxRecDepth 100000
set_option linter.unusedSimpArgs false
set_option linter.unusedVariables false
attribute [local irreducible] Utf8.encode

theorem hexI_ok (r : Nat) : ∀ x ∈ hexI r, isPl x.toNat = true := by
  have hk : ∀ k, k < 16 → isPl (hx k).toNat = true := by decide
  intro x hx0
  obtain ⟨b, hb, rfl⟩ := List.mem_map.1 hx0
  rw [Int.toNat_natCast]
  simp only [hexR, List.mem_cons, List.not_mem_nil, or_false] at hb
  rcases hb with rfl | rfl | rfl | rfl <;> exact hk _ (by omega)
theorem pl_ok (y : List UInt8) : ∀ r ∈ rns (plS y), isPl r.toNat = true ∨ r = 92 := by
  rw [plS_eq, rns_plL _ (okL_rns y)]
  intro r hr
  obtain ⟨x, _, hx⟩ := List.mem_flatMap.1 hr
  unfold plI at hx
  split at hx
  · rename_i hp
    simp only [List.mem_cons, List.not_mem_nil, or_false] at hx
    left; rw [hx, Int.toNat_natCast]; exact hp
  · rcases List.mem_cons.1 hx with h | h
    · exact .inr h
    · exact .inl (hexI_ok _ r h)
theorem stays_v {r : Nat} {b : Bool} (hb : isPl r = b) (s : Store) (K : AV → Store → Prop) (h : K (.p (.bool b)) s) : Cal Tryd.prog 19 [.p (.int .i32 r)] s K := stays_c r s K (by rw [hb]; exact h)

theorem back_c (l : List UInt8) (s : Store) (K : AV → Store → Prop) (h : K (.p (.bool true)) s) : Cal Tryd.prog 4 [.p (.str l)] s K := by
  refine Cal.pure (args := [.str l]) ?_
  refine Cal.intro Tryd.func4 (by decide +kernel) rfl rfl ?_
  refine Br.mk (fun hc => ?_) (fun hc => ?_)
  · have hc : 100 < l.length := by simp at hc; omega
    refine Ob.mk (show (0 : Int) ≤ 0 ∧ (0 : Int) ≤ 100 ∧ (100 : Int) ≤ (l.length : Int) from ⟨by omega, by omega, by omega⟩) ?_
    have hy : ((l.take (100 : Int).toNat).drop (0 : Int).toNat).length ≤ 100 := by simp; omega
    refine plain_text ((l.take (100 : Int).toNat).drop (0 : Int).toNat) (by omega) _ _ ?_
    have hpl := plS_len _ ((l.take (100 : Int).toNat).drop (0 : Int).toNat) rfl
    refine unplain_v (unS_plain ((l.take (100 : Int).toNat).drop (0 : Int).toNat)) (by omega) _ _ ?_
    have hcl := encs_len (rns ((l.take (100 : Int).toNat).drop (0 : Int).toNat))
    have hrl := rns_len _ ((l.take (100 : Int).toNat).drop (0 : Int).toNat) rfl
    have hrp := rns_len _ (plS ((l.take (100 : Int).toNat).drop (0 : Int).toNat)) rfl
    refine LoopX.fam [0, 3, 4, 5, 6, 7, 25] (fun (q : List UInt8 × Nat × List UInt8 × Nat) => ([(0, .p (.str ((l.take (100 : Int).toNat).drop (0 : Int).toNat))), (3, .p (.str (plS ((l.take (100 : Int).toNat).drop (0 : Int).toNat)))), (4, .p (.str (clean ((l.take (100 : Int).toNat).drop (0 : Int).toNat)))), (5, .p (.bool true)), (6, .p (.str q.1)), (7, .p (ii q.2.1)), (25, .it 0)], [some (.iterS q.2.2.1 q.2.2.2)]))
      (fun q => q.1 ++ encs (rns q.2.2.1) = clean ((l.take (100 : Int).toNat).drop (0 : Int).toNat) ∧ q.2.1 + ((rns q.2.2.1).flatMap fun r => plI r.toNat).length = (rns (plS ((l.take (100 : Int).toNat).drop (0 : Int).toNat))).length) (fun q => q.2.2.1.length) ([], 0, ((l.take (100 : Int).toNat).drop (0 : Int).toNat), 0)
      ⟨rfl, by dsimp only; rw [Nat.zero_add, plS_eq, rns_plL _ (okL_rns ((l.take (100 : Int).toNat).drop (0 : Int).toNat))]⟩ (Trim.mk' rfl rfl rfl rfl (Nat.le_refl _)) ?_
    rintro ⟨out, n, rest, pos⟩ ⟨h1, h2⟩
    change out ++ encs (rns rest) = clean ((l.take (100 : Int).toNat).drop (0 : Int).toNat) at h1
    change n + ((rns rest).flatMap fun r => plI r.toNat).length = (rns (plS ((l.take (100 : Int).toNat).drop (0 : Int).toNat))).length at h2
    refine BrL.mk (fun (he : rest = []) => ?_) (fun (hne : rest ≠ []) => ?_)
    · refine Br.f rfl ?_
      rw [he, rns_nil] at h1 h2
      have h1 : out = clean ((l.take (100 : Int).toNat).drop (0 : Int).toNat) := by rw [← h1]; exact (List.append_nil _).symm
      have h2 : n = (rns (plS ((l.take (100 : Int).toNat).drop (0 : Int).toNat))).length := by rw [← h2]; simp
      subst h1; subst h2
      refine LoopX.fam [3, 4, 5, 6, 7, 41] (fun (q : List UInt8 × Nat) => ([(3, .p (.str (plS ((l.take (100 : Int).toNat).drop (0 : Int).toNat)))), (4, .p (.str (clean ((l.take (100 : Int).toNat).drop (0 : Int).toNat)))), (5, .p (.bool true)), (6, .p (.str (clean ((l.take (100 : Int).toNat).drop (0 : Int).toNat)))), (7, .p (ii (rns (plS ((l.take (100 : Int).toNat).drop (0 : Int).toNat))).length)), (41, .it 1)], [some (.iterS [] pos), some (.iterS q.1 q.2)]))
        (fun q => ∀ r ∈ rns q.1, isPl r.toNat = true ∨ r = 92) (fun q => q.1.length) (plS ((l.take (100 : Int).toNat).drop (0 : Int).toNat), 0) (pl_ok ((l.take (100 : Int).toNat).drop (0 : Int).toNat)) (Trim.mk' rfl (by rw [he]; rfl) rfl rfl (Nat.le_refl _)) ?_
      rintro ⟨rs, p2⟩ hok
      change ∀ r ∈ rns rs, isPl r.toNat = true ∨ r = 92 at hok
      refine BrL.mk (fun (he : rs = []) => ?_) (fun (hne : rs ≠ []) => ?_)
      · refine Br.f rfl ?_
        have c1 : (clean ((l.take (100 : Int).toNat).drop (0 : Int).toNat) == clean ((l.take (100 : Int).toNat).drop (0 : Int).toNat)) = true := by simp
        have c2 : (((rns (plS ((l.take (100 : Int).toNat).drop (0 : Int).toNat))).length : Int) == ((rns (plS ((l.take (100 : Int).toNat).drop (0 : Int).toNat))).length : Int)) = true := by simp
        have c3 : (plS ((l.take (100 : Int).toNat).drop (0 : Int).toNat) == plS ((l.take (100 : Int).toNat).drop (0 : Int).toNat)) = true := by simp
        repeat (first | refine Br.t c1 ?_ | refine Br.t (congrArg (· == true) c1) ?_ | refine Br.t rfl ?_)
        refine count_c (plS ((l.take (100 : Int).toNat).drop (0 : Int).toNat)) (by omega) _ _ ?_
        repeat (first | refine Br.t c1 ?_ | refine Br.t (congrArg (· == true) c1) ?_ | refine Br.t c2 ?_ | refine Br.t (congrArg (· == true) c2) ?_)
        refine plain_v (plS_clean ((l.take (100 : Int).toNat).drop (0 : Int).toNat)) (by unfold clean; omega) _ _ ?_
        repeat (first | refine Br.t c2 ?_ | refine Br.t (congrArg (· == true) c2) ?_ | refine Br.t c3 ?_ | refine Br.t (congrArg (· == true) c3) ?_)
        refine known_c _ _ ?_
        repeat (first | refine Br.t c3 ?_ | refine Br.t (congrArg (· == true) c3) ?_ | refine Br.t rfl ?_)
        exact h
      · refine Br.t rfl ?_
        have hd : (rs.drop (decode rs).2).length < rs.length := by
          have h3 := decode_pos rs
          have h4 : 0 < rs.length := List.length_pos_iff.2 hne
          simp; omega
        rw [rns_step hne] at hok
        have h92 := hok _ (List.mem_cons_self ..)
        rw [Int.toNat_natCast] at h92
        have hnx : ∀ r ∈ rns (rs.drop (decode rs).2), isPl r.toNat = true ∨ r = 92 := fun r hr => hok r (List.mem_cons_of_mem _ hr)
        by_cases hp : isPl (decode rs).1 = true
        · refine stays_v hp _ _ ?_
          repeat (first | refine Br.t rfl ?_ | refine Br.f rfl ?_)
          exact ⟨(rs.drop (decode rs).2, p2 + (decode rs).2), hnx, hd, Nat.le_refl _, Trim.mk' rfl rfl rfl rfl (Nat.le_refl _)⟩
        · have hp2 : isPl (decode rs).1 = false := by simpa using hp
          have h93 : (((decode rs).1 : Nat) : Int) = 92 := h92.resolve_left hp
          have c4 : bne (((decode (rs, p2).1).1 : Nat) : Int) 92 = false := by show bne (((decode rs).1 : Nat) : Int) 92 = false; rw [h93]; rfl
          refine stays_v hp2 _ _ ?_
          repeat (first | refine Br.t rfl ?_ | refine Br.f c4 ?_ | refine Br.f (congrArg (· == true) c4) ?_)
          exact ⟨(rs.drop (decode rs).2, p2 + (decode rs).2), hnx, hd, Nat.le_refl _, Trim.mk' rfl rfl rfl rfl (Nat.le_refl _)⟩
    · refine Br.t rfl ?_
      have hd : (rest.drop (decode rest).2).length < rest.length := by
        have h3 := decode_pos rest
        have h4 : 0 < rest.length := List.length_pos_iff.2 hne
        simp; omega
      have hok := decode_okR rest
      rw [rns_step hne] at h1 h2
      rw [encs_cons] at h1
      rw [List.flatMap_cons, List.length_append, Int.toNat_natCast] at h2
      have hol : out.length + (enc (decode rest).1).length ≤ 400 := by
        have := congrArg List.length h1
        simp only [List.length_append] at this
        unfold clean at this; omega
      refine Ob.mk (show out.length + (enc (decode rest).1).length < _ by omega) ?_
      by_cases hp : isPl (decode rest).1 = true
      · refine stays_v hp _ _ ?_
        refine Br.f rfl ?_
        have e1 : plI (decode rest).1 = [((decode rest).1 : Int)] := by unfold plI; rw [hp, if_pos rfl]
        rw [e1] at h2
        simp only [List.length_cons, List.length_nil] at h2
        have ew : IntKind.i64.wrap ((n : Int) + 1) = ((n + 1 : Nat) : Int) := by rw [wrap_i64] <;> omega
        refine ⟨(out ++ enc (decode rest).1, n + 1, rest.drop (decode rest).2, pos + (decode rest).2), ⟨by rw [← h1]; exact List.append_assoc _ _ _, by dsimp only; omega⟩, hd, Nat.le_refl _, Trim.mk' ?_ rfl rfl rfl (Nat.le_refl _)⟩
        refine Eq.trans (b := [_, _, _, _, _, (7, AV.p (ii (IntKind.i64.wrap ((n : Int) + 1)))), _]) rfl ?_
        rw [ew]; rfl
      · have hp2 : isPl (decode rest).1 = false := by simpa using hp
        refine stays_v hp2 _ _ ?_
        refine Br.t rfl ?_
        have e1 : plI (decode rest).1 = 92 :: hexI (decode rest).1 := by unfold plI; rw [if_neg hp]
        rw [e1] at h2
        have e5 : (hexI (decode rest).1).length = 4 := rfl
        simp only [List.length_cons, e5] at h2
        have ew : IntKind.i64.wrap (IntKind.i64.wrap ((n : Int) + 1) + 4) = ((n + 5 : Nat) : Int) := by rw [wrap_i64 (n := (n : Int) + 1), wrap_i64] <;> omega
        refine ⟨(out ++ enc (decode rest).1, n + 5, rest.drop (decode rest).2, pos + (decode rest).2), ⟨by rw [← h1]; exact List.append_assoc _ _ _, by dsimp only; omega⟩, hd, Nat.le_refl _, Trim.mk' ?_ rfl rfl rfl (Nat.le_refl _)⟩
        refine Eq.trans (b := [_, _, _, _, _, (7, AV.p (ii (IntKind.i64.wrap (IntKind.i64.wrap ((n : Int) + 1) + 4)))), _]) rfl ?_
        rw [ew]; rfl
  · have hy : l.length ≤ 100 := by simp at hc; omega
    refine plain_text l (by omega) _ _ ?_
    have hpl := plS_len _ l rfl
    refine unplain_v (unS_plain l) (by omega) _ _ ?_
    have hcl := encs_len (rns l)
    have hrl := rns_len _ l rfl
    have hrp := rns_len _ (plS l) rfl
    refine LoopX.fam [0, 3, 4, 5, 6, 7, 25] (fun (q : List UInt8 × Nat × List UInt8 × Nat) => ([(0, .p (.str l)), (3, .p (.str (plS l))), (4, .p (.str (clean l))), (5, .p (.bool true)), (6, .p (.str q.1)), (7, .p (ii q.2.1)), (25, .it 0)], [some (.iterS q.2.2.1 q.2.2.2)]))
      (fun q => q.1 ++ encs (rns q.2.2.1) = clean l ∧ q.2.1 + ((rns q.2.2.1).flatMap fun r => plI r.toNat).length = (rns (plS l)).length) (fun q => q.2.2.1.length) ([], 0, l, 0)
      ⟨rfl, by dsimp only; rw [Nat.zero_add, plS_eq, rns_plL _ (okL_rns l)]⟩ (Trim.mk' rfl rfl rfl rfl (Nat.le_refl _)) ?_
    rintro ⟨out, n, rest, pos⟩ ⟨h1, h2⟩
    change out ++ encs (rns rest) = clean l at h1
    change n + ((rns rest).flatMap fun r => plI r.toNat).length = (rns (plS l)).length at h2
    refine BrL.mk (fun (he : rest = []) => ?_) (fun (hne : rest ≠ []) => ?_)
    · refine Br.f rfl ?_
      rw [he, rns_nil] at h1 h2
      have h1 : out = clean l := by rw [← h1]; exact (List.append_nil _).symm
      have h2 : n = (rns (plS l)).length := by rw [← h2]; simp
      subst h1; subst h2
      refine LoopX.fam [3, 4, 5, 6, 7, 41] (fun (q : List UInt8 × Nat) => ([(3, .p (.str (plS l))), (4, .p (.str (clean l))), (5, .p (.bool true)), (6, .p (.str (clean l))), (7, .p (ii (rns (plS l)).length)), (41, .it 1)], [some (.iterS [] pos), some (.iterS q.1 q.2)]))
        (fun q => ∀ r ∈ rns q.1, isPl r.toNat = true ∨ r = 92) (fun q => q.1.length) (plS l, 0) (pl_ok l) (Trim.mk' rfl (by rw [he]; rfl) rfl rfl (Nat.le_refl _)) ?_
      rintro ⟨rs, p2⟩ hok
      change ∀ r ∈ rns rs, isPl r.toNat = true ∨ r = 92 at hok
      refine BrL.mk (fun (he : rs = []) => ?_) (fun (hne : rs ≠ []) => ?_)
      · refine Br.f rfl ?_
        have c1 : (clean l == clean l) = true := by simp
        have c2 : (((rns (plS l)).length : Int) == ((rns (plS l)).length : Int)) = true := by simp
        have c3 : (plS l == plS l) = true := by simp
        repeat (first | refine Br.t c1 ?_ | refine Br.t (congrArg (· == true) c1) ?_ | refine Br.t rfl ?_)
        refine count_c (plS l) (by omega) _ _ ?_
        repeat (first | refine Br.t c1 ?_ | refine Br.t (congrArg (· == true) c1) ?_ | refine Br.t c2 ?_ | refine Br.t (congrArg (· == true) c2) ?_)
        refine plain_v (plS_clean l) (by unfold clean; omega) _ _ ?_
        repeat (first | refine Br.t c2 ?_ | refine Br.t (congrArg (· == true) c2) ?_ | refine Br.t c3 ?_ | refine Br.t (congrArg (· == true) c3) ?_)
        refine known_c _ _ ?_
        repeat (first | refine Br.t c3 ?_ | refine Br.t (congrArg (· == true) c3) ?_ | refine Br.t rfl ?_)
        exact h
      · refine Br.t rfl ?_
        have hd : (rs.drop (decode rs).2).length < rs.length := by
          have h3 := decode_pos rs
          have h4 : 0 < rs.length := List.length_pos_iff.2 hne
          simp; omega
        rw [rns_step hne] at hok
        have h92 := hok _ (List.mem_cons_self ..)
        rw [Int.toNat_natCast] at h92
        have hnx : ∀ r ∈ rns (rs.drop (decode rs).2), isPl r.toNat = true ∨ r = 92 := fun r hr => hok r (List.mem_cons_of_mem _ hr)
        by_cases hp : isPl (decode rs).1 = true
        · refine stays_v hp _ _ ?_
          repeat (first | refine Br.t rfl ?_ | refine Br.f rfl ?_)
          exact ⟨(rs.drop (decode rs).2, p2 + (decode rs).2), hnx, hd, Nat.le_refl _, Trim.mk' rfl rfl rfl rfl (Nat.le_refl _)⟩
        · have hp2 : isPl (decode rs).1 = false := by simpa using hp
          have h93 : (((decode rs).1 : Nat) : Int) = 92 := h92.resolve_left hp
          have c4 : bne (((decode (rs, p2).1).1 : Nat) : Int) 92 = false := by show bne (((decode rs).1 : Nat) : Int) 92 = false; rw [h93]; rfl
          refine stays_v hp2 _ _ ?_
          repeat (first | refine Br.t rfl ?_ | refine Br.f c4 ?_ | refine Br.f (congrArg (· == true) c4) ?_)
          exact ⟨(rs.drop (decode rs).2, p2 + (decode rs).2), hnx, hd, Nat.le_refl _, Trim.mk' rfl rfl rfl rfl (Nat.le_refl _)⟩
    · refine Br.t rfl ?_
      have hd : (rest.drop (decode rest).2).length < rest.length := by
        have h3 := decode_pos rest
        have h4 : 0 < rest.length := List.length_pos_iff.2 hne
        simp; omega
      have hok := decode_okR rest
      rw [rns_step hne] at h1 h2
      rw [encs_cons] at h1
      rw [List.flatMap_cons, List.length_append, Int.toNat_natCast] at h2
      have hol : out.length + (enc (decode rest).1).length ≤ 400 := by
        have := congrArg List.length h1
        simp only [List.length_append] at this
        unfold clean at this; omega
      refine Ob.mk (show out.length + (enc (decode rest).1).length < _ by omega) ?_
      by_cases hp : isPl (decode rest).1 = true
      · refine stays_v hp _ _ ?_
        refine Br.f rfl ?_
        have e1 : plI (decode rest).1 = [((decode rest).1 : Int)] := by unfold plI; rw [hp, if_pos rfl]
        rw [e1] at h2
        simp only [List.length_cons, List.length_nil] at h2
        have ew : IntKind.i64.wrap ((n : Int) + 1) = ((n + 1 : Nat) : Int) := by rw [wrap_i64] <;> omega
        refine ⟨(out ++ enc (decode rest).1, n + 1, rest.drop (decode rest).2, pos + (decode rest).2), ⟨by rw [← h1]; exact List.append_assoc _ _ _, by dsimp only; omega⟩, hd, Nat.le_refl _, Trim.mk' ?_ rfl rfl rfl (Nat.le_refl _)⟩
        refine Eq.trans (b := [_, _, _, _, _, (7, AV.p (ii (IntKind.i64.wrap ((n : Int) + 1)))), _]) rfl ?_
        rw [ew]; rfl
      · have hp2 : isPl (decode rest).1 = false := by simpa using hp
        refine stays_v hp2 _ _ ?_
        refine Br.t rfl ?_
        have e1 : plI (decode rest).1 = 92 :: hexI (decode rest).1 := by unfold plI; rw [if_neg hp]
        rw [e1] at h2
        have e5 : (hexI (decode rest).1).length = 4 := rfl
        simp only [List.length_cons, e5] at h2
        have ew : IntKind.i64.wrap (IntKind.i64.wrap ((n : Int) + 1) + 4) = ((n + 5 : Nat) : Int) := by rw [wrap_i64 (n := (n : Int) + 1), wrap_i64] <;> omega
        refine ⟨(out ++ enc (decode rest).1, n + 5, rest.drop (decode rest).2, pos + (decode rest).2), ⟨by rw [← h1]; exact List.append_assoc _ _ _, by dsimp only; omega⟩, hd, Nat.le_refl _, Trim.mk' ?_ rfl rfl rfl (Nat.le_refl _)⟩
        refine Eq.trans (b := [_, _, _, _, _, (7, AV.p (ii (IntKind.i64.wrap (IntKind.i64.wrap ((n : Int) + 1) + 4)))), _]) rfl ?_
        rw [ew]; rfl
end Go.Proofs.YtkokaflanlcojaaDoor.AW

open Go Go.Proofs.YtkokaflanlcojaaDoor.AW Go.Proofs
namespace Go.Proofs.YtkokaflanlcojaaDoor.AW
set_option maxRecDepth 100000
set_option linter.unusedSimpArgs false
set_option linter.unusedVariables false

def plA (x : List UInt8) : List Int := (rns x).flatMap fun r => plI r.toNat
theorem rns_plL' : ∀ (l : List Int), okL l → ∀ t, rns (plL l ++ t) = (l.flatMap fun r => plI r.toNat) ++ rns t
  | [], _, _ => rfl
  | x :: l, h, t => by
    obtain ⟨r, rfl, hr⟩ := h x (by simp)
    show rns ((plR (r : Int).toNat ++ plL l) ++ t) = (plI (r : Int).toNat ++ _) ++ _
    rw [Int.toNat_natCast, List.append_assoc, rns_plR r hr, rns_plL' l (fun y hy => h y (by simp [hy])) t, List.append_assoc]; rfl
theorem rns_rec (a b : List UInt8) : rns (recS a b) = plA a ++ 61 :: plA b := by
  unfold recS plA
  rw [List.append_assoc, plS_eq, rns_plL' _ (okL_rns a), List.singleton_append, rns_ascii (by decide), plS_eq, rns_plL _ (okL_rns b)]
  rfl
theorem plA_ne (a : List UInt8) : ∀ r ∈ plA a, r ≠ 61 := by
  intro r hr
  have := pl_ok a
  rw [plS_eq, rns_plL _ (okL_rns a)] at this
  rcases this r hr with h | h
  · rintro rfl; exact absurd h (by decide)
  · rw [h]; decide
theorem cut_at {x : Int} : ∀ {A C B D : List Int}, (∀ r ∈ A, r ≠ x) → (∀ r ∈ C, r ≠ x) → A ++ x :: B = C ++ x :: D → A = C ∧ B = D
  | [], [], _, _, _, _, h => ⟨rfl, (List.cons.inj h).2⟩
  | [], c :: C, _, _, _, h2, h => absurd (List.cons.inj h).1.symm (h2 c (by simp))
  | a :: A, [], _, _, h1, _, h => absurd (List.cons.inj h).1 (h1 a (by simp))
  | a :: A, c :: C, _, _, h1, h2, h => by
    obtain ⟨h3, h4⟩ := List.cons.inj h
    obtain ⟨h5, h6⟩ := cut_at (fun r hr => h1 r (by simp [hr])) (fun r hr => h2 r (by simp [hr])) h4
    exact ⟨by rw [h3, h5], h6⟩
theorem plA_inj {a c : List UInt8} (h : plA a = plA c) : plS a = plS c := by
  have h1 := dUL_plI _ (okL_rns a)
  have h2 := dUL_plI _ (okL_rns c)
  unfold plA at h
  rw [h, h2] at h1
  unfold plS; rw [h1]
theorem rec_apart (a b c d : List UInt8) : recS a b = recS c d ↔ plS a = plS c ∧ plS b = plS d := by
  constructor
  · intro h
    have := congrArg rns h
    rw [rns_rec, rns_rec] at this
    obtain ⟨h1, h2⟩ := cut_at (plA_ne a) (plA_ne c) this
    exact ⟨plA_inj h1, plA_inj h2⟩
  · rintro ⟨h1, h2⟩
    unfold recS; rw [h1, h2]

def valT (l : List UInt8) : Nat := l.foldl (fun v b => v * 10 + (b.toNat - 48)) 0
theorem valT_snoc (l : List UInt8) (b : UInt8) : valT (l ++ [b]) = valT l * 10 + (b.toNat - 48) := by unfold valT; rw [List.foldl_append]; rfl
theorem d1_val {n : Nat} (h : n < 10) : (d1 n).toNat - 48 = n := by unfold d1; simp; omega
theorem dec_val : ∀ (f u : Nat), u < 10 ^ (f + 1) → valT (dec f u) = u
  | 0, u, h => by
    have h : u < 10 := by simpa using h
    show valT ([] ++ [d1 (u % 10)]) = u
    rw [valT_snoc, d1_val (by omega)]; show 0 * 10 + _ = u; omega
  | f + 1, u, h => by
    unfold dec
    split
    · rename_i hu
      show valT ([] ++ [d1 u]) = u
      rw [valT_snoc, d1_val hu]; show 0 * 10 + _ = u; omega
    · rw [valT_snoc, dec_val f (u / 10) (by rw [Nat.pow_succ] at h; omega), d1_val (by omega)]; omega
theorem dec_head : ∀ (f u : Nat), ∃ b t, dec f u = b :: t ∧ b ≠ 45
  | 0, u => ⟨_, _, rfl, by have : ∀ n, n < 10 → d1 n ≠ 45 := by decide
                           exact this _ (by omega)⟩
  | f + 1, u => by
    have hd : ∀ n, n < 10 → d1 n ≠ 45 := by decide
    unfold dec
    split
    · rename_i hu
      exact ⟨_, _, rfl, hd _ hu⟩
    · obtain ⟨b, t, h1, h2⟩ := dec_head f (u / 10)
      exact ⟨b, t ++ [d1 (u % 10)], by rw [h1]; rfl, h2⟩
theorem fmtS_inj {n m : Int} (hn : I64 n) (hm : I64 m) (h : fmtS n = fmtS m) : n = m := by
  have big : ∀ k : Int, I64 k → k.natAbs < 10 ^ 21 := fun k hk => by unfold I64 at hk; omega
  have hv : ∀ k : Int, I64 k → valT (decS k.natAbs) = k.natAbs := fun k hk => dec_val 20 _ (big k hk)
  unfold fmtS at h
  obtain ⟨b, t, h1, h2⟩ := dec_head 20 n.natAbs
  obtain ⟨c, r, h3, h4⟩ := dec_head 20 m.natAbs
  have vn := hv n hn
  have vm := hv m hm
  split at h <;> split at h
  · have := congrArg valT (List.cons.inj h).2
    rw [vn, vm] at this; omega
  · unfold decS at h; rw [h3] at h
    exact absurd (List.cons.inj h).1.symm h4
  · unfold decS at h; rw [h1] at h
    exact absurd (List.cons.inj h).1 h2
  · have := congrArg valT h
    rw [vn, vm] at this; omega
def evT (n : Int) : List UInt8 := [101] ++ fmtS 0 ++ [32] ++ fmtS n
theorem evT_eq {n m : Int} (hn : I64 n) (hm : I64 m) : evT n = evT m ↔ n = m := by
  constructor
  · intro h
    unfold evT at h
    exact fmtS_inj hn hm (List.append_cancel_left h)
  · rintro rfl; rfl
end Go.Proofs.YtkokaflanlcojaaDoor.AW

open Go Go.Proofs.YtkokaflanlcojaaDoor.AW Go.Proofs
namespace Go.Proofs.YtkokaflanlcojaaDoor.AW
set_option maxRecDepth 100000
set_option linter.unusedSimpArgs false
set_option linter.unusedVariables false

theorem evT_c (n : Int) (h2 : I64 n) (s : Store) (K : AV → Store → Prop) (h : K (.p (.str (evT n))) s) : Cal Tryd.prog 14 [.p (evZP 0 n)] s K := eventZ_c 0 n ⟨by decide, by decide⟩ h2 s K h
theorem apart_c (a b c d : List UInt8) (n m : Int) (ha : a.length < 17179869184) (hb : b.length < 17179869184) (hc : c.length < 17179869184) (hd : d.length < 17179869184) (hn : I64 n) (hm : I64 m)
    (s : Store) (K : AV → Store → Prop) (h : K (.p (.bool true)) s) : Cal Tryd.prog 5 [.p (rec2 a b), .p (rec2 c d), .p (ii n), .p (ii m)] s K := by
  refine Cal.pure (args := [rec2 a b, rec2 c d, ii n, ii m]) ?_
  refine Cal.intro Tryd.func5 (by decide +kernel) rfl rfl ?_
  iterate 2 refine Ob.mk (okst rfl rfl rfl) ?_
  have hr := rec_apart a b c d
  have hzs : ∀ x ∈ [((0 : Int), n), (0, m)], I64 x.1 ∧ I64 x.2 := by
    intro x hx
    simp only [List.mem_cons, List.not_mem_nil, or_false] at hx
    rcases hx with rfl | rfl
    · exact ⟨(show I64 0 from ⟨by decide, by decide⟩), hn⟩
    · exact ⟨(show I64 0 from ⟨by decide, by decide⟩), hm⟩
  have ln : (evT n).length ≤ 60 := headS_len (evZ 0 n)
  have lm : (evT m).length ≤ 60 := headS_len (evZ 0 m)
  have c5 : ([((0 : Int), n), (0, m)].flatMap lineZ == evT n ++ [10] ++ evT m ++ [10]) = true := by
    rw [beq_iff_eq]
    show lineZ (0, n) ++ (lineZ (0, m) ++ []) = _
    rw [List.append_nil, List.append_assoc (evT n ++ [10])]; rfl
  have ce : ((evT n == evT m) == (n == m)) = true := by
    have := evT_eq hn hm
    by_cases h1 : n = m
    · rw [h1]; simp
    · have h2 : ¬ evT n = evT m := fun q => h1 (this.1 q)
      rw [beq_eq_false_iff_ne.2 h2, beq_eq_false_iff_ne.2 h1]; rfl
  by_cases hk : plS a = plS c
  · have c1 : (plS a == plS c) = true := by simpa using hk
    have c3 : ((recS a b == recS c d) == (plS b == plS d)) = true := by
      by_cases h1 : plS b = plS d
      · have h2 := hr.2 ⟨hk, h1⟩
        rw [h1, h2]; simp
      · have h2 : ¬ recS a b = recS c d := fun q => h1 (hr.1 q).2
        rw [beq_eq_false_iff_ne.2 h2, beq_eq_false_iff_ne.2 h1]; rfl
    repeat (first
      | refine ⟨_, ⟨rfl, rfl⟩, ?_⟩
      | refine ⟨_, fun s' => lawPlain_c a (by omega) s' _ ⟨rfl, rfl⟩, rfl, ?_⟩
      | refine ⟨_, fun s' => lawPlain_c b (by omega) s' _ ⟨rfl, rfl⟩, rfl, ?_⟩
      | refine ⟨_, fun s' => lawPlain_c c (by omega) s' _ ⟨rfl, rfl⟩, rfl, ?_⟩
      | refine ⟨_, fun s' => lawPlain_c d (by omega) s' _ ⟨rfl, rfl⟩, rfl, ?_⟩
      | refine ⟨_, Br.t c1 ⟨rfl, rfl⟩, ?_⟩
      | refine Br.t c1 ?_
      | refine Br.t (congrArg (· == true) c1) ?_)
    refine Chk.mk (by kernel_rfl) ?_
    repeat (first
      | refine ⟨_, ⟨rfl, rfl⟩, ?_⟩
      | refine ⟨_, fun s' => tellRec_c a b (by omega) (by omega) s' _ ⟨rfl, rfl⟩, rfl, ?_⟩
      | refine ⟨_, fun s' => tellRec_c c d (by omega) (by omega) s' _ ⟨rfl, rfl⟩, rfl, ?_⟩
      | refine Br.t c3 ?_
      | refine Br.t (congrArg (· == true) c3) ?_)
    repeat (first
      | refine ⟨_, ⟨rfl, rfl⟩, ?_⟩
      | refine ⟨_, fun s' => evT_c n hn s' _ ⟨rfl, rfl⟩, rfl, ?_⟩
      | refine ⟨_, fun s' => evT_c m hm s' _ ⟨rfl, rfl⟩, rfl, ?_⟩
      | refine ⟨_, Br.t c3 ⟨rfl, rfl⟩, ?_⟩
      | refine Br.t c3 ?_
      | refine Br.t (congrArg (· == true) c3) ?_)
    repeat (first
      | refine ⟨_, ⟨rfl, rfl⟩, ?_⟩
      | refine Br.t ce ?_
      | refine Br.t (congrArg (· == true) ce) ?_)
    refine ⟨_, _, ⟨rfl, rfl⟩, rfl, ?_⟩
    repeat (first
      | refine ⟨_, ⟨rfl, rfl⟩, ?_⟩
      | refine ⟨_, fun s' => linesZ_c .clip (0, n) [(0, m)] hzs (by simp) s' _ ⟨rfl, rfl⟩, rfl, ?_⟩
      | refine ⟨_, fun s' => evT_c n hn s' _ ⟨rfl, rfl⟩, rfl, ?_⟩
      | refine ⟨_, fun s' => evT_c m hm s' _ ⟨rfl, rfl⟩, rfl, ?_⟩
      | refine ⟨_, Ob.mk (by simp only [List.length_append, List.length_cons, List.length_nil]; omega) ⟨rfl, rfl⟩, ?_⟩
      | refine ⟨_, fun s' => known_c s' _ ⟨rfl, rfl⟩, rfl, ?_⟩
      | refine ⟨_, Br.t ce ⟨rfl, rfl⟩, ?_⟩
      | refine Br.t ce ?_
      | refine Br.t (congrArg (· == true) ce) ?_
      | refine ⟨_, Br.t c5 ⟨rfl, rfl⟩, ?_⟩
      | refine Br.t c5 ?_
      | refine Br.t (congrArg (· == true) c5) ?_)
    refine Chk.mk (by kernel_rfl) ?_
    exact h
  · have c1 : (plS a == plS c) = false := beq_eq_false_iff_ne.2 hk
    have c3 : ((recS a b == recS c d) == false) = true := by
      have h2 : ¬ recS a b = recS c d := fun q => hk (hr.1 q).1
      rw [beq_eq_false_iff_ne.2 h2]; rfl
    repeat (first
      | refine ⟨_, ⟨rfl, rfl⟩, ?_⟩
      | refine ⟨_, fun s' => lawPlain_c a (by omega) s' _ ⟨rfl, rfl⟩, rfl, ?_⟩
      | refine ⟨_, fun s' => lawPlain_c c (by omega) s' _ ⟨rfl, rfl⟩, rfl, ?_⟩
      | refine ⟨_, Br.f c1 ⟨rfl, rfl⟩, ?_⟩
      | refine Br.f c1 ?_
      | refine Br.f (congrArg (· == true) c1) ?_)
    refine Chk.mk (by kernel_rfl) ?_
    repeat (first
      | refine ⟨_, ⟨rfl, rfl⟩, ?_⟩
      | refine ⟨_, fun s' => tellRec_c a b (by omega) (by omega) s' _ ⟨rfl, rfl⟩, rfl, ?_⟩
      | refine ⟨_, fun s' => tellRec_c c d (by omega) (by omega) s' _ ⟨rfl, rfl⟩, rfl, ?_⟩
      | refine Br.t c3 ?_
      | refine Br.t (congrArg (· == true) c3) ?_)
    repeat (first
      | refine ⟨_, ⟨rfl, rfl⟩, ?_⟩
      | refine ⟨_, fun s' => evT_c n hn s' _ ⟨rfl, rfl⟩, rfl, ?_⟩
      | refine ⟨_, fun s' => evT_c m hm s' _ ⟨rfl, rfl⟩, rfl, ?_⟩
      | refine ⟨_, Br.t c3 ⟨rfl, rfl⟩, ?_⟩
      | refine Br.t c3 ?_
      | refine Br.t (congrArg (· == true) c3) ?_)
    repeat (first
      | refine ⟨_, ⟨rfl, rfl⟩, ?_⟩
      | refine Br.t ce ?_
      | refine Br.t (congrArg (· == true) ce) ?_)
    refine ⟨_, _, ⟨rfl, rfl⟩, rfl, ?_⟩
    repeat (first
      | refine ⟨_, ⟨rfl, rfl⟩, ?_⟩
      | refine ⟨_, fun s' => linesZ_c .clip (0, n) [(0, m)] hzs (by simp) s' _ ⟨rfl, rfl⟩, rfl, ?_⟩
      | refine ⟨_, fun s' => evT_c n hn s' _ ⟨rfl, rfl⟩, rfl, ?_⟩
      | refine ⟨_, fun s' => evT_c m hm s' _ ⟨rfl, rfl⟩, rfl, ?_⟩
      | refine ⟨_, Ob.mk (by simp only [List.length_append, List.length_cons, List.length_nil]; omega) ⟨rfl, rfl⟩, ?_⟩
      | refine ⟨_, fun s' => known_c s' _ ⟨rfl, rfl⟩, rfl, ?_⟩
      | refine ⟨_, Br.t ce ⟨rfl, rfl⟩, ?_⟩
      | refine Br.t ce ?_
      | refine Br.t (congrArg (· == true) ce) ?_
      | refine ⟨_, Br.t c5 ⟨rfl, rfl⟩, ?_⟩
      | refine Br.t c5 ?_
      | refine Br.t (congrArg (· == true) c5) ?_)
    refine Chk.mk (by kernel_rfl) ?_
    exact h
end Go.Proofs.YtkokaflanlcojaaDoor.AW

open Go Go.Proofs.YtkokaflanlcojaaDoor.AW Go.Proofs
namespace Go.Proofs.YtkokaflanlcojaaDoor.AW
set_option maxRecDepth 100000
set_option linter.unusedSimpArgs false
set_option linter.unusedVariables false
attribute [local irreducible] Utf8.encode

theorem same_v {l : List UInt8} (hl : l.length < 1073741824) (s : Store) (K : AV → Store → Prop) (h : K (.p (.bool true)) s) : Cal Tryd.prog 11 [.p (.str l)] s K := same_c l hl s K h
theorem encN_len (r : Int) : (Utf8.encode r).data.toList.length ≤ 4 := by
  unfold Utf8.encode
  simp only []
  repeat' split
  all_goals simp
def strsL : List (List UInt8) := [[], [92], [92, 48], [92, 48, 48, 103, 48], [92, 48, 48, 54, 49], [92, 102, 102, 102, 100], [92, 70, 70, 70, 68], [239, 191, 189], [255, 254], [97, 92, 48, 48, 50, 48], [92, 100, 56, 48, 48], [92, 52, 101, 49, 54], [228, 184, 150, 228, 184], [92, 48, 48, 50, 48, 92, 48, 48, 50, 48]]
theorem strs_len : ∀ x ∈ strsL, x.length ≤ 10 := by decide
theorem strs_nth {j : Nat} (h : j < strsL.length) : (strsL.map PV.str)[((j : Int)).toNat]? = some (.str strsL[j]) := by simp [h]
def evsL : List Ev := [(⟨0, 0, [], [], 0, 0⟩ : Ev), (⟨1, 1, [(1, 0, [97, 32, 98], [])], [(1, 0, 0)], 1, 1⟩ : Ev), (⟨31, -1, [(-1, 0, [97, 32, 98], [])], [(-1, 0, 0)], -1, -1⟩ : Ev), (⟨31, 9223372036854775807, [(9223372036854775807, 0, [97, 32, 98], [])], [(9223372036854775807, 0, 0)], 9223372036854775807, 9223372036854775807⟩ : Ev), (⟨0, -9223372036854775808, [], [], -9223372036854775808, -9223372036854775808⟩ : Ev)]
theorem evs_ok : ∀ e ∈ evsL, EvOk e := by
  have i64 : ∀ n : Int, -9223372036854775808 ≤ n → n < 9223372036854775808 → I64 n := fun n a b => ⟨a, b⟩
  intro e he
  simp only [evsL, List.mem_cons, List.not_mem_nil, or_false] at he
  rcases he with rfl | rfl | rfl | rfl | rfl <;>
    exact ⟨i64 _ (by decide) (by decide), i64 _ (by decide) (by decide), i64 _ (by decide) (by decide), i64 _ (by decide) (by decide),
      by intro g hg; simp at hg; try (subst hg; exact ⟨⟨by decide, by decide⟩, by decide, by decide⟩),
      by intro g hg; simp at hg; try (subst hg; exact ⟨i64 _ (by decide) (by decide), i64 _ (by decide) (by decide), i64 _ (by decide) (by decide)⟩), by decide, by decide⟩
def intsL : List Int := [0, 1, -1, 9223372036854775807, -9223372036854775808]
theorem ints_nth {j : Nat} (h : j < intsL.length) : (intsL.map ii)[((j : Int)).toNat]? = some (ii intsL[j]) := by simp [h]

theorem neq_self (l : List UInt8) : (!(l == l)) = false := by simp
theorem numbers_c (s : Store) (K : AV → Store → Prop) (h : K (.p (.bool true)) s) : Cal Tryd.prog 3 [] s K := by
  refine Cal.pure (args := []) ?_
  refine Cal.intro Tryd.func3 (by decide +kernel) rfl rfl ?_
  refine LoopX.fam [0, 1] (fun (j : Nat) => ([(0, .p (.bool false)), (1, .p (.int .i32 j))], []))
    (fun j => j ≤ 1200) (fun j => 1200 - j) 0 (Nat.zero_le _) (Trim.mk' rfl rfl rfl rfl (Nat.le_refl _)) ?_
  intro j hj
  refine Br.mk (fun hc => ?_) (fun hc => ?_)
  · have hc : j < 1200 := by simp at hc; omega
    have he := encN_len (j : Int)
    have hpl := plS_len _ (Utf8.encode (j : Int)).data.toList rfl
    have ej : IntKind.i32.wrap ((j : Int) + 1) = ((j + 1 : Nat) : Int) := by rw [IntKind.wrap_i32]; omega
    refine same_v (l := (Utf8.encode (j : Int)).data.toList) (by omega) _ _ ?_
    repeat (first | refine Br.f rfl ?_ | refine Br.t rfl ?_)
    refine lawPlain_c (Utf8.encode (j : Int)).data.toList (by omega) _ _ ?_
    repeat (first | refine Br.f rfl ?_ | refine Br.t rfl ?_)
    refine same_v (l := plS (Utf8.encode (j : Int)).data.toList) (by omega) _ _ ?_
    repeat (first | refine Br.f rfl ?_ | refine Br.t rfl ?_)
    refine hex_c j (by omega) _ _ ?_
    repeat (first | refine Br.f rfl ?_ | refine Br.t rfl ?_)
    refine Ob.mk (show 1 + (hexR j).length < _ by show 1 + 4 < _; decide) ?_
    repeat (first | refine Br.f rfl ?_ | refine Br.t rfl ?_)
    refine same_v (l := [92] ++ hexR j) (by show 5 < _; decide) _ _ ?_
    repeat (first | refine Br.f rfl ?_ | refine Br.t rfl ?_)
    refine Ob.mk (show 1 + (Utf8.encode (j : Int)).data.toList.length < _ by omega) ?_
    repeat (first | refine Br.f rfl ?_ | refine Br.t rfl ?_)
    refine Ob.mk (show ([120] ++ (Utf8.encode (j : Int)).data.toList).length + 1 < _ by rw [List.length_append]; show 1 + _ + 1 < _; omega) ?_
    repeat (first | refine Br.f rfl ?_ | refine Br.t rfl ?_)
    refine same_v (l := [120] ++ (Utf8.encode (j : Int)).data.toList ++ [255]) (by rw [List.length_append, List.length_append]; show 1 + _ + 1 < _; omega) _ _ ?_
    repeat (first | refine Br.f rfl ?_ | refine Br.t rfl ?_)
    refine ⟨j + 1, hc, by omega, Nat.le_refl _, Trim.mk' ?_ rfl rfl rfl (Nat.le_refl _)⟩
    refine Eq.trans (b := [_, (1, AV.p (.int .i32 (IntKind.i32.wrap ((j : Int) + 1))))]) rfl ?_
    rw [ej]; rfl
  · clear hc
    refine LoopX.fam [0, 37, 38, 39] (fun (k : Nat) => ([(0, .p (.bool false)), (37, .p (.sl .clip 1 (strsL.map .str))), (38, .p (ii 14)), (39, .p (ii k))], []))
      (fun k => k ≤ 14) (fun k => 14 - k) 0 (Nat.zero_le _) (Trim.mk' rfl rfl rfl rfl (Nat.le_refl _)) ?_
    intro k hk
    refine Br.mk (fun hc => ?_) (fun hc => ?_)
    · have hc : k < strsL.length := by simp at hc; show k < 14; omega
      have hx := strs_len strsL[k] (List.getElem_mem hc)
      have ek : IntKind.i64.wrap ((k : Int) + 1) = ((k + 1 : Nat) : Int) := by rw [wrap_i64] <;> omega
      obtain ⟨x, hxe⟩ : ∃ x, x = strsL[k] := ⟨_, rfl⟩
      rw [← hxe] at hx
      refine Idx.mk (.str x) (by omega) (by rw [hxe]; exact strs_nth hc) ?_
      refine same_v (l := x) (by omega) _ _ ?_
      repeat (first | refine Br.f rfl ?_ | refine Br.t rfl ?_)
      refine Ob.mk (show x.length + x.length < _ by omega) ?_
      repeat (first | refine Br.f rfl ?_ | refine Br.t rfl ?_)
      refine same_v (l := x ++ x) (by rw [List.length_append]; omega) _ _ ?_
      repeat (first | refine Br.f rfl ?_ | refine Br.t rfl ?_)
      refine ⟨k + 1, hc, by have : k < 14 := hc; omega, Nat.le_refl _, Trim.mk' ?_ rfl rfl rfl (Nat.le_refl _)⟩
      refine Eq.trans (b := [_, _, _, (39, AV.p (ii (IntKind.i64.wrap ((k : Int) + 1))))]) rfl ?_
      rw [ek]; rfl
    · clear hc
      refine LoopX.fam [54, 55, 56] (fun (i : Nat) => ([(54, .p (.sl .clip 1 (intsL.map ii))), (55, .p (ii 5)), (56, .p (ii i))], []))
        (fun i => i ≤ 5) (fun i => 5 - i) 0 (Nat.zero_le _) (Trim.mk' rfl rfl rfl rfl (Nat.le_refl _)) ?_
      intro i hi
      refine Br.mk (fun hc => ?_) (fun hc => ?_)
      · have hc : i < 5 := by simp at hc; omega
        have hev : ∀ (n : Nat) (e : Ev), evsL[n]? = some e → EvOk e := fun n e he => evs_ok e (List.mem_of_getElem? he)
        have fin : IntKind.i64.wrap ((i : Int) + 1) = ((i + 1 : Nat) : Int) := by rw [wrap_i64] <;> omega
        have hi5 : i = 0 ∨ i = 1 ∨ i = 2 ∨ i = 3 ∨ i = 4 := by omega
        clear hj hk hi hc
        rcases hi5 with rfl | rfl | rfl | rfl | rfl
        · refine Idx.mk (ii (0)) (by decide) rfl ?_
          repeat (first
            | refine ⟨_, ⟨rfl, rfl⟩, ?_⟩
            | refine ⟨_, _, ⟨rfl, rfl⟩, rfl, ?_⟩
            | refine ⟨_, Ob.mk (by decide) ⟨rfl, rfl⟩, ?_⟩
            | refine ⟨_, _, Ob.mk (by decide) ⟨rfl, rfl⟩, rfl, ?_⟩
            | refine ⟨_, _, Ob.mk (okst rfl rfl rfl) ⟨rfl, rfl⟩, rfl, ?_⟩)
          refine Chk.mk (by kernel_rfl) ?_
          refine ⟨_, ⟨rfl, rfl⟩, ?_⟩
          refine ⟨_, fun s' => event_c (⟨0, 0, [], [], 0, 0⟩ : Ev) (hev 0 _ rfl) s' _ ⟨rfl, rfl⟩, rfl, ?_⟩
          refine ⟨_, ⟨rfl, rfl⟩, ?_⟩
          refine ⟨_, fun s' => lawEvent_c (⟨0, 0, [], [], 0, 0⟩ : Ev) (hev 0 _ rfl) s' _ ⟨rfl, rfl⟩, rfl, ?_⟩
          refine ⟨_, ⟨rfl, rfl⟩, ?_⟩
          refine Chk.mk (by kernel_rfl) ?_
          refine Br.f (neq_self _) ?_
          exact ⟨1, by decide, by decide, Nat.zero_le _, Trim.mk' rfl rfl rfl rfl (Nat.zero_le _)⟩
        · refine Idx.mk (ii (1)) (by decide) rfl ?_
          repeat (first
            | refine ⟨_, ⟨rfl, rfl⟩, ?_⟩
            | refine ⟨_, _, ⟨rfl, rfl⟩, rfl, ?_⟩
            | refine ⟨_, Ob.mk (by decide) ⟨rfl, rfl⟩, ?_⟩
            | refine ⟨_, _, Ob.mk (by decide) ⟨rfl, rfl⟩, rfl, ?_⟩
            | refine ⟨_, _, Ob.mk (okst rfl rfl rfl) ⟨rfl, rfl⟩, rfl, ?_⟩)
          refine Chk.mk (by kernel_rfl) ?_
          refine ⟨_, ⟨rfl, rfl⟩, ?_⟩
          refine ⟨_, fun s' => event_c (⟨1, 1, [(1, 0, [97, 32, 98], [])], [(1, 0, 0)], 1, 1⟩ : Ev) (hev 1 _ rfl) s' _ ⟨rfl, rfl⟩, rfl, ?_⟩
          refine ⟨_, ⟨rfl, rfl⟩, ?_⟩
          refine ⟨_, fun s' => lawEvent_c (⟨1, 1, [(1, 0, [97, 32, 98], [])], [(1, 0, 0)], 1, 1⟩ : Ev) (hev 1 _ rfl) s' _ ⟨rfl, rfl⟩, rfl, ?_⟩
          refine ⟨_, ⟨rfl, rfl⟩, ?_⟩
          refine Chk.mk (by kernel_rfl) ?_
          refine Br.f (neq_self _) ?_
          exact ⟨2, by decide, by decide, Nat.zero_le _, Trim.mk' rfl rfl rfl rfl (Nat.zero_le _)⟩
        · refine Idx.mk (ii (-1)) (by decide) rfl ?_
          repeat (first
            | refine ⟨_, ⟨rfl, rfl⟩, ?_⟩
            | refine ⟨_, _, ⟨rfl, rfl⟩, rfl, ?_⟩
            | refine ⟨_, Ob.mk (by decide) ⟨rfl, rfl⟩, ?_⟩
            | refine ⟨_, _, Ob.mk (by decide) ⟨rfl, rfl⟩, rfl, ?_⟩
            | refine ⟨_, _, Ob.mk (okst rfl rfl rfl) ⟨rfl, rfl⟩, rfl, ?_⟩)
          refine Chk.mk (by kernel_rfl) ?_
          refine ⟨_, ⟨rfl, rfl⟩, ?_⟩
          refine ⟨_, fun s' => event_c (⟨31, -1, [(-1, 0, [97, 32, 98], [])], [(-1, 0, 0)], -1, -1⟩ : Ev) (hev 2 _ rfl) s' _ ⟨rfl, rfl⟩, rfl, ?_⟩
          refine ⟨_, ⟨rfl, rfl⟩, ?_⟩
          refine ⟨_, fun s' => lawEvent_c (⟨31, -1, [(-1, 0, [97, 32, 98], [])], [(-1, 0, 0)], -1, -1⟩ : Ev) (hev 2 _ rfl) s' _ ⟨rfl, rfl⟩, rfl, ?_⟩
          refine ⟨_, ⟨rfl, rfl⟩, ?_⟩
          refine Chk.mk (by kernel_rfl) ?_
          refine Br.f (neq_self _) ?_
          exact ⟨3, by decide, by decide, Nat.zero_le _, Trim.mk' rfl rfl rfl rfl (Nat.zero_le _)⟩
        · refine Idx.mk (ii (9223372036854775807)) (by decide) rfl ?_
          repeat (first
            | refine ⟨_, ⟨rfl, rfl⟩, ?_⟩
            | refine ⟨_, _, ⟨rfl, rfl⟩, rfl, ?_⟩
            | refine ⟨_, Ob.mk (by decide) ⟨rfl, rfl⟩, ?_⟩
            | refine ⟨_, _, Ob.mk (by decide) ⟨rfl, rfl⟩, rfl, ?_⟩
            | refine ⟨_, _, Ob.mk (okst rfl rfl rfl) ⟨rfl, rfl⟩, rfl, ?_⟩)
          refine Chk.mk (by kernel_rfl) ?_
          refine ⟨_, ⟨rfl, rfl⟩, ?_⟩
          refine ⟨_, fun s' => event_c (⟨31, 9223372036854775807, [(9223372036854775807, 0, [97, 32, 98], [])], [(9223372036854775807, 0, 0)], 9223372036854775807, 9223372036854775807⟩ : Ev) (hev 3 _ rfl) s' _ ⟨rfl, rfl⟩, rfl, ?_⟩
          refine ⟨_, ⟨rfl, rfl⟩, ?_⟩
          refine ⟨_, fun s' => lawEvent_c (⟨31, 9223372036854775807, [(9223372036854775807, 0, [97, 32, 98], [])], [(9223372036854775807, 0, 0)], 9223372036854775807, 9223372036854775807⟩ : Ev) (hev 3 _ rfl) s' _ ⟨rfl, rfl⟩, rfl, ?_⟩
          refine ⟨_, ⟨rfl, rfl⟩, ?_⟩
          refine Chk.mk (by kernel_rfl) ?_
          refine Br.f (neq_self _) ?_
          exact ⟨4, by decide, by decide, Nat.zero_le _, Trim.mk' rfl rfl rfl rfl (Nat.zero_le _)⟩
        · refine Idx.mk (ii (-9223372036854775808)) (by decide) rfl ?_
          repeat (first
            | refine ⟨_, ⟨rfl, rfl⟩, ?_⟩
            | refine ⟨_, _, ⟨rfl, rfl⟩, rfl, ?_⟩
            | refine ⟨_, Ob.mk (by decide) ⟨rfl, rfl⟩, ?_⟩
            | refine ⟨_, _, Ob.mk (by decide) ⟨rfl, rfl⟩, rfl, ?_⟩
            | refine ⟨_, _, Ob.mk (okst rfl rfl rfl) ⟨rfl, rfl⟩, rfl, ?_⟩)
          refine Chk.mk (by kernel_rfl) ?_
          refine ⟨_, ⟨rfl, rfl⟩, ?_⟩
          refine ⟨_, fun s' => event_c (⟨0, -9223372036854775808, [], [], -9223372036854775808, -9223372036854775808⟩ : Ev) (hev 4 _ rfl) s' _ ⟨rfl, rfl⟩, rfl, ?_⟩
          refine ⟨_, ⟨rfl, rfl⟩, ?_⟩
          refine ⟨_, fun s' => lawEvent_c (⟨0, -9223372036854775808, [], [], -9223372036854775808, -9223372036854775808⟩ : Ev) (hev 4 _ rfl) s' _ ⟨rfl, rfl⟩, rfl, ?_⟩
          refine ⟨_, ⟨rfl, rfl⟩, ?_⟩
          refine Chk.mk (by kernel_rfl) ?_
          refine Br.f (neq_self _) ?_
          exact ⟨5, by decide, by decide, Nat.zero_le _, Trim.mk' rfl rfl rfl rfl (Nat.zero_le _)⟩
      · clear hc
        refine known_c _ _ ?_
        exact h
end Go.Proofs.YtkokaflanlcojaaDoor.AW
