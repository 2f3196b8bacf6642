/- A part of the proof: LB/W8, LB/W9. -/
import Derived.Test.YtkokaflanlcojaaDoorP12
import Derived.Test.YtkokaflanlcojaaDoorP13
open Go Go.Proofs.YtkokaflanlcojaaDoor.AW Go.Proofs
namespace Go.Proofs.YtkokaflanlcojaaDoor.AW
set_option maxRecDepth 100000
set_option linter.unusedSimpArgs false
set_option linter.unusedVariables false

def evZ (why base : Int) : Ev := ⟨why, base, [], [], 0, 0⟩
def evZP (why base : Int) : PV := .agg [ii why, ii base, .sl .nil 0 [], .sl .nil 0 [], ii 0, ii 0]
theorem evZ_ok {why base : Int} (h1 : I64 why) (h2 : I64 base) : EvOk (evZ why base) := ⟨h1, h2, (show I64 0 from ⟨by decide, by decide⟩), (show I64 0 from ⟨by decide, by decide⟩), by simp [evZ], by simp [evZ], by simp [evZ], by simp [evZ]⟩
theorem evZ_wk (why base : Int) : WkD (evZP why base) (evP (evZ why base)) :=
  .agg _ _ (.cons _ _ _ _ (.refl _) (.cons _ _ _ _ (.refl _) (.cons _ _ _ _ (.nil _ _ _) (.cons _ _ _ _ (.nil _ _ _) (.cons _ _ _ _ (.refl _) (.cons _ _ _ _ (.refl _) .nil))))))
theorem evZ_S (why base : Int) : evS (evZ why base) = headS (evZ why base) := by unfold evS; rw [if_pos ⟨rfl, rfl, rfl, rfl⟩]
/-- An event without a fetch. -/
theorem eventZ_c (why base : Int) (h1 : I64 why) (h2 : I64 base) (s : Store) (K : AV → Store → Prop) (h : K (.p (.str ([101] ++ fmtS why ++ [32] ++ fmtS base))) s) : Cal Tryd.prog 14 [.p (evZP why base)] s K := by
  refine Cal.arg1 (event_c (evZ why base) (evZ_ok h1 h2) s K ?_) (evZ_wk why base)
  rw [evZ_S]; exact h
theorem plain_v {l x : List UInt8} (hx : plS l = x) (hl : l.length < 1099511627776) (s : Store) (K : AV → Store → Prop) (h : K (.p (.str x)) s) : Cal Tryd.prog 17 [.p (.str l)] s K := plain_text l hl s K (by rw [hx]; exact h)
theorem unplain_v {l x : List UInt8} {b : Bool} (hx : unS l = (x, b)) (hl : l.length < 1073741824) (s : Store) (K : AV → Store → Prop) (h : K (.tup [.p (.str x), .p (.bool b)]) s) : Cal Tryd.prog 18 [.p (.str l)] s K := unplain_c l hl s K (by rw [hx]; exact h)

theorem tellRec_v {a b x : List UInt8} (hx : recS a b = x) (ha : a.length < 1099511627776) (hb : b.length < 1099511627776) (s : Store) (K : AV → Store → Prop) (h : K (.p (.str x)) s) : Cal Tryd.prog 21 [.p (rec2 a b)] s K := tellRec_c a b ha hb s K (by rw [hx]; exact h)

def lineZ (q : Int × Int) : List UInt8 := [101] ++ fmtS q.1 ++ [32] ++ fmtS q.2 ++ [10]
theorem evZ_flat : ∀ (l : List (Int × Int)), WkDs (flat (l.map fun q => evZP q.1 q.2)) (flat ((l.map fun q => evZ q.1 q.2).map evP))
  | [] => .nil
  | q :: l => by
    have h1 : WkDs (evZP q.1 q.2).cells (evP (evZ q.1 q.2)).cells := (.cons _ _ _ _ (.refl _) (.cons _ _ _ _ (.refl _) (.cons _ _ _ _ (.nil _ _ _) (.cons _ _ _ _ (.nil _ _ _) (.cons _ _ _ _ (.refl _) (.cons _ _ _ _ (.refl _) .nil))))))
    exact h1.append (evZ_flat l)
theorem linesZ_c (k : SK) (q : Int × Int) (l : List (Int × Int)) (hok : ∀ x ∈ q :: l, I64 x.1 ∧ I64 x.2) (hl : l.length < 1000) (s : Store) (K : AV → Store → Prop) (h : K (.p (.str ((q :: l).flatMap lineZ))) s) :
    Cal Tryd.prog 22 [.p (.sl k 6 ((q :: l).map fun q => evZP q.1 q.2))] s K := by
  refine Cal.arg1 (lines_c (evZ q.1 q.2) (l.map fun (x : Int × Int) => evZ x.1 x.2) (fun e he => ?_) (by simpa using hl) s K ?_) (.sl _ _ _ _ (by simp) (fun y hy => ?_) (evZ_flat (q :: l)))
  · obtain ⟨x, hx, rfl⟩ := List.mem_map.1 (show e ∈ (q :: l).map fun q => evZ q.1 q.2 from he)
    exact evZ_ok (hok x hx).1 (hok x hx).2
  · have e : ∀ l : List (Int × Int), (l.map fun q => evZ q.1 q.2).flatMap lineS = l.flatMap lineZ := by
      intro l
      induction l with
      | nil => rfl
      | cons x r ih =>
        rw [List.map_cons, List.flatMap_cons, List.flatMap_cons, ih]
        congr 1
    have e2 := e (q :: l)
    rw [← e2] at h
    exact h
  · obtain ⟨x, hx, rfl⟩ := List.mem_map.1 hy
    exact ⟨rfl, rfl⟩

theorem known_c (s : Store) (K : AV → Store → Prop) (h : K (.p (.bool true)) s) : Cal Tryd.prog 16 [] s K := by
  refine Cal.pure (args := []) ?_
  refine Cal.intro Tryd.func16 (by decide +kernel) rfl rfl ?_
  refine unplain_v (x := [97, 32, 98]) (b := true) (by decide +kernel) (by decide) _ _ ?_
  refine unplain_v (x := []) (b := false) (by decide +kernel) (by decide) _ _ ?_
  refine plain_v (x := [97, 92, 48, 48, 50, 48, 98]) (by decide +kernel) (by decide) _ _ ?_
  repeat (first | refine Br.t rfl ?_ )
  refine plain_v (x := [92, 102, 102, 102, 100]) (by decide +kernel) (by decide) _ _ ?_
  repeat (first | refine Br.t rfl ?_ )
  refine eventZ_c 0 0 ⟨by decide, by decide⟩ ⟨by decide, by decide⟩ _ _ ?_
  repeat (first | refine Br.t rfl ?_ )
  refine tellRec_v (a := [107]) (b := [49]) (x := [107, 61, 49]) (by decide +kernel) (by decide) (by decide) _ _ ?_
  repeat (first | refine Br.t rfl ?_ )
  refine linesZ_c .clip (17, -1) [] (by intro x hx; simp at hx; subst hx; exact ⟨⟨by decide, by decide⟩, ⟨by decide, by decide⟩⟩) (by decide) _ _ ?_
  repeat (first | refine Br.t rfl ?_ )
  exact h
end Go.Proofs.YtkokaflanlcojaaDoor.AW

open Go Go.Proofs.YtkokaflanlcojaaDoor.AW Go.Proofs
namespace Go.Proofs.YtkokaflanlcojaaDoor.AW
set_option maxRecDepth 100000
set_option linter.unusedSimpArgs false
set_option linter.unusedVariables false
attribute [local irreducible] Utf8.encode

theorem hexI_ok (r : Nat) : ∀ x ∈ hexI r, isPl x.toNat = true := by
  have hk : ∀ k, k < 16 → isPl (hx k).toNat = true := by decide
  intro x hx0
  obtain ⟨b, hb, rfl⟩ := List.mem_map.1 hx0
  rw [Int.toNat_natCast]
  simp only [hexR, List.mem_cons, List.not_mem_nil, or_false] at hb
  rcases hb with rfl | rfl | rfl | rfl <;> exact hk _ (by omega)
theorem pl_ok (y : List UInt8) : ∀ r ∈ rns (plS y), isPl r.toNat = true ∨ r = 92 := by
  rw [plS_eq, rns_plL _ (okL_rns y)]
  intro r hr
  obtain ⟨x, _, hx⟩ := List.mem_flatMap.1 hr
  unfold plI at hx
  split at hx
  · rename_i hp
    simp only [List.mem_cons, List.not_mem_nil, or_false] at hx
    left; rw [hx, Int.toNat_natCast]; exact hp
  · rcases List.mem_cons.1 hx with h | h
    · exact .inr h
    · exact .inl (hexI_ok _ r h)
theorem stays_v {r : Nat} {b : Bool} (hb : isPl r = b) (s : Store) (K : AV → Store → Prop) (h : K (.p (.bool b)) s) : Cal Tryd.prog 19 [.p (.int .i32 r)] s K := stays_c r s K (by rw [hb]; exact h)

theorem back_c (l : List UInt8) (s : Store) (K : AV → Store → Prop) (h : K (.p (.bool true)) s) : Cal Tryd.prog 4 [.p (.str l)] s K := by
  refine Cal.pure (args := [.str l]) ?_
  refine Cal.intro Tryd.func4 (by decide +kernel) rfl rfl ?_
  refine Br.mk (fun hc => ?_) (fun hc => ?_)
  · have hc : 100 < l.length := by simp at hc; omega
    refine Ob.mk (show (0 : Int) ≤ 0 ∧ (0 : Int) ≤ 100 ∧ (100 : Int) ≤ (l.length : Int) from ⟨by omega, by omega, by omega⟩) ?_
    have hy : ((l.take (100 : Int).toNat).drop (0 : Int).toNat).length ≤ 100 := by simp; omega
    refine plain_text ((l.take (100 : Int).toNat).drop (0 : Int).toNat) (by omega) _ _ ?_
    have hpl := plS_len _ ((l.take (100 : Int).toNat).drop (0 : Int).toNat) rfl
    refine unplain_v (unS_plain ((l.take (100 : Int).toNat).drop (0 : Int).toNat)) (by omega) _ _ ?_
    have hcl := encs_len (rns ((l.take (100 : Int).toNat).drop (0 : Int).toNat))
    have hrl := rns_len _ ((l.take (100 : Int).toNat).drop (0 : Int).toNat) rfl
    have hrp := rns_len _ (plS ((l.take (100 : Int).toNat).drop (0 : Int).toNat)) rfl
    refine LoopX.fam [0, 3, 4, 5, 6, 7, 25] (fun (q : List UInt8 × Nat × List UInt8 × Nat) => ([(0, .p (.str ((l.take (100 : Int).toNat).drop (0 : Int).toNat))), (3, .p (.str (plS ((l.take (100 : Int).toNat).drop (0 : Int).toNat)))), (4, .p (.str (clean ((l.take (100 : Int).toNat).drop (0 : Int).toNat)))), (5, .p (.bool true)), (6, .p (.str q.1)), (7, .p (ii q.2.1)), (25, .it 0)], [some (.iterS q.2.2.1 q.2.2.2)]))
      (fun q => q.1 ++ encs (rns q.2.2.1) = clean ((l.take (100 : Int).toNat).drop (0 : Int).toNat) ∧ q.2.1 + ((rns q.2.2.1).flatMap fun r => plI r.toNat).length = (rns (plS ((l.take (100 : Int).toNat).drop (0 : Int).toNat))).length) (fun q => q.2.2.1.length) ([], 0, ((l.take (100 : Int).toNat).drop (0 : Int).toNat), 0)
      ⟨rfl, by dsimp only; rw [Nat.zero_add, plS_eq, rns_plL _ (okL_rns ((l.take (100 : Int).toNat).drop (0 : Int).toNat))]⟩ (Trim.mk' rfl rfl rfl rfl (Nat.le_refl _)) ?_
    rintro ⟨out, n, rest, pos⟩ ⟨h1, h2⟩
    change out ++ encs (rns rest) = clean ((l.take (100 : Int).toNat).drop (0 : Int).toNat) at h1
    change n + ((rns rest).flatMap fun r => plI r.toNat).length = (rns (plS ((l.take (100 : Int).toNat).drop (0 : Int).toNat))).length at h2
    refine BrL.mk (fun (he : rest = []) => ?_) (fun (hne : rest ≠ []) => ?_)
    · refine Br.f rfl ?_
      rw [he, rns_nil] at h1 h2
      have h1 : out = clean ((l.take (100 : Int).toNat).drop (0 : Int).toNat) := by rw [← h1]; exact (List.append_nil _).symm
      have h2 : n = (rns (plS ((l.take (100 : Int).toNat).drop (0 : Int).toNat))).length := by rw [← h2]; simp
      subst h1; subst h2
      refine LoopX.fam [3, 4, 5, 6, 7, 41] (fun (q : List UInt8 × Nat) => ([(3, .p (.str (plS ((l.take (100 : Int).toNat).drop (0 : Int).toNat)))), (4, .p (.str (clean ((l.take (100 : Int).toNat).drop (0 : Int).toNat)))), (5, .p (.bool true)), (6, .p (.str (clean ((l.take (100 : Int).toNat).drop (0 : Int).toNat)))), (7, .p (ii (rns (plS ((l.take (100 : Int).toNat).drop (0 : Int).toNat))).length)), (41, .it 1)], [some (.iterS [] pos), some (.iterS q.1 q.2)]))
        (fun q => ∀ r ∈ rns q.1, isPl r.toNat = true ∨ r = 92) (fun q => q.1.length) (plS ((l.take (100 : Int).toNat).drop (0 : Int).toNat), 0) (pl_ok ((l.take (100 : Int).toNat).drop (0 : Int).toNat)) (Trim.mk' rfl (by rw [he]; rfl) rfl rfl (Nat.le_refl _)) ?_
      rintro ⟨rs, p2⟩ hok
      change ∀ r ∈ rns rs, isPl r.toNat = true ∨ r = 92 at hok
      refine BrL.mk (fun (he : rs = []) => ?_) (fun (hne : rs ≠ []) => ?_)
      · refine Br.f rfl ?_
        have c1 : (clean ((l.take (100 : Int).toNat).drop (0 : Int).toNat) == clean ((l.take (100 : Int).toNat).drop (0 : Int).toNat)) = true := by simp
        have c2 : (((rns (plS ((l.take (100 : Int).toNat).drop (0 : Int).toNat))).length : Int) == ((rns (plS ((l.take (100 : Int).toNat).drop (0 : Int).toNat))).length : Int)) = true := by simp
        have c3 : (plS ((l.take (100 : Int).toNat).drop (0 : Int).toNat) == plS ((l.take (100 : Int).toNat).drop (0 : Int).toNat)) = true := by simp
        repeat (first | refine Br.t c1 ?_ | refine Br.t (congrArg (· == true) c1) ?_ | refine Br.t rfl ?_)
        refine count_c (plS ((l.take (100 : Int).toNat).drop (0 : Int).toNat)) (by omega) _ _ ?_
        repeat (first | refine Br.t c1 ?_ | refine Br.t (congrArg (· == true) c1) ?_ | refine Br.t c2 ?_ | refine Br.t (congrArg (· == true) c2) ?_)
        refine plain_v (plS_clean ((l.take (100 : Int).toNat).drop (0 : Int).toNat)) (by unfold clean; omega) _ _ ?_
        repeat (first | refine Br.t c2 ?_ | refine Br.t (congrArg (· == true) c2) ?_ | refine Br.t c3 ?_ | refine Br.t (congrArg (· == true) c3) ?_)
        refine known_c _ _ ?_
        repeat (first | refine Br.t c3 ?_ | refine Br.t (congrArg (· == true) c3) ?_ | refine Br.t rfl ?_)
        exact h
      · refine Br.t rfl ?_
        have hd : (rs.drop (decode rs).2).length < rs.length := by
          have h3 := decode_pos rs
          have h4 : 0 < rs.length := List.length_pos_iff.2 hne
          simp; omega
        rw [rns_step hne] at hok
        have h92 := hok _ (List.mem_cons_self ..)
        rw [Int.toNat_natCast] at h92
        have hnx : ∀ r ∈ rns (rs.drop (decode rs).2), isPl r.toNat = true ∨ r = 92 := fun r hr => hok r (List.mem_cons_of_mem _ hr)
        by_cases hp : isPl (decode rs).1 = true
        · refine stays_v hp _ _ ?_
          repeat (first | refine Br.t rfl ?_ | refine Br.f rfl ?_)
          exact ⟨(rs.drop (decode rs).2, p2 + (decode rs).2), hnx, hd, Nat.le_refl _, Trim.mk' rfl rfl rfl rfl (Nat.le_refl _)⟩
        · have hp2 : isPl (decode rs).1 = false := by simpa using hp
          have h93 : (((decode rs).1 : Nat) : Int) = 92 := h92.resolve_left hp
          have c4 : bne (((decode (rs, p2).1).1 : Nat) : Int) 92 = false := by show bne (((decode rs).1 : Nat) : Int) 92 = false; rw [h93]; rfl
          refine stays_v hp2 _ _ ?_
          repeat (first | refine Br.t rfl ?_ | refine Br.f c4 ?_ | refine Br.f (congrArg (· == true) c4) ?_)
          exact ⟨(rs.drop (decode rs).2, p2 + (decode rs).2), hnx, hd, Nat.le_refl _, Trim.mk' rfl rfl rfl rfl (Nat.le_refl _)⟩
    · refine Br.t rfl ?_
      have hd : (rest.drop (decode rest).2).length < rest.length := by
        have h3 := decode_pos rest
        have h4 : 0 < rest.length := List.length_pos_iff.2 hne
        simp; omega
      have hok := decode_okR rest
      rw [rns_step hne] at h1 h2
      rw [encs_cons] at h1
      rw [List.flatMap_cons, List.length_append, Int.toNat_natCast] at h2
      have hol : out.length + (enc (decode rest).1).length ≤ 400 := by
        have := congrArg List.length h1
        simp only [List.length_append] at this
        unfold clean at this; omega
      refine Ob.mk (show out.length + (enc (decode rest).1).length < _ by omega) ?_
      by_cases hp : isPl (decode rest).1 = true
      · refine stays_v hp _ _ ?_
        refine Br.f rfl ?_
        have e1 : plI (decode rest).1 = [((decode rest).1 : Int)] := by unfold plI; rw [hp, if_pos rfl]
        rw [e1] at h2
        simp only [List.length_cons, List.length_nil] at h2
        have ew : IntKind.i64.wrap ((n : Int) + 1) = ((n + 1 : Nat) : Int) := by rw [wrap_i64] <;> omega
        refine ⟨(out ++ enc (decode rest).1, n + 1, rest.drop (decode rest).2, pos + (decode rest).2), ⟨by rw [← h1]; exact List.append_assoc _ _ _, by dsimp only; omega⟩, hd, Nat.le_refl _, Trim.mk' ?_ rfl rfl rfl (Nat.le_refl _)⟩
        refine Eq.trans (b := [_, _, _, _, _, (7, AV.p (ii (IntKind.i64.wrap ((n : Int) + 1)))), _]) rfl ?_
        rw [ew]; rfl
      · have hp2 : isPl (decode rest).1 = false := by simpa using hp
        refine stays_v hp2 _ _ ?_
        refine Br.t rfl ?_
        have e1 : plI (decode rest).1 = 92 :: hexI (decode rest).1 := by unfold plI; rw [if_neg hp]
        rw [e1] at h2
        have e5 : (hexI (decode rest).1).length = 4 := rfl
        simp only [List.length_cons, e5] at h2
        have ew : IntKind.i64.wrap (IntKind.i64.wrap ((n : Int) + 1) + 4) = ((n + 5 : Nat) : Int) := by rw [wrap_i64 (n := (n : Int) + 1), wrap_i64] <;> omega
        refine ⟨(out ++ enc (decode rest).1, n + 5, rest.drop (decode rest).2, pos + (decode rest).2), ⟨by rw [← h1]; exact List.append_assoc _ _ _, by dsimp only; omega⟩, hd, Nat.le_refl _, Trim.mk' ?_ rfl rfl rfl (Nat.le_refl _)⟩
        refine Eq.trans (b := [_, _, _, _, _, (7, AV.p (ii (IntKind.i64.wrap (IntKind.i64.wrap ((n : Int) + 1) + 4)))), _]) rfl ?_
        rw [ew]; rfl
  · have hy : l.length ≤ 100 := by simp at hc; omega
    refine plain_text l (by omega) _ _ ?_
    have hpl := plS_len _ l rfl
    refine unplain_v (unS_plain l) (by omega) _ _ ?_
    have hcl := encs_len (rns l)
    have hrl := rns_len _ l rfl
    have hrp := rns_len _ (plS l) rfl
    refine LoopX.fam [0, 3, 4, 5, 6, 7, 25] (fun (q : List UInt8 × Nat × List UInt8 × Nat) => ([(0, .p (.str l)), (3, .p (.str (plS l))), (4, .p (.str (clean l))), (5, .p (.bool true)), (6, .p (.str q.1)), (7, .p (ii q.2.1)), (25, .it 0)], [some (.iterS q.2.2.1 q.2.2.2)]))
      (fun q => q.1 ++ encs (rns q.2.2.1) = clean l ∧ q.2.1 + ((rns q.2.2.1).flatMap fun r => plI r.toNat).length = (rns (plS l)).length) (fun q => q.2.2.1.length) ([], 0, l, 0)
      ⟨rfl, by dsimp only; rw [Nat.zero_add, plS_eq, rns_plL _ (okL_rns l)]⟩ (Trim.mk' rfl rfl rfl rfl (Nat.le_refl _)) ?_
    rintro ⟨out, n, rest, pos⟩ ⟨h1, h2⟩
    change out ++ encs (rns rest) = clean l at h1
    change n + ((rns rest).flatMap fun r => plI r.toNat).length = (rns (plS l)).length at h2
    refine BrL.mk (fun (he : rest = []) => ?_) (fun (hne : rest ≠ []) => ?_)
    · refine Br.f rfl ?_
      rw [he, rns_nil] at h1 h2
      have h1 : out = clean l := by rw [← h1]; exact (List.append_nil _).symm
      have h2 : n = (rns (plS l)).length := by rw [← h2]; simp
      subst h1; subst h2
      refine LoopX.fam [3, 4, 5, 6, 7, 41] (fun (q : List UInt8 × Nat) => ([(3, .p (.str (plS l))), (4, .p (.str (clean l))), (5, .p (.bool true)), (6, .p (.str (clean l))), (7, .p (ii (rns (plS l)).length)), (41, .it 1)], [some (.iterS [] pos), some (.iterS q.1 q.2)]))
        (fun q => ∀ r ∈ rns q.1, isPl r.toNat = true ∨ r = 92) (fun q => q.1.length) (plS l, 0) (pl_ok l) (Trim.mk' rfl (by rw [he]; rfl) rfl rfl (Nat.le_refl _)) ?_
      rintro ⟨rs, p2⟩ hok
      change ∀ r ∈ rns rs, isPl r.toNat = true ∨ r = 92 at hok
      refine BrL.mk (fun (he : rs = []) => ?_) (fun (hne : rs ≠ []) => ?_)
      · refine Br.f rfl ?_
        have c1 : (clean l == clean l) = true := by simp
        have c2 : (((rns (plS l)).length : Int) == ((rns (plS l)).length : Int)) = true := by simp
        have c3 : (plS l == plS l) = true := by simp
        repeat (first | refine Br.t c1 ?_ | refine Br.t (congrArg (· == true) c1) ?_ | refine Br.t rfl ?_)
        refine count_c (plS l) (by omega) _ _ ?_
        repeat (first | refine Br.t c1 ?_ | refine Br.t (congrArg (· == true) c1) ?_ | refine Br.t c2 ?_ | refine Br.t (congrArg (· == true) c2) ?_)
        refine plain_v (plS_clean l) (by unfold clean; omega) _ _ ?_
        repeat (first | refine Br.t c2 ?_ | refine Br.t (congrArg (· == true) c2) ?_ | refine Br.t c3 ?_ | refine Br.t (congrArg (· == true) c3) ?_)
        refine known_c _ _ ?_
        repeat (first | refine Br.t c3 ?_ | refine Br.t (congrArg (· == true) c3) ?_ | refine Br.t rfl ?_)
        exact h
      · refine Br.t rfl ?_
        have hd : (rs.drop (decode rs).2).length < rs.length := by
          have h3 := decode_pos rs
          have h4 : 0 < rs.length := List.length_pos_iff.2 hne
          simp; omega
        rw [rns_step hne] at hok
        have h92 := hok _ (List.mem_cons_self ..)
        rw [Int.toNat_natCast] at h92
        have hnx : ∀ r ∈ rns (rs.drop (decode rs).2), isPl r.toNat = true ∨ r = 92 := fun r hr => hok r (List.mem_cons_of_mem _ hr)
        by_cases hp : isPl (decode rs).1 = true
        · refine stays_v hp _ _ ?_
          repeat (first | refine Br.t rfl ?_ | refine Br.f rfl ?_)
          exact ⟨(rs.drop (decode rs).2, p2 + (decode rs).2), hnx, hd, Nat.le_refl _, Trim.mk' rfl rfl rfl rfl (Nat.le_refl _)⟩
        · have hp2 : isPl (decode rs).1 = false := by simpa using hp
          have h93 : (((decode rs).1 : Nat) : Int) = 92 := h92.resolve_left hp
          have c4 : bne (((decode (rs, p2).1).1 : Nat) : Int) 92 = false := by show bne (((decode rs).1 : Nat) : Int) 92 = false; rw [h93]; rfl
          refine stays_v hp2 _ _ ?_
          repeat (first | refine Br.t rfl ?_ | refine Br.f c4 ?_ | refine Br.f (congrArg (· == true) c4) ?_)
          exact ⟨(rs.drop (decode rs).2, p2 + (decode rs).2), hnx, hd, Nat.le_refl _, Trim.mk' rfl rfl rfl rfl (Nat.le_refl _)⟩
    · refine Br.t rfl ?_
      have hd : (rest.drop (decode rest).2).length < rest.length := by
        have h3 := decode_pos rest
        have h4 : 0 < rest.length := List.length_pos_iff.2 hne
        simp; omega
      have hok := decode_okR rest
      rw [rns_step hne] at h1 h2
      rw [encs_cons] at h1
      rw [List.flatMap_cons, List.length_append, Int.toNat_natCast] at h2
      have hol : out.length + (enc (decode rest).1).length ≤ 400 := by
        have := congrArg List.length h1
        simp only [List.length_append] at this
        unfold clean at this; omega
      refine Ob.mk (show out.length + (enc (decode rest).1).length < _ by omega) ?_
      by_cases hp : isPl (decode rest).1 = true
      · refine stays_v hp _ _ ?_
        refine Br.f rfl ?_
        have e1 : plI (decode rest).1 = [((decode rest).1 : Int)] := by unfold plI; rw [hp, if_pos rfl]
        rw [e1] at h2
        simp only [List.length_cons, List.length_nil] at h2
        have ew : IntKind.i64.wrap ((n : Int) + 1) = ((n + 1 : Nat) : Int) := by rw [wrap_i64] <;> omega
        refine ⟨(out ++ enc (decode rest).1, n + 1, rest.drop (decode rest).2, pos + (decode rest).2), ⟨by rw [← h1]; exact List.append_assoc _ _ _, by dsimp only; omega⟩, hd, Nat.le_refl _, Trim.mk' ?_ rfl rfl rfl (Nat.le_refl _)⟩
        refine Eq.trans (b := [_, _, _, _, _, (7, AV.p (ii (IntKind.i64.wrap ((n : Int) + 1)))), _]) rfl ?_
        rw [ew]; rfl
      · have hp2 : isPl (decode rest).1 = false := by simpa using hp
        refine stays_v hp2 _ _ ?_
        refine Br.t rfl ?_
        have e1 : plI (decode rest).1 = 92 :: hexI (decode rest).1 := by unfold plI; rw [if_neg hp]
        rw [e1] at h2
        have e5 : (hexI (decode rest).1).length = 4 := rfl
        simp only [List.length_cons, e5] at h2
        have ew : IntKind.i64.wrap (IntKind.i64.wrap ((n : Int) + 1) + 4) = ((n + 5 : Nat) : Int) := by rw [wrap_i64 (n := (n : Int) + 1), wrap_i64] <;> omega
        refine ⟨(out ++ enc (decode rest).1, n + 5, rest.drop (decode rest).2, pos + (decode rest).2), ⟨by rw [← h1]; exact List.append_assoc _ _ _, by dsimp only; omega⟩, hd, Nat.le_refl _, Trim.mk' ?_ rfl rfl rfl (Nat.le_refl _)⟩
        refine Eq.trans (b := [_, _, _, _, _, (7, AV.p (ii (IntKind.i64.wrap (IntKind.i64.wrap ((n : Int) + 1) + 4)))), _]) rfl ?_
        rw [ew]; rfl
end Go.Proofs.YtkokaflanlcojaaDoor.AW
