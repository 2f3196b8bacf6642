/- A part of the proof: LH/S1, LH/G29, LH/G30, LH/B2, LH/G31, LH/B3, LH/G33. -/
import Derived.Test.YtlnelaajlhfabaaP13
import Derived.Test.YtlnelaajlhfabaaProg
import Derived.Test.YtlnelaajlhfabaaP12
open Go Go.Proofs.Ytlnelaajlhfabaa.AW Go.Proofs
namespace Go.Proofs.Ytlnelaajlhfabaa.AW
set_option maxRecDepth 100000
set_option linter.unusedSimpArgs false
set_option linter.unusedVariables false
open Go.Shelf

/-! ### slices.SortFunc of structs: the shelf's, laid in plain words -/
def sortP_ren : Go.Shelf.Ren := ⟨fun | 6 => 26 | 15 => 51 | 14 => 50 | 28 => 77 | 29 => 78 | 20 => 69 | 21 => 70 | 22 => 71 | 23 => 72 | 24 => 73 | 25 => 74 | 26 => 75 | 27 => 76 | 46 => 91 | 47 => 92 | 48 => 93 | 49 => 94 | 50 => 95 | 57 => 100 | n => n, fun | 22 => 60 | 24 => 55 | 25 => 72 | 3 => 3 | 39 => 96 | 0 => 0 | 53 => 114 | 55 => 116 | 4 => 4 | 46 => 107 | 45 => 106 | 50 => 111 | 5 => 5 | 9 => 9 | 66 => 122 | 70 => 126 | 76 => 129 | 77 => 130 | n => n, fun | n => n⟩
theorem sortP : SlLaysF0.n6 Try.prog sortP_ren where
  mixed := by kernel_rfl
  f6 := ⟨Try.f26.name, by decide +kernel, Try.func26.trans (congrArg some (by kernel_rfl))⟩
  f14 := ⟨Try.f50.name, by decide +kernel, Try.func50.trans (congrArg some (by kernel_rfl))⟩
  f15 := Try.func51.trans (congrArg some (by kernel_rfl))
  f20 := ⟨Try.f69.name, by decide +kernel, Try.func69.trans (congrArg some (by kernel_rfl))⟩
  f21 := ⟨Try.f70.name, by decide +kernel, Try.func70.trans (congrArg some (by kernel_rfl))⟩
  f22 := ⟨Try.f71.name, by decide +kernel, Try.func71.trans (congrArg some (by kernel_rfl))⟩
  f23 := ⟨Try.f72.name, by decide +kernel, Try.func72.trans (congrArg some (by kernel_rfl))⟩
  f24 := ⟨Try.f73.name, by decide +kernel, Try.func73.trans (congrArg some (by kernel_rfl))⟩
  f25 := ⟨Try.f74.name, by decide +kernel, Try.func74.trans (congrArg some (by kernel_rfl))⟩
  f26 := ⟨Try.f75.name, by decide +kernel, Try.func75.trans (congrArg some (by kernel_rfl))⟩
  f27 := ⟨Try.f76.name, by decide +kernel, Try.func76.trans (congrArg some (by kernel_rfl))⟩
  f28 := Try.func77.trans (congrArg some (by kernel_rfl))
  f29 := Try.func78.trans (congrArg some (by kernel_rfl))
  f46 := ⟨Try.f91.name, by decide +kernel, Try.func91.trans (congrArg some (by kernel_rfl))⟩
  f47 := Try.func92.trans (congrArg some (by kernel_rfl))
  f48 := Try.func93.trans (congrArg some (by kernel_rfl))
  f49 := ⟨Try.f94.name, by decide +kernel, Try.func94.trans (congrArg some (by kernel_rfl))⟩
  f50 := ⟨Try.f95.name, by decide +kernel, Try.func95.trans (congrArg some (by kernel_rfl))⟩
  f57 := ⟨Try.f100.name, by decide +kernel, Try.func100.trans (congrArg some (by kernel_rfl))⟩
  t0 := Try.underlying0
  a0 := Try.isAgg0
  z0 := Try.sizeOf0
  v0 := Try.zeroValue0
  t3 := Try.underlying3
  a3 := Try.isAgg3
  z3 := Try.sizeOf3
  v3 := Try.zeroValue3
  t4 := Try.underlying4
  a4 := Try.isAgg4
  z4 := Try.sizeOf4
  v4 := Try.zeroValue4
  t5 := Try.underlying5
  a5 := Try.isAgg5
  z5 := Try.sizeOf5
  v5 := Try.zeroValue5
  t9 := Try.underlying9
  a9 := Try.isAgg9
  z9 := Try.sizeOf9
  v9 := Try.zeroValue9
  t22 := Try.underlying60
  a22 := Try.isAgg60
  z22 := Try.sizeOf60
  v22 := Try.zeroValue60
  t25 := Try.underlying72
  a25 := Try.isAgg72
  z25 := Try.sizeOf72
  v25 := Try.zeroValue72
  t39 := Try.underlying96
  a39 := Try.isAgg96
  z39 := Try.sizeOf96
  v39 := Try.zeroValue96
  t45 := Try.underlying106
  a45 := Try.isAgg106
  z45 := Try.sizeOf106
  v45 := Try.zeroValue106
  t46 := Try.underlying107
  a46 := Try.isAgg107
  z46 := Try.sizeOf107
  v46 := Try.zeroValue107
  t50 := Try.underlying111
  a50 := Try.isAgg111
  z50 := Try.sizeOf111
  v50 := Try.zeroValue111
  t53 := Try.underlying114
  a53 := Try.isAgg114
  z53 := Try.sizeOf114
  v53 := Try.zeroValue114
  t55 := Try.underlying116
  a55 := Try.isAgg116
  z55 := Try.sizeOf116
  v55 := Try.zeroValue116
  t66 := Try.underlying122
  a66 := Try.isAgg122
  z66 := Try.sizeOf122
  v66 := Try.zeroValue122
  t70 := Try.underlying126
  a70 := Try.isAgg126
  z70 := Try.sizeOf126
  v70 := Try.zeroValue126
  t76 := Try.underlying129
  a76 := Try.isAgg129
  z76 := Try.sizeOf129
  v76 := Try.zeroValue129
  t77 := Try.underlying130
  a77 := Try.isAgg130
  z77 := Try.sizeOf130
  v77 := Try.zeroValue130
end Go.Proofs.Ytlnelaajlhfabaa.AW


open Go Go.Proofs.Ytlnelaajlhfabaa.AW Go.Proofs
namespace Go.Proofs.Ytlnelaajlhfabaa.AW
set_option maxRecDepth 100000
set_option linter.unusedSimpArgs false
set_option linter.unusedVariables false

/-! ### All producers of a table, by id -/
def cmpI (x y : Int) : Int := if x < y then -1 else if x > y then 1 else 0
theorem isnan_c (a : Int) (s : Store) (K : AV → Store → Prop) (h : K (.p (.bool false)) s) : Cal Try.prog 52 [.p (ii a)] s K := by
  refine Cal.pure (args := [ii a]) ?_
  refine Cal.intro Try.func52 (by decide +kernel) rfl rfl ?_
  show K (.p (.bool (!(decide (a = a))))) s
  rw [decide_eq_true rfl]; exact h
theorem cmpI_c (a b : Int) (s : Store) (K : AV → Store → Prop) (h : K (.p (ii (cmpI a b))) s) : Cal Try.prog 28 [.p (ii a), .p (ii b)] s K := by
  refine Cal.pure (args := [ii a, ii b]) ?_
  refine Cal.intro Try.func28 (by decide +kernel) rfl rfl ?_
  unfold cmpI at h
  cases h1 : decide (a < b) <;> cases h2 : decide (a > b)
  all_goals
    have f1 := h1
    have f2 := h2
    simp only [decide_eq_true_eq, decide_eq_false_iff_not] at f1 f2
    repeat' (first
      | (apply Br.t; · (first | rfl | (simp only [*] <;> rfl)))
      | (apply Br.f; · (first | rfl | (simp only [*] <;> rfl)))
      | refine Ob.mk (okst rfl rfl rfl) ?_
      | refine isnan_c _ _ _ ?_
      | refine Br.mkT (fun c => ?_) (fun c => ?_)
      | refine Br.mkF (fun c => ?_) (fun c => ?_)
      | refine Br.mk (fun c => ?_) (fun c => ?_)
      | exact h
      | (simp only [*, Bool.true_and, Bool.false_and, Bool.true_or, Bool.false_or, Bool.and_true, Bool.and_false, Bool.or_true, Bool.or_false, Bool.not_true, Bool.not_false, if_true, if_false, reduceIte, Bool.false_eq_true] at h; exact h))
def prId : PV → Int
  | .agg (.int _ n :: _) => n
  | _ => 0
def prCmp (x y : PV) : Int := cmpI (prId x) (prId y)
theorem pcmp_c (x y : Pr) (s : Store) (K : AV → Store → Prop) (h : K (.p (ii (prCmp x.pv y.pv))) s) : Cal Try.prog 27 [.p x.pv, .p y.pv] s K := by
  refine Cal.pure (args := [x.pv, y.pv]) ?_
  refine Cal.intro Try.func27 (by decide +kernel) rfl rfl ?_
  have h : K (.p (ii (cmpI x.id y.id))) s := h
  repeat' (first
    | (apply Br.t; · (first | rfl | (simp only [*] <;> rfl)))
    | (apply Br.f; · (first | rfl | (simp only [*] <;> rfl)))
    | refine Ob.mk (okst rfl rfl rfl) ?_
    | refine cmpI_c _ _ _ _ ?_
    | refine Br.mkT (fun c => ?_) (fun c => ?_)
    | refine Br.mkF (fun c => ?_) (fun c => ?_)
    | refine Br.mk (fun c => ?_) (fun c => ?_)
    | exact h
    | (simp only [*, Bool.true_and, Bool.false_and, Bool.true_or, Bool.false_or, Bool.and_true, Bool.and_false, Bool.or_true, Bool.or_false, Bool.not_true, Bool.not_false, if_true, if_false, reduceIte, Bool.false_eq_true] at h; exact h))
theorem cmpI_lt (a b : Int) : cmpI a b < 0 ↔ a < b := by
  unfold cmpI
  split
  · rename_i h; exact ⟨fun _ => h, fun _ => by omega⟩
  · split <;> exact ⟨fun q => by omega, fun q => by omega⟩
theorem pr_ord (l : List PV) : Ord (fun x y => prCmp x y < 0) l := by
  refine ⟨fun x _ h => ?_, fun x y z _ _ _ h k => ?_, fun x y z _ _ _ h k q => ?_⟩
  · have := (cmpI_lt _ _).1 h; omega
  · have h := (cmpI_lt _ _).1 h; have k := (cmpI_lt _ _).1 k; exact (cmpI_lt _ _).2 (by omega)
  · have q := (cmpI_lt _ _).1 q
    have h : ¬ prId x < prId y := fun e => h ((cmpI_lt _ _).2 e)
    have k : ¬ prId y < prId z := fun e => k ((cmpI_lt _ _).2 e)
    omega
theorem prs_of {ys : List PV} {l : List Pr} (h : ys.Perm (l.map Pr.pv)) : ∃ ps : List Pr, ys = ps.map Pr.pv ∧ ps.Perm l := by
  induction l generalizing ys with
  | nil => exact ⟨[], h.eq_nil, .refl _⟩
  | cons p r ih =>
    rw [List.map_cons] at h
    obtain ⟨a, b, rfl⟩ := List.append_of_mem (h.mem_iff.2 (List.mem_cons_self ..))
    have h2 : (a ++ b).Perm (r.map Pr.pv) := (List.Perm.cons_inv (List.perm_middle.symm.trans h))
    obtain ⟨ps, h3, h4⟩ := ih h2
    obtain ⟨pa, pb, h5, h6, h7⟩ := List.append_eq_map_iff.1 h3
    exact ⟨pa ++ p :: pb, by rw [List.map_append, List.map_cons, h6, h7], List.perm_middle.trans ((h5 ▸ h4).cons p)⟩
def prsC (l : List Pr) : PV := .sl .clip 4 (l.map Pr.pv)
set_option maxHeartbeats 8000000 in
theorem tall_c (es : List TE) (cl : Nat) (hi : TInv es cl) (hlen : es.length ≤ 1000000000) (K : AV → Store → Prop) (h : ∀ ps : List Pr, ps.Perm (es.map fun q => q.2.2) → ps.Pairwise (fun a b => ¬ b.id < a.id) → K (.p (prsC ps)) (tbS es cl)) : Cal Try.prog 15 [.ref 1 0] (tbS es cl) K := by
  refine Cal.cut ?_
  refine Cal.intro Try.func15 (by decide +kernel) rfl rfl ?_
  have hfst : (es.map tent).map (·.1) = es.map (·.1) := by rw [List.map_map]; rfl
  refine LoopX.famW [3, 10] (fun (q : List TE × List TE × Option (Nat × Nat)) => ([(3, .osl 3 (q.1.map fun q => q.2.2.pv).length 0 (q.1.map fun q => q.2.2.pv).length), (10, .it 2)],
      [some (.map (.int .i64) (es.map tent) cl), some (.cells [.map 0]), some (.iterM 0 ((es.map tent).map (·.1)) (q.2.1.map (·.1), q.2.2)), some (.buf 4 (q.1.map fun q => q.2.2.pv))]))
    (fun q => (q.1 ++ q.2.1).Perm es) (fun q => q.2.1.length) ([], es, none) (List.Perm.refl _) (by show 3 ≤ 4; decide) (Trim.wk 3 [(4, none)] rfl (by show 3 ≤ 3; decide) (.inr rfl) (by rw [← hfst]; rfl) rfl rfl rfl rfl ⟨.own 3 rfl rfl, .inl rfl, trivial⟩) ?_
  rintro ⟨out, rest, cur⟩ hq
  have hq : (out ++ rest).Perm es := hq
  have hln : out.length + rest.length = es.length := by have := hq.length_eq; simpa using this
  refine Ob.mk rfl ?_
  refine BrL.mk (fun (he : rest.map (·.1) = []) => ?_) (fun (hne : rest.map (·.1) ≠ []) => ?_)
  · have hr : rest = [] := List.map_eq_nil_iff.1 he
    subst hr
    rw [List.append_nil] at hq
    refine Br.f rfl ?_
    show Cal Try.prog 26 [.osl 3 (out.map fun q => q.2.2.pv).length 0 (out.map fun q => q.2.2.pv).length, .clos 27 []] [_, _, _, some (.buf 4 (out.map fun q => q.2.2.pv) none)] _
    refine Cal.sortK (id := 3) (xs := out.map fun q => q.2.2.pv) (ty := none) sortP (k := 4) (by decide) Try.isAgg55 Try.sizeOf55 rfl ⟨_, Try.func26, by decide +kernel, rfl⟩ ⟨_, Try.func27, by decide +kernel, rfl⟩ ?_ ?_ ?_ prCmp (pr_ord _) ?_ ?_
    · rfl
    · intro x hx
      obtain ⟨q, _, rfl⟩ := List.mem_map.1 hx
      rfl
    · rw [List.length_map]; omega
    · intro x y hx hy
      obtain ⟨q, hqm, rfl⟩ := List.mem_map.1 hx
      obtain ⟨p, hpm, rfl⟩ := List.mem_map.1 hy
      exact pcmp_c _ _ [] _ ⟨rfl, rfl⟩
    · intro ys hp hs
      have hp2 : ys.Perm ((out.map fun q => q.2.2).map Pr.pv) := by rw [List.map_map]; exact hp
      obtain ⟨ps, rfl, hn⟩ := prs_of hp2
      have hl : (ps.map Pr.pv).length = (out.map fun q => q.2.2.pv).length := hp.length_eq
      refine Cal.freeze ?_ ⟨_, Try.func29, rfl, rfl⟩
      refine Ob.mk hl ?_
      have e : ((ps.map Pr.pv).drop 0).take (out.map fun q => q.2.2.pv).length = ps.map Pr.pv := by rw [List.drop_zero, ← hl, List.take_length]
      show Cal _ _ [.p (.sl .shr 4 (((ps.map Pr.pv).drop 0).take (out.map fun q => q.2.2.pv).length))] _ _
      rw [e]
      have hk := h ps (hn.trans (hq.map _)) (by
        rw [List.pairwise_map] at hs
        exact hs.imp fun hab q => hab ((cmpI_lt _ _).2 q))
      refine clip_pr _ _ _ ?_
      exact ⟨2, tbS es cl, Nat.le_refl 2, (show (2 : Nat) ≤ 4 by decide), rfl, rfl, WkS.refl _, hk⟩
  · refine Any.mk fun b k v hb hkv => ?_
    obtain ⟨fe, hfe, hent⟩ := List.mem_map.1 hkv
    cases hent
    obtain ⟨fe', hfe', hbe⟩ := List.mem_map.1 hb
    have hin : fe ∈ rest := by
      have : fe' = fe := nd_eqT hi.nd (hq.mem_iff.1 (List.mem_append_right _ hfe')) hfe hbe
      rw [← this]; exact hfe'
    have hndr : (rest.map (·.1)).Nodup := by
      have h1 : ((out ++ rest).map (·.1)).Nodup := (hq.map _).nodup_iff.2 hi.nd
      rw [List.map_append] at h1
      exact (List.nodup_append.1 h1).2.1
    have hpo := perm_outT hndr hin
    have hpl := hpo.length_eq
    rw [List.length_cons] at hpl
    refine Br.t rfl ?_
    refine Ob.mk rfl ⟨ii fe.2.1, fe.2.2.pv, Ob.mk hkv ?_⟩
    refine Ob.mk (okst rfl rfl rfl) ?_
    refine copy_c fe.2.2 (hi.ok _ hfe) _ _ ?_
    refine Ob.mk ?_ ?_
    · refine ⟨rfl, rfl, rfl, ?_⟩
      show ((out.map fun q => q.2.2.pv).length + 1) * 48 ≤ _
      rw [List.length_map]; omega
    · refine ⟨(out ++ [fe], rest.filter (fun q => !(q.1 == fe.1)), some (fe.1, cl)), ?_, by show (rest.filter _).length < rest.length; omega, (show (3 : Nat) ≤ 4 by decide), Trim.mk' ?_ ?_ rfl rfl (show (4 : Nat) ≤ 5 by decide)⟩
      · show ((out ++ [fe]) ++ rest.filter _).Perm es
        rw [List.append_assoc]
        exact ((hpo.symm.append_left out)).trans hq
      · show _ = [(3, AV.osl 3 ((out ++ [fe]).map fun q => q.2.2.pv).length 0 ((out ++ [fe]).map fun q => q.2.2.pv).length), _]
        rw [List.map_append]; rfl
      · show _ = [_, _, some (AObj.iterM 0 _ ((rest.filter (fun q => !(q.1 == fe.1))).map (·.1), _)), some (AObj.buf 4 ((out ++ [fe]).map fun q => q.2.2.pv) none)]
        have e1 : (rest.filter (fun q => !(q.1 == fe.1))).map (·.1) = (rest.map (·.1)).filter fun x => !(x == fe.1) := by
          rw [List.filter_map]; rfl
        rw [List.map_append, e1]; rfl
end Go.Proofs.Ytlnelaajlhfabaa.AW


open Go Go.Proofs.Ytlnelaajlhfabaa.AW Go.Proofs
namespace Go.Proofs.Ytlnelaajlhfabaa.AW
set_option maxRecDepth 100000
set_option linter.unusedSimpArgs false
set_option linter.unusedVariables false

/-! ### Get, and Fold of an owned row -/
def gtC (o : Option Pr) : AV := .tup [.p (o.getD pr0).pv, .p (.bool o.isSome)]
set_option maxHeartbeats 4000000 in
theorem tget_c (es : List TE) (cl : Nat) (hes : TOk es) (n : Int) (K : AV → Store → Prop) (h : K (gtC (tGet es n)) (tbS es cl)) : Cal Try.prog 13 [.ref 1 0, .p (ii n)] (tbS es cl) K := by
  refine Cal.cut ?_
  refine Cal.intro Try.func13 (by decide +kernel) rfl rfl ?_
  have hge := get_tent n es
  cases hg : tGet es n with
  | none =>
    rw [hg] at h hge
    have hc : ∀ s', Cal Try.prog 24 [.p pr0N] s' fun v s'' => v = .p pr0.pv ∧ s'' = s' := fun s' =>
      Cal.argsD (args' := [.p pr0.pv]) (copy_c pr0 pr0_len s' _ ⟨rfl, rfl⟩) ⟨.inr ⟨_, _, rfl, rfl, wk_pr0⟩, trivial⟩
    refine Opt.n hge ?_
    refine Ob.mk (okst rfl rfl rfl) ?_
    refine Cal.argsD (args' := [.p pr0.pv]) (copy_c pr0 pr0_len _ _ ?_) ⟨.inr ⟨_, _, rfl, rfl, wk_pr0⟩, trivial⟩
    refine Ob.mk (okst rfl rfl rfl) ?_
    exact ⟨2, tbS es cl, Nat.le_refl 2, (show (2 : Nat) ≤ 4 by decide), rfl, rfl, WkS.refl _, h⟩
  | some p =>
    rw [hg] at h hge
    have hp := hes.get hg
    refine Opt.s hge ?_
    refine Ob.mk (okst rfl rfl rfl) ?_
    refine copy_c p hp _ _ ?_
    refine Ob.mk (okst rfl rfl rfl) ?_
    exact ⟨2, tbS es cl, Nat.le_refl 2, (show (2 : Nat) ≤ 4 by decide), rfl, rfl, WkS.refl _, h⟩
set_option maxHeartbeats 8000000 in
theorem tfold_o (L : List Bt) (hL : L.length ≤ 1000000000) (hb : ∀ b, b ∈ L → b.small) (K : AV → Store → Prop) (h : K (.ref 2 0) ([some (.buf 7 (L.map Bt.pv))] ++ [some (.map (.int .i64) ((tApps ([], 0) L).1.map tent) (tApps ([], 0) L).2), some (.cells [.map 1])])) : Cal Try.prog 5 [.osl 0 L.length 0 L.length] [some (.buf 7 (L.map Bt.pv))] K := by
  refine Cal.cut ?_
  refine Cal.intro Try.func5 (by decide +kernel) rfl rfl ?_
  refine Cal.frameK [] (tnew_c _ fun _ => ?_) rfl rfl rfl
  have hlm := rowL L
  refine LoopX.fam [3, 7, 8, 9] (fun (j : Nat) => ([(3, .ref 2 0), (7, .osl 0 L.length 0 L.length), (8, .p (ii L.length)), (9, .p (ii (j : Nat)))], [some (.buf 7 (L.map Bt.pv)), some (.map (.int .i64) ((tApps ([], 0) (L.take j)).1.map tent) (tApps ([], 0) (L.take j)).2), some (.cells [.map 1])]))
    (fun j => j ≤ L.length) (fun j => L.length - j) 0 (Nat.zero_le _) (Trim.mk' rfl rfl rfl rfl (Nat.le_refl _)) ?_
  intro j hj
  have hj : j ≤ L.length := hj
  refine Br.mk (fun hc => ?_) (fun hc => ?_)
  · have hc : (j : Int) < (L.length : Nat) := of_decide_eq_true hc
    have hj1 : j < L.length := by omega
    have ej : IntKind.i64.wrap ((j : Int) + 1) = ((j + 1 : Nat) : Int) := by rw [wrap_i64] <;> omega
    refine Ob.mk ⟨hlm, Int.natCast_nonneg _, hc⟩ ?_
    have hgl : (L.map Bt.pv)[((0 + ((j : Nat) : Int).toNat : Nat) : Int).toNat]? = some L[j].pv := by rw [Nat.zero_add, Int.toNat_natCast]; exact getL hj1
    refine Ob.mk hlm ?_
    refine Idx.mk _ (Int.natCast_nonneg _) hgl ?_
    refine Ob.mk (okst rfl rfl rfl) ?_
    have hin : TInv (tApps ([], 0) (L.take j)).1 (tApps ([], 0) (L.take j)).2 := TInv.nil.apps
    refine Cal.frameK [1, 2] (tapply_c _ _ hin.ok L[j] (hb _ (List.getElem_mem hj1)) _ fun _ => ?_) rfl rfl rfl
    have htk : tApps ([], 0) (L.take (j + 1)) = tApp (tApps ([], 0) (L.take j)).1 (tApps ([], 0) (L.take j)).2 L[j] := by rw [take_succ' hj1, tApps_snoc]
    refine ⟨j + 1, hj1, by show L.length - (j + 1) < L.length - j; omega, Nat.le_refl _, Trim.mk' ?_ ?_ rfl rfl (show 3 ≤ 4 by decide)⟩
    · refine Eq.trans (b := [_, _, _, (9, AV.p (ii (IntKind.i64.wrap ((j : Int) + 1))))]) rfl ?_
      rw [ej]; rfl
    · show _ = [_, some (AObj.map (.int .i64) ((tApps ([], 0) (L.take (j + 1))).1.map tent) (tApps ([], 0) (L.take (j + 1))).2), _]
      rw [htk]; rfl
  · have hc : ¬ (j : Int) < (L.length : Nat) := of_decide_eq_false hc
    have : j = L.length := by omega
    subst this
    rw [show tApps ([], 0) L = tApps ([], 0) (L.take L.length) by rw [List.take_length]] at h
    exact ⟨3, _, (by show (1 : Nat) ≤ 3; decide), (show (3 : Nat) ≤ 3 by decide), rfl, rfl, WkS.refl _, h⟩
end Go.Proofs.Ytlnelaajlhfabaa.AW

open Go Go.Proofs.Ytlnelaajlhfabaa.AW Go.Proofs
namespace Go.Proofs.Ytlnelaajlhfabaa.AW
set_option linter.unusedSimpArgs false
set_option linter.unusedVariables false

/-! ### What one producer does turns no other one -/
theorem tGet_tSet (n : Int) (x : Pr) : ∀ (es : List TE) (m : Int), tGet (tSet es n x) m = if m = n then (tGet es n).map (fun _ => x) else tGet es m
  | [], m => by simp [tSet, tGet]
  | (t, k, p) :: r, m => by
    unfold tSet
    by_cases h : n = k
    · subst h
      rw [if_pos rfl]
      by_cases hm : m = n
      · subst hm; simp [tGet]
      · simp [tGet, hm]
    · rw [if_neg h]
      by_cases hm : m = k
      · subst hm
        have : ¬ m = n := fun e => h e.symm
        simp [tGet, this]
      · have ih := tGet_tSet n x r m
        simp only [tGet, if_neg hm, if_neg h, ih]
theorem tGet_app (es : List TE) (t : Nat) (n : Int) (x : Pr) (m : Int) : tGet (es ++ [(t, n, x)]) m = (tGet es m).orElse fun _ => if m = n then some x else none := by
  induction es with
  | nil => simp [tGet]
  | cons q r ih =>
    obtain ⟨s, k, p⟩ := q
    rw [List.cons_append]
    by_cases h : m = k
    · simp [tGet, h]
    · simp only [tGet, if_neg h, ih]
theorem tGet_tPut (es : List TE) (cl : Nat) (n : Int) (x : Pr) (m : Int) : tGet (tPut es cl n x) m = if m = n then some x else tGet es m := by
  unfold tPut
  cases hg : tGet es n with
  | some q => simp only [tGet_tSet, hg, Option.map_some]
  | none =>
    simp only [tGet_app]
    by_cases h : m = n
    · subst h; rw [hg, if_pos rfl]; simp
    · rw [if_neg h, if_neg h]; cases tGet es m <;> rfl
/-- A step of one producer's own state. -/
def own1 (o : Option Pr) (b : Bt) : Option Pr := if ((rightV b != 0) || (b.prod == -1)) = true then o else some (applyV (o.getD pr0) o.isSome b)
theorem tGet_tApp (es : List TE) (cl : Nat) (b : Bt) (m : Int) : tGet (tApp es cl b).1 m = if m = b.prod then own1 (tGet es m) b else tGet es m := by
  unfold tApp own1
  split
  · split <;> rfl
  · rw [tGet_tPut]
    by_cases h : m = b.prod
    · subst h; rfl
    · rw [if_neg h, if_neg h]
theorem tGet_apps (m : Int) : ∀ (L : List Bt) (q : List TE × Nat), tGet (tApps q L).1 m = (L.filter fun b => b.prod == m).foldl own1 (tGet q.1 m)
  | [], q => rfl
  | b :: r, q => by
    show tGet (tApps (tApp q.1 q.2 b) r).1 m = _
    rw [tGet_apps m r, tGet_tApp]
    by_cases h : b.prod = m
    · rw [List.filter_cons_of_pos (by simpa using h), if_pos h.symm]; rfl
    · rw [List.filter_cons_of_neg (by simpa using h), if_neg fun e => h e.symm]
def ownL (L : List Bt) (m : Int) : List Bt := L.filter fun b => b.prod == m
theorem tGet_own (L : List Bt) (m : Int) : tGet (tApps ([], 0) L).1 m = tGet (tApps ([], 0) (ownL L m)).1 m := by
  rw [tGet_apps, tGet_apps]
  unfold ownL
  rw [List.filter_filter]
  simp
theorem own1_some {o : Option Pr} (h : o.isSome = true) : ∀ {L : List Bt}, (L.foldl own1 o).isSome = true
  | [] => h
  | b :: r => by
    show (r.foldl own1 (own1 o b)).isSome = true
    refine own1_some ?_
    unfold own1
    split
    · exact h
    · rfl
theorem tGet_some {L : List Bt} {m : Int} (hm : m ≠ -1) (hr : ∀ b, b ∈ L → rightV b = 0) : (tGet (tApps ([], 0) (ownL L m)).1 m).isSome = decide ((((ownL L m).map Bt.pv).length : Nat) > (0 : Int)) := by
  rw [tGet_apps]
  have e : ((ownL L m).filter fun b => b.prod == m) = ownL L m := by unfold ownL; rw [List.filter_filter]; simp
  rw [e]
  cases ho : ownL L m with
  | nil => rfl
  | cons b r =>
    have hb : b ∈ L ∧ (b.prod == m) = true := List.mem_filter.1 (by show b ∈ ownL L m; rw [ho]; exact List.mem_cons_self ..)
    have hp : b.prod = m := by simpa using hb.2
    have h1 : own1 none b = some (applyV pr0 false b) := by
      unfold own1
      rw [if_neg (by rw [hr b hb.1, hp]; simpa using hm)]
      rfl
    have h2 : ((b :: r).foldl own1 (tGet ([] : List TE) m)).isSome = true := by
      show (r.foldl own1 (own1 none b)).isSome = true
      rw [h1]; exact own1_some rfl
    rw [h2]
    symm
    apply decide_eq_true
    simp
theorem tPut_keys {es : List TE} {cl : Nat} {n : Int} {x : Pr} {m : Int} (h : ∀ k, k ∈ es.map (·.2.1) → k = m) (hn : n = m) : ∀ k, k ∈ (tPut es cl n x).map (·.2.1) → k = m := by
  unfold tPut
  cases tGet es n with
  | some q => simp only [tSet_key]; exact h
  | none =>
    intro k hk
    simp only [List.map_append, List.mem_append, List.map_cons, List.map_nil, List.mem_singleton] at hk
    rcases hk with hk | hk
    · exact h k hk
    · rw [hk]; exact hn
theorem apps_keys {m : Int} : ∀ {L : List Bt} {q : List TE × Nat}, (∀ b, b ∈ L → b.prod = m) → (∀ k, k ∈ q.1.map (·.2.1) → k = m) → ∀ k, k ∈ (tApps q L).1.map (·.2.1) → k = m
  | [], q, _, h => h
  | b :: r, q, hL, h => by
    refine apps_keys (L := r) (q := tApp q.1 q.2 b) (fun c hc => hL c (List.mem_cons_of_mem _ hc)) ?_
    unfold tApp
    split
    · exact h
    · exact tPut_keys h (hL b (List.mem_cons_self ..))
theorem one_key {l : List Int} {m : Int} (hn : l.Nodup) (h : ∀ k, k ∈ l → k = m) : l.length ≤ 1 := by
  cases l with
  | nil => exact Nat.zero_le _
  | cons a r =>
    cases r with
    | nil => exact Nat.le_refl _
    | cons b s =>
      exfalso
      have h1 := h a (by simp)
      have h2 := h b (by simp)
      rw [List.nodup_cons] at hn
      exact hn.1 (by rw [h1, ← h2]; simp)
theorem tGet_isSome {es : List TE} {n : Int} (h : (tGet es n).isSome = true) : 0 < es.length := by
  cases es with
  | nil => cases h
  | cons a r => simp
theorem own_len {L : List Bt} {m : Int} (hm : m ≠ -1) (hr : ∀ b, b ∈ L → rightV b = 0) : (tApps ([], 0) (ownL L m)).1.length = min (ownL L m).length 1 := by
  have hin : TInv (tApps ([], 0) (ownL L m)).1 (tApps ([], 0) (ownL L m)).2 := TInv.nil.apps
  have h1 : ((tApps ([], 0) (ownL L m)).1.map (·.2.1)).length ≤ 1 := one_key (m := m) hin.keys (apps_keys (fun b hb => by simpa using (List.mem_filter.1 hb).2) (by simp))
  rw [List.length_map] at h1
  have h2 := tGet_some (L := L) hm hr
  by_cases h0 : ownL L m = []
  · rw [h0]; rfl
  · have hp : 0 < (ownL L m).length := List.length_pos_iff.2 h0
    rw [decide_eq_true (by rw [List.length_map]; omega)] at h2
    have := tGet_isSome h2
    omega
theorem RowOk.right {st : Int} {L : List Bt} (h : RowOk st L) : ∀ b, b ∈ L → rightV b = 0 := by
  induction h with
  | nil => intro b hb; cases hb
  | snoc L b h h1 h2 h3 h4 h5 ih =>
    intro c hc
    rcases List.mem_append.1 hc with hc | hc
    · exact ih c hc
    · rw [List.mem_singleton.1 hc]
      by_cases hr : rightV b = 0
      · exact hr
      · exfalso
        unfold tChk at h2
        rw [if_pos (by simpa using hr)] at h2
        exact hr h2
end Go.Proofs.Ytlnelaajlhfabaa.AW


open Go Go.Proofs.Ytlnelaajlhfabaa.AW Go.Proofs
namespace Go.Proofs.Ytlnelaajlhfabaa.AW
set_option maxRecDepth 100000
set_option linter.unusedSimpArgs false
set_option linter.unusedVariables false

/-! ### known -/
def k1 : Bt := ⟨4, 1, 2, 0, true, 0, [([], [])]⟩
def k2 : Bt := ⟨5, 1, 2, -1, true, 2, []⟩
def k3 : Bt := ⟨0, -1, -1, -1, false, 0, [([], [])]⟩
def k4 : Bt := ⟨0, 0, 0, 0, false, 0, []⟩
theorem right0 {b : Bt} (hp : plainV b = 0) (hn : b.recs.length ≤ 1) (hz : ∀ q, q ∈ b.recs → q.1.length + q.2.length ≤ 0) : rightV b = 0 := by
  have h1 := wrB_len b
  have h2 := rcBs_le hz
  have h3 : (wrB b).length ≤ 4096 := by
    rw [h1]
    have : b.recs.length * (0 + 20) ≤ 1 * (0 + 20) := Nat.mul_le_mul_right _ hn
    omega
  unfold rightV
  rw [hp]
  rw [if_neg (by decide), if_neg (by rw [bytesP_len]; intro h; have := of_decide_eq_true h; omega)]
theorem right_k1 : rightV k1 = 0 := right0 (by decide +kernel) (by decide) (by decide)
theorem right_k2 : rightV k2 = 0 := right0 (by decide +kernel) (by decide) (by intro q hq; cases hq)
theorem right_k3 : rightV k3 = 0 := right0 (by decide +kernel) (by decide) (by decide)
theorem right_k4 : rightV k4 = 12 := by
  have h : plainV k4 = 12 := by decide +kernel
  unfold rightV; rw [h]; rfl
theorem sm_k1 : k1.small := ⟨by decide, by decide⟩
theorem sm_k2 : k2.small := ⟨by decide, by intro q hq; cases hq⟩
theorem sm_k3 : k3.small := ⟨by decide, by decide⟩
theorem sm_k4 : k4.small := ⟨by decide, by intro q hq; cases hq⟩
def p1 : Pr := applyV pr0 false k1
def p2 : Pr := applyV p1 true k2
theorem app_k1 : tApp [] 0 k1 = ([(0, 1, p1)], 1) := by
  unfold tApp; rw [right_k1]; rfl
theorem app_k2 : tApp [(0, 1, p1)] 1 k2 = ([(0, 1, p2)], 1) := by
  unfold tApp; rw [right_k2]; rfl
theorem drop_k2 : tDrop (some p1) k2 = ((1, 4, 5), true) := by
  unfold tDrop; rw [right_k2]; rfl
theorem chk_k3 (o : Option Pr) : tChk o k3 = (-1, 0) := by
  unfold tChk; rw [right_k3]; rfl
theorem chk_k4 (o : Option Pr) : tChk o k4 = (-1, 12) := by
  unfold tChk; rw [right_k4]; rfl
theorem op_p1 : p1.op = 4 := rfl
theorem op_p2 : p2.op = -1 := rfl
theorem inv_1 : TInv [(0, 1, p1)] 1 := by have := TInv.nil.app k1; rw [app_k1] at this; exact this
theorem inv_2 : TInv [(0, 1, p2)] 1 := by have := inv_1.app k2; rw [app_k2] at this; exact this
def nR : PV := .agg [.sl .nil 0 [], .sl .nil 0 []]
def kN (b : Bt) (r : PV) : PV := .agg [ii b.base, ii b.prod, ii b.epoch, ii b.seq, .bool b.txn, ii b.mark, r]
theorem wk_kN {b : Bt} {r : PV} (h : WkD r (rcP b.recs)) : WkD (kN b r) b.pv := .agg _ _ (.cons _ _ _ _ (.refl _) (.cons _ _ _ _ (.refl _) (.cons _ _ _ _ (.refl _) (.cons _ _ _ _ (.refl _) (.cons _ _ _ _ (.refl _) (.cons _ _ _ _ (.refl _) (.cons _ _ _ _ h .nil)))))))
theorem wk_0 : WkD (.sl .nil 0 []) (rcP []) := .nil 0 .shr 2
theorem kopen0 (K : AV → Store → Prop) (h : K (ib (-1, false)) (tbS [] 0)) : Cal Try.prog 6 [.ref 1 0] (tbS [] 0) K :=
  topen_c [] 0 TInv.nil K fun r hr => by
    rw [hr.eq (t := (-1, false)) (.inl ⟨rfl, rfl, fun x hx => by cases hx⟩)]; exact h
theorem kopen1 (K : AV → Store → Prop) (h : K (ib (4, true)) (tbS [(0, 1, p1)] 1)) : Cal Try.prog 6 [.ref 1 0] (tbS [(0, 1, p1)] 1) K :=
  topen_c _ _ inv_1 K fun r hr => by
    rw [hr.eq (t := (4, true)) (.inr ⟨rfl, by decide, by rw [List.map_cons, op_p1]; simp, fun x hx _ => by
      rw [List.map_cons, op_p1] at hx
      simp at hx; subst hx; decide⟩)]; exact h
theorem kapp1 {r : PV} (hw : WkD r (rcP k1.recs)) (K : AV → Store → Prop) (h : K (db (tDrop none k1)) (tbS [(0, 1, p1)] 1)) : Cal Try.prog 12 [.ref 1 0, .p (kN k1 r)] (tbS [] 0) K :=
  Cal.argsD (args' := [.ref 1 0, .p k1.pv]) (tapply_c [] 0 TInv.nil.ok k1 sm_k1 K (by rw [app_k1]; exact h)) ⟨.inl rfl, .inr ⟨_, _, rfl, rfl, wk_kN hw⟩, trivial⟩
theorem kapp2 (K : AV → Store → Prop) (h : K (db ((1, 4, 5), true)) (tbS [(0, 1, p2)] 1)) : Cal Try.prog 12 [.ref 1 0, .p (kN k2 (.sl .nil 0 []))] (tbS [(0, 1, p1)] 1) K :=
  Cal.argsD (args' := [.ref 1 0, .p k2.pv]) (tapply_c _ 1 inv_1.ok k2 sm_k2 K (by rw [app_k2, show tGet [(0, 1, p1)] k2.prod = some p1 from rfl, drop_k2]; exact h)) ⟨.inl rfl, .inr ⟨_, _, rfl, rfl, wk_kN wk_0⟩, trivial⟩
theorem kget (K : AV → Store → Prop) (h : K (gtC (some p2)) (tbS [(0, 1, p2)] 1)) : Cal Try.prog 13 [.ref 1 0, .p (ii 1)] (tbS [(0, 1, p2)] 1) K :=
  tget_c _ 1 inv_2.ok 1 K h
theorem kchk3 {r : PV} (hw : WkD r (rcP k3.recs)) (K : AV → Store → Prop) (h : K (i2 (-1, 0)) (tbS [(0, 1, p2)] 1)) : Cal Try.prog 14 [.ref 1 0, .p (kN k3 r)] (tbS [(0, 1, p2)] 1) K :=
  Cal.argsD (args' := [.ref 1 0, .p k3.pv]) (tcheck_c _ 1 inv_2.ok k3 sm_k3 K (by rw [chk_k3]; exact h)) ⟨.inl rfl, .inr ⟨_, _, rfl, rfl, wk_kN hw⟩, trivial⟩
theorem kchk4 (K : AV → Store → Prop) (h : K (i2 (-1, 12)) (tbS [(0, 1, p2)] 1)) : Cal Try.prog 14 [.ref 1 0, .p (kN k4 (.sl .nil 0 []))] (tbS [(0, 1, p2)] 1) K :=
  Cal.argsD (args' := [.ref 1 0, .p k4.pv]) (tcheck_c _ 1 inv_2.ok k4 sm_k4 K (by rw [chk_k4]; exact h)) ⟨.inl rfl, .inr ⟨_, _, rfl, rfl, wk_kN wk_0⟩, trivial⟩
theorem kall (K : AV → Store → Prop) (h : ∀ p : Pr, K (.p (prsC [p])) (tbS [(0, 1, p2)] 1)) : Cal Try.prog 15 [.ref 1 0] (tbS [(0, 1, p2)] 1) K :=
  tall_c _ 1 inv_2 (by show 1 ≤ 1000000000; decide) K fun ps hp _ => by
    have hl : ps.length = 1 := hp.length_eq
    match ps, hl with
    | [p], _ => exact h p
def r1 : PV := .sl .clip 2 [.agg [.str [], .str []]]
theorem wk_1 : WkD r1 (rcP [([], [])]) := .sl .clip 2 _ _ rfl (fun y hy => by rw [List.mem_singleton.1 hy]; exact ⟨rfl, rfl⟩) (.cons _ _ _ _ (.refl _) (.cons _ _ _ _ (.refl _) .nil))
set_option maxHeartbeats 8000000 in
theorem known_c (s : Store) (K : AV → Store → Prop) (h : K (.p (.bool true)) s) : Cal Try.prog 7 [] s K := by
  refine Cal.pure (args := []) ?_
  refine Cal.intro Try.func7 (by decide +kernel) rfl rfl ?_
  refine Cal.frameK [] (tnew_c _ fun _ => ?_) rfl rfl rfl
  refine Br.f rfl ?_
  refine Cal.frameK [0, 1] (kopen0 _ fun _ => ?_) rfl rfl rfl
  try refine Or.inl ?_
  refine Ob.mk (okst rfl rfl rfl) ?_
  refine Cal.frameK [0, 1] (kapp1 (r := r1) wk_1 _ fun _ => ?_) rfl rfl rfl
  refine Cal.frameK [0, 1] (kopen1 _ fun _ => ?_) rfl rfl rfl
  refine Cal.frameK [0, 1] (kapp2 _ fun _ => ?_) rfl rfl rfl
  refine Ob.mk (okst rfl rfl rfl) ?_
  refine Cal.frameK [0, 1] (kget _ fun _ => ?_) rfl rfl rfl
  refine Ob.mk (okst rfl rfl rfl) ?_
  try refine Or.inl ?_
  refine Cal.frameK [0, 1] (kchk3 (r := r1) wk_1 _ fun _ => ?_) rfl rfl rfl
  refine Cal.frameK [0, 1] (kchk4 _ fun _ => ?_) rfl rfl rfl
  repeat' (first
    | (apply Br.t; · (first | rfl | (simp only [*] <;> rfl)))
    | (apply Br.f; · (first | rfl | (simp only [*] <;> rfl)))
    | refine Ob.mk (okst rfl rfl rfl) ?_
    | refine Ob.mk ⟨by decide +kernel, by decide +kernel⟩ ?_
    | refine Cal.frameK [0, 1] (kall _ fun p _ => ?_) rfl rfl rfl
    | refine Br.mkT (fun c => ?_) (fun c => ?_)
    | refine Br.mkF (fun c => ?_) (fun c => ?_)
    | refine Br.mk (fun c => ?_) (fun c => ?_)
    | exact h
    | (simp only [*, Bool.true_and, Bool.false_and, Bool.true_or, Bool.false_or, Bool.and_true, Bool.and_false, Bool.or_true, Bool.or_false, Bool.not_true, Bool.not_false, if_true, if_false, reduceIte, Bool.false_eq_true] at h; exact h))
end Go.Proofs.Ytlnelaajlhfabaa.AW

open Go Go.Proofs.Ytlnelaajlhfabaa.AW Go.Proofs
namespace Go.Proofs.Ytlnelaajlhfabaa.AW
set_option linter.unusedSimpArgs false
set_option linter.unusedVariables false

/-! ### The least open offset: the base of the first transaction's batch that no marker ends -/
/-- A transaction's batch at place j, which no later marker of its producer ends. -/
def liveB (b : Bt) : Bool := b.txn && (b.mark == 0)
def endsB (b c : Bt) : Bool := (c.mark != 0) && (c.prod == b.prod)
def Live (L : List Bt) (j : Nat) : Prop := ∃ hj : j < L.length, liveB L[j] = true ∧ (L.drop (j + 1)).any (endsB L[j]) = false
def opOf (o : Option Pr) : Int := match o with | some p => p.op | none => -1
/-- What is asked of a row. -/
structure RowM (L : List Bt) : Prop where
  right : ∀ b, b ∈ L → rightV b = 0
  mono : ∀ i j (hi : i < L.length) (hj : j < L.length), i ≤ j → L[i].base ≤ L[j].base
  pos : ∀ b, b ∈ L → 0 ≤ b.base
  txn : ∀ b, b ∈ L → liveB b = true → b.prod ≠ -1

theorem live_snoc_old {L : List Bt} {b : Bt} {j : Nat} (hj : j < L.length) : Live (L ++ [b]) j ↔ Live L j ∧ endsB L[j] b = false := by
  have e : (L ++ [b])[j]'(by simp; omega) = L[j] := List.getElem_append_left hj
  have d : (L ++ [b]).drop (j + 1) = L.drop (j + 1) ++ [b] := by rw [List.drop_append_of_le_length (by omega)]
  constructor
  · rintro ⟨h1, h2, h3⟩
    rw [e] at h2 h3
    rw [d, List.any_append, Bool.or_eq_false_iff] at h3
    exact ⟨⟨hj, h2, h3.1⟩, by simpa using h3.2⟩
  · rintro ⟨⟨_, h2, h3⟩, h4⟩
    refine ⟨by simp; omega, ?_, ?_⟩
    · rw [e]; exact h2
    · rw [e, d, List.any_append, h3]; simpa using h4
theorem live_snoc_new {L : List Bt} {b : Bt} : Live (L ++ [b]) L.length ↔ liveB b = true := by
  have e : (L ++ [b])[L.length]'(by simp) = b := by simp
  constructor
  · rintro ⟨h1, h2, h3⟩; rw [e] at h2; exact h2
  · intro h
    refine ⟨by simp, by rw [e]; exact h, ?_⟩
    rw [List.drop_of_length_le (by simp)]; rfl
theorem tGet_snoc (L : List Bt) (b : Bt) (m : Int) : tGet (tApps ([], 0) (L ++ [b])).1 m = if m = b.prod then own1 (tGet (tApps ([], 0) L).1 m) b else tGet (tApps ([], 0) L).1 m := by
  rw [tApps_snoc, tGet_tApp]
def opL (L : List Bt) (m : Int) : Int := opOf (tGet (tApps ([], 0) L).1 m)
theorem own1_op {o : Option Pr} {b : Bt} (hr : rightV b = 0) (hp : b.prod ≠ -1) : opOf (own1 o b) = if b.mark ≠ 0 then -1 else if b.txn = true ∧ opOf o < 0 then b.base else opOf o := by
  have key : ∀ (l0 : List Tri) (op0 : Int), (behV l0 op0 b).op = if b.mark ≠ 0 then -1 else if b.txn = true ∧ op0 < 0 then b.base else op0 := by
    intro l0 op0
    unfold behV
    by_cases hm : b.mark = 0
    · rw [if_neg (c := (b.mark != 0) = true) (by simpa using hm), if_neg (c := b.mark ≠ 0) (by simpa using hm)]
      show (if (b.txn && decide (op0 < 0)) = true then b.base else op0) = _
      by_cases h : b.txn = true ∧ op0 < 0
      · rw [if_pos h, if_pos (by simp [h])]
      · rw [if_neg h, if_neg (by simpa using h)]
    · rw [if_pos (by simpa using hm), if_pos (by simpa using hm)]
  unfold own1
  rw [if_neg (by rw [hr]; simpa using hp)]
  have e : (if o.isSome = true then (o.getD pr0).op else -1) = opOf o := by cases o <;> rfl
  show (behV _ (if o.isSome = true then (o.getD pr0).op else -1) b).op = _
  rw [key, e]
theorem opL_snoc {L : List Bt} {b : Bt} (hr : rightV b = 0) (m : Int) (hm : m ≠ -1) : opL (L ++ [b]) m = if m = b.prod then (if b.mark ≠ 0 then -1 else if b.txn = true ∧ opL L m < 0 then b.base else opL L m) else opL L m := by
  unfold opL
  rw [tGet_snoc]
  by_cases h : m = b.prod
  · rw [if_pos h, if_pos h, own1_op hr (by rw [← h]; exact hm)]
  · rw [if_neg h, if_neg h]
theorem snocI {p : List Bt → Prop} (h0 : p []) (h1 : ∀ L b, p L → p (L ++ [b])) : ∀ L, p L := by
  intro L
  rw [← List.reverse_reverse L]
  induction L.reverse with
  | nil => exact h0
  | cons b r ih => rw [List.reverse_cons]; exact h1 _ _ ih
theorem RowM.init {L : List Bt} {b : Bt} (h : RowM (L ++ [b])) : RowM L := by
  refine ⟨fun c hc => h.right c (by simp [hc]), fun i j hi hj hij => ?_, fun c hc => h.pos c (by simp [hc]), fun c hc => h.txn c (by simp [hc])⟩
  have := h.mono i j (by simp; omega) (by simp; omega) hij
  rwa [List.getElem_append_left hi, List.getElem_append_left hj] at this
theorem liveB_iff (b : Bt) : liveB b = true ↔ b.txn = true ∧ b.mark = 0 := by unfold liveB; simp
theorem endsB_no (b c : Bt) : endsB b c = false ↔ (c.mark = 0 ∨ c.prod ≠ b.prod) := by
  unfold endsB
  by_cases h1 : c.mark = 0 <;> by_cases h2 : c.prod = b.prod <;> simp [h1, h2]
/-- An open offset is the base of a live batch of its producer. -/
theorem op_live : ∀ L : List Bt, RowM L → ∀ m, m ≠ -1 → 0 ≤ opL L m → ∃ j, ∃ hj : j < L.length, Live L j ∧ L[j].prod = m ∧ L[j].base = opL L m := by
  refine snocI ?_ fun L b ih => ?_
  · intro _ m _ h; exact absurd (show (0 : Int) ≤ -1 from h) (by decide)
  · intro hr m hm h
    have hrb := hr.right b (by simp)
    rw [opL_snoc hrb m hm] at h ⊢
    have ho := ih hr.init m hm
    have new : m = b.prod → liveB b = true → ∃ j, ∃ hj : j < (L ++ [b]).length, Live (L ++ [b]) j ∧ (L ++ [b])[j].prod = m ∧ (L ++ [b])[j].base = b.base := fun e hl =>
      ⟨L.length, by simp, live_snoc_new.2 hl, by simp [e], by simp⟩
    have old : (b.mark = 0 ∨ m ≠ b.prod) → 0 ≤ opL L m → ∃ j, ∃ hj : j < (L ++ [b]).length, Live (L ++ [b]) j ∧ (L ++ [b])[j].prod = m ∧ (L ++ [b])[j].base = opL L m := fun e h0 => by
      obtain ⟨j, hj, h1, h2, h3⟩ := ho h0
      refine ⟨j, by simp; omega, (live_snoc_old hj).2 ⟨h1, (endsB_no _ _).2 (e.imp id fun q => ?_)⟩, ?_, ?_⟩
      · rw [h2]; exact fun q2 => q q2.symm
      · rw [List.getElem_append_left hj]; exact h2
      · rw [List.getElem_append_left hj]; exact h3
    by_cases e : m = b.prod
    · rw [if_pos e] at h ⊢
      by_cases hmk : b.mark = 0
      · rw [if_neg (by simpa using hmk)] at h ⊢
        by_cases ht : b.txn = true ∧ opL L m < 0
        · rw [if_pos ht] at h ⊢
          exact new e ((liveB_iff b).2 ⟨ht.1, hmk⟩)
        · rw [if_neg ht] at h ⊢
          exact old (.inl hmk) h
      · rw [if_pos hmk] at h; exact absurd h (by decide)
    · rw [if_neg e] at h ⊢
      exact old (.inr e) h
/-- A live batch's producer has an open offset, not behind the batch's base. -/
theorem live_op : ∀ L : List Bt, RowM L → ∀ j (hj : j < L.length), Live L j → 0 ≤ opL L L[j].prod ∧ opL L L[j].prod ≤ L[j].base := by
  refine snocI ?_ fun L b ih => ?_
  · intro _ j hj; exact absurd hj (by simp)
  · intro hr j hj hl
    have hrb := hr.right b (by simp)
    have hpb := hr.pos b (by simp)
    by_cases hjl : j < L.length
    · obtain ⟨h1, h2⟩ := (live_snoc_old hjl).1 hl
      have h2 := (endsB_no _ _).1 h2
      have hm := hr.txn L[j] (by simp) (by obtain ⟨_, q, _⟩ := h1; exact q)
      have hi := ih hr.init j hjl h1
      rw [List.getElem_append_left hjl, opL_snoc hrb _ hm]
      by_cases e : L[j].prod = b.prod
      · rw [if_pos e]
        have hmk : b.mark = 0 := h2.resolve_right fun q => q e.symm
        rw [if_neg (by simpa using hmk), if_neg (by omega)]
        exact hi
      · rw [if_neg e]; exact hi
    · have : j = L.length := by simp at hj; omega
      subst this
      have hlb := live_snoc_new.1 hl
      have hm := hr.txn b (by simp) hlb
      obtain ⟨ht, hmk⟩ := (liveB_iff b).1 hlb
      have e : (L ++ [b])[L.length]'(by simp) = b := by simp
      rw [e, opL_snoc hrb _ hm, if_pos rfl, if_neg (by simpa using hmk)]
      by_cases h0 : opL L b.prod < 0
      · rw [if_pos ⟨ht, h0⟩]; exact ⟨hpb, Int.le_refl _⟩
      · rw [if_neg (by omega)]
        refine ⟨by omega, ?_⟩
        obtain ⟨i, hi, _, _, h3⟩ := op_live L hr.init b.prod hm (by omega)
        rw [← h3]
        have := hr.mono i L.length (by simp; omega) (by simp) (by omega)
        rwa [List.getElem_append_left hi, e] at this
theorem plain_ok {b : Bt} (h : rightV b = 0) : plainV b = 0 := by
  unfold rightV at h
  by_cases hp : (plainV b != 0) = true
  · rw [if_pos hp] at h; exact h
  · simpa using hp
theorem right_base {b : Bt} (h : rightV b = 0) : 0 ≤ b.base ∧ b.base ≤ 1099511627776 := by
  have h := plain_ok h
  unfold plainV at h
  by_cases hb : (decide (b.base < 0) || decide (b.base > 1099511627776)) = true
  · rw [if_pos hb] at h; exact absurd h (by decide)
  · simp at hb; omega
theorem right_live {b : Bt} (h : rightV b = 0) (hl : liveB b = true) : b.prod ≠ -1 := by
  obtain ⟨ht, hm⟩ := (liveB_iff b).1 hl
  have hb := right_base h
  have h := plain_ok h
  unfold plainV at h
  rw [if_neg (by simp; omega), if_neg (by simpa using hm)] at h
  intro hp
  have hn : noneV b = false := by unfold noneV; simp [ht]
  have hh : headV b = false := by unfold headV; simp [hp]
  rw [hn, hh] at h
  simp at h
theorem cnt_in {b : Bt} (h : tinyR b.recs) : 0 ≤ cntV b ∧ cntV b ≤ 4 := by
  unfold cntV
  have := h.1
  split <;> omega
theorem endW_snoc (st : Int) (L : List Bt) (b : Bt) : endW st (L ++ [b]) = endB b := by unfold endW; simp
theorem RowOk.m {L : List Bt} (h : RowOk 0 L) : RowM L := by
  have hr := h.right
  refine ⟨hr, ?_, fun b hb => (right_base (hr b hb)).1, fun b hb hl => right_live (hr b hb) hl⟩
  have key : (∀ i (hi : i < L.length), L[i].base ≤ endW 0 L) ∧ (∀ i j (hi : i < L.length) (hj : j < L.length), i ≤ j → L[i].base ≤ L[j].base) := by
    clear hr
    induction h with
    | nil => exact ⟨fun i hi => absurd hi (by simp), fun i j hi => absurd hi (by simp)⟩
    | snoc L b h h1 h2 h3 h4 h5 ih =>
      have hrb : rightV b = 0 := (RowOk.snoc L b h h1 h2 h3 h4 h5).right b (by simp)
      have hbb := right_base hrb
      have hc := cnt_in h4
      have he : endB b = b.base + cntV b := by unfold endB; rw [wrap_i64] <;> omega
      have hi1 : ∀ i (hi : i < (L ++ [b]).length), (L ++ [b])[i].base ≤ b.base := fun i hi => by
        by_cases hil : i < L.length
        · rw [List.getElem_append_left hil, h1]; exact ih.1 i hil
        · have : i = L.length := by simp at hi; omega
          subst this; simp
      refine ⟨fun i hi => ?_, fun i j hi hj hij => ?_⟩
      · rw [endW_snoc, he]
        have := hi1 i hi
        omega
      · by_cases hjl : j < L.length
        · rw [List.getElem_append_left hjl, List.getElem_append_left (by omega)]
          exact ih.2 i j (by omega) hjl hij
        · have : j = L.length := by simp at hj; omega
          subst this
          have e : (L ++ [b])[L.length]'(by simp) = b := by simp
          rw [e]; exact hi1 i hi
  exact key.2
/-- What Open answers. -/
theorem open_first {L : List Bt} (h : RowM L) {es : List TE} (hes : es = (tApps ([], 0) L).1) (hi : TInv es (tApps ([], 0) L).2) (hk : ∀ q, q ∈ es → q.2.1 ≠ -1) {r : Int × Bool} (hr : IsLeast (es.map fun q => q.2.2.op) r) :
    (∀ j (hj : j < L.length), Live L j → (∀ i, i < j → ¬ Live L i) → r = (L[j].base, true)) ∧ ((∀ j, j < L.length → ¬ Live L j) → r = (-1, false)) := by
  have hget : ∀ q, q ∈ es → tGet es q.2.1 = some q.2.2 := by
    intro q hq
    have hkeys := hi.keys
    clear hr hk hi hes
    induction es with
    | nil => cases hq
    | cons x t ih =>
      rw [List.map_cons, List.nodup_cons] at hkeys
      obtain ⟨s, k, p⟩ := x
      rcases List.mem_cons.1 hq with rfl | hq
      · unfold tGet; rw [if_pos rfl]
      · unfold tGet
        rw [if_neg (fun e => hkeys.1 (List.mem_map.2 ⟨q, hq, e⟩))]
        exact ih hq hkeys.2
  have hop : ∀ q, q ∈ es → opL L q.2.1 = q.2.2.op := fun q hq => by unfold opL; rw [← hes, hget q hq]; rfl
  have hmem : ∀ m, 0 ≤ opL L m → ∃ q, q ∈ es ∧ q.2.2.op = opL L m := fun m hm => by
    unfold opL at hm ⊢
    rw [← hes] at hm ⊢
    cases hg : tGet es m with
    | none => rw [hg] at hm; exact absurd (show (0 : Int) ≤ -1 from hm) (by decide)
    | some p => obtain ⟨t, ht⟩ := tGet_mem hg; exact ⟨_, ht, rfl⟩
  refine ⟨fun j hj hl hno => ?_, fun hno => ?_⟩
  · have h1 := live_op L h j hj hl
    obtain ⟨q, hq, hqo⟩ := hmem _ h1.1
    refine hr.eq (.inr ⟨rfl, h.pos _ (List.getElem_mem hj), ?_, ?_⟩)
    · refine List.mem_map.2 ⟨q, hq, ?_⟩
      show q.2.2.op = L[j].base
      have hkq := hk q hq
      obtain ⟨i, hi2, h3, h4, h5⟩ := op_live L h q.2.1 hkq (by rw [hop q hq, hqo]; exact h1.1)
      rw [hop q hq] at h5
      have hij : ¬ i < j := fun e => hno i e h3
      have := h.mono j i hj hi2 (by omega)
      have h6 : q.2.2.op ≤ L[j].base := by rw [hqo]; exact h1.2
      omega
    · intro x hx hx0
      obtain ⟨q2, hq2, rfl⟩ := List.mem_map.1 hx
      obtain ⟨i, hi2, h3, h4, h5⟩ := op_live L h q2.2.1 (hk q2 hq2) (by rw [hop q2 hq2]; exact hx0)
      rw [hop q2 hq2] at h5
      have hij : ¬ i < j := fun e => hno i e h3
      have := h.mono j i hj hi2 (by omega)
      show L[j].base ≤ q2.2.2.op
      omega
  · refine hr.eq (.inl ⟨rfl, rfl, fun x hx => ?_⟩)
    obtain ⟨q2, hq2, rfl⟩ := List.mem_map.1 hx
    by_cases hx0 : 0 ≤ q2.2.2.op
    · exfalso
      obtain ⟨i, hi2, h3, h4, h5⟩ := op_live L h q2.2.1 (hk q2 hq2) (by rw [hop q2 hq2]; exact hx0)
      exact hno i hi2 h3
    · show q2.2.2.op < 0
      omega
theorem apps_no : ∀ {L : List Bt} {q : List TE × Nat}, (∀ k, k ∈ q.1.map (·.2.1) → k ≠ -1) → ∀ k, k ∈ (tApps q L).1.map (·.2.1) → k ≠ -1
  | [], q, h => h
  | b :: r, q, h => by
    refine apps_no (L := r) (q := tApp q.1 q.2 b) ?_
    unfold tApp
    split
    · exact h
    · rename_i hc
      have hb : b.prod ≠ -1 := fun e => hc (by simp [e])
      show ∀ k, k ∈ (tPut q.1 q.2 b.prod _).map (·.2.1) → k ≠ -1
      unfold tPut
      cases tGet q.1 b.prod with
      | some x => simp only [tSet_key]; exact h
      | none =>
        intro k hk
        simp only [List.map_append, List.mem_append, List.map_cons, List.map_nil, List.mem_singleton] at hk
        rcases hk with hk | hk
        · exact h k hk
        · rw [hk]; exact hb
end Go.Proofs.Ytlnelaajlhfabaa.AW


open Go Go.Proofs.Ytlnelaajlhfabaa.AW Go.Proofs
namespace Go.Proofs.Ytlnelaajlhfabaa.AW
set_option maxRecDepth 100000
set_option linter.unusedSimpArgs false
set_option linter.unusedVariables false

/-! ### TableOpens -/
theorem any_take' {α : Type} (p : α → Bool) {T : List α} {k : Nat} (hk : k < T.length) : (T.take (k + 1)).any p = ((T.take k).any p || p T[k]) := by
  rw [List.take_succ_eq_append_getElem hk, List.any_append]; simp
set_option maxHeartbeats 16000000 in
theorem opens_c (t : List Int) (ht : t.length ≤ 9223372036854775807) (s : Store) (K : AV → Store → Prop) (h : K (.p (.bool true)) s) : Cal Try.prog 3 [.p (kl t)] s K := by
  refine Cal.pure (args := [kl t]) ?_
  refine Cal.intro Try.func3 (by decide +kernel) rfl rfl ?_
  refine row_c t 0 30 ht (by decide) _ _ fun L hL hlen => ?_
  have hlm := rowL L
  have hM := hL.m
  have hsm : ∀ b, b ∈ L → b.small := fun b hb => (hL.tiny b hb).small
  have hin : TInv (tApps ([], 0) L).1 (tApps ([], 0) L).2 := TInv.nil.apps
  have hno : ∀ q, q ∈ (tApps ([], 0) L).1 → q.2.1 ≠ -1 := fun q hq => apps_no (L := L) (q := ([], 0)) (by simp) _ (List.mem_map_of_mem hq)
  refine Cal.frameK [] (tfold_c L (by omega) hsm _ fun _ => ?_) rfl rfl rfl
  refine Br.f rfl ?_
  refine Cal.frameK [0, 1] (topen_c _ _ hin _ fun r hr _ => ?_) rfl rfl rfl
  obtain ⟨hof1, hof2⟩ := open_first hM rfl hin hno hr
  clear hr hno hin hsm
  generalize tApps ([], 0) L = q
  obtain ⟨es, cl⟩ := q
  refine LoopX.fam [3, 5, 6, 23, 24, 25] (fun (j : Nat) => ([(3, .p (rowP L)), (5, .p (ii r.1)), (6, .p (.bool r.2)), (23, .p (rowP L)), (24, .p (ii (L.map Bt.pv).length)), (25, .p (ii (j : Nat)))], tbS es cl))
    (fun j => j ≤ L.length ∧ ∀ i, i < j → ¬ Live L i) (fun j => L.length - j) 0 ⟨Nat.zero_le _, fun i hi => absurd hi (by omega)⟩ (Trim.mk' rfl rfl rfl rfl (Nat.le_refl _)) ?_
  rintro j ⟨hj, hlv⟩
  have hj : j ≤ L.length := hj
  refine Br.mk (fun hc => ?_) (fun hc => ?_)
  · have hc : (j : Int) < ((L.map Bt.pv).length : Nat) := of_decide_eq_true hc
    have hj1 : j < L.length := by omega
    have ej : IntKind.i64.wrap ((j : Int) + 1) = ((j + 1 : Nat) : Int) := by rw [wrap_i64] <;> omega
    refine Idx.mk _ (Int.natCast_nonneg _) (getL hj1) ?_
    refine Ob.mk (okst rfl rfl rfl) ?_
    have hgo : ¬ Live L j → ∀ i, i < j + 1 → ¬ Live L i := fun hn i hi => by
      by_cases e : i = j
      · rw [e]; exact hn
      · exact hlv i (by omega)
    have hnl : liveB L[j] = false → ¬ Live L j := fun hf hl => by obtain ⟨_, h1, _⟩ := hl; rw [hf] at h1; cases h1
    have hnext : ∀ (e : Env) (s' : Store) (j2 : Int), j2 = IntKind.i64.wrap ((j : Int) + 1) → ([3, 5, 6, 23, 24, 25].map fun t => (t, e t)) = [(3, .p (rowP L)), (5, .p (ii r.1)), (6, .p (.bool r.2)), (23, .p (rowP L)), (24, .p (ii (L.map Bt.pv).length)), (25, .p (ii j2))] → s'.take 2 = tbS es cl → 2 ≤ s'.length → ¬ Live L j →
        ∃ y, (y ≤ L.length ∧ ∀ i, i < y → ¬ Live L i) ∧ L.length - y < L.length - j ∧ (tbS es cl).length ≤ (tbS es cl).length ∧ Trim [3, 5, 6, 23, 24, 25] (tbS es cl).length e s' [(3, .p (rowP L)), (5, .p (ii r.1)), (6, .p (.bool r.2)), (23, .p (rowP L)), (24, .p (ii (L.map Bt.pv).length)), (25, .p (ii (y : Nat)))] (tbS es cl) := fun e s' j2 e1 e2 e3 e4 hn =>
      ⟨j + 1, ⟨hj1, hgo hn⟩, by omega, Nat.le_refl _, Trim.mk' (by rw [e2, e1, ej]) e3 (by
        have q : [3, 5, 6, 23, 24, 25].map e = ([3, 5, 6, 23, 24, 25].map fun t => (t, e t)).map (·.2) := rfl
        rw [q, e2]; rfl) rfl e4⟩
    cases k1 : L[j].txn with
    | false =>
      have hn := hnl (by unfold liveB; rw [k1]; rfl)
      repeat' (first
        | (apply Br.t; · (first | rfl | (simp only [*] <;> rfl)))
        | (apply Br.f; · (first | rfl | (simp only [*] <;> rfl)))
        | refine Ob.mk (okst rfl rfl rfl) ?_
        | refine Br.mkT (fun c => ?_) (fun c => ?_)
        | refine Br.mkF (fun c => ?_) (fun c => ?_)
        | refine Br.mk (fun c => ?_) (fun c => ?_))
      exact hnext _ _ _ rfl rfl rfl (by show 2 ≤ 3; decide) hn
    | true =>
      cases k2 : (L[j].mark != 0) with
      | true =>
        have hn := hnl (by unfold liveB; rw [k1]; simpa using k2)
        repeat' (first
          | (apply Br.t; · (first | rfl | (simp only [*] <;> rfl)))
          | (apply Br.f; · (first | rfl | (simp only [*] <;> rfl)))
          | refine Ob.mk (okst rfl rfl rfl) ?_
          | refine Br.mkT (fun c => ?_) (fun c => ?_)
          | refine Br.mkF (fun c => ?_) (fun c => ?_)
          | refine Br.mk (fun c => ?_) (fun c => ?_))
        exact hnext _ _ _ rfl rfl rfl (by show 2 ≤ 3; decide) hn
      | false =>
        have hlb : liveB L[j] = true := by unfold liveB; rw [k1]; simpa using k2
        obtain ⟨T, hT⟩ : ∃ T, T = L.drop (j + 1) := ⟨_, rfl⟩
        have hd : (L.map Bt.pv).drop (IntKind.i64.wrap ((j : Int) + 1)).toNat = T.map Bt.pv := by rw [ej, Int.toNat_natCast, hT, List.map_drop]
        have hjj : 0 ≤ IntKind.i64.wrap ((j : Int) + 1) ∧ IntKind.i64.wrap ((j : Int) + 1) ≤ ((L.map Bt.pv).length : Nat) := by rw [ej]; omega
        have hTm := rowL T
        have hTl : T.length ≤ L.length := by rw [hT, List.length_drop]; omega
        have hlive : T.any (endsB L[j]) = false → Live L j := fun hf => ⟨hj1, hlb, by rw [← hT]; exact hf⟩
        have hdead : T.any (endsB L[j]) = true → ¬ Live L j := fun hf hl => by obtain ⟨_, _, h3⟩ := hl; rw [← hT, hf] at h3; cases h3
        clear hT
        repeat' (first
          | (apply Br.t; · (first | rfl | (simp only [*] <;> rfl)))
          | (apply Br.f; · (first | rfl | (simp only [*] <;> rfl)))
          | refine Ob.mk (okst rfl rfl rfl) ?_
          | refine Ob.mk hjj ?_
          | refine Br.mkT (fun c => ?_) (fun c => ?_)
          | refine Br.mkF (fun c => ?_) (fun c => ?_)
          | refine Br.mk (fun c => ?_) (fun c => ?_))
        refine LoopX.fam [3, 5, 6, 8, 9, 23, 24, 25, 41, 42, 43] (fun (k : Nat) => ([(3, .p (rowP L)), (5, .p (ii r.1)), (6, .p (.bool r.2)), (8, .ref 2 0), (9, .p (.bool ((T.take k).any (endsB L[j])))), (23, .p (rowP L)), (24, .p (ii (L.map Bt.pv).length)), (25, .p (ii (j : Nat))), (41, .p (rowP T)), (42, .p (ii (T.map Bt.pv).length)), (43, .p (ii (k : Nat)))],
            [some (.map (.int .i64) (es.map tent) cl), some (.cells [.map 0]), some (.cells [.p (ii L[j].base), .p (ii L[j].prod), .p (ii L[j].epoch), .p (ii L[j].seq), .p (.bool true), .p (ii L[j].mark), .p (rcP L[j].recs)])]))
          (fun k => k ≤ T.length) (fun k => T.length - k) 0 (Nat.zero_le _) (Trim.mk' ?_ rfl rfl rfl (Nat.le_refl _)) ?_
        · refine Eq.trans (b := [_, _, _, _, _, _, _, _, (41, .p (.sl .shr 7 ((L.map Bt.pv).drop (IntKind.i64.wrap ((j : Int) + 1)).toNat))), (42, .p (ii ((L.map Bt.pv).drop (IntKind.i64.wrap ((j : Int) + 1)).toNat).length)), _]) rfl ?_
          rw [hd]; rfl
        intro k hk
        have hk : k ≤ T.length := hk
        refine Br.mk (fun hc => ?_) (fun hc => ?_)
        · have hc : (k : Int) < ((T.map Bt.pv).length : Nat) := of_decide_eq_true hc
          have hk1 : k < T.length := by omega
          have ek : IntKind.i64.wrap ((k : Int) + 1) = ((k + 1 : Nat) : Int) := by rw [wrap_i64] <;> omega
          refine Idx.mk _ (Int.natCast_nonneg _) (getL hk1) ?_
          refine Ob.mk (okst rfl rfl rfl) ?_
          have hat := any_take' (endsB L[j]) hk1
          have hstep : ∀ (e : Env) (s' : Store) (v : Bool) (k2 : Int), v = (T.take (k + 1)).any (endsB L[j]) → k2 = IntKind.i64.wrap ((k : Int) + 1) → ([3, 5, 6, 8, 9, 23, 24, 25, 41, 42, 43].map fun t => (t, e t)) = [(3, .p (rowP L)), (5, .p (ii r.1)), (6, .p (.bool r.2)), (8, .ref 2 0), (9, .p (.bool v)), (23, .p (rowP L)), (24, .p (ii (L.map Bt.pv).length)), (25, .p (ii (j : Nat))), (41, .p (rowP T)), (42, .p (ii (T.map Bt.pv).length)), (43, .p (ii k2))] →
              s'.take 3 = [some (.map (.int .i64) (es.map tent) cl), some (.cells [.map 0]), some (.cells [.p (ii L[j].base), .p (ii L[j].prod), .p (ii L[j].epoch), .p (ii L[j].seq), .p (.bool true), .p (ii L[j].mark), .p (rcP L[j].recs)])] → 3 ≤ s'.length →
              ∃ y, y ≤ T.length ∧ T.length - y < T.length - k ∧ 3 ≤ 3 ∧ Trim [3, 5, 6, 8, 9, 23, 24, 25, 41, 42, 43] 3 e s' [(3, .p (rowP L)), (5, .p (ii r.1)), (6, .p (.bool r.2)), (8, .ref 2 0), (9, .p (.bool ((T.take y).any (endsB L[j])))), (23, .p (rowP L)), (24, .p (ii (L.map Bt.pv).length)), (25, .p (ii (j : Nat))), (41, .p (rowP T)), (42, .p (ii (T.map Bt.pv).length)), (43, .p (ii (y : Nat)))]
                [some (.map (.int .i64) (es.map tent) cl), some (.cells [.map 0]), some (.cells [.p (ii L[j].base), .p (ii L[j].prod), .p (ii L[j].epoch), .p (ii L[j].seq), .p (.bool true), .p (ii L[j].mark), .p (rcP L[j].recs)])] := fun e s' v k2 e0 e1 e2 e3 e4 =>
            ⟨k + 1, hk1, by omega, Nat.le_refl _, Trim.mk' (by rw [e2, e1, ek, e0]) e3 (by
              have q : [3, 5, 6, 8, 9, 23, 24, 25, 41, 42, 43].map e = ([3, 5, 6, 8, 9, 23, 24, 25, 41, 42, 43].map fun t => (t, e t)).map (·.2) := rfl
              rw [q, e2]; rfl) rfl e4⟩
          cases a1 : (T.take k).any (endsB L[j]) with
          | true =>
            rw [a1, Bool.true_or] at hat
            repeat' (first
              | (apply Br.t; · (first | rfl | (simp only [*] <;> rfl)))
              | (apply Br.f; · (first | rfl | (simp only [*] <;> rfl)))
              | refine Ob.mk (okst rfl rfl rfl) ?_
              | refine Br.mkT (fun c => ?_) (fun c => ?_)
              | refine Br.mkF (fun c => ?_) (fun c => ?_)
              | refine Br.mk (fun c => ?_) (fun c => ?_))
            exact hstep _ _ true _ hat.symm rfl rfl rfl (by show 3 ≤ 4; decide)
          | false =>
            rw [a1, Bool.false_or] at hat
            cases a2 : (T[k].mark != 0) with
            | false =>
              have ha : (T.take (k + 1)).any (endsB L[j]) = false := by rw [hat]; unfold endsB; rw [a2]; rfl
              repeat' (first
                | (apply Br.t; · (first | rfl | (simp only [*] <;> rfl)))
                | (apply Br.f; · (first | rfl | (simp only [*] <;> rfl)))
                | refine Ob.mk (okst rfl rfl rfl) ?_
                | refine Br.mkT (fun c => ?_) (fun c => ?_)
                | refine Br.mkF (fun c => ?_) (fun c => ?_)
                | refine Br.mk (fun c => ?_) (fun c => ?_))
              exact hstep _ _ false _ ha.symm rfl rfl rfl (by show 3 ≤ 4; decide)
            | true =>
              have ha : (T.take (k + 1)).any (endsB L[j]) = (T[k].prod == L[j].prod) := by rw [hat]; unfold endsB; rw [a2, Bool.true_and]
              repeat' (first
                | (apply Br.t; · (first | rfl | (simp only [*] <;> rfl)))
                | (apply Br.f; · (first | rfl | (simp only [*] <;> rfl)))
                | refine Ob.mk (okst rfl rfl rfl) ?_
                | refine Br.mkT (fun c => ?_) (fun c => ?_)
                | refine Br.mkF (fun c => ?_) (fun c => ?_)
                | refine Br.mk (fun c => ?_) (fun c => ?_))
              exact hstep _ _ ((T[k].prod == L[j].prod)) _ ha.symm rfl rfl rfl (by show 3 ≤ 4; decide)
        · have hc : ¬ (k : Int) < ((T.map Bt.pv).length : Nat) := of_decide_eq_false hc
          have : k = T.length := by omega
          subst this
          have hall : (T.take T.length).any (endsB L[j]) = T.any (endsB L[j]) := by rw [List.take_length]
          cases a1 : T.any (endsB L[j]) with
          | true =>
            rw [a1] at hall
            refine Br.f (by show (!((T.take T.length).any (endsB L[j]))) = false; rw [hall]; rfl) ?_
            exact hnext _ _ _ rfl rfl rfl (by show 2 ≤ 3; decide) (hdead a1)
          | false =>
            rw [a1] at hall
            have hrr := hof1 j hj1 (hlive a1) hlv
            refine Br.t (by show (!((T.take T.length).any (endsB L[j]))) = true; rw [hall]; rfl) ?_
            have q1 := beq_s
            clear hnext hlive hdead hof1 hof2
            subst hrr
            repeat' (first
              | (apply Br.t; · (first | rfl | (simp only [*] <;> rfl)))
              | (apply Br.f; · (first | rfl | (simp only [*] <;> rfl)))
              | refine Ob.mk (okst rfl rfl rfl) ?_
              | refine known_c _ _ ?_
              | refine Br.mkT (fun c => ?_) (fun c => ?_)
              | refine Br.mkF (fun c => ?_) (fun c => ?_)
              | refine Br.mk (fun c => ?_) (fun c => ?_)
              | exact h
              | (simp only [*, Bool.true_and, Bool.false_and, Bool.true_or, Bool.false_or, Bool.and_true, Bool.and_false, Bool.or_true, Bool.or_false, Bool.not_true, Bool.not_false, if_true, if_false, reduceIte, Bool.false_eq_true] at h; exact h))
  · have hc : ¬ (j : Int) < ((L.map Bt.pv).length : Nat) := of_decide_eq_false hc
    have hjl : j = L.length := by omega
    have hr := hof2 fun i hi => hlv i (by omega)
    subst hr
    repeat' (first
      | (apply Br.t; · (first | rfl | (simp only [*] <;> rfl)))
      | (apply Br.f; · (first | rfl | (simp only [*] <;> rfl)))
      | refine Ob.mk (okst rfl rfl rfl) ?_
      | refine known_c _ _ ?_
      | refine Br.mkT (fun c => ?_) (fun c => ?_)
      | refine Br.mkF (fun c => ?_) (fun c => ?_)
      | refine Br.mk (fun c => ?_) (fun c => ?_)
      | exact h
      | (simp only [*, Bool.true_and, Bool.false_and, Bool.true_or, Bool.false_or, Bool.and_true, Bool.and_false, Bool.or_true, Bool.or_false, Bool.not_true, Bool.not_false, if_true, if_false, reduceIte, Bool.false_eq_true] at h; exact h))
end Go.Proofs.Ytlnelaajlhfabaa.AW
