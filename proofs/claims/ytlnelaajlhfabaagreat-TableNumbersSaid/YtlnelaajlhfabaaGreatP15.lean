/- A part of the proof: LG/S1, LG/G29, LG/G30, LG/B2, LG/G31. -/
import Derived.Test.YtlnelaajlhfabaaGreatP14
import Derived.Test.YtlnelaajlhfabaaGreatProg
import Derived.Test.YtlnelaajlhfabaaGreatP13
open Go Go.Proofs.YtlnelaajlhfabaaGreat.AW Go.Proofs
namespace Go.Proofs.YtlnelaajlhfabaaGreat.AW
set_option maxRecDepth 100000
set_option linter.unusedSimpArgs false
set_option linter.unusedVariables false
open Go.Shelf

/-! ### slices.SortFunc of structs: the shelf's, laid in plain words -/
def sortP_ren : Go.Shelf.Ren := ⟨fun | 6 => 59 | 15 => 123 | 14 => 122 | 28 => 173 | 29 => 174 | 20 => 165 | 21 => 166 | 22 => 167 | 23 => 168 | 24 => 169 | 25 => 170 | 26 => 171 | 27 => 172 | 46 => 224 | 47 => 225 | 48 => 226 | 49 => 227 | 50 => 228 | 57 => 253 | n => n, fun | 22 => 36 | 24 => 32 | 25 => 111 | 3 => 3 | 39 => 169 | 0 => 0 | 53 => 210 | 55 => 212 | 4 => 4 | 46 => 204 | 45 => 203 | 50 => 136 | 5 => 5 | 9 => 9 | 66 => 244 | 70 => 248 | 76 => 265 | 77 => 266 | n => n, fun | n => n⟩
theorem sortP : SlLaysF0.n6 Tryz.prog sortP_ren where
  mixed := by kernel_rfl
  f6 := ⟨Tryz.f59.name, by decide +kernel, Tryz.func59.trans (congrArg some (by kernel_rfl))⟩
  f14 := ⟨Tryz.f122.name, by decide +kernel, Tryz.func122.trans (congrArg some (by kernel_rfl))⟩
  f15 := Tryz.func123.trans (congrArg some (by kernel_rfl))
  f20 := ⟨Tryz.f165.name, by decide +kernel, Tryz.func165.trans (congrArg some (by kernel_rfl))⟩
  f21 := ⟨Tryz.f166.name, by decide +kernel, Tryz.func166.trans (congrArg some (by kernel_rfl))⟩
  f22 := ⟨Tryz.f167.name, by decide +kernel, Tryz.func167.trans (congrArg some (by kernel_rfl))⟩
  f23 := ⟨Tryz.f168.name, by decide +kernel, Tryz.func168.trans (congrArg some (by kernel_rfl))⟩
  f24 := ⟨Tryz.f169.name, by decide +kernel, Tryz.func169.trans (congrArg some (by kernel_rfl))⟩
  f25 := ⟨Tryz.f170.name, by decide +kernel, Tryz.func170.trans (congrArg some (by kernel_rfl))⟩
  f26 := ⟨Tryz.f171.name, by decide +kernel, Tryz.func171.trans (congrArg some (by kernel_rfl))⟩
  f27 := ⟨Tryz.f172.name, by decide +kernel, Tryz.func172.trans (congrArg some (by kernel_rfl))⟩
  f28 := Tryz.func173.trans (congrArg some (by kernel_rfl))
  f29 := Tryz.func174.trans (congrArg some (by kernel_rfl))
  f46 := ⟨Tryz.f224.name, by decide +kernel, Tryz.func224.trans (congrArg some (by kernel_rfl))⟩
  f47 := Tryz.func225.trans (congrArg some (by kernel_rfl))
  f48 := Tryz.func226.trans (congrArg some (by kernel_rfl))
  f49 := ⟨Tryz.f227.name, by decide +kernel, Tryz.func227.trans (congrArg some (by kernel_rfl))⟩
  f50 := ⟨Tryz.f228.name, by decide +kernel, Tryz.func228.trans (congrArg some (by kernel_rfl))⟩
  f57 := ⟨Tryz.f253.name, by decide +kernel, Tryz.func253.trans (congrArg some (by kernel_rfl))⟩
  t0 := Tryz.underlying0
  a0 := Tryz.isAgg0
  z0 := Tryz.sizeOf0
  v0 := Tryz.zeroValue0
  t3 := Tryz.underlying3
  a3 := Tryz.isAgg3
  z3 := Tryz.sizeOf3
  v3 := Tryz.zeroValue3
  t4 := Tryz.underlying4
  a4 := Tryz.isAgg4
  z4 := Tryz.sizeOf4
  v4 := Tryz.zeroValue4
  t5 := Tryz.underlying5
  a5 := Tryz.isAgg5
  z5 := Tryz.sizeOf5
  v5 := Tryz.zeroValue5
  t9 := Tryz.underlying9
  a9 := Tryz.isAgg9
  z9 := Tryz.sizeOf9
  v9 := Tryz.zeroValue9
  t22 := Tryz.underlying36
  a22 := Tryz.isAgg36
  z22 := Tryz.sizeOf36
  v22 := Tryz.zeroValue36
  t25 := Tryz.underlying111
  a25 := Tryz.isAgg111
  z25 := Tryz.sizeOf111
  v25 := Tryz.zeroValue111
  t39 := Tryz.underlying169
  a39 := Tryz.isAgg169
  z39 := Tryz.sizeOf169
  v39 := Tryz.zeroValue169
  t45 := Tryz.underlying203
  a45 := Tryz.isAgg203
  z45 := Tryz.sizeOf203
  v45 := Tryz.zeroValue203
  t46 := Tryz.underlying204
  a46 := Tryz.isAgg204
  z46 := Tryz.sizeOf204
  v46 := Tryz.zeroValue204
  t50 := Tryz.underlying136
  a50 := Tryz.isAgg136
  z50 := Tryz.sizeOf136
  v50 := Tryz.zeroValue136
  t53 := Tryz.underlying210
  a53 := Tryz.isAgg210
  z53 := Tryz.sizeOf210
  v53 := Tryz.zeroValue210
  t55 := Tryz.underlying212
  a55 := Tryz.isAgg212
  z55 := Tryz.sizeOf212
  v55 := Tryz.zeroValue212
  t66 := Tryz.underlying244
  a66 := Tryz.isAgg244
  z66 := Tryz.sizeOf244
  v66 := Tryz.zeroValue244
  t70 := Tryz.underlying248
  a70 := Tryz.isAgg248
  z70 := Tryz.sizeOf248
  v70 := Tryz.zeroValue248
  t76 := Tryz.underlying265
  a76 := Tryz.isAgg265
  z76 := Tryz.sizeOf265
  v76 := Tryz.zeroValue265
  t77 := Tryz.underlying266
  a77 := Tryz.isAgg266
  z77 := Tryz.sizeOf266
  v77 := Tryz.zeroValue266
end Go.Proofs.YtlnelaajlhfabaaGreat.AW

open Go Go.Proofs.YtlnelaajlhfabaaGreat.AW Go.Proofs
namespace Go.Proofs.YtlnelaajlhfabaaGreat.AW
set_option maxRecDepth 100000
set_option linter.unusedSimpArgs false
set_option linter.unusedVariables false

/-! ### All producers of a table, by id -/
def cmpI (x y : Int) : Int := if x < y then -1 else if x > y then 1 else 0
theorem isnan_c (a : Int) (s : Store) (K : AV → Store → Prop) (h : K (.p (.bool false)) s) : Cal Tryz.prog 124 [.p (ii a)] s K := by
  refine Cal.pure (args := [ii a]) ?_
  refine Cal.intro Tryz.func124 (by decide +kernel) rfl rfl ?_
  show K (.p (.bool (!(decide (a = a))))) s
  rw [decide_eq_true rfl]; exact h
theorem cmpI_c (a b : Int) (s : Store) (K : AV → Store → Prop) (h : K (.p (ii (cmpI a b))) s) : Cal Tryz.prog 61 [.p (ii a), .p (ii b)] s K := by
  refine Cal.pure (args := [ii a, ii b]) ?_
  refine Cal.intro Tryz.func61 (by decide +kernel) rfl rfl ?_
  unfold cmpI at h
  cases h1 : decide (a < b) <;> cases h2 : decide (a > b)
  all_goals
    have f1 := h1
    have f2 := h2
    simp only [decide_eq_true_eq, decide_eq_false_iff_not] at f1 f2
    repeat' (first
      | (apply Br.t; · (first | rfl | (simp only [*] <;> rfl)))
      | (apply Br.f; · (first | rfl | (simp only [*] <;> rfl)))
      | refine Ob.mk (okst rfl rfl rfl) ?_
      | refine isnan_c _ _ _ ?_
      | refine Br.mkT (fun c => ?_) (fun c => ?_)
      | refine Br.mkF (fun c => ?_) (fun c => ?_)
      | refine Br.mk (fun c => ?_) (fun c => ?_)
      | exact h
      | (simp only [*, Bool.true_and, Bool.false_and, Bool.true_or, Bool.false_or, Bool.and_true, Bool.and_false, Bool.or_true, Bool.or_false, Bool.not_true, Bool.not_false, if_true, if_false, reduceIte, Bool.false_eq_true] at h; exact h))
def prId : PV → Int
  | .agg (.int _ n :: _) => n
  | _ => 0
def prCmp (x y : PV) : Int := cmpI (prId x) (prId y)
theorem pcmp_c (x y : Pr) (s : Store) (K : AV → Store → Prop) (h : K (.p (ii (prCmp x.pv y.pv))) s) : Cal Tryz.prog 60 [.p x.pv, .p y.pv] s K := by
  refine Cal.pure (args := [x.pv, y.pv]) ?_
  refine Cal.intro Tryz.func60 (by decide +kernel) rfl rfl ?_
  have h : K (.p (ii (cmpI x.id y.id))) s := h
  repeat' (first
    | (apply Br.t; · (first | rfl | (simp only [*] <;> rfl)))
    | (apply Br.f; · (first | rfl | (simp only [*] <;> rfl)))
    | refine Ob.mk (okst rfl rfl rfl) ?_
    | refine cmpI_c _ _ _ _ ?_
    | refine Br.mkT (fun c => ?_) (fun c => ?_)
    | refine Br.mkF (fun c => ?_) (fun c => ?_)
    | refine Br.mk (fun c => ?_) (fun c => ?_)
    | exact h
    | (simp only [*, Bool.true_and, Bool.false_and, Bool.true_or, Bool.false_or, Bool.and_true, Bool.and_false, Bool.or_true, Bool.or_false, Bool.not_true, Bool.not_false, if_true, if_false, reduceIte, Bool.false_eq_true] at h; exact h))
theorem cmpI_lt (a b : Int) : cmpI a b < 0 ↔ a < b := by
  unfold cmpI
  split
  · rename_i h; exact ⟨fun _ => h, fun _ => by omega⟩
  · split <;> exact ⟨fun q => by omega, fun q => by omega⟩
theorem pr_ord (l : List PV) : Ord (fun x y => prCmp x y < 0) l := by
  refine ⟨fun x _ h => ?_, fun x y z _ _ _ h k => ?_, fun x y z _ _ _ h k q => ?_⟩
  · have := (cmpI_lt _ _).1 h; omega
  · have h := (cmpI_lt _ _).1 h; have k := (cmpI_lt _ _).1 k; exact (cmpI_lt _ _).2 (by omega)
  · have q := (cmpI_lt _ _).1 q
    have h : ¬ prId x < prId y := fun e => h ((cmpI_lt _ _).2 e)
    have k : ¬ prId y < prId z := fun e => k ((cmpI_lt _ _).2 e)
    omega
theorem prs_of {ys : List PV} {l : List Pr} (h : ys.Perm (l.map Pr.pv)) : ∃ ps : List Pr, ys = ps.map Pr.pv ∧ ps.Perm l := by
  induction l generalizing ys with
  | nil => exact ⟨[], h.eq_nil, .refl _⟩
  | cons p r ih =>
    rw [List.map_cons] at h
    obtain ⟨a, b, rfl⟩ := List.append_of_mem (h.mem_iff.2 (List.mem_cons_self ..))
    have h2 : (a ++ b).Perm (r.map Pr.pv) := (List.Perm.cons_inv (List.perm_middle.symm.trans h))
    obtain ⟨ps, h3, h4⟩ := ih h2
    obtain ⟨pa, pb, h5, h6, h7⟩ := List.append_eq_map_iff.1 h3
    exact ⟨pa ++ p :: pb, by rw [List.map_append, List.map_cons, h6, h7], List.perm_middle.trans ((h5 ▸ h4).cons p)⟩
def prsC (l : List Pr) : PV := .sl .clip 4 (l.map Pr.pv)
set_option maxHeartbeats 8000000 in
theorem tall_c (es : List TE) (cl : Nat) (hi : TInv es cl) (hlen : es.length ≤ 1000000000) (K : AV → Store → Prop) (h : ∀ ps : List Pr, ps.Perm (es.map fun q => q.2.2) → ps.Pairwise (fun a b => ¬ b.id < a.id) → K (.p (prsC ps)) (tbS es cl)) : Cal Tryz.prog 18 [.ref 1 0] (tbS es cl) K := by
  refine Cal.cut ?_
  refine Cal.intro Tryz.func18 (by decide +kernel) rfl rfl ?_
  have hfst : (es.map tent).map (·.1) = es.map (·.1) := by rw [List.map_map]; rfl
  refine LoopX.famW [3, 10] (fun (q : List TE × List TE × Option (Nat × Nat)) => ([(3, .osl 3 (q.1.map fun q => q.2.2.pv).length 0 (q.1.map fun q => q.2.2.pv).length), (10, .it 2)],
      [some (.map (.int .i64) (es.map tent) cl), some (.cells [.map 0]), some (.iterM 0 ((es.map tent).map (·.1)) (q.2.1.map (·.1), q.2.2)), some (.buf 4 (q.1.map fun q => q.2.2.pv))]))
    (fun q => (q.1 ++ q.2.1).Perm es) (fun q => q.2.1.length) ([], es, none) (List.Perm.refl _) (by show 3 ≤ 4; decide) (Trim.wk 3 [(4, none)] rfl (by show 3 ≤ 3; decide) (.inr rfl) (by rw [← hfst]; rfl) rfl rfl rfl rfl ⟨.own 3 rfl rfl, .inl rfl, trivial⟩) ?_
  rintro ⟨out, rest, cur⟩ hq
  have hq : (out ++ rest).Perm es := hq
  have hln : out.length + rest.length = es.length := by have := hq.length_eq; simpa using this
  refine Ob.mk rfl ?_
  refine BrL.mk (fun (he : rest.map (·.1) = []) => ?_) (fun (hne : rest.map (·.1) ≠ []) => ?_)
  · have hr : rest = [] := List.map_eq_nil_iff.1 he
    subst hr
    rw [List.append_nil] at hq
    refine Br.f rfl ?_
    show Cal Tryz.prog 59 [.osl 3 (out.map fun q => q.2.2.pv).length 0 (out.map fun q => q.2.2.pv).length, .clos 60 []] [_, _, _, some (.buf 4 (out.map fun q => q.2.2.pv) none)] _
    refine Cal.sortK (id := 3) (xs := out.map fun q => q.2.2.pv) (ty := none) sortP (k := 4) (by decide) Tryz.isAgg32 Tryz.sizeOf32 rfl ⟨_, Tryz.func59, by decide +kernel, rfl⟩ ⟨_, Tryz.func60, by decide +kernel, rfl⟩ ?_ ?_ ?_ prCmp (pr_ord _) ?_ ?_
    · rfl
    · intro x hx
      obtain ⟨q, _, rfl⟩ := List.mem_map.1 hx
      rfl
    · rw [List.length_map]; omega
    · intro x y hx hy
      obtain ⟨q, hqm, rfl⟩ := List.mem_map.1 hx
      obtain ⟨p, hpm, rfl⟩ := List.mem_map.1 hy
      exact pcmp_c _ _ [] _ ⟨rfl, rfl⟩
    · intro ys hp hs
      have hp2 : ys.Perm ((out.map fun q => q.2.2).map Pr.pv) := by rw [List.map_map]; exact hp
      obtain ⟨ps, rfl, hn⟩ := prs_of hp2
      have hl : (ps.map Pr.pv).length = (out.map fun q => q.2.2.pv).length := hp.length_eq
      refine Cal.freeze ?_ ⟨_, Tryz.func62, rfl, rfl⟩
      refine Ob.mk hl ?_
      have e : ((ps.map Pr.pv).drop 0).take (out.map fun q => q.2.2.pv).length = ps.map Pr.pv := by rw [List.drop_zero, ← hl, List.take_length]
      show Cal _ _ [.p (.sl .shr 4 (((ps.map Pr.pv).drop 0).take (out.map fun q => q.2.2.pv).length))] _ _
      rw [e]
      have hk := h ps (hn.trans (hq.map _)) (by
        rw [List.pairwise_map] at hs
        exact hs.imp fun hab q => hab ((cmpI_lt _ _).2 q))
      refine clip_pr _ _ _ ?_
      exact ⟨2, tbS es cl, Nat.le_refl 2, (show (2 : Nat) ≤ 4 by decide), rfl, rfl, WkS.refl _, hk⟩
  · refine Any.mk fun b k v hb hkv => ?_
    obtain ⟨fe, hfe, hent⟩ := List.mem_map.1 hkv
    cases hent
    obtain ⟨fe', hfe', hbe⟩ := List.mem_map.1 hb
    have hin : fe ∈ rest := by
      have : fe' = fe := nd_eqT hi.nd (hq.mem_iff.1 (List.mem_append_right _ hfe')) hfe hbe
      rw [← this]; exact hfe'
    have hndr : (rest.map (·.1)).Nodup := by
      have h1 : ((out ++ rest).map (·.1)).Nodup := (hq.map _).nodup_iff.2 hi.nd
      rw [List.map_append] at h1
      exact (List.nodup_append.1 h1).2.1
    have hpo := perm_outT hndr hin
    have hpl := hpo.length_eq
    rw [List.length_cons] at hpl
    refine Br.t rfl ?_
    refine Ob.mk rfl ⟨ii fe.2.1, fe.2.2.pv, Ob.mk hkv ?_⟩
    refine Ob.mk (okst rfl rfl rfl) ?_
    refine copy_c fe.2.2 (hi.ok _ hfe) _ _ ?_
    refine Ob.mk ?_ ?_
    · refine ⟨rfl, rfl, rfl, ?_⟩
      show ((out.map fun q => q.2.2.pv).length + 1) * 48 ≤ _
      rw [List.length_map]; omega
    · refine ⟨(out ++ [fe], rest.filter (fun q => !(q.1 == fe.1)), some (fe.1, cl)), ?_, by show (rest.filter _).length < rest.length; omega, (show (3 : Nat) ≤ 4 by decide), Trim.mk' ?_ ?_ rfl rfl (show (4 : Nat) ≤ 5 by decide)⟩
      · show ((out ++ [fe]) ++ rest.filter _).Perm es
        rw [List.append_assoc]
        exact ((hpo.symm.append_left out)).trans hq
      · show _ = [(3, AV.osl 3 ((out ++ [fe]).map fun q => q.2.2.pv).length 0 ((out ++ [fe]).map fun q => q.2.2.pv).length), _]
        rw [List.map_append]; rfl
      · show _ = [_, _, some (AObj.iterM 0 _ ((rest.filter (fun q => !(q.1 == fe.1))).map (·.1), _)), some (AObj.buf 4 ((out ++ [fe]).map fun q => q.2.2.pv) none)]
        have e1 : (rest.filter (fun q => !(q.1 == fe.1))).map (·.1) = (rest.map (·.1)).filter fun x => !(x == fe.1) := by
          rw [List.filter_map]; rfl
        rw [List.map_append, e1]; rfl
end Go.Proofs.YtlnelaajlhfabaaGreat.AW

open Go Go.Proofs.YtlnelaajlhfabaaGreat.AW Go.Proofs
namespace Go.Proofs.YtlnelaajlhfabaaGreat.AW
set_option maxRecDepth 100000
set_option linter.unusedSimpArgs false
set_option linter.unusedVariables false

/-! ### Get, and Fold of an owned row -/
def gtC (o : Option Pr) : AV := .tup [.p (o.getD pr0).pv, .p (.bool o.isSome)]
set_option maxHeartbeats 4000000 in
theorem tget_c (es : List TE) (cl : Nat) (hes : TOk es) (n : Int) (K : AV → Store → Prop) (h : K (gtC (tGet es n)) (tbS es cl)) : Cal Tryz.prog 16 [.ref 1 0, .p (ii n)] (tbS es cl) K := by
  refine Cal.cut ?_
  refine Cal.intro Tryz.func16 (by decide +kernel) rfl rfl ?_
  have hge := get_tent n es
  cases hg : tGet es n with
  | none =>
    rw [hg] at h hge
    have hc : ∀ s', Cal Tryz.prog 58 [.p pr0N] s' fun v s'' => v = .p pr0.pv ∧ s'' = s' := fun s' =>
      Cal.argsD (args' := [.p pr0.pv]) (copy_c pr0 pr0_len s' _ ⟨rfl, rfl⟩) ⟨.inr ⟨_, _, rfl, rfl, wk_pr0⟩, trivial⟩
    refine Opt.n hge ?_
    refine Ob.mk (okst rfl rfl rfl) ?_
    refine Cal.argsD (args' := [.p pr0.pv]) (copy_c pr0 pr0_len _ _ ?_) ⟨.inr ⟨_, _, rfl, rfl, wk_pr0⟩, trivial⟩
    refine Ob.mk (okst rfl rfl rfl) ?_
    exact ⟨2, tbS es cl, Nat.le_refl 2, (show (2 : Nat) ≤ 4 by decide), rfl, rfl, WkS.refl _, h⟩
  | some p =>
    rw [hg] at h hge
    have hp := hes.get hg
    refine Opt.s hge ?_
    refine Ob.mk (okst rfl rfl rfl) ?_
    refine copy_c p hp _ _ ?_
    refine Ob.mk (okst rfl rfl rfl) ?_
    exact ⟨2, tbS es cl, Nat.le_refl 2, (show (2 : Nat) ≤ 4 by decide), rfl, rfl, WkS.refl _, h⟩
set_option maxHeartbeats 8000000 in
theorem tfold_o (L : List Bt) (hL : L.length ≤ 1000000000) (hb : ∀ b, b ∈ L → b.small) (K : AV → Store → Prop) (h : K (.ref 2 0) ([some (.buf 7 (L.map Bt.pv))] ++ [some (.map (.int .i64) ((tApps ([], 0) L).1.map tent) (tApps ([], 0) L).2), some (.cells [.map 1])])) : Cal Tryz.prog 15 [.osl 0 L.length 0 L.length] [some (.buf 7 (L.map Bt.pv))] K := by
  refine Cal.cut ?_
  refine Cal.intro Tryz.func15 (by decide +kernel) rfl rfl ?_
  refine Cal.frameK [] (tnew_c _ fun _ => ?_) rfl rfl rfl
  have hlm := rowL L
  refine LoopX.fam [3, 7, 8, 9] (fun (j : Nat) => ([(3, .ref 2 0), (7, .osl 0 L.length 0 L.length), (8, .p (ii L.length)), (9, .p (ii (j : Nat)))], [some (.buf 7 (L.map Bt.pv)), some (.map (.int .i64) ((tApps ([], 0) (L.take j)).1.map tent) (tApps ([], 0) (L.take j)).2), some (.cells [.map 1])]))
    (fun j => j ≤ L.length) (fun j => L.length - j) 0 (Nat.zero_le _) (Trim.mk' rfl rfl rfl rfl (Nat.le_refl _)) ?_
  intro j hj
  have hj : j ≤ L.length := hj
  refine Br.mk (fun hc => ?_) (fun hc => ?_)
  · have hc : (j : Int) < (L.length : Nat) := of_decide_eq_true hc
    have hj1 : j < L.length := by omega
    have ej : IntKind.i64.wrap ((j : Int) + 1) = ((j + 1 : Nat) : Int) := by rw [wrap_i64] <;> omega
    refine Ob.mk ⟨hlm, Int.natCast_nonneg _, hc⟩ ?_
    have hgl : (L.map Bt.pv)[((0 + ((j : Nat) : Int).toNat : Nat) : Int).toNat]? = some L[j].pv := by rw [Nat.zero_add, Int.toNat_natCast]; exact getL hj1
    refine Ob.mk hlm ?_
    refine Idx.mk _ (Int.natCast_nonneg _) hgl ?_
    refine Ob.mk (okst rfl rfl rfl) ?_
    have hin : TInv (tApps ([], 0) (L.take j)).1 (tApps ([], 0) (L.take j)).2 := TInv.nil.apps
    refine Cal.frameK [1, 2] (tapply_c _ _ hin.ok L[j] (hb _ (List.getElem_mem hj1)) _ fun _ => ?_) rfl rfl rfl
    have htk : tApps ([], 0) (L.take (j + 1)) = tApp (tApps ([], 0) (L.take j)).1 (tApps ([], 0) (L.take j)).2 L[j] := by rw [take_succ' hj1, tApps_snoc]
    refine ⟨j + 1, hj1, by show L.length - (j + 1) < L.length - j; omega, Nat.le_refl _, Trim.mk' ?_ ?_ rfl rfl (show 3 ≤ 4 by decide)⟩
    · refine Eq.trans (b := [_, _, _, (9, AV.p (ii (IntKind.i64.wrap ((j : Int) + 1))))]) rfl ?_
      rw [ej]; rfl
    · show _ = [_, some (AObj.map (.int .i64) ((tApps ([], 0) (L.take (j + 1))).1.map tent) (tApps ([], 0) (L.take (j + 1))).2), _]
      rw [htk]; rfl
  · have hc : ¬ (j : Int) < (L.length : Nat) := of_decide_eq_false hc
    have : j = L.length := by omega
    subst this
    rw [show tApps ([], 0) L = tApps ([], 0) (L.take L.length) by rw [List.take_length]] at h
    exact ⟨3, _, (by show (1 : Nat) ≤ 3; decide), (show (3 : Nat) ≤ 3 by decide), rfl, rfl, WkS.refl _, h⟩
end Go.Proofs.YtlnelaajlhfabaaGreat.AW

open Go Go.Proofs.YtlnelaajlhfabaaGreat.AW Go.Proofs
namespace Go.Proofs.YtlnelaajlhfabaaGreat.AW
set_option linter.unusedSimpArgs false
set_option linter.unusedVariables false

/-! ### What one producer does turns no other one -/
theorem tGet_tSet (n : Int) (x : Pr) : ∀ (es : List TE) (m : Int), tGet (tSet es n x) m = if m = n then (tGet es n).map (fun _ => x) else tGet es m
  | [], m => by simp [tSet, tGet]
  | (t, k, p) :: r, m => by
    unfold tSet
    by_cases h : n = k
    · subst h
      rw [if_pos rfl]
      by_cases hm : m = n
      · subst hm; simp [tGet]
      · simp [tGet, hm]
    · rw [if_neg h]
      by_cases hm : m = k
      · subst hm
        have : ¬ m = n := fun e => h e.symm
        simp [tGet, this]
      · have ih := tGet_tSet n x r m
        simp only [tGet, if_neg hm, if_neg h, ih]
theorem tGet_app (es : List TE) (t : Nat) (n : Int) (x : Pr) (m : Int) : tGet (es ++ [(t, n, x)]) m = (tGet es m).orElse fun _ => if m = n then some x else none := by
  induction es with
  | nil => simp [tGet]
  | cons q r ih =>
    obtain ⟨s, k, p⟩ := q
    rw [List.cons_append]
    by_cases h : m = k
    · simp [tGet, h]
    · simp only [tGet, if_neg h, ih]
theorem tGet_tPut (es : List TE) (cl : Nat) (n : Int) (x : Pr) (m : Int) : tGet (tPut es cl n x) m = if m = n then some x else tGet es m := by
  unfold tPut
  cases hg : tGet es n with
  | some q => simp only [tGet_tSet, hg, Option.map_some]
  | none =>
    simp only [tGet_app]
    by_cases h : m = n
    · subst h; rw [hg, if_pos rfl]; simp
    · rw [if_neg h, if_neg h]; cases tGet es m <;> rfl
/-- A step of one producer's own state. -/
def own1 (o : Option Pr) (b : Bt) : Option Pr := if ((rightV b != 0) || (b.prod == -1)) = true then o else some (applyV (o.getD pr0) o.isSome b)
theorem tGet_tApp (es : List TE) (cl : Nat) (b : Bt) (m : Int) : tGet (tApp es cl b).1 m = if m = b.prod then own1 (tGet es m) b else tGet es m := by
  unfold tApp own1
  split
  · split <;> rfl
  · rw [tGet_tPut]
    by_cases h : m = b.prod
    · subst h; rfl
    · rw [if_neg h, if_neg h]
theorem tGet_apps (m : Int) : ∀ (L : List Bt) (q : List TE × Nat), tGet (tApps q L).1 m = (L.filter fun b => b.prod == m).foldl own1 (tGet q.1 m)
  | [], q => rfl
  | b :: r, q => by
    show tGet (tApps (tApp q.1 q.2 b) r).1 m = _
    rw [tGet_apps m r, tGet_tApp]
    by_cases h : b.prod = m
    · rw [List.filter_cons_of_pos (by simpa using h), if_pos h.symm]; rfl
    · rw [List.filter_cons_of_neg (by simpa using h), if_neg fun e => h e.symm]
def ownL (L : List Bt) (m : Int) : List Bt := L.filter fun b => b.prod == m
theorem tGet_own (L : List Bt) (m : Int) : tGet (tApps ([], 0) L).1 m = tGet (tApps ([], 0) (ownL L m)).1 m := by
  rw [tGet_apps, tGet_apps]
  unfold ownL
  rw [List.filter_filter]
  simp
theorem own1_some {o : Option Pr} (h : o.isSome = true) : ∀ {L : List Bt}, (L.foldl own1 o).isSome = true
  | [] => h
  | b :: r => by
    show (r.foldl own1 (own1 o b)).isSome = true
    refine own1_some ?_
    unfold own1
    split
    · exact h
    · rfl
theorem tGet_some {L : List Bt} {m : Int} (hm : m ≠ -1) (hr : ∀ b, b ∈ L → rightV b = 0) : (tGet (tApps ([], 0) (ownL L m)).1 m).isSome = decide ((((ownL L m).map Bt.pv).length : Nat) > (0 : Int)) := by
  rw [tGet_apps]
  have e : ((ownL L m).filter fun b => b.prod == m) = ownL L m := by unfold ownL; rw [List.filter_filter]; simp
  rw [e]
  cases ho : ownL L m with
  | nil => rfl
  | cons b r =>
    have hb : b ∈ L ∧ (b.prod == m) = true := List.mem_filter.1 (by show b ∈ ownL L m; rw [ho]; exact List.mem_cons_self ..)
    have hp : b.prod = m := by simpa using hb.2
    have h1 : own1 none b = some (applyV pr0 false b) := by
      unfold own1
      rw [if_neg (by rw [hr b hb.1, hp]; simpa using hm)]
      rfl
    have h2 : ((b :: r).foldl own1 (tGet ([] : List TE) m)).isSome = true := by
      show (r.foldl own1 (own1 none b)).isSome = true
      rw [h1]; exact own1_some rfl
    rw [h2]
    symm
    apply decide_eq_true
    simp
theorem tPut_keys {es : List TE} {cl : Nat} {n : Int} {x : Pr} {m : Int} (h : ∀ k, k ∈ es.map (·.2.1) → k = m) (hn : n = m) : ∀ k, k ∈ (tPut es cl n x).map (·.2.1) → k = m := by
  unfold tPut
  cases tGet es n with
  | some q => simp only [tSet_key]; exact h
  | none =>
    intro k hk
    simp only [List.map_append, List.mem_append, List.map_cons, List.map_nil, List.mem_singleton] at hk
    rcases hk with hk | hk
    · exact h k hk
    · rw [hk]; exact hn
theorem apps_keys {m : Int} : ∀ {L : List Bt} {q : List TE × Nat}, (∀ b, b ∈ L → b.prod = m) → (∀ k, k ∈ q.1.map (·.2.1) → k = m) → ∀ k, k ∈ (tApps q L).1.map (·.2.1) → k = m
  | [], q, _, h => h
  | b :: r, q, hL, h => by
    refine apps_keys (L := r) (q := tApp q.1 q.2 b) (fun c hc => hL c (List.mem_cons_of_mem _ hc)) ?_
    unfold tApp
    split
    · exact h
    · exact tPut_keys h (hL b (List.mem_cons_self ..))
theorem one_key {l : List Int} {m : Int} (hn : l.Nodup) (h : ∀ k, k ∈ l → k = m) : l.length ≤ 1 := by
  cases l with
  | nil => exact Nat.zero_le _
  | cons a r =>
    cases r with
    | nil => exact Nat.le_refl _
    | cons b s =>
      exfalso
      have h1 := h a (by simp)
      have h2 := h b (by simp)
      rw [List.nodup_cons] at hn
      exact hn.1 (by rw [h1, ← h2]; simp)
theorem tGet_isSome {es : List TE} {n : Int} (h : (tGet es n).isSome = true) : 0 < es.length := by
  cases es with
  | nil => cases h
  | cons a r => simp
theorem own_len {L : List Bt} {m : Int} (hm : m ≠ -1) (hr : ∀ b, b ∈ L → rightV b = 0) : (tApps ([], 0) (ownL L m)).1.length = min (ownL L m).length 1 := by
  have hin : TInv (tApps ([], 0) (ownL L m)).1 (tApps ([], 0) (ownL L m)).2 := TInv.nil.apps
  have h1 : ((tApps ([], 0) (ownL L m)).1.map (·.2.1)).length ≤ 1 := one_key (m := m) hin.keys (apps_keys (fun b hb => by simpa using (List.mem_filter.1 hb).2) (by simp))
  rw [List.length_map] at h1
  have h2 := tGet_some (L := L) hm hr
  by_cases h0 : ownL L m = []
  · rw [h0]; rfl
  · have hp : 0 < (ownL L m).length := List.length_pos_iff.2 h0
    rw [decide_eq_true (by rw [List.length_map]; omega)] at h2
    have := tGet_isSome h2
    omega
theorem RowOk.right {st : Int} {L : List Bt} (h : RowOk st L) : ∀ b, b ∈ L → rightV b = 0 := by
  induction h with
  | nil => intro b hb; cases hb
  | snoc L b h h1 h2 h3 h4 h5 ih =>
    intro c hc
    rcases List.mem_append.1 hc with hc | hc
    · exact ih c hc
    · rw [List.mem_singleton.1 hc]
      by_cases hr : rightV b = 0
      · exact hr
      · exfalso
        unfold tChk at h2
        rw [if_pos (by simpa using hr)] at h2
        exact hr h2
end Go.Proofs.YtlnelaajlhfabaaGreat.AW

open Go Go.Proofs.YtlnelaajlhfabaaGreat.AW Go.Proofs
namespace Go.Proofs.YtlnelaajlhfabaaGreat.AW
set_option maxRecDepth 100000
set_option linter.unusedSimpArgs false
set_option linter.unusedVariables false

/-! ### known -/
def k1 : Bt := ⟨4, 1, 2, 0, true, 0, [([], [])]⟩
def k2 : Bt := ⟨5, 1, 2, -1, true, 2, []⟩
def k3 : Bt := ⟨0, -1, -1, -1, false, 0, [([], [])]⟩
def k4 : Bt := ⟨0, 0, 0, 0, false, 0, []⟩
theorem right0 {b : Bt} (hp : plainV b = 0) (hn : b.recs.length ≤ 1) (hz : ∀ q, q ∈ b.recs → q.1.length + q.2.length ≤ 0) : rightV b = 0 := by
  have h1 := wrB_len b
  have h2 := rcBs_le hz
  have h3 : (wrB b).length ≤ 4096 := by
    rw [h1]
    have : b.recs.length * (0 + 20) ≤ 1 * (0 + 20) := Nat.mul_le_mul_right _ hn
    omega
  unfold rightV
  rw [hp]
  rw [if_neg (by decide), if_neg (by rw [bytesP_len]; intro h; have := of_decide_eq_true h; omega)]
theorem right_k1 : rightV k1 = 0 := right0 (by decide +kernel) (by decide) (by decide)
theorem right_k2 : rightV k2 = 0 := right0 (by decide +kernel) (by decide) (by intro q hq; cases hq)
theorem right_k3 : rightV k3 = 0 := right0 (by decide +kernel) (by decide) (by decide)
theorem right_k4 : rightV k4 = 12 := by
  have h : plainV k4 = 12 := by decide +kernel
  unfold rightV; rw [h]; rfl
theorem sm_k1 : k1.small := ⟨by decide, by decide⟩
theorem sm_k2 : k2.small := ⟨by decide, by intro q hq; cases hq⟩
theorem sm_k3 : k3.small := ⟨by decide, by decide⟩
theorem sm_k4 : k4.small := ⟨by decide, by intro q hq; cases hq⟩
def p1 : Pr := applyV pr0 false k1
def p2 : Pr := applyV p1 true k2
theorem app_k1 : tApp [] 0 k1 = ([(0, 1, p1)], 1) := by
  unfold tApp; rw [right_k1]; rfl
theorem app_k2 : tApp [(0, 1, p1)] 1 k2 = ([(0, 1, p2)], 1) := by
  unfold tApp; rw [right_k2]; rfl
theorem drop_k2 : tDrop (some p1) k2 = ((1, 4, 5), true) := by
  unfold tDrop; rw [right_k2]; rfl
theorem chk_k3 (o : Option Pr) : tChk o k3 = (-1, 0) := by
  unfold tChk; rw [right_k3]; rfl
theorem chk_k4 (o : Option Pr) : tChk o k4 = (-1, 12) := by
  unfold tChk; rw [right_k4]; rfl
theorem op_p1 : p1.op = 4 := rfl
theorem op_p2 : p2.op = -1 := rfl
theorem inv_1 : TInv [(0, 1, p1)] 1 := by have := TInv.nil.app k1; rw [app_k1] at this; exact this
theorem inv_2 : TInv [(0, 1, p2)] 1 := by have := inv_1.app k2; rw [app_k2] at this; exact this
def nR : PV := .agg [.sl .nil 0 [], .sl .nil 0 []]
def kN (b : Bt) (r : PV) : PV := .agg [ii b.base, ii b.prod, ii b.epoch, ii b.seq, .bool b.txn, ii b.mark, r]
theorem wk_kN {b : Bt} {r : PV} (h : WkD r (rcP b.recs)) : WkD (kN b r) b.pv := .agg _ _ (.cons _ _ _ _ (.refl _) (.cons _ _ _ _ (.refl _) (.cons _ _ _ _ (.refl _) (.cons _ _ _ _ (.refl _) (.cons _ _ _ _ (.refl _) (.cons _ _ _ _ (.refl _) (.cons _ _ _ _ h .nil)))))))
theorem wk_0 : WkD (.sl .nil 0 []) (rcP []) := .nil 0 .shr 2
theorem kopen0 (K : AV → Store → Prop) (h : K (ib (-1, false)) (tbS [] 0)) : Cal Tryz.prog 64 [.ref 1 0] (tbS [] 0) K :=
  topen_c [] 0 TInv.nil K fun r hr => by
    rw [hr.eq (t := (-1, false)) (.inl ⟨rfl, rfl, fun x hx => by cases hx⟩)]; exact h
theorem kopen1 (K : AV → Store → Prop) (h : K (ib (4, true)) (tbS [(0, 1, p1)] 1)) : Cal Tryz.prog 64 [.ref 1 0] (tbS [(0, 1, p1)] 1) K :=
  topen_c _ _ inv_1 K fun r hr => by
    rw [hr.eq (t := (4, true)) (.inr ⟨rfl, by decide, by rw [List.map_cons, op_p1]; simp, fun x hx _ => by
      rw [List.map_cons, op_p1] at hx
      simp at hx; subst hx; decide⟩)]; exact h
theorem kapp1 {r : PV} (hw : WkD r (rcP k1.recs)) (K : AV → Store → Prop) (h : K (db (tDrop none k1)) (tbS [(0, 1, p1)] 1)) : Cal Tryz.prog 57 [.ref 1 0, .p (kN k1 r)] (tbS [] 0) K :=
  Cal.argsD (args' := [.ref 1 0, .p k1.pv]) (tapply_c [] 0 TInv.nil.ok k1 sm_k1 K (by rw [app_k1]; exact h)) ⟨.inl rfl, .inr ⟨_, _, rfl, rfl, wk_kN hw⟩, trivial⟩
theorem kapp2 (K : AV → Store → Prop) (h : K (db ((1, 4, 5), true)) (tbS [(0, 1, p2)] 1)) : Cal Tryz.prog 57 [.ref 1 0, .p (kN k2 (.sl .nil 0 []))] (tbS [(0, 1, p1)] 1) K :=
  Cal.argsD (args' := [.ref 1 0, .p k2.pv]) (tapply_c _ 1 inv_1.ok k2 sm_k2 K (by rw [app_k2, show tGet [(0, 1, p1)] k2.prod = some p1 from rfl, drop_k2]; exact h)) ⟨.inl rfl, .inr ⟨_, _, rfl, rfl, wk_kN wk_0⟩, trivial⟩
theorem kget (K : AV → Store → Prop) (h : K (gtC (some p2)) (tbS [(0, 1, p2)] 1)) : Cal Tryz.prog 16 [.ref 1 0, .p (ii 1)] (tbS [(0, 1, p2)] 1) K :=
  tget_c _ 1 inv_2.ok 1 K h
theorem kchk3 {r : PV} (hw : WkD r (rcP k3.recs)) (K : AV → Store → Prop) (h : K (i2 (-1, 0)) (tbS [(0, 1, p2)] 1)) : Cal Tryz.prog 65 [.ref 1 0, .p (kN k3 r)] (tbS [(0, 1, p2)] 1) K :=
  Cal.argsD (args' := [.ref 1 0, .p k3.pv]) (tcheck_c _ 1 inv_2.ok k3 sm_k3 K (by rw [chk_k3]; exact h)) ⟨.inl rfl, .inr ⟨_, _, rfl, rfl, wk_kN hw⟩, trivial⟩
theorem kchk4 (K : AV → Store → Prop) (h : K (i2 (-1, 12)) (tbS [(0, 1, p2)] 1)) : Cal Tryz.prog 65 [.ref 1 0, .p (kN k4 (.sl .nil 0 []))] (tbS [(0, 1, p2)] 1) K :=
  Cal.argsD (args' := [.ref 1 0, .p k4.pv]) (tcheck_c _ 1 inv_2.ok k4 sm_k4 K (by rw [chk_k4]; exact h)) ⟨.inl rfl, .inr ⟨_, _, rfl, rfl, wk_kN wk_0⟩, trivial⟩
theorem kall (K : AV → Store → Prop) (h : ∀ p : Pr, K (.p (prsC [p])) (tbS [(0, 1, p2)] 1)) : Cal Tryz.prog 18 [.ref 1 0] (tbS [(0, 1, p2)] 1) K :=
  tall_c _ 1 inv_2 (by show 1 ≤ 1000000000; decide) K fun ps hp _ => by
    have hl : ps.length = 1 := hp.length_eq
    match ps, hl with
    | [p], _ => exact h p
def r1 : PV := .sl .clip 2 [.agg [.str [], .str []]]
theorem wk_1 : WkD r1 (rcP [([], [])]) := .sl .clip 2 _ _ rfl (fun y hy => by rw [List.mem_singleton.1 hy]; exact ⟨rfl, rfl⟩) (.cons _ _ _ _ (.refl _) (.cons _ _ _ _ (.refl _) .nil))
set_option maxHeartbeats 8000000 in
theorem known_c (s : Store) (K : AV → Store → Prop) (h : K (.p (.bool true)) s) : Cal Tryz.prog 20 [] s K := by
  refine Cal.pure (args := []) ?_
  refine Cal.intro Tryz.func20 (by decide +kernel) rfl rfl ?_
  refine Cal.frameK [] (tnew_c _ fun _ => ?_) rfl rfl rfl
  refine Br.f rfl ?_
  refine Cal.frameK [0, 1] (kopen0 _ fun _ => ?_) rfl rfl rfl
  try refine Or.inl ?_
  refine Ob.mk (okst rfl rfl rfl) ?_
  refine Cal.frameK [0, 1] (kapp1 (r := r1) wk_1 _ fun _ => ?_) rfl rfl rfl
  refine Cal.frameK [0, 1] (kopen1 _ fun _ => ?_) rfl rfl rfl
  refine Cal.frameK [0, 1] (kapp2 _ fun _ => ?_) rfl rfl rfl
  refine Ob.mk (okst rfl rfl rfl) ?_
  refine Cal.frameK [0, 1] (kget _ fun _ => ?_) rfl rfl rfl
  refine Ob.mk (okst rfl rfl rfl) ?_
  try refine Or.inl ?_
  refine Cal.frameK [0, 1] (kchk3 (r := r1) wk_1 _ fun _ => ?_) rfl rfl rfl
  refine Cal.frameK [0, 1] (kchk4 _ fun _ => ?_) rfl rfl rfl
  repeat' (first
    | (apply Br.t; · (first | rfl | (simp only [*] <;> rfl)))
    | (apply Br.f; · (first | rfl | (simp only [*] <;> rfl)))
    | refine Ob.mk (okst rfl rfl rfl) ?_
    | refine Ob.mk ⟨by decide +kernel, by decide +kernel⟩ ?_
    | refine Cal.frameK [0, 1] (kall _ fun p _ => ?_) rfl rfl rfl
    | refine Br.mkT (fun c => ?_) (fun c => ?_)
    | refine Br.mkF (fun c => ?_) (fun c => ?_)
    | refine Br.mk (fun c => ?_) (fun c => ?_)
    | exact h
    | (simp only [*, Bool.true_and, Bool.false_and, Bool.true_or, Bool.false_or, Bool.and_true, Bool.and_false, Bool.or_true, Bool.or_false, Bool.not_true, Bool.not_false, if_true, if_false, reduceIte, Bool.false_eq_true] at h; exact h))
end Go.Proofs.YtlnelaajlhfabaaGreat.AW
