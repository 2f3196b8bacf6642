/- A part of the proof: LG/S1, LG/G29, LG/B2, LG/B3, LG/B4, LG/B5, LG/B6, LG/B7, LG/B8. -/
import Derived.Test.YtlnelaajlhfabaaGreatP14
import Derived.Test.YtlnelaajlhfabaaGreatProg
import Derived.Test.YtlnelaajlhfabaaGreatP13
open Go Go.Proofs.YtlnelaajlhfabaaGreat.AW Go.Proofs
namespace Go.Proofs.YtlnelaajlhfabaaGreat.AW
set_option maxRecDepth 100000
set_option linter.unusedSimpArgs false
set_option linter.unusedVariables false
open Go.Shelf

/-! ### slices.SortFunc of structs: the shelf's, laid in plain words -/
def sortP_ren : Go.Shelf.Ren := ⟨fun | 6 => 59 | 15 => 123 | 14 => 122 | 28 => 173 | 29 => 174 | 20 => 165 | 21 => 166 | 22 => 167 | 23 => 168 | 24 => 169 | 25 => 170 | 26 => 171 | 27 => 172 | 46 => 224 | 47 => 225 | 48 => 226 | 49 => 227 | 50 => 228 | 57 => 253 | n => n, fun | 22 => 36 | 24 => 32 | 25 => 111 | 3 => 3 | 39 => 169 | 0 => 0 | 53 => 210 | 55 => 212 | 4 => 4 | 46 => 204 | 45 => 203 | 50 => 136 | 5 => 5 | 9 => 9 | 66 => 244 | 70 => 248 | 76 => 265 | 77 => 266 | n => n, fun | n => n⟩
theorem sortP : SlLaysF0.n6 Tryz.prog sortP_ren where
  mixed := by kernel_rfl
  f6 := ⟨Tryz.f59.name, by decide +kernel, Tryz.func59.trans (congrArg some (by kernel_rfl))⟩
  f14 := ⟨Tryz.f122.name, by decide +kernel, Tryz.func122.trans (congrArg some (by kernel_rfl))⟩
  f15 := Tryz.func123.trans (congrArg some (by kernel_rfl))
  f20 := ⟨Tryz.f165.name, by decide +kernel, Tryz.func165.trans (congrArg some (by kernel_rfl))⟩
  f21 := ⟨Tryz.f166.name, by decide +kernel, Tryz.func166.trans (congrArg some (by kernel_rfl))⟩
  f22 := ⟨Tryz.f167.name, by decide +kernel, Tryz.func167.trans (congrArg some (by kernel_rfl))⟩
  f23 := ⟨Tryz.f168.name, by decide +kernel, Tryz.func168.trans (congrArg some (by kernel_rfl))⟩
  f24 := ⟨Tryz.f169.name, by decide +kernel, Tryz.func169.trans (congrArg some (by kernel_rfl))⟩
  f25 := ⟨Tryz.f170.name, by decide +kernel, Tryz.func170.trans (congrArg some (by kernel_rfl))⟩
  f26 := ⟨Tryz.f171.name, by decide +kernel, Tryz.func171.trans (congrArg some (by kernel_rfl))⟩
  f27 := ⟨Tryz.f172.name, by decide +kernel, Tryz.func172.trans (congrArg some (by kernel_rfl))⟩
  f28 := Tryz.func173.trans (congrArg some (by kernel_rfl))
  f29 := Tryz.func174.trans (congrArg some (by kernel_rfl))
  f46 := ⟨Tryz.f224.name, by decide +kernel, Tryz.func224.trans (congrArg some (by kernel_rfl))⟩
  f47 := Tryz.func225.trans (congrArg some (by kernel_rfl))
  f48 := Tryz.func226.trans (congrArg some (by kernel_rfl))
  f49 := ⟨Tryz.f227.name, by decide +kernel, Tryz.func227.trans (congrArg some (by kernel_rfl))⟩
  f50 := ⟨Tryz.f228.name, by decide +kernel, Tryz.func228.trans (congrArg some (by kernel_rfl))⟩
  f57 := ⟨Tryz.f253.name, by decide +kernel, Tryz.func253.trans (congrArg some (by kernel_rfl))⟩
  t0 := Tryz.underlying0
  a0 := Tryz.isAgg0
  z0 := Tryz.sizeOf0
  v0 := Tryz.zeroValue0
  t3 := Tryz.underlying3
  a3 := Tryz.isAgg3
  z3 := Tryz.sizeOf3
  v3 := Tryz.zeroValue3
  t4 := Tryz.underlying4
  a4 := Tryz.isAgg4
  z4 := Tryz.sizeOf4
  v4 := Tryz.zeroValue4
  t5 := Tryz.underlying5
  a5 := Tryz.isAgg5
  z5 := Tryz.sizeOf5
  v5 := Tryz.zeroValue5
  t9 := Tryz.underlying9
  a9 := Tryz.isAgg9
  z9 := Tryz.sizeOf9
  v9 := Tryz.zeroValue9
  t22 := Tryz.underlying36
  a22 := Tryz.isAgg36
  z22 := Tryz.sizeOf36
  v22 := Tryz.zeroValue36
  t25 := Tryz.underlying111
  a25 := Tryz.isAgg111
  z25 := Tryz.sizeOf111
  v25 := Tryz.zeroValue111
  t39 := Tryz.underlying169
  a39 := Tryz.isAgg169
  z39 := Tryz.sizeOf169
  v39 := Tryz.zeroValue169
  t45 := Tryz.underlying203
  a45 := Tryz.isAgg203
  z45 := Tryz.sizeOf203
  v45 := Tryz.zeroValue203
  t46 := Tryz.underlying204
  a46 := Tryz.isAgg204
  z46 := Tryz.sizeOf204
  v46 := Tryz.zeroValue204
  t50 := Tryz.underlying136
  a50 := Tryz.isAgg136
  z50 := Tryz.sizeOf136
  v50 := Tryz.zeroValue136
  t53 := Tryz.underlying210
  a53 := Tryz.isAgg210
  z53 := Tryz.sizeOf210
  v53 := Tryz.zeroValue210
  t55 := Tryz.underlying212
  a55 := Tryz.isAgg212
  z55 := Tryz.sizeOf212
  v55 := Tryz.zeroValue212
  t66 := Tryz.underlying244
  a66 := Tryz.isAgg244
  z66 := Tryz.sizeOf244
  v66 := Tryz.zeroValue244
  t70 := Tryz.underlying248
  a70 := Tryz.isAgg248
  z70 := Tryz.sizeOf248
  v70 := Tryz.zeroValue248
  t76 := Tryz.underlying265
  a76 := Tryz.isAgg265
  z76 := Tryz.sizeOf265
  v76 := Tryz.zeroValue265
  t77 := Tryz.underlying266
  a77 := Tryz.isAgg266
  z77 := Tryz.sizeOf266
  v77 := Tryz.zeroValue266
end Go.Proofs.YtlnelaajlhfabaaGreat.AW

open Go Go.Proofs.YtlnelaajlhfabaaGreat.AW Go.Proofs
namespace Go.Proofs.YtlnelaajlhfabaaGreat.AW
set_option maxRecDepth 100000
set_option linter.unusedSimpArgs false
set_option linter.unusedVariables false

/-! ### All producers of a table, by id -/
def cmpI (x y : Int) : Int := if x < y then -1 else if x > y then 1 else 0
theorem isnan_c (a : Int) (s : Store) (K : AV → Store → Prop) (h : K (.p (.bool false)) s) : Cal Tryz.prog 124 [.p (ii a)] s K := by
  refine Cal.pure (args := [ii a]) ?_
  refine Cal.intro Tryz.func124 (by decide +kernel) rfl rfl ?_
  show K (.p (.bool (!(decide (a = a))))) s
  rw [decide_eq_true rfl]; exact h
theorem cmpI_c (a b : Int) (s : Store) (K : AV → Store → Prop) (h : K (.p (ii (cmpI a b))) s) : Cal Tryz.prog 61 [.p (ii a), .p (ii b)] s K := by
  refine Cal.pure (args := [ii a, ii b]) ?_
  refine Cal.intro Tryz.func61 (by decide +kernel) rfl rfl ?_
  unfold cmpI at h
  cases h1 : decide (a < b) <;> cases h2 : decide (a > b)
  all_goals
    have f1 := h1
    have f2 := h2
    simp only [decide_eq_true_eq, decide_eq_false_iff_not] at f1 f2
    repeat' (first
      | (apply Br.t; · (first | rfl | (simp only [*] <;> rfl)))
      | (apply Br.f; · (first | rfl | (simp only [*] <;> rfl)))
      | refine Ob.mk (okst rfl rfl rfl) ?_
      | refine isnan_c _ _ _ ?_
      | refine Br.mkT (fun c => ?_) (fun c => ?_)
      | refine Br.mkF (fun c => ?_) (fun c => ?_)
      | refine Br.mk (fun c => ?_) (fun c => ?_)
      | exact h
      | (simp only [*, Bool.true_and, Bool.false_and, Bool.true_or, Bool.false_or, Bool.and_true, Bool.and_false, Bool.or_true, Bool.or_false, Bool.not_true, Bool.not_false, if_true, if_false, reduceIte, Bool.false_eq_true] at h; exact h))
def prId : PV → Int
  | .agg (.int _ n :: _) => n
  | _ => 0
def prCmp (x y : PV) : Int := cmpI (prId x) (prId y)
theorem pcmp_c (x y : Pr) (s : Store) (K : AV → Store → Prop) (h : K (.p (ii (prCmp x.pv y.pv))) s) : Cal Tryz.prog 60 [.p x.pv, .p y.pv] s K := by
  refine Cal.pure (args := [x.pv, y.pv]) ?_
  refine Cal.intro Tryz.func60 (by decide +kernel) rfl rfl ?_
  have h : K (.p (ii (cmpI x.id y.id))) s := h
  repeat' (first
    | (apply Br.t; · (first | rfl | (simp only [*] <;> rfl)))
    | (apply Br.f; · (first | rfl | (simp only [*] <;> rfl)))
    | refine Ob.mk (okst rfl rfl rfl) ?_
    | refine cmpI_c _ _ _ _ ?_
    | refine Br.mkT (fun c => ?_) (fun c => ?_)
    | refine Br.mkF (fun c => ?_) (fun c => ?_)
    | refine Br.mk (fun c => ?_) (fun c => ?_)
    | exact h
    | (simp only [*, Bool.true_and, Bool.false_and, Bool.true_or, Bool.false_or, Bool.and_true, Bool.and_false, Bool.or_true, Bool.or_false, Bool.not_true, Bool.not_false, if_true, if_false, reduceIte, Bool.false_eq_true] at h; exact h))
theorem cmpI_lt (a b : Int) : cmpI a b < 0 ↔ a < b := by
  unfold cmpI
  split
  · rename_i h; exact ⟨fun _ => h, fun _ => by omega⟩
  · split <;> exact ⟨fun q => by omega, fun q => by omega⟩
theorem pr_ord (l : List PV) : Ord (fun x y => prCmp x y < 0) l := by
  refine ⟨fun x _ h => ?_, fun x y z _ _ _ h k => ?_, fun x y z _ _ _ h k q => ?_⟩
  · have := (cmpI_lt _ _).1 h; omega
  · have h := (cmpI_lt _ _).1 h; have k := (cmpI_lt _ _).1 k; exact (cmpI_lt _ _).2 (by omega)
  · have q := (cmpI_lt _ _).1 q
    have h : ¬ prId x < prId y := fun e => h ((cmpI_lt _ _).2 e)
    have k : ¬ prId y < prId z := fun e => k ((cmpI_lt _ _).2 e)
    omega
theorem prs_of {ys : List PV} {l : List Pr} (h : ys.Perm (l.map Pr.pv)) : ∃ ps : List Pr, ys = ps.map Pr.pv ∧ ps.Perm l := by
  induction l generalizing ys with
  | nil => exact ⟨[], h.eq_nil, .refl _⟩
  | cons p r ih =>
    rw [List.map_cons] at h
    obtain ⟨a, b, rfl⟩ := List.append_of_mem (h.mem_iff.2 (List.mem_cons_self ..))
    have h2 : (a ++ b).Perm (r.map Pr.pv) := (List.Perm.cons_inv (List.perm_middle.symm.trans h))
    obtain ⟨ps, h3, h4⟩ := ih h2
    obtain ⟨pa, pb, h5, h6, h7⟩ := List.append_eq_map_iff.1 h3
    exact ⟨pa ++ p :: pb, by rw [List.map_append, List.map_cons, h6, h7], List.perm_middle.trans ((h5 ▸ h4).cons p)⟩
def prsC (l : List Pr) : PV := .sl .clip 4 (l.map Pr.pv)
set_option maxHeartbeats 8000000 in
theorem tall_c (es : List TE) (cl : Nat) (hi : TInv es cl) (hlen : es.length ≤ 1000000000) (K : AV → Store → Prop) (h : ∀ ps : List Pr, ps.Perm (es.map fun q => q.2.2) → ps.Pairwise (fun a b => ¬ b.id < a.id) → K (.p (prsC ps)) (tbS es cl)) : Cal Tryz.prog 18 [.ref 1 0] (tbS es cl) K := by
  refine Cal.cut ?_
  refine Cal.intro Tryz.func18 (by decide +kernel) rfl rfl ?_
  have hfst : (es.map tent).map (·.1) = es.map (·.1) := by rw [List.map_map]; rfl
  refine LoopX.famW [3, 10] (fun (q : List TE × List TE × Option (Nat × Nat)) => ([(3, .osl 3 (q.1.map fun q => q.2.2.pv).length 0 (q.1.map fun q => q.2.2.pv).length), (10, .it 2)],
      [some (.map (.int .i64) (es.map tent) cl), some (.cells [.map 0]), some (.iterM 0 ((es.map tent).map (·.1)) (q.2.1.map (·.1), q.2.2)), some (.buf 4 (q.1.map fun q => q.2.2.pv))]))
    (fun q => (q.1 ++ q.2.1).Perm es) (fun q => q.2.1.length) ([], es, none) (List.Perm.refl _) (by show 3 ≤ 4; decide) (Trim.wk 3 [(4, none)] rfl (by show 3 ≤ 3; decide) (.inr rfl) (by rw [← hfst]; rfl) rfl rfl rfl rfl ⟨.own 3 rfl rfl, .inl rfl, trivial⟩) ?_
  rintro ⟨out, rest, cur⟩ hq
  have hq : (out ++ rest).Perm es := hq
  have hln : out.length + rest.length = es.length := by have := hq.length_eq; simpa using this
  refine Ob.mk rfl ?_
  refine BrL.mk (fun (he : rest.map (·.1) = []) => ?_) (fun (hne : rest.map (·.1) ≠ []) => ?_)
  · have hr : rest = [] := List.map_eq_nil_iff.1 he
    subst hr
    rw [List.append_nil] at hq
    refine Br.f rfl ?_
    show Cal Tryz.prog 59 [.osl 3 (out.map fun q => q.2.2.pv).length 0 (out.map fun q => q.2.2.pv).length, .clos 60 []] [_, _, _, some (.buf 4 (out.map fun q => q.2.2.pv) none)] _
    refine Cal.sortK (id := 3) (xs := out.map fun q => q.2.2.pv) (ty := none) sortP (k := 4) (by decide) Tryz.isAgg32 Tryz.sizeOf32 rfl ⟨_, Tryz.func59, by decide +kernel, rfl⟩ ⟨_, Tryz.func60, by decide +kernel, rfl⟩ ?_ ?_ ?_ prCmp (pr_ord _) ?_ ?_
    · rfl
    · intro x hx
      obtain ⟨q, _, rfl⟩ := List.mem_map.1 hx
      rfl
    · rw [List.length_map]; omega
    · intro x y hx hy
      obtain ⟨q, hqm, rfl⟩ := List.mem_map.1 hx
      obtain ⟨p, hpm, rfl⟩ := List.mem_map.1 hy
      exact pcmp_c _ _ [] _ ⟨rfl, rfl⟩
    · intro ys hp hs
      have hp2 : ys.Perm ((out.map fun q => q.2.2).map Pr.pv) := by rw [List.map_map]; exact hp
      obtain ⟨ps, rfl, hn⟩ := prs_of hp2
      have hl : (ps.map Pr.pv).length = (out.map fun q => q.2.2.pv).length := hp.length_eq
      refine Cal.freeze ?_ ⟨_, Tryz.func62, rfl, rfl⟩
      refine Ob.mk hl ?_
      have e : ((ps.map Pr.pv).drop 0).take (out.map fun q => q.2.2.pv).length = ps.map Pr.pv := by rw [List.drop_zero, ← hl, List.take_length]
      show Cal _ _ [.p (.sl .shr 4 (((ps.map Pr.pv).drop 0).take (out.map fun q => q.2.2.pv).length))] _ _
      rw [e]
      have hk := h ps (hn.trans (hq.map _)) (by
        rw [List.pairwise_map] at hs
        exact hs.imp fun hab q => hab ((cmpI_lt _ _).2 q))
      refine clip_pr _ _ _ ?_
      exact ⟨2, tbS es cl, Nat.le_refl 2, (show (2 : Nat) ≤ 4 by decide), rfl, rfl, WkS.refl _, hk⟩
  · refine Any.mk fun b k v hb hkv => ?_
    obtain ⟨fe, hfe, hent⟩ := List.mem_map.1 hkv
    cases hent
    obtain ⟨fe', hfe', hbe⟩ := List.mem_map.1 hb
    have hin : fe ∈ rest := by
      have : fe' = fe := nd_eqT hi.nd (hq.mem_iff.1 (List.mem_append_right _ hfe')) hfe hbe
      rw [← this]; exact hfe'
    have hndr : (rest.map (·.1)).Nodup := by
      have h1 : ((out ++ rest).map (·.1)).Nodup := (hq.map _).nodup_iff.2 hi.nd
      rw [List.map_append] at h1
      exact (List.nodup_append.1 h1).2.1
    have hpo := perm_outT hndr hin
    have hpl := hpo.length_eq
    rw [List.length_cons] at hpl
    refine Br.t rfl ?_
    refine Ob.mk rfl ⟨ii fe.2.1, fe.2.2.pv, Ob.mk hkv ?_⟩
    refine Ob.mk (okst rfl rfl rfl) ?_
    refine copy_c fe.2.2 (hi.ok _ hfe) _ _ ?_
    refine Ob.mk ?_ ?_
    · refine ⟨rfl, rfl, rfl, ?_⟩
      show ((out.map fun q => q.2.2.pv).length + 1) * 48 ≤ _
      rw [List.length_map]; omega
    · refine ⟨(out ++ [fe], rest.filter (fun q => !(q.1 == fe.1)), some (fe.1, cl)), ?_, by show (rest.filter _).length < rest.length; omega, (show (3 : Nat) ≤ 4 by decide), Trim.mk' ?_ ?_ rfl rfl (show (4 : Nat) ≤ 5 by decide)⟩
      · show ((out ++ [fe]) ++ rest.filter _).Perm es
        rw [List.append_assoc]
        exact ((hpo.symm.append_left out)).trans hq
      · show _ = [(3, AV.osl 3 ((out ++ [fe]).map fun q => q.2.2.pv).length 0 ((out ++ [fe]).map fun q => q.2.2.pv).length), _]
        rw [List.map_append]; rfl
      · show _ = [_, _, some (AObj.iterM 0 _ ((rest.filter (fun q => !(q.1 == fe.1))).map (·.1), _)), some (AObj.buf 4 ((out ++ [fe]).map fun q => q.2.2.pv) none)]
        have e1 : (rest.filter (fun q => !(q.1 == fe.1))).map (·.1) = (rest.map (·.1)).filter fun x => !(x == fe.1) := by
          rw [List.filter_map]; rfl
        rw [List.map_append, e1]; rfl
end Go.Proofs.YtlnelaajlhfabaaGreat.AW

open Go Go.Proofs.YtlnelaajlhfabaaGreat.AW Go.Proofs
namespace Go.Proofs.YtlnelaajlhfabaaGreat.AW
set_option linter.unusedSimpArgs false
set_option linter.unusedVariables false

/-! ### What one producer does turns no other one -/
theorem tGet_tSet (n : Int) (x : Pr) : ∀ (es : List TE) (m : Int), tGet (tSet es n x) m = if m = n then (tGet es n).map (fun _ => x) else tGet es m
  | [], m => by simp [tSet, tGet]
  | (t, k, p) :: r, m => by
    unfold tSet
    by_cases h : n = k
    · subst h
      rw [if_pos rfl]
      by_cases hm : m = n
      · subst hm; simp [tGet]
      · simp [tGet, hm]
    · rw [if_neg h]
      by_cases hm : m = k
      · subst hm
        have : ¬ m = n := fun e => h e.symm
        simp [tGet, this]
      · have ih := tGet_tSet n x r m
        simp only [tGet, if_neg hm, if_neg h, ih]
theorem tGet_app (es : List TE) (t : Nat) (n : Int) (x : Pr) (m : Int) : tGet (es ++ [(t, n, x)]) m = (tGet es m).orElse fun _ => if m = n then some x else none := by
  induction es with
  | nil => simp [tGet]
  | cons q r ih =>
    obtain ⟨s, k, p⟩ := q
    rw [List.cons_append]
    by_cases h : m = k
    · simp [tGet, h]
    · simp only [tGet, if_neg h, ih]
theorem tGet_tPut (es : List TE) (cl : Nat) (n : Int) (x : Pr) (m : Int) : tGet (tPut es cl n x) m = if m = n then some x else tGet es m := by
  unfold tPut
  cases hg : tGet es n with
  | some q => simp only [tGet_tSet, hg, Option.map_some]
  | none =>
    simp only [tGet_app]
    by_cases h : m = n
    · subst h; rw [hg, if_pos rfl]; simp
    · rw [if_neg h, if_neg h]; cases tGet es m <;> rfl
/-- A step of one producer's own state. -/
def own1 (o : Option Pr) (b : Bt) : Option Pr := if ((rightV b != 0) || (b.prod == -1)) = true then o else some (applyV (o.getD pr0) o.isSome b)
theorem tGet_tApp (es : List TE) (cl : Nat) (b : Bt) (m : Int) : tGet (tApp es cl b).1 m = if m = b.prod then own1 (tGet es m) b else tGet es m := by
  unfold tApp own1
  split
  · split <;> rfl
  · rw [tGet_tPut]
    by_cases h : m = b.prod
    · subst h; rfl
    · rw [if_neg h, if_neg h]
def ownL (L : List Bt) (m : Int) : List Bt := L.filter fun b => b.prod == m
theorem RowOk.right {st : Int} {L : List Bt} (h : RowOk st L) : ∀ b, b ∈ L → rightV b = 0 := by
  induction h with
  | nil => intro b hb; cases hb
  | snoc L b h h1 h2 h3 h4 h5 ih =>
    intro c hc
    rcases List.mem_append.1 hc with hc | hc
    · exact ih c hc
    · rw [List.mem_singleton.1 hc]
      by_cases hr : rightV b = 0
      · exact hr
      · exfalso
        unfold tChk at h2
        rw [if_pos (by simpa using hr)] at h2
        exact hr h2
end Go.Proofs.YtlnelaajlhfabaaGreat.AW

open Go Go.Proofs.YtlnelaajlhfabaaGreat.AW Go.Proofs
namespace Go.Proofs.YtlnelaajlhfabaaGreat.AW
set_option linter.unusedSimpArgs false
set_option linter.unusedVariables false

/-! ### The least open offset: the base of the first transaction's batch that no marker ends -/
/-- A transaction's batch at place j, which no later marker of its producer ends. -/
def liveB (b : Bt) : Bool := b.txn && (b.mark == 0)
def endsB (b c : Bt) : Bool := (c.mark != 0) && (c.prod == b.prod)
def Live (L : List Bt) (j : Nat) : Prop := ∃ hj : j < L.length, liveB L[j] = true ∧ (L.drop (j + 1)).any (endsB L[j]) = false
def opOf (o : Option Pr) : Int := match o with | some p => p.op | none => -1
/-- What is asked of a row. -/
structure RowM (L : List Bt) : Prop where
  right : ∀ b, b ∈ L → rightV b = 0
  mono : ∀ i j (hi : i < L.length) (hj : j < L.length), i ≤ j → L[i].base ≤ L[j].base
  pos : ∀ b, b ∈ L → 0 ≤ b.base
  txn : ∀ b, b ∈ L → liveB b = true → b.prod ≠ -1

theorem live_snoc_old {L : List Bt} {b : Bt} {j : Nat} (hj : j < L.length) : Live (L ++ [b]) j ↔ Live L j ∧ endsB L[j] b = false := by
  have e : (L ++ [b])[j]'(by simp; omega) = L[j] := List.getElem_append_left hj
  have d : (L ++ [b]).drop (j + 1) = L.drop (j + 1) ++ [b] := by rw [List.drop_append_of_le_length (by omega)]
  constructor
  · rintro ⟨h1, h2, h3⟩
    rw [e] at h2 h3
    rw [d, List.any_append, Bool.or_eq_false_iff] at h3
    exact ⟨⟨hj, h2, h3.1⟩, by simpa using h3.2⟩
  · rintro ⟨⟨_, h2, h3⟩, h4⟩
    refine ⟨by simp; omega, ?_, ?_⟩
    · rw [e]; exact h2
    · rw [e, d, List.any_append, h3]; simpa using h4
theorem live_snoc_new {L : List Bt} {b : Bt} : Live (L ++ [b]) L.length ↔ liveB b = true := by
  have e : (L ++ [b])[L.length]'(by simp) = b := by simp
  constructor
  · rintro ⟨h1, h2, h3⟩; rw [e] at h2; exact h2
  · intro h
    refine ⟨by simp, by rw [e]; exact h, ?_⟩
    rw [List.drop_of_length_le (by simp)]; rfl
theorem tGet_snoc (L : List Bt) (b : Bt) (m : Int) : tGet (tApps ([], 0) (L ++ [b])).1 m = if m = b.prod then own1 (tGet (tApps ([], 0) L).1 m) b else tGet (tApps ([], 0) L).1 m := by
  rw [tApps_snoc, tGet_tApp]
def opL (L : List Bt) (m : Int) : Int := opOf (tGet (tApps ([], 0) L).1 m)
theorem own1_op {o : Option Pr} {b : Bt} (hr : rightV b = 0) (hp : b.prod ≠ -1) : opOf (own1 o b) = if b.mark ≠ 0 then -1 else if b.txn = true ∧ opOf o < 0 then b.base else opOf o := by
  have key : ∀ (l0 : List Tri) (op0 : Int), (behV l0 op0 b).op = if b.mark ≠ 0 then -1 else if b.txn = true ∧ op0 < 0 then b.base else op0 := by
    intro l0 op0
    unfold behV
    by_cases hm : b.mark = 0
    · rw [if_neg (c := (b.mark != 0) = true) (by simpa using hm), if_neg (c := b.mark ≠ 0) (by simpa using hm)]
      show (if (b.txn && decide (op0 < 0)) = true then b.base else op0) = _
      by_cases h : b.txn = true ∧ op0 < 0
      · rw [if_pos h, if_pos (by simp [h])]
      · rw [if_neg h, if_neg (by simpa using h)]
    · rw [if_pos (by simpa using hm), if_pos (by simpa using hm)]
  unfold own1
  rw [if_neg (by rw [hr]; simpa using hp)]
  have e : (if o.isSome = true then (o.getD pr0).op else -1) = opOf o := by cases o <;> rfl
  show (behV _ (if o.isSome = true then (o.getD pr0).op else -1) b).op = _
  rw [key, e]
theorem opL_snoc {L : List Bt} {b : Bt} (hr : rightV b = 0) (m : Int) (hm : m ≠ -1) : opL (L ++ [b]) m = if m = b.prod then (if b.mark ≠ 0 then -1 else if b.txn = true ∧ opL L m < 0 then b.base else opL L m) else opL L m := by
  unfold opL
  rw [tGet_snoc]
  by_cases h : m = b.prod
  · rw [if_pos h, if_pos h, own1_op hr (by rw [← h]; exact hm)]
  · rw [if_neg h, if_neg h]
theorem snocI {p : List Bt → Prop} (h0 : p []) (h1 : ∀ L b, p L → p (L ++ [b])) : ∀ L, p L := by
  intro L
  rw [← List.reverse_reverse L]
  induction L.reverse with
  | nil => exact h0
  | cons b r ih => rw [List.reverse_cons]; exact h1 _ _ ih
theorem RowM.init {L : List Bt} {b : Bt} (h : RowM (L ++ [b])) : RowM L := by
  refine ⟨fun c hc => h.right c (by simp [hc]), fun i j hi hj hij => ?_, fun c hc => h.pos c (by simp [hc]), fun c hc => h.txn c (by simp [hc])⟩
  have := h.mono i j (by simp; omega) (by simp; omega) hij
  rwa [List.getElem_append_left hi, List.getElem_append_left hj] at this
theorem liveB_iff (b : Bt) : liveB b = true ↔ b.txn = true ∧ b.mark = 0 := by unfold liveB; simp
theorem endsB_no (b c : Bt) : endsB b c = false ↔ (c.mark = 0 ∨ c.prod ≠ b.prod) := by
  unfold endsB
  by_cases h1 : c.mark = 0 <;> by_cases h2 : c.prod = b.prod <;> simp [h1, h2]
/-- An open offset is the base of a live batch of its producer. -/
theorem op_live : ∀ L : List Bt, RowM L → ∀ m, m ≠ -1 → 0 ≤ opL L m → ∃ j, ∃ hj : j < L.length, Live L j ∧ L[j].prod = m ∧ L[j].base = opL L m := by
  refine snocI ?_ fun L b ih => ?_
  · intro _ m _ h; exact absurd (show (0 : Int) ≤ -1 from h) (by decide)
  · intro hr m hm h
    have hrb := hr.right b (by simp)
    rw [opL_snoc hrb m hm] at h ⊢
    have ho := ih hr.init m hm
    have new : m = b.prod → liveB b = true → ∃ j, ∃ hj : j < (L ++ [b]).length, Live (L ++ [b]) j ∧ (L ++ [b])[j].prod = m ∧ (L ++ [b])[j].base = b.base := fun e hl =>
      ⟨L.length, by simp, live_snoc_new.2 hl, by simp [e], by simp⟩
    have old : (b.mark = 0 ∨ m ≠ b.prod) → 0 ≤ opL L m → ∃ j, ∃ hj : j < (L ++ [b]).length, Live (L ++ [b]) j ∧ (L ++ [b])[j].prod = m ∧ (L ++ [b])[j].base = opL L m := fun e h0 => by
      obtain ⟨j, hj, h1, h2, h3⟩ := ho h0
      refine ⟨j, by simp; omega, (live_snoc_old hj).2 ⟨h1, (endsB_no _ _).2 (e.imp id fun q => ?_)⟩, ?_, ?_⟩
      · rw [h2]; exact fun q2 => q q2.symm
      · rw [List.getElem_append_left hj]; exact h2
      · rw [List.getElem_append_left hj]; exact h3
    by_cases e : m = b.prod
    · rw [if_pos e] at h ⊢
      by_cases hmk : b.mark = 0
      · rw [if_neg (by simpa using hmk)] at h ⊢
        by_cases ht : b.txn = true ∧ opL L m < 0
        · rw [if_pos ht] at h ⊢
          exact new e ((liveB_iff b).2 ⟨ht.1, hmk⟩)
        · rw [if_neg ht] at h ⊢
          exact old (.inl hmk) h
      · rw [if_pos hmk] at h; exact absurd h (by decide)
    · rw [if_neg e] at h ⊢
      exact old (.inr e) h
/-- A live batch's producer has an open offset, not behind the batch's base. -/
theorem live_op : ∀ L : List Bt, RowM L → ∀ j (hj : j < L.length), Live L j → 0 ≤ opL L L[j].prod ∧ opL L L[j].prod ≤ L[j].base := by
  refine snocI ?_ fun L b ih => ?_
  · intro _ j hj; exact absurd hj (by simp)
  · intro hr j hj hl
    have hrb := hr.right b (by simp)
    have hpb := hr.pos b (by simp)
    by_cases hjl : j < L.length
    · obtain ⟨h1, h2⟩ := (live_snoc_old hjl).1 hl
      have h2 := (endsB_no _ _).1 h2
      have hm := hr.txn L[j] (by simp) (by obtain ⟨_, q, _⟩ := h1; exact q)
      have hi := ih hr.init j hjl h1
      rw [List.getElem_append_left hjl, opL_snoc hrb _ hm]
      by_cases e : L[j].prod = b.prod
      · rw [if_pos e]
        have hmk : b.mark = 0 := h2.resolve_right fun q => q e.symm
        rw [if_neg (by simpa using hmk), if_neg (by omega)]
        exact hi
      · rw [if_neg e]; exact hi
    · have : j = L.length := by simp at hj; omega
      subst this
      have hlb := live_snoc_new.1 hl
      have hm := hr.txn b (by simp) hlb
      obtain ⟨ht, hmk⟩ := (liveB_iff b).1 hlb
      have e : (L ++ [b])[L.length]'(by simp) = b := by simp
      rw [e, opL_snoc hrb _ hm, if_pos rfl, if_neg (by simpa using hmk)]
      by_cases h0 : opL L b.prod < 0
      · rw [if_pos ⟨ht, h0⟩]; exact ⟨hpb, Int.le_refl _⟩
      · rw [if_neg (by omega)]
        refine ⟨by omega, ?_⟩
        obtain ⟨i, hi, _, _, h3⟩ := op_live L hr.init b.prod hm (by omega)
        rw [← h3]
        have := hr.mono i L.length (by simp; omega) (by simp) (by omega)
        rwa [List.getElem_append_left hi, e] at this
theorem plain_ok {b : Bt} (h : rightV b = 0) : plainV b = 0 := by
  unfold rightV at h
  by_cases hp : (plainV b != 0) = true
  · rw [if_pos hp] at h; exact h
  · simpa using hp
theorem right_base {b : Bt} (h : rightV b = 0) : 0 ≤ b.base ∧ b.base ≤ 1099511627776 := by
  have h := plain_ok h
  unfold plainV at h
  by_cases hb : (decide (b.base < 0) || decide (b.base > 1099511627776)) = true
  · rw [if_pos hb] at h; exact absurd h (by decide)
  · simp at hb; omega
theorem right_live {b : Bt} (h : rightV b = 0) (hl : liveB b = true) : b.prod ≠ -1 := by
  obtain ⟨ht, hm⟩ := (liveB_iff b).1 hl
  have hb := right_base h
  have h := plain_ok h
  unfold plainV at h
  rw [if_neg (by simp; omega), if_neg (by simpa using hm)] at h
  intro hp
  have hn : noneV b = false := by unfold noneV; simp [ht]
  have hh : headV b = false := by unfold headV; simp [hp]
  rw [hn, hh] at h
  simp at h
theorem cnt_in {b : Bt} (h : tinyR b.recs) : 0 ≤ cntV b ∧ cntV b ≤ 4 := by
  unfold cntV
  have := h.1
  split <;> omega
theorem endW_snoc (st : Int) (L : List Bt) (b : Bt) : endW st (L ++ [b]) = endB b := by unfold endW; simp
theorem RowOk.m {L : List Bt} (h : RowOk 0 L) : RowM L := by
  have hr := h.right
  refine ⟨hr, ?_, fun b hb => (right_base (hr b hb)).1, fun b hb hl => right_live (hr b hb) hl⟩
  have key : (∀ i (hi : i < L.length), L[i].base ≤ endW 0 L) ∧ (∀ i j (hi : i < L.length) (hj : j < L.length), i ≤ j → L[i].base ≤ L[j].base) := by
    clear hr
    induction h with
    | nil => exact ⟨fun i hi => absurd hi (by simp), fun i j hi => absurd hi (by simp)⟩
    | snoc L b h h1 h2 h3 h4 h5 ih =>
      have hrb : rightV b = 0 := (RowOk.snoc L b h h1 h2 h3 h4 h5).right b (by simp)
      have hbb := right_base hrb
      have hc := cnt_in h4
      have he : endB b = b.base + cntV b := by unfold endB; rw [wrap_i64] <;> omega
      have hi1 : ∀ i (hi : i < (L ++ [b]).length), (L ++ [b])[i].base ≤ b.base := fun i hi => by
        by_cases hil : i < L.length
        · rw [List.getElem_append_left hil, h1]; exact ih.1 i hil
        · have : i = L.length := by simp at hi; omega
          subst this; simp
      refine ⟨fun i hi => ?_, fun i j hi hj hij => ?_⟩
      · rw [endW_snoc, he]
        have := hi1 i hi
        omega
      · by_cases hjl : j < L.length
        · rw [List.getElem_append_left hjl, List.getElem_append_left (by omega)]
          exact ih.2 i j (by omega) hjl hij
        · have : j = L.length := by simp at hj; omega
          subst this
          have e : (L ++ [b])[L.length]'(by simp) = b := by simp
          rw [e]; exact hi1 i hi
  exact key.2
end Go.Proofs.YtlnelaajlhfabaaGreat.AW

open Go Go.Proofs.YtlnelaajlhfabaaGreat.AW Go.Proofs
namespace Go.Proofs.YtlnelaajlhfabaaGreat.AW
set_option linter.unusedSimpArgs false
set_option linter.unusedVariables false

/-! ### The code's table and the document's: the same -/
theorem dGet_nil (n : Int) : dGet [] n = none := rfl
theorem dGet_cons (p : Pr) (r : List Pr) (n : Int) : dGet (p :: r) n = if p.id < n then dGet r n else if p.id = n then some p else none := by
  unfold dGet
  by_cases h : p.id < n
  · have e : dAt (p :: r) n = dAt r n + 1 := by simp only [dAt, if_pos h]
    rw [e, if_pos h, List.getElem?_cons_succ]
  · have e : dAt (p :: r) n = 0 := by simp only [dAt, if_neg h]
    rw [e, if_neg h, List.getElem?_cons_zero]
    by_cases h2 : p.id = n <;> simp [h2]
theorem dPut_nil (b : Bt) : dPut [] b = [applyV pr0 false b] := rfl
theorem dPut_cons (p : Pr) (r : List Pr) (b : Bt) : dPut (p :: r) b = if p.id < b.prod then p :: dPut r b else if p.id = b.prod then applyV p true b :: r else applyV pr0 false b :: p :: r := by
  unfold dPut
  rw [dGet_cons]
  by_cases h : p.id < b.prod
  · have e : dAt (p :: r) b.prod = dAt r b.prod + 1 := by simp only [dAt, if_pos h]
    rw [e, if_pos h, if_pos h]
    cases dGet r b.prod with
    | none => simp only [List.take_succ_cons, List.drop_succ_cons, List.cons_append]
    | some q => simp only [List.set_cons_succ]
  · have e : dAt (p :: r) b.prod = 0 := by simp only [dAt, if_neg h]
    rw [e, if_neg h, if_neg h]
    by_cases h2 : p.id = b.prod
    · rw [if_pos h2, if_pos h2]; rfl
    · rw [if_neg h2, if_neg h2]; rfl
def putP (o : Option Pr) (b : Bt) : Pr := applyV (o.getD pr0) o.isSome b
theorem dGet_dPut (b : Bt) (m : Int) : ∀ L : List Pr, dGet (dPut L b) m = if m = b.prod then some (putP (dGet L b.prod) b) else dGet L m
  | [] => by
    rw [dPut_nil, dGet_cons, applyV_id, dGet_nil, dGet_nil]
    by_cases h : m = b.prod
    · subst h; rw [if_neg (Int.lt_irrefl _), if_pos rfl, if_pos rfl]; rfl
    · rw [if_neg h]; split
      · rfl
      · rw [if_neg fun e => h e.symm]
  | p :: r => by
    rw [dPut_cons]
    by_cases h1 : p.id < b.prod
    · rw [if_pos h1, dGet_cons, dGet_dPut b m r, dGet_cons, dGet_cons, if_pos h1]
      by_cases h : m = b.prod
      · subst h; rw [if_pos h1, if_pos rfl, if_pos rfl]
      · rw [if_neg h, if_neg h]
    · rw [if_neg h1]
      by_cases h2 : p.id = b.prod
      · rw [if_pos h2, dGet_cons, applyV_id, dGet_cons, dGet_cons, if_neg h1, if_pos h2]
        by_cases h : m = b.prod
        · subst h; rw [if_neg (Int.lt_irrefl _), if_pos rfl, if_pos rfl]; rfl
        · rw [if_neg h, h2]
          split
          · rfl
          · rw [if_neg fun e => h e.symm, if_neg fun e => h e.symm]
      · rw [if_neg h2, dGet_cons, applyV_id, dGet_cons p r b.prod, if_neg h1, if_neg h2]
        by_cases h : m = b.prod
        · subst h; rw [if_neg (Int.lt_irrefl _), if_pos rfl, if_pos rfl]; rfl
        · rw [if_neg h]
          by_cases h3 : b.prod < m
          · rw [if_pos h3]
          · rw [if_neg h3, if_neg fun e => h e.symm, dGet_cons, if_neg (by omega), if_neg (by omega)]
def SortedP (L : List Pr) : Prop := L.Pairwise fun a c => a.id < c.id
theorem dPut_mem {b : Bt} {x : Pr} : ∀ {L : List Pr}, x ∈ dPut L b → x.id = b.prod ∨ x ∈ L
  | [], h => by rw [dPut_nil, List.mem_singleton] at h; rw [h]; exact .inl (applyV_id ..)
  | p :: r, h => by
    rw [dPut_cons] at h
    split at h
    · rcases List.mem_cons.1 h with h | h
      · exact .inr (by rw [h]; exact List.mem_cons_self ..)
      · exact (dPut_mem h).imp id fun q => List.mem_cons_of_mem _ q
    · split at h
      · rcases List.mem_cons.1 h with h | h
        · rw [h]; exact .inl (applyV_id ..)
        · exact .inr (List.mem_cons_of_mem _ h)
      · rcases List.mem_cons.1 h with h | h
        · rw [h]; exact .inl (applyV_id ..)
        · exact .inr h
theorem SortedP.put (b : Bt) : ∀ {L : List Pr}, SortedP L → SortedP (dPut L b)
  | [], _ => by rw [dPut_nil]; exact List.pairwise_singleton ..
  | p :: r, h => by
    obtain ⟨h1, h2⟩ := List.pairwise_cons.1 h
    rw [dPut_cons]
    split
    · rename_i hlt
      refine List.pairwise_cons.2 ⟨fun x hx => ?_, SortedP.put b h2⟩
      rcases dPut_mem hx with q | q
      · rw [q]; exact hlt
      · exact h1 x q
    · rename_i hge
      split
      · rename_i he
        refine List.pairwise_cons.2 ⟨fun x hx => ?_, h2⟩
        rw [applyV_id, ← he]; exact h1 x hx
      · rename_i hne
        refine List.pairwise_cons.2 ⟨fun x hx => ?_, h⟩
        rw [applyV_id]
        rcases List.mem_cons.1 hx with q | q
        · rw [q]; omega
        · have := h1 x q; omega
theorem dGet_mem {L : List Pr} (h : SortedP L) (p : Pr) : dGet L p.id = some p ↔ p ∈ L := by
  induction L with
  | nil => simp [dGet_nil]
  | cons q r ih =>
    obtain ⟨h1, h2⟩ := List.pairwise_cons.1 h
    rw [dGet_cons, List.mem_cons]
    by_cases hlt : q.id < p.id
    · rw [if_pos hlt, ih h2]
      exact ⟨.inr, fun k => k.resolve_left fun e => by rw [e] at hlt; omega⟩
    · rw [if_neg hlt]
      by_cases he : q.id = p.id
      · rw [if_pos he]
        constructor
        · intro e; cases e; exact .inl rfl
        · rintro (e | e)
          · rw [e]
          · have := h1 p e; omega
      · rw [if_neg he]
        constructor
        · intro e; cases e
        · rintro (e | e)
          · exact absurd (by rw [e]) he
          · have := h1 p e; omega
theorem sorted_eq : ∀ {L M : List Pr}, SortedP L → SortedP M → (∀ p, p ∈ L ↔ p ∈ M) → L = M
  | [], [], _, _, _ => rfl
  | [], q :: t, _, _, h => absurd ((h q).2 (List.mem_cons_self ..)) (by simp)
  | p :: r, [], _, _, h => absurd ((h p).1 (List.mem_cons_self ..)) (by simp)
  | p :: r, q :: t, hL, hM, h => by
    obtain ⟨h1, h2⟩ := List.pairwise_cons.1 hL
    obtain ⟨h3, h4⟩ := List.pairwise_cons.1 hM
    have e : p = q := by
      rcases List.mem_cons.1 ((h p).1 (List.mem_cons_self ..)) with e | e
      · exact e
      · rcases List.mem_cons.1 ((h q).2 (List.mem_cons_self ..)) with e2 | e2
        · exact e2.symm
        · have := h3 p e; have := h1 q e2; omega
    subst e
    congr 1
    refine sorted_eq h2 h4 fun x => ⟨fun hx => ?_, fun hx => ?_⟩
    · rcases List.mem_cons.1 ((h x).1 (List.mem_cons_of_mem _ hx)) with e | e
      · have := h1 x hx; rw [e] at this; omega
      · exact e
    · rcases List.mem_cons.1 ((h x).2 (List.mem_cons_of_mem _ hx)) with e | e
      · have := h3 x hx; rw [e] at this; omega
      · exact e
/-- The two tables tell the same. -/
structure TRel (es : List TE) (L : List Pr) : Prop where
  get : ∀ n, tGet es n = dGet L n
  sorted : SortedP L
theorem TRel.nil : TRel [] [] := ⟨fun n => rfl, .nil⟩
theorem TRel.app {es : List TE} {L : List Pr} (h : TRel es L) (cl : Nat) (b : Bt) : TRel (tApp es cl b).1 (dApp L b) := by
  unfold tApp dApp
  split
  · exact h
  · refine ⟨fun n => ?_, h.sorted.put b⟩
    rw [tGet_tPut, dGet_dPut, ← h.get b.prod, ← h.get n]; rfl
theorem tGet_of {es : List TE} (hk : (es.map (·.2.1)).Nodup) {q : TE} (hq : q ∈ es) : tGet es q.2.1 = some q.2.2 := by
  induction es with
  | nil => cases hq
  | cons x t ih =>
    rw [List.map_cons, List.nodup_cons] at hk
    obtain ⟨s, k, p⟩ := x
    rcases List.mem_cons.1 hq with rfl | hq
    · unfold tGet; rw [if_pos rfl]
    · unfold tGet
      rw [if_neg (fun e => hk.1 (List.mem_map.2 ⟨q, hq, e⟩))]
      exact ih hk.2 hq
/-- All, by id: the document's list. -/
theorem TRel.all {es : List TE} {cl : Nat} {L : List Pr} (h : TRel es L) (hi : TInv es cl) {ps : List Pr} (hp : ps.Perm (es.map fun q => q.2.2)) (hs : ps.Pairwise (fun a c => ¬ c.id < a.id)) : ps = L := by
  have hid : ps.map (·.id) |>.Nodup := by
    have e : (es.map fun q => q.2.2).map (·.id) = es.map (·.2.1) := by
      rw [List.map_map]
      exact List.map_congr_left fun q hq => hi.self q hq
    exact (hp.map (·.id)).nodup_iff.2 (by rw [e]; exact hi.keys)
  have hss : SortedP ps := by
    clear hp
    induction ps with
    | nil => exact .nil
    | cons a r ih =>
      obtain ⟨h1, h2⟩ := List.pairwise_cons.1 hs
      rw [List.map_cons, List.nodup_cons] at hid
      refine List.pairwise_cons.2 ⟨fun x hx => ?_, ih h2 hid.2⟩
      have h3 := h1 x hx
      have h4 : a.id ≠ x.id := fun e => hid.1 (by rw [e]; exact List.mem_map_of_mem hx)
      omega
  refine sorted_eq hss h.sorted fun p => ?_
  rw [← dGet_mem h.sorted p, ← h.get, hp.mem_iff]
  constructor
  · intro hm
    obtain ⟨q, hq, rfl⟩ := List.mem_map.1 hm
    have := tGet_of hi.keys hq
    rw [hi.self q hq]; exact this
  · intro hg
    obtain ⟨t, ht⟩ := tGet_mem hg
    exact List.mem_map.2 ⟨_, ht, rfl⟩
/-- Open, of both. -/
theorem TRel.open {es : List TE} {cl : Nat} {L : List Pr} (h : TRel es L) (hi : TInv es cl) {r t : Int × Bool} (hr : IsLeast (es.map fun q => q.2.2.op) r) (ht : IsLeast (L.map Pr.op) t) : r = t := by
  refine hr.eq ?_
  have hm : ∀ x, x ∈ L.map Pr.op ↔ x ∈ es.map fun q => q.2.2.op := fun x => by
    constructor
    · intro hx
      obtain ⟨p, hp, rfl⟩ := List.mem_map.1 hx
      have := (dGet_mem h.sorted p).2 hp
      rw [← h.get] at this
      obtain ⟨t, ht⟩ := tGet_mem this
      exact List.mem_map.2 ⟨_, ht, rfl⟩
    · intro hx
      obtain ⟨q, hq, rfl⟩ := List.mem_map.1 hx
      have h1 := tGet_of hi.keys hq
      rw [h.get, ← hi.self q hq] at h1
      exact List.mem_map.2 ⟨_, (dGet_mem h.sorted _).1 h1, rfl⟩
  rcases ht with ⟨h1, h2, h3⟩ | ⟨h1, h2, h3, h4⟩
  · exact .inl ⟨h1, h2, fun x hx => h3 x ((hm x).2 hx)⟩
  · exact .inr ⟨h1, h2, (hm _).1 h3, fun x hx => h4 x ((hm x).2 hx)⟩
end Go.Proofs.YtlnelaajlhfabaaGreat.AW

open Go Go.Proofs.YtlnelaajlhfabaaGreat.AW Go.Proofs
namespace Go.Proofs.YtlnelaajlhfabaaGreat.AW
set_option linter.unusedSimpArgs false
set_option linter.unusedVariables false

/-! ### Rows whose batches lie one behind the other -/
theorem right_cnt {b : Bt} (h : rightV b = 0) : 1 ≤ cntV b ∧ cntV b ≤ 16 := by
  have hb := right_base h
  have h := plain_ok h
  unfold plainV at h
  rw [if_neg (by simp; omega)] at h
  unfold cntV
  by_cases hm : (b.mark != 0) = true
  · rw [if_pos hm]; decide
  · rw [if_neg hm] at h ⊢
    have hl := b.rl_eq
    split at h
    · cases h
    · rename_i h1
      simp only [Bool.or_eq_true, not_or, beq_iff_eq] at h1
      split at h
      · cases h
      · rename_i h2
        simp at h2
        have h3 := h1.2
        rw [hl] at h2 h3
        omega
theorem right_small {b : Bt} (h : rightV b = 0) : b.recs.length ≤ 16 ∧ ∀ q, q ∈ b.recs → q.1.length ≤ 64 ∧ q.2.length ≤ 64 := by
  have hb := right_base h
  have h := plain_ok h
  unfold plainV at h
  rw [if_neg (by simp; omega)] at h
  have hl := b.rl_eq
  by_cases hm : (b.mark != 0) = true
  · rw [if_pos hm] at h
    split at h
    · cases h
    · rename_i h1
      simp only [Bool.or_eq_true, not_or, decide_eq_true_eq] at h1
      have := h1.2.2.2.2
      have h0 : b.recs = [] := List.length_eq_zero_iff.1 (by omega)
      rw [h0]; exact ⟨Nat.zero_le _, fun q hq => by cases hq⟩
  · rw [if_neg hm] at h
    split at h
    · cases h
    · split at h
      · cases h
      · rename_i h2
        simp at h2
        split at h
        · cases h
        · rename_i h3
          refine ⟨by omega, fun q hq => ?_⟩
          have := fun hq2 => h3 (List.any_eq_true.2 ⟨q, hq, hq2⟩)
          unfold longR at this
          simp at this
          omega
theorem right_mark {b : Bt} (h : rightV b = 0) : b.mark = 0 ∨ b.mark = 1 ∨ b.mark = 2 := by
  have hb := right_base h
  have h := plain_ok h
  unfold plainV at h
  rw [if_neg (by simp; omega)] at h
  by_cases hm : b.mark = 0
  · exact .inl hm
  · rw [if_pos (by simpa using hm)] at h
    split at h
    · cases h
    · rename_i h1
      simp only [Bool.or_eq_true, Bool.and_eq_true, not_or, not_and] at h1
      by_cases h2 : b.mark = 1
      · exact .inr (.inl h2)
      · have := h1.1 (by simpa using h2)
        exact .inr (.inr (by simpa using this))
theorem right_markP {b : Bt} (h : rightV b = 0) (hm : b.mark ≠ 0) : 0 ≤ b.prod ∧ b.recs = [] ∧ b.txn = true := by
  have hb := right_base h
  have h := plain_ok h
  unfold plainV at h
  rw [if_neg (by simp; omega), if_pos (by simpa using hm)] at h
  split at h
  · cases h
  · rename_i h1
    simp only [Bool.or_eq_true, not_or, decide_eq_true_eq] at h1
    have h2 := h1.2.1
    have h3 := h1.2.2.2.2
    have h4 := h1.2.2.2.1
    rw [b.rl_eq] at h3
    refine ⟨?_, List.length_eq_zero_iff.1 (by omega), by simpa using h4⟩
    unfold headV at h2
    simp at h2
    omega
theorem right_end {b : Bt} (h : rightV b = 0) : endB b = b.base + cntV b := by
  have := right_base h; have := right_cnt h
  unfold endB; rw [wrap_i64] <;> omega

/-- Right ones, each where the one ahead of it ends. -/
inductive RowC (st : Int) : List Bt → Prop
  | nil : RowC st []
  | snoc (L : List Bt) (b : Bt) (h : RowC st L) (h1 : b.base = endW st L) (h2 : rightV b = 0) (h3 : endB b ≤ 1099511627776) : RowC st (L ++ [b])
theorem RowC.inv {st : Int} {L : List Bt} {b : Bt} (h : RowC st (L ++ [b])) : RowC st L ∧ b.base = endW st L ∧ rightV b = 0 ∧ endB b ≤ 1099511627776 := by
  generalize hM : L ++ [b] = M at h
  cases h with
  | nil => simp at hM
  | snoc L' b' h h1 h2 h3 =>
    obtain ⟨e1, e2⟩ := List.append_inj' hM rfl
    cases e2; subst e1; exact ⟨h, h1, h2, h3⟩
theorem RowC.right {st : Int} {L : List Bt} (h : RowC st L) : ∀ b, b ∈ L → rightV b = 0 := by
  induction h with
  | nil => intro b hb; cases hb
  | snoc L b h h1 h2 h3 ih =>
    intro c hc
    rcases List.mem_append.1 hc with hc | hc
    · exact ih c hc
    · rw [List.mem_singleton.1 hc]; exact h2
theorem RowC.le {st : Int} {L : List Bt} (h : RowC st L) : ∀ b, b ∈ L → st ≤ b.base ∧ b.base < endW st L := by
  induction h with
  | nil => intro b hb; cases hb
  | snoc L b h h1 h2 h3 ih =>
    have hc := right_cnt h2
    have he := right_end h2
    have hst : st ≤ endW st L := by
      cases hL : L.getLast? with
      | none => unfold endW; rw [hL]; exact Int.le_refl _
      | some x =>
        have := ih x (List.mem_of_getLast? hL)
        omega
    rw [endW_snoc]
    intro c hc2
    rcases List.mem_append.1 hc2 with hc2 | hc2
    · have := ih c hc2; omega
    · rw [List.mem_singleton.1 hc2]; omega
theorem RowC.st_le {st : Int} {L : List Bt} (h : RowC st L) : st ≤ endW st L := by
  cases hL : L.getLast? with
  | none => unfold endW; rw [hL]; exact Int.le_refl _
  | some x =>
    have := h.le x (List.mem_of_getLast? hL)
    omega
theorem RowC.strict {st : Int} {L : List Bt} (h : RowC st L) : L.Pairwise fun a b => a.base < b.base := by
  induction h with
  | nil => exact .nil
  | snoc L b h h1 h2 h3 ih =>
    refine List.pairwise_append.2 ⟨ih, List.pairwise_singleton _ _, fun a ha c hc => ?_⟩
    rw [List.mem_singleton.1 hc, h1]
    exact (h.le a ha).2
theorem RowC.end_le {st : Int} {L : List Bt} (h : RowC st L) (hne : L ≠ []) : endW st L ≤ 1099511627776 := by
  cases h with
  | nil => exact absurd rfl hne
  | snoc L b h h1 h2 h3 => rw [endW_snoc]; exact h3
theorem RowOk.c {st : Int} {L : List Bt} (h : RowOk st L) : RowC st L := by
  have hr := h.right
  induction h with
  | nil => exact .nil
  | snoc L b h h1 h2 h3 h4 h5 ih =>
    have hb : rightV b = 0 := hr b (by simp)
    refine .snoc L b (ih fun c hc => hr c (by simp [hc])) h1 hb ?_
    unfold endB; rw [h1]; exact h5

/-! ### What was dropped -/
theorem RowC.m {st : Int} {L : List Bt} (h : RowC st L) : RowM L := by
  refine ⟨h.right, fun i j hi hj hij => ?_, fun b hb => (right_base (h.right b hb)).1, fun b hb hl => right_live (h.right b hb) hl⟩
  rcases Nat.lt_or_eq_of_le hij with hlt | rfl
  · exact Int.le_of_lt (List.pairwise_iff_getElem.1 h.strict i j hi hj hlt)
  · exact Int.le_refl _
theorem TRel.row : ∀ L : List Bt, TRel (tApps ([], 0) L).1 (dFold L).1 :=
  snocI TRel.nil fun L b ih => by rw [tApps_snoc, dFold_snoc]; exact ih.app _ b
theorem opL_d (L : List Bt) (m : Int) : opOf (dGet (dFold L).1 m) = opL L m := by
  unfold opL; rw [(TRel.row L).1]
theorem drops_snoc {L : List Bt} {b : Bt} (hr : rightV b = 0) : (dFold (L ++ [b])).2 = (dFold L).2 ++ (if b.mark = 2 ∧ 0 ≤ opL L b.prod then [(b.prod, opL L b.prod, b.base)] else []) := by
  rw [dFold_snoc, ← opL_d]
  show (if (tDrop (dGet (dFold L).1 b.prod) b).2 = true then (dFold L).2 ++ [(tDrop (dGet (dFold L).1 b.prod) b).1] else (dFold L).2) = _
  unfold tDrop
  by_cases hm : b.mark = 2
  · have hp := (right_markP hr (by rw [hm]; decide)).1
    have hp1 : (b.prod == -1) = false := by simp; omega
    rw [hp1, hr]
    have e2 : (b.mark != 2) = false := by rw [hm]; rfl
    rw [e2]
    cases ho : dGet (dFold L).1 b.prod with
    | none =>
      rw [if_neg (c := b.mark = 2 ∧ 0 ≤ opOf none) (fun q => absurd q.2 (by decide)), List.append_nil]; rfl
    | some p =>
      by_cases h0 : 0 ≤ p.op
      · rw [if_pos (c := b.mark = 2 ∧ 0 ≤ opOf (some p)) ⟨hm, h0⟩]
        have : decide (p.op < 0) = false := by simp; omega
        simp [this, opOf]
      · rw [if_neg (c := b.mark = 2 ∧ 0 ≤ opOf (some p)) (fun q => h0 q.2), List.append_nil]
        have : decide (p.op < 0) = true := by simp; omega
        simp [this]
  · rw [if_neg (c := b.mark = 2 ∧ _) (fun q => hm q.1), List.append_nil]
    have e2 : (b.mark != 2) = true := by simpa using hm
    rw [e2]
    split
    · rfl
    · split
      · rfl
      · rename_i h; exact absurd rfl h
structure DInv (L : List Bt) : Prop where
  d1 : ∀ d, d ∈ (dFold L).2 → 0 ≤ d.1 ∧ 0 ≤ d.2.1 ∧ d.2.1 < d.2.2 ∧ ∃ c, c ∈ L ∧ c.base = d.2.2
  d2 : (dFold L).2.Pairwise fun a b => a.2.2 < b.2.2
  d3 : (dFold L).2.Pairwise fun a b => a.1 = b.1 → a.2.2 < b.2.1
  d4 : ∀ d, d ∈ (dFold L).2 → 0 ≤ opL L d.1 → d.2.2 < opL L d.1
theorem DInv.mk' {st : Int} {L : List Bt} (h : RowC st L) : DInv L := by
  induction h with
  | nil => exact ⟨fun d hd => (by cases hd), .nil, .nil, fun d hd => (by cases hd)⟩
  | snoc L b h h1 h2 h3 ih =>
    have hd := drops_snoc (L := L) h2
    have hlt : ∀ c, c ∈ L → c.base < b.base := fun c hc => by rw [h1]; exact (h.le c hc).2
    have hbb := right_base h2
    by_cases hc : b.mark = 2 ∧ 0 ≤ opL L b.prod
    · rw [if_pos hc] at hd
      have hp := (right_markP h2 (by rw [hc.1]; decide)).1
      obtain ⟨j, hj, _, _, hjb⟩ := op_live L h.m b.prod (by omega) hc.2
      have hob := hlt L[j] (List.getElem_mem hj)
      rw [hjb] at hob
      refine ⟨fun d hm => ?_, ?_, ?_, fun d hm h0 => ?_⟩
      · rw [hd] at hm
        rcases List.mem_append.1 hm with hm | hm
        · obtain ⟨a1, a2, a3, c, a4, a5⟩ := ih.d1 d hm
          exact ⟨a1, a2, a3, c, by simp [a4], a5⟩
        · rw [List.mem_singleton.1 hm]
          exact ⟨hp, hc.2, hob, b, by simp, rfl⟩
      · rw [hd]
        refine List.pairwise_append.2 ⟨ih.d2, List.pairwise_singleton _ _, fun a ha c hc2 => ?_⟩
        rw [List.mem_singleton.1 hc2]
        obtain ⟨_, _, _, c, a4, a5⟩ := ih.d1 a ha
        show a.2.2 < b.base
        rw [← a5]; exact hlt c a4
      · rw [hd]
        refine List.pairwise_append.2 ⟨ih.d3, List.pairwise_singleton _ _, fun a ha c hc2 => ?_⟩
        rw [List.mem_singleton.1 hc2]
        intro (e : a.1 = b.prod)
        have := ih.d4 a ha (by rw [e]; exact hc.2)
        rw [e] at this
        exact this
      · rw [hd] at hm
        have hdp : 0 ≤ d.1 := by
          rcases List.mem_append.1 hm with hm | hm
          · exact (ih.d1 d hm).1
          · rw [List.mem_singleton.1 hm]; exact hp
        rw [opL_snoc h2 d.1 (by omega)] at h0 ⊢
        by_cases e : d.1 = b.prod
        · rw [if_pos e, if_pos (by rw [hc.1]; decide)] at h0; exact absurd h0 (by decide)
        · rw [if_neg e] at h0 ⊢
          rcases List.mem_append.1 hm with hm | hm
          · exact ih.d4 d hm h0
          · rw [List.mem_singleton.1 hm] at e; exact absurd rfl e
    · rw [if_neg hc, List.append_nil] at hd
      refine ⟨fun d hm => ?_, by rw [hd]; exact ih.d2, by rw [hd]; exact ih.d3, fun d hm h0 => ?_⟩
      · rw [hd] at hm
        obtain ⟨a1, a2, a3, c, a4, a5⟩ := ih.d1 d hm
        exact ⟨a1, a2, a3, c, by simp [a4], a5⟩
      · rw [hd] at hm
        have hdp := (ih.d1 d hm).1
        rw [opL_snoc h2 d.1 (by omega)] at h0 ⊢
        by_cases e : d.1 = b.prod
        · rw [if_pos e] at h0 ⊢
          by_cases hm2 : b.mark ≠ 0
          · rw [if_pos hm2] at h0; exact absurd h0 (by decide)
          · rw [if_neg hm2] at h0 ⊢
            by_cases ht : b.txn = true ∧ opL L d.1 < 0
            · rw [if_pos ht]
              obtain ⟨_, _, _, c, a4, a5⟩ := ih.d1 d hm
              rw [← a5]; exact hlt c a4
            · rw [if_neg ht] at h0 ⊢; exact ih.d4 d hm h0
        · rw [if_neg e] at h0 ⊢; exact ih.d4 d hm h0

/-! ### The records of a row -/
structure Gt where
  off : Int
  prod : Int
  key : List UInt8
  val : List UInt8
  deriving DecidableEq
def Gt.pv (g : Gt) : PV := .agg [ii g.off, ii g.prod, .str g.key, .str g.val]
def gtAt (b : Bt) (i : Nat) : Gt := ⟨IntKind.i64.wrap (b.base + (i : Nat)), b.prod, (b.recs.getD i ([], [])).1, (b.recs.getD i ([], [])).2⟩
def gtOk (fr to : Int) (b : Bt) (i : Nat) : Bool := (b.mark == 0) && (decide ((gtAt b i).off ≥ fr) && decide ((gtAt b i).off < to))
def gtsN (fr to : Int) (b : Bt) : Nat → List Gt
  | 0 => []
  | i + 1 => gtsN fr to b i ++ (if gtOk fr to b i = true then [gtAt b i] else [])
def gtsB (fr to : Int) (b : Bt) : List Gt := gtsN fr to b b.recs.length
def gts (fr to : Int) (L : List Bt) : List Gt := L.flatMap (gtsB fr to)
theorem gts_snoc (fr to : Int) (L : List Bt) (b : Bt) : gts fr to (L ++ [b]) = gts fr to L ++ gtsB fr to b := by unfold gts; rw [List.flatMap_append]; simp
theorem gtsN_le (fr to : Int) (b : Bt) : ∀ i, (gtsN fr to b i).length ≤ i
  | 0 => Nat.le_refl _
  | i + 1 => by
    unfold gtsN
    have := gtsN_le fr to b i
    split <;> simp <;> omega
theorem gts_le {fr to : Int} {M : Nat} : ∀ {L : List Bt}, (∀ b, b ∈ L → b.recs.length ≤ M) → (gts fr to L).length ≤ L.length * M
  | [], _ => Nat.zero_le _
  | b :: L, h => by
    have h1 := gts_le (fr := fr) (to := to) (L := L) fun c hc => h c (by simp [hc])
    have h2 := gtsN_le fr to b b.recs.length
    have h3 := h b (by simp)
    show (gtsB fr to b ++ gts fr to L).length ≤ (L.length + 1) * M
    rw [List.length_append, Nat.add_mul]
    have : (gtsB fr to b).length ≤ M := Nat.le_trans h2 h3
    omega
theorem gtsN_mark {fr to : Int} {b : Bt} (h : b.mark ≠ 0) : ∀ i, gtsN fr to b i = []
  | 0 => rfl
  | i + 1 => by
    unfold gtsN
    rw [gtsN_mark h i, if_neg (by unfold gtOk; simp [h])]; rfl
theorem gtsN_mem {fr to : Int} {b : Bt} {g : Gt} : ∀ {i : Nat}, g ∈ gtsN fr to b i → ∃ k, k < i ∧ g = gtAt b k ∧ gtOk fr to b k = true
  | i + 1, h => by
    unfold gtsN at h
    rcases List.mem_append.1 h with h | h
    · obtain ⟨k, h1, h2⟩ := gtsN_mem h
      exact ⟨k, by omega, h2⟩
    · by_cases hc : gtOk fr to b i = true
      · rw [if_pos hc] at h; exact ⟨i, by omega, List.mem_singleton.1 h, hc⟩
      · rw [if_neg hc] at h; cases h
end Go.Proofs.YtlnelaajlhfabaaGreat.AW

open Go Go.Proofs.YtlnelaajlhfabaaGreat.AW Go.Proofs
namespace Go.Proofs.YtlnelaajlhfabaaGreat.AW
set_option linter.unusedSimpArgs false
set_option linter.unusedVariables false

/-! ### Records that are of a dropped transaction -/
theorem RowC.pre {st : Int} {A : List Bt} : ∀ {B : List Bt}, RowC st (A ++ B) → RowC st A := by
  intro B
  revert A
  refine snocI (p := fun B => ∀ {A : List Bt}, RowC st (A ++ B) → RowC st A) ?_ ?_ B
  · intro A h; rwa [List.append_nil] at h
  · intro B b ih A h
    rw [← List.append_assoc] at h
    exact ih h.inv.1
theorem RowC.take {st : Int} {L : List Bt} (h : RowC st L) (k : Nat) : RowC st (L.take k) := by
  rw [← List.take_append_drop k L] at h
  exact h.pre
theorem drops_pre (L : List Bt) : ∀ M : List Bt, (dFold L).2 <+: (dFold (L ++ M)).2 := by
  refine snocI ?_ fun M b ih => ?_
  · rw [List.append_nil]; exact List.prefix_refl _
  · rw [← List.append_assoc, dFold_snoc]
    refine ih.trans ?_
    show (dFold (L ++ M)).2 <+: (if _ then _ else _)
    split
    · exact List.prefix_append _ _
    · exact List.prefix_refl _
def gm (g : Gt) (d : Dr) : Bool := (g.prod == d.1) && (decide (g.off ≥ d.2.1) && decide (g.off ≤ d.2.2))
theorem gm_iff (g : Gt) (d : Dr) : gm g d = true ↔ g.prod = d.1 ∧ d.2.1 ≤ g.off ∧ g.off ≤ d.2.2 := by unfold gm; simp
def hit (D : List Dr) (g : Gt) : Bool := D.any (gm g)
theorem countP_one {α : Type} {p : α → Bool} : ∀ {l : List α}, l.Pairwise (fun a b => ¬ (p a = true ∧ p b = true)) → l.countP p = if l.any p = true then 1 else 0
  | [], _ => rfl
  | a :: l, h => by
    rw [List.pairwise_cons] at h
    have ih := countP_one h.2
    by_cases ha : p a = true
    · have : l.any p = false := by
        rw [List.any_eq_false]; exact fun b hb q => h.1 b hb ⟨ha, q⟩
      rw [List.countP_cons, ih, this]; simp [ha]
    · rw [List.countP_cons, ih]; simp [ha]
theorem one_hit {L : List Bt} (h : DInv L) (g : Gt) : (dFold L).2.countP (gm g) = if hit (dFold L).2 g = true then 1 else 0 := by
  refine countP_one ?_
  refine h.d3.imp_of_mem fun {a b} ha hb hab => ?_
  rintro ⟨h1, h2⟩
  rw [gm_iff] at h1 h2
  have := hab (by rw [← h1.1, ← h2.1])
  omega
theorem gtAt_off {b : Bt} (h : rightV b = 0) {i : Nat} (hi : i < b.recs.length) : (gtAt b i).off = b.base + (i : Nat) := by
  have := right_base h; have := (right_small h).1
  show IntKind.i64.wrap _ = _
  rw [wrap_i64] <;> omega
theorem gtOk_all {fr to : Int} {b : Bt} (h : rightV b = 0) {i : Nat} (hi : i < b.recs.length) (h1 : fr ≤ b.base) (h2 : endB b ≤ to) : gtOk fr to b i = (b.mark == 0) := by
  unfold gtOk
  rw [gtAt_off h hi]
  cases hm : b.mark == 0 with
  | false => rfl
  | true =>
    have hm : b.mark = 0 := by simpa using hm
    have he := right_end h
    have hc : cntV b = b.recs.length := by unfold cntV; rw [hm]; rfl
    have e1 : decide (b.base + (i : Nat) ≥ fr) = true := by simp; omega
    have e2 : decide (b.base + (i : Nat) < to) = true := by simp; omega
    rw [e1, e2]; rfl
theorem gtsN_all {fr to fr' to' : Int} {b : Bt} (h : rightV b = 0) (h1 : fr ≤ b.base) (h2 : endB b ≤ to) (h1' : fr' ≤ b.base) (h2' : endB b ≤ to') : ∀ i, i ≤ b.recs.length → gtsN fr to b i = gtsN fr' to' b i
  | 0, _ => rfl
  | i + 1, hi => by
    unfold gtsN
    rw [gtsN_all h h1 h2 h1' h2' i (by omega), gtOk_all h (by omega) h1 h2, gtOk_all h (by omega) h1' h2']
theorem gts_all {st fr to fr' to' : Int} {L : List Bt} (h : RowC st L) (h1 : fr ≤ st) (h2 : endW st L ≤ to) (h1' : fr' ≤ st) (h2' : endW st L ≤ to') : gts fr to L = gts fr' to' L := by
  induction h with
  | nil => rfl
  | snoc L b h a1 a2 a3 ih =>
    rw [endW_snoc] at h2 h2'
    have hle := h.st_le
    have he := right_end a2; have hc := right_cnt a2
    rw [gts_snoc, gts_snoc, ih (by omega) (by omega)]
    unfold gtsB
    rw [gtsN_all (fr := fr) (to := to) (fr' := fr') (to' := to') a2 (by omega) h2 (by omega) h2' _ (Nat.le_refl _)]
/-- How many records of data a row has. -/
def recN (L : List Bt) : Nat := (L.map fun b => if b.mark = 0 then b.recs.length else 0).sum
theorem recN_snoc (L : List Bt) (b : Bt) : recN (L ++ [b]) = recN L + if b.mark = 0 then b.recs.length else 0 := by unfold recN; rw [List.map_append, List.sum_append]; simp
theorem gtsN_len {fr to : Int} {b : Bt} (h : rightV b = 0) (hm : b.mark = 0) (h1 : fr ≤ b.base) (h2 : endB b ≤ to) : ∀ i, i ≤ b.recs.length → (gtsN fr to b i).length = i
  | 0, _ => rfl
  | i + 1, hi => by
    unfold gtsN
    rw [List.length_append, gtsN_len h hm h1 h2 i (by omega), gtOk_all h (by omega) h1 h2, hm]; rfl
theorem gts_len {st fr to : Int} {L : List Bt} (h : RowC st L) (h1 : fr ≤ st) (h2 : endW st L ≤ to) : (gts fr to L).length = recN L := by
  induction h with
  | nil => rfl
  | snoc L b h a1 a2 a3 ih =>
    rw [endW_snoc] at h2
    have hle := h.st_le
    have he := right_end a2; have hc := right_cnt a2
    rw [gts_snoc, List.length_append, recN_snoc, ih (by omega)]
    by_cases hm : b.mark = 0
    · rw [if_pos hm]; unfold gtsB; rw [gtsN_len a2 hm (by omega) h2 _ (Nat.le_refl _)]
    · rw [if_neg hm]; unfold gtsB; rw [gtsN_mark hm]; rfl
def mkN (k : Int) (L : List Bt) : Nat := L.countP fun b => b.mark == k
theorem mkN_snoc (k : Int) (L : List Bt) (b : Bt) : mkN k (L ++ [b]) = mkN k L + if b.mark = k then 1 else 0 := by
  unfold mkN; rw [List.countP_append, List.countP_singleton]; simp
theorem row_counts {st : Int} {L : List Bt} (h : RowC st L) : endW st L = st + ((recN L + mkN 1 L + mkN 2 L : Nat) : Int) ∧ mkN 0 L + mkN 1 L + mkN 2 L = L.length := by
  induction h with
  | nil => exact ⟨by show st = st + 0; omega, rfl⟩
  | snoc L b h a1 a2 a3 ih =>
    have he := right_end a2
    rw [endW_snoc, recN_snoc, mkN_snoc, mkN_snoc, mkN_snoc, List.length_append, he, a1]
    have hm := right_mark a2
    have hc : cntV b = if b.mark = 0 then b.recs.length else 1 := by unfold cntV; by_cases q : b.mark = 0 <;> simp [q]
    rw [hc]
    rcases hm with hm | hm | hm <;> simp [hm] <;> omega

/-! ### What is committed -/
def nextMk (b : Bt) (r : List Bt) : Int := match r.find? (endsB b) with | some c => c.mark | none => 1
def isComm (b : Bt) (r : List Bt) : Bool := !b.txn || (nextMk b r == 1)
def comm (fr to : Int) : List Bt → List Gt
  | [] => []
  | b :: r => (if isComm b r = true then gtsB fr to b else []) ++ comm fr to r
theorem comm_app {fr to : Int} {b : Bt} {r : List Bt} {g : Gt} (hc : isComm b r = true) (hg : g ∈ gtsB fr to b) : ∀ A : List Bt, g ∈ comm fr to (A ++ b :: r)
  | [] => by show g ∈ (if _ then _ else _) ++ _; rw [if_pos hc]; exact List.mem_append_left _ hg
  | a :: A => List.mem_append_right _ (comm_app hc hg A)
theorem not_comm {st fr to : Int} {L : List Bt} (h : RowC st L) {g : Gt} (hg : g ∈ gts fr to L) (hn : g ∉ comm fr to L) : hit (dFold L).2 g = true := by
  obtain ⟨b, hb, hgb⟩ := List.mem_flatMap.1 hg
  obtain ⟨A, r, rfl⟩ := List.append_of_mem hb
  have hc : ¬ isComm b r = true := fun hc => hn (comm_app hc hgb A)
  unfold isComm nextMk at hc
  cases hf : r.find? (endsB b) with
  | none => rw [hf] at hc; exact absurd (by simp) hc
  | some c =>
    rw [hf] at hc
    have hc1 : b.txn = true ∧ c.mark ≠ 1 := by
      cases ht : b.txn <;> simp [ht] at hc
      exact ⟨rfl, hc⟩
    obtain ⟨hce, us, ws, rfl, has⟩ := List.find?_eq_some_iff_append.1 hf
    have hsplit : A ++ b :: (us ++ c :: ws) = (A ++ [b] ++ us) ++ [c] ++ ws := by simp
    rw [hsplit] at h ⊢
    have hR := h.pre
    have hP := hR.pre
    obtain ⟨_, hcb, hcr, _⟩ := hR.inv
    have hcm : c.mark = 2 := by
      rcases right_mark hcr with q | q | q
      · unfold endsB at hce; rw [q] at hce; simp at hce
      · exact absurd q hc1.2
      · exact q
    have hcp : c.prod = b.prod := by unfold endsB at hce; simp at hce; exact hce.2
    obtain ⟨k, hk, hge, hgo⟩ := gtsN_mem hgb
    have hbm : b.mark = 0 := by unfold gtOk at hgo; simp at hgo; exact hgo.1
    have hbr : rightV b = 0 := hP.right b (by simp)
    have hlive : Live (A ++ [b] ++ us) A.length := by
      refine ⟨by simp, ?_, ?_⟩
      · have e : (A ++ [b] ++ us)[A.length]'(by simp) = b := by simp
        rw [e]; exact (liveB_iff b).2 ⟨hc1.1, hbm⟩
      · have e : (A ++ [b] ++ us)[A.length]'(by simp) = b := by simp
        rw [e]
        have : (A ++ [b] ++ us).drop (A.length + 1) = us := by
          rw [List.drop_append_of_le_length (by simp), List.drop_of_length_le (by simp)]; rfl
        rw [this, List.any_eq_false]
        intro x hx; have := has x hx; simpa using this
    have ho := live_op _ hP.m A.length (by simp) hlive
    have e : (A ++ [b] ++ us)[A.length]'(by simp) = b := by simp
    rw [e] at ho
    have hd := drops_snoc (L := A ++ [b] ++ us) hcr
    rw [if_pos ⟨hcm, by rw [hcp]; exact ho.1⟩] at hd
    have hmem : (c.prod, opL (A ++ [b] ++ us) c.prod, c.base) ∈ (dFold ((A ++ [b] ++ us) ++ [c])).2 := by rw [hd]; simp
    have hmem2 := (drops_pre ((A ++ [b] ++ us) ++ [c]) ws).subset hmem
    refine List.any_eq_true.2 ⟨_, hmem2, (gm_iff _ _).2 ⟨?_, ?_, ?_⟩⟩
    · rw [hge]; exact hcp.symm
    · show opL (A ++ [b] ++ us) c.prod ≤ g.off
      rw [hge, gtAt_off hbr hk, hcp]; omega
    · show g.off ≤ c.base
      rw [hge, gtAt_off hbr hk]
      have h1 : RowC st (A ++ [b]) := hP.pre
      have h2 := hP.st_le
      have h3 : endB b ≤ c.base := by
        rw [hcb]
        rcases List.eq_nil_or_concat us with rfl | ⟨us', x, rfl⟩
        · rw [List.append_nil, endW_snoc]; exact Int.le_refl _
        · have hx := hP
          rw [List.concat_eq_append] at hx ⊢
          rw [← List.append_assoc] at hx ⊢
          rw [endW_snoc]
          have hxr := hx.inv
          have hlt := (hxr.1.le b (by simp)).2
          have hst := hx.strict
          have he := right_end hxr.2.2.1; have hcx := right_cnt hxr.2.2.1
          -- b ends not behind the end of what is ahead of x
          have : endB b ≤ endW st (A ++ [b] ++ us') := by
            clear hst hlt
            revert hxr
            intro hxr
            have hQ := hxr.1
            clear hxr hx hP hR h hd hmem hmem2 ho hlive hcb hf has hsplit
            revert hQ
            refine snocI (p := fun us' => RowC st (A ++ [b] ++ us') → endB b ≤ endW st (A ++ [b] ++ us')) ?_ ?_ us'
            · intro _; rw [List.append_nil, endW_snoc]; exact Int.le_refl _
            · intro us2 y ih hy
              rw [← List.append_assoc] at hy ⊢
              obtain ⟨q1, q2, q3, q4⟩ := hy.inv
              have := ih q1
              have := right_end q3; have := right_cnt q3
              rw [endW_snoc]; omega
          rw [he, hxr.2.1]; omega
      have hcc := right_cnt hbr
      have hbe := right_end hbr
      have : cntV b = b.recs.length := by unfold cntV; rw [hbm]; rfl
      omega
/-- Of what is told up to an offset no more is not committed than was dropped. -/
theorem lost_le {st fr to fr' to' : Int} {L : List Bt} (h : RowC st L) (hfr : fr' ≤ fr) (hto : to ≤ to') : ((gts fr to L).countP fun g => decide (g ∉ comm fr to L)) ≤ (gts fr' to' L).countP (hit (dFold L).2) := by
  have h1 : ((gts fr to L).countP fun g => decide (g ∉ comm fr to L)) ≤ (gts fr to L).countP (hit (dFold L).2) :=
    List.countP_mono_left fun g hg hn => not_comm h hg (of_decide_eq_true hn)
  refine Nat.le_trans h1 (List.Sublist.countP_le ?_)
  have hs : ∀ (b : Bt) i, (gtsN fr to b i).Sublist (gtsN fr' to' b i) := by
    intro b i
    induction i with
    | zero => exact List.Sublist.refl _
    | succ i ih =>
      unfold gtsN
      refine ih.append ?_
      by_cases hc : gtOk fr to b i = true
      · have : gtOk fr' to' b i = true := by unfold gtOk at hc ⊢; simp at hc ⊢; omega
        rw [if_pos hc, if_pos this]; exact List.Sublist.refl _
      · rw [if_neg hc]; exact List.nil_sublist _
  unfold gts
  clear h h1
  induction L with
  | nil => exact List.Sublist.refl _
  | cons b L ih => exact (hs b _).append ih
end Go.Proofs.YtlnelaajlhfabaaGreat.AW

open Go Go.Proofs.YtlnelaajlhfabaaGreat.AW Go.Proofs
namespace Go.Proofs.YtlnelaajlhfabaaGreat.AW
set_option linter.unusedSimpArgs false
set_option linter.unusedVariables false

/-! ### Lists that are sorted, told by what is in them -/
theorem strict_eq {α : Type} {r : α → α → Prop} (hirr : ∀ a, ¬ r a a) (htr : ∀ a b c, r a b → r b c → r a c) : ∀ {l m : List α}, l.Pairwise r → m.Pairwise r → (∀ x, x ∈ l ↔ x ∈ m) → l = m
  | [], [], _, _, _ => rfl
  | [], b :: m, _, _, h => absurd ((h b).2 (by simp)) (by simp)
  | a :: l, [], _, _, h => absurd ((h a).1 (by simp)) (by simp)
  | a :: l, b :: m, hl, hm, h => by
    rw [List.pairwise_cons] at hl hm
    have hab : a = b := by
      rcases List.mem_cons.1 ((h a).1 (by simp)) with e | h1
      · exact e
      · rcases List.mem_cons.1 ((h b).2 (by simp)) with e | h2
        · exact e.symm
        · exact absurd (htr _ _ _ (hl.1 b h2) (hm.1 a h1)) (hirr a)
    subst hab
    have : l = m := by
      refine strict_eq hirr htr hl.2 hm.2 fun x => ⟨fun hx => ?_, fun hx => ?_⟩
      · rcases List.mem_cons.1 ((h x).1 (by simp [hx])) with e | h1
        · subst e; exact absurd (hl.1 x hx) (hirr x)
        · exact h1
      · rcases List.mem_cons.1 ((h x).2 (by simp [hx])) with e | h1
        · subst e; exact absurd (hm.1 x hx) (hirr x)
        · exact h1
    rw [this]

/-! ### How many records each producer has -/
abbrev PN := Int × Int
def pnP (q : PN) : PV := .agg [ii q.1, ii q.2]
def byAt : List PN → Int → Nat
  | [], _ => 0
  | q :: r, p => if q.1 < p then byAt r p + 1 else 0
def byI (l : List PN) (p : Int) : List PN := match l[byAt l p]? with
  | some q => if q.1 = p then l.set (byAt l p) (q.1, IntKind.i64.wrap (q.2 + 1)) else l.take (byAt l p) ++ (p, 1) :: l.drop (byAt l p)
  | none => l.take (byAt l p) ++ (p, 1) :: l.drop (byAt l p)
def byL (l : List Gt) : List PN := l.foldl (fun o g => byI o g.prod) []
theorem byI_nil (p : Int) : byI [] p = [(p, 1)] := rfl
theorem byI_cons (q : PN) (r : List PN) (p : Int) : byI (q :: r) p = if q.1 < p then q :: byI r p else if q.1 = p then (q.1, IntKind.i64.wrap (q.2 + 1)) :: r else (p, 1) :: q :: r := by
  unfold byI
  by_cases h : q.1 < p
  · have e : byAt (q :: r) p = byAt r p + 1 := by show (if _ then _ else _) = _; rw [if_pos h]
    rw [e, if_pos h, List.getElem?_cons_succ]
    cases r[byAt r p]? with
    | none => rfl
    | some x => dsimp only; split <;> rfl
  · have e : byAt (q :: r) p = 0 := by show (if _ then _ else _) = _; rw [if_neg h]
    rw [e, if_neg h]
    show (if _ then _ else _) = _
    by_cases h2 : q.1 = p
    · rw [if_pos h2, if_pos h2]; rfl
    · rw [if_neg h2, if_neg h2]; rfl
def byGet : List PN → Int → Option Int
  | [], _ => none
  | q :: r, p => if q.1 = p then some q.2 else byGet r p
def SortedN (l : List PN) : Prop := l.Pairwise fun a b => a.1 < b.1
theorem byI_mem {p : Int} {x : PN} : ∀ {l : List PN}, x ∈ byI l p → x.1 = p ∨ x ∈ l
  | [], h => by rw [byI_nil] at h; rw [List.mem_singleton.1 h]; exact .inl rfl
  | q :: r, h => by
    rw [byI_cons] at h
    split at h
    · rcases List.mem_cons.1 h with rfl | h
      · exact .inr (by simp)
      · rcases byI_mem h with h | h
        · exact .inl h
        · exact .inr (by simp [h])
    · split at h
      · rename_i h2
        rcases List.mem_cons.1 h with rfl | h
        · exact .inl h2
        · exact .inr (by simp [h])
      · rcases List.mem_cons.1 h with rfl | h
        · exact .inl rfl
        · exact .inr h
theorem SortedN.ins (p : Int) : ∀ {l : List PN}, SortedN l → SortedN (byI l p)
  | [], _ => by rw [byI_nil]; exact List.pairwise_singleton _ _
  | q :: r, h => by
    unfold SortedN at h
    rw [List.pairwise_cons] at h
    rw [byI_cons]
    split
    · rename_i h1
      refine List.pairwise_cons.2 ⟨fun x hx => ?_, SortedN.ins p h.2⟩
      rcases byI_mem hx with e | hx
      · rw [e]; exact h1
      · exact h.1 x hx
    · split
      · rename_i h2
        exact List.pairwise_cons.2 ⟨fun x hx => h.1 x hx, h.2⟩
      · refine List.pairwise_cons.2 ⟨fun x hx => ?_, List.pairwise_cons.2 ⟨h.1, h.2⟩⟩
        rcases List.mem_cons.1 hx with rfl | hx
        · show p < x.1; omega
        · have := h.1 x hx; show p < x.1; omega
theorem byGet_ins (p m : Int) : ∀ l : List PN, SortedN l → byGet (byI l p) m = if m = p then some (match byGet l p with | some n => IntKind.i64.wrap (n + 1) | none => 1) else byGet l m
  | [], _ => by
    rw [byI_nil]
    show (if p = m then some 1 else none) = _
    by_cases h : m = p
    · rw [if_pos h, if_pos h.symm]; rfl
    · rw [if_neg h, if_neg (fun e => h e.symm)]; rfl
  | q :: r, hs => by
    unfold SortedN at hs
    rw [List.pairwise_cons] at hs
    rw [byI_cons]
    have ih := byGet_ins p m r hs.2
    have hno : ∀ k, k ≤ q.1 → byGet r k = none := by
      intro k hk
      have : ∀ x, x ∈ r → k < x.1 := fun x hx => by have := hs.1 x hx; omega
      clear hs ih
      induction r with
      | nil => rfl
      | cons y r ih => show (if y.1 = k then _ else _) = _; rw [if_neg (by have := this y (by simp); omega)]; exact ih fun x hx => this x (by simp [hx])
    by_cases h1 : q.1 < p
    · rw [if_pos h1]
      show (if q.1 = m then some q.2 else byGet (byI r p) m) = _
      rw [ih]
      show _ = if m = p then some (match (if q.1 = p then some q.2 else byGet r p) with | some n => IntKind.i64.wrap (n + 1) | none => 1) else if q.1 = m then some q.2 else byGet r m
      rw [if_neg (c := q.1 = p) (by omega)]
      by_cases h2 : q.1 = m
      · rw [if_pos h2, if_pos h2, if_neg (by omega)]
      · rw [if_neg h2, if_neg h2]
    · rw [if_neg h1]
      by_cases h2 : q.1 = p
      · rw [if_pos h2]
        show (if q.1 = m then some _ else byGet r m) = if m = p then some (match (if q.1 = p then some q.2 else byGet r p) with | some n => IntKind.i64.wrap (n + 1) | none => 1) else if q.1 = m then some q.2 else byGet r m
        rw [if_pos h2]
        by_cases h3 : q.1 = m
        · rw [if_pos h3, if_pos (by omega)]
        · rw [if_neg h3, if_neg (by omega), if_neg h3]
      · rw [if_neg h2]
        show (if p = m then some 1 else if q.1 = m then some q.2 else byGet r m) = if m = p then some (match (if q.1 = p then some q.2 else byGet r p) with | some n => IntKind.i64.wrap (n + 1) | none => 1) else if q.1 = m then some q.2 else byGet r m
        rw [if_neg h2, hno p (by omega)]
        by_cases h3 : p = m
        · rw [if_pos h3, if_pos h3.symm]
        · have h4 : ¬ m = p := fun e => h3 e.symm
          by_cases h5 : q.1 = m
          · rw [if_neg h3, if_neg h4]
          · rw [if_neg h3, if_neg h4]
theorem byL_snoc (l : List Gt) (g : Gt) : byL (l ++ [g]) = byI (byL l) g.prod := by unfold byL; rw [List.foldl_append]; rfl
theorem byL_sorted : ∀ l : List Gt, SortedN (byL l) := by
  intro l
  unfold byL
  suffices ∀ o, SortedN o → SortedN (l.foldl (fun o g => byI o g.prod) o) from this [] .nil
  induction l with
  | nil => exact fun o h => h
  | cons g l ih => exact fun o h => ih _ (h.ins g.prod)
theorem byGet_mem {l : List PN} (h : SortedN l) (q : PN) : byGet l q.1 = some q.2 ↔ q ∈ l := by
  induction l with
  | nil => exact ⟨fun h => (by cases h), fun h => (by cases h)⟩
  | cons x l ih =>
    unfold SortedN at h
    rw [List.pairwise_cons] at h
    show (if x.1 = q.1 then some x.2 else byGet l q.1) = _ ↔ _
    by_cases he : x.1 = q.1
    · rw [if_pos he]
      constructor
      · intro e; rw [show x = q from Prod.ext he (Option.some.inj e)]; simp
      · intro hm
        rcases List.mem_cons.1 hm with rfl | hm
        · rfl
        · have := h.1 q hm; omega
    · rw [if_neg he, ih h.2, List.mem_cons]
      exact ⟨.inr, fun hm => hm.resolve_left fun e => he (by rw [e])⟩
/-- The counts of a map, by its entries. -/
abbrev NE := Nat × Int × Int
def nent (q : NE) : Nat × PV × PV := (q.1, ii q.2.1, ii q.2.2)
def nGet : List NE → Int → Option Int
  | [], _ => none
  | (_, k, v) :: r, n => if k = n then some v else nGet r n
def nSet : List NE → Int → Int → List NE
  | [], _, _ => []
  | (t, k, v) :: r, n, x => if k = n then (t, k, x) :: r else (t, k, v) :: nSet r n x
def nPut (es : List NE) (cl : Nat) (n x : Int) : List NE := match nGet es n with | some _ => nSet es n x | none => es ++ [(cl, n, x)]
def nCl (es : List NE) (cl : Nat) (n : Int) : Nat := match nGet es n with | some _ => cl | none => cl + 1
theorem get_nent (n : Int) : ∀ es : List NE, mGet (es.map nent) (ii n) = (nGet es n).map ii
  | [] => rfl
  | (t, k, v) :: r => by
    rw [List.map_cons]
    show (match keyEq (ii n) (ii k) with | true => some (ii v) | false => mGet (r.map nent) (ii n)) = _
    rw [key_int, nGet]
    by_cases h : n = k
    · rw [decide_eq_true h, if_pos h.symm]; rfl
    · rw [decide_eq_false h, if_neg (fun e => h e.symm)]; exact get_nent n r
theorem set_nent (n x : Int) : ∀ es : List NE, mSet (es.map nent) (ii n) (ii x) = (nSet es n x).map nent
  | [] => rfl
  | (t, k, v) :: r => by
    rw [List.map_cons]
    show (match keyEq (ii n) (ii k) with | true => (t, ii n, ii x) :: r.map nent | false => (t, ii k, ii v) :: mSet (r.map nent) (ii n) (ii x)) = _
    rw [key_int, nSet]
    by_cases h : n = k
    · rw [decide_eq_true h, if_pos h.symm, List.map_cons, h]; rfl
    · rw [decide_eq_false h, if_neg (fun e => h e.symm), List.map_cons, ← set_nent n x r]; rfl
theorem put_nent (es : List NE) (cl : Nat) (n x : Int) : mPut (es.map nent) cl (ii n) (ii x) = (nPut es cl n x).map nent := by
  unfold mPut nPut
  rw [get_nent]
  cases nGet es n with
  | none => show es.map nent ++ [(cl, ii n, ii x)] = (es ++ [(cl, n, x)]).map nent; rw [List.map_append]; rfl
  | some v => exact set_nent n x es
theorem clk_nent (es : List NE) (cl : Nat) (n : Int) : mClock (es.map nent) cl (ii n) = nCl es cl n := by
  unfold mClock nCl
  rw [get_nent]
  cases nGet es n <;> rfl
def nAdd (q : List NE × Nat) (g : Gt) : List NE × Nat := (nPut q.1 q.2 g.prod (IntKind.i64.wrap ((nGet q.1 g.prod).getD 0 + 1)), nCl q.1 q.2 g.prod)
def nAll (l : List Gt) : List NE × Nat := l.foldl nAdd ([], 0)
theorem nAll_snoc (l : List Gt) (g : Gt) : nAll (l ++ [g]) = nAdd (nAll l) g := by unfold nAll; rw [List.foldl_append]; rfl
theorem nGet_nSet (n x : Int) : ∀ (es : List NE) (m : Int), nGet (nSet es n x) m = if m = n then (nGet es n).map (fun _ => x) else nGet es m
  | [], m => by show none = _; split <;> rfl
  | (t, k, v) :: r, m => by
    have ih := nGet_nSet n x r m
    show nGet (if k = n then (t, k, x) :: r else (t, k, v) :: nSet r n x) m = if m = n then (if k = n then some v else nGet r n).map _ else if k = m then some v else nGet r m
    by_cases h : k = n
    · rw [if_pos h, if_pos h]
      show (if k = m then some x else nGet r m) = _
      by_cases h2 : m = n
      · rw [if_pos h2, if_pos (by omega)]; rfl
      · rw [if_neg h2, if_neg (by omega), if_neg (by omega)]
    · rw [if_neg h, if_neg h]
      show (if k = m then some v else nGet (nSet r n x) m) = _
      rw [ih]
      by_cases h2 : m = n
      · rw [if_pos h2, if_pos h2, if_neg (by omega)]
      · rw [if_neg h2, if_neg h2]
theorem nGet_app (es : List NE) (t : Nat) (n x m : Int) : nGet (es ++ [(t, n, x)]) m = match nGet es m with | some v => some v | none => if n = m then some x else none := by
  induction es with
  | nil => rfl
  | cons q r ih =>
    obtain ⟨a, k, v⟩ := q
    show (if k = m then some v else nGet (r ++ [(t, n, x)]) m) = match (if k = m then some v else nGet r m) with | some v => some v | none => _
    by_cases h : k = m
    · rw [if_pos h, if_pos h]
    · rw [if_neg h, if_neg h, ih]
theorem nGet_nPut (es : List NE) (cl : Nat) (n x m : Int) : nGet (nPut es cl n x) m = if m = n then some x else nGet es m := by
  unfold nPut
  cases h : nGet es n with
  | none =>
    dsimp only
    rw [nGet_app]
    by_cases h2 : m = n
    · rw [if_pos h2, h2, h]; dsimp only; rw [if_pos rfl]
    · rw [if_neg h2, if_neg (fun e => h2 e.symm)]; cases nGet es m <;> rfl
  | some v =>
    dsimp only
    rw [nGet_nSet, h]; rfl
theorem nGet_all (m : Int) : ∀ l : List Gt, nGet (nAll l).1 m = byGet (byL l) m := by
  intro l
  rw [← List.reverse_reverse l]
  induction l.reverse with
  | nil => rfl
  | cons g r ih =>
    rw [List.reverse_cons, nAll_snoc, byL_snoc, byGet_ins _ _ _ (byL_sorted _)]
    show nGet (nPut _ _ _ _) m = _
    rw [nGet_nPut]
    by_cases h : m = g.prod
    · rw [if_pos h, if_pos h]
      have : nGet (nAll r.reverse).1 g.prod = byGet (byL r.reverse) g.prod := by rw [← h]; exact ih
      rw [this]
      cases byGet (byL r.reverse) g.prod <;> rfl
    · rw [if_neg h, if_neg h]; exact ih
structure NInv (es : List NE) (cl : Nat) : Prop where
  nd : (es.map (·.1)).Nodup
  lt : ∀ q, q ∈ es → q.1 < cl
  keys : (es.map (·.2.1)).Nodup
theorem nSet_st (n x : Int) : ∀ es : List NE, (nSet es n x).map (·.1) = es.map (·.1) ∧ (nSet es n x).map (·.2.1) = es.map (·.2.1)
  | [] => ⟨rfl, rfl⟩
  | (t, k, v) :: r => by
    show (if k = n then (t, k, x) :: r else (t, k, v) :: nSet r n x).map (·.1) = _ ∧ (if k = n then (t, k, x) :: r else (t, k, v) :: nSet r n x).map (·.2.1) = _
    split
    · exact ⟨rfl, rfl⟩
    · exact ⟨by rw [List.map_cons, List.map_cons, (nSet_st n x r).1], by rw [List.map_cons, List.map_cons, (nSet_st n x r).2]⟩
theorem nGet_no {n : Int} : ∀ {es : List NE}, nGet es n = none → n ∉ es.map (·.2.1)
  | [], _ => by simp
  | (t, k, v) :: r, h => by
    have h : (if k = n then some v else nGet r n) = none := h
    by_cases hk : k = n
    · rw [if_pos hk] at h; cases h
    · rw [if_neg hk] at h
      have := nGet_no h
      simp only [List.map_cons, List.mem_cons, not_or]
      exact ⟨fun e => hk e.symm, this⟩
theorem NInv.put {es : List NE} {cl : Nat} (h : NInv es cl) (n x : Int) : NInv (nPut es cl n x) (nCl es cl n) := by
  unfold nPut nCl
  cases hg : nGet es n with
  | some v =>
    dsimp only
    refine ⟨by rw [(nSet_st n x es).1]; exact h.nd, fun q hq => ?_, by rw [(nSet_st n x es).2]; exact h.keys⟩
    have : q.1 ∈ (nSet es n x).map (·.1) := List.mem_map_of_mem hq
    rw [(nSet_st n x es).1] at this
    obtain ⟨q', hq', e⟩ := List.mem_map.1 this
    rw [← e]; exact h.lt q' hq'
  | none =>
    dsimp only
    refine ⟨?_, fun q hq => ?_, ?_⟩
    · rw [List.map_append, List.nodup_append]
      refine ⟨h.nd, by simp, fun a ha b hb => ?_⟩
      obtain ⟨q, hq, rfl⟩ := List.mem_map.1 ha
      have := h.lt q hq
      simp at hb; omega
    · rcases List.mem_append.1 hq with hq | hq
      · have := h.lt q hq; omega
      · rw [List.mem_singleton.1 hq]; exact Nat.lt_succ_self _
    · rw [List.map_append, List.nodup_append]
      refine ⟨h.keys, by simp, fun a ha b hb => ?_⟩
      have := nGet_no hg
      simp only [List.map_cons, List.map_nil, List.mem_singleton] at hb
      subst hb
      rintro rfl
      exact this ha
theorem NInv.all : ∀ l : List Gt, NInv (nAll l).1 (nAll l).2 := by
  intro l
  rw [← List.reverse_reverse l]
  induction l.reverse with
  | nil => exact ⟨.nil, fun q hq => (by cases hq), .nil⟩
  | cons g r ih => rw [List.reverse_cons, nAll_snoc]; exact ih.put _ _
theorem nGet_of {es : List NE} (hk : (es.map (·.2.1)).Nodup) : ∀ {q : NE}, q ∈ es → nGet es q.2.1 = some q.2.2 := by
  intro q hq
  induction es with
  | nil => cases hq
  | cons x r ih =>
    rw [List.map_cons, List.nodup_cons] at hk
    show (if x.2.1 = q.2.1 then some x.2.2 else nGet r q.2.1) = _
    rcases List.mem_cons.1 hq with rfl | hq
    · rw [if_pos rfl]
    · rw [if_neg (fun (e : x.2.1 = q.2.1) => hk.1 (by rw [e]; exact List.mem_map_of_mem hq))]; exact ih hk.2 hq
theorem nGet_ex {n v : Int} : ∀ {es : List NE}, nGet es n = some v → ∃ t, (t, n, v) ∈ es
  | (t, k, x) :: r, h => by
    have h : (if k = n then some x else nGet r n) = some v := h
    by_cases hk : k = n
    · rw [if_pos hk] at h; cases h; subst hk; exact ⟨t, by simp⟩
    · rw [if_neg hk] at h
      obtain ⟨t', h'⟩ := nGet_ex h
      exact ⟨t', by simp [h']⟩
/-- Sorted, the entries are the document's counts. -/
theorem by_same (l : List Gt) {ps : List PN} (hp : ps.Perm ((nAll l).1.map fun q => q.2)) (hs : ps.Pairwise fun a b => ¬ b.1 < a.1) : ps = byL l := by
  have hi := NInv.all l
  have hks : (ps.map (·.1)).Nodup := by
    have : (ps.map (·.1)).Perm ((nAll l).1.map (·.2.1)) := by
      have := hp.map (·.1)
      rw [List.map_map] at this
      exact this
    exact this.nodup_iff.2 hi.keys
  have hst : SortedN ps := by
    unfold SortedN
    refine List.Pairwise.imp_of_mem (R := fun a b => ¬ b.1 < a.1 ∧ a.1 ≠ b.1) (fun {a b} _ _ h => by omega) ?_
    rw [List.pairwise_and_iff]
    exact ⟨hs, List.pairwise_map.1 hks⟩
  refine strict_eq (r := fun a b : PN => a.1 < b.1) (fun a => Int.lt_irrefl _) (fun a b c => Int.lt_trans) hst (byL_sorted l) fun q => ?_
  rw [← byGet_mem (byL_sorted l) q, ← nGet_all, hp.mem_iff]
  constructor
  · intro h
    obtain ⟨x, hx, rfl⟩ := List.mem_map.1 h
    exact nGet_of hi.keys hx
  · intro h
    obtain ⟨t, ht⟩ := nGet_ex h
    exact List.mem_map.2 ⟨_, ht, rfl⟩
end Go.Proofs.YtlnelaajlhfabaaGreat.AW

open Go Go.Proofs.YtlnelaajlhfabaaGreat.AW Go.Proofs
namespace Go.Proofs.YtlnelaajlhfabaaGreat.AW
set_option linter.unusedSimpArgs false
set_option linter.unusedVariables false

/-! ### Maps whose keys are texts -/
abbrev Tx := List UInt8
abbrev SE (γ : Type) := Nat × Tx × γ
section
variable {γ : Type} (en : γ → PV)
def sent (q : SE γ) : Nat × PV × PV := (q.1, .str q.2.1, en q.2.2)
def aGet : List (SE γ) → Tx → Option γ
  | [], _ => none
  | (_, k, v) :: r, n => if n = k then some v else aGet r n
def aSet : List (SE γ) → Tx → γ → List (SE γ)
  | [], _, _ => []
  | (t, k, v) :: r, n, x => if n = k then (t, k, x) :: r else (t, k, v) :: aSet r n x
def aPut (es : List (SE γ)) (cl : Nat) (n : Tx) (x : γ) : List (SE γ) := match aGet es n with | some _ => aSet es n x | none => es ++ [(cl, n, x)]
def aCl (es : List (SE γ)) (cl : Nat) (n : Tx) : Nat := match aGet es n with | some _ => cl | none => cl + 1
theorem key_txt (a b : Tx) : keyEq (.str a) (.str b) = decide (a = b) := by
  show (a == b) = _
  by_cases h : a = b
  · subst h; simp
  · rw [decide_eq_false h]; simpa using h
theorem get_sent (n : Tx) : ∀ es : List (SE γ), mGet (es.map (sent en)) (.str n) = (aGet es n).map en
  | [] => rfl
  | (t, k, v) :: r => by
    rw [List.map_cons]
    show (match keyEq (.str n) (.str k) with | true => some (en v) | false => mGet (r.map (sent en)) (PV.str n)) = _
    rw [key_txt, aGet]
    by_cases h : n = k
    · rw [decide_eq_true h, if_pos h]; rfl
    · rw [decide_eq_false h, if_neg h]; exact get_sent n r
theorem set_sent (n : Tx) (x : γ) : ∀ es : List (SE γ), mSet (es.map (sent en)) (.str n) (en x) = (aSet es n x).map (sent en)
  | [] => rfl
  | (t, k, v) :: r => by
    rw [List.map_cons]
    show (match keyEq (.str n) (.str k) with | true => (t, PV.str n, en x) :: r.map (sent en) | false => (t, PV.str k, en v) :: mSet (r.map (sent en)) (PV.str n) (en x)) = _
    rw [key_txt, aSet]
    by_cases h : n = k
    · rw [decide_eq_true h, if_pos h, List.map_cons, h]; rfl
    · rw [decide_eq_false h, if_neg h, List.map_cons, ← set_sent n x r]; rfl
theorem put_sent (es : List (SE γ)) (cl : Nat) (n : Tx) (x : γ) : mPut (es.map (sent en)) cl (.str n) (en x) = (aPut es cl n x).map (sent en) := by
  unfold mPut aPut
  rw [get_sent]
  cases aGet es n with
  | none => show es.map (sent en) ++ [(cl, .str n, en x)] = (es ++ [(cl, n, x)]).map (sent en); rw [List.map_append]; rfl
  | some v => exact set_sent en n x es
theorem clk_sent (es : List (SE γ)) (cl : Nat) (n : Tx) : mClock (es.map (sent en)) cl (.str n) = aCl es cl n := by
  unfold mClock aCl
  rw [get_sent]
  cases aGet es n <;> rfl
theorem aGet_aSet (n : Tx) (x : γ) : ∀ (es : List (SE γ)) (m : Tx), aGet (aSet es n x) m = if m = n then (aGet es n).map (fun _ => x) else aGet es m
  | [], m => by show none = _; split <;> rfl
  | (t, k, v) :: r, m => by
    have ih := aGet_aSet n x r m
    show aGet (if n = k then (t, k, x) :: r else (t, k, v) :: aSet r n x) m = if m = n then (if n = k then some v else aGet r n).map _ else if m = k then some v else aGet r m
    by_cases h : n = k
    · rw [if_pos h, if_pos h]
      show (if m = k then some x else aGet r m) = _
      by_cases h2 : m = n
      · rw [if_pos h2, if_pos (h2.trans h)]; rfl
      · rw [if_neg h2, if_neg (fun e => h2 (e.trans h.symm)), if_neg (fun e => h2 (e.trans h.symm))]
    · rw [if_neg h, if_neg h]
      show (if m = k then some v else aGet (aSet r n x) m) = _
      rw [ih]
      by_cases h2 : m = n
      · rw [if_pos h2, if_pos h2, if_neg (fun e => h (h2.symm.trans e))]
      · rw [if_neg h2, if_neg h2]
theorem aGet_app (es : List (SE γ)) (t : Nat) (n : Tx) (x : γ) (m : Tx) : aGet (es ++ [(t, n, x)]) m = match aGet es m with | some v => some v | none => if m = n then some x else none := by
  induction es with
  | nil => rfl
  | cons q r ih =>
    obtain ⟨a, k, v⟩ := q
    show (if m = k then some v else aGet (r ++ [(t, n, x)]) m) = match (if m = k then some v else aGet r m) with | some v => some v | none => _
    by_cases h : m = k
    · rw [if_pos h, if_pos h]
    · rw [if_neg h, if_neg h, ih]
theorem aGet_aPut (es : List (SE γ)) (cl : Nat) (n : Tx) (x : γ) (m : Tx) : aGet (aPut es cl n x) m = if m = n then some x else aGet es m := by
  unfold aPut
  cases h : aGet es n with
  | none =>
    dsimp only
    rw [aGet_app]
    by_cases h2 : m = n
    · rw [if_pos h2, h2, h]; dsimp only; rw [if_pos rfl]
    · rw [if_neg h2, if_neg h2]; cases aGet es m <;> rfl
  | some v =>
    dsimp only
    rw [aGet_aSet, h]; rfl
structure AInv (es : List (SE γ)) (cl : Nat) : Prop where
  nd : (es.map (·.1)).Nodup
  lt : ∀ q, q ∈ es → q.1 < cl
  keys : (es.map (·.2.1)).Nodup
theorem aSet_st (n : Tx) (x : γ) : ∀ es : List (SE γ), (aSet es n x).map (·.1) = es.map (·.1) ∧ (aSet es n x).map (·.2.1) = es.map (·.2.1)
  | [] => ⟨rfl, rfl⟩
  | (t, k, v) :: r => by
    show (if n = k then (t, k, x) :: r else (t, k, v) :: aSet r n x).map (·.1) = _ ∧ (if n = k then (t, k, x) :: r else (t, k, v) :: aSet r n x).map (·.2.1) = _
    split
    · exact ⟨rfl, rfl⟩
    · exact ⟨by rw [List.map_cons, List.map_cons, (aSet_st n x r).1], by rw [List.map_cons, List.map_cons, (aSet_st n x r).2]⟩
theorem aGet_no {n : Tx} : ∀ {es : List (SE γ)}, aGet es n = none → n ∉ es.map (·.2.1)
  | [], _ => by simp
  | (t, k, v) :: r, h => by
    have h : (if n = k then some v else aGet r n) = none := h
    by_cases hk : n = k
    · rw [if_pos hk] at h; cases h
    · rw [if_neg hk] at h
      have := aGet_no h
      simp only [List.map_cons, List.mem_cons, not_or]
      exact ⟨hk, this⟩
theorem AInv.nil : AInv ([] : List (SE γ)) 0 := ⟨.nil, fun q hq => (by cases hq), .nil⟩
theorem AInv.put {es : List (SE γ)} {cl : Nat} (h : AInv es cl) (n : Tx) (x : γ) : AInv (aPut es cl n x) (aCl es cl n) := by
  unfold aPut aCl
  cases hg : aGet es n with
  | some v =>
    dsimp only
    refine ⟨by rw [(aSet_st n x es).1]; exact h.nd, fun q hq => ?_, by rw [(aSet_st n x es).2]; exact h.keys⟩
    have : q.1 ∈ (aSet es n x).map (·.1) := List.mem_map_of_mem hq
    rw [(aSet_st n x es).1] at this
    obtain ⟨q', hq', e⟩ := List.mem_map.1 this
    rw [← e]; exact h.lt q' hq'
  | none =>
    dsimp only
    refine ⟨?_, fun q hq => ?_, ?_⟩
    · rw [List.map_append, List.nodup_append]
      refine ⟨h.nd, by simp, fun a ha b hb => ?_⟩
      obtain ⟨q, hq, rfl⟩ := List.mem_map.1 ha
      have := h.lt q hq
      simp at hb; omega
    · rcases List.mem_append.1 hq with hq | hq
      · have := h.lt q hq; omega
      · rw [List.mem_singleton.1 hq]; exact Nat.lt_succ_self _
    · rw [List.map_append, List.nodup_append]
      refine ⟨h.keys, by simp, fun a ha b hb => ?_⟩
      have := aGet_no hg
      simp only [List.map_cons, List.map_nil, List.mem_singleton] at hb
      subst hb
      rintro rfl
      exact this ha
theorem aPut_len (es : List (SE γ)) (cl : Nat) (n : Tx) (x : γ) : (aPut es cl n x).length ≤ es.length + 1 := by
  unfold aPut
  split
  · have := congrArg List.length (aSet_st n x es).1; simp at this; omega
  · rw [List.length_append]; exact Nat.le_refl _
theorem aGet_of {es : List (SE γ)} (hk : (es.map (·.2.1)).Nodup) : ∀ {q : SE γ}, q ∈ es → aGet es q.2.1 = some q.2.2 := by
  intro q hq
  induction es with
  | nil => cases hq
  | cons x r ih =>
    rw [List.map_cons, List.nodup_cons] at hk
    show (if q.2.1 = x.2.1 then some x.2.2 else aGet r q.2.1) = _
    rcases List.mem_cons.1 hq with rfl | hq
    · rw [if_pos rfl]
    · rw [if_neg (fun (e : q.2.1 = x.2.1) => hk.1 (by rw [← e]; exact List.mem_map_of_mem hq))]; exact ih hk.2 hq
theorem aGet_ex {n : Tx} {v : γ} : ∀ {es : List (SE γ)}, aGet es n = some v → ∃ t, (t, n, v) ∈ es
  | (t, k, x) :: r, h => by
    have h : (if n = k then some x else aGet r n) = some v := h
    by_cases hk : n = k
    · rw [if_pos hk] at h; cases h; subst hk; exact ⟨t, by simp⟩
    · rw [if_neg hk] at h
      obtain ⟨t', h'⟩ := aGet_ex h
      exact ⟨t', by simp [h']⟩
end

/-! ### The last record of each key -/
def g00 : Gt := ⟨0, 0, [], []⟩
def at' (l : List Gt) (i : Nat) : Gt := l.getD i g00
/-- Is another one of its key later? -/
def laterB (l : List Gt) (i k : Nat) : Bool := ((at' l k).key == (at' l i).key) && (decide ((at' l k).off > (at' l i).off) || (((at' l k).off == (at' l i).off) && decide (k > i)))
def bestN (l : List Gt) (i n : Nat) : Bool := !((List.range n).any (laterB l i))
def bestB (l : List Gt) (i : Nat) : Bool := bestN l i l.length
theorem bestN_succ (l : List Gt) (i n : Nat) : bestN l i (n + 1) = (bestN l i n && !laterB l i n) := by
  unfold bestN; rw [List.range_succ, List.any_append, Bool.not_or]; simp
def bests (l : List Gt) (n : Nat) : List Gt := ((List.range n).filter (bestB l)).map (at' l)
theorem bests_succ (l : List Gt) (n : Nat) : bests l (n + 1) = bests l n ++ (if bestB l n = true then [at' l n] else []) := by
  unfold bests; rw [List.range_succ, List.filter_append, List.map_append]
  congr 1
  rw [List.filter_cons]
  split <;> rfl
theorem bests_le (l : List Gt) (n : Nat) : (bests l n).length ≤ n := by
  unfold bests; rw [List.length_map]; exact Nat.le_trans (List.length_filter_le ..) (by simp)
/-- What the code keeps: for each key the place of its last one so far. -/
def lstA (l : List Gt) (q : List (SE Int) × Nat) (i : Nat) : List (SE Int) × Nat :=
  match aGet q.1 (at' l i).key with
  | some w => if decide ((at' l i).off ≥ (at' l w.toNat).off) = true then (aPut q.1 q.2 (at' l i).key (i : Nat), aCl q.1 q.2 (at' l i).key) else q
  | none => (aPut q.1 q.2 (at' l i).key (i : Nat), aCl q.1 q.2 (at' l i).key)
def lstN (l : List Gt) : Nat → List (SE Int) × Nat
  | 0 => ([], 0)
  | i + 1 => lstA l (lstN l i) i
/-- Of those ahead of n with this key: is w the last? -/
def isLast (l : List Gt) (n : Nat) (key : Tx) (w : Int) : Prop := 0 ≤ w ∧ w.toNat < n ∧ (at' l w.toNat).key = key ∧ ∀ j, j < n → (at' l j).key = key → (at' l j).off < (at' l w.toNat).off ∨ ((at' l j).off = (at' l w.toNat).off ∧ j ≤ w.toNat)
theorem lstN_get (l : List Gt) : ∀ n key, match aGet (lstN l n).1 key with | some w => isLast l n key w | none => ∀ j, j < n → (at' l j).key ≠ key
  | 0, key => by show ∀ j, j < 0 → _; intro j hj; omega
  | n + 1, key => by
    have ih := lstN_get l n
    have put : ∀ (hnew : ∀ j, j < n → (at' l j).key = (at' l n).key → (at' l j).off ≤ (at' l n).off), match aGet (aPut (lstN l n).1 (lstN l n).2 (at' l n).key ((n : Nat) : Int)) key with | some w => isLast l (n + 1) key w | none => ∀ j, j < n + 1 → (at' l j).key ≠ key := fun hnew => by
      rw [aGet_aPut]
      by_cases hk : key = (at' l n).key
      · rw [if_pos hk]
        refine ⟨Int.natCast_nonneg _, by show n < n + 1; omega, hk.symm, fun j hj hjk => ?_⟩
        show (at' l j).off < (at' l n).off ∨ _ ∧ j ≤ n
        by_cases hjn : j = n
        · rw [hjn]; exact .inr ⟨rfl, Nat.le_refl _⟩
        · have := hnew j (by omega) (hjk.trans hk)
          show _ ∨ (at' l j).off = (at' l n).off ∧ _
          omega
      · rw [if_neg hk]
        have := ih key
        cases hg : aGet (lstN l n).1 key with
        | none =>
          rw [hg] at this
          intro j hj
          by_cases hjn : j = n
          · rw [hjn]; exact fun e => hk e.symm
          · exact this j (by omega)
        | some w =>
          rw [hg] at this
          obtain ⟨a1, a2, a3, a4⟩ := this
          refine ⟨a1, by omega, a3, fun j hj hjk => ?_⟩
          by_cases hjn : j = n
          · rw [hjn] at hjk; exact absurd hjk.symm hk
          · exact a4 j (by omega) hjk
    show match aGet (lstA l (lstN l n) n).1 key with | some w => _ | none => _
    unfold lstA
    have ihn := ih (at' l n).key
    cases hg : aGet (lstN l n).1 (at' l n).key with
    | none =>
      rw [hg] at ihn
      exact put fun j hj hjk => absurd hjk (ihn j hj)
    | some w =>
      rw [hg] at ihn
      obtain ⟨a1, a2, a3, a4⟩ := ihn
      dsimp only
      by_cases hge : (at' l n).off ≥ (at' l w.toNat).off
      · rw [if_pos (decide_eq_true hge)]
        exact put fun j hj hjk => by have := a4 j hj hjk; omega
      · rw [if_neg (by simpa using hge)]
        have := ih key
        cases hg2 : aGet (lstN l n).1 key with
        | none =>
          rw [hg2] at this
          intro j hj
          by_cases hjn : j = n
          · rw [hjn]; intro e; rw [← e, hg] at hg2; cases hg2
          · exact this j (by omega)
        | some w2 =>
          rw [hg2] at this
          obtain ⟨b1, b2, b3, b4⟩ := this
          refine ⟨b1, by omega, b3, fun j hj hjk => ?_⟩
          by_cases hjn : j = n
          · rw [hjn] at hjk ⊢
            rw [← hjk, hg] at hg2
            cases hg2
            exact .inl (by omega)
          · exact b4 j (by omega) hjk
/-- A record is its key's last one iff the map says its place. -/
theorem best_iff (l : List Gt) {i : Nat} (hi : i < l.length) : ∃ w, aGet (lstN l l.length).1 (at' l i).key = some w ∧ (decide (w = (i : Nat)) = bestB l i) := by
  have h := lstN_get l l.length (at' l i).key
  cases hg : aGet (lstN l l.length).1 (at' l i).key with
  | none => rw [hg] at h; exact absurd rfl (h i hi)
  | some w =>
    rw [hg] at h
    obtain ⟨a1, a2, a3, a4⟩ := h
    refine ⟨w, rfl, ?_⟩
    by_cases hw : w = (i : Nat)
    · rw [decide_eq_true hw]
      have hwi : w.toNat = i := by omega
      rw [hwi] at a4
      symm
      unfold bestB bestN
      rw [Bool.not_eq_true', List.any_eq_false]
      intro k hk hl
      have hk := List.mem_range.1 hk
      unfold laterB at hl
      simp at hl
      have := a4 k hk hl.1
      omega
    · rw [decide_eq_false hw]
      symm
      unfold bestB bestN
      rw [Bool.not_eq_false', List.any_eq_true]
      refine ⟨w.toNat, List.mem_range.2 a2, ?_⟩
      have := a4 i hi rfl
      unfold laterB
      simp [a3]
      omega
end Go.Proofs.YtlnelaajlhfabaaGreat.AW
