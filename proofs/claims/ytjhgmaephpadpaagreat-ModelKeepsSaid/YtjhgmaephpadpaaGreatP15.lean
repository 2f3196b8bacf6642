/- A part of the proof: LG/S1, LG/G29, LG/G30, LG/B2, LG/B3, LG/B4, LG/B5, LG/B14, LG/B15. -/
import Derived.Test.YtjhgmaephpadpaaGreatP14
import Derived.Test.YtjhgmaephpadpaaGreatProg
import Derived.Test.YtjhgmaephpadpaaGreatP13
import Derived.Test.YtjhgmaephpadpaaGreatP12
open Go Go.Proofs.YtjhgmaephpadpaaGreat.AW Go.Proofs
namespace Go.Proofs.YtjhgmaephpadpaaGreat.AW
set_option maxRecDepth 100000
set_option linter.unusedSimpArgs false
set_option linter.unusedVariables false
open Go.Shelf

/-! ### slices.SortFunc of structs: the shelf's, laid in plain words -/
def sortP_ren : Go.Shelf.Ren := ⟨fun | 6 => 71 | 15 => 106 | 14 => 105 | 28 => 140 | 29 => 141 | 20 => 132 | 21 => 133 | 22 => 134 | 23 => 135 | 24 => 136 | 25 => 137 | 26 => 138 | 27 => 139 | 46 => 166 | 47 => 167 | 48 => 168 | 49 => 169 | 50 => 170 | 57 => 175 | n => n, fun | 22 => 43 | 24 => 47 | 25 => 119 | 3 => 3 | 39 => 139 | 0 => 0 | 53 => 165 | 55 => 176 | 4 => 4 | 46 => 169 | 45 => 168 | 50 => 150 | 5 => 5 | 9 => 9 | 66 => 195 | 70 => 199 | 76 => 203 | 77 => 204 | n => n, fun | n => n⟩
theorem sortP : SlLaysF0.n6 Tryz.prog sortP_ren where
  mixed := by kernel_rfl
  f6 := ⟨Tryz.f71.name, by decide +kernel, Tryz.func71.trans (congrArg some (by kernel_rfl))⟩
  f14 := ⟨Tryz.f105.name, by decide +kernel, Tryz.func105.trans (congrArg some (by kernel_rfl))⟩
  f15 := Tryz.func106.trans (congrArg some (by kernel_rfl))
  f20 := ⟨Tryz.f132.name, by decide +kernel, Tryz.func132.trans (congrArg some (by kernel_rfl))⟩
  f21 := ⟨Tryz.f133.name, by decide +kernel, Tryz.func133.trans (congrArg some (by kernel_rfl))⟩
  f22 := ⟨Tryz.f134.name, by decide +kernel, Tryz.func134.trans (congrArg some (by kernel_rfl))⟩
  f23 := ⟨Tryz.f135.name, by decide +kernel, Tryz.func135.trans (congrArg some (by kernel_rfl))⟩
  f24 := ⟨Tryz.f136.name, by decide +kernel, Tryz.func136.trans (congrArg some (by kernel_rfl))⟩
  f25 := ⟨Tryz.f137.name, by decide +kernel, Tryz.func137.trans (congrArg some (by kernel_rfl))⟩
  f26 := ⟨Tryz.f138.name, by decide +kernel, Tryz.func138.trans (congrArg some (by kernel_rfl))⟩
  f27 := ⟨Tryz.f139.name, by decide +kernel, Tryz.func139.trans (congrArg some (by kernel_rfl))⟩
  f28 := Tryz.func140.trans (congrArg some (by kernel_rfl))
  f29 := Tryz.func141.trans (congrArg some (by kernel_rfl))
  f46 := ⟨Tryz.f166.name, by decide +kernel, Tryz.func166.trans (congrArg some (by kernel_rfl))⟩
  f47 := Tryz.func167.trans (congrArg some (by kernel_rfl))
  f48 := Tryz.func168.trans (congrArg some (by kernel_rfl))
  f49 := ⟨Tryz.f169.name, by decide +kernel, Tryz.func169.trans (congrArg some (by kernel_rfl))⟩
  f50 := ⟨Tryz.f170.name, by decide +kernel, Tryz.func170.trans (congrArg some (by kernel_rfl))⟩
  f57 := ⟨Tryz.f175.name, by decide +kernel, Tryz.func175.trans (congrArg some (by kernel_rfl))⟩
  t0 := Tryz.underlying0
  a0 := Tryz.isAgg0
  z0 := Tryz.sizeOf0
  v0 := Tryz.zeroValue0
  t3 := Tryz.underlying3
  a3 := Tryz.isAgg3
  z3 := Tryz.sizeOf3
  v3 := Tryz.zeroValue3
  t4 := Tryz.underlying4
  a4 := Tryz.isAgg4
  z4 := Tryz.sizeOf4
  v4 := Tryz.zeroValue4
  t5 := Tryz.underlying5
  a5 := Tryz.isAgg5
  z5 := Tryz.sizeOf5
  v5 := Tryz.zeroValue5
  t9 := Tryz.underlying9
  a9 := Tryz.isAgg9
  z9 := Tryz.sizeOf9
  v9 := Tryz.zeroValue9
  t22 := Tryz.underlying43
  a22 := Tryz.isAgg43
  z22 := Tryz.sizeOf43
  v22 := Tryz.zeroValue43
  t25 := Tryz.underlying119
  a25 := Tryz.isAgg119
  z25 := Tryz.sizeOf119
  v25 := Tryz.zeroValue119
  t39 := Tryz.underlying139
  a39 := Tryz.isAgg139
  z39 := Tryz.sizeOf139
  v39 := Tryz.zeroValue139
  t45 := Tryz.underlying168
  a45 := Tryz.isAgg168
  z45 := Tryz.sizeOf168
  v45 := Tryz.zeroValue168
  t46 := Tryz.underlying169
  a46 := Tryz.isAgg169
  z46 := Tryz.sizeOf169
  v46 := Tryz.zeroValue169
  t50 := Tryz.underlying150
  a50 := Tryz.isAgg150
  z50 := Tryz.sizeOf150
  v50 := Tryz.zeroValue150
  t53 := Tryz.underlying165
  a53 := Tryz.isAgg165
  z53 := Tryz.sizeOf165
  v53 := Tryz.zeroValue165
  t55 := Tryz.underlying176
  a55 := Tryz.isAgg176
  z55 := Tryz.sizeOf176
  v55 := Tryz.zeroValue176
  t66 := Tryz.underlying195
  a66 := Tryz.isAgg195
  z66 := Tryz.sizeOf195
  v66 := Tryz.zeroValue195
  t70 := Tryz.underlying199
  a70 := Tryz.isAgg199
  z70 := Tryz.sizeOf199
  v70 := Tryz.zeroValue199
  t76 := Tryz.underlying203
  a76 := Tryz.isAgg203
  z76 := Tryz.sizeOf203
  v76 := Tryz.zeroValue203
  t77 := Tryz.underlying204
  a77 := Tryz.isAgg204
  z77 := Tryz.sizeOf204
  v77 := Tryz.zeroValue204
end Go.Proofs.YtjhgmaephpadpaaGreat.AW


open Go Go.Proofs.YtjhgmaephpadpaaGreat.AW Go.Proofs
namespace Go.Proofs.YtjhgmaephpadpaaGreat.AW
set_option maxRecDepth 100000
set_option linter.unusedSimpArgs false
set_option linter.unusedVariables false

/-! ### All producers of a table, by id -/
def cmpI (x y : Int) : Int := if x < y then -1 else if x > y then 1 else 0
theorem isnan_c (a : Int) (s : Store) (K : AV → Store → Prop) (h : K (.p (.bool false)) s) : Cal Tryz.prog 107 [.p (ii a)] s K := by
  refine Cal.pure (args := [ii a]) ?_
  refine Cal.intro Tryz.func107 (by decide +kernel) rfl rfl ?_
  show K (.p (.bool (!(decide (a = a))))) s
  rw [decide_eq_true rfl]; exact h
theorem cmpI_c (a b : Int) (s : Store) (K : AV → Store → Prop) (h : K (.p (ii (cmpI a b))) s) : Cal Tryz.prog 73 [.p (ii a), .p (ii b)] s K := by
  refine Cal.pure (args := [ii a, ii b]) ?_
  refine Cal.intro Tryz.func73 (by decide +kernel) rfl rfl ?_
  unfold cmpI at h
  cases h1 : decide (a < b) <;> cases h2 : decide (a > b)
  all_goals
    have f1 := h1
    have f2 := h2
    simp only [decide_eq_true_eq, decide_eq_false_iff_not] at f1 f2
    repeat' (first
      | (apply Br.t; · (first | rfl | (simp only [*] <;> rfl)))
      | (apply Br.f; · (first | rfl | (simp only [*] <;> rfl)))
      | refine Ob.mk (okst rfl rfl rfl) ?_
      | refine isnan_c _ _ _ ?_
      | refine Br.mkT (fun c => ?_) (fun c => ?_)
      | refine Br.mkF (fun c => ?_) (fun c => ?_)
      | refine Br.mk (fun c => ?_) (fun c => ?_)
      | exact h
      | (simp only [*, Bool.true_and, Bool.false_and, Bool.true_or, Bool.false_or, Bool.and_true, Bool.and_false, Bool.or_true, Bool.or_false, Bool.not_true, Bool.not_false, if_true, if_false, reduceIte, Bool.false_eq_true] at h; exact h))
def prId : PV → Int
  | .agg (.int _ n :: _) => n
  | _ => 0
def prCmp (x y : PV) : Int := cmpI (prId x) (prId y)
theorem pcmp_c (x y : Pr) (s : Store) (K : AV → Store → Prop) (h : K (.p (ii (prCmp x.pv y.pv))) s) : Cal Tryz.prog 72 [.p x.pv, .p y.pv] s K := by
  refine Cal.pure (args := [x.pv, y.pv]) ?_
  refine Cal.intro Tryz.func72 (by decide +kernel) rfl rfl ?_
  have h : K (.p (ii (cmpI x.id y.id))) s := h
  repeat' (first
    | (apply Br.t; · (first | rfl | (simp only [*] <;> rfl)))
    | (apply Br.f; · (first | rfl | (simp only [*] <;> rfl)))
    | refine Ob.mk (okst rfl rfl rfl) ?_
    | refine cmpI_c _ _ _ _ ?_
    | refine Br.mkT (fun c => ?_) (fun c => ?_)
    | refine Br.mkF (fun c => ?_) (fun c => ?_)
    | refine Br.mk (fun c => ?_) (fun c => ?_)
    | exact h
    | (simp only [*, Bool.true_and, Bool.false_and, Bool.true_or, Bool.false_or, Bool.and_true, Bool.and_false, Bool.or_true, Bool.or_false, Bool.not_true, Bool.not_false, if_true, if_false, reduceIte, Bool.false_eq_true] at h; exact h))
theorem cmpI_lt (a b : Int) : cmpI a b < 0 ↔ a < b := by
  unfold cmpI
  split
  · rename_i h; exact ⟨fun _ => h, fun _ => by omega⟩
  · split <;> exact ⟨fun q => by omega, fun q => by omega⟩
theorem pr_ord (l : List PV) : Ord (fun x y => prCmp x y < 0) l := by
  refine ⟨fun x _ h => ?_, fun x y z _ _ _ h k => ?_, fun x y z _ _ _ h k q => ?_⟩
  · have := (cmpI_lt _ _).1 h; omega
  · have h := (cmpI_lt _ _).1 h; have k := (cmpI_lt _ _).1 k; exact (cmpI_lt _ _).2 (by omega)
  · have q := (cmpI_lt _ _).1 q
    have h : ¬ prId x < prId y := fun e => h ((cmpI_lt _ _).2 e)
    have k : ¬ prId y < prId z := fun e => k ((cmpI_lt _ _).2 e)
    omega
theorem prs_of {ys : List PV} {l : List Pr} (h : ys.Perm (l.map Pr.pv)) : ∃ ps : List Pr, ys = ps.map Pr.pv ∧ ps.Perm l := by
  induction l generalizing ys with
  | nil => exact ⟨[], h.eq_nil, .refl _⟩
  | cons p r ih =>
    rw [List.map_cons] at h
    obtain ⟨a, b, rfl⟩ := List.append_of_mem (h.mem_iff.2 (List.mem_cons_self ..))
    have h2 : (a ++ b).Perm (r.map Pr.pv) := (List.Perm.cons_inv (List.perm_middle.symm.trans h))
    obtain ⟨ps, h3, h4⟩ := ih h2
    obtain ⟨pa, pb, h5, h6, h7⟩ := List.append_eq_map_iff.1 h3
    exact ⟨pa ++ p :: pb, by rw [List.map_append, List.map_cons, h6, h7], List.perm_middle.trans ((h5 ▸ h4).cons p)⟩
def prsC (l : List Pr) : PV := .sl .clip 4 (l.map Pr.pv)
set_option maxHeartbeats 8000000 in
theorem tall_c (es : List TE) (cl : Nat) (hi : TInv es cl) (hlen : es.length ≤ 1000000000) (K : AV → Store → Prop) (h : ∀ ps : List Pr, ps.Perm (es.map fun q => q.2.2) → ps.Pairwise (fun a b => ¬ b.id < a.id) → K (.p (prsC ps)) (tbS es cl)) : Cal Tryz.prog 39 [.ref 1 0] (tbS es cl) K := by
  refine Cal.cut ?_
  refine Cal.intro Tryz.func39 (by decide +kernel) rfl rfl ?_
  have hfst : (es.map tent).map (·.1) = es.map (·.1) := by rw [List.map_map]; rfl
  refine LoopX.famW [3, 10] (fun (q : List TE × List TE × Option (Nat × Nat)) => ([(3, .osl 3 (q.1.map fun q => q.2.2.pv).length 0 (q.1.map fun q => q.2.2.pv).length), (10, .it 2)],
      [some (.map (.int .i64) (es.map tent) cl), some (.cells [.map 0]), some (.iterM 0 ((es.map tent).map (·.1)) (q.2.1.map (·.1), q.2.2)), some (.buf 4 (q.1.map fun q => q.2.2.pv))]))
    (fun q => (q.1 ++ q.2.1).Perm es) (fun q => q.2.1.length) ([], es, none) (List.Perm.refl _) (by show 3 ≤ 4; decide) (Trim.wk 3 [(4, none)] rfl (by show 3 ≤ 3; decide) (.inr rfl) (by rw [← hfst]; rfl) rfl rfl rfl rfl ⟨.own 3 rfl rfl, .inl rfl, trivial⟩) ?_
  rintro ⟨out, rest, cur⟩ hq
  have hq : (out ++ rest).Perm es := hq
  have hln : out.length + rest.length = es.length := by have := hq.length_eq; simpa using this
  refine Ob.mk rfl ?_
  refine BrL.mk (fun (he : rest.map (·.1) = []) => ?_) (fun (hne : rest.map (·.1) ≠ []) => ?_)
  · have hr : rest = [] := List.map_eq_nil_iff.1 he
    subst hr
    rw [List.append_nil] at hq
    refine Br.f rfl ?_
    show Cal Tryz.prog 71 [.osl 3 (out.map fun q => q.2.2.pv).length 0 (out.map fun q => q.2.2.pv).length, .clos 72 []] [_, _, _, some (.buf 4 (out.map fun q => q.2.2.pv) none)] _
    refine Cal.sortK (id := 3) (xs := out.map fun q => q.2.2.pv) (ty := none) sortP (k := 4) (by decide) Tryz.isAgg47 Tryz.sizeOf47 rfl ⟨_, Tryz.func71, by decide +kernel, rfl⟩ ⟨_, Tryz.func72, by decide +kernel, rfl⟩ ?_ ?_ ?_ prCmp (pr_ord _) ?_ ?_
    · rfl
    · intro x hx
      obtain ⟨q, _, rfl⟩ := List.mem_map.1 hx
      rfl
    · rw [List.length_map]; omega
    · intro x y hx hy
      obtain ⟨q, hqm, rfl⟩ := List.mem_map.1 hx
      obtain ⟨p, hpm, rfl⟩ := List.mem_map.1 hy
      exact pcmp_c _ _ [] _ ⟨rfl, rfl⟩
    · intro ys hp hs
      have hp2 : ys.Perm ((out.map fun q => q.2.2).map Pr.pv) := by rw [List.map_map]; exact hp
      obtain ⟨ps, rfl, hn⟩ := prs_of hp2
      have hl : (ps.map Pr.pv).length = (out.map fun q => q.2.2.pv).length := hp.length_eq
      refine Cal.freeze ?_ ⟨_, Tryz.func74, rfl, rfl⟩
      refine Ob.mk hl ?_
      have e : ((ps.map Pr.pv).drop 0).take (out.map fun q => q.2.2.pv).length = ps.map Pr.pv := by rw [List.drop_zero, ← hl, List.take_length]
      show Cal _ _ [.p (.sl .shr 4 (((ps.map Pr.pv).drop 0).take (out.map fun q => q.2.2.pv).length))] _ _
      rw [e]
      have hk := h ps (hn.trans (hq.map _)) (by
        rw [List.pairwise_map] at hs
        exact hs.imp fun hab q => hab ((cmpI_lt _ _).2 q))
      refine clip_pr _ _ _ ?_
      exact ⟨2, tbS es cl, Nat.le_refl 2, (show (2 : Nat) ≤ 4 by decide), rfl, rfl, WkS.refl _, hk⟩
  · refine Any.mk fun b k v hb hkv => ?_
    obtain ⟨fe, hfe, hent⟩ := List.mem_map.1 hkv
    cases hent
    obtain ⟨fe', hfe', hbe⟩ := List.mem_map.1 hb
    have hin : fe ∈ rest := by
      have : fe' = fe := nd_eqT hi.nd (hq.mem_iff.1 (List.mem_append_right _ hfe')) hfe hbe
      rw [← this]; exact hfe'
    have hndr : (rest.map (·.1)).Nodup := by
      have h1 : ((out ++ rest).map (·.1)).Nodup := (hq.map _).nodup_iff.2 hi.nd
      rw [List.map_append] at h1
      exact (List.nodup_append.1 h1).2.1
    have hpo := perm_outT hndr hin
    have hpl := hpo.length_eq
    rw [List.length_cons] at hpl
    refine Br.t rfl ?_
    refine Ob.mk rfl ⟨ii fe.2.1, fe.2.2.pv, Ob.mk hkv ?_⟩
    refine Ob.mk (okst rfl rfl rfl) ?_
    refine copy_c fe.2.2 (hi.ok _ hfe) _ _ ?_
    refine Ob.mk ?_ ?_
    · refine ⟨rfl, rfl, rfl, ?_⟩
      show ((out.map fun q => q.2.2.pv).length + 1) * 48 ≤ _
      rw [List.length_map]; omega
    · refine ⟨(out ++ [fe], rest.filter (fun q => !(q.1 == fe.1)), some (fe.1, cl)), ?_, by show (rest.filter _).length < rest.length; omega, (show (3 : Nat) ≤ 4 by decide), Trim.mk' ?_ ?_ rfl rfl (show (4 : Nat) ≤ 5 by decide)⟩
      · show ((out ++ [fe]) ++ rest.filter _).Perm es
        rw [List.append_assoc]
        exact ((hpo.symm.append_left out)).trans hq
      · show _ = [(3, AV.osl 3 ((out ++ [fe]).map fun q => q.2.2.pv).length 0 ((out ++ [fe]).map fun q => q.2.2.pv).length), _]
        rw [List.map_append]; rfl
      · show _ = [_, _, some (AObj.iterM 0 _ ((rest.filter (fun q => !(q.1 == fe.1))).map (·.1), _)), some (AObj.buf 4 ((out ++ [fe]).map fun q => q.2.2.pv) none)]
        have e1 : (rest.filter (fun q => !(q.1 == fe.1))).map (·.1) = (rest.map (·.1)).filter fun x => !(x == fe.1) := by
          rw [List.filter_map]; rfl
        rw [List.map_append, e1]; rfl
end Go.Proofs.YtjhgmaephpadpaaGreat.AW


open Go Go.Proofs.YtjhgmaephpadpaaGreat.AW Go.Proofs
namespace Go.Proofs.YtjhgmaephpadpaaGreat.AW
set_option maxRecDepth 100000
set_option linter.unusedSimpArgs false
set_option linter.unusedVariables false

/-! ### Get, and Fold of an owned row -/
end Go.Proofs.YtjhgmaephpadpaaGreat.AW

open Go Go.Proofs.YtjhgmaephpadpaaGreat.AW Go.Proofs
namespace Go.Proofs.YtjhgmaephpadpaaGreat.AW
set_option linter.unusedSimpArgs false
set_option linter.unusedVariables false

/-! ### What one producer does turns no other one -/
theorem tGet_tSet (n : Int) (x : Pr) : ∀ (es : List TE) (m : Int), tGet (tSet es n x) m = if m = n then (tGet es n).map (fun _ => x) else tGet es m
  | [], m => by simp [tSet, tGet]
  | (t, k, p) :: r, m => by
    unfold tSet
    by_cases h : n = k
    · subst h
      rw [if_pos rfl]
      by_cases hm : m = n
      · subst hm; simp [tGet]
      · simp [tGet, hm]
    · rw [if_neg h]
      by_cases hm : m = k
      · subst hm
        have : ¬ m = n := fun e => h e.symm
        simp [tGet, this]
      · have ih := tGet_tSet n x r m
        simp only [tGet, if_neg hm, if_neg h, ih]
theorem tGet_app (es : List TE) (t : Nat) (n : Int) (x : Pr) (m : Int) : tGet (es ++ [(t, n, x)]) m = (tGet es m).orElse fun _ => if m = n then some x else none := by
  induction es with
  | nil => simp [tGet]
  | cons q r ih =>
    obtain ⟨s, k, p⟩ := q
    rw [List.cons_append]
    by_cases h : m = k
    · simp [tGet, h]
    · simp only [tGet, if_neg h, ih]
theorem tGet_tPut (es : List TE) (cl : Nat) (n : Int) (x : Pr) (m : Int) : tGet (tPut es cl n x) m = if m = n then some x else tGet es m := by
  unfold tPut
  cases hg : tGet es n with
  | some q => simp only [tGet_tSet, hg, Option.map_some]
  | none =>
    simp only [tGet_app]
    by_cases h : m = n
    · subst h; rw [hg, if_pos rfl]; simp
    · rw [if_neg h, if_neg h]; cases tGet es m <;> rfl
/-- A step of one producer's own state. -/
def own1 (o : Option Pr) (b : Bt) : Option Pr := if ((rightV b != 0) || (b.prod == -1)) = true then o else some (applyV (o.getD pr0) o.isSome b)
theorem tGet_tApp (es : List TE) (cl : Nat) (b : Bt) (m : Int) : tGet (tApp es cl b).1 m = if m = b.prod then own1 (tGet es m) b else tGet es m := by
  unfold tApp own1
  split
  · split <;> rfl
  · rw [tGet_tPut]
    by_cases h : m = b.prod
    · subst h; rfl
    · rw [if_neg h, if_neg h]
theorem RowOk.right {st : Int} {L : List Bt} (h : RowOk st L) : ∀ b, b ∈ L → rightV b = 0 := by
  induction h with
  | nil => intro b hb; cases hb
  | snoc L b h h1 h2 h3 h4 h5 ih =>
    intro c hc
    rcases List.mem_append.1 hc with hc | hc
    · exact ih c hc
    · rw [List.mem_singleton.1 hc]
      by_cases hr : rightV b = 0
      · exact hr
      · exfalso
        unfold tChk at h2
        rw [if_pos (by simpa using hr)] at h2
        exact hr h2
end Go.Proofs.YtjhgmaephpadpaaGreat.AW

open Go Go.Proofs.YtjhgmaephpadpaaGreat.AW Go.Proofs
namespace Go.Proofs.YtjhgmaephpadpaaGreat.AW
set_option linter.unusedSimpArgs false
set_option linter.unusedVariables false

/-! ### The least open offset: the base of the first transaction's batch that no marker ends -/
/-- A transaction's batch at place j, which no later marker of its producer ends. -/
def liveB (b : Bt) : Bool := b.txn && (b.mark == 0)
def endsB (b c : Bt) : Bool := (c.mark != 0) && (c.prod == b.prod)
def Live (L : List Bt) (j : Nat) : Prop := ∃ hj : j < L.length, liveB L[j] = true ∧ (L.drop (j + 1)).any (endsB L[j]) = false
def opOf (o : Option Pr) : Int := match o with | some p => p.op | none => -1
/-- What is asked of a row. -/
structure RowM (L : List Bt) : Prop where
  right : ∀ b, b ∈ L → rightV b = 0
  mono : ∀ i j (hi : i < L.length) (hj : j < L.length), i ≤ j → L[i].base ≤ L[j].base
  pos : ∀ b, b ∈ L → 0 ≤ b.base
  txn : ∀ b, b ∈ L → liveB b = true → b.prod ≠ -1

theorem live_snoc_old {L : List Bt} {b : Bt} {j : Nat} (hj : j < L.length) : Live (L ++ [b]) j ↔ Live L j ∧ endsB L[j] b = false := by
  have e : (L ++ [b])[j]'(by simp; omega) = L[j] := List.getElem_append_left hj
  have d : (L ++ [b]).drop (j + 1) = L.drop (j + 1) ++ [b] := by rw [List.drop_append_of_le_length (by omega)]
  constructor
  · rintro ⟨h1, h2, h3⟩
    rw [e] at h2 h3
    rw [d, List.any_append, Bool.or_eq_false_iff] at h3
    exact ⟨⟨hj, h2, h3.1⟩, by simpa using h3.2⟩
  · rintro ⟨⟨_, h2, h3⟩, h4⟩
    refine ⟨by simp; omega, ?_, ?_⟩
    · rw [e]; exact h2
    · rw [e, d, List.any_append, h3]; simpa using h4
theorem live_snoc_new {L : List Bt} {b : Bt} : Live (L ++ [b]) L.length ↔ liveB b = true := by
  have e : (L ++ [b])[L.length]'(by simp) = b := by simp
  constructor
  · rintro ⟨h1, h2, h3⟩; rw [e] at h2; exact h2
  · intro h
    refine ⟨by simp, by rw [e]; exact h, ?_⟩
    rw [List.drop_of_length_le (by simp)]; rfl
theorem tGet_snoc (L : List Bt) (b : Bt) (m : Int) : tGet (tApps ([], 0) (L ++ [b])).1 m = if m = b.prod then own1 (tGet (tApps ([], 0) L).1 m) b else tGet (tApps ([], 0) L).1 m := by
  rw [tApps_snoc, tGet_tApp]
def opL (L : List Bt) (m : Int) : Int := opOf (tGet (tApps ([], 0) L).1 m)
theorem own1_op {o : Option Pr} {b : Bt} (hr : rightV b = 0) (hp : b.prod ≠ -1) : opOf (own1 o b) = if b.mark ≠ 0 then -1 else if b.txn = true ∧ opOf o < 0 then b.base else opOf o := by
  have key : ∀ (l0 : List Tri) (op0 : Int), (behV l0 op0 b).op = if b.mark ≠ 0 then -1 else if b.txn = true ∧ op0 < 0 then b.base else op0 := by
    intro l0 op0
    unfold behV
    by_cases hm : b.mark = 0
    · rw [if_neg (c := (b.mark != 0) = true) (by simpa using hm), if_neg (c := b.mark ≠ 0) (by simpa using hm)]
      show (if (b.txn && decide (op0 < 0)) = true then b.base else op0) = _
      by_cases h : b.txn = true ∧ op0 < 0
      · rw [if_pos h, if_pos (by simp [h])]
      · rw [if_neg h, if_neg (by simpa using h)]
    · rw [if_pos (by simpa using hm), if_pos (by simpa using hm)]
  unfold own1
  rw [if_neg (by rw [hr]; simpa using hp)]
  have e : (if o.isSome = true then (o.getD pr0).op else -1) = opOf o := by cases o <;> rfl
  show (behV _ (if o.isSome = true then (o.getD pr0).op else -1) b).op = _
  rw [key, e]
theorem opL_snoc {L : List Bt} {b : Bt} (hr : rightV b = 0) (m : Int) (hm : m ≠ -1) : opL (L ++ [b]) m = if m = b.prod then (if b.mark ≠ 0 then -1 else if b.txn = true ∧ opL L m < 0 then b.base else opL L m) else opL L m := by
  unfold opL
  rw [tGet_snoc]
  by_cases h : m = b.prod
  · rw [if_pos h, if_pos h, own1_op hr (by rw [← h]; exact hm)]
  · rw [if_neg h, if_neg h]
theorem snocI {p : List Bt → Prop} (h0 : p []) (h1 : ∀ L b, p L → p (L ++ [b])) : ∀ L, p L := by
  intro L
  rw [← List.reverse_reverse L]
  induction L.reverse with
  | nil => exact h0
  | cons b r ih => rw [List.reverse_cons]; exact h1 _ _ ih
theorem RowM.init {L : List Bt} {b : Bt} (h : RowM (L ++ [b])) : RowM L := by
  refine ⟨fun c hc => h.right c (by simp [hc]), fun i j hi hj hij => ?_, fun c hc => h.pos c (by simp [hc]), fun c hc => h.txn c (by simp [hc])⟩
  have := h.mono i j (by simp; omega) (by simp; omega) hij
  rwa [List.getElem_append_left hi, List.getElem_append_left hj] at this
theorem liveB_iff (b : Bt) : liveB b = true ↔ b.txn = true ∧ b.mark = 0 := by unfold liveB; simp
theorem endsB_no (b c : Bt) : endsB b c = false ↔ (c.mark = 0 ∨ c.prod ≠ b.prod) := by
  unfold endsB
  by_cases h1 : c.mark = 0 <;> by_cases h2 : c.prod = b.prod <;> simp [h1, h2]
/-- An open offset is the base of a live batch of its producer. -/
theorem op_live : ∀ L : List Bt, RowM L → ∀ m, m ≠ -1 → 0 ≤ opL L m → ∃ j, ∃ hj : j < L.length, Live L j ∧ L[j].prod = m ∧ L[j].base = opL L m := by
  refine snocI ?_ fun L b ih => ?_
  · intro _ m _ h; exact absurd (show (0 : Int) ≤ -1 from h) (by decide)
  · intro hr m hm h
    have hrb := hr.right b (by simp)
    rw [opL_snoc hrb m hm] at h ⊢
    have ho := ih hr.init m hm
    have new : m = b.prod → liveB b = true → ∃ j, ∃ hj : j < (L ++ [b]).length, Live (L ++ [b]) j ∧ (L ++ [b])[j].prod = m ∧ (L ++ [b])[j].base = b.base := fun e hl =>
      ⟨L.length, by simp, live_snoc_new.2 hl, by simp [e], by simp⟩
    have old : (b.mark = 0 ∨ m ≠ b.prod) → 0 ≤ opL L m → ∃ j, ∃ hj : j < (L ++ [b]).length, Live (L ++ [b]) j ∧ (L ++ [b])[j].prod = m ∧ (L ++ [b])[j].base = opL L m := fun e h0 => by
      obtain ⟨j, hj, h1, h2, h3⟩ := ho h0
      refine ⟨j, by simp; omega, (live_snoc_old hj).2 ⟨h1, (endsB_no _ _).2 (e.imp id fun q => ?_)⟩, ?_, ?_⟩
      · rw [h2]; exact fun q2 => q q2.symm
      · rw [List.getElem_append_left hj]; exact h2
      · rw [List.getElem_append_left hj]; exact h3
    by_cases e : m = b.prod
    · rw [if_pos e] at h ⊢
      by_cases hmk : b.mark = 0
      · rw [if_neg (by simpa using hmk)] at h ⊢
        by_cases ht : b.txn = true ∧ opL L m < 0
        · rw [if_pos ht] at h ⊢
          exact new e ((liveB_iff b).2 ⟨ht.1, hmk⟩)
        · rw [if_neg ht] at h ⊢
          exact old (.inl hmk) h
      · rw [if_pos hmk] at h; exact absurd h (by decide)
    · rw [if_neg e] at h ⊢
      exact old (.inr e) h
theorem plain_ok {b : Bt} (h : rightV b = 0) : plainV b = 0 := by
  unfold rightV at h
  by_cases hp : (plainV b != 0) = true
  · rw [if_pos hp] at h; exact h
  · simpa using hp
theorem right_base {b : Bt} (h : rightV b = 0) : 0 ≤ b.base ∧ b.base ≤ 1099511627776 := by
  have h := plain_ok h
  unfold plainV at h
  by_cases hb : (decide (b.base < 0) || decide (b.base > 1099511627776)) = true
  · rw [if_pos hb] at h; exact absurd h (by decide)
  · simp at hb; omega
theorem right_live {b : Bt} (h : rightV b = 0) (hl : liveB b = true) : b.prod ≠ -1 := by
  obtain ⟨ht, hm⟩ := (liveB_iff b).1 hl
  have hb := right_base h
  have h := plain_ok h
  unfold plainV at h
  rw [if_neg (by simp; omega), if_neg (by simpa using hm)] at h
  intro hp
  have hn : noneV b = false := by unfold noneV; simp [ht]
  have hh : headV b = false := by unfold headV; simp [hp]
  rw [hn, hh] at h
  simp at h
theorem cnt_in {b : Bt} (h : tinyR b.recs) : 0 ≤ cntV b ∧ cntV b ≤ 4 := by
  unfold cntV
  have := h.1
  split <;> omega
theorem endW_snoc (st : Int) (L : List Bt) (b : Bt) : endW st (L ++ [b]) = endB b := by unfold endW; simp
theorem RowOk.m {L : List Bt} (h : RowOk 0 L) : RowM L := by
  have hr := h.right
  refine ⟨hr, ?_, fun b hb => (right_base (hr b hb)).1, fun b hb hl => right_live (hr b hb) hl⟩
  have key : (∀ i (hi : i < L.length), L[i].base ≤ endW 0 L) ∧ (∀ i j (hi : i < L.length) (hj : j < L.length), i ≤ j → L[i].base ≤ L[j].base) := by
    clear hr
    induction h with
    | nil => exact ⟨fun i hi => absurd hi (by simp), fun i j hi => absurd hi (by simp)⟩
    | snoc L b h h1 h2 h3 h4 h5 ih =>
      have hrb : rightV b = 0 := (RowOk.snoc L b h h1 h2 h3 h4 h5).right b (by simp)
      have hbb := right_base hrb
      have hc := cnt_in h4
      have he : endB b = b.base + cntV b := by unfold endB; rw [wrap_i64] <;> omega
      have hi1 : ∀ i (hi : i < (L ++ [b]).length), (L ++ [b])[i].base ≤ b.base := fun i hi => by
        by_cases hil : i < L.length
        · rw [List.getElem_append_left hil, h1]; exact ih.1 i hil
        · have : i = L.length := by simp at hi; omega
          subst this; simp
      refine ⟨fun i hi => ?_, fun i j hi hj hij => ?_⟩
      · rw [endW_snoc, he]
        have := hi1 i hi
        omega
      · by_cases hjl : j < L.length
        · rw [List.getElem_append_left hjl, List.getElem_append_left (by omega)]
          exact ih.2 i j (by omega) hjl hij
        · have : j = L.length := by simp at hj; omega
          subst this
          have e : (L ++ [b])[L.length]'(by simp) = b := by simp
          rw [e]; exact hi1 i hi
  exact key.2
end Go.Proofs.YtjhgmaephpadpaaGreat.AW

open Go Go.Proofs.YtjhgmaephpadpaaGreat.AW Go.Proofs
namespace Go.Proofs.YtjhgmaephpadpaaGreat.AW
set_option linter.unusedSimpArgs false
set_option linter.unusedVariables false

/-! ### The code's table and the document's: the same -/
theorem dGet_nil (n : Int) : dGet [] n = none := rfl
theorem dGet_cons (p : Pr) (r : List Pr) (n : Int) : dGet (p :: r) n = if p.id < n then dGet r n else if p.id = n then some p else none := by
  unfold dGet
  by_cases h : p.id < n
  · have e : dAt (p :: r) n = dAt r n + 1 := by simp only [dAt, if_pos h]
    rw [e, if_pos h, List.getElem?_cons_succ]
  · have e : dAt (p :: r) n = 0 := by simp only [dAt, if_neg h]
    rw [e, if_neg h, List.getElem?_cons_zero]
    by_cases h2 : p.id = n <;> simp [h2]
theorem dPut_nil (b : Bt) : dPut [] b = [applyV pr0 false b] := rfl
theorem dPut_cons (p : Pr) (r : List Pr) (b : Bt) : dPut (p :: r) b = if p.id < b.prod then p :: dPut r b else if p.id = b.prod then applyV p true b :: r else applyV pr0 false b :: p :: r := by
  unfold dPut
  rw [dGet_cons]
  by_cases h : p.id < b.prod
  · have e : dAt (p :: r) b.prod = dAt r b.prod + 1 := by simp only [dAt, if_pos h]
    rw [e, if_pos h, if_pos h]
    cases dGet r b.prod with
    | none => simp only [List.take_succ_cons, List.drop_succ_cons, List.cons_append]
    | some q => simp only [List.set_cons_succ]
  · have e : dAt (p :: r) b.prod = 0 := by simp only [dAt, if_neg h]
    rw [e, if_neg h, if_neg h]
    by_cases h2 : p.id = b.prod
    · rw [if_pos h2, if_pos h2]; rfl
    · rw [if_neg h2, if_neg h2]; rfl
def putP (o : Option Pr) (b : Bt) : Pr := applyV (o.getD pr0) o.isSome b
theorem dGet_dPut (b : Bt) (m : Int) : ∀ L : List Pr, dGet (dPut L b) m = if m = b.prod then some (putP (dGet L b.prod) b) else dGet L m
  | [] => by
    rw [dPut_nil, dGet_cons, applyV_id, dGet_nil, dGet_nil]
    by_cases h : m = b.prod
    · subst h; rw [if_neg (Int.lt_irrefl _), if_pos rfl, if_pos rfl]; rfl
    · rw [if_neg h]; split
      · rfl
      · rw [if_neg fun e => h e.symm]
  | p :: r => by
    rw [dPut_cons]
    by_cases h1 : p.id < b.prod
    · rw [if_pos h1, dGet_cons, dGet_dPut b m r, dGet_cons, dGet_cons, if_pos h1]
      by_cases h : m = b.prod
      · subst h; rw [if_pos h1, if_pos rfl, if_pos rfl]
      · rw [if_neg h, if_neg h]
    · rw [if_neg h1]
      by_cases h2 : p.id = b.prod
      · rw [if_pos h2, dGet_cons, applyV_id, dGet_cons, dGet_cons, if_neg h1, if_pos h2]
        by_cases h : m = b.prod
        · subst h; rw [if_neg (Int.lt_irrefl _), if_pos rfl, if_pos rfl]; rfl
        · rw [if_neg h, h2]
          split
          · rfl
          · rw [if_neg fun e => h e.symm, if_neg fun e => h e.symm]
      · rw [if_neg h2, dGet_cons, applyV_id, dGet_cons p r b.prod, if_neg h1, if_neg h2]
        by_cases h : m = b.prod
        · subst h; rw [if_neg (Int.lt_irrefl _), if_pos rfl, if_pos rfl]; rfl
        · rw [if_neg h]
          by_cases h3 : b.prod < m
          · rw [if_pos h3]
          · rw [if_neg h3, if_neg fun e => h e.symm, dGet_cons, if_neg (by omega), if_neg (by omega)]
def SortedP (L : List Pr) : Prop := L.Pairwise fun a c => a.id < c.id
theorem dPut_mem {b : Bt} {x : Pr} : ∀ {L : List Pr}, x ∈ dPut L b → x.id = b.prod ∨ x ∈ L
  | [], h => by rw [dPut_nil, List.mem_singleton] at h; rw [h]; exact .inl (applyV_id ..)
  | p :: r, h => by
    rw [dPut_cons] at h
    split at h
    · rcases List.mem_cons.1 h with h | h
      · exact .inr (by rw [h]; exact List.mem_cons_self ..)
      · exact (dPut_mem h).imp id fun q => List.mem_cons_of_mem _ q
    · split at h
      · rcases List.mem_cons.1 h with h | h
        · rw [h]; exact .inl (applyV_id ..)
        · exact .inr (List.mem_cons_of_mem _ h)
      · rcases List.mem_cons.1 h with h | h
        · rw [h]; exact .inl (applyV_id ..)
        · exact .inr h
theorem SortedP.put (b : Bt) : ∀ {L : List Pr}, SortedP L → SortedP (dPut L b)
  | [], _ => by rw [dPut_nil]; exact List.pairwise_singleton ..
  | p :: r, h => by
    obtain ⟨h1, h2⟩ := List.pairwise_cons.1 h
    rw [dPut_cons]
    split
    · rename_i hlt
      refine List.pairwise_cons.2 ⟨fun x hx => ?_, SortedP.put b h2⟩
      rcases dPut_mem hx with q | q
      · rw [q]; exact hlt
      · exact h1 x q
    · rename_i hge
      split
      · rename_i he
        refine List.pairwise_cons.2 ⟨fun x hx => ?_, h2⟩
        rw [applyV_id, ← he]; exact h1 x hx
      · rename_i hne
        refine List.pairwise_cons.2 ⟨fun x hx => ?_, h⟩
        rw [applyV_id]
        rcases List.mem_cons.1 hx with q | q
        · rw [q]; omega
        · have := h1 x q; omega
theorem dGet_mem {L : List Pr} (h : SortedP L) (p : Pr) : dGet L p.id = some p ↔ p ∈ L := by
  induction L with
  | nil => simp [dGet_nil]
  | cons q r ih =>
    obtain ⟨h1, h2⟩ := List.pairwise_cons.1 h
    rw [dGet_cons, List.mem_cons]
    by_cases hlt : q.id < p.id
    · rw [if_pos hlt, ih h2]
      exact ⟨.inr, fun k => k.resolve_left fun e => by rw [e] at hlt; omega⟩
    · rw [if_neg hlt]
      by_cases he : q.id = p.id
      · rw [if_pos he]
        constructor
        · intro e; cases e; exact .inl rfl
        · rintro (e | e)
          · rw [e]
          · have := h1 p e; omega
      · rw [if_neg he]
        constructor
        · intro e; cases e
        · rintro (e | e)
          · exact absurd (by rw [e]) he
          · have := h1 p e; omega
theorem sorted_eq : ∀ {L M : List Pr}, SortedP L → SortedP M → (∀ p, p ∈ L ↔ p ∈ M) → L = M
  | [], [], _, _, _ => rfl
  | [], q :: t, _, _, h => absurd ((h q).2 (List.mem_cons_self ..)) (by simp)
  | p :: r, [], _, _, h => absurd ((h p).1 (List.mem_cons_self ..)) (by simp)
  | p :: r, q :: t, hL, hM, h => by
    obtain ⟨h1, h2⟩ := List.pairwise_cons.1 hL
    obtain ⟨h3, h4⟩ := List.pairwise_cons.1 hM
    have e : p = q := by
      rcases List.mem_cons.1 ((h p).1 (List.mem_cons_self ..)) with e | e
      · exact e
      · rcases List.mem_cons.1 ((h q).2 (List.mem_cons_self ..)) with e2 | e2
        · exact e2.symm
        · have := h3 p e; have := h1 q e2; omega
    subst e
    congr 1
    refine sorted_eq h2 h4 fun x => ⟨fun hx => ?_, fun hx => ?_⟩
    · rcases List.mem_cons.1 ((h x).1 (List.mem_cons_of_mem _ hx)) with e | e
      · have := h1 x hx; rw [e] at this; omega
      · exact e
    · rcases List.mem_cons.1 ((h x).2 (List.mem_cons_of_mem _ hx)) with e | e
      · have := h3 x hx; rw [e] at this; omega
      · exact e
/-- The two tables tell the same. -/
structure TRel (es : List TE) (L : List Pr) : Prop where
  get : ∀ n, tGet es n = dGet L n
  sorted : SortedP L
theorem TRel.nil : TRel [] [] := ⟨fun n => rfl, .nil⟩
theorem TRel.app {es : List TE} {L : List Pr} (h : TRel es L) (cl : Nat) (b : Bt) : TRel (tApp es cl b).1 (dApp L b) := by
  unfold tApp dApp
  split
  · exact h
  · refine ⟨fun n => ?_, h.sorted.put b⟩
    rw [tGet_tPut, dGet_dPut, ← h.get b.prod, ← h.get n]; rfl
theorem tGet_of {es : List TE} (hk : (es.map (·.2.1)).Nodup) {q : TE} (hq : q ∈ es) : tGet es q.2.1 = some q.2.2 := by
  induction es with
  | nil => cases hq
  | cons x t ih =>
    rw [List.map_cons, List.nodup_cons] at hk
    obtain ⟨s, k, p⟩ := x
    rcases List.mem_cons.1 hq with rfl | hq
    · unfold tGet; rw [if_pos rfl]
    · unfold tGet
      rw [if_neg (fun e => hk.1 (List.mem_map.2 ⟨q, hq, e⟩))]
      exact ih hk.2 hq
/-- All, by id: the document's list. -/
theorem TRel.all {es : List TE} {cl : Nat} {L : List Pr} (h : TRel es L) (hi : TInv es cl) {ps : List Pr} (hp : ps.Perm (es.map fun q => q.2.2)) (hs : ps.Pairwise (fun a c => ¬ c.id < a.id)) : ps = L := by
  have hid : ps.map (·.id) |>.Nodup := by
    have e : (es.map fun q => q.2.2).map (·.id) = es.map (·.2.1) := by
      rw [List.map_map]
      exact List.map_congr_left fun q hq => hi.self q hq
    exact (hp.map (·.id)).nodup_iff.2 (by rw [e]; exact hi.keys)
  have hss : SortedP ps := by
    clear hp
    induction ps with
    | nil => exact .nil
    | cons a r ih =>
      obtain ⟨h1, h2⟩ := List.pairwise_cons.1 hs
      rw [List.map_cons, List.nodup_cons] at hid
      refine List.pairwise_cons.2 ⟨fun x hx => ?_, ih h2 hid.2⟩
      have h3 := h1 x hx
      have h4 : a.id ≠ x.id := fun e => hid.1 (by rw [e]; exact List.mem_map_of_mem hx)
      omega
  refine sorted_eq hss h.sorted fun p => ?_
  rw [← dGet_mem h.sorted p, ← h.get, hp.mem_iff]
  constructor
  · intro hm
    obtain ⟨q, hq, rfl⟩ := List.mem_map.1 hm
    have := tGet_of hi.keys hq
    rw [hi.self q hq]; exact this
  · intro hg
    obtain ⟨t, ht⟩ := tGet_mem hg
    exact List.mem_map.2 ⟨_, ht, rfl⟩
/-- Open, of both. -/
theorem TRel.open {es : List TE} {cl : Nat} {L : List Pr} (h : TRel es L) (hi : TInv es cl) {r t : Int × Bool} (hr : IsLeast (es.map fun q => q.2.2.op) r) (ht : IsLeast (L.map Pr.op) t) : r = t := by
  refine hr.eq ?_
  have hm : ∀ x, x ∈ L.map Pr.op ↔ x ∈ es.map fun q => q.2.2.op := fun x => by
    constructor
    · intro hx
      obtain ⟨p, hp, rfl⟩ := List.mem_map.1 hx
      have := (dGet_mem h.sorted p).2 hp
      rw [← h.get] at this
      obtain ⟨t, ht⟩ := tGet_mem this
      exact List.mem_map.2 ⟨_, ht, rfl⟩
    · intro hx
      obtain ⟨q, hq, rfl⟩ := List.mem_map.1 hx
      have h1 := tGet_of hi.keys hq
      rw [h.get, ← hi.self q hq] at h1
      exact List.mem_map.2 ⟨_, (dGet_mem h.sorted _).1 h1, rfl⟩
  rcases ht with ⟨h1, h2, h3⟩ | ⟨h1, h2, h3, h4⟩
  · exact .inl ⟨h1, h2, fun x hx => h3 x ((hm x).2 hx)⟩
  · exact .inr ⟨h1, h2, (hm _).1 h3, fun x hx => h4 x ((hm x).2 hx)⟩
end Go.Proofs.YtjhgmaephpadpaaGreat.AW

open Go Go.Proofs.YtjhgmaephpadpaaGreat.AW Go.Proofs
namespace Go.Proofs.YtjhgmaephpadpaaGreat.AW
set_option linter.unusedSimpArgs false
set_option linter.unusedVariables false

/-! ### Rows whose batches lie one behind the other -/
theorem right_cnt {b : Bt} (h : rightV b = 0) : 1 ≤ cntV b ∧ cntV b ≤ 16 := by
  have hb := right_base h
  have h := plain_ok h
  unfold plainV at h
  rw [if_neg (by simp; omega)] at h
  unfold cntV
  by_cases hm : (b.mark != 0) = true
  · rw [if_pos hm]; decide
  · rw [if_neg hm] at h ⊢
    have hl := b.rl_eq
    split at h
    · cases h
    · rename_i h1
      simp only [Bool.or_eq_true, not_or, beq_iff_eq] at h1
      split at h
      · cases h
      · rename_i h2
        simp at h2
        have h3 := h1.2
        rw [hl] at h2 h3
        omega
theorem right_small {b : Bt} (h : rightV b = 0) : b.recs.length ≤ 16 ∧ ∀ q, q ∈ b.recs → q.1.length ≤ 64 ∧ q.2.length ≤ 64 := by
  have hb := right_base h
  have h := plain_ok h
  unfold plainV at h
  rw [if_neg (by simp; omega)] at h
  have hl := b.rl_eq
  by_cases hm : (b.mark != 0) = true
  · rw [if_pos hm] at h
    split at h
    · cases h
    · rename_i h1
      simp only [Bool.or_eq_true, not_or, decide_eq_true_eq] at h1
      have := h1.2.2.2.2
      have h0 : b.recs = [] := List.length_eq_zero_iff.1 (by omega)
      rw [h0]; exact ⟨Nat.zero_le _, fun q hq => by cases hq⟩
  · rw [if_neg hm] at h
    split at h
    · cases h
    · split at h
      · cases h
      · rename_i h2
        simp at h2
        split at h
        · cases h
        · rename_i h3
          refine ⟨by omega, fun q hq => ?_⟩
          have := fun hq2 => h3 (List.any_eq_true.2 ⟨q, hq, hq2⟩)
          unfold longR at this
          simp at this
          omega
theorem right_markP {b : Bt} (h : rightV b = 0) (hm : b.mark ≠ 0) : 0 ≤ b.prod ∧ b.recs = [] ∧ b.txn = true := by
  have hb := right_base h
  have h := plain_ok h
  unfold plainV at h
  rw [if_neg (by simp; omega), if_pos (by simpa using hm)] at h
  split at h
  · cases h
  · rename_i h1
    simp only [Bool.or_eq_true, not_or, decide_eq_true_eq] at h1
    have h2 := h1.2.1
    have h3 := h1.2.2.2.2
    have h4 := h1.2.2.2.1
    rw [b.rl_eq] at h3
    refine ⟨?_, List.length_eq_zero_iff.1 (by omega), by simpa using h4⟩
    unfold headV at h2
    simp at h2
    omega
theorem right_end {b : Bt} (h : rightV b = 0) : endB b = b.base + cntV b := by
  have := right_base h; have := right_cnt h
  unfold endB; rw [wrap_i64] <;> omega

/-- Right ones, each where the one ahead of it ends. -/
inductive RowC (st : Int) : List Bt → Prop
  | nil : RowC st []
  | snoc (L : List Bt) (b : Bt) (h : RowC st L) (h1 : b.base = endW st L) (h2 : rightV b = 0) (h3 : endB b ≤ 1099511627776) : RowC st (L ++ [b])
theorem RowC.inv {st : Int} {L : List Bt} {b : Bt} (h : RowC st (L ++ [b])) : RowC st L ∧ b.base = endW st L ∧ rightV b = 0 ∧ endB b ≤ 1099511627776 := by
  generalize hM : L ++ [b] = M at h
  cases h with
  | nil => simp at hM
  | snoc L' b' h h1 h2 h3 =>
    obtain ⟨e1, e2⟩ := List.append_inj' hM rfl
    cases e2; subst e1; exact ⟨h, h1, h2, h3⟩
theorem RowC.right {st : Int} {L : List Bt} (h : RowC st L) : ∀ b, b ∈ L → rightV b = 0 := by
  induction h with
  | nil => intro b hb; cases hb
  | snoc L b h h1 h2 h3 ih =>
    intro c hc
    rcases List.mem_append.1 hc with hc | hc
    · exact ih c hc
    · rw [List.mem_singleton.1 hc]; exact h2
theorem RowC.le {st : Int} {L : List Bt} (h : RowC st L) : ∀ b, b ∈ L → st ≤ b.base ∧ b.base < endW st L := by
  induction h with
  | nil => intro b hb; cases hb
  | snoc L b h h1 h2 h3 ih =>
    have hc := right_cnt h2
    have he := right_end h2
    have hst : st ≤ endW st L := by
      cases hL : L.getLast? with
      | none => unfold endW; rw [hL]; exact Int.le_refl _
      | some x =>
        have := ih x (List.mem_of_getLast? hL)
        omega
    rw [endW_snoc]
    intro c hc2
    rcases List.mem_append.1 hc2 with hc2 | hc2
    · have := ih c hc2; omega
    · rw [List.mem_singleton.1 hc2]; omega
theorem RowC.st_le {st : Int} {L : List Bt} (h : RowC st L) : st ≤ endW st L := by
  cases hL : L.getLast? with
  | none => unfold endW; rw [hL]; exact Int.le_refl _
  | some x =>
    have := h.le x (List.mem_of_getLast? hL)
    omega
theorem RowC.strict {st : Int} {L : List Bt} (h : RowC st L) : L.Pairwise fun a b => a.base < b.base := by
  induction h with
  | nil => exact .nil
  | snoc L b h h1 h2 h3 ih =>
    refine List.pairwise_append.2 ⟨ih, List.pairwise_singleton _ _, fun a ha c hc => ?_⟩
    rw [List.mem_singleton.1 hc, h1]
    exact (h.le a ha).2
theorem RowC.end_le {st : Int} {L : List Bt} (h : RowC st L) (hne : L ≠ []) : endW st L ≤ 1099511627776 := by
  cases h with
  | nil => exact absurd rfl hne
  | snoc L b h h1 h2 h3 => rw [endW_snoc]; exact h3
theorem RowOk.c {st : Int} {L : List Bt} (h : RowOk st L) : RowC st L := by
  have hr := h.right
  induction h with
  | nil => exact .nil
  | snoc L b h h1 h2 h3 h4 h5 ih =>
    have hb : rightV b = 0 := hr b (by simp)
    refine .snoc L b (ih fun c hc => hr c (by simp [hc])) h1 hb ?_
    unfold endB; rw [h1]; exact h5

/-! ### What was dropped -/
theorem RowC.m {st : Int} {L : List Bt} (h : RowC st L) : RowM L := by
  refine ⟨h.right, fun i j hi hj hij => ?_, fun b hb => (right_base (h.right b hb)).1, fun b hb hl => right_live (h.right b hb) hl⟩
  rcases Nat.lt_or_eq_of_le hij with hlt | rfl
  · exact Int.le_of_lt (List.pairwise_iff_getElem.1 h.strict i j hi hj hlt)
  · exact Int.le_refl _
theorem TRel.row : ∀ L : List Bt, TRel (tApps ([], 0) L).1 (dFold L).1 :=
  snocI TRel.nil fun L b ih => by rw [tApps_snoc, dFold_snoc]; exact ih.app _ b
theorem opL_d (L : List Bt) (m : Int) : opOf (dGet (dFold L).1 m) = opL L m := by
  unfold opL; rw [(TRel.row L).1]
theorem drops_snoc {L : List Bt} {b : Bt} (hr : rightV b = 0) : (dFold (L ++ [b])).2 = (dFold L).2 ++ (if b.mark = 2 ∧ 0 ≤ opL L b.prod then [(b.prod, opL L b.prod, b.base)] else []) := by
  rw [dFold_snoc, ← opL_d]
  show (if (tDrop (dGet (dFold L).1 b.prod) b).2 = true then (dFold L).2 ++ [(tDrop (dGet (dFold L).1 b.prod) b).1] else (dFold L).2) = _
  unfold tDrop
  by_cases hm : b.mark = 2
  · have hp := (right_markP hr (by rw [hm]; decide)).1
    have hp1 : (b.prod == -1) = false := by simp; omega
    rw [hp1, hr]
    have e2 : (b.mark != 2) = false := by rw [hm]; rfl
    rw [e2]
    cases ho : dGet (dFold L).1 b.prod with
    | none =>
      rw [if_neg (c := b.mark = 2 ∧ 0 ≤ opOf none) (fun q => absurd q.2 (by decide)), List.append_nil]; rfl
    | some p =>
      by_cases h0 : 0 ≤ p.op
      · rw [if_pos (c := b.mark = 2 ∧ 0 ≤ opOf (some p)) ⟨hm, h0⟩]
        have : decide (p.op < 0) = false := by simp; omega
        simp [this, opOf]
      · rw [if_neg (c := b.mark = 2 ∧ 0 ≤ opOf (some p)) (fun q => h0 q.2), List.append_nil]
        have : decide (p.op < 0) = true := by simp; omega
        simp [this]
  · rw [if_neg (c := b.mark = 2 ∧ _) (fun q => hm q.1), List.append_nil]
    have e2 : (b.mark != 2) = true := by simpa using hm
    rw [e2]
    split
    · rfl
    · split
      · rfl
      · rename_i h; exact absurd rfl h
structure DInv (L : List Bt) : Prop where
  d1 : ∀ d, d ∈ (dFold L).2 → 0 ≤ d.1 ∧ 0 ≤ d.2.1 ∧ d.2.1 < d.2.2 ∧ ∃ c, c ∈ L ∧ c.base = d.2.2
  d2 : (dFold L).2.Pairwise fun a b => a.2.2 < b.2.2
  d3 : (dFold L).2.Pairwise fun a b => a.1 = b.1 → a.2.2 < b.2.1
  d4 : ∀ d, d ∈ (dFold L).2 → 0 ≤ opL L d.1 → d.2.2 < opL L d.1
theorem DInv.mk' {st : Int} {L : List Bt} (h : RowC st L) : DInv L := by
  induction h with
  | nil => exact ⟨fun d hd => (by cases hd), .nil, .nil, fun d hd => (by cases hd)⟩
  | snoc L b h h1 h2 h3 ih =>
    have hd := drops_snoc (L := L) h2
    have hlt : ∀ c, c ∈ L → c.base < b.base := fun c hc => by rw [h1]; exact (h.le c hc).2
    have hbb := right_base h2
    by_cases hc : b.mark = 2 ∧ 0 ≤ opL L b.prod
    · rw [if_pos hc] at hd
      have hp := (right_markP h2 (by rw [hc.1]; decide)).1
      obtain ⟨j, hj, _, _, hjb⟩ := op_live L h.m b.prod (by omega) hc.2
      have hob := hlt L[j] (List.getElem_mem hj)
      rw [hjb] at hob
      refine ⟨fun d hm => ?_, ?_, ?_, fun d hm h0 => ?_⟩
      · rw [hd] at hm
        rcases List.mem_append.1 hm with hm | hm
        · obtain ⟨a1, a2, a3, c, a4, a5⟩ := ih.d1 d hm
          exact ⟨a1, a2, a3, c, by simp [a4], a5⟩
        · rw [List.mem_singleton.1 hm]
          exact ⟨hp, hc.2, hob, b, by simp, rfl⟩
      · rw [hd]
        refine List.pairwise_append.2 ⟨ih.d2, List.pairwise_singleton _ _, fun a ha c hc2 => ?_⟩
        rw [List.mem_singleton.1 hc2]
        obtain ⟨_, _, _, c, a4, a5⟩ := ih.d1 a ha
        show a.2.2 < b.base
        rw [← a5]; exact hlt c a4
      · rw [hd]
        refine List.pairwise_append.2 ⟨ih.d3, List.pairwise_singleton _ _, fun a ha c hc2 => ?_⟩
        rw [List.mem_singleton.1 hc2]
        intro (e : a.1 = b.prod)
        have := ih.d4 a ha (by rw [e]; exact hc.2)
        rw [e] at this
        exact this
      · rw [hd] at hm
        have hdp : 0 ≤ d.1 := by
          rcases List.mem_append.1 hm with hm | hm
          · exact (ih.d1 d hm).1
          · rw [List.mem_singleton.1 hm]; exact hp
        rw [opL_snoc h2 d.1 (by omega)] at h0 ⊢
        by_cases e : d.1 = b.prod
        · rw [if_pos e, if_pos (by rw [hc.1]; decide)] at h0; exact absurd h0 (by decide)
        · rw [if_neg e] at h0 ⊢
          rcases List.mem_append.1 hm with hm | hm
          · exact ih.d4 d hm h0
          · rw [List.mem_singleton.1 hm] at e; exact absurd rfl e
    · rw [if_neg hc, List.append_nil] at hd
      refine ⟨fun d hm => ?_, by rw [hd]; exact ih.d2, by rw [hd]; exact ih.d3, fun d hm h0 => ?_⟩
      · rw [hd] at hm
        obtain ⟨a1, a2, a3, c, a4, a5⟩ := ih.d1 d hm
        exact ⟨a1, a2, a3, c, by simp [a4], a5⟩
      · rw [hd] at hm
        have hdp := (ih.d1 d hm).1
        rw [opL_snoc h2 d.1 (by omega)] at h0 ⊢
        by_cases e : d.1 = b.prod
        · rw [if_pos e] at h0 ⊢
          by_cases hm2 : b.mark ≠ 0
          · rw [if_pos hm2] at h0; exact absurd h0 (by decide)
          · rw [if_neg hm2] at h0 ⊢
            by_cases ht : b.txn = true ∧ opL L d.1 < 0
            · rw [if_pos ht]
              obtain ⟨_, _, _, c, a4, a5⟩ := ih.d1 d hm
              rw [← a5]; exact hlt c a4
            · rw [if_neg ht] at h0 ⊢; exact ih.d4 d hm h0
        · rw [if_neg e] at h0 ⊢; exact ih.d4 d hm h0

/-! ### The records of a row -/
structure Gt where
  off : Int
  prod : Int
  key : List UInt8
  val : List UInt8
  deriving DecidableEq
def Gt.pv (g : Gt) : PV := .agg [ii g.off, ii g.prod, .str g.key, .str g.val]
end Go.Proofs.YtjhgmaephpadpaaGreat.AW

open Go Go.Proofs.YtjhgmaephpadpaaGreat.AW Go.Proofs
namespace Go.Proofs.YtjhgmaephpadpaaGreat.AW
set_option linter.unusedSimpArgs false
set_option linter.unusedVariables false

/-! ### A batch that is asked twice -/
theorem end_in {st : Int} {L : List Bt} (h : RowC st L) (h0 : 0 ≤ st) (h1 : st ≤ 1099511627776) : 0 ≤ endW st L ∧ endW st L ≤ 1099511627776 := by
  refine ⟨Int.le_trans h0 h.st_le, ?_⟩
  by_cases hL : L = []
  · subst hL; exact h1
  · exact h.end_le hL
theorem dget_dapp {L : List Bt} {b : Bt} (hr : rightV b = 0) (hn : b.prod ≠ -1) : dGet (dFold (L ++ [b])).1 b.prod = some (putP (dGet (dFold L).1 b.prod) b) := by
  rw [dFold_snoc]
  show dGet (dApp (dFold L).1 b) b.prod = _
  unfold dApp
  rw [if_neg (by rw [hr]; simpa using hn), dGet_dPut, if_pos rfl]
/-- What is known of a producer is of batches of the row. -/
structure PIn (L : List Bt) (p : Pr) : Prop where
  id : 0 ≤ p.id
  pair : p.last.Pairwise fun x y => ¬ (x.1 = y.1 ∧ x.2.1 = y.2.1)
  of : ∀ x, x ∈ p.last → ∃ b, b ∈ L ∧ b.base = x.2.2 ∧ b.prod = p.id ∧ b.epoch = p.epoch ∧ b.mark = 0 ∧ x.1 = b.seq ∧ x.2.1 = lastV b.seq b.rl
theorem PIn.mono {L : List Bt} {p : Pr} (h : PIn L p) (M : List Bt) : PIn (L ++ M) p :=
  ⟨h.id, h.pair, fun x hx => by obtain ⟨b, hb, h⟩ := h.of x hx; exact ⟨b, List.mem_append_left _ hb, h⟩⟩
theorem sorted_fold (L : List Bt) : SortedP (dFold L).1 := (TRel.row L).sorted
theorem appL_sub {l : List Tri} {b : Bt} {x : Tri} (h : x ∈ appL l b) : x ∈ l ∨ x = (b.seq, lastV b.seq b.rl, b.base) := by
  unfold appL at h
  rcases List.mem_append.1 (List.mem_of_mem_drop h) with h | h
  · exact .inl h
  · exact .inr (List.mem_singleton.1 h)
end Go.Proofs.YtjhgmaephpadpaaGreat.AW

open Go Go.Proofs.YtjhgmaephpadpaaGreat.AW Go.Proofs
namespace Go.Proofs.YtjhgmaephpadpaaGreat.AW
set_option linter.unusedSimpArgs false
set_option linter.unusedVariables false

/-! ### What is stable; what a Keep leaves -/
def leastV : List Int → Int × Bool := fun l => l.foldl (fun q x => if 0 ≤ x ∧ (q.2 = false ∨ x ≤ q.1) then (x, true) else q) (-1, false)
theorem leastV_is (l : List Int) : IsLeast l (leastV l) := by
  have h : ∀ (m : List Int) (pre : List Int) (q : Int × Bool), IsLeast pre q → IsLeast (pre ++ m) (m.foldl (fun q x => if 0 ≤ x ∧ (q.2 = false ∨ x ≤ q.1) then (x, true) else q) q) := by
    intro m
    induction m with
    | nil => intro pre q h; rw [List.append_nil]; exact h
    | cons x r ih =>
      intro pre q h
      rw [List.foldl_cons, show pre ++ x :: r = (pre ++ [x]) ++ r by simp]
      refine ih _ _ ?_
      split
      · rename_i hx; exact h.take hx.1 hx.2
      · rename_i hx
        refine h.skip ?_
        by_cases h0 : x < 0
        · exact .inl h0
        · refine .inr ⟨?_, ?_⟩
          · cases hq : q.2 with
            | true => rfl
            | false => exact absurd ⟨by omega, .inl hq⟩ hx
          · by_cases hl : q.1 ≤ x
            · exact hl
            · exact absurd ⟨by omega, .inr (by omega)⟩ hx
  have := h l [] (-1, false) IsLeast.nil
  rwa [List.nil_append] at this
def stbW (st : Int) (L : List Bt) : Int := if (leastV ((dFold L).1.map Pr.op)).2 = true then (leastV ((dFold L).1.map Pr.op)).1 else endW st L
theorem op_base {st : Int} {L : List Bt} (h : RowC st L) : ∀ p, p ∈ (dFold L).1 → p.op < 0 ∨ ∃ b, b ∈ L ∧ b.base = p.op := by
  induction h with
  | nil => intro p hp; cases hp
  | snoc L b h h1 h2 h3 ih =>
    intro p hp
    have hp0 := hp
    have mono : (p.op < 0 ∨ ∃ c, c ∈ L ∧ c.base = p.op) → p.op < 0 ∨ ∃ c, c ∈ L ++ [b] ∧ c.base = p.op := fun q => q.imp id fun ⟨c, hc, e⟩ => ⟨c, List.mem_append_left _ hc, e⟩
    rw [dFold_snoc] at hp
    have hp : p ∈ dApp (dFold L).1 b := hp
    by_cases hn : b.prod = -1
    · unfold dApp at hp
      rw [if_pos (by rw [hn]; simp)] at hp
      exact mono (ih p hp)
    unfold dApp at hp
    rw [if_neg (by rw [h2]; simpa using hn)] at hp
    rcases dPut_mem hp with hid | hold
    rotate_left 1
    · exact mono (ih p hold)
    have hg := (dGet_mem (sorted_fold (L ++ [b])) p).2 hp0
    rw [hid, dget_dapp h2 hn] at hg
    have hp : p = putP (dGet (dFold L).1 b.prod) b := by cases hg; rfl
    have key : p.op = -1 ∨ p.op = b.base ∨ (∃ q, dGet (dFold L).1 b.prod = some q ∧ p.op = q.op) := by
      have k0 := own1_op (o := dGet (dFold L).1 b.prod) (b := b) h2 hn
      have k1 : own1 (dGet (dFold L).1 b.prod) b = some p := by
        unfold own1
        rw [if_neg (by rw [h2]; simpa using hn), hp]; rfl
      rw [k1] at k0
      have k0 : p.op = _ := k0
      rw [k0]
      split
      · exact .inl rfl
      · split
        · exact .inr (.inl rfl)
        · cases dGet (dFold L).1 b.prod with
          | none => exact .inl rfl
          | some q => exact .inr (.inr ⟨q, rfl, rfl⟩)
    rcases key with e | e | ⟨q, hq, e⟩
    · left; omega
    · right; exact ⟨b, by simp, e.symm⟩
    · rw [e]
      have hqi : q.id = b.prod := by
        unfold dGet at hq
        split at hq
        · split at hq
          · rename_i hh; cases hq; simpa using hh
          · cases hq
        · cases hq
      have := ih q ((dGet_mem (sorted_fold L) q).1 (by rw [hqi]; exact hq))
      rw [← e] at this ⊢
      exact mono this
theorem stb_ge {st : Int} {L : List Bt} (h : RowC st L) : st ≤ stbW st L := by
  unfold stbW
  split
  · rename_i hr
    rcases leastV_is ((dFold L).1.map Pr.op) with ⟨h1, _⟩ | ⟨_, h2, h3, _⟩
    · rw [hr] at h1; cases h1
    · obtain ⟨p, hp, e⟩ := List.mem_map.1 h3
      rcases op_base h p hp with hn | ⟨b, hb, e2⟩
      · omega
      · have := (h.le b hb).1; omega
  · exact h.st_le
/-- Where the batches of a row begin, and where it ends. -/
def bndW (st : Int) (L : List Bt) (k : Nat) : Int := match L[k]? with | some b => b.base | none => endW st L
theorem bnd_lt {st : Int} {L : List Bt} {k : Nat} (h : k < L.length) : bndW st L k = L[k].base := by unfold bndW; rw [List.getElem?_eq_getElem h]
theorem bnd_ge {st : Int} {L : List Bt} {k : Nat} (h : L.length ≤ k) : bndW st L k = endW st L := by unfold bndW; rw [List.getElem?_eq_none h]
theorem bnd_snoc {st : Int} {L : List Bt} {b : Bt} (hb : b.base = endW st L) {k : Nat} (h : k ≤ L.length) : bndW st (L ++ [b]) k = bndW st L k := by
  by_cases hk : k < L.length
  · rw [bnd_lt (by simp; omega), bnd_lt hk, List.getElem_append_left hk]
  · have : k = L.length := by omega
    subst this
    rw [bnd_lt (by simp), bnd_ge (Nat.le_refl _)]
    simpa using hb
theorem bnd_zero {st : Int} {L : List Bt} (h : RowC st L) : bndW st L 0 = st := by
  induction h with
  | nil => rfl
  | snoc L b h h1 h2 h3 ih => rw [bnd_snoc h1 (Nat.zero_le _), ih]
theorem bnd_mono {st : Int} {L : List Bt} (h : RowC st L) {i j : Nat} (hij : i < j) (hj : j ≤ L.length) : bndW st L i < bndW st L j := by
  by_cases hjl : j < L.length
  · rw [bnd_lt (by omega), bnd_lt hjl]
    exact List.pairwise_iff_getElem.1 h.strict i j (by omega) hjl hij
  · rw [bnd_lt (by omega), bnd_ge (by omega)]
    exact (h.le _ (List.getElem_mem _)).2
theorem RowC.drop {st : Int} {L : List Bt} (h : RowC st L) : ∀ k, k ≤ L.length → RowC (bndW st L k) (L.drop k) ∧ endW (bndW st L k) (L.drop k) = endW st L := by
  induction h with
  | nil => intro k hk; have : k = 0 := by simpa using hk
           subst this; exact ⟨.nil, rfl⟩
  | snoc L b h h1 h2 h3 ih =>
    intro k hk
    by_cases hkl : k ≤ L.length
    · obtain ⟨q1, q2⟩ := ih k hkl
      rw [bnd_snoc h1 hkl, List.drop_append_of_le_length hkl, endW_snoc, endW_snoc]
      exact ⟨.snoc _ b q1 (by rw [q2]; exact h1) h2 h3, rfl⟩
    · have : k = L.length + 1 := by simp at hk; omega
      subst this
      have hd : (L ++ [b]).drop (L.length + 1) = [] := List.drop_of_length_le (by simp)
      rw [hd, bnd_ge (by simp)]
      exact ⟨.nil, rfl⟩
def nxtF (top st : Int) (L : List Bt) : Int := L.foldl (fun o b => if b.base ≤ top then b.base else o) st
def nxtV (st : Int) (L : List Bt) (top : Int) : Int := if endW st L ≤ top then endW st L else nxtF top st L
theorem nxtF_snoc (top st : Int) (L : List Bt) (b : Bt) : nxtF top st (L ++ [b]) = if b.base ≤ top then b.base else nxtF top st L := by unfold nxtF; rw [List.foldl_append]; rfl
theorem nxtF_bnd {st : Int} {L : List Bt} (h : RowC st L) (top : Int) : ∃ k, k ≤ L.length ∧ nxtF top st L = bndW st L k ∧ (k = 0 ∨ nxtF top st L ≤ top) := by
  induction h with
  | nil => exact ⟨0, Nat.le_refl _, rfl, .inl rfl⟩
  | snoc L b h h1 h2 h3 ih =>
    rw [nxtF_snoc]
    split
    · rename_i ht
      exact ⟨L.length, by simp, by rw [bnd_lt (by simp)]; simp, .inr ht⟩
    · obtain ⟨k, k1, k2, k3⟩ := ih
      exact ⟨k, by simp; omega, by rw [bnd_snoc h1 k1]; exact k2, k3⟩
theorem nxt_bnd {st : Int} {L : List Bt} (h : RowC st L) (top : Int) : ∃ k, k ≤ L.length ∧ nxtV st L top = bndW st L k ∧ (k = 0 ∨ nxtV st L top ≤ top) := by
  unfold nxtV
  split
  · rename_i ht
    exact ⟨L.length, Nat.le_refl _, (bnd_ge (Nat.le_refl _)).symm, .inr ht⟩
  · exact nxtF_bnd h top
def kepL (n : Int) (L : List Bt) : List Bt := L.dropWhile fun b => decide (b.base < n)
theorem kep_bnd {st : Int} {L : List Bt} (h : RowC st L) {k : Nat} (hk : k ≤ L.length) : kepL (bndW st L k) L = L.drop k := by
  have key : ∀ (n : Nat) (M : List Bt), n ≤ M.length → (∀ i (hi : i < M.length), i < n → M[i].base < bndW st L k) → (∀ i (hi : i < M.length), n ≤ i → bndW st L k ≤ M[i].base) → M.dropWhile (fun b => decide (b.base < bndW st L k)) = M.drop n := by
    intro n
    induction n with
    | zero =>
      intro M _ _ h2
      cases M with
      | nil => rfl
      | cons x r =>
        have := h2 0 (by simp) (Nat.le_refl _)
        rw [List.dropWhile_cons, if_neg (by simp at this; simp; omega)]; rfl
    | succ n ih =>
      intro M hn h1 h2
      cases M with
      | nil => simp at hn
      | cons x r =>
        have := h1 0 (by simp) (by omega)
        rw [List.dropWhile_cons, if_pos (by simp at this; simp; omega)]
        exact ih r (by simpa using hn) (fun i hi hin => h1 (i + 1) (by simpa using hi) (by omega)) (fun i hi hin => h2 (i + 1) (by simpa using hi) (by omega))
  refine key k L hk (fun i hi hik => ?_) (fun i hi hik => ?_)
  · have := bnd_mono h hik hk
    rwa [bnd_lt hi] at this
  · by_cases e : k = i
    · subst e; rw [bnd_lt hi]; exact Int.le_refl _
    · have := bnd_mono h (i := k) (j := i) (by omega) (by omega)
      rw [bnd_lt hi] at this; omega
/-- The document's Keep comes to the same start. -/
def kpS (st : Int) (L : List Bt) (from_ : Int) : Int := nxtV st L (if stbW st L < from_ then stbW st L else from_)
theorem kp_law {st : Int} {L : List Bt} (h : RowC st L) (h0 : 0 ≤ st) (h1 : st ≤ 1099511627776) (f : Int) :
    ∃ k, k ≤ L.length ∧ kpS st L f = bndW st L k ∧ kepL (kpS st L f) L = L.drop k ∧ st ≤ kpS st L f ∧ (kpS st L f = st ∨ kpS st L f ≤ f) ∧ kpS st L f ≤ stbW st L ∧ kpS st L f ≤ 1099511627776 ∧ RowC (kpS st L f) (L.drop k) ∧ endW (kpS st L f) (L.drop k) = endW st L := by
  obtain ⟨k, k1, k2, k3⟩ := nxt_bnd h (if stbW st L < f then stbW st L else f)
  have k2' : kpS st L f = bndW st L k := k2
  obtain ⟨q1, q2⟩ := h.drop k k1
  have hge : st ≤ bndW st L k := by
    by_cases hk : k = 0
    · subst hk; rw [bnd_zero h]; exact Int.le_refl _
    · have := bnd_mono h (i := 0) (j := k) (by omega) k1
      rw [bnd_zero h] at this; omega
  have he := (end_in h h0 h1).2
  have hsb := stb_ge h
  have hle : bndW st L k ≤ endW st L := by
    by_cases hk : k = L.length
    · rw [bnd_ge (by omega)]; exact Int.le_refl _
    · have := bnd_mono h (i := k) (j := L.length) (by omega) (Nat.le_refl _)
      rw [bnd_ge (Nat.le_refl _)] at this; omega
  refine ⟨k, k1, k2', by rw [k2']; exact kep_bnd h k1, by omega, ?_, ?_, by omega, by rw [k2']; exact q1, by rw [k2']; exact q2⟩
  · rcases k3 with hk | hk
    · left; rw [k2', hk]; exact bnd_zero h
    · right
      have hk : kpS st L f ≤ (if stbW st L < f then stbW st L else f) := hk
      split at hk <;> omega
  · rcases k3 with hk | hk
    · rw [k2', hk, bnd_zero h]; exact hsb
    · have hk : kpS st L f ≤ (if stbW st L < f then stbW st L else f) := hk
      split at hk <;> omega
end Go.Proofs.YtjhgmaephpadpaaGreat.AW
