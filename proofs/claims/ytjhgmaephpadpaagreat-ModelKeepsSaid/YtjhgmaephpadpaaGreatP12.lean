/- A part of the proof: LG/G18, LG/G19, LG/G20, LG/G21, LG/G22, LG/G23, LG/G24, LG/G25, LG/G26. -/
import Derived.Test.YtjhgmaephpadpaaGreatP10
import Derived.Test.YtjhgmaephpadpaaGreatP11

open Go Go.Proofs.YtjhgmaephpadpaaGreat.AW Go.Proofs
namespace Go.Proofs.YtjhgmaephpadpaaGreat.AW
set_option maxRecDepth 100000
set_option linter.unusedSimpArgs false
set_option linter.unusedVariables false

/-! ### Arguments told with less, at any depth -/
/-! ### A table of producers -/
abbrev TE := Nat × Int × Pr
def tent (q : TE) : Nat × PV × PV := (q.1, ii q.2.1, q.2.2.pv)
def tGet : List TE → Int → Option Pr
  | [], _ => none
  | (_, m, p) :: r, n => if n = m then some p else tGet r n
def tSet : List TE → Int → Pr → List TE
  | [], _, _ => []
  | (t, m, p) :: r, n, x => if n = m then (t, n, x) :: r else (t, m, p) :: tSet r n x
def tPut (es : List TE) (cl : Nat) (n : Int) (x : Pr) : List TE := match tGet es n with | some _ => tSet es n x | none => es ++ [(cl, n, x)]
def tCl (es : List TE) (cl : Nat) (n : Int) : Nat := match tGet es n with | some _ => cl | none => cl + 1
theorem key_int (a b : Int) : keyEq (ii a) (ii b) = decide (a = b) := by
  show (a == b) = _
  by_cases h : a = b
  · subst h; simp
  · rw [decide_eq_false h]; simpa using h
theorem get_tent (n : Int) : ∀ es : List TE, mGet (es.map tent) (ii n) = (tGet es n).map Pr.pv
  | [] => rfl
  | (t, m, p) :: r => by
    rw [List.map_cons]
    show (match keyEq (ii n) (ii m) with | true => some p.pv | false => mGet (r.map tent) (ii n)) = _
    rw [key_int, tGet]
    by_cases h : n = m
    · rw [decide_eq_true h, if_pos h]; rfl
    · rw [decide_eq_false h, if_neg h]; exact get_tent n r
theorem set_tent (n : Int) (x : Pr) : ∀ es : List TE, mSet (es.map tent) (ii n) x.pv = (tSet es n x).map tent
  | [] => rfl
  | (t, m, p) :: r => by
    rw [List.map_cons]
    show (match keyEq (ii n) (ii m) with | true => (t, ii n, x.pv) :: r.map tent | false => (t, ii m, p.pv) :: mSet (r.map tent) (ii n) x.pv) = _
    rw [key_int, tSet]
    by_cases h : n = m
    · rw [decide_eq_true h, if_pos h]; rfl
    · rw [decide_eq_false h, if_neg h, List.map_cons, ← set_tent n x r]; rfl
theorem put_tent (es : List TE) (cl : Nat) (n : Int) (x : Pr) : mPut (es.map tent) cl (ii n) x.pv = (tPut es cl n x).map tent := by
  unfold mPut tPut
  rw [get_tent]
  cases tGet es n with
  | none => simp only [Option.map_none, List.map_append]; rfl
  | some q => exact set_tent n x es
theorem clk_tent (es : List TE) (cl : Nat) (n : Int) : mClock (es.map tent) cl (ii n) = tCl es cl n := by
  unfold mClock tCl
  rw [get_tent]
  cases tGet es n <;> rfl
def tbS (es : List TE) (cl : Nat) : Store := [some (.map (.int .i64) (es.map tent) cl), some (.cells [.map 0])]
theorem tnew_c (K : AV → Store → Prop) (h : K (.ref 1 0) (tbS [] 0)) : Cal Tryz.prog 87 [] [] K := by
  refine Cal.intro Tryz.func87 (by decide +kernel) rfl rfl ?_
  exact h
def pr0 : Pr := ⟨0, 0, [], 0⟩
def pr0N : PV := .agg [ii 0, ii 0, .sl .nil 0 [], ii 0]
theorem wk_pr0 : WkD pr0N pr0.pv := .agg _ _ (.cons _ _ _ _ (.refl _) (.cons _ _ _ _ (.refl _) (.cons _ _ _ _ (.nil 0 .shr 3) (.cons _ _ _ _ (.refl _) .nil))))
/-- All producers of a table are few batches long. -/
def TOk (es : List TE) : Prop := ∀ q, q ∈ es → q.2.2.last.length ≤ 1000000000
theorem tGet_mem : ∀ {es : List TE} {n : Int} {p : Pr}, tGet es n = some p → ∃ t, (t, n, p) ∈ es
  | (t, m, q) :: r, n, p, h => by
    unfold tGet at h
    split at h
    · rename_i e; cases h; subst e; exact ⟨t, List.mem_cons_self ..⟩
    · obtain ⟨t', h'⟩ := tGet_mem h; exact ⟨t', List.mem_cons_of_mem _ h'⟩
theorem TOk.get {es : List TE} (h : TOk es) {n : Int} {p : Pr} (hg : tGet es n = some p) : p.last.length ≤ 1000000000 := by
  obtain ⟨t, ht⟩ := tGet_mem hg; exact h _ ht
def drP (x : Int × Int × Int) : PV := .agg [ii x.1, ii x.2.1, ii x.2.2]
/-- A batch is judged by a table's producer. -/
def tChk (o : Option Pr) (b : Bt) : Int × Int := if (rightV b != 0) = true then (-1, rightV b) else if (b.prod == -1) = true then (-1, 0) else checkV (o.getD pr0) o.isSome b
set_option maxHeartbeats 4000000 in
theorem tcheck_c (es : List TE) (cl : Nat) (hes : TOk es) (b : Bt) (hb : b.small) (K : AV → Store → Prop) (h : K (i2 (tChk (tGet es b.prod) b)) (tbS es cl)) : Cal Tryz.prog 93 [.ref 1 0, .p b.pv] (tbS es cl) K := by
  refine Cal.cut ?_
  refine Cal.intro Tryz.func93 (by decide +kernel) rfl rfl ?_
  unfold tChk at h
  have hge := get_tent b.prod es
  cases hg : tGet es b.prod with
  | none =>
    rw [hg] at h hge
    simp only [Option.isSome_some, Option.getD_some, Option.isSome_none, Option.getD_none] at h
    repeat' (first
      | (apply Br.t; · (first | rfl | (simp only [*] <;> rfl)))
      | (apply Br.f; · (first | rfl | (simp only [*] <;> rfl)))
      | refine Ob.mk (okst rfl rfl rfl) ?_
      | refine right2_c b hb _ _ ?_
      | (simp only [*, Bool.true_and, Bool.false_and, Bool.true_or, Bool.false_or, Bool.and_true, Bool.and_false, Bool.or_true, Bool.or_false, Bool.not_true, Bool.not_false, if_true, if_false, reduceIte, Bool.false_eq_true] at h; exact ⟨2, _, Nat.le_refl 2, (show (2 : Nat) ≤ 3 by decide), rfl, rfl, WkS.refl _, h⟩)
      | refine Br.mkT (fun c => ?_) (fun c => ?_)
      | refine Br.mkF (fun c => ?_) (fun c => ?_)
      | refine Br.mk (fun c => ?_) (fun c => ?_))
    simp only [*, Bool.true_and, Bool.false_and, Bool.true_or, Bool.false_or, Bool.and_true, Bool.and_false, Bool.or_true, Bool.or_false, Bool.not_true, Bool.not_false, if_true, if_false, reduceIte, Bool.false_eq_true] at h
    repeat' (first
      | refine Chk.mk (by kernel_rfl) ?_
      | (apply Br.t; · (first | rfl | (simp only [*] <;> rfl)))
      | (apply Br.f; · (first | rfl | (simp only [*] <;> rfl)))
      | refine ⟨_, ⟨rfl, rfl⟩, ?_⟩
      | refine ⟨_, _, ⟨rfl, rfl⟩, rfl, ?_⟩
      | refine ⟨_, Opt.n hge ⟨rfl, rfl⟩, ?_⟩
      | refine ⟨_, Ob.mk (by decide) ⟨rfl, rfl⟩, ?_⟩
      | (refine ⟨_, Br.t ?_ ⟨rfl, rfl⟩, ?_⟩; · (first | rfl | (simp only [*] <;> rfl)))
      | (refine ⟨_, Br.f ?_ ⟨rfl, rfl⟩, ?_⟩; · (first | rfl | (simp only [*] <;> rfl)))
      | refine ⟨_, _, Ob.mk (okst rfl rfl rfl) ⟨rfl, rfl⟩, rfl, ?_⟩
      | refine Ob.mk (okst rfl rfl rfl) ?_
      | refine Ob.mk (by decide) ?_
      | refine Br.mkT (fun c => ?_) (fun c => ?_)
      | refine Br.mkF (fun c => ?_) (fun c => ?_)
      | refine Br.mk (fun c => ?_) (fun c => ?_))
    refine Cal.argsD (args' := [.p pr0.pv, .p (.bool false), .p b.pv]) (check_c pr0 false b (by decide) _ _ ?_) ⟨.inr ⟨_, _, rfl, rfl, wk_pr0⟩, .inl rfl, .inl rfl, trivial⟩
    exact ⟨2, _, Nat.le_refl 2, (show (2 : Nat) ≤ 4 by decide), rfl, rfl, WkS.refl _, h⟩
  | some p =>
    rw [hg] at h hge
    simp only [Option.isSome_some, Option.getD_some, Option.isSome_none, Option.getD_none] at h
    repeat' (first
      | (apply Br.t; · (first | rfl | (simp only [*] <;> rfl)))
      | (apply Br.f; · (first | rfl | (simp only [*] <;> rfl)))
      | refine Ob.mk (okst rfl rfl rfl) ?_
      | refine right2_c b hb _ _ ?_
      | (simp only [*, Bool.true_and, Bool.false_and, Bool.true_or, Bool.false_or, Bool.and_true, Bool.and_false, Bool.or_true, Bool.or_false, Bool.not_true, Bool.not_false, if_true, if_false, reduceIte, Bool.false_eq_true] at h; exact ⟨2, _, Nat.le_refl 2, (show (2 : Nat) ≤ 3 by decide), rfl, rfl, WkS.refl _, h⟩)
      | refine Br.mkT (fun c => ?_) (fun c => ?_)
      | refine Br.mkF (fun c => ?_) (fun c => ?_)
      | refine Br.mk (fun c => ?_) (fun c => ?_))
    simp only [*, Bool.true_and, Bool.false_and, Bool.true_or, Bool.false_or, Bool.and_true, Bool.and_false, Bool.or_true, Bool.or_false, Bool.not_true, Bool.not_false, if_true, if_false, reduceIte, Bool.false_eq_true] at h
    repeat' (first
      | refine Chk.mk (by kernel_rfl) ?_
      | (apply Br.t; · (first | rfl | (simp only [*] <;> rfl)))
      | (apply Br.f; · (first | rfl | (simp only [*] <;> rfl)))
      | refine ⟨_, ⟨rfl, rfl⟩, ?_⟩
      | refine ⟨_, _, ⟨rfl, rfl⟩, rfl, ?_⟩
      | refine ⟨_, Opt.s hge ⟨rfl, rfl⟩, ?_⟩
      | refine ⟨_, Ob.mk (by decide) ⟨rfl, rfl⟩, ?_⟩
      | (refine ⟨_, Br.t ?_ ⟨rfl, rfl⟩, ?_⟩; · (first | rfl | (simp only [*] <;> rfl)))
      | (refine ⟨_, Br.f ?_ ⟨rfl, rfl⟩, ?_⟩; · (first | rfl | (simp only [*] <;> rfl)))
      | refine ⟨_, _, Ob.mk (okst rfl rfl rfl) ⟨rfl, rfl⟩, rfl, ?_⟩
      | refine Ob.mk (okst rfl rfl rfl) ?_
      | refine Ob.mk (by decide) ?_
      | refine Br.mkT (fun c => ?_) (fun c => ?_)
      | refine Br.mkF (fun c => ?_) (fun c => ?_)
      | refine Br.mk (fun c => ?_) (fun c => ?_))
    refine check_c p true b (hes.get hg) _ _ ?_
    exact ⟨2, _, Nat.le_refl 2, (show (2 : Nat) ≤ 4 by decide), rfl, rfl, WkS.refl _, h⟩

/-- What is dropped by a batch. -/
def tDrop (o : Option Pr) (b : Bt) : (Int × Int × Int) × Bool :=
  if ((rightV b != 0) || (b.prod == -1)) = true then ((0, 0, 0), false)
  else if ((b.mark != 2) || (!o.isSome || decide ((o.getD pr0).op < 0))) = true then ((0, 0, 0), false)
  else ((b.prod, (o.getD pr0).op, b.base), true)
def tApp (es : List TE) (cl : Nat) (b : Bt) : List TE × Nat :=
  if ((rightV b != 0) || (b.prod == -1)) = true then (es, cl)
  else (tPut es cl b.prod (applyV ((tGet es b.prod).getD pr0) (tGet es b.prod).isSome b), tCl es cl b.prod)
def db (q : (Int × Int × Int) × Bool) : AV := .tup [.p (drP q.1), .p (.bool q.2)]
set_option maxHeartbeats 4000000 in
theorem tapply_c (es : List TE) (cl : Nat) (hes : TOk es) (b : Bt) (hb : b.small) (K : AV → Store → Prop) (h : K (db (tDrop (tGet es b.prod) b)) (tbS (tApp es cl b).1 (tApp es cl b).2)) : Cal Tryz.prog 88 [.ref 1 0, .p b.pv] (tbS es cl) K := by
  refine Cal.cut ?_
  refine Cal.intro Tryz.func88 (by decide +kernel) rfl rfl ?_
  unfold tDrop tApp at h
  have hge := get_tent b.prod es
  have e1 := fun x => put_tent es cl b.prod x
  have e2 := clk_tent es cl b.prod
  cases hg : tGet es b.prod with
  | none =>
    rw [hg] at h hge
    simp only [Option.isSome_some, Option.getD_some, Option.isSome_none, Option.getD_none] at h
    repeat' (first
      | (apply Br.t; · (first | rfl | (simp only [*] <;> rfl)))
      | (apply Br.f; · (first | rfl | (simp only [*] <;> rfl)))
      | refine Ob.mk (okst rfl rfl rfl) ?_
      | refine right2_c b hb _ _ ?_
      | (simp only [*, Bool.true_and, Bool.false_and, Bool.true_or, Bool.false_or, Bool.and_true, Bool.and_false, Bool.or_true, Bool.or_false, Bool.not_true, Bool.not_false, if_true, if_false, reduceIte, Bool.false_eq_true] at h; exact ⟨2, _, Nat.le_refl 2, (show (2 : Nat) ≤ 4 by decide), rfl, rfl, WkS.refl _, h⟩)
      | refine Br.mkT (fun c => ?_) (fun c => ?_)
      | refine Br.mkF (fun c => ?_) (fun c => ?_)
      | refine Br.mk (fun c => ?_) (fun c => ?_))
    simp only [*, Bool.true_and, Bool.false_and, Bool.true_or, Bool.false_or, Bool.and_true, Bool.and_false, Bool.or_true, Bool.or_false, Bool.not_true, Bool.not_false, if_true, if_false, reduceIte, Bool.false_eq_true] at h
    have ha : ∀ s', Cal Tryz.prog 121 [.p pr0N, .p (.bool false), .p b.pv] s' fun v s'' => v = .p (applyV pr0 false b).pv ∧ s'' = s' := fun s' =>
      Cal.argsD (args' := [.p pr0.pv, .p (.bool false), .p b.pv]) (apply_c pr0 false b (by decide) s' _ ⟨rfl, rfl⟩) ⟨.inr ⟨_, _, rfl, rfl, wk_pr0⟩, .inl rfl, .inl rfl, trivial⟩
    have hw : WkS [some (.map (.int .i64) (mPut (es.map tent) cl (ii b.prod) (applyV pr0 false b).pv) (mClock (es.map tent) cl (ii b.prod))), some (.cells [.map 0])] (tbS (tPut es cl b.prod (applyV pr0 false b)) (tCl es cl b.prod)) := by rw [e1, e2]; exact WkS.refl _
    repeat' (first
      | refine Chk.mk (by kernel_rfl) ?_
      | (apply Br.t; · (first | rfl | (simp only [*] <;> rfl)))
      | (apply Br.f; · (first | rfl | (simp only [*] <;> rfl)))
      | refine ⟨_, ⟨rfl, rfl⟩, ?_⟩
      | refine ⟨_, _, ⟨rfl, rfl⟩, rfl, ?_⟩
      | refine ⟨_, Opt.n hge ⟨rfl, rfl⟩, ?_⟩
      | refine ⟨_, Ob.mk (by decide) ⟨rfl, rfl⟩, ?_⟩
      | (refine ⟨_, Br.t ?_ ⟨rfl, rfl⟩, ?_⟩; · (first | rfl | (simp only [*] <;> rfl)))
      | (refine ⟨_, Br.f ?_ ⟨rfl, rfl⟩, ?_⟩; · (first | rfl | (simp only [*] <;> rfl)))
      | refine ⟨_, _, Ob.mk (okst rfl rfl rfl) ⟨rfl, rfl⟩, rfl, ?_⟩
      | refine Ob.mk (okst rfl rfl rfl) ?_
      | refine Ob.mk (by decide) ?_
      | refine Br.mkT (fun c => ?_) (fun c => ?_)
      | refine Br.mkF (fun c => ?_) (fun c => ?_)
      | refine Br.mk (fun c => ?_) (fun c => ?_))
    repeat' (first
      | refine Chk.mk (by kernel_rfl) ?_
      | (apply Br.t; · (first | rfl | (simp only [*] <;> rfl)))
      | (apply Br.f; · (first | rfl | (simp only [*] <;> rfl)))
      | refine ⟨_, ⟨rfl, rfl⟩, ?_⟩
      | refine ⟨_, _, ⟨rfl, rfl⟩, rfl, ?_⟩
      | refine Or.inl ⟨_, ha, rfl, ?_⟩
      | refine ⟨_, Ob.mk (by decide) ⟨rfl, rfl⟩, ?_⟩
      | (refine ⟨_, Br.t ?_ ⟨rfl, rfl⟩, ?_⟩; · (first | rfl | (simp only [*] <;> rfl)))
      | (refine ⟨_, Br.f ?_ ⟨rfl, rfl⟩, ?_⟩; · (first | rfl | (simp only [*] <;> rfl)))
      | refine ⟨_, _, Ob.mk (okst rfl rfl rfl) ⟨rfl, rfl⟩, rfl, ?_⟩
      | refine Ob.mk (okst rfl rfl rfl) ?_
      | refine Ob.mk (by decide) ?_
      | refine Br.mkT (fun c => ?_) (fun c => ?_)
      | refine Br.mkF (fun c => ?_) (fun c => ?_)
      | refine Br.mk (fun c => ?_) (fun c => ?_))
    all_goals
      repeat' (first
        | (apply Br.t; · (first | rfl | (simp only [*] <;> rfl)))
        | (apply Br.f; · (first | rfl | (simp only [*] <;> rfl)))
        | refine Ob.mk (okst rfl rfl rfl) ?_
        | exact ⟨2, _, Nat.le_refl 2, (show (2 : Nat) ≤ 5 by decide), rfl, rfl, hw, h⟩
        | refine Br.mkT (fun c => ?_) (fun c => ?_)
        | refine Br.mkF (fun c => ?_) (fun c => ?_)
        | refine Br.mk (fun c => ?_) (fun c => ?_))
  | some p =>
    rw [hg] at h hge
    simp only [Option.isSome_some, Option.getD_some, Option.isSome_none, Option.getD_none] at h
    repeat' (first
      | (apply Br.t; · (first | rfl | (simp only [*] <;> rfl)))
      | (apply Br.f; · (first | rfl | (simp only [*] <;> rfl)))
      | refine Ob.mk (okst rfl rfl rfl) ?_
      | refine right2_c b hb _ _ ?_
      | (simp only [*, Bool.true_and, Bool.false_and, Bool.true_or, Bool.false_or, Bool.and_true, Bool.and_false, Bool.or_true, Bool.or_false, Bool.not_true, Bool.not_false, if_true, if_false, reduceIte, Bool.false_eq_true] at h; exact ⟨2, _, Nat.le_refl 2, (show (2 : Nat) ≤ 4 by decide), rfl, rfl, WkS.refl _, h⟩)
      | refine Br.mkT (fun c => ?_) (fun c => ?_)
      | refine Br.mkF (fun c => ?_) (fun c => ?_)
      | refine Br.mk (fun c => ?_) (fun c => ?_))
    simp only [*, Bool.true_and, Bool.false_and, Bool.true_or, Bool.false_or, Bool.and_true, Bool.and_false, Bool.or_true, Bool.or_false, Bool.not_true, Bool.not_false, if_true, if_false, reduceIte, Bool.false_eq_true] at h
    have hw : WkS [some (.map (.int .i64) (mPut (es.map tent) cl (ii b.prod) (applyV p true b).pv) (mClock (es.map tent) cl (ii b.prod))), some (.cells [.map 0])] (tbS (tPut es cl b.prod (applyV p true b)) (tCl es cl b.prod)) := by rw [e1, e2]; exact WkS.refl _
    repeat' (first
      | refine Chk.mk (by kernel_rfl) ?_
      | (apply Br.t; · (first | rfl | (simp only [*] <;> rfl)))
      | (apply Br.f; · (first | rfl | (simp only [*] <;> rfl)))
      | refine ⟨_, ⟨rfl, rfl⟩, ?_⟩
      | refine ⟨_, _, ⟨rfl, rfl⟩, rfl, ?_⟩
      | refine ⟨_, Opt.s hge ⟨rfl, rfl⟩, ?_⟩
      | refine ⟨_, Ob.mk (by decide) ⟨rfl, rfl⟩, ?_⟩
      | (refine ⟨_, Br.t ?_ ⟨rfl, rfl⟩, ?_⟩; · (first | rfl | (simp only [*] <;> rfl)))
      | (refine ⟨_, Br.f ?_ ⟨rfl, rfl⟩, ?_⟩; · (first | rfl | (simp only [*] <;> rfl)))
      | refine ⟨_, _, Ob.mk (okst rfl rfl rfl) ⟨rfl, rfl⟩, rfl, ?_⟩
      | refine Ob.mk (okst rfl rfl rfl) ?_
      | refine Ob.mk (by decide) ?_
      | refine Br.mkT (fun c => ?_) (fun c => ?_)
      | refine Br.mkF (fun c => ?_) (fun c => ?_)
      | refine Br.mk (fun c => ?_) (fun c => ?_))
    repeat' (first
      | refine Chk.mk (by kernel_rfl) ?_
      | (apply Br.t; · (first | rfl | (simp only [*] <;> rfl)))
      | (apply Br.f; · (first | rfl | (simp only [*] <;> rfl)))
      | refine ⟨_, ⟨rfl, rfl⟩, ?_⟩
      | refine ⟨_, _, ⟨rfl, rfl⟩, rfl, ?_⟩
      | refine Or.inl ⟨_, fun s' => apply_c p true b (hes.get hg) s' _ ⟨rfl, rfl⟩, rfl, ?_⟩
      | refine ⟨_, Ob.mk (by decide) ⟨rfl, rfl⟩, ?_⟩
      | (refine ⟨_, Br.t ?_ ⟨rfl, rfl⟩, ?_⟩; · (first | rfl | (simp only [*] <;> rfl)))
      | (refine ⟨_, Br.f ?_ ⟨rfl, rfl⟩, ?_⟩; · (first | rfl | (simp only [*] <;> rfl)))
      | refine ⟨_, _, Ob.mk (okst rfl rfl rfl) ⟨rfl, rfl⟩, rfl, ?_⟩
      | refine Ob.mk (okst rfl rfl rfl) ?_
      | refine Ob.mk (by decide) ?_
      | refine Br.mkT (fun c => ?_) (fun c => ?_)
      | refine Br.mkF (fun c => ?_) (fun c => ?_)
      | refine Br.mk (fun c => ?_) (fun c => ?_))
    all_goals
      repeat' (first
        | (apply Br.t; · (first | rfl | (simp only [*] <;> rfl)))
        | (apply Br.f; · (first | rfl | (simp only [*] <;> rfl)))
        | refine Ob.mk (okst rfl rfl rfl) ?_
        | (simp only [*, Bool.true_and, Bool.false_and, Bool.true_or, Bool.false_or, Bool.and_true, Bool.and_false, Bool.or_true, Bool.or_false, Bool.not_true, Bool.not_false, if_true, if_false, reduceIte, Bool.false_eq_true] at h; exact ⟨2, _, Nat.le_refl 2, (show (2 : Nat) ≤ 5 by decide), rfl, rfl, hw, h⟩)
        | refine Br.mkT (fun c => ?_) (fun c => ?_)
        | refine Br.mkF (fun c => ?_) (fun c => ?_)
        | refine Br.mk (fun c => ?_) (fun c => ?_))
end Go.Proofs.YtjhgmaephpadpaaGreat.AW


open Go Go.Proofs.YtjhgmaephpadpaaGreat.AW Go.Proofs
namespace Go.Proofs.YtjhgmaephpadpaaGreat.AW
set_option maxRecDepth 100000
set_option linter.unusedSimpArgs false
set_option linter.unusedVariables false

/-! ### The document's table -/
def dAt : List Pr → Int → Nat
  | [], _ => 0
  | p :: r, n => if p.id < n then dAt r n + 1 else 0
theorem dAt_le : ∀ (L : List Pr) (n : Int), dAt L n ≤ L.length
  | [], _ => Nat.le_refl _
  | p :: r, n => by
    unfold dAt
    split
    · rw [List.length_cons]; have := dAt_le r n; omega
    · exact Nat.zero_le _
theorem dAt_lt : ∀ {L : List Pr} {n : Int} {j : Nat} (h : j < dAt L n) (hl : j < L.length), decide (L[j].id < n) = true
  | [], _, _, h, hl => by simp at hl
  | p :: r, n, j, h, hl => by
    unfold dAt at h
    split at h
    · cases j with
      | zero => simpa using ‹p.id < n›
      | succ j => exact dAt_lt (L := r) (by omega) (by simpa using hl)
    · omega
theorem dAt_stop : ∀ {L : List Pr} {n : Int} (hl : dAt L n < L.length), decide (L[dAt L n].id < n) = false
  | p :: r, n, hl => by
    by_cases h : p.id < n
    · have e : dAt (p :: r) n = dAt r n + 1 := by rw [dAt, if_pos h]
      have := dAt_stop (L := r) (n := n) (by rw [e, List.length_cons] at hl; omega)
      simp only [e, List.getElem_cons_succ]; exact this
    · have e : dAt (p :: r) n = 0 := by rw [dAt, if_neg h]
      simp only [e, List.getElem_cons_zero]; simpa using h
def dGet (L : List Pr) (n : Int) : Option Pr := match L[dAt L n]? with | some p => if (p.id == n) = true then some p else none | none => none
theorem dGet_none {L : List Pr} {n : Int} (h : L.length ≤ dAt L n) : dGet L n = none := by
  unfold dGet; rw [List.getElem?_eq_none h]
theorem dGet_at {L : List Pr} {n : Int} (h : dAt L n < L.length) : dGet L n = if (L[dAt L n].id == n) = true then some L[dAt L n] else none := by
  unfold dGet; rw [List.getElem?_eq_getElem h]
def dS (L : List Pr) : Store := [some (.cells [.p (prsP L)])]
set_option maxHeartbeats 8000000 in
theorem dat_c (L : List Pr) (hL : L.length ≤ 1000000000) (n : Int) (K : AV → Store → Prop) (h : K (.tup [.p (ii (dAt L n : Nat)), .p (.bool (dGet L n).isSome)]) (dS L)) : Cal Tryz.prog 113 [.ref 0 0, .p (ii n)] (dS L) K := by
  refine Cal.intro Tryz.func113 (by decide +kernel) rfl rfl ?_
  have hl := prsL L
  refine LoopX.fam [0, 1, 6] (fun (j : Nat) => ([(0, .ref 0 0), (1, .p (ii n)), (6, .p (ii (j : Nat)))], dS L)) (fun j => j ≤ dAt L n) (fun j => dAt L n - j) 0 (Nat.zero_le _) (Trim.mk' rfl rfl rfl rfl (Nat.le_refl _)) ?_
  intro j hj
  have hj : j ≤ dAt L n := hj
  have hdl := dAt_le L n
  by_cases hlt : j < L.length
  · have c1 : decide ((j : Int) < ((L.map Pr.pv).length : Nat)) = true := decide_eq_true (by omega)
    have hg := getP hlt
    by_cases hd : j < dAt L n
    · have c2 := dAt_lt hd hlt
      clear hl
      repeat' (first
        | (apply Br.t; · (first | rfl | (simp only [*] <;> rfl)))
        | (apply Br.f; · (first | rfl | (simp only [*] <;> rfl)))
        | refine Ob.mk (okst rfl rfl rfl) ?_
        | refine Idx.mk L[j].pv (Int.natCast_nonneg _) hg ?_
        | refine Br.mkT (fun c => ?_) (fun c => ?_)
        | refine Br.mkF (fun c => ?_) (fun c => ?_)
        | refine Br.mk (fun c => ?_) (fun c => ?_))
      have ej : IntKind.i64.wrap ((j : Int) + 1) = ((j + 1 : Nat) : Int) := by rw [wrap_i64] <;> omega
      refine ⟨j + 1, by show j + 1 ≤ dAt L n; omega, by show dAt L n - (j + 1) < dAt L n - j; omega, Nat.le_refl _, Trim.mk' ?_ rfl rfl rfl (Nat.le_refl _)⟩
      refine Eq.trans (b := [_, _, (6, AV.p (ii (IntKind.i64.wrap ((j : Int) + 1))))]) rfl ?_
      rw [ej]; rfl
    · have hjd : j = dAt L n := by omega
      subst hjd
      have c2 := dAt_stop hlt
      rw [dGet_at hlt] at h
      clear hl
      repeat' (first
        | (apply Br.t; · (first | rfl | (simp only [*] <;> rfl)))
        | (apply Br.f; · (first | rfl | (simp only [*] <;> rfl)))
        | refine Ob.mk (okst rfl rfl rfl) ?_
        | refine Idx.mk L[dAt L n].pv (Int.natCast_nonneg _) hg ?_
        | refine Br.mkT (fun c => ?_) (fun c => ?_)
        | refine Br.mkF (fun c => ?_) (fun c => ?_)
        | refine Br.mk (fun c => ?_) (fun c => ?_))
      cases hid : (L[dAt L n].id == n) with
      | true =>
        simp only [hid, if_true, Option.isSome_some] at h
        repeat' (first
          | refine Chk.mk (by kernel_rfl) ?_
          | (apply Br.t; · (first | rfl | (simp only [*] <;> rfl)))
          | (apply Br.f; · (first | rfl | (simp only [*] <;> rfl)))
          | refine ⟨_, ⟨rfl, rfl⟩, ?_⟩
          | refine ⟨_, _, ⟨rfl, rfl⟩, rfl, ?_⟩
          | refine ⟨_, Idx.mk L[dAt L n].pv (Int.natCast_nonneg _) hg ⟨rfl, rfl⟩, ?_⟩
          | refine ⟨_, Ob.mk (by decide) ⟨rfl, rfl⟩, ?_⟩
          | (refine ⟨_, Br.t ?_ ⟨rfl, rfl⟩, ?_⟩; · (first | rfl | (simp only [*] <;> rfl)))
          | (refine ⟨_, Br.f ?_ ⟨rfl, rfl⟩, ?_⟩; · (first | rfl | (simp only [*] <;> rfl)))
          | refine ⟨_, _, Ob.mk (okst rfl rfl rfl) ⟨rfl, rfl⟩, rfl, ?_⟩
          | refine Ob.mk (okst rfl rfl rfl) ?_
          | refine Ob.mk (by decide) ?_
          | refine Br.mkT (fun c => ?_) (fun c => ?_)
          | refine Br.mkF (fun c => ?_) (fun c => ?_)
          | refine Br.mk (fun c => ?_) (fun c => ?_))
        rw [hid]
        exact h
      | false =>
        simp only [hid, if_false, Option.isSome_none, Bool.false_eq_true] at h
        repeat' (first
          | refine Chk.mk (by kernel_rfl) ?_
          | (apply Br.t; · (first | rfl | (simp only [*] <;> rfl)))
          | (apply Br.f; · (first | rfl | (simp only [*] <;> rfl)))
          | refine ⟨_, ⟨rfl, rfl⟩, ?_⟩
          | refine ⟨_, _, ⟨rfl, rfl⟩, rfl, ?_⟩
          | refine ⟨_, Idx.mk L[dAt L n].pv (Int.natCast_nonneg _) hg ⟨rfl, rfl⟩, ?_⟩
          | refine ⟨_, Ob.mk (by decide) ⟨rfl, rfl⟩, ?_⟩
          | (refine ⟨_, Br.t ?_ ⟨rfl, rfl⟩, ?_⟩; · (first | rfl | (simp only [*] <;> rfl)))
          | (refine ⟨_, Br.f ?_ ⟨rfl, rfl⟩, ?_⟩; · (first | rfl | (simp only [*] <;> rfl)))
          | refine ⟨_, _, Ob.mk (okst rfl rfl rfl) ⟨rfl, rfl⟩, rfl, ?_⟩
          | refine Ob.mk (okst rfl rfl rfl) ?_
          | refine Ob.mk (by decide) ?_
          | refine Br.mkT (fun c => ?_) (fun c => ?_)
          | refine Br.mkF (fun c => ?_) (fun c => ?_)
          | refine Br.mk (fun c => ?_) (fun c => ?_))
        rw [hid]
        exact h
  · have hjd : j = dAt L n := by omega
    subst hjd
    have c1 : decide ((dAt L n : Int) < ((L.map Pr.pv).length : Nat)) = false := decide_eq_false (by omega)
    rw [dGet_none (by omega)] at h
    clear hl
    repeat' (first
      | (apply Br.t; · (first | rfl | (simp only [*] <;> rfl)))
      | (apply Br.f; · (first | rfl | (simp only [*] <;> rfl)))
      | refine Ob.mk (okst rfl rfl rfl) ?_
      | refine Br.mkT (fun c => ?_) (fun c => ?_)
      | refine Br.mkF (fun c => ?_) (fun c => ?_)
      | refine Br.mk (fun c => ?_) (fun c => ?_))
    repeat' (first
      | refine Chk.mk (by kernel_rfl) ?_
      | (apply Br.t; · (first | rfl | (simp only [*] <;> rfl)))
      | (apply Br.f; · (first | rfl | (simp only [*] <;> rfl)))
      | refine ⟨_, ⟨rfl, rfl⟩, ?_⟩
      | refine ⟨_, _, ⟨rfl, rfl⟩, rfl, ?_⟩
      | refine ⟨_, Ob.mk (by decide) ⟨rfl, rfl⟩, ?_⟩
      | (refine ⟨_, Br.t ?_ ⟨rfl, rfl⟩, ?_⟩; · (first | rfl | (simp only [*] <;> rfl)))
      | (refine ⟨_, Br.f ?_ ⟨rfl, rfl⟩, ?_⟩; · (first | rfl | (simp only [*] <;> rfl)))
      | refine ⟨_, _, Ob.mk (okst rfl rfl rfl) ⟨rfl, rfl⟩, rfl, ?_⟩
      | refine Ob.mk (okst rfl rfl rfl) ?_
      | refine Ob.mk (by decide) ?_
      | refine Br.mkT (fun c => ?_) (fun c => ?_)
      | refine Br.mkF (fun c => ?_) (fun c => ?_)
      | refine Br.mk (fun c => ?_) (fun c => ?_))
    exact h
end Go.Proofs.YtjhgmaephpadpaaGreat.AW


open Go Go.Proofs.YtjhgmaephpadpaaGreat.AW Go.Proofs
namespace Go.Proofs.YtjhgmaephpadpaaGreat.AW
set_option maxRecDepth 100000
set_option linter.unusedSimpArgs false
set_option linter.unusedVariables false

def POk (L : List Pr) : Prop := ∀ p, p ∈ L → p.last.length ≤ 1000000000
theorem dGet_some {L : List Pr} {n : Int} {p : Pr} (h : dGet L n = some p) : ∃ hl : dAt L n < L.length, L[dAt L n] = p ∧ p.id = n := by
  by_cases hl : dAt L n < L.length
  · rw [dGet_at hl] at h
    split at h
    · rename_i e; cases h; exact ⟨hl, rfl, eq_of_beq e⟩
    · cases h
  · rw [dGet_none (by omega)] at h; cases h
theorem POk.get {L : List Pr} (h : POk L) {n : Int} {p : Pr} (hg : dGet L n = some p) : p.last.length ≤ 1000000000 := by
  obtain ⟨hl, rfl, _⟩ := dGet_some hg; exact h _ (List.getElem_mem hl)
def gtV (o : Option Pr) : AV := match o with | some p => .tup [.p p.pv, .p (.bool true)] | none => .tup [.p pr0N, .p (.bool false)]
set_option maxHeartbeats 4000000 in
theorem dget_c (L : List Pr) (hL : L.length ≤ 1000000000) (n : Int) (K : AV → Store → Prop) (h : K (gtV (dGet L n)) (dS L)) : Cal Tryz.prog 95 [.ref 0 0, .p (ii n)] (dS L) K := by
  refine Cal.cut ?_
  refine Cal.intro Tryz.func95 (by decide +kernel) rfl rfl ?_
  refine Cal.frameK [0] (dat_c L hL n _ fun _ => ?_) rfl rfl rfl
  cases hg : dGet L n with
  | none =>
    rw [hg] at h
    repeat' (first
      | (apply Br.t; · (first | rfl | (simp only [*] <;> rfl)))
      | (apply Br.f; · (first | rfl | (simp only [*] <;> rfl)))
      | refine Ob.mk (okst rfl rfl rfl) ?_
      | exact ⟨1, dS L, Nat.le_refl 1, (show (1 : Nat) ≤ 2 by decide), rfl, rfl, WkS.refl _, h⟩
      | refine Br.mkT (fun c => ?_) (fun c => ?_)
      | refine Br.mkF (fun c => ?_) (fun c => ?_)
      | refine Br.mk (fun c => ?_) (fun c => ?_))
  | some p =>
    rw [hg] at h
    obtain ⟨hl, hp, _⟩ := dGet_some hg
    have hgp := getP hl
    rw [hp] at hgp
    repeat' (first
      | (apply Br.t; · (first | rfl | (simp only [*] <;> rfl)))
      | (apply Br.f; · (first | rfl | (simp only [*] <;> rfl)))
      | refine Ob.mk (okst rfl rfl rfl) ?_
      | refine Idx.mk p.pv (Int.natCast_nonneg _) hgp ?_
      | exact ⟨1, dS L, Nat.le_refl 1, (show (1 : Nat) ≤ 2 by decide), rfl, rfl, WkS.refl _, h⟩
      | refine Br.mkT (fun c => ?_) (fun c => ?_)
      | refine Br.mkF (fun c => ?_) (fun c => ?_)
      | refine Br.mk (fun c => ?_) (fun c => ?_))
/-- Of a batch that is right: no producer is -1. -/
theorem right_prod {b : Bt} (h : (rightV b != 0) = false) : decide (b.prod < 0) = (b.prod == -1) := by
  have hr : rightV b = 0 := by simpa using h
  have hp : plainV b = 0 := by
    unfold rightV at hr
    cases hq : (plainV b != 0) with
    | true => rw [hq] at hr; simp at hr; simp [hr] at hq
    | false => simpa using hq
  unfold plainV at hp
  split at hp
  · cases hp
  · split at hp
    · split at hp
      · cases hp
      · rename_i hc
        have : headV b = true := by
          cases hh : headV b with
          | true => rfl
          | false => rw [hh] at hc; simp at hc
        unfold headV at this
        simp only [Bool.and_eq_true, decide_eq_true_eq] at this
        have h1 := this.1
        rw [decide_eq_false (by omega)]
        exact (beq_false_of_ne (by omega)).symm
    · split at hp
      · cases hp
      · rename_i hc
        have : noneV b = true ∨ headV b = true := by
          cases hn : noneV b with
          | true => exact .inl rfl
          | false =>
            cases hh : headV b with
            | true => exact .inr rfl
            | false => rw [hh, hn] at hc; simp at hc
        rcases this with hn | hh
        · unfold noneV at hn
          simp only [Bool.and_eq_true] at hn
          have := eq_of_beq hn.1
          rw [this]; rfl
        · unfold headV at hh
          simp only [Bool.and_eq_true, decide_eq_true_eq] at hh
          have h1 := hh.1
          rw [decide_eq_false (by omega)]
          exact (beq_false_of_ne (by omega)).symm
set_option maxHeartbeats 4000000 in
theorem dcheck_c (L : List Pr) (hL : L.length ≤ 1000000000) (hP : POk L) (b : Bt) (hb : b.small) (K : AV → Store → Prop) (h : K (i2 (tChk (dGet L b.prod) b)) (dS L)) : Cal Tryz.prog 64 [.ref 0 0, .p b.pv] (dS L) K := by
  refine Cal.cut ?_
  refine Cal.intro Tryz.func64 (by decide +kernel) rfl rfl ?_
  unfold tChk at h
  cases hr : (rightV b != 0) with
  | true =>
    simp only [hr, if_true] at h
    repeat' (first
      | (apply Br.t; · (first | rfl | (simp only [*] <;> rfl)))
      | (apply Br.f; · (first | rfl | (simp only [*] <;> rfl)))
      | refine Ob.mk (okst rfl rfl rfl) ?_
      | refine right1_c b hb _ _ ?_
      | exact ⟨1, dS L, Nat.le_refl 1, (show (1 : Nat) ≤ 2 by decide), rfl, rfl, WkS.refl _, h⟩
      | refine Br.mkT (fun c => ?_) (fun c => ?_)
      | refine Br.mkF (fun c => ?_) (fun c => ?_)
      | refine Br.mk (fun c => ?_) (fun c => ?_))
  | false =>
    have hrp := right_prod hr
    simp only [hr, if_false, Bool.false_eq_true] at h
    cases hp : (b.prod == -1) with
    | true =>
      rw [hp] at hrp
      simp only [hp, if_true] at h
      repeat' (first
        | (apply Br.t; · (first | rfl | (simp only [*] <;> rfl)))
        | (apply Br.f; · (first | rfl | (simp only [*] <;> rfl)))
        | refine Ob.mk (okst rfl rfl rfl) ?_
        | refine right1_c b hb _ _ ?_
        | exact ⟨1, dS L, Nat.le_refl 1, (show (1 : Nat) ≤ 2 by decide), rfl, rfl, WkS.refl _, h⟩
        | refine Br.mkT (fun c => ?_) (fun c => ?_)
        | refine Br.mkF (fun c => ?_) (fun c => ?_)
        | refine Br.mk (fun c => ?_) (fun c => ?_))
    | false =>
      rw [hp] at hrp
      simp only [hp, if_false, Bool.false_eq_true] at h
      repeat' (first
        | (apply Br.t; · (first | rfl | (simp only [*] <;> rfl)))
        | (apply Br.f; · (first | rfl | (simp only [*] <;> rfl)))
        | refine Ob.mk (okst rfl rfl rfl) ?_
        | refine right1_c b hb _ _ ?_
        | refine Br.mkT (fun c => ?_) (fun c => ?_)
        | refine Br.mkF (fun c => ?_) (fun c => ?_)
        | refine Br.mk (fun c => ?_) (fun c => ?_))
      refine Cal.frameK [0] (dget_c L hL b.prod _ fun _ => ?_) rfl rfl rfl
      cases hg : dGet L b.prod with
      | none =>
        rw [hg] at h
        refine Ob.mk (okst rfl rfl rfl) ?_
        refine Cal.argsD (args' := [.p pr0.pv, .p (.bool false), .p b.pv]) (check1_c pr0 false b (by decide) _ _ ?_) ⟨.inr ⟨_, _, rfl, rfl, wk_pr0⟩, .inl rfl, .inl rfl, trivial⟩
        exact ⟨1, dS L, Nat.le_refl 1, (show (1 : Nat) ≤ 3 by decide), rfl, rfl, WkS.refl _, h⟩
      | some p =>
        rw [hg] at h
        refine Ob.mk (okst rfl rfl rfl) ?_
        refine check1_c p true b (hP.get hg) _ _ ?_
        exact ⟨1, dS L, Nat.le_refl 1, (show (1 : Nat) ≤ 3 by decide), rfl, rfl, WkS.refl _, h⟩
end Go.Proofs.YtjhgmaephpadpaaGreat.AW


open Go Go.Proofs.YtjhgmaephpadpaaGreat.AW Go.Proofs
namespace Go.Proofs.YtjhgmaephpadpaaGreat.AW
set_option maxRecDepth 100000
set_option linter.unusedSimpArgs false
set_option linter.unusedVariables false

def dPut (L : List Pr) (b : Bt) : List Pr := match dGet L b.prod with
  | some p => L.set (dAt L b.prod) (applyV p true b)
  | none => L.take (dAt L b.prod) ++ applyV pr0 false b :: L.drop (dAt L b.prod)
def dApp (L : List Pr) (b : Bt) : List Pr := if ((rightV b != 0) || (b.prod == -1)) = true then L else dPut L b
theorem mark2 (b : Bt) : (b.mark != 2) = !(b.mark == 2) := rfl
theorem op0 (x : Int) : decide (x < 0) = !decide (x ≥ 0) := by
  by_cases h : x < 0
  · rw [decide_eq_true h, decide_eq_false (by omega)]; rfl
  · rw [decide_eq_false h, decide_eq_true (by omega)]; rfl
set_option maxHeartbeats 8000000 in
theorem dapply_c (L : List Pr) (hL : L.length ≤ 1000000000) (hP : POk L) (b : Bt) (hb : b.small) (K : AV → Store → Prop) (h : K (db (tDrop (dGet L b.prod) b)) (dS (dApp L b))) : Cal Tryz.prog 82 [.ref 0 0, .p b.pv] (dS L) K := by
  refine Cal.cut ?_
  refine Cal.frzF 0 0 ?_
  refine Cal.intro Tryz.func82 (by decide +kernel) rfl rfl ?_
  unfold tDrop dApp at h
  cases hr : (rightV b != 0) with
  | true =>
    simp only [hr, Bool.true_or, if_true] at h
    repeat' (first
      | (apply Br.t; · (first | rfl | (simp only [*] <;> rfl)))
      | (apply Br.f; · (first | rfl | (simp only [*] <;> rfl)))
      | refine Ob.mk (okst rfl rfl rfl) ?_
      | refine right1_c b hb _ _ ?_
      | exact .inl ⟨1, dS L, Nat.le_refl 1, (show (1 : Nat) ≤ 3 by decide), rfl, rfl, WkS.refl _, h⟩
      | refine Br.mkT (fun c => ?_) (fun c => ?_)
      | refine Br.mkF (fun c => ?_) (fun c => ?_)
      | refine Br.mk (fun c => ?_) (fun c => ?_))
  | false =>
    have hrp := right_prod hr
    simp only [hr, Bool.false_or] at h
    cases hp : (b.prod == -1) with
    | true =>
      rw [hp] at hrp
      simp only [hp, if_true] at h
      repeat' (first
        | (apply Br.t; · (first | rfl | (simp only [*] <;> rfl)))
        | (apply Br.f; · (first | rfl | (simp only [*] <;> rfl)))
        | refine Ob.mk (okst rfl rfl rfl) ?_
        | refine right1_c b hb _ _ ?_
        | exact .inl ⟨1, dS L, Nat.le_refl 1, (show (1 : Nat) ≤ 3 by decide), rfl, rfl, WkS.refl _, h⟩
        | refine Br.mkT (fun c => ?_) (fun c => ?_)
        | refine Br.mkF (fun c => ?_) (fun c => ?_)
        | refine Br.mk (fun c => ?_) (fun c => ?_))
    | false =>
      rw [hp] at hrp
      simp only [hp, if_false, Bool.false_eq_true] at h
      repeat' (first
        | (apply Br.t; · (first | rfl | (simp only [*] <;> rfl)))
        | (apply Br.f; · (first | rfl | (simp only [*] <;> rfl)))
        | refine Ob.mk (okst rfl rfl rfl) ?_
        | refine right1_c b hb _ _ ?_
        | refine Br.mkT (fun c => ?_) (fun c => ?_)
        | refine Br.mkF (fun c => ?_) (fun c => ?_)
        | refine Br.mk (fun c => ?_) (fun c => ?_))
      refine Cal.frameK [0] (dat_c L hL b.prod _ fun _ => ?_) rfl rfl rfl
      refine Cal.frameK [0] (dget_c L hL b.prod _ fun _ => ?_) rfl rfl rfl
      unfold dPut at h
      cases hg : dGet L b.prod with
      | some p =>
        rw [hg] at h
        simp only [Option.isSome_some, Option.getD_some, Bool.not_true, Bool.false_or] at h
        obtain ⟨hl, hpe, _⟩ := dGet_some hg
        have hlm : (L.map Pr.pv).length = L.length := List.length_map ..
        refine Ob.mk (okst rfl rfl rfl) ?_
        refine apply1_c p true b (hP.get hg) _ _ ?_
        refine Ob.mk (okst rfl rfl rfl) ?_
        refine Br.t rfl ?_
        refine BrL.mk (fun he => ?_) (fun _ => ?_)
        · have : L = [] := List.map_eq_nil_iff.1 he
          rw [this] at hl; simp at hl
        refine Ob.mk (show (0 + (L.map Pr.pv).length) * 48 ≤ 140737488355328 by omega) ?_
        refine Ob.mk (okst rfl rfl rfl) ?_
        have hi : ((dAt L b.prod : Nat) : Int) < (([] ++ L.map Pr.pv).length : Nat) := by show _ < (((L.map Pr.pv).length : Nat) : Int); omega
        have hi2 : 0 + ((dAt L b.prod : Nat) : Int).toNat < ([] ++ L.map Pr.pv).length := by show _ < (L.map Pr.pv).length; omega
        have hset : ((([] ++ L.map Pr.pv).set (0 + ((dAt L b.prod : Nat) : Int).toNat) (applyV p true b).pv).drop 0).take ([] ++ L.map Pr.pv).length = (L.set (dAt L b.prod) (applyV p true b)).map Pr.pv := by
          rw [List.nil_append, Int.toNat_natCast, Nat.zero_add, List.map_set, List.drop_zero, List.take_of_length_le (by simp)]
        repeat' (first
          | refine Chk.mk (by kernel_rfl) ?_
          | (apply Br.t; · (first | rfl | (simp only [*] <;> rfl)))
          | (apply Br.f; · (first | rfl | (simp only [*] <;> rfl)))
          | refine ⟨_, ⟨rfl, rfl⟩, ?_⟩
          | refine ⟨_, _, ⟨rfl, rfl⟩, rfl, ?_⟩
          | refine ⟨_, Ob.mk ⟨rfl, Int.natCast_nonneg _, hi⟩ ⟨rfl, rfl⟩, ?_⟩
          | refine ⟨_, _, Ob.mk ⟨rfl, hi2⟩ ⟨rfl, rfl⟩, rfl, ?_⟩
          | refine ⟨_, Ob.mk (by decide) ⟨rfl, rfl⟩, ?_⟩
          | (refine ⟨_, Br.t ?_ ⟨rfl, rfl⟩, ?_⟩; · (first | rfl | (simp only [*] <;> rfl)))
          | (refine ⟨_, Br.f ?_ ⟨rfl, rfl⟩, ?_⟩; · (first | rfl | (simp only [*] <;> rfl)))
          | refine ⟨_, _, Ob.mk (okst rfl rfl rfl) ⟨rfl, rfl⟩, rfl, ?_⟩
          | refine Ob.mk (okst rfl rfl rfl) ?_
          | refine Ob.mk (by decide) ?_
          | refine Br.mkT (fun c => ?_) (fun c => ?_)
          | refine Br.mkF (fun c => ?_) (fun c => ?_)
          | refine Br.mk (fun c => ?_) (fun c => ?_))
        all_goals
          rw [mark2, op0] at h
          simp only [*, Bool.true_and, Bool.false_and, Bool.true_or, Bool.false_or, Bool.and_true, Bool.and_false, Bool.or_true, Bool.or_false, Bool.not_true, Bool.not_false, if_true, if_false, reduceIte, Bool.false_eq_true] at h
          refine .inr ⟨_, _, _, _, _, _, _, _, _, rfl, rfl, rfl, ?_, 1, dS (L.set (dAt L b.prod) (applyV p true b)), Nat.le_refl 1, ?_, rfl, rfl, ?_, h⟩
          · exact List.length_set ..
          · show 1 ≤ List.length _; simp
          · show WkS [some (.cells [.p (.sl .shr 4 (((([] ++ L.map Pr.pv).set (0 + ((dAt L b.prod : Nat) : Int).toNat) (applyV p true b).pv).drop 0).take ([] ++ L.map Pr.pv).length))])] _
            rw [hset]; exact WkS.refl _
      | none =>
        rw [hg] at h
        simp only [Option.isSome_none, Option.getD_none, Bool.not_false, Bool.true_or, Bool.or_true, if_true] at h
        have hlm : (L.map Pr.pv).length = L.length := List.length_map ..
        have hdl := dAt_le L b.prod
        refine Ob.mk (okst rfl rfl rfl) ?_
        refine Cal.argsD (args' := [.p pr0.pv, .p (.bool false), .p b.pv]) (apply1_c pr0 false b (by decide) _ _ ?_) ⟨.inr ⟨_, _, rfl, rfl, wk_pr0⟩, .inl rfl, .inl rfl, trivial⟩
        refine Ob.mk (okst rfl rfl rfl) ?_
        refine Br.f rfl ?_
        have b1 : 0 ≤ (0 : Int) ∧ 0 ≤ ((dAt L b.prod : Nat) : Int) ∧ ((dAt L b.prod : Nat) : Int) ≤ (((L.map Pr.pv).length : Nat) : Int) := ⟨Int.le_refl _, Int.natCast_nonneg _, by omega⟩
        have b2 : 0 ≤ ((dAt L b.prod : Nat) : Int) ∧ ((dAt L b.prod : Nat) : Int) ≤ (((L.map Pr.pv).length : Nat) : Int) := ⟨Int.natCast_nonneg _, by omega⟩
        have tt : ((((L.map Pr.pv).take ((dAt L b.prod : Nat) : Int).toNat).drop (0 : Int).toNat)) = (L.take (dAt L b.prod)).map Pr.pv := by rw [Int.toNat_natCast, List.map_take]; rfl
        have td : (L.map Pr.pv).drop ((dAt L b.prod : Nat) : Int).toNat = (L.drop (dAt L b.prod)).map Pr.pv := by rw [Int.toNat_natCast, List.map_drop]
        have tl : ((((L.map Pr.pv).take ((dAt L b.prod : Nat) : Int).toNat).drop (0 : Int).toNat)).length ≤ 1000000000 := by rw [tt, List.length_map, List.length_take]; omega
        have dl : ((L.map Pr.pv).drop ((dAt L b.prod : Nat) : Int).toNat).length ≤ 1000000000 := by rw [td, List.length_map, List.length_drop]; omega
        by_cases hd0 : dAt L b.prod = 0
        · have he : ((((L.map Pr.pv).take ((dAt L b.prod : Nat) : Int).toNat).drop (0 : Int).toNat)) = [] := by rw [tt, hd0]; rfl
          have hq : ([(applyV pr0 false b).pv] ++ (L.map Pr.pv).drop ((dAt L b.prod : Nat) : Int).toNat).length * 1 ≤ 1000000001 := by rw [List.length_append]; show (1 + _) * 1 ≤ _; omega
          have hset : (([(applyV pr0 false b).pv] ++ (L.map Pr.pv).drop ((dAt L b.prod : Nat) : Int).toNat).drop 0).take ([(applyV pr0 false b).pv] ++ (L.map Pr.pv).drop ((dAt L b.prod : Nat) : Int).toNat).length = (L.take (dAt L b.prod) ++ applyV pr0 false b :: L.drop (dAt L b.prod)).map Pr.pv := by
            rw [cut_all, td, hd0]; rfl
          repeat' (first
            | refine Chk.mk (by kernel_rfl) ?_
            | (apply Br.t; · (first | rfl | (simp only [*] <;> rfl)))
            | (apply Br.f; · (first | rfl | (simp only [*] <;> rfl)))
            | refine ⟨_, ⟨rfl, rfl⟩, ?_⟩
            | refine ⟨_, _, ⟨rfl, rfl⟩, rfl, ?_⟩
            | refine ⟨_, Ob.mk b1 ⟨rfl, rfl⟩, ?_⟩
            | refine ⟨_, Ob.mk b2 ⟨rfl, rfl⟩, ?_⟩
            | refine ⟨_, _, BrL.c (Ob.mk (show (0 + 1) * 48 ≤ 140737488355328 by decide) ⟨rfl, rfl⟩), rfl, ?_⟩
            | refine ⟨_, _, BrL.mk (fun _ => ⟨rfl, rfl⟩) (fun hne => absurd he hne), rfl, ?_⟩
            | refine ⟨_, _, Ob.mk ⟨rfl, rfl, rfl, (show (1 + ((L.map Pr.pv).drop ((dAt L b.prod : Nat) : Int).toNat).length) * 48 ≤ 140737488355328 by omega)⟩ ⟨rfl, rfl⟩, rfl, ?_⟩
            | refine ⟨_, Ob.mk (by decide) ⟨rfl, rfl⟩, ?_⟩
            | (refine ⟨_, Br.t ?_ ⟨rfl, rfl⟩, ?_⟩; · (first | rfl | (simp only [*] <;> rfl)))
            | (refine ⟨_, Br.f ?_ ⟨rfl, rfl⟩, ?_⟩; · (first | rfl | (simp only [*] <;> rfl)))
            | refine ⟨_, _, Ob.mk (okst rfl rfl rfl) ⟨rfl, rfl⟩, rfl, ?_⟩
            | refine Ob.mk (okst rfl rfl rfl) ?_
            | refine Ob.mk (by decide) ?_
            | refine Br.mkT (fun c => ?_) (fun c => ?_)
            | refine Br.mkF (fun c => ?_) (fun c => ?_)
            | refine Br.mk (fun c => ?_) (fun c => ?_))
          all_goals
            refine .inr ⟨_, _, _, _, _, _, _, _, _, rfl, rfl, rfl, rfl, 1, dS (L.take (dAt L b.prod) ++ applyV pr0 false b :: L.drop (dAt L b.prod)), Nat.le_refl 1, ?_, rfl, rfl, ?_, h⟩
            · show 1 ≤ List.length _; simp
            · show WkS [some (.cells [.p (.sl .shr 4 ((([(applyV pr0 false b).pv] ++ (L.map Pr.pv).drop ((dAt L b.prod : Nat) : Int).toNat).drop 0).take ([(applyV pr0 false b).pv] ++ (L.map Pr.pv).drop ((dAt L b.prod : Nat) : Int).toNat).length))])] _
              rw [hset]; exact WkS.refl _
        · have hne0 : ((((L.map Pr.pv).take ((dAt L b.prod : Nat) : Int).toNat).drop (0 : Int).toNat)) ≠ [] := by
            rw [tt]; intro e
            have := congrArg List.length e
            rw [List.length_map, List.length_take] at this
            have h0 : min (dAt L b.prod) L.length = 0 := this
            omega
          have hset : (([] ++ ((((L.map Pr.pv).take ((dAt L b.prod : Nat) : Int).toNat).drop (0 : Int).toNat)) ++ [(applyV pr0 false b).pv] ++ (L.map Pr.pv).drop ((dAt L b.prod : Nat) : Int).toNat).drop 0).take ([] ++ ((((L.map Pr.pv).take ((dAt L b.prod : Nat) : Int).toNat).drop (0 : Int).toNat)) ++ [(applyV pr0 false b).pv] ++ (L.map Pr.pv).drop ((dAt L b.prod : Nat) : Int).toNat).length = (L.take (dAt L b.prod) ++ applyV pr0 false b :: L.drop (dAt L b.prod)).map Pr.pv := by
            rw [cut_all, td, tt]; simp
          have l2 : (([] ++ ((((L.map Pr.pv).take ((dAt L b.prod : Nat) : Int).toNat).drop (0 : Int).toNat))).length + 1) * 48 ≤ 140737488355328 := by rw [List.nil_append]; omega
          have l3 : (([] ++ ((((L.map Pr.pv).take ((dAt L b.prod : Nat) : Int).toNat).drop (0 : Int).toNat)) ++ [(applyV pr0 false b).pv]).length + ((L.map Pr.pv).drop ((dAt L b.prod : Nat) : Int).toNat).length) * 48 ≤ 140737488355328 := by
            have h1 : ([(applyV pr0 false b).pv] : List PV).length = 1 := rfl
            rw [List.length_append, List.nil_append, h1]; omega
          repeat' (first
            | refine Chk.mk (by kernel_rfl) ?_
            | (apply Br.t; · (first | rfl | (simp only [*] <;> rfl)))
            | (apply Br.f; · (first | rfl | (simp only [*] <;> rfl)))
            | refine ⟨_, ⟨rfl, rfl⟩, ?_⟩
            | refine ⟨_, _, ⟨rfl, rfl⟩, rfl, ?_⟩
            | refine ⟨_, Ob.mk b1 ⟨rfl, rfl⟩, ?_⟩
            | refine ⟨_, Ob.mk b2 ⟨rfl, rfl⟩, ?_⟩
            | refine ⟨_, _, BrL.mk (fun he => absurd he hne0) (fun _ => Ob.mk (show (0 + (((((L.map Pr.pv).take ((dAt L b.prod : Nat) : Int).toNat).drop (0 : Int).toNat))).length) * 48 ≤ 140737488355328 by omega) ⟨rfl, rfl⟩), rfl, ?_⟩
            | refine ⟨_, _, Ob.mk ⟨rfl, rfl, rfl, l2⟩ ⟨rfl, rfl⟩, rfl, ?_⟩
            | refine ⟨_, _, Ob.mk ⟨rfl, rfl, rfl, l3⟩ ⟨rfl, rfl⟩, rfl, ?_⟩
            | refine ⟨_, Ob.mk (by decide) ⟨rfl, rfl⟩, ?_⟩
            | (refine ⟨_, Br.t ?_ ⟨rfl, rfl⟩, ?_⟩; · (first | rfl | (simp only [*] <;> rfl)))
            | (refine ⟨_, Br.f ?_ ⟨rfl, rfl⟩, ?_⟩; · (first | rfl | (simp only [*] <;> rfl)))
            | refine ⟨_, _, Ob.mk (okst rfl rfl rfl) ⟨rfl, rfl⟩, rfl, ?_⟩
            | refine Ob.mk (okst rfl rfl rfl) ?_
            | refine Ob.mk (by decide) ?_
            | refine Br.mkT (fun c => ?_) (fun c => ?_)
            | refine Br.mkF (fun c => ?_) (fun c => ?_)
            | refine Br.mk (fun c => ?_) (fun c => ?_))
          all_goals
            refine .inr ⟨_, _, _, _, _, _, _, _, _, rfl, rfl, rfl, rfl, 1, dS (L.take (dAt L b.prod) ++ applyV pr0 false b :: L.drop (dAt L b.prod)), Nat.le_refl 1, ?_, rfl, rfl, ?_, h⟩
            · show 1 ≤ List.length _; simp
            · show WkS [some (.cells [.p (.sl .shr 4 ((([] ++ ((((L.map Pr.pv).take ((dAt L b.prod : Nat) : Int).toNat).drop (0 : Int).toNat)) ++ [(applyV pr0 false b).pv] ++ (L.map Pr.pv).drop ((dAt L b.prod : Nat) : Int).toNat).drop 0).take ([] ++ ((((L.map Pr.pv).take ((dAt L b.prod : Nat) : Int).toNat).drop (0 : Int).toNat)) ++ [(applyV pr0 false b).pv] ++ (L.map Pr.pv).drop ((dAt L b.prod : Nat) : Int).toNat).length))])] _
              rw [hset]; exact WkS.refl _
end Go.Proofs.YtjhgmaephpadpaaGreat.AW


open Go Go.Proofs.YtjhgmaephpadpaaGreat.AW Go.Proofs
namespace Go.Proofs.YtjhgmaephpadpaaGreat.AW
set_option maxRecDepth 100000
set_option linter.unusedSimpArgs false
set_option linter.unusedVariables false

/-! ### The least first offset that is open -/
def IsLeast (l : List Int) (r : Int × Bool) : Prop := (r.2 = false ∧ r.1 = -1 ∧ ∀ x, x ∈ l → x < 0) ∨ (r.2 = true ∧ 0 ≤ r.1 ∧ r.1 ∈ l ∧ ∀ x, x ∈ l → 0 ≤ x → r.1 ≤ x)
theorem IsLeast.eq {l : List Int} {r t : Int × Bool} (h : IsLeast l r) (k : IsLeast l t) : r = t := by
  rcases h with ⟨h1, h2, h3⟩ | ⟨h1, h2, h3, h4⟩ <;> rcases k with ⟨k1, k2, k3⟩ | ⟨k1, k2, k3, k4⟩
  · exact Prod.ext (by rw [h2, k2]) (by rw [h1, k1])
  · have := h3 _ k3; omega
  · have := k3 _ h3; omega
  · exact Prod.ext (Int.le_antisymm (h4 _ k3 k2) (k4 _ h3 h2)) (by rw [h1, k1])
theorem IsLeast.perm {l m : List Int} {r : Int × Bool} (hp : l.Perm m) (h : IsLeast l r) : IsLeast m r := by
  rcases h with ⟨h1, h2, h3⟩ | ⟨h1, h2, h3, h4⟩
  · exact .inl ⟨h1, h2, fun x hx => h3 x (hp.mem_iff.2 hx)⟩
  · exact .inr ⟨h1, h2, hp.mem_iff.1 h3, fun x hx => h4 x (hp.mem_iff.2 hx)⟩
theorem IsLeast.nil : IsLeast [] (-1, false) := .inl ⟨rfl, rfl, by simp⟩
theorem IsLeast.skip {l : List Int} {r : Int × Bool} {x : Int} (h : IsLeast l r) (hx : x < 0 ∨ (r.2 = true ∧ r.1 ≤ x)) : IsLeast (l ++ [x]) r := by
  rcases h with ⟨h1, h2, h3⟩ | ⟨h1, h2, h3, h4⟩
  · rcases hx with hx | hx
    · refine .inl ⟨h1, h2, fun y hy => ?_⟩
      rcases List.mem_append.1 hy with hy | hy
      · exact h3 y hy
      · rw [List.mem_singleton.1 hy]; exact hx
    · rw [h1] at hx; cases hx.1
  · refine .inr ⟨h1, h2, List.mem_append_left _ h3, fun y hy h0 => ?_⟩
    rcases List.mem_append.1 hy with hy | hy
    · exact h4 y hy h0
    · rw [List.mem_singleton.1 hy] at h0 ⊢
      rcases hx with hx | hx
      · omega
      · exact hx.2
theorem IsLeast.take {l : List Int} {r : Int × Bool} {x : Int} (h : IsLeast l r) (h0 : 0 ≤ x) (hx : r.2 = false ∨ x ≤ r.1) : IsLeast (l ++ [x]) (x, true) := by
  refine .inr ⟨rfl, h0, List.mem_append_right _ (List.mem_singleton.2 rfl), fun y hy hy0 => ?_⟩
  rcases List.mem_append.1 hy with hy | hy
  · rcases h with ⟨h1, h2, h3⟩ | ⟨h1, h2, h3, h4⟩
    · have := h3 y hy; omega
    · have := h4 y hy hy0
      rcases hx with hx | hx
      · rw [h1] at hx; cases hx
      · show x ≤ y; omega
  · rw [List.mem_singleton.1 hy]; exact Int.le_refl _

/-! ### Entries of a map, one by one -/
structure TInv (es : List TE) (cl : Nat) : Prop where
  nd : (es.map (·.1)).Nodup
  lt : ∀ q, q ∈ es → q.1 < cl
  keys : (es.map (·.2.1)).Nodup
  self : ∀ q, q ∈ es → q.2.2.id = q.2.1
  ok : TOk es
theorem perm_outT {fe : TE} : ∀ {rest : List TE}, (rest.map (·.1)).Nodup → fe ∈ rest → rest.Perm (fe :: rest.filter fun q => !(q.1 == fe.1))
  | x :: r, hn, hm => by
    rw [List.map_cons, List.nodup_cons] at hn
    rcases List.mem_cons.1 hm with rfl | hm
    · have e : r.filter (fun q => !(q.1 == fe.1)) = r := List.filter_eq_self.2 fun q hq => by
        have : q.1 ≠ fe.1 := fun e => hn.1 (e ▸ List.mem_map_of_mem hq)
        simpa using this
      rw [List.filter_cons, e]; simp
    · have hne : x.1 ≠ fe.1 := fun e => hn.1 (e ▸ List.mem_map_of_mem hm)
      rw [List.filter_cons, if_pos (by simpa using hne)]
      exact ((perm_outT hn.2 hm).cons x).trans (List.Perm.swap ..)
theorem nd_eqT {a b : TE} : ∀ {l : List TE}, (l.map (·.1)).Nodup → a ∈ l → b ∈ l → a.1 = b.1 → a = b
  | q :: r, hn, ha, hb, e => by
    rw [List.map_cons, List.nodup_cons] at hn
    obtain ⟨hn1, hn2⟩ := hn
    rcases List.mem_cons.1 ha with ha2 | ha2
    · rcases List.mem_cons.1 hb with hb2 | hb2
      · rw [ha2, hb2]
      · exact (hn1 (List.mem_map.2 ⟨b, hb2, by rw [← e, ha2]⟩)).elim
    · rcases List.mem_cons.1 hb with hb2 | hb2
      · exact (hn1 (List.mem_map.2 ⟨a, ha2, by rw [e, hb2]⟩)).elim
      · exact nd_eqT hn2 ha2 hb2 e
set_option maxHeartbeats 8000000 in
theorem topen_c (es : List TE) (cl : Nat) (hi : TInv es cl) (K : AV → Store → Prop) (h : ∀ r, IsLeast (es.map fun q => q.2.2.op) r → K (ib r) (tbS es cl)) : Cal Tryz.prog 112 [.ref 1 0] (tbS es cl) K := by
  refine Cal.cut ?_
  refine Cal.intro Tryz.func112 (by decide +kernel) rfl rfl ?_
  have hfst : (es.map tent).map (·.1) = es.map (·.1) := by rw [List.map_map]; rfl
  refine LoopX.fam [4, 5, 12] (fun (q : (Int × Bool) × List TE × List TE × Option (Nat × Nat)) => ([(4, .p (ii q.1.1)), (5, .p (.bool q.1.2)), (12, .it 2)],
      [some (.map (.int .i64) (es.map tent) cl), some (.cells [.map 0]), some (.iterM 0 ((es.map tent).map (·.1)) (q.2.2.1.map (·.1), q.2.2.2))]))
    (fun q => (q.2.1 ++ q.2.2.1).Perm es ∧ IsLeast (q.2.1.map fun q => q.2.2.op) q.1) (fun q => q.2.2.1.length) ((-1, false), [], es, none) ⟨List.Perm.refl _, .nil⟩ (Trim.mk' rfl (by rw [← hfst]; rfl) rfl rfl (Nat.le_refl _)) ?_
  rintro ⟨⟨lst, inn⟩, out, rest, cur⟩ ⟨hq, hls⟩
  have hq : (out ++ rest).Perm es := hq
  have hls : IsLeast (out.map fun q => q.2.2.op) (lst, inn) := hls
  refine Ob.mk rfl ?_
  refine BrL.mk (fun (he : rest.map (·.1) = []) => ?_) (fun (hne : rest.map (·.1) ≠ []) => ?_)
  · have hr : rest = [] := List.map_eq_nil_iff.1 he
    subst hr
    rw [List.append_nil] at hq
    refine Br.f rfl ?_
    exact ⟨2, tbS es cl, Nat.le_refl 2, (show (2 : Nat) ≤ 3 by decide), rfl, rfl, WkS.refl _, h _ (hls.perm (hq.map _))⟩
  · refine Any.mk fun b k v hb hkv => ?_
    obtain ⟨fe, hfe, hent⟩ := List.mem_map.1 hkv
    cases hent
    obtain ⟨fe', hfe', hbe⟩ := List.mem_map.1 hb
    have hin : fe ∈ rest := by
      have : fe' = fe := nd_eqT hi.nd (hq.mem_iff.1 (List.mem_append_right _ hfe')) hfe hbe
      rw [← this]; exact hfe'
    have hndr : (rest.map (·.1)).Nodup := by
      have h1 : ((out ++ rest).map (·.1)).Nodup := (hq.map _).nodup_iff.2 hi.nd
      rw [List.map_append] at h1
      exact (List.nodup_append.1 h1).2.1
    have hpo := perm_outT hndr hin
    have hpl := hpo.length_eq
    rw [List.length_cons] at hpl
    refine Br.t rfl ?_
    refine Ob.mk rfl ⟨ii fe.2.1, fe.2.2.pv, Ob.mk hkv ?_⟩
    refine Ob.mk (okst rfl rfl rfl) ?_
    have hpm : ((out ++ [fe]) ++ rest.filter (fun q => !(q.1 == fe.1))).Perm es := by
      rw [List.append_assoc]
      exact ((hpo.symm.append_left out)).trans hq
    have e1 : (rest.filter (fun q => !(q.1 == fe.1))).map (·.1) = (rest.map (·.1)).filter fun x => !(x == fe.1) := by
      rw [List.filter_map]; rfl
    have hlo : (out ++ [fe]).map (fun q => q.2.2.op) = out.map (fun q => q.2.2.op) ++ [fe.2.2.op] := by rw [List.map_append]; rfl
    have hfl : (rest.filter (fun q => !(q.1 == fe.1))).length < rest.length := by omega
    clear h
    have hT : ∀ (l : Int) (d : Bool), IsLeast ((out ++ [fe]).map fun q => q.2.2.op) (l, d) → (∃ y : (Int × Bool) × List TE × List TE × Option (Nat × Nat), ((y.2.1 ++ y.2.2.1).Perm es ∧ IsLeast (y.2.1.map fun q => q.2.2.op) y.1) ∧ y.2.2.1.length < rest.length ∧ y = ((l, d), out ++ [fe], rest.filter (fun q => !(q.1 == fe.1)), some (fe.1, cl))) := fun l d hl => ⟨_, ⟨hpm, hl⟩, hfl, rfl⟩
    cases inn <;> cases h1 : decide (fe.2.2.op ≥ 0) <;> cases h2 : decide (fe.2.2.op < lst)
    all_goals
      have f1 := h1
      have f2 := h2
      simp only [decide_eq_true_eq, decide_eq_false_iff_not] at f1 f2
      repeat' (first
        | (apply Br.t; · (first | rfl | (simp only [*] <;> rfl)))
        | (apply Br.f; · (first | rfl | (simp only [*] <;> rfl)))
        | refine Ob.mk (okst rfl rfl rfl) ?_
        | refine Br.mkT (fun c => ?_) (fun c => ?_)
        | refine Br.mkF (fun c => ?_) (fun c => ?_)
        | refine Br.mk (fun c => ?_) (fun c => ?_))
      first
        | refine ⟨((lst, _), out ++ [fe], rest.filter (fun q => !(q.1 == fe.1)), some (fe.1, cl)), ⟨hpm, ?_⟩, hfl, (show 3 ≤ 3 by decide), Trim.mk' rfl (by show _ = [_, _, some (AObj.iterM 0 _ ((rest.filter (fun q => !(q.1 == fe.1))).map (·.1), _))]; rw [e1]; rfl) rfl rfl (show 3 ≤ 4 by decide)⟩
          show IsLeast ((out ++ [fe]).map fun q => q.2.2.op) _
          rw [hlo]
          exact hls.skip (by first | exact .inl (by omega) | exact .inr ⟨rfl, by show lst ≤ _; omega⟩)
        | refine ⟨((fe.2.2.op, true), out ++ [fe], rest.filter (fun q => !(q.1 == fe.1)), some (fe.1, cl)), ⟨hpm, ?_⟩, hfl, (show 3 ≤ 3 by decide), Trim.mk' rfl (by show _ = [_, _, some (AObj.iterM 0 _ ((rest.filter (fun q => !(q.1 == fe.1))).map (·.1), _))]; rw [e1]; rfl) rfl rfl (show 3 ≤ 4 by decide)⟩
          show IsLeast ((out ++ [fe]).map fun q => q.2.2.op) _
          rw [hlo]
          exact hls.take (by omega) (by first | exact .inl rfl | exact .inr (by show _ ≤ lst; omega))
end Go.Proofs.YtjhgmaephpadpaaGreat.AW


open Go Go.Proofs.YtjhgmaephpadpaaGreat.AW Go.Proofs
namespace Go.Proofs.YtjhgmaephpadpaaGreat.AW
set_option maxRecDepth 100000
set_option linter.unusedSimpArgs false
set_option linter.unusedVariables false

set_option maxHeartbeats 8000000 in
theorem dopen_c (L : List Pr) (hL : L.length ≤ 1000000000) (K : AV → Store → Prop) (h : ∀ r, IsLeast (L.map Pr.op) r → K (ib r) (dS L)) : Cal Tryz.prog 49 [.ref 0 0] (dS L) K := by
  refine Cal.cut ?_
  refine Cal.intro Tryz.func49 (by decide +kernel) rfl rfl ?_
  have hlm := prsL L
  refine LoopX.fam [4, 10, 11, 12] (fun (q : Int × Nat) => ([(4, .p (ii q.1)), (10, .p (prsP L)), (11, .p (ii (L.map Pr.pv).length)), (12, .p (ii (q.2 : Nat)))], dS L))
    (fun q => q.2 ≤ L.length ∧ IsLeast ((L.take q.2).map Pr.op) (q.1, decide (q.1 ≥ 0))) (fun q => L.length - q.2) (-1, 0) ⟨Nat.zero_le _, .nil⟩ (Trim.mk' rfl rfl rfl rfl (Nat.le_refl _)) ?_
  rintro ⟨best, j⟩ ⟨hj, hls⟩
  have hj : j ≤ L.length := hj
  have hls : IsLeast ((L.take j).map Pr.op) (best, decide (best ≥ 0)) := hls
  refine Br.mk (fun hc => ?_) (fun hc => ?_)
  · have hc : (j : Int) < ((L.map Pr.pv).length : Nat) := of_decide_eq_true hc
    have hj1 : j < L.length := by omega
    have ej : IntKind.i64.wrap ((j : Int) + 1) = ((j + 1 : Nat) : Int) := by rw [wrap_i64] <;> omega
    have hg := getP hj1
    have htk : (L.take (j + 1)).map Pr.op = (L.take j).map Pr.op ++ [L[j].op] := by rw [take_succ' hj1, List.map_append]; rfl
    refine Idx.mk _ (Int.natCast_nonneg _) hg ?_
    refine Ob.mk (okst rfl rfl rfl) ?_
    have hm : L.length - (j + 1) < L.length - j := by omega
    clear h hlm
    have hb : decide (best ≥ 0) = !decide (best < 0) := by rw [op0]; simp
    cases h1 : decide (L[j].op ≥ 0) <;> cases h2 : decide (best < 0) <;> cases h3 : decide (L[j].op < best)
    all_goals
      have f1 := h1
      have f2 := h2
      have f3 := h3
      rw [h2] at hb
      rw [hb] at hls
      clear hb
      simp only [decide_eq_true_eq, decide_eq_false_iff_not] at f1 f2 f3
      repeat' (first
        | (apply Br.t; · (first | rfl | (simp only [*] <;> rfl)))
        | (apply Br.f; · (first | rfl | (simp only [*] <;> rfl)))
        | refine Ob.mk (okst rfl rfl rfl) ?_
        | refine Br.mkT (fun c => ?_) (fun c => ?_)
        | refine Br.mkF (fun c => ?_) (fun c => ?_)
        | refine Br.mk (fun c => ?_) (fun c => ?_))
      first
        | refine ⟨(best, j + 1), ⟨hj1, ?_⟩, hm, Nat.le_refl _, Trim.mk' (by show [(4, AV.p (ii best)), _, _, (12, AV.p (ii (IntKind.i64.wrap ((j : Int) + 1))))] = _; rw [ej]; rfl) rfl rfl rfl (show 1 ≤ 2 by decide)⟩
          show IsLeast ((L.take (j + 1)).map Pr.op) (best, decide (best ≥ 0))
          rw [htk]
          first
            | rw [decide_eq_false (show ¬ best ≥ 0 by omega)]
              exact hls.skip (.inl (by omega))
            | rw [decide_eq_true (show best ≥ 0 by omega)]
              exact hls.skip (by first | exact .inl (by omega) | exact .inr ⟨rfl, by show best ≤ _; omega⟩)
        | refine ⟨(L[j].op, j + 1), ⟨hj1, ?_⟩, hm, Nat.le_refl _, Trim.mk' (by show [(4, AV.p (ii L[j].op)), _, _, (12, AV.p (ii (IntKind.i64.wrap ((j : Int) + 1))))] = _; rw [ej]; rfl) rfl rfl rfl (show 1 ≤ 2 by decide)⟩
          show IsLeast ((L.take (j + 1)).map Pr.op) (L[j].op, decide (L[j].op ≥ 0))
          rw [htk, decide_eq_true (show L[j].op ≥ 0 by omega)]
          exact hls.take (by omega) (by first | exact .inl rfl | exact .inr (by show _ ≤ best; omega))
  · have hc : ¬ (j : Int) < ((L.map Pr.pv).length : Nat) := of_decide_eq_false hc
    have : j = L.length := by omega
    subst this
    rw [List.take_length] at hls
    exact ⟨1, dS L, Nat.le_refl 1, (show (1 : Nat) ≤ 1 by decide), rfl, rfl, WkS.refl _, h _ hls⟩

/-! ### A row's table, by the code -/
def tApps : List TE × Nat → List Bt → List TE × Nat
  | q, [] => q
  | q, b :: r => tApps (tApp q.1 q.2 b) r
theorem tApps_snoc : ∀ (L : List Bt) (q : List TE × Nat) (b : Bt), tApps q (L ++ [b]) = tApp (tApps q L).1 (tApps q L).2 b
  | [], q, b => rfl
  | x :: r, q, b => by show tApps (tApp q.1 q.2 x) (r ++ [b]) = _; rw [tApps_snoc r]; rfl
theorem appL_len (l0 : List Tri) (b : Bt) : (appL l0 b).length ≤ 5 := by
  unfold appL; rw [List.length_drop]; omega
theorem applyV_len {p : Pr} (k : Bool) (b : Bt) (h : p.last.length ≤ 1000000000) : (applyV p k b).last.length ≤ 1000000000 := by
  unfold applyV behV
  split
  · show (if _ then p.last else []).length ≤ _
    split
    · exact h
    · decide
  · have := appL_len (if (k && (b.epoch == p.epoch)) = true then p.last else []) b
    show (appL _ b).length ≤ _
    omega
theorem applyV_id (p : Pr) (k : Bool) (b : Bt) : (applyV p k b).id = b.prod := by
  unfold applyV behV; split <;> rfl
theorem tSet_st (n : Int) (x : Pr) : ∀ es : List TE, (tSet es n x).map (·.1) = es.map (·.1)
  | [] => rfl
  | (t, m, p) :: r => by
    unfold tSet
    split
    · rfl
    · rw [List.map_cons, List.map_cons, tSet_st n x r]
theorem tSet_key (n : Int) (x : Pr) : ∀ es : List TE, (tSet es n x).map (·.2.1) = es.map (·.2.1)
  | [] => rfl
  | (t, m, p) :: r => by
    unfold tSet
    split
    · rename_i e; rw [List.map_cons, List.map_cons, e]
    · rw [List.map_cons, List.map_cons, tSet_key n x r]
theorem tSet_mem {n : Int} {x : Pr} {q : TE} : ∀ {es : List TE}, q ∈ tSet es n x → q ∈ es ∨ (q.2 = (n, x) ∧ ∃ p, p ∈ es ∧ p.1 = q.1)
  | (t, m, p) :: r, h => by
    unfold tSet at h
    split at h
    · rcases List.mem_cons.1 h with rfl | h
      · exact .inr ⟨rfl, _, List.mem_cons_self .., rfl⟩
      · exact .inl (List.mem_cons_of_mem _ h)
    · rcases List.mem_cons.1 h with rfl | h
      · exact .inl (List.mem_cons_self ..)
      · rcases tSet_mem h with h | ⟨h1, p', h2, h3⟩
        · exact .inl (List.mem_cons_of_mem _ h)
        · exact .inr ⟨h1, p', List.mem_cons_of_mem _ h2, h3⟩
theorem tGet_no {n : Int} : ∀ {es : List TE}, tGet es n = none → n ∉ es.map (·.2.1)
  | [], _, h => by simp at h
  | (t, m, p) :: r, hg, h => by
    unfold tGet at hg
    split at hg
    · cases hg
    · rename_i e
      rcases List.mem_cons.1 h with h | h
      · exact e h
      · exact tGet_no hg h
theorem TInv.put {es : List TE} {cl : Nat} (h : TInv es cl) {n : Int} {x : Pr} (hx : x.id = n) (hl : x.last.length ≤ 1000000000) : TInv (tPut es cl n x) (tCl es cl n) := by
  unfold tPut tCl
  cases hg : tGet es n with
  | some p =>
    refine ⟨by rw [tSet_st]; exact h.nd, fun q hq => ?_, by rw [tSet_key]; exact h.keys, fun q hq => ?_, fun q hq => ?_⟩
    · rcases tSet_mem hq with hq | ⟨_, p', h2, h3⟩
      · exact h.lt q hq
      · rw [← h3]; exact h.lt _ h2
    · rcases tSet_mem hq with hq | ⟨h1, _⟩
      · exact h.self q hq
      · rw [h1]; exact hx
    · rcases tSet_mem hq with hq | ⟨h1, _⟩
      · exact h.ok q hq
      · rw [h1]; exact hl
  | none =>
    have hno := tGet_no hg
    have hst : cl ∉ es.map (·.1) := fun hm => by
      obtain ⟨q, hq, e⟩ := List.mem_map.1 hm
      have := h.lt q hq; omega
    refine ⟨?_, fun q hq => ?_, ?_, fun q hq => ?_, fun q hq => ?_⟩
    · rw [List.map_append, List.nodup_append]
      exact ⟨h.nd, by simp, fun a ha b hb => by
        have : b = cl := by simpa using hb
        rw [this]; intro e; exact hst (e ▸ ha)⟩
    · rcases List.mem_append.1 hq with hq | hq
      · have := h.lt q hq; show q.1 < cl + 1; omega
      · rw [List.mem_singleton.1 hq]; show cl < cl + 1; omega
    · rw [List.map_append, List.nodup_append]
      exact ⟨h.keys, by simp, fun a ha b hb => by
        have : b = n := by simpa using hb
        rw [this]; intro e; exact hno (e ▸ ha)⟩
    · rcases List.mem_append.1 hq with hq | hq
      · exact h.self q hq
      · rw [List.mem_singleton.1 hq]; exact hx
    · rcases List.mem_append.1 hq with hq | hq
      · exact h.ok q hq
      · rw [List.mem_singleton.1 hq]; exact hl
theorem pr0_len : pr0.last.length ≤ 1000000000 := by decide
theorem TInv.app {es : List TE} {cl : Nat} (h : TInv es cl) (b : Bt) : TInv (tApp es cl b).1 (tApp es cl b).2 := by
  unfold tApp
  split
  · exact h
  · refine h.put (applyV_id ..) (applyV_len _ _ ?_)
    cases hg : tGet es b.prod with
    | none => exact pr0_len
    | some p => exact h.ok.get hg
theorem TInv.nil : TInv [] 0 := ⟨by simp, by simp, by simp, by simp, fun q hq => by cases hq⟩
theorem TInv.apps : ∀ {L : List Bt} {q : List TE × Nat}, TInv q.1 q.2 → TInv (tApps q L).1 (tApps q L).2
  | [], _, h => h
  | b :: r, q, h => TInv.apps (L := r) (q := tApp q.1 q.2 b) (h.app b)
set_option maxHeartbeats 8000000 in
theorem tfold_c (L : List Bt) (hL : L.length ≤ 1000000000) (hb : ∀ b, b ∈ L → b.small) (K : AV → Store → Prop) (h : K (.ref 1 0) (tbS (tApps ([], 0) L).1 (tApps ([], 0) L).2)) : Cal Tryz.prog 59 [.p (rowP L)] [] K := by
  refine Cal.cut ?_
  refine Cal.intro Tryz.func59 (by decide +kernel) rfl rfl ?_
  refine Cal.frameK [] (tnew_c _ fun _ => ?_) rfl rfl rfl
  have hlm := rowL L
  refine LoopX.fam [3, 7, 8, 9] (fun (j : Nat) => ([(3, .ref 1 0), (7, .p (rowP L)), (8, .p (ii (L.map Bt.pv).length)), (9, .p (ii (j : Nat)))], tbS (tApps ([], 0) (L.take j)).1 (tApps ([], 0) (L.take j)).2))
    (fun j => j ≤ L.length) (fun j => L.length - j) 0 (Nat.zero_le _) (Trim.mk' rfl rfl rfl rfl (Nat.le_refl _)) ?_
  intro j hj
  have hj : j ≤ L.length := hj
  refine Br.mk (fun hc => ?_) (fun hc => ?_)
  · have hc : (j : Int) < ((L.map Bt.pv).length : Nat) := of_decide_eq_true hc
    have hj1 : j < L.length := by omega
    have ej : IntKind.i64.wrap ((j : Int) + 1) = ((j + 1 : Nat) : Int) := by rw [wrap_i64] <;> omega
    refine Idx.mk _ (Int.natCast_nonneg _) (getL hj1) ?_
    refine Ob.mk (okst rfl rfl rfl) ?_
    have hin : TInv (tApps ([], 0) (L.take j)).1 (tApps ([], 0) (L.take j)).2 := TInv.nil.apps
    refine Cal.frameK [0, 1] (tapply_c _ _ hin.ok L[j] (hb _ (List.getElem_mem hj1)) _ fun _ => ?_) rfl rfl rfl
    have htk : tApps ([], 0) (L.take (j + 1)) = tApp (tApps ([], 0) (L.take j)).1 (tApps ([], 0) (L.take j)).2 L[j] := by rw [take_succ' hj1, tApps_snoc]
    refine ⟨j + 1, hj1, by show L.length - (j + 1) < L.length - j; omega, Nat.le_refl _, Trim.mk' ?_ ?_ rfl rfl (show 2 ≤ 3 by decide)⟩
    · refine Eq.trans (b := [_, _, _, (9, AV.p (ii (IntKind.i64.wrap ((j : Int) + 1))))]) rfl ?_
      rw [ej]; rfl
    · show _ = tbS (tApps ([], 0) (L.take (j + 1))).1 (tApps ([], 0) (L.take (j + 1))).2
      rw [htk]; rfl
  · have hc : ¬ (j : Int) < ((L.map Bt.pv).length : Nat) := of_decide_eq_false hc
    have : j = L.length := by omega
    subst this
    rw [show tApps ([], 0) L = tApps ([], 0) (L.take L.length) by rw [List.take_length]] at h
    exact ⟨2, _, Nat.zero_le _, (show (2 : Nat) ≤ 2 by decide), rfl, rfl, WkS.refl _, h⟩
end Go.Proofs.YtjhgmaephpadpaaGreat.AW


open Go Go.Proofs.YtjhgmaephpadpaaGreat.AW Go.Proofs
namespace Go.Proofs.YtjhgmaephpadpaaGreat.AW
set_option maxRecDepth 100000
set_option linter.unusedSimpArgs false
set_option linter.unusedVariables false

/-! ### A row's table, by the document -/
abbrev Dr := Int × Int × Int
def drsP (l : List Dr) : PV := .sl .shr 3 (l.map drP)
def dStep (q : List Pr × List Dr) (b : Bt) : List Pr × List Dr := (dApp q.1 b, if (tDrop (dGet q.1 b.prod) b).2 = true then q.2 ++ [(tDrop (dGet q.1 b.prod) b).1] else q.2)
def dFold (L : List Bt) : List Pr × List Dr := L.foldl dStep ([], [])
theorem dFold_snoc (L : List Bt) (b : Bt) : dFold (L ++ [b]) = dStep (dFold L) b := by unfold dFold; rw [List.foldl_append]; rfl
theorem POk.app {L : List Pr} (h : POk L) (b : Bt) : POk (dApp L b) := by
  unfold dApp
  split
  · exact h
  · unfold dPut
    cases hg : dGet L b.prod with
    | some p =>
      intro q hq
      rcases List.mem_or_eq_of_mem_set hq with hq | rfl
      · exact h q hq
      · exact applyV_len _ _ (h.get hg)
    | none =>
      intro q hq
      rcases List.mem_append.1 hq with hq | hq
      · exact h q (List.mem_of_mem_take hq)
      · rcases List.mem_cons.1 hq with rfl | hq
        · exact applyV_len _ _ pr0_len
        · exact h q (List.mem_of_mem_drop hq)
theorem dApp_len (L : List Pr) (b : Bt) : (dApp L b).length ≤ L.length + 1 := by
  unfold dApp
  split
  · omega
  · unfold dPut
    cases dGet L b.prod with
    | some p => rw [List.length_set]; omega
    | none =>
      have := dAt_le L b.prod
      rw [List.length_append, List.length_cons, List.length_take, List.length_drop]; omega
theorem dStep_inv : ∀ (L : List Bt) (q : List Pr × List Dr), POk q.1 → POk (L.foldl dStep q).1 ∧ (L.foldl dStep q).1.length ≤ q.1.length + L.length ∧ (L.foldl dStep q).2.length ≤ q.2.length + L.length
  | [], q, h => ⟨h, Nat.le_refl _, Nat.le_refl _⟩
  | b :: r, q, h => by
    obtain ⟨h1, h2, h3⟩ := dStep_inv r (dStep q b) (h.app b)
    refine ⟨h1, ?_, ?_⟩
    · have := dApp_len q.1 b
      have h2 : (r.foldl dStep (dStep q b)).1.length ≤ (dApp q.1 b).length + r.length := h2
      show (r.foldl dStep (dStep q b)).1.length ≤ q.1.length + (r.length + 1)
      omega
    · have : (dStep q b).2.length ≤ q.2.length + 1 := by
        show (if _ then _ else _ : List Dr).length ≤ _
        split
        · rw [List.length_append]; exact Nat.le_refl _
        · omega
      show (r.foldl dStep (dStep q b)).2.length ≤ q.2.length + (r.length + 1)
      omega
theorem dFold_inv (L : List Bt) : POk (dFold L).1 ∧ (dFold L).1.length ≤ L.length ∧ (dFold L).2.length ≤ L.length := by
  obtain ⟨h1, h2, h3⟩ := dStep_inv L ([], []) (fun p hp => by cases hp)
  exact ⟨h1, by simpa [dFold] using h2, by simpa [dFold] using h3⟩
def dv (j : Nat) (L : List Pr) : PV := match j with | 0 => .sl .nil 0 [] | _ + 1 => prsP L
def dC (j : Nat) (L : List Pr) : Option AObj := some (.cells [.p (dv j L)])
theorem wkNil : WkL [AV.p (PV.sl .nil 0 [])] [AV.p (prsP [])] := ⟨.inr ⟨_, _, rfl, rfl, .nil 0 .shr 4⟩, trivial⟩
set_option maxHeartbeats 8000000 in
theorem dfold_c (L : List Bt) (hL : L.length ≤ 1000000000) (hb : ∀ b, b ∈ L → b.small) (K : AV → Store → Prop) (h : K (.tup [.ref 0 0, .p (drsP (dFold L).2)]) (dS (dFold L).1)) : Cal Tryz.prog 48 [.p (rowP L)] [] K := by
  refine Cal.cut ?_
  refine Cal.tellOut ?_
  refine Cal.frzT 1 ?_
  refine Cal.intro Tryz.func48 (by decide +kernel) rfl rfl ?_
  have hlm := rowL L
  refine LoopX.famW [4, 5, 12, 13, 14] (fun (j : Nat) => ([(4, .ref 0 0), (5, .osl 1 ((dFold (L.take j)).2.map drP).length 0 ((dFold (L.take j)).2.map drP).length), (12, .p (rowP L)), (13, .p (ii (L.map Bt.pv).length)), (14, .p (ii (j : Nat)))], [dC j (dFold (L.take j)).1, some (.buf 3 ((dFold (L.take j)).2.map drP))]))
    (fun j => j ≤ L.length) (fun j => L.length - j) 0 (Nat.zero_le _) (show 1 ≤ 2 by decide) (Trim.wk 1 [(3, none)] rfl (Nat.le_refl _) (.inr rfl) rfl rfl rfl rfl rfl ⟨.inl rfl, .own 1 rfl rfl, .inl rfl, .inl rfl, .inl rfl, trivial⟩) ?_
  intro j hj
  have hj : j ≤ L.length := hj
  obtain ⟨hi1, hi2, hi3⟩ := dFold_inv (L.take j)
  have htl : (L.take j).length ≤ 1000000000 := by rw [List.length_take]; omega
  refine Br.mk (fun hc => ?_) (fun hc => ?_)
  · have hc : (j : Int) < ((L.map Bt.pv).length : Nat) := of_decide_eq_true hc
    have hj1 : j < L.length := by omega
    have ej : IntKind.i64.wrap ((j : Int) + 1) = ((j + 1 : Nat) : Int) := by rw [wrap_i64] <;> omega
    have htk : dFold (L.take (j + 1)) = dStep (dFold (L.take j)) L[j] := by rw [take_succ' hj1, dFold_snoc]
    have hbj := hb _ (List.getElem_mem hj1)
    have hap : ∀ K, K (db (tDrop (dGet (dFold (L.take j)).1 L[j].prod) L[j])) (dS (dApp (dFold (L.take j)).1 L[j])) → Cal Tryz.prog 82 [.ref 0 0, .p L[j].pv] [dC j (dFold (L.take j)).1] K := by
      intro K hk
      cases j with
      | zero => exact Cal.tellIn 0 rfl wkNil (dapply_c [] (by decide) (fun p hp => by cases hp) L[0] hbj K hk)
      | succ j => exact dapply_c _ (by omega) hi1 L[j + 1] hbj K hk
    refine Idx.mk _ (Int.natCast_nonneg _) (getL hj1) ?_
    refine Ob.mk (okst rfl rfl rfl) ?_
    refine Cal.frameK [0] (hap _ fun _ => ?_) rfl rfl rfl
    refine Ob.mk (okst rfl rfl rfl) ?_
    have hdl : ((dFold (L.take j)).2.map drP).length ≤ 1000000000 := by rw [List.length_map]; omega
    refine Br.mk (fun hd => ?_) (fun hd => ?_)
    · refine Ob.mk ⟨rfl, rfl, rfl, (show (((dFold (L.take j)).2.map drP).length + 1) * 24 ≤ 140737488355328 by omega)⟩ ?_
      have e2 : (dFold (L.take (j + 1))).2.map drP = (dFold (L.take j)).2.map drP ++ [drP (tDrop (dGet (dFold (L.take j)).1 L[j].prod) L[j]).1] := by
        rw [htk]; unfold dStep; rw [if_pos hd, List.map_append]; rfl
      refine ⟨j + 1, hj1, by show L.length - (j + 1) < L.length - j; omega, (show 1 ≤ 2 by decide), Trim.mk' ?_ ?_ rfl rfl (show 2 ≤ 4 by decide)⟩
      · refine Eq.trans (b := [_, (5, AV.osl 1 ((dFold (L.take j)).2.map drP ++ [drP (tDrop (dGet (dFold (L.take j)).1 L[j].prod) L[j]).1]).length 0 ((dFold (L.take j)).2.map drP ++ [drP (tDrop (dGet (dFold (L.take j)).1 L[j].prod) L[j]).1]).length), _, _, (14, AV.p (ii (IntKind.i64.wrap ((j : Int) + 1))))]) rfl ?_
        rw [ej, ← e2]; rfl
      · show [_, some (AObj.buf 3 ((dFold (L.take j)).2.map drP ++ [drP (tDrop (dGet (dFold (L.take j)).1 L[j].prod) L[j]).1]) none)] = [some (AObj.cells [.p (prsP (dFold (L.take (j + 1))).1)] none), some (AObj.buf 3 ((dFold (L.take (j + 1))).2.map drP) none)]
        rw [e2, htk]; rfl
    · have e2 : (dFold (L.take (j + 1))).2.map drP = (dFold (L.take j)).2.map drP := by
        rw [htk]; unfold dStep; rw [if_neg (by rw [hd]; decide)]
      refine ⟨j + 1, hj1, by show L.length - (j + 1) < L.length - j; omega, (show 1 ≤ 2 by decide), Trim.mk' ?_ ?_ rfl rfl (show 2 ≤ 4 by decide)⟩
      · refine Eq.trans (b := [_, (5, AV.osl 1 ((dFold (L.take j)).2.map drP).length 0 ((dFold (L.take j)).2.map drP).length), _, _, (14, AV.p (ii (IntKind.i64.wrap ((j : Int) + 1))))]) rfl ?_
        rw [ej, ← e2]; rfl
      · show [_, some (AObj.buf 3 ((dFold (L.take j)).2.map drP) none)] = [some (AObj.cells [.p (prsP (dFold (L.take (j + 1))).1)] none), some (AObj.buf 3 ((dFold (L.take (j + 1))).2.map drP) none)]
        rw [e2, htk]; rfl
  · have hc : ¬ (j : Int) < ((L.map Bt.pv).length : Nat) := of_decide_eq_false hc
    have : j = L.length := by omega
    subst this
    rw [show dFold L = dFold (L.take L.length) by rw [List.take_length]] at h
    refine ⟨_, _, _, _, _, _, _, _, rfl, rfl, rfl, rfl, ?_⟩
    have hv : AV.tup ([AV.ref 0 0, AV.osl 1 ((dFold (L.take L.length)).2.map drP).length 0 ((dFold (L.take L.length)).2.map drP).length].set 1 (.p (.sl .shr 3 ((((dFold (L.take L.length)).2.map drP).drop 0).take ((dFold (L.take L.length)).2.map drP).length)))) = .tup [.ref 0 0, .p (drsP (dFold (L.take L.length)).2)] := by
      rw [cut_all]; rfl
    cases hn : L.length with
    | zero =>
      rw [hn] at h hv
      refine .inr ⟨0, _, [.p (prsP [])], none, rfl, wkNil, 1, dS [], Nat.zero_le _, (show 1 ≤ 2 by decide), rfl, rfl, WkS.refl _, ?_⟩
      exact hv ▸ h
    | succ n =>
      rw [hn] at h hv
      refine .inl ⟨1, dS (dFold (L.take (n + 1))).1, Nat.zero_le _, (show 1 ≤ 2 by decide), rfl, rfl, WkS.refl _, ?_⟩
      exact hv ▸ h
end Go.Proofs.YtjhgmaephpadpaaGreat.AW


open Go Go.Proofs.YtjhgmaephpadpaaGreat.AW Go.Proofs
namespace Go.Proofs.YtjhgmaephpadpaaGreat.AW
set_option maxRecDepth 100000
set_option linter.unusedSimpArgs false
set_option linter.unusedVariables false

/-! ### The document's model -/
def mC (cap st : Int) (L : List Bt) : Option AObj := some (.cells [.p (ii cap), .p (ii st), .p (rowP L)])
def mS (cap st : Int) (L : List Bt) : Store := [mC cap st L]
theorem mend_c (cap st : Int) (L : List Bt) (hL : L.length ≤ 1000000000) (K : AV → Store → Prop) (h : K (.p (ii (endW st L))) (mS cap st L)) : Cal Tryz.prog 35 [.ref 0 0] (mS cap st L) K := by
  refine Cal.intro Tryz.func35 (by decide +kernel) rfl rfl ?_
  repeat' (first
    | refine Chk.mk (by kernel_rfl) ?_
    | (apply Br.t; · (first | rfl | (simp only [*] <;> rfl)))
    | (apply Br.f; · (first | rfl | (simp only [*] <;> rfl)))
    | refine ⟨_, ⟨rfl, rfl⟩, ?_⟩
    | refine ⟨_, _, ⟨rfl, rfl⟩, rfl, ?_⟩
    | refine Or.inl ⟨_, fun s' => end1_c L st (by omega) s' _ ⟨rfl, rfl⟩, rfl, ?_⟩
    | refine ⟨_, Ob.mk (by decide) ⟨rfl, rfl⟩, ?_⟩
    | (refine ⟨_, Br.t ?_ ⟨rfl, rfl⟩, ?_⟩; · (first | rfl | (simp only [*] <;> rfl)))
    | (refine ⟨_, Br.f ?_ ⟨rfl, rfl⟩, ?_⟩; · (first | rfl | (simp only [*] <;> rfl)))
    | refine ⟨_, _, Ob.mk (okst rfl rfl rfl) ⟨rfl, rfl⟩, rfl, ?_⟩
    | refine Ob.mk (okst rfl rfl rfl) ?_
    | refine Ob.mk (by decide) ?_
    | refine Br.mkT (fun c => ?_) (fun c => ?_)
    | refine Br.mkF (fun c => ?_) (fun c => ?_)
    | refine Br.mk (fun c => ?_) (fun c => ?_))
  exact h
def sizeS (L : List Bt) : Int := L.foldl (fun n b => IntKind.i64.wrap (n + sizeV b)) 0
set_option maxHeartbeats 4000000 in
theorem msize_c (cap st : Int) (L : List Bt) (hL : L.length ≤ 1000000000) (hb : ∀ b, b ∈ L → b.small) (K : AV → Store → Prop) (h : K (.p (ii (sizeS L))) (mS cap st L)) : Cal Tryz.prog 65 [.ref 0 0] (mS cap st L) K := by
  refine Cal.cut ?_
  refine Cal.intro Tryz.func65 (by decide +kernel) rfl rfl ?_
  have hlm := rowL L
  refine LoopX.fam [3, 9, 10, 11] (fun (j : Nat) => ([(3, .p (ii (sizeS (L.take j)))), (9, .p (rowP L)), (10, .p (ii (L.map Bt.pv).length)), (11, .p (ii (j : Nat)))], mS cap st L)) (fun j => j ≤ L.length) (fun j => L.length - j) 0 (Nat.zero_le _) (Trim.mk' rfl rfl rfl rfl (Nat.le_refl _)) ?_
  intro j hj
  have hj : j ≤ L.length := hj
  refine Br.mk (fun hc => ?_) (fun hc => ?_)
  · have hc : (j : Int) < ((L.map Bt.pv).length : Nat) := of_decide_eq_true hc
    have hj1 : j < L.length := by omega
    have ej : IntKind.i64.wrap ((j : Int) + 1) = ((j + 1 : Nat) : Int) := by rw [wrap_i64] <;> omega
    refine Idx.mk _ (Int.natCast_nonneg _) (getL hj1) ?_
    refine Ob.mk (okst rfl rfl rfl) ?_
    refine size_c L[j] (hb _ (List.getElem_mem hj1)) _ _ ?_
    refine ⟨j + 1, hj1, by show L.length - (j + 1) < L.length - j; omega, Nat.le_refl _, Trim.mk' ?_ rfl rfl rfl (show 1 ≤ 2 by decide)⟩
    refine Eq.trans (b := [(3, AV.p (ii (IntKind.i64.wrap (sizeS (L.take j) + sizeV L[j])))), _, _, (11, AV.p (ii (IntKind.i64.wrap ((j : Int) + 1))))]) rfl ?_
    rw [ej, show IntKind.i64.wrap (sizeS (L.take j) + sizeV L[j]) = sizeS (L.take (j + 1)) by unfold sizeS; rw [take_succ' hj1, List.foldl_append]; rfl]; rfl
  · have hc : ¬ (j : Int) < ((L.map Bt.pv).length : Nat) := of_decide_eq_false hc
    have : j = L.length := by omega
    subst this
    rw [show sizeS L = sizeS (L.take L.length) by rw [List.take_length]] at h
    exact ⟨1, mS cap st L, Nat.le_refl 1, (show 1 ≤ 1 by decide), rfl, rfl, WkS.refl _, h⟩
theorem mprods_c (cap st : Int) (L : List Bt) (hL : L.length ≤ 1000000000) (hb : ∀ b, b ∈ L → b.small) (K : AV → Store → Prop) (h : K (.p (prsP (dFold L).1)) (mS cap st L)) : Cal Tryz.prog 31 [.ref 0 0] (mS cap st L) K := by
  refine Cal.cut ?_
  refine Cal.intro Tryz.func31 (by decide +kernel) rfl rfl ?_
  refine Cal.frameK [] (dfold_c L hL hb _ fun _ => ?_) rfl rfl rfl
  exact ⟨1, mS cap st L, Nat.le_refl 1, (show 1 ≤ 2 by decide), rfl, rfl, WkS.refl _, h⟩

/-- A batch put to a row. -/
def putV (cap st : Int) (L : List Bt) (b : Bt) : (Int × Int) × List Bt :=
  if ((tChk (dGet (dFold L).1 b.prod) b).2 != 0) = true then ((-1, (tChk (dGet (dFold L).1 b.prod) b).2), L)
  else if decide ((tChk (dGet (dFold L).1 b.prod) b).1 ≥ 0) = true then (((tChk (dGet (dFold L).1 b.prod) b).1, 0), L)
  else if decide (IntKind.i64.wrap (sizeS L + sizeV b) > cap) = true then ((-1, 17), L)
  else if decide (IntKind.i64.wrap (endW st L + cntV b) > 1099511627776) = true then ((-1, 18), L)
  else ((b.base, 0), L ++ [b])
theorem bt_el {L : List Bt} : ∀ y, y ∈ L.map Bt.pv → El 7 y := fun y hy => by
  obtain ⟨u, _, rfl⟩ := List.mem_map.1 hy; exact ⟨rfl, rfl⟩
theorem rec_el {L : List KV} : ∀ y, y ∈ L.map rec2 → El 2 y := fun y hy => by
  obtain ⟨u, _, rfl⟩ := List.mem_map.1 hy; exact ⟨rfl, rfl⟩
theorem wk_row (L : List Bt) (b : Bt) {c : PV} (hc : WkD c (rcP b.recs)) (h1 : c.one = true) : WkD (.sl .shr 7 (L.map Bt.pv ++ [PV.agg [ii b.base, ii b.prod, ii b.epoch, ii b.seq, .bool b.txn, ii b.mark, c]])) (rowP (L ++ [b])) := by
  refine .sl .shr 7 _ _ (by simp) bt_el ?_
  rw [List.map_append]
  show WkDs (List.flatMap PV.cells _) (List.flatMap PV.cells _)
  rw [List.flatMap_append, List.flatMap_append]
  exact (wkds_refl _).append (.cons _ _ _ _ (.refl _) (.cons _ _ _ _ (.refl _) (.cons _ _ _ _ (.refl _) (.cons _ _ _ _ (.refl _) (.cons _ _ _ _ (.refl _) (.cons _ _ _ _ (.refl _) (.cons _ _ _ _ hc .nil)))))))
theorem tChk_shrt {o : Option Pr} {b : Bt} (h : (tChk o b).2 = 0) : b.shrt := by
  unfold tChk at h
  split at h
  · exact right_shrt h
  · rename_i h1; exact right_shrt (by simpa using h1)
set_option maxHeartbeats 8000000 in
theorem mput_c (cap st : Int) (L : List Bt) (hL : L.length + 1 ≤ 1000000000) (hb : ∀ b, b ∈ L → b.small) (b : Bt) (hbs : b.small) (K : AV → Store → Prop) (h : K (i2 (putV cap st L b).1) (mS cap st (putV cap st L b).2)) : Cal Tryz.prog 34 [.ref 0 0, .p b.pv] (mS cap st L) K := by
  refine Cal.cut ?_
  refine Cal.tellOut ?_
  refine Cal.frzF 0 2 ?_
  refine Cal.intro Tryz.func34 (by decide +kernel) rfl rfl ?_
  obtain ⟨f1, f2, f3⟩ := dFold_inv L
  have hL' : L.length ≤ 1000000000 := by omega
  have hlm := rowL L
  have hrm : (b.recs.map rec2).length = b.recs.length := List.length_map ..
  have hrE : b.recs.map rec2 = [] → WkD (.sl .clip 2 []) (rcP b.recs) := fun e => by
    unfold rcP; rw [e]; exact .sl .clip 2 [] [] rfl (by simp) .nil
  have hrN : WkD (.sl .shr 2 ((([] ++ b.recs.map rec2).drop 0).take ([] ++ b.recs.map rec2).length)) (rcP b.recs) := by rw [cut_all]; exact .refl _
  refine Cal.frameK [] (dfold_c L hL' hb _ fun _ => ?_) rfl rfl rfl
  refine Cal.frameK [2] (dcheck_c _ (by omega) f1 b hbs _ fun _ => ?_) rfl rfl rfl
  unfold putV at h
  obtain ⟨c, hc⟩ : ∃ c, c = tChk (dGet (dFold L).1 b.prod) b := ⟨_, rfl⟩
  rw [← hc] at h ⊢
  have hbl : (c.2 != 0) = false → b.recs.length ≤ 300 := fun e => (tChk_shrt (by rw [← hc]; simpa using e)).1
  obtain ⟨c1, c2⟩ := c
  clear hc
  cases k1 : (c2 != 0) with
  | true =>
    simp only [k1, if_true] at h
    repeat' (first
      | (apply Br.t; · (first | rfl | (simp only [*] <;> rfl)))
      | (apply Br.f; · (first | rfl | (simp only [*] <;> rfl)))
      | refine Ob.mk (okst rfl rfl rfl) ?_
      | exact .inl (.inl ⟨1, mS cap st L, Nat.le_refl 1, (show 1 ≤ 3 by decide), rfl, rfl, WkS.refl _, h⟩)
      | refine Br.mkT (fun c => ?_) (fun c => ?_)
      | refine Br.mkF (fun c => ?_) (fun c => ?_)
      | refine Br.mk (fun c => ?_) (fun c => ?_))
  | false =>
    have hbl := hbl k1
    simp only [k1, if_false, Bool.false_eq_true] at h
    cases k2 : decide (c1 ≥ 0) with
    | true =>
      simp only [k2, if_true] at h
      repeat' (first
        | (apply Br.t; · (first | rfl | (simp only [*] <;> rfl)))
        | (apply Br.f; · (first | rfl | (simp only [*] <;> rfl)))
        | refine Ob.mk (okst rfl rfl rfl) ?_
        | exact .inl (.inl ⟨1, mS cap st L, Nat.le_refl 1, (show 1 ≤ 3 by decide), rfl, rfl, WkS.refl _, h⟩)
        | refine Br.mkT (fun c => ?_) (fun c => ?_)
        | refine Br.mkF (fun c => ?_) (fun c => ?_)
        | refine Br.mk (fun c => ?_) (fun c => ?_))
    | false =>
      simp only [k2, if_false, Bool.false_eq_true] at h
      repeat' (first
        | (apply Br.t; · (first | rfl | (simp only [*] <;> rfl)))
        | (apply Br.f; · (first | rfl | (simp only [*] <;> rfl)))
        | refine Ob.mk (okst rfl rfl rfl) ?_
        | refine Br.mkT (fun c => ?_) (fun c => ?_)
        | refine Br.mkF (fun c => ?_) (fun c => ?_)
        | refine Br.mk (fun c => ?_) (fun c => ?_))
      cases k3 : decide (IntKind.i64.wrap (sizeS L + sizeV b) > cap) with
      | true =>
        simp only [k3, if_true] at h
        repeat' (first
          | refine Chk.mk (by kernel_rfl) ?_
          | (apply Br.t; · (first | rfl | (simp only [*] <;> rfl)))
          | (apply Br.f; · (first | rfl | (simp only [*] <;> rfl)))
          | refine ⟨_, ⟨rfl, rfl⟩, ?_⟩
          | refine ⟨_, _, ⟨rfl, rfl⟩, rfl, ?_⟩
          | refine .inr <| .inr ⟨[0], _, _, _, msize_c cap st L hL' hb _ ⟨rfl, rfl⟩, rfl, rfl, rfl, ?_⟩
          | refine Or.inl ⟨_, fun s' => size_c b hbs s' _ ⟨rfl, rfl⟩, rfl, ?_⟩
          | refine ⟨_, Ob.mk (by decide) ⟨rfl, rfl⟩, ?_⟩
          | (refine ⟨_, Br.t ?_ ⟨rfl, rfl⟩, ?_⟩; · (first | rfl | (simp only [*] <;> rfl)))
          | (refine ⟨_, Br.f ?_ ⟨rfl, rfl⟩, ?_⟩; · (first | rfl | (simp only [*] <;> rfl)))
          | refine ⟨_, _, Ob.mk (okst rfl rfl rfl) ⟨rfl, rfl⟩, rfl, ?_⟩
          | refine Ob.mk (okst rfl rfl rfl) ?_
          | refine Ob.mk (by decide) ?_
          | refine Br.mkT (fun c => ?_) (fun c => ?_)
          | refine Br.mkF (fun c => ?_) (fun c => ?_)
          | refine Br.mk (fun c => ?_) (fun c => ?_))
        exact .inl (.inl ⟨1, mS cap st L, Nat.le_refl 1, (show 1 ≤ 3 by decide), rfl, rfl, WkS.refl _, h⟩)
      | false =>
        simp only [k3, if_false, Bool.false_eq_true] at h
        cases k4 : decide (IntKind.i64.wrap (endW st L + cntV b) > 1099511627776) with
        | true =>
          simp only [k4, if_true] at h
          repeat' (first
            | refine Chk.mk (by kernel_rfl) ?_
            | (apply Br.t; · (first | rfl | (simp only [*] <;> rfl)))
            | (apply Br.f; · (first | rfl | (simp only [*] <;> rfl)))
            | refine ⟨_, ⟨rfl, rfl⟩, ?_⟩
            | refine ⟨_, _, ⟨rfl, rfl⟩, rfl, ?_⟩
            | refine .inr <| .inr ⟨[0], _, _, _, msize_c cap st L hL' hb _ ⟨rfl, rfl⟩, rfl, rfl, rfl, ?_⟩
            | refine Or.inl ⟨_, fun s' => size_c b hbs s' _ ⟨rfl, rfl⟩, rfl, ?_⟩
            | refine ⟨_, Ob.mk (by decide) ⟨rfl, rfl⟩, ?_⟩
            | (refine ⟨_, Br.t ?_ ⟨rfl, rfl⟩, ?_⟩; · (first | rfl | (simp only [*] <;> rfl)))
            | (refine ⟨_, Br.f ?_ ⟨rfl, rfl⟩, ?_⟩; · (first | rfl | (simp only [*] <;> rfl)))
            | refine ⟨_, _, Ob.mk (okst rfl rfl rfl) ⟨rfl, rfl⟩, rfl, ?_⟩
            | refine Ob.mk (okst rfl rfl rfl) ?_
            | refine Ob.mk (by decide) ?_
            | refine Br.mkT (fun c => ?_) (fun c => ?_)
            | refine Br.mkF (fun c => ?_) (fun c => ?_)
            | refine Br.mk (fun c => ?_) (fun c => ?_))
          repeat' (first
            | refine Chk.mk (by kernel_rfl) ?_
            | (apply Br.t; · (first | rfl | (simp only [*] <;> rfl)))
            | (apply Br.f; · (first | rfl | (simp only [*] <;> rfl)))
            | refine ⟨_, ⟨rfl, rfl⟩, ?_⟩
            | refine ⟨_, _, ⟨rfl, rfl⟩, rfl, ?_⟩
            | refine .inr <| .inr ⟨[0], _, _, _, mend_c cap st L hL' _ ⟨rfl, rfl⟩, rfl, rfl, rfl, ?_⟩
            | refine Or.inl ⟨_, fun s' => count_c b s' _ ⟨rfl, rfl⟩, rfl, ?_⟩
            | refine ⟨_, Ob.mk (by decide) ⟨rfl, rfl⟩, ?_⟩
            | (refine ⟨_, Br.t ?_ ⟨rfl, rfl⟩, ?_⟩; · (first | rfl | (simp only [*] <;> rfl)))
            | (refine ⟨_, Br.f ?_ ⟨rfl, rfl⟩, ?_⟩; · (first | rfl | (simp only [*] <;> rfl)))
            | refine ⟨_, _, Ob.mk (okst rfl rfl rfl) ⟨rfl, rfl⟩, rfl, ?_⟩
            | refine Ob.mk (okst rfl rfl rfl) ?_
            | refine Ob.mk (by decide) ?_
            | refine Br.mkT (fun c => ?_) (fun c => ?_)
            | refine Br.mkF (fun c => ?_) (fun c => ?_)
            | refine Br.mk (fun c => ?_) (fun c => ?_))
          exact .inl (.inl ⟨1, mS cap st L, Nat.le_refl 1, (show 1 ≤ 3 by decide), rfl, rfl, WkS.refl _, h⟩)
        | false =>
          simp only [k4, if_false, Bool.false_eq_true] at h
          repeat' (first
            | refine Chk.mk (by kernel_rfl) ?_
            | (apply Br.t; · (first | rfl | (simp only [*] <;> rfl)))
            | (apply Br.f; · (first | rfl | (simp only [*] <;> rfl)))
            | refine ⟨_, ⟨rfl, rfl⟩, ?_⟩
            | refine ⟨_, _, ⟨rfl, rfl⟩, rfl, ?_⟩
            | refine .inr <| .inr ⟨[0], _, _, _, msize_c cap st L hL' hb _ ⟨rfl, rfl⟩, rfl, rfl, rfl, ?_⟩
            | refine Or.inl ⟨_, fun s' => size_c b hbs s' _ ⟨rfl, rfl⟩, rfl, ?_⟩
            | refine ⟨_, Ob.mk (by decide) ⟨rfl, rfl⟩, ?_⟩
            | (refine ⟨_, Br.t ?_ ⟨rfl, rfl⟩, ?_⟩; · (first | rfl | (simp only [*] <;> rfl)))
            | (refine ⟨_, Br.f ?_ ⟨rfl, rfl⟩, ?_⟩; · (first | rfl | (simp only [*] <;> rfl)))
            | refine ⟨_, _, Ob.mk (okst rfl rfl rfl) ⟨rfl, rfl⟩, rfl, ?_⟩
            | refine Ob.mk (okst rfl rfl rfl) ?_
            | refine Ob.mk (by decide) ?_
            | refine Br.mkT (fun c => ?_) (fun c => ?_)
            | refine Br.mkF (fun c => ?_) (fun c => ?_)
            | refine Br.mk (fun c => ?_) (fun c => ?_))
          repeat' (first
            | refine Chk.mk (by kernel_rfl) ?_
            | (apply Br.t; · (first | rfl | (simp only [*] <;> rfl)))
            | (apply Br.f; · (first | rfl | (simp only [*] <;> rfl)))
            | refine ⟨_, ⟨rfl, rfl⟩, ?_⟩
            | refine ⟨_, _, ⟨rfl, rfl⟩, rfl, ?_⟩
            | refine .inr <| .inr ⟨[0], _, _, _, mend_c cap st L hL' _ ⟨rfl, rfl⟩, rfl, rfl, rfl, ?_⟩
            | refine Or.inl ⟨_, fun s' => count_c b s' _ ⟨rfl, rfl⟩, rfl, ?_⟩
            | refine ⟨_, Ob.mk (by decide) ⟨rfl, rfl⟩, ?_⟩
            | (refine ⟨_, Br.t ?_ ⟨rfl, rfl⟩, ?_⟩; · (first | rfl | (simp only [*] <;> rfl)))
            | (refine ⟨_, Br.f ?_ ⟨rfl, rfl⟩, ?_⟩; · (first | rfl | (simp only [*] <;> rfl)))
            | refine ⟨_, _, Ob.mk (okst rfl rfl rfl) ⟨rfl, rfl⟩, rfl, ?_⟩
            | refine Ob.mk (okst rfl rfl rfl) ?_
            | refine Ob.mk (by decide) ?_
            | refine Br.mkT (fun c => ?_) (fun c => ?_)
            | refine Br.mkF (fun c => ?_) (fun c => ?_)
            | refine Br.mk (fun c => ?_) (fun c => ?_))
          by_cases hL0 : L = []
          · have hLe : L.map Bt.pv = [] := by rw [hL0]; rfl
            refine BrL.mk (fun hre => ?_) (fun hrn => ?_)
            · skip
              refine Ob.mk (okst rfl rfl rfl) ?_
              repeat' (first
                | refine Chk.mk (by kernel_rfl) ?_
                | (apply Br.t; · (first | rfl | (simp only [*] <;> rfl)))
                | (apply Br.f; · (first | rfl | (simp only [*] <;> rfl)))
                | refine ⟨_, ⟨rfl, rfl⟩, ?_⟩
                | refine ⟨_, _, ⟨rfl, rfl⟩, rfl, ?_⟩
                | refine ⟨_, _, BrL.mk (fun _ => ⟨rfl, rfl⟩) (fun hne => absurd hLe hne), rfl, ?_⟩
                | refine ⟨_, _, BrL.c (Ob.mk (show (0 + 1) * 72 ≤ 140737488355328 by decide) ⟨rfl, rfl⟩), rfl, ?_⟩
                | refine ⟨_, _, ⟨rfl, rfl⟩, rfl, ?_⟩
                | refine ⟨_, Ob.mk (by decide) ⟨rfl, rfl⟩, ?_⟩
                | (refine ⟨_, Br.t ?_ ⟨rfl, rfl⟩, ?_⟩; · (first | rfl | (simp only [*] <;> rfl)))
                | (refine ⟨_, Br.f ?_ ⟨rfl, rfl⟩, ?_⟩; · (first | rfl | (simp only [*] <;> rfl)))
                | refine ⟨_, _, Ob.mk (okst rfl rfl rfl) ⟨rfl, rfl⟩, rfl, ?_⟩
                | refine Ob.mk (okst rfl rfl rfl) ?_
                | refine Ob.mk (by decide) ?_
                | refine Br.mkT (fun c => ?_) (fun c => ?_)
                | refine Br.mkF (fun c => ?_) (fun c => ?_)
                | refine Br.mk (fun c => ?_) (fun c => ?_))
              have hw : WkL [.p (ii cap), .p (ii st), .p (.sl .shr 7 (([PV.agg [ii b.base, ii b.prod, ii b.epoch, ii b.seq, .bool b.txn, ii b.mark, (.sl .clip 2 [])]].drop 0).take [PV.agg [ii b.base, ii b.prod, ii b.epoch, ii b.seq, .bool b.txn, ii b.mark, (.sl .clip 2 [])]].length))] [.p (ii cap), .p (ii st), .p (rowP (L ++ [b]))] := by
                rw [cut_all]
                refine ⟨.inl rfl, .inl rfl, .inr ⟨_, _, rfl, rfl, ?_⟩, trivial⟩
                have := wk_row L b (hrE hre) rfl
                rw [hLe] at this
                exact this
              exact .inr ⟨_, _, _, _, _, _, _, _, _, rfl, rfl, rfl, rfl, .inr ⟨0, _, [.p (ii cap), .p (ii st), .p (rowP (L ++ [b]))], none, rfl, hw, 1, mS cap st (L ++ [b]), Nat.le_refl 1, (show 1 ≤ 4 by decide), rfl, rfl, WkS.refl _, h⟩⟩
            · refine Ob.mk (show (0 + (b.recs.map rec2).length) * 32 ≤ 140737488355328 by omega) ?_
              refine Ob.mk (okst rfl rfl rfl) ?_
              repeat' (first
                | refine Chk.mk (by kernel_rfl) ?_
                | (apply Br.t; · (first | rfl | (simp only [*] <;> rfl)))
                | (apply Br.f; · (first | rfl | (simp only [*] <;> rfl)))
                | refine ⟨_, ⟨rfl, rfl⟩, ?_⟩
                | refine ⟨_, _, ⟨rfl, rfl⟩, rfl, ?_⟩
                | refine ⟨_, _, BrL.mk (fun _ => ⟨rfl, rfl⟩) (fun hne => absurd hLe hne), rfl, ?_⟩
                | refine ⟨_, _, BrL.c (Ob.mk (show (0 + 1) * 72 ≤ 140737488355328 by decide) ⟨rfl, rfl⟩), rfl, ?_⟩
                | refine ⟨_, _, Or.inl (Ob.mk rfl ⟨rfl, rfl⟩), rfl, ?_⟩
                | refine ⟨_, Ob.mk (by decide) ⟨rfl, rfl⟩, ?_⟩
                | (refine ⟨_, Br.t ?_ ⟨rfl, rfl⟩, ?_⟩; · (first | rfl | (simp only [*] <;> rfl)))
                | (refine ⟨_, Br.f ?_ ⟨rfl, rfl⟩, ?_⟩; · (first | rfl | (simp only [*] <;> rfl)))
                | refine ⟨_, _, Ob.mk (okst rfl rfl rfl) ⟨rfl, rfl⟩, rfl, ?_⟩
                | refine Ob.mk (okst rfl rfl rfl) ?_
                | refine Ob.mk (by decide) ?_
                | refine Br.mkT (fun c => ?_) (fun c => ?_)
                | refine Br.mkF (fun c => ?_) (fun c => ?_)
                | refine Br.mk (fun c => ?_) (fun c => ?_))
              have hw : WkL [.p (ii cap), .p (ii st), .p (.sl .shr 7 (([PV.agg [ii b.base, ii b.prod, ii b.epoch, ii b.seq, .bool b.txn, ii b.mark, (.sl .shr 2 ((([] ++ b.recs.map rec2).drop 0).take ([] ++ b.recs.map rec2).length))]].drop 0).take [PV.agg [ii b.base, ii b.prod, ii b.epoch, ii b.seq, .bool b.txn, ii b.mark, (.sl .shr 2 ((([] ++ b.recs.map rec2).drop 0).take ([] ++ b.recs.map rec2).length))]].length))] [.p (ii cap), .p (ii st), .p (rowP (L ++ [b]))] := by
                rw [cut_all]
                refine ⟨.inl rfl, .inl rfl, .inr ⟨_, _, rfl, rfl, ?_⟩, trivial⟩
                have := wk_row L b hrN rfl
                rw [hLe] at this
                exact this
              exact .inr ⟨_, _, _, _, _, _, _, _, _, rfl, rfl, rfl, rfl, .inr ⟨0, _, [.p (ii cap), .p (ii st), .p (rowP (L ++ [b]))], none, rfl, hw, 1, mS cap st (L ++ [b]), Nat.le_refl 1, (show 1 ≤ 5 by decide), rfl, rfl, WkS.refl _, h⟩⟩
          · have hLn : L.map Bt.pv ≠ [] := fun e => hL0 (List.map_eq_nil_iff.1 e)
            refine BrL.mk (fun hre => ?_) (fun hrn => ?_)
            · skip
              have l1 : (0 + (L.map Bt.pv).length) * 72 ≤ 140737488355328 := by omega
              have l2 : (([] ++ L.map Bt.pv).length + 1) * 72 ≤ 140737488355328 := by rw [List.nil_append]; omega
              refine Ob.mk (okst rfl rfl rfl) ?_
              repeat' (first
                | refine Chk.mk (by kernel_rfl) ?_
                | (apply Br.t; · (first | rfl | (simp only [*] <;> rfl)))
                | (apply Br.f; · (first | rfl | (simp only [*] <;> rfl)))
                | refine ⟨_, ⟨rfl, rfl⟩, ?_⟩
                | refine ⟨_, _, ⟨rfl, rfl⟩, rfl, ?_⟩
                | refine ⟨_, _, BrL.mk (fun he => absurd he hLn) (fun _ => Ob.mk l1 ⟨rfl, rfl⟩), rfl, ?_⟩
                | refine ⟨_, _, Ob.mk ⟨rfl, rfl, rfl, l2⟩ ⟨rfl, rfl⟩, rfl, ?_⟩
                | refine ⟨_, _, ⟨rfl, rfl⟩, rfl, ?_⟩
                | refine ⟨_, Ob.mk (by decide) ⟨rfl, rfl⟩, ?_⟩
                | (refine ⟨_, Br.t ?_ ⟨rfl, rfl⟩, ?_⟩; · (first | rfl | (simp only [*] <;> rfl)))
                | (refine ⟨_, Br.f ?_ ⟨rfl, rfl⟩, ?_⟩; · (first | rfl | (simp only [*] <;> rfl)))
                | refine ⟨_, _, Ob.mk (okst rfl rfl rfl) ⟨rfl, rfl⟩, rfl, ?_⟩
                | refine Ob.mk (okst rfl rfl rfl) ?_
                | refine Ob.mk (by decide) ?_
                | refine Br.mkT (fun c => ?_) (fun c => ?_)
                | refine Br.mkF (fun c => ?_) (fun c => ?_)
                | refine Br.mk (fun c => ?_) (fun c => ?_))
              have hw : WkL [.p (ii cap), .p (ii st), .p (.sl .shr 7 ((([] ++ L.map Bt.pv ++ [PV.agg [ii b.base, ii b.prod, ii b.epoch, ii b.seq, .bool b.txn, ii b.mark, (.sl .clip 2 [])]]).drop 0).take ([] ++ L.map Bt.pv ++ [PV.agg [ii b.base, ii b.prod, ii b.epoch, ii b.seq, .bool b.txn, ii b.mark, (.sl .clip 2 [])]]).length))] [.p (ii cap), .p (ii st), .p (rowP (L ++ [b]))] := by
                rw [cut_all]
                refine ⟨.inl rfl, .inl rfl, .inr ⟨_, _, rfl, rfl, ?_⟩, trivial⟩
                exact wk_row L b (hrE hre) rfl
              exact .inr ⟨_, _, _, _, _, _, _, _, _, rfl, rfl, rfl, rfl, .inr ⟨0, _, [.p (ii cap), .p (ii st), .p (rowP (L ++ [b]))], none, rfl, hw, 1, mS cap st (L ++ [b]), Nat.le_refl 1, (show 1 ≤ 4 by decide), rfl, rfl, WkS.refl _, h⟩⟩
            · refine Ob.mk (show (0 + (b.recs.map rec2).length) * 32 ≤ 140737488355328 by omega) ?_
              have l1 : (0 + (L.map Bt.pv).length) * 72 ≤ 140737488355328 := by omega
              have l2 : (([] ++ L.map Bt.pv).length + 1) * 72 ≤ 140737488355328 := by rw [List.nil_append]; omega
              refine Ob.mk (okst rfl rfl rfl) ?_
              repeat' (first
                | refine Chk.mk (by kernel_rfl) ?_
                | (apply Br.t; · (first | rfl | (simp only [*] <;> rfl)))
                | (apply Br.f; · (first | rfl | (simp only [*] <;> rfl)))
                | refine ⟨_, ⟨rfl, rfl⟩, ?_⟩
                | refine ⟨_, _, ⟨rfl, rfl⟩, rfl, ?_⟩
                | refine ⟨_, _, BrL.mk (fun he => absurd he hLn) (fun _ => Ob.mk l1 ⟨rfl, rfl⟩), rfl, ?_⟩
                | refine ⟨_, _, Ob.mk ⟨rfl, rfl, rfl, l2⟩ ⟨rfl, rfl⟩, rfl, ?_⟩
                | refine ⟨_, _, Or.inl (Ob.mk rfl ⟨rfl, rfl⟩), rfl, ?_⟩
                | refine ⟨_, Ob.mk (by decide) ⟨rfl, rfl⟩, ?_⟩
                | (refine ⟨_, Br.t ?_ ⟨rfl, rfl⟩, ?_⟩; · (first | rfl | (simp only [*] <;> rfl)))
                | (refine ⟨_, Br.f ?_ ⟨rfl, rfl⟩, ?_⟩; · (first | rfl | (simp only [*] <;> rfl)))
                | refine ⟨_, _, Ob.mk (okst rfl rfl rfl) ⟨rfl, rfl⟩, rfl, ?_⟩
                | refine Ob.mk (okst rfl rfl rfl) ?_
                | refine Ob.mk (by decide) ?_
                | refine Br.mkT (fun c => ?_) (fun c => ?_)
                | refine Br.mkF (fun c => ?_) (fun c => ?_)
                | refine Br.mk (fun c => ?_) (fun c => ?_))
              have hw : WkL [.p (ii cap), .p (ii st), .p (.sl .shr 7 ((([] ++ L.map Bt.pv ++ [PV.agg [ii b.base, ii b.prod, ii b.epoch, ii b.seq, .bool b.txn, ii b.mark, (.sl .shr 2 ((([] ++ b.recs.map rec2).drop 0).take ([] ++ b.recs.map rec2).length))]]).drop 0).take ([] ++ L.map Bt.pv ++ [PV.agg [ii b.base, ii b.prod, ii b.epoch, ii b.seq, .bool b.txn, ii b.mark, (.sl .shr 2 ((([] ++ b.recs.map rec2).drop 0).take ([] ++ b.recs.map rec2).length))]]).length))] [.p (ii cap), .p (ii st), .p (rowP (L ++ [b]))] := by
                rw [cut_all]
                refine ⟨.inl rfl, .inl rfl, .inr ⟨_, _, rfl, rfl, ?_⟩, trivial⟩
                exact wk_row L b hrN rfl
              exact .inr ⟨_, _, _, _, _, _, _, _, _, rfl, rfl, rfl, rfl, .inr ⟨0, _, [.p (ii cap), .p (ii st), .p (rowP (L ++ [b]))], none, rfl, hw, 1, mS cap st (L ++ [b]), Nat.le_refl 1, (show 1 ≤ 5 by decide), rfl, rfl, WkS.refl _, h⟩⟩
end Go.Proofs.YtjhgmaephpadpaaGreat.AW


open Go Go.Proofs.YtjhgmaephpadpaaGreat.AW Go.Proofs
namespace Go.Proofs.YtjhgmaephpadpaaGreat.AW
set_option maxRecDepth 100000
set_option linter.unusedSimpArgs false
set_option linter.unusedVariables false

def Bt.at (b : Bt) (n : Int) : Bt := ⟨n, b.prod, b.epoch, b.seq, b.txn, b.mark, b.recs⟩
theorem Bt.small.at {b : Bt} (h : b.small) (n : Int) : (b.at n).small := h
def prodV (cap st : Int) (L : List Bt) (b : Bt) : (Int × Int) × List Bt :=
  if (rightV (b.at (endW st L)) != 0) = true then ((-1, rightV (b.at (endW st L))), L)
  else if (b.mark != 0) = true then ((-1, 16), L) else putV cap st L (b.at (endW st L))
def mkB (n prod epoch mark : Int) : Bt := ⟨n, prod, epoch, -1, true, mark, []⟩
def markV (cap st : Int) (L : List Bt) (prod epoch mark : Int) : (Int × Int) × List Bt :=
  if (mark == 0) = true then ((-1, 12), L) else putV cap st L (mkB (endW st L) prod epoch mark)
set_option maxHeartbeats 8000000 in
theorem mprod_c (cap st : Int) (L : List Bt) (hL : L.length + 1 ≤ 1000000000) (hb : ∀ b, b ∈ L → b.small) (b : Bt) (hbs : b.small) (K : AV → Store → Prop) (h : K (i2 (prodV cap st L b).1) (mS cap st (prodV cap st L b).2)) : Cal Tryz.prog 13 [.ref 0 0, .p b.pv] (mS cap st L) K := by
  refine Cal.cut ?_
  refine Cal.intro Tryz.func13 (by decide +kernel) rfl rfl ?_
  refine Cal.frameK [0] (mend_c cap st L (by omega) _ fun _ => ?_) rfl rfl rfl
  unfold prodV at h
  cases k1 : (rightV (b.at (endW st L)) != 0) with
  | true =>
    simp only [k1, if_true] at h
    repeat' (first
      | (apply Br.t; · (first | rfl | (simp only [*] <;> rfl)))
      | (apply Br.f; · (first | rfl | (simp only [*] <;> rfl)))
      | refine Ob.mk (okst rfl rfl rfl) ?_
      | refine right1_c (b.at (endW st L)) (hbs.at _) _ _ ?_
      | exact ⟨1, mS cap st L, Nat.le_refl 1, (show 1 ≤ 2 by decide), rfl, rfl, WkS.refl _, h⟩
      | refine Br.mkT (fun c => ?_) (fun c => ?_)
      | refine Br.mkF (fun c => ?_) (fun c => ?_)
      | refine Br.mk (fun c => ?_) (fun c => ?_))
  | false =>
    simp only [k1, if_false, Bool.false_eq_true] at h
    cases k2 : (b.mark != 0) with
    | true =>
      simp only [k2, if_true] at h
      repeat' (first
        | (apply Br.t; · (first | rfl | (simp only [*] <;> rfl)))
        | (apply Br.f; · (first | rfl | (simp only [*] <;> rfl)))
        | refine Ob.mk (okst rfl rfl rfl) ?_
        | refine right1_c (b.at (endW st L)) (hbs.at _) _ _ ?_
        | exact ⟨1, mS cap st L, Nat.le_refl 1, (show 1 ≤ 2 by decide), rfl, rfl, WkS.refl _, h⟩
        | refine Br.mkT (fun c => ?_) (fun c => ?_)
        | refine Br.mkF (fun c => ?_) (fun c => ?_)
        | refine Br.mk (fun c => ?_) (fun c => ?_))
    | false =>
      simp only [k2, if_false, Bool.false_eq_true] at h
      repeat' (first
        | (apply Br.t; · (first | rfl | (simp only [*] <;> rfl)))
        | (apply Br.f; · (first | rfl | (simp only [*] <;> rfl)))
        | refine Ob.mk (okst rfl rfl rfl) ?_
        | refine right1_c (b.at (endW st L)) (hbs.at _) _ _ ?_
        | refine Br.mkT (fun c => ?_) (fun c => ?_)
        | refine Br.mkF (fun c => ?_) (fun c => ?_)
        | refine Br.mk (fun c => ?_) (fun c => ?_))
      refine Cal.frameK [0] (mput_c cap st L hL hb (b.at (endW st L)) (hbs.at _) _ fun _ => ?_) rfl rfl rfl
      exact ⟨1, mS cap st (putV cap st L (b.at (endW st L))).2, Nat.le_refl 1, (show 1 ≤ 2 by decide), rfl, rfl, WkS.refl _, h⟩
set_option maxHeartbeats 8000000 in
theorem mmark_c (cap st : Int) (L : List Bt) (hL : L.length + 1 ≤ 1000000000) (hb : ∀ b, b ∈ L → b.small) (prod epoch mark : Int) (K : AV → Store → Prop) (h : K (i2 (markV cap st L prod epoch mark).1) (mS cap st (markV cap st L prod epoch mark).2)) : Cal Tryz.prog 11 [.ref 0 0, .p (ii prod), .p (ii epoch), .p (ii mark)] (mS cap st L) K := by
  refine Cal.intro Tryz.func11 (by decide +kernel) rfl rfl ?_
  unfold markV at h
  cases k1 : (mark == 0) with
  | true =>
    simp only [k1, if_true] at h
    repeat' (first
      | (apply Br.t; · (first | rfl | (simp only [*] <;> rfl)))
      | (apply Br.f; · (first | rfl | (simp only [*] <;> rfl)))
      | refine Ob.mk (okst rfl rfl rfl) ?_
      | refine Br.mkT (fun c => ?_) (fun c => ?_)
      | refine Br.mkF (fun c => ?_) (fun c => ?_)
      | refine Br.mk (fun c => ?_) (fun c => ?_)
      | exact h
      | (simp only [*, Bool.true_and, Bool.false_and, Bool.true_or, Bool.false_or, Bool.and_true, Bool.and_false, Bool.or_true, Bool.or_false, Bool.not_true, Bool.not_false, if_true, if_false, reduceIte, Bool.false_eq_true] at h; exact h))
  | false =>
    simp only [k1, if_false, Bool.false_eq_true] at h
    repeat' (first
      | (apply Br.t; · (first | rfl | (simp only [*] <;> rfl)))
      | (apply Br.f; · (first | rfl | (simp only [*] <;> rfl)))
      | refine Ob.mk (okst rfl rfl rfl) ?_
      | refine Br.mkT (fun c => ?_) (fun c => ?_)
      | refine Br.mkF (fun c => ?_) (fun c => ?_)
      | refine Br.mk (fun c => ?_) (fun c => ?_))
    refine Cal.frameK [0] (mend_c cap st L (by omega) _ fun _ => ?_) rfl rfl rfl
    have hsm : (mkB (endW st L) prod epoch mark).small := ⟨Nat.zero_le _, fun q hq => by cases hq⟩
    have hw : WkD (PV.agg [ii (endW st L), ii prod, ii epoch, ii (-1), .bool true, ii mark, .sl .nil 0 []]) (mkB (endW st L) prod epoch mark).pv := .agg _ _ (.cons _ _ _ _ (.refl _) (.cons _ _ _ _ (.refl _) (.cons _ _ _ _ (.refl _) (.cons _ _ _ _ (.refl _) (.cons _ _ _ _ (.refl _) (.cons _ _ _ _ (.refl _) (.cons _ _ _ _ (.nil 0 .shr 2) .nil)))))))
    have hp : ∀ K, K (i2 (putV cap st L (mkB (endW st L) prod epoch mark)).1) (mS cap st (putV cap st L (mkB (endW st L) prod epoch mark)).2) → Cal Tryz.prog 34 [.ref 0 0, .p (PV.agg [ii (endW st L), ii prod, ii epoch, ii (-1), .bool true, ii mark, .sl .nil 0 []])] (mS cap st L) K := fun K hk =>
      Cal.argsD (mput_c cap st L hL hb (mkB (endW st L) prod epoch mark) hsm K hk) (show WkL [.ref 0 0, .p (PV.agg [ii (endW st L), ii prod, ii epoch, ii (-1), .bool true, ii mark, .sl .nil 0 []])] [.ref 0 0, .p (mkB (endW st L) prod epoch mark).pv] from ⟨.inl rfl, .inr ⟨_, _, rfl, rfl, hw⟩, trivial⟩)
    refine Cal.frameK [0] (hp _ fun _ => ?_) rfl rfl rfl
    exact h
end Go.Proofs.YtjhgmaephpadpaaGreat.AW
