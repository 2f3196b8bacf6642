/- A part of the proof: LG/G39, LG/G40, LG/G41, LG/G42, LG/G43, LG/G44, LG/G45. -/
import Derived.Test.YtlnelaajlhfabaaGreatP16
import Derived.Test.YtlnelaajlhfabaaGreatP17
open Go Go.Proofs.YtlnelaajlhfabaaGreat.AW Go.Proofs
namespace Go.Proofs.YtlnelaajlhfabaaGreat.AW
set_option maxRecDepth 100000
set_option linter.unusedSimpArgs false
set_option linter.unusedVariables false

/-! ### aborts: a row of dropped transactions -/
def rwS (D : List Dr) : Store := [some (.cells [.osl 1 (D.map drP).length 0 (D.map drP).length]), some (.buf 3 (D.map drP))]
theorem rnew_c (K : AV → Store → Prop) (h : K (.ref 0 0) (rwS [])) : Cal Tryz.prog 133 [] [] K := by
  refine Cal.ghost 0 0 3 none ?_
  refine Cal.intro Tryz.func133 (by decide +kernel) rfl rfl ?_
  try refine Ob.mk (okst rfl rfl rfl) ?_
  exact ⟨0, _, _, rfl, rfl, by decide, h⟩
def rAdd (D : List Dr) (d : Dr) : Bool :=
  if (decide (d.1 < 0) || (decide (d.2.1 < 0) || (decide (d.2.2 ≤ d.2.1) || decide (d.2.2 > 1099511627776)))) = true then false
  else match D.getLast? with | some x => if decide (d.2.2 ≤ x.2.2) = true then false else true | none => true
theorem drL (l : List Dr) : (l.map drP).length = l.length := List.length_map ..
theorem lastD_get {l : List Dr} {x : Dr} (h : l.getLast? = some x) (hl : l.length ≤ 1000000000) : 0 ≤ IntKind.i64.wrap (((l.map drP).length : Nat) - 1) ∧ (l.map drP)[(IntKind.i64.wrap ((((l.map drP).length : Nat) : Int) - 1)).toNat]? = some (drP x) ∧ decide ((((l.map drP).length : Nat) : Int) > 0) = true := by
  have hne : l ≠ [] := fun e => by rw [e] at h; cases h
  have hp := List.length_pos_iff.2 hne
  have hL := drL l
  have e : IntKind.i64.wrap ((((l.map drP).length : Nat) : Int) - 1) = ((l.length - 1 : Nat) : Int) := by rw [hL, wrap_i64] <;> omega
  rw [e]
  refine ⟨by omega, ?_, by rw [hL]; simp; omega⟩
  rw [Int.toNat_natCast, List.getElem?_map]
  rw [List.getLast?_eq_getElem?] at h
  rw [h]; rfl
set_option maxHeartbeats 16000000 in
theorem radd_c (D : List Dr) (hD : D.length ≤ 1000000000) (d : Dr) (K : AV → Store → Prop) (h : K (.p (.bool (rAdd D d))) (rwS (if rAdd D d = true then D ++ [d] else D))) : Cal Tryz.prog 134 [.ref 0 0, .p (drP d)] (rwS D) K := by
  refine Cal.cut ?_
  refine Cal.intro Tryz.func134 (by decide +kernel) rfl rfl ?_
  have hno : ∀ {v s'}, rAdd D d = false → v = AV.p (.bool false) → s' = rwS D ++ [some (.cells [.p (ii d.1), .p (ii d.2.1), .p (ii d.2.2)])] → ∃ N t, (rwS D).length ≤ N ∧ N ≤ s'.length ∧ v.under N = true ∧ (s'.take N).all (objUnder N) = true ∧ WkS (s'.take N) t ∧ K v t := fun {v s'} e hv hs => by
    rw [e] at h
    subst hv; subst hs
    exact ⟨2, rwS D, Nat.le_refl 2, (show (2 : Nat) ≤ 3 by decide), rfl, rfl, WkS.refl _, h⟩
  have hob : ((D.map drP).length + 1) * 24 ≤ 140737488355328 := by rw [drL]; omega
  have hyes : rAdd D d = true → K (.p (.bool true)) (rwS (D ++ [d])) := fun e => by rw [e] at h; exact h
  unfold rAdd at hno hyes
  clear h
  cases k1 : decide (d.1 < 0) with
  | true =>
    have hno := hno (v := .p (.bool false)) (s' := rwS D ++ [some (.cells [.p (ii d.1), .p (ii d.2.1), .p (ii d.2.2)])]) (by simp only [k1]; rfl) rfl rfl
    clear hyes
    repeat' (first
      | (apply Br.t; · (first | rfl | (simp only [*] <;> rfl)))
      | (apply Br.f; · (first | rfl | (simp only [*] <;> rfl)))
      | refine Ob.mk (okst rfl rfl rfl) ?_
      | refine Br.mkT (fun c => ?_) (fun c => ?_)
      | refine Br.mkF (fun c => ?_) (fun c => ?_)
      | refine Br.mk (fun c => ?_) (fun c => ?_))
    exact hno
  | false =>
    cases k2 : decide (d.2.1 < 0) with
    | true =>
      have hno := hno (v := .p (.bool false)) (s' := rwS D ++ [some (.cells [.p (ii d.1), .p (ii d.2.1), .p (ii d.2.2)])]) (by simp only [k1, k2]; rfl) rfl rfl
      clear hyes
      repeat' (first
        | (apply Br.t; · (first | rfl | (simp only [*] <;> rfl)))
        | (apply Br.f; · (first | rfl | (simp only [*] <;> rfl)))
        | refine Ob.mk (okst rfl rfl rfl) ?_
        | refine Br.mkT (fun c => ?_) (fun c => ?_)
        | refine Br.mkF (fun c => ?_) (fun c => ?_)
        | refine Br.mk (fun c => ?_) (fun c => ?_))
      exact hno
    | false =>
      cases k3 : decide (d.2.2 ≤ d.2.1) with
      | true =>
        have hno := hno (v := .p (.bool false)) (s' := rwS D ++ [some (.cells [.p (ii d.1), .p (ii d.2.1), .p (ii d.2.2)])]) (by simp only [k1, k2, k3]; rfl) rfl rfl
        clear hyes
        repeat' (first
          | (apply Br.t; · (first | rfl | (simp only [*] <;> rfl)))
          | (apply Br.f; · (first | rfl | (simp only [*] <;> rfl)))
          | refine Ob.mk (okst rfl rfl rfl) ?_
          | refine Br.mkT (fun c => ?_) (fun c => ?_)
          | refine Br.mkF (fun c => ?_) (fun c => ?_)
          | refine Br.mk (fun c => ?_) (fun c => ?_))
        exact hno
      | false =>
        cases k4 : decide (d.2.2 > 1099511627776) with
        | true =>
          have hno := hno (v := .p (.bool false)) (s' := rwS D ++ [some (.cells [.p (ii d.1), .p (ii d.2.1), .p (ii d.2.2)])]) (by simp only [k1, k2, k3, k4]; rfl) rfl rfl
          clear hyes
          repeat' (first
            | (apply Br.t; · (first | rfl | (simp only [*] <;> rfl)))
            | (apply Br.f; · (first | rfl | (simp only [*] <;> rfl)))
            | refine Ob.mk (okst rfl rfl rfl) ?_
            | refine Br.mkT (fun c => ?_) (fun c => ?_)
            | refine Br.mkF (fun c => ?_) (fun c => ?_)
            | refine Br.mk (fun c => ?_) (fun c => ?_))
          exact hno
        | false =>
          have emp : rwS (D ++ [d]) = [some (.cells [.osl 1 (D.map drP ++ [drP d]).length 0 (D.map drP ++ [drP d]).length]), some (.buf 3 (D.map drP ++ [drP d]))] := by unfold rwS; rw [List.map_append]; rfl
          cases hl : D.getLast? with
          | none =>
            have h0 : decide ((((D.map drP).length : Nat) : Int) > 0) = false := by
              rw [drL, List.getLast?_eq_none_iff.1 hl]; rfl
            have hyes := hyes (by simp only [k1, k2, k3, k4, hl]; rfl)
            rw [emp] at hyes
            clear hno hl emp
            repeat' (first
              | (apply Br.t; · (first | rfl | (simp only [*] <;> rfl)))
              | (apply Br.f; · (first | rfl | (simp only [*] <;> rfl)))
              | refine Ob.mk (okst rfl rfl rfl) ?_
              | refine Br.mkT (fun c => ?_) (fun c => ?_)
              | refine Br.mkF (fun c => ?_) (fun c => ?_)
              | refine Br.mk (fun c => ?_) (fun c => ?_))
            repeat' (first
              | refine Chk.mk (by kernel_rfl) ?_
              | (apply Br.t; · (first | rfl | (simp only [*] <;> rfl)))
              | (apply Br.f; · (first | rfl | (simp only [*] <;> rfl)))
              | refine ⟨_, ⟨rfl, rfl⟩, ?_⟩
              | refine ⟨_, _, ⟨rfl, rfl⟩, rfl, ?_⟩
              | refine ⟨_, _, Ob.mk ⟨rfl, rfl, rfl, hob⟩ ⟨rfl, rfl⟩, rfl, ?_⟩
              | apply Br.f h0
              | refine Br.f (congrArg (· == true) h0) ?_
              | refine ⟨_, Ob.mk (by decide) ⟨rfl, rfl⟩, ?_⟩
              | (refine ⟨_, Br.t ?_ ⟨rfl, rfl⟩, ?_⟩; · (first | rfl | (simp only [*] <;> rfl)))
              | (refine ⟨_, Br.f ?_ ⟨rfl, rfl⟩, ?_⟩; · (first | rfl | (simp only [*] <;> rfl)))
              | refine ⟨_, _, Ob.mk (okst rfl rfl rfl) ⟨rfl, rfl⟩, rfl, ?_⟩
              | refine Ob.mk (okst rfl rfl rfl) ?_
              | refine Ob.mk (by decide) ?_
              | refine Br.mkT (fun c => ?_) (fun c => ?_)
              | refine Br.mkF (fun c => ?_) (fun c => ?_)
              | refine Br.mk (fun c => ?_) (fun c => ?_))
            exact ⟨2, _, Nat.le_refl 2, (show (2 : Nat) ≤ 3 by decide), rfl, rfl, WkS.refl _, hyes⟩
          | some x =>
            obtain ⟨g1, g2, g3⟩ := lastD_get hl hD
            cases k5 : decide (d.2.2 ≤ x.2.2) with
            | true =>
              have hno := hno (v := .p (.bool false)) (s' := rwS D ++ [some (.cells [.p (ii d.1), .p (ii d.2.1), .p (ii d.2.2)])]) (by simp only [k1, k2, k3, k4, hl, k5]; rfl) rfl rfl
              clear hyes emp hl
              have g4 : IntKind.i64.wrap ((((D.map drP).length : Nat) : Int) - 1) < (((D.map drP).length : Nat) : Int) := by
                have := of_decide_eq_true g3; have := drL D; rw [wrap_i64] <;> omega
              have g5 : (D.map drP)[(((0 + (IntKind.i64.wrap ((((D.map drP).length : Nat) : Int) - 1)).toNat : Nat) : Nat) : Int).toNat]? = some (drP x) := by rw [Int.toNat_natCast, Nat.zero_add]; exact g2
              repeat' (first
                | (apply Br.t; · (first | rfl | (simp only [*] <;> rfl)))
                | (apply Br.f; · (first | rfl | (simp only [*] <;> rfl)))
                | refine Ob.mk (okst rfl rfl rfl) ?_
                | refine Br.mkT (fun c => ?_) (fun c => ?_)
                | refine Br.mkF (fun c => ?_) (fun c => ?_)
                | refine Br.mk (fun c => ?_) (fun c => ?_))
              repeat' (first
                | refine Chk.mk (by kernel_rfl) ?_
                | (apply Br.t; · (first | rfl | (simp only [*] <;> rfl)))
                | (apply Br.f; · (first | rfl | (simp only [*] <;> rfl)))
                | refine ⟨_, ⟨rfl, rfl⟩, ?_⟩
                | refine ⟨_, _, ⟨rfl, rfl⟩, rfl, ?_⟩
                | refine ⟨_, Ob.mk ⟨rfl, g1, g4⟩ ⟨rfl, rfl⟩, ?_⟩
                | refine ⟨_, Ob.mk rfl (Idx.mk _ (Int.natCast_nonneg _) g5 ⟨rfl, rfl⟩), ?_⟩
                | apply Br.t g3
                | refine Br.t (congrArg (· == true) g3) ?_
                | refine ⟨_, Ob.mk (by decide) ⟨rfl, rfl⟩, ?_⟩
                | (refine ⟨_, Br.t ?_ ⟨rfl, rfl⟩, ?_⟩; · (first | rfl | (simp only [*] <;> rfl)))
                | (refine ⟨_, Br.f ?_ ⟨rfl, rfl⟩, ?_⟩; · (first | rfl | (simp only [*] <;> rfl)))
                | refine ⟨_, _, Ob.mk (okst rfl rfl rfl) ⟨rfl, rfl⟩, rfl, ?_⟩
                | refine Ob.mk (okst rfl rfl rfl) ?_
                | refine Ob.mk (by decide) ?_
                | refine Br.mkT (fun c => ?_) (fun c => ?_)
                | refine Br.mkF (fun c => ?_) (fun c => ?_)
                | refine Br.mk (fun c => ?_) (fun c => ?_))
              exact hno
            | false =>
              have hyes := hyes (by simp only [k1, k2, k3, k4, hl, k5]; rfl)
              rw [emp] at hyes
              clear hno hl emp
              have g4 : IntKind.i64.wrap ((((D.map drP).length : Nat) : Int) - 1) < (((D.map drP).length : Nat) : Int) := by
                have := of_decide_eq_true g3; have := drL D; rw [wrap_i64] <;> omega
              have g5 : (D.map drP)[(((0 + (IntKind.i64.wrap ((((D.map drP).length : Nat) : Int) - 1)).toNat : Nat) : Nat) : Int).toNat]? = some (drP x) := by rw [Int.toNat_natCast, Nat.zero_add]; exact g2
              repeat' (first
                | (apply Br.t; · (first | rfl | (simp only [*] <;> rfl)))
                | (apply Br.f; · (first | rfl | (simp only [*] <;> rfl)))
                | refine Ob.mk (okst rfl rfl rfl) ?_
                | refine Br.mkT (fun c => ?_) (fun c => ?_)
                | refine Br.mkF (fun c => ?_) (fun c => ?_)
                | refine Br.mk (fun c => ?_) (fun c => ?_))
              repeat' (first
                | refine Chk.mk (by kernel_rfl) ?_
                | (apply Br.t; · (first | rfl | (simp only [*] <;> rfl)))
                | (apply Br.f; · (first | rfl | (simp only [*] <;> rfl)))
                | refine ⟨_, ⟨rfl, rfl⟩, ?_⟩
                | refine ⟨_, _, ⟨rfl, rfl⟩, rfl, ?_⟩
                | refine ⟨_, Ob.mk ⟨rfl, g1, g4⟩ ⟨rfl, rfl⟩, ?_⟩
                | refine ⟨_, Ob.mk rfl (Idx.mk _ (Int.natCast_nonneg _) g5 ⟨rfl, rfl⟩), ?_⟩
                | refine ⟨_, _, Ob.mk ⟨rfl, rfl, rfl, hob⟩ ⟨rfl, rfl⟩, rfl, ?_⟩
                | apply Br.t g3
                | refine Br.t (congrArg (· == true) g3) ?_
                | refine ⟨_, Ob.mk (by decide) ⟨rfl, rfl⟩, ?_⟩
                | (refine ⟨_, Br.t ?_ ⟨rfl, rfl⟩, ?_⟩; · (first | rfl | (simp only [*] <;> rfl)))
                | (refine ⟨_, Br.f ?_ ⟨rfl, rfl⟩, ?_⟩; · (first | rfl | (simp only [*] <;> rfl)))
                | refine ⟨_, _, Ob.mk (okst rfl rfl rfl) ⟨rfl, rfl⟩, rfl, ?_⟩
                | refine Ob.mk (okst rfl rfl rfl) ?_
                | refine Ob.mk (by decide) ?_
                | refine Br.mkT (fun c => ?_) (fun c => ?_)
                | refine Br.mkF (fun c => ?_) (fun c => ?_)
                | refine Br.mk (fun c => ?_) (fun c => ?_))
              exact ⟨2, _, Nat.le_refl 2, (show (2 : Nat) ≤ 3 by decide), rfl, rfl, WkS.refl _, hyes⟩
end Go.Proofs.YtlnelaajlhfabaaGreat.AW

open Go Go.Proofs.YtlnelaajlhfabaaGreat.AW Go.Proofs
namespace Go.Proofs.YtlnelaajlhfabaaGreat.AW
set_option maxRecDepth 100000
set_option linter.unusedSimpArgs false
set_option linter.unusedVariables false

/-! ### fold.Deliver -/
def gC (g : Gt) : Option AObj := some (.cells [.p (ii g.off), .p (ii g.prod), .p (.str g.key), .p (.str g.val)])
def gmD (g : Gt) (d : Dr) : Bool := (g.prod != -1) && ((d.1 == g.prod) && (decide (d.2.1 ≤ g.off) && decide (g.off ≤ d.2.2)))
theorem getDr {l : List Dr} {j : Nat} (h : j < l.length) : (l.map drP)[((j : Nat) : Int).toNat]? = some (drP l[j]) := by
  rw [Int.toNat_natCast, List.getElem?_map, List.getElem?_eq_getElem h]; rfl
set_option maxHeartbeats 8000000 in
theorem del2_c (g : Gt) (d : Dr) (K : AV → Store → Prop) (h : K (.p (.bool (gmD g d))) [gC g]) : Cal Tryz.prog 140 [.p (drP d), .ref 0 0] [gC g] K := by
  refine Cal.cut ?_
  refine Cal.intro Tryz.func140 (by decide +kernel) rfl rfl ?_
  have h : ∃ N t, 1 ≤ N ∧ N ≤ 2 ∧ (AV.p (.bool (gmD g d))).under N = true ∧ ((([gC g] : Store) ++ [some (AObj.cells [.p (ii d.1), .p (ii d.2.1), .p (ii d.2.2)])]).take N).all (objUnder N) = true ∧ WkS ((([gC g] : Store) ++ [some (AObj.cells [.p (ii d.1), .p (ii d.2.1), .p (ii d.2.2)])]).take N) t ∧ K (.p (.bool (gmD g d))) t :=
    ⟨1, [gC g], Nat.le_refl 1, (show (1 : Nat) ≤ 2 by decide), rfl, rfl, WkS.refl _, h⟩
  unfold gmD at h
  cases k1 : (g.prod != -1) with
  | false =>
    simp only [k1] at h
    repeat' (first
      | (apply Br.t; · (first | rfl | (simp only [*] <;> rfl)))
      | (apply Br.f; · (first | rfl | (simp only [*] <;> rfl)))
      | refine Ob.mk (okst rfl rfl rfl) ?_
      | refine Br.mkT (fun c => ?_) (fun c => ?_)
      | refine Br.mkF (fun c => ?_) (fun c => ?_)
      | refine Br.mk (fun c => ?_) (fun c => ?_)
      | exact h
      | (simp only [*, Bool.true_and, Bool.false_and, Bool.true_or, Bool.false_or, Bool.and_true, Bool.and_false, Bool.or_true, Bool.or_false, Bool.not_true, Bool.not_false, if_true, if_false, reduceIte, Bool.false_eq_true] at h; exact h))
  | true =>
    cases k2 : (d.1 == g.prod) with
    | false =>
      simp only [k1, k2] at h
      repeat' (first
        | (apply Br.t; · (first | rfl | (simp only [*] <;> rfl)))
        | (apply Br.f; · (first | rfl | (simp only [*] <;> rfl)))
        | refine Ob.mk (okst rfl rfl rfl) ?_
        | refine Br.mkT (fun c => ?_) (fun c => ?_)
        | refine Br.mkF (fun c => ?_) (fun c => ?_)
        | refine Br.mk (fun c => ?_) (fun c => ?_)
        | exact h
        | (simp only [*, Bool.true_and, Bool.false_and, Bool.true_or, Bool.false_or, Bool.and_true, Bool.and_false, Bool.or_true, Bool.or_false, Bool.not_true, Bool.not_false, if_true, if_false, reduceIte, Bool.false_eq_true] at h; exact h))
    | true =>
      cases k3 : decide (d.2.1 ≤ g.off) with
      | false =>
        simp only [k1, k2, k3] at h
        repeat' (first
          | (apply Br.t; · (first | rfl | (simp only [*] <;> rfl)))
          | (apply Br.f; · (first | rfl | (simp only [*] <;> rfl)))
          | refine Ob.mk (okst rfl rfl rfl) ?_
          | refine Br.mkT (fun c => ?_) (fun c => ?_)
          | refine Br.mkF (fun c => ?_) (fun c => ?_)
          | refine Br.mk (fun c => ?_) (fun c => ?_)
          | exact h
          | (simp only [*, Bool.true_and, Bool.false_and, Bool.true_or, Bool.false_or, Bool.and_true, Bool.and_false, Bool.or_true, Bool.or_false, Bool.not_true, Bool.not_false, if_true, if_false, reduceIte, Bool.false_eq_true] at h; exact h))
      | true =>
        simp only [k1, k2, k3] at h
        repeat' (first
          | (apply Br.t; · (first | rfl | (simp only [*] <;> rfl)))
          | (apply Br.f; · (first | rfl | (simp only [*] <;> rfl)))
          | refine Ob.mk (okst rfl rfl rfl) ?_
          | refine Br.mkT (fun c => ?_) (fun c => ?_)
          | refine Br.mkF (fun c => ?_) (fun c => ?_)
          | refine Br.mk (fun c => ?_) (fun c => ?_)
          | exact h
          | (simp only [*, Bool.true_and, Bool.false_and, Bool.true_or, Bool.false_or, Bool.and_true, Bool.and_false, Bool.or_true, Bool.or_false, Bool.not_true, Bool.not_false, if_true, if_false, reduceIte, Bool.false_eq_true] at h; exact h))
def fAny (p : Dr → Bool) : List Dr → Nat → Bool := fun l j => (l.take j).any p
set_option maxHeartbeats 8000000 in
theorem idx2_c (g : Gt) (D : List Dr) (hD : D.length ≤ 1000000000) (K : AV → Store → Prop) (h : ∀ n : Int, decide (n ≥ 0) = D.any (gmD g) → K (.p (ii n)) [gC g]) : Cal Tryz.prog 185 [.p (drsP D), .clos 140 [.ref 0 0]] [gC g] K := by
  refine Cal.intro Tryz.func185 (by decide +kernel) rfl rfl ?_
  have hlm := drL D
  refine LoopX.fam [0, 1, 7, 8] (fun (j : Nat) => ([(0, .p (drsP D)), (1, .clos 140 [.ref 0 0]), (7, .p (ii (D.map drP).length)), (8, .p (ii (j : Nat)))], [gC g]))
    (fun j => j ≤ D.length ∧ (D.take j).any (gmD g) = false) (fun j => D.length - j) 0 ⟨Nat.zero_le _, rfl⟩ (Trim.mk' rfl rfl rfl rfl (Nat.le_refl _)) ?_
  rintro j ⟨hj, hno⟩
  have hj : j ≤ D.length := hj
  have hno : (D.take j).any (gmD g) = false := hno
  refine Br.mk (fun hc => ?_) (fun hc => ?_)
  · have hc : (j : Int) < ((D.map drP).length : Nat) := of_decide_eq_true hc
    have hj1 : j < D.length := by omega
    have ej : IntKind.i64.wrap ((j : Int) + 1) = ((j + 1 : Nat) : Int) := by rw [wrap_i64] <;> omega
    refine Idx.mk _ (Int.natCast_nonneg _) (getDr hj1) ?_
    refine del2_c g D[j] _ ?_
    have hsn : (D.take (j + 1)).any (gmD g) = gmD g D[j] := by rw [take_succ' hj1, List.any_append, hno]; simp
    cases hg : gmD g D[j] with
    | true =>
      refine Br.t rfl ?_
      refine h _ ?_
      rw [decide_eq_true (by omega : (j : Int) ≥ 0)]
      exact (List.any_eq_true.2 ⟨D[j], List.getElem_mem hj1, hg⟩).symm
    | false =>
      refine Br.f rfl ?_
      refine ⟨j + 1, ⟨hj1, by rw [hsn, hg]⟩, by show D.length - (j + 1) < D.length - j; omega, Nat.le_refl _, Trim.mk' ?_ rfl rfl rfl (Nat.le_refl _)⟩
      refine Eq.trans (b := [_, _, _, (8, AV.p (ii (IntKind.i64.wrap ((j : Int) + 1))))]) rfl ?_
      rw [ej]; rfl
  · have hc : ¬ (j : Int) < ((D.map drP).length : Nat) := of_decide_eq_false hc
    have : j = D.length := by omega
    subst this
    rw [List.take_length] at hno
    exact h (-1) (by rw [hno]; rfl)
set_option maxHeartbeats 8000000 in
theorem cont2_c (g : Gt) (D : List Dr) (hD : D.length ≤ 1000000000) (K : AV → Store → Prop) (h : K (.p (.bool (D.any (gmD g)))) [gC g]) : Cal Tryz.prog 139 [.p (drsP D), .clos 140 [.ref 0 0]] [gC g] K := by
  refine Cal.intro Tryz.func139 (by decide +kernel) rfl rfl ?_
  refine idx2_c g D hD _ fun n hn => ?_
  rw [← hn] at h
  exact h
def fC (gs : List Gt) (D : List Dr) (n st : Int) : Option AObj := some (.cells [.p (gsP gs), .p (drsP D), .p (ii n), .p (ii st)])
theorem del1_c (g : Gt) (gs : List Gt) (D : List Dr) (n st : Int) (hD : D.length ≤ 1000000000) (K : AV → Store → Prop) (h : K (.p (.bool (D.any (gmD g)))) [fC gs D n st]) : Cal Tryz.prog 138 [.p g.pv, .ref 0 0] [fC gs D n st] K := by
  refine Cal.cut ?_
  refine Cal.intro Tryz.func138 (by decide +kernel) rfl rfl ?_
  try refine Ob.mk (okst rfl rfl rfl) ?_
  refine Cal.frameK [1] (cont2_c g D hD _ fun _ => ?_) rfl rfl rfl
  exact ⟨1, _, Nat.le_refl 1, (show (1 : Nat) ≤ 2 by decide), rfl, rfl, WkS.refl _, h⟩
end Go.Proofs.YtlnelaajlhfabaaGreat.AW

open Go Go.Proofs.YtlnelaajlhfabaaGreat.AW Go.Proofs
namespace Go.Proofs.YtlnelaajlhfabaaGreat.AW
set_option maxRecDepth 100000
set_option linter.unusedSimpArgs false
set_option linter.unusedVariables false

/-! ### slices.DeleteFunc of records, as Deliver calls it -/
theorem clone_kg (xs : List PV) (hl : xs.length ≤ 1000000000) (K : AV → Store → Prop) (h1 : xs ≠ [] → K (.osl 0 xs.length 0 xs.length) [some (.buf 4 xs)]) (h2 : xs = [] → K (.p (.sl .nil 0 [])) [] ∧ K (.p (.sl .clip 4 [])) []) : Cal Tryz.prog 136 [.p (.sl .shr 4 xs)] [] K := by
  refine Cal.intro Tryz.func136 (by decide +kernel) rfl rfl ?_
  cases xs with
  | nil =>
    refine ⟨?_, ?_⟩
    · refine Br.t rfl ?_
      exact (h2 rfl).1
    · refine Br.f rfl ?_
      try refine Or.inl ?_
      refine BrL.n ?_
      exact (h2 rfl).2
  | cons x r =>
    refine Br.f rfl ?_
    try refine Or.inl ?_
    refine BrL.c ?_
    refine Ob.mk ?_ ?_
    · show (0 + (x :: r).length) * 48 ≤ _; omega
    · exact h1 (by simp)
def bad (D : List Dr) (g : Gt) : Bool := D.any (gmD g)
set_option maxHeartbeats 8000000 in
theorem idx1_c (gs gs0 : List Gt) (D : List Dr) (n st : Int) (hg : gs.length ≤ 1000000000) (hD : D.length ≤ 1000000000) (K : AV → Store → Prop)
    (h0 : gs.any (bad D) = false → K (.p (ii (-1))) [some (.buf 4 (gs.map Gt.pv)), fC gs0 D n st])
    (h1 : ∀ i (hi : i < gs.length), (gs.take i).any (bad D) = false → bad D gs[i] = true → K (.p (ii (i : Nat))) [some (.buf 4 (gs.map Gt.pv)), fC gs0 D n st]) :
    Cal Tryz.prog 184 [.osl 0 (gs.map Gt.pv).length 0 (gs.map Gt.pv).length, .clos 138 [.ref 1 0]] [some (.buf 4 (gs.map Gt.pv)), fC gs0 D n st] K := by
  refine Cal.intro Tryz.func184 (by decide +kernel) rfl rfl ?_
  have hlm := gsL gs
  refine LoopX.fam [0, 1, 7, 8] (fun (j : Nat) => ([(0, .osl 0 (gs.map Gt.pv).length 0 (gs.map Gt.pv).length), (1, .clos 138 [.ref 1 0]), (7, .p (ii (gs.map Gt.pv).length)), (8, .p (ii (j : Nat)))], [some (.buf 4 (gs.map Gt.pv)), fC gs0 D n st]))
    (fun j => j ≤ gs.length ∧ (gs.take j).any (bad D) = false) (fun j => gs.length - j) 0 ⟨Nat.zero_le _, rfl⟩ (Trim.mk' rfl rfl rfl rfl (Nat.le_refl _)) ?_
  rintro j ⟨hj, hno⟩
  have hj : j ≤ gs.length := hj
  have hno : (gs.take j).any (bad D) = false := hno
  refine Br.mk (fun hc => ?_) (fun hc => ?_)
  · have hc : (j : Int) < ((gs.map Gt.pv).length : Nat) := of_decide_eq_true hc
    have hj1 : j < gs.length := by omega
    have ej : IntKind.i64.wrap ((j : Int) + 1) = ((j + 1 : Nat) : Int) := by rw [wrap_i64] <;> omega
    refine Ob.mk ⟨rfl, Int.natCast_nonneg _, hc⟩ ?_
    refine Ob.mk rfl ?_
    refine Idx.mk _ (Int.natCast_nonneg _) (show (gs.map Gt.pv)[(((0 + ((j : Nat) : Int).toNat : Nat)) : Int).toNat]? = some gs[j].pv by rw [Int.toNat_natCast, Nat.zero_add]; exact getG hj1) ?_
    refine Cal.frameK [1] (del1_c gs[j] gs0 D n st hD _ fun _ => ?_) rfl rfl rfl
    have hsn : (gs.take (j + 1)).any (bad D) = bad D gs[j] := by rw [take_succ' hj1, List.any_append, hno]; simp
    cases hb : D.any (gmD gs[j]) with
    | true =>
      refine Br.t rfl ?_
      exact h1 j hj1 hno hb
    | false =>
      refine Br.f rfl ?_
      refine ⟨j + 1, ⟨hj1, by rw [hsn]; exact hb⟩, by show gs.length - (j + 1) < gs.length - j; omega, Nat.le_refl _, Trim.mk' ?_ rfl rfl rfl (Nat.le_refl _)⟩
      refine Eq.trans (b := [_, _, _, (8, AV.p (ii (IntKind.i64.wrap ((j : Int) + 1))))]) rfl ?_
      rw [ej]; rfl
  · have hc : ¬ (j : Int) < ((gs.map Gt.pv).length : Nat) := of_decide_eq_false hc
    have : j = gs.length := by omega
    subst this
    rw [List.take_length] at hno
    exact h0 hno
theorem idx1_nil (k : SK) (sz : Nat) (gs0 : List Gt) (D : List Dr) (n st : Int) (K : AV → Store → Prop) (h : K (.p (ii (-1))) [fC gs0 D n st]) : Cal Tryz.prog 184 [.p (.sl k sz []), .clos 138 [.ref 0 0]] [fC gs0 D n st] K := by
  refine Cal.intro Tryz.func184 (by decide +kernel) rfl rfl ?_
  refine LoopX.fam [7, 8] (fun (j : Nat) => ([(7, .p (ii 0)), (8, .p (ii 0))], [fC gs0 D n st])) (fun j => True) (fun j => 0) 0 trivial (Trim.mk' rfl rfl rfl rfl (Nat.le_refl _)) ?_
  intro j _
  refine Br.f rfl ?_
  exact h
theorem del_nil (k : SK) (sz : Nat) (gs0 : List Gt) (D : List Dr) (n st : Int) (K : AV → Store → Prop) (h : K (.p (.sl k sz [])) [fC gs0 D n st]) : Cal Tryz.prog 137 [.p (.sl k sz []), .clos 138 [.ref 0 0]] [fC gs0 D n st] K := by
  refine Cal.intro Tryz.func137 (by decide +kernel) rfl rfl ?_
  refine idx1_nil k sz gs0 D n st _ ?_
  refine Br.t rfl ?_
  exact h
/-- Those that stay, of the first ones. -/
def stay (D : List Dr) (gs : List Gt) : List Gt := gs.filter fun g => !bad D g
theorem stay_app (D : List Dr) (a b : List Gt) : stay D (a ++ b) = stay D a ++ stay D b := List.filter_append ..
theorem stay_all {D : List Dr} {gs : List Gt} (h : gs.any (bad D) = false) : stay D gs = gs := by
  unfold stay
  rw [List.filter_eq_self]
  intro g hg
  have := List.any_eq_false.1 h g hg
  simpa using this
theorem del_ext {xs : List PV} {i j n : Nat} {v : PV} {A B : List PV} (hl : xs.length = n) (hi : i < j) (hj : j < n) (h1 : xs.take i = A) (h2 : xs.drop j = v :: B) : (xs.set i v).take (i + 1) = A ++ [v] ∧ (xs.set i v).drop (j + 1) = B := by
  refine ⟨?_, ?_⟩
  · rw [List.take_set, List.take_succ_eq_append_getElem (by omega), h1]
    have : A.length = i := by rw [← h1, List.length_take]; omega
    rw [List.set_append_right _ _ (by omega)]
    simp [this]
  · rw [List.drop_set_of_lt (by omega), ← List.drop_drop, h2]; rfl
set_option maxHeartbeats 16000000 in
theorem del_c (gs gs0 : List Gt) (D : List Dr) (n st : Int) (hg : gs.length ≤ 1000000000) (hD : D.length ≤ 1000000000) (K : AV → Store → Prop)
    (h : ∀ (ys : List PV) (k : Nat), ys.length = gs.length → k ≤ gs.length → ys.take k = (stay D gs).map Gt.pv → K (.osl 0 gs.length 0 k) [some (.buf 4 ys), fC gs0 D n st]) :
    Cal Tryz.prog 137 [.osl 0 (gs.map Gt.pv).length 0 (gs.map Gt.pv).length, .clos 138 [.ref 1 0]] [some (.buf 4 (gs.map Gt.pv)), fC gs0 D n st] K := by
  refine Cal.cut ?_
  refine Cal.intro Tryz.func137 (by decide +kernel) rfl rfl ?_
  have hlm := gsL gs
  refine idx1_c gs gs0 D n st hg hD _ (fun hno => ?_) (fun i0 hi0 hno hb0 => ?_)
  · refine Br.t rfl ?_
    refine ⟨2, _, Nat.le_refl 2, Nat.le_refl 2, rfl, rfl, WkS.refl _, ?_⟩
    have := h (gs.map Gt.pv) gs.length hlm (Nat.le_refl _) (by rw [stay_all hno, ← hlm, List.take_length])
    show K (.osl 0 (gs.map Gt.pv).length 0 (gs.map Gt.pv).length) _
    rw [hlm]; exact this
  · have hbr : decide (((i0 : Nat) : Int) = -1) = false := decide_eq_false (by omega)
    refine Br.f hbr ?_
    have ei0 : IntKind.i64.wrap ((i0 : Int) + 1) = ((i0 + 1 : Nat) : Int) := by rw [wrap_i64] <;> omega
    have hst0 : stay D (gs.take (i0 + 1)) = gs.take i0 := by
      rw [take_succ' hi0, stay_app, stay_all hno]
      have : stay D [gs[i0]] = [] := by unfold stay; rw [List.filter_cons, hb0]; rfl
      rw [this, List.append_nil]
    refine LoopX.fam [0, 1, 5, 6] (fun (q : Nat × Nat × List PV) => ([(0, .osl 0 (gs.map Gt.pv).length 0 (gs.map Gt.pv).length), (1, .clos 138 [.ref 1 0]), (5, .p (ii (q.1 : Nat))), (6, .p (ii (q.2.1 : Nat)))], [some (.buf 4 q.2.2), fC gs0 D n st]))
      (fun q => q.1 < q.2.1 ∧ q.2.1 ≤ gs.length ∧ q.2.2.length = gs.length ∧ q.2.2.take q.1 = (stay D (gs.take q.2.1)).map Gt.pv ∧ q.2.2.drop q.2.1 = (gs.drop q.2.1).map Gt.pv) (fun q => gs.length - q.2.1) (i0, i0 + 1, gs.map Gt.pv)
      ⟨Nat.lt_succ_self _, hi0, hlm, by rw [hst0]; exact List.map_take.symm, by rw [List.map_drop]⟩ (Trim.mk' (by
        refine Eq.trans (b := [_, _, _, (6, AV.p (ii (IntKind.i64.wrap ((i0 : Int) + 1))))]) rfl ?_
        rw [ei0]; rfl) rfl rfl rfl (Nat.le_refl _)) ?_
    rintro ⟨i, j, xs⟩ ⟨hij, hj, hxl, hxt, hxd⟩
    have hij : i < j := hij
    have hj : j ≤ gs.length := hj
    have hxl : xs.length = gs.length := hxl
    have hxt : xs.take i = (stay D (gs.take j)).map Gt.pv := hxt
    have hxd : xs.drop j = (gs.drop j).map Gt.pv := hxd
    refine Br.mk (fun hc => ?_) (fun hc => ?_)
    · have hc : (j : Int) < ((gs.map Gt.pv).length : Nat) := of_decide_eq_true hc
      have hj1 : j < gs.length := by omega
      have ej : IntKind.i64.wrap ((j : Int) + 1) = ((j + 1 : Nat) : Int) := by rw [wrap_i64] <;> omega
      have ei : IntKind.i64.wrap ((i : Int) + 1) = ((i + 1 : Nat) : Int) := by rw [wrap_i64] <;> omega
      have hxd2 : xs.drop j = gs[j].pv :: (gs.drop (j + 1)).map Gt.pv := by rw [hxd, List.drop_eq_getElem_cons hj1, List.map_cons]
      have hxj : xs[j]? = some gs[j].pv := by
        have : (xs.drop j)[0]? = some gs[j].pv := by rw [hxd2]; rfl
        rw [List.getElem?_drop] at this; simpa using this
      have hlx : xs.length = (gs.map Gt.pv).length := by rw [hxl, hlm]
      have hsn : stay D (gs.take (j + 1)) = stay D (gs.take j) ++ (if bad D gs[j] = true then [] else [gs[j]]) := by
        rw [take_succ' hj1, stay_app]
        congr 1
        unfold stay
        rw [List.filter_cons]
        cases bad D gs[j] <;> rfl
      refine Ob.mk ⟨hlx, Int.natCast_nonneg _, hc⟩ ?_
      refine Ob.mk hlx ?_
      refine Idx.mk _ (Int.natCast_nonneg _) (show xs[(((0 + ((j : Nat) : Int).toNat : Nat)) : Int).toNat]? = some gs[j].pv by rw [Int.toNat_natCast, Int.toNat_natCast, Nat.zero_add]; exact hxj) ?_
      refine Ob.mk (okst rfl rfl rfl) ?_
      refine Cal.frameK [1] (del1_c gs[j] gs0 D n st hD _ fun _ => ?_) rfl rfl rfl
      have fin : ∀ b, D.any (gmD gs[j]) = b → bad D gs[j] = b := fun b hb => hb
      cases hb : D.any (gmD gs[j]) with
      | true =>
        rw [if_pos (fin _ hb), List.append_nil] at hsn
        refine Br.f rfl ?_
        refine ⟨(i, j + 1, xs), ⟨by show i < j + 1; omega, hj1, hxl, by rw [hsn]; exact hxt, by show xs.drop (j + 1) = _; rw [← List.drop_drop, hxd2]; rfl⟩, by show gs.length - (j + 1) < gs.length - j; omega, (show 2 ≤ 2 by decide), Trim.mk' ?_ rfl rfl rfl (show 2 ≤ 3 by decide)⟩
        refine Eq.trans (b := [_, _, _, (6, AV.p (ii (IntKind.i64.wrap ((j : Int) + 1))))]) rfl ?_
        rw [ej]; rfl
      | false =>
        rw [if_neg (by rw [fin _ hb]; decide)] at hsn
        refine Br.t rfl ?_
        have hci : (i : Int) < ((gs.map Gt.pv).length : Nat) := by omega
        refine Ob.mk ⟨hlx, Int.natCast_nonneg _, hci⟩ ?_
        refine Ob.mk ⟨hlx, (show 0 + ((i : Nat) : Int).toNat < (gs.map Gt.pv).length by omega)⟩ ?_
        obtain ⟨d1, d2⟩ := del_ext hxl hij hj1 hxt hxd2
        refine ⟨(i + 1, j + 1, xs.set i gs[j].pv), ⟨by show i + 1 < j + 1; omega, hj1, by show (xs.set i gs[j].pv).length = _; rw [List.length_set]; exact hxl, by rw [hsn, List.map_append]; exact d1, d2⟩, by show gs.length - (j + 1) < gs.length - j; omega, (show 2 ≤ 2 by decide), Trim.mk' ?_ ?_ rfl rfl (show 2 ≤ 3 by decide)⟩
        · refine Eq.trans (b := [_, _, (5, AV.p (ii (IntKind.i64.wrap ((i : Int) + 1)))), (6, AV.p (ii (IntKind.i64.wrap ((j : Int) + 1))))]) rfl ?_
          rw [ej, ei]; rfl
        · show [some (AObj.buf 4 (xs.set (0 + ((i : Nat) : Int).toNat) gs[j].pv) none), _] = _
          rw [Int.toNat_natCast, Nat.zero_add]; rfl
    · have hc : ¬ (j : Int) < ((gs.map Gt.pv).length : Nat) := of_decide_eq_false hc
      have hjn : j = gs.length := by omega
      subst hjn
      have hlx : xs.length = (gs.map Gt.pv).length := by rw [hxl, hlm]
      rw [List.take_length] at hxt
      have hlx2 : (xs.take (0 + ((i : Nat) : Int).toNat) ++ (List.replicate (((((gs.map Gt.pv).length : Nat) : Int) - ((i : Nat) : Int)).toNat) (PV.agg [ii 0, ii 0, .str [], .str []]) ++ xs.drop ((0 + ((i : Nat) : Int).toNat) + ((((gs.map Gt.pv).length : Nat) : Int) - ((i : Nat) : Int)).toNat))).length = (gs.map Gt.pv).length := by
        simp only [List.length_append, List.length_take, List.length_replicate, List.length_drop]
        omega
      refine Ob.mk ⟨hlx, Int.natCast_nonneg _, by omega, Int.le_refl _⟩ ?_
      refine Ob.mk ⟨hlx, by omega⟩ ?_
      refine Ob.mk ⟨hlx2, Int.le_refl _, Int.natCast_nonneg _, by omega⟩ ?_
      refine ⟨2, _, Nat.le_refl 2, (by show 2 ≤ 2; decide), rfl, rfl, WkS.refl _, ?_⟩
      have e0 : 0 + (0 : Int).toNat = 0 := rfl
      have e1 : (((i : Nat) : Int) - 0).toNat = i := by omega
      show K (.osl 0 (gs.map Gt.pv).length (0 + (0 : Int).toNat) ((((i : Nat) : Int) - 0).toNat)) _
      rw [e0, e1, hlm]
      refine h _ i (by rw [← hlm]; exact hlx2) (by omega) ?_
      rw [← hxt, Int.toNat_natCast, Nat.zero_add, List.take_append_of_le_length (by rw [List.length_take]; omega), List.take_take, Nat.min_self]
set_option maxHeartbeats 8000000 in
theorem deliver_c (gs : List Gt) (D : List Dr) (n st : Int) (hg : gs.length ≤ 1000000000) (hD : D.length ≤ 1000000000) (s : Store) (K : AV → Store → Prop) (h : K (.p (gsC (stay D gs))) s) : Cal Tryz.prog 76 [.p (.agg [gsP gs, drsP D, ii n, ii st])] s K := by
  refine Cal.pure (args := [.agg [gsP gs, drsP D, ii n, ii st]]) ?_
  refine Cal.intro Tryz.func76 (by decide +kernel) rfl rfl ?_
  have hlm := gsL gs
  try refine Ob.mk (okst rfl rfl rfl) ?_
  have hnil : gs = [] → stay D gs = [] := fun e => by rw [e]; rfl
  refine Cal.frameK [] (clone_kg (gs.map Gt.pv) (by omega) _ (fun hne _ => ?_) (fun he => ?_)) rfl rfl rfl
  · refine Cal.frameK [1, 0] (del_c gs gs D n st hg hD _ fun ys k hyl hk hyt _ => ?_) rfl rfl rfl
    refine Cal.freeze ?_ ⟨_, Tryz.func89, rfl, rfl⟩
    refine Ob.mk hyl ?_
    show Cal _ _ [.p (.sl .shr 4 ((ys.drop 0).take k))] _ _
    rw [List.drop_zero, hyt]
    refine clip_got _ _ _ ?_
    exact h
  · have hgs : gs = [] := List.map_eq_nil_iff.1 he
    rw [hnil hgs] at h
    refine ⟨fun _ => ?_, fun _ => ?_⟩
    · refine Cal.frameK [0] (del_nil .nil 0 gs D n st _ fun _ => ?_) rfl rfl rfl
      exact Cal.argsD (args' := [.p (.sl .shr 4 [])]) (clip_got [] _ _ h) ⟨.inr ⟨_, _, rfl, rfl, .nil 0 .shr 4⟩, trivial⟩
    · refine Cal.frameK [0] (del_nil .clip 4 gs D n st _ fun _ => ?_) rfl rfl rfl
      exact Cal.argsD (args' := [.p (.sl .shr 4 [])]) (clip_got [] _ _ h) ⟨.inr ⟨_, _, rfl, rfl, .sl .clip 4 _ _ rfl (fun y hy => by cases hy) .nil⟩, trivial⟩
end Go.Proofs.YtlnelaajlhfabaaGreat.AW

open Go Go.Proofs.YtlnelaajlhfabaaGreat.AW Go.Proofs
namespace Go.Proofs.YtlnelaajlhfabaaGreat.AW
set_option maxRecDepth 100000
set_option linter.unusedSimpArgs false
set_option linter.unusedVariables false

/-! ### aborts.Of: what a row dropped -/
theorem drops_step (L : List Bt) (b : Bt) : (dFold (L ++ [b])).2 = if (tDrop (dGet (dFold L).1 b.prod) b).2 = true then (dFold L).2 ++ [(tDrop (dGet (dFold L).1 b.prod) b).1] else (dFold L).2 := by rw [dFold_snoc]; rfl
theorem radd_ok {st : Int} {L : List Bt} {b : Bt} (h : RowC st (L ++ [b])) (hd : (tDrop (dGet (dFold L).1 b.prod) b).2 = true) : rAdd (dFold L).2 (tDrop (dGet (dFold L).1 b.prod) b).1 = true := by
  have hi := DInv.mk' h
  have hs := drops_step L b
  rw [if_pos hd] at hs
  generalize (tDrop (dGet (dFold L).1 b.prod) b).1 = d at hs ⊢
  obtain ⟨a1, a2, a3, c, a4, a5⟩ := hi.d1 d (by rw [hs]; simp)
  have hc := right_base (h.right c a4)
  unfold rAdd
  have e1 : decide (d.1 < 0) = false := by simp; omega
  have e2 : decide (d.2.1 < 0) = false := by simp; omega
  have e3 : decide (d.2.2 ≤ d.2.1) = false := by simp; omega
  have e4 : decide (d.2.2 > 1099511627776) = false := by simp; omega
  rw [e1, e2, e3, e4]
  rw [if_neg (by decide)]
  cases hl : (dFold L).2.getLast? with
  | none => rfl
  | some x =>
    have := hi.d2
    rw [hs, List.pairwise_append] at this
    have hlt := this.2.2 x (List.mem_of_getLast? hl) d (by simp)
    have e5 : decide (d.2.2 ≤ x.2.2) = false := by simp; omega
    dsimp only
    rw [e5]; rfl
/-- The row and the table beside it. -/
def roS (D : List Dr) (es : List TE) (cl : Nat) : Store := rwS D ++ [some (.map (.int .i64) (es.map tent) cl), some (.cells [.map 2])]
set_option maxHeartbeats 16000000 in
theorem rof_c {st : Int} (L : List Bt) (hL : L.length ≤ 1000000) (hR : RowC st L) (hb : ∀ b, b ∈ L → b.small) (K : AV → Store → Prop) (h : K (.ref 0 0) [some (.cells [.p (drsP (dFold L).2)]), none]) : Cal Tryz.prog 74 [.p (rowP L)] [] K := by
  refine Cal.cut ?_
  refine Cal.frzF 0 0 ?_
  refine Cal.intro Tryz.func74 (by decide +kernel) rfl rfl ?_
  refine rnew_c _ ?_
  refine Cal.frameK [] (tnew_c _ fun _ => ?_) rfl rfl rfl
  have hlm := rowL L
  refine LoopX.fam [3, 4, 11, 12, 13] (fun (j : Nat) => ([(3, .ref 0 0), (4, .ref 3 0), (11, .p (rowP L)), (12, .p (ii (L.map Bt.pv).length)), (13, .p (ii (j : Nat)))], roS (dFold (L.take j)).2 (tApps ([], 0) (L.take j)).1 (tApps ([], 0) (L.take j)).2))
    (fun j => j ≤ L.length) (fun j => L.length - j) 0 (Nat.zero_le _) (Trim.mk' rfl rfl rfl rfl (Nat.le_refl _)) ?_
  intro j hj
  have hj : j ≤ L.length := hj
  refine Br.mk (fun hc => ?_) (fun hc => ?_)
  · have hc : (j : Int) < ((L.map Bt.pv).length : Nat) := of_decide_eq_true hc
    have hj1 : j < L.length := by omega
    have ej : IntKind.i64.wrap ((j : Int) + 1) = ((j + 1 : Nat) : Int) := by rw [wrap_i64] <;> omega
    have htk : L.take (j + 1) = L.take j ++ [L[j]] := take_succ' hj1
    have hRj : RowC st (L.take j ++ [L[j]]) := by rw [← htk]; exact hR.take _
    have hti : TInv (tApps ([], 0) (L.take j)).1 (tApps ([], 0) (L.take j)).2 := TInv.nil.apps
    have hgt : tGet (tApps ([], 0) (L.take j)).1 L[j].prod = dGet (dFold (L.take j)).1 L[j].prod := (TRel.row _).1 _
    have hst := drops_step (L.take j) L[j]
    rw [← htk] at hst
    have hta : tApps ([], 0) (L.take (j + 1)) = tApp (tApps ([], 0) (L.take j)).1 (tApps ([], 0) (L.take j)).2 L[j] := by rw [htk, tApps_snoc]
    have hdl := (dFold_inv (L.take j)).2.2
    rw [List.length_take] at hdl
    have hok := radd_ok hRj
    have happ := tapply_c (tApps ([], 0) (L.take j)).1 (tApps ([], 0) (L.take j)).2 hti.ok L[j] (hb _ (List.getElem_mem hj1))
    rw [hgt] at happ
    refine Idx.mk _ (Int.natCast_nonneg _) (getL hj1) ?_
    refine Ob.mk (okst rfl rfl rfl) ?_
    refine Cal.frameK [2, 3] (happ _ fun _ => ?_) rfl rfl rfl
    refine Ob.mk (okst rfl rfl rfl) ?_
    refine Br.mk (fun hd => ?_) (fun hd => ?_)
    · have hd : (tDrop (dGet (dFold (L.take j)).1 L[j].prod) L[j]).2 = true := hd
      have hok := hok hd
      rw [if_pos hd] at hst
      have hadd := radd_c (dFold (L.take j)).2 (by omega) (tDrop (dGet (dFold (L.take j)).1 L[j].prod) L[j]).1
      rw [hok, if_pos rfl] at hadd
      refine Cal.frameK [0, 1] (hadd _ fun _ => ?_) rfl rfl rfl
      refine ⟨j + 1, hj1, by show L.length - (j + 1) < L.length - j; omega, (show 4 ≤ 4 by decide), Trim.mk' ?_ ?_ rfl rfl (by show (4 : Nat) ≤ 6; decide)⟩
      · refine Eq.trans (b := [_, _, _, _, (13, AV.p (ii (IntKind.i64.wrap ((j : Int) + 1))))]) rfl ?_
        rw [ej]; rfl
      · show roS ((dFold (L.take j)).2 ++ [_]) (tApp (tApps ([], 0) (L.take j)).1 (tApps ([], 0) (L.take j)).2 L[j]).1 (tApp (tApps ([], 0) (L.take j)).1 (tApps ([], 0) (L.take j)).2 L[j]).2 = _
        rw [hst, hta]
    · have hd : (tDrop (dGet (dFold (L.take j)).1 L[j].prod) L[j]).2 = false := hd
      rw [if_neg (by rw [hd]; decide)] at hst
      refine ⟨j + 1, hj1, by show L.length - (j + 1) < L.length - j; omega, (show 4 ≤ 4 by decide), Trim.mk' ?_ ?_ rfl rfl (by show (4 : Nat) ≤ 6; decide)⟩
      · refine Eq.trans (b := [_, _, _, _, (13, AV.p (ii (IntKind.i64.wrap ((j : Int) + 1))))]) rfl ?_
        rw [ej]; rfl
      · show roS (dFold (L.take j)).2 (tApp (tApps ([], 0) (L.take j)).1 (tApps ([], 0) (L.take j)).2 L[j]).1 (tApp (tApps ([], 0) (L.take j)).1 (tApps ([], 0) (L.take j)).2 L[j]).2 = _
        rw [hst, hta]
  · have hc : ¬ (j : Int) < ((L.map Bt.pv).length : Nat) := of_decide_eq_false hc
    have : j = L.length := by omega
    subst this
    rw [List.take_length]
    refine .inr ⟨_, none, 1, _, 0, _, 3, (dFold L).2.map drP, none, rfl, rfl, rfl, rfl, 2, [some (.cells [.p (.sl .shr 3 ((((dFold L).2.map drP).drop 0).take ((dFold L).2.map drP).length))]), none], Nat.zero_le _, (show 2 ≤ 4 by decide), rfl, rfl, WkS.refl _, ?_⟩
    rw [cut_all]; exact h
theorem rall_c (D : List Dr) (hD : D.length ≤ 1000000000) (K : AV → Store → Prop) (h : K (.p (drsP D)) [some (.cells [.p (drsP D)])]) : Cal Tryz.prog 75 [.ref 0 0] [some (.cells [.p (drsP D)])] K := by
  refine Cal.intro Tryz.func75 (by decide +kernel) rfl rfl ?_
  refine clone_dr (D.map drP) (by rw [drL]; exact hD) _ _ ?_
  exact h
theorem fend_c (L : List Bt) (st : Int) (hL : L.length < 4611686018427387904) (s : Store) (K : AV → Store → Prop) (h : K (.p (ii (endW st L))) s) : Cal Tryz.prog 72 [.p (ii st), .p (rowP L)] s K := by
  refine Cal.pure (args := [ii st, rowP L]) ?_
  refine Cal.intro Tryz.func72 (by decide +kernel) rfl rfl ?_
  exact segnext_c L st hL _ _ h
end Go.Proofs.YtlnelaajlhfabaaGreat.AW

open Go Go.Proofs.YtlnelaajlhfabaaGreat.AW Go.Proofs
namespace Go.Proofs.YtlnelaajlhfabaaGreat.AW
set_option maxRecDepth 100000
set_option linter.unusedSimpArgs false
set_option linter.unusedVariables false

/-! ### ledger.Of -/
def szN (L : List Bt) : Int := (L.map sizeV).sum
theorem szN_snoc (L : List Bt) (b : Bt) : szN (L ++ [b]) = szN L + sizeV b := by unfold szN; rw [List.map_append, List.sum_append]; simp
theorem sizeV_in (b : Bt) : 0 ≤ sizeV b ∧ sizeV b ≤ 4096 := by
  unfold sizeV
  split
  · decide
  · rename_i h
    have h : rightV b = 0 := by simpa using h
    unfold rightV at h
    split at h
    · rename_i h2; simp at h2; exact absurd h h2
    · split at h
      · cases h
      · rename_i h3; simp at h3; omega
theorem szN_in : ∀ L : List Bt, 0 ≤ szN L ∧ szN L ≤ 4096 * (L.length : Int) := by
  refine snocI ⟨by decide, by decide⟩ fun L b ih => ?_
  have := sizeV_in b
  rw [szN_snoc, List.length_append, List.length_singleton]; omega
theorem mkN_le (k : Int) (L : List Bt) : mkN k L ≤ L.length := List.countP_le_length
theorem recN_le {L : List Bt} {M : Nat} (h : ∀ b, b ∈ L → b.recs.length ≤ M) : recN L ≤ L.length * M := by
  induction L with
  | nil => exact Nat.zero_le _
  | cons b L ih =>
    have h1 := ih fun c hc => h c (by simp [hc])
    have h2 := h b (by simp)
    show (if b.mark = 0 then b.recs.length else 0) + recN L ≤ (L.length + 1) * M
    rw [Nat.add_mul]
    split <;> omega
def opN (l : List Pr) : Nat := l.countP fun p => decide (p.op ≥ 0)
theorem opN_snoc (l : List Pr) (p : Pr) : opN (l ++ [p]) = opN l + if decide (p.op ≥ 0) = true then 1 else 0 := by unfold opN; rw [List.countP_append, List.countP_singleton]
def tlC (a b c d e f g : Int) : Option AObj := some (.cells [.p (ii a), .p (ii b), .p (ii c), .p (ii d), .p (ii e), .p (ii f), .p (ii g)])
def tlP (a b c d e f g : Int) : PV := .agg [ii a, ii b, ii c, ii d, ii e, ii f, ii g]
def tl1 (L : List Bt) (f g : Int) : Option AObj := tlC (mkN 0 L) (recN L) (szN L) (mkN 1 L) (mkN 2 L) f g
theorem allU_c {L : List Bt} (hL : L.length ≤ 1000000000) (K : AV → Store → Prop) (hk : K (.p (prsC (dFold L).1)) (tbS (tApps ([], 0) L).1 (tApps ([], 0) L).2)) : Cal Tryz.prog 18 [.ref 1 0] (tbS (tApps ([], 0) L).1 (tApps ([], 0) L).2) K := by
  have hin : TInv (tApps ([], 0) L).1 (tApps ([], 0) L).2 := TInv.nil.apps
  have hln : (tApps ([], 0) L).1.length ≤ L.length := by
    suffices ∀ (M : List Bt) (q : List TE × Nat), (tApps q M).1.length ≤ q.1.length + M.length from by have := this L ([], 0); simpa using this
    intro M
    induction M with
    | nil => intro q; exact Nat.le_refl _
    | cons b M ih =>
      intro q
      have h1 := ih (tApp q.1 q.2 b)
      have h2 : (tApp q.1 q.2 b).1.length ≤ q.1.length + 1 := by
        unfold tApp
        split
        · exact Nat.le_succ _
        · show (tPut _ _ _ _).length ≤ _
          unfold tPut
          split
          · have : ∀ (n : Int) (x : Pr) (es : List TE), (tSet es n x).length = es.length := fun n x es => by have := congrArg List.length (tSet_st n x es); simpa using this
            rw [this]; exact Nat.le_succ _
          · rw [List.length_append]; exact Nat.le_refl _
      show (tApps (tApp q.1 q.2 b) M).1.length ≤ q.1.length + (M.length + 1)
      omega
  refine tall_c _ _ hin (by omega) _ fun ps hp hs => ?_
  rw [(TRel.row L).all hin hp hs]; exact hk
theorem wk_gsC (l : List Gt) : WkD (gsC l) (gsP l) := .sl _ _ _ _ rfl (fun y hy => by obtain ⟨g, _, rfl⟩ := List.mem_map.1 hy; exact ⟨rfl, rfl⟩) (wkds_refl _)
theorem stay_len (D : List Dr) (gs : List Gt) : (stay D gs).length + gs.countP (bad D) = gs.length := by
  unfold stay
  induction gs with
  | nil => rfl
  | cons g gs ih =>
    rw [List.filter_cons, List.countP_cons]
    cases h : bad D g <;> simp <;> omega
set_option maxHeartbeats 16000000 in
theorem of_c {st : Int} (L : List Bt) (hL : L.length ≤ 1000000) (hR : RowC st L) (s : Store) (K : AV → Store → Prop)
    (h : K (.p (tlP (mkN 0 L) (recN L) (szN L) (mkN 1 L) (mkN 2 L) (opN (dFold L).1) ((gts st (endW st L) L).countP (bad (dFold L).2)))) s) : Cal Tryz.prog 26 [.p (ii st), .p (rowP L)] s K := by
  refine Cal.pure (args := [ii st, rowP L]) ?_
  refine Cal.intro Tryz.func26 (by decide +kernel) rfl rfl ?_
  have hlm := rowL L
  have hb : ∀ b, b ∈ L → b.small := fun b hm => by
    obtain ⟨h1, h2⟩ := right_small (hR.right b hm)
    exact ⟨by omega, fun q hq => by have := h2 q hq; omega⟩
  have hb3 : ∀ b, b ∈ L → b.recs.length ≤ 300 := fun b hm => (hb b hm).1
  refine LoopX.fam [0, 1, 4, 5, 12, 13, 14] (fun (j : Nat) => ([(0, .p (ii st)), (1, .p (rowP L)), (4, .ref 0 0), (5, .ref 1 0), (12, .p (rowP L)), (13, .p (ii (L.map Bt.pv).length)), (14, .p (ii (j : Nat)))], [tlC 0 0 0 0 0 0 0, tl1 (L.take j) 0 0]))
    (fun j => j ≤ L.length) (fun j => L.length - j) 0 (Nat.zero_le _) (Trim.mk' rfl rfl rfl rfl (Nat.le_refl _)) ?_
  intro j hj
  have hj : j ≤ L.length := hj
  refine Br.mk (fun hc => ?_) (fun hc => ?_)
  · have hc : (j : Int) < ((L.map Bt.pv).length : Nat) := of_decide_eq_true hc
    have hj1 : j < L.length := by omega
    have ej : IntKind.i64.wrap ((j : Int) + 1) = ((j + 1 : Nat) : Int) := by rw [wrap_i64] <;> omega
    have htk : L.take (j + 1) = L.take j ++ [L[j]] := take_succ' hj1
    have hbj := hb _ (List.getElem_mem hj1)
    have hsz := sizeV_in L[j]
    have hsn := szN_in (L.take j)
    have hm0 := mkN_le 0 (L.take j); have hm1 := mkN_le 1 (L.take j); have hm2 := mkN_le 2 (L.take j)
    have hrn := recN_le (M := 300) (L := L.take j) (fun b hm => hb3 b (List.mem_of_mem_take hm))
    rw [List.length_take] at hsn hm0 hm1 hm2 hrn
    have hmul : min j L.length * 300 ≤ 1000000 * 300 := Nat.mul_le_mul_right _ (by omega)
    have hr3 := hb3 _ (List.getElem_mem hj1)
    have e0 : IntKind.i64.wrap (((mkN 0 (L.take j) : Nat) : Int) + 1) = ((mkN 0 (L.take j) + 1 : Nat) : Int) := by rw [wrap_i64] <;> omega
    have e1 : IntKind.i64.wrap (((mkN 1 (L.take j) : Nat) : Int) + 1) = ((mkN 1 (L.take j) + 1 : Nat) : Int) := by rw [wrap_i64] <;> omega
    have e2 : IntKind.i64.wrap (((mkN 2 (L.take j) : Nat) : Int) + 1) = ((mkN 2 (L.take j) + 1 : Nat) : Int) := by rw [wrap_i64] <;> omega
    have er : IntKind.i64.wrap (((recN (L.take j) : Nat) : Int) + ((L[j].recs.map rec2).length : Nat)) = ((recN (L.take j) + L[j].recs.length : Nat) : Int) := by rw [rcP_len, wrap_i64] <;> omega
    have es : IntKind.i64.wrap (szN (L.take j) + sizeV L[j]) = szN (L.take j) + sizeV L[j] := by rw [wrap_i64] <;> omega
    have fin : ∀ (o : Option AObj), o = tl1 (L.take (j + 1)) 0 0 → [tlC 0 0 0 0 0 0 0, o] = [tlC 0 0 0 0 0 0 0, tl1 (L.take (j + 1)) 0 0] := fun o e => by rw [e]
    have snoc : tl1 (L.take (j + 1)) 0 0 = tlC ((mkN 0 (L.take j) + (if L[j].mark = 0 then 1 else 0) : Nat)) ((recN (L.take j) + (if L[j].mark = 0 then L[j].recs.length else 0) : Nat)) (szN (L.take j) + sizeV L[j]) ((mkN 1 (L.take j) + (if L[j].mark = 1 then 1 else 0) : Nat)) ((mkN 2 (L.take j) + (if L[j].mark = 2 then 1 else 0) : Nat)) 0 0 := by
      unfold tl1; rw [htk, mkN_snoc, mkN_snoc, mkN_snoc, recN_snoc, szN_snoc]
    refine Idx.mk _ (Int.natCast_nonneg _) (getL hj1) ?_
    refine Ob.mk (okst rfl rfl rfl) ?_
    repeat' (first
      | refine Chk.mk (by kernel_rfl) ?_
      | (apply Br.t; · (first | rfl | (simp only [*] <;> rfl)))
      | (apply Br.f; · (first | rfl | (simp only [*] <;> rfl)))
      | refine ⟨_, ⟨rfl, rfl⟩, ?_⟩
      | refine ⟨_, _, ⟨rfl, rfl⟩, rfl, ?_⟩
      | refine Or.inl ⟨_, fun s' => size2_c L[j] hbj s' _ ⟨rfl, rfl⟩, rfl, ?_⟩
      | refine ⟨_, Ob.mk (by decide) ⟨rfl, rfl⟩, ?_⟩
      | (refine ⟨_, Br.t ?_ ⟨rfl, rfl⟩, ?_⟩; · (first | rfl | (simp only [*] <;> rfl)))
      | (refine ⟨_, Br.f ?_ ⟨rfl, rfl⟩, ?_⟩; · (first | rfl | (simp only [*] <;> rfl)))
      | refine ⟨_, _, Ob.mk (okst rfl rfl rfl) ⟨rfl, rfl⟩, rfl, ?_⟩
      | refine Ob.mk (okst rfl rfl rfl) ?_
      | refine Ob.mk (by decide) ?_
      | refine Br.mkT (fun c => ?_) (fun c => ?_)
      | refine Br.mkF (fun c => ?_) (fun c => ?_)
      | refine Br.mk (fun c => ?_) (fun c => ?_))
    · have hm : L[j].mark = 0 := by simpa using c
      have em : ∀ x y : Nat, (if L[j].mark = 0 then x else y) = x := fun x y => if_pos hm
      have en : ∀ x y : Nat, (if L[j].mark = 1 then x else y) = y := fun x y => if_neg (by rw [hm]; decide)
      have ep : ∀ x y : Nat, (if L[j].mark = 2 then x else y) = y := fun x y => if_neg (by rw [hm]; decide)
      rw [em, em, en, ep] at snoc
      simp only [Nat.add_zero] at snoc
      refine ⟨j + 1, hj1, by show L.length - (j + 1) < L.length - j; omega, (show 2 ≤ 2 by decide), Trim.mk' ?_ ?_ rfl rfl (by show (2 : Nat) ≤ 3; decide)⟩
      · refine Eq.trans (b := [_, _, _, _, _, _, (14, AV.p (ii (IntKind.i64.wrap ((j : Int) + 1))))]) rfl ?_
        rw [ej]; rfl
      · refine Eq.trans (b := [_, tlC (IntKind.i64.wrap (((mkN 0 (L.take j) : Nat) : Int) + 1)) (IntKind.i64.wrap (((recN (L.take j) : Nat) : Int) + ((L[j].recs.map rec2).length : Nat))) (IntKind.i64.wrap (szN (L.take j) + sizeV L[j])) ((mkN 1 (L.take j) : Nat)) ((mkN 2 (L.take j) : Nat)) 0 0]) rfl ?_
        refine fin _ ?_
        rw [snoc, es]
        try simp only [e0, er]
    · rename_i c0
      have h0 : ¬ L[j].mark = 0 := by simpa using c0
      have hm : L[j].mark = 1 := by simpa using c
      have em : ∀ x y : Nat, (if L[j].mark = 0 then x else y) = y := fun x y => if_neg h0
      have en : ∀ x y : Nat, (if L[j].mark = 1 then x else y) = x := fun x y => if_pos hm
      have ep : ∀ x y : Nat, (if L[j].mark = 2 then x else y) = y := fun x y => if_neg (by rw [hm]; decide)
      rw [em, em, en, ep] at snoc
      simp only [Nat.add_zero] at snoc
      refine ⟨j + 1, hj1, by show L.length - (j + 1) < L.length - j; omega, (show 2 ≤ 2 by decide), Trim.mk' ?_ ?_ rfl rfl (by show (2 : Nat) ≤ 3; decide)⟩
      · refine Eq.trans (b := [_, _, _, _, _, _, (14, AV.p (ii (IntKind.i64.wrap ((j : Int) + 1))))]) rfl ?_
        rw [ej]; rfl
      · refine Eq.trans (b := [_, tlC ((mkN 0 (L.take j) : Nat)) ((recN (L.take j) : Nat)) (IntKind.i64.wrap (szN (L.take j) + sizeV L[j])) (IntKind.i64.wrap (((mkN 1 (L.take j) : Nat) : Int) + 1)) ((mkN 2 (L.take j) : Nat)) 0 0]) rfl ?_
        refine fin _ ?_
        rw [snoc, es]
        try simp only [e1]
    · rename_i c0 c1
      have h0 : ¬ L[j].mark = 0 := by simpa using c0
      have h1 : ¬ L[j].mark = 1 := by simpa using c1
      have hm : L[j].mark = 2 := by simpa using c
      have em : ∀ x y : Nat, (if L[j].mark = 0 then x else y) = y := fun x y => if_neg h0
      have en : ∀ x y : Nat, (if L[j].mark = 1 then x else y) = y := fun x y => if_neg h1
      have ep : ∀ x y : Nat, (if L[j].mark = 2 then x else y) = x := fun x y => if_pos hm
      rw [em, em, en, ep] at snoc
      simp only [Nat.add_zero] at snoc
      refine ⟨j + 1, hj1, by show L.length - (j + 1) < L.length - j; omega, (show 2 ≤ 2 by decide), Trim.mk' ?_ ?_ rfl rfl (by show (2 : Nat) ≤ 3; decide)⟩
      · refine Eq.trans (b := [_, _, _, _, _, _, (14, AV.p (ii (IntKind.i64.wrap ((j : Int) + 1))))]) rfl ?_
        rw [ej]; rfl
      · refine Eq.trans (b := [_, tlC ((mkN 0 (L.take j) : Nat)) ((recN (L.take j) : Nat)) (IntKind.i64.wrap (szN (L.take j) + sizeV L[j])) ((mkN 1 (L.take j) : Nat)) (IntKind.i64.wrap (((mkN 2 (L.take j) : Nat) : Int) + 1)) 0 0]) rfl ?_
        refine fin _ ?_
        rw [snoc, es]
        try simp only [e2]
    · rename_i c0 c1
      have h0 : ¬ L[j].mark = 0 := by simpa using c0
      have h1 : ¬ L[j].mark = 1 := by simpa using c1
      have h2 : ¬ L[j].mark = 2 := by simpa using c
      have em : ∀ x y : Nat, (if L[j].mark = 0 then x else y) = y := fun x y => if_neg h0
      have en : ∀ x y : Nat, (if L[j].mark = 1 then x else y) = y := fun x y => if_neg h1
      have ep : ∀ x y : Nat, (if L[j].mark = 2 then x else y) = y := fun x y => if_neg h2
      rw [em, em, en, ep] at snoc
      simp only [Nat.add_zero] at snoc
      refine ⟨j + 1, hj1, by show L.length - (j + 1) < L.length - j; omega, (show 2 ≤ 2 by decide), Trim.mk' ?_ ?_ rfl rfl (by show (2 : Nat) ≤ 3; decide)⟩
      · refine Eq.trans (b := [_, _, _, _, _, _, (14, AV.p (ii (IntKind.i64.wrap ((j : Int) + 1))))]) rfl ?_
        rw [ej]; rfl
      · refine Eq.trans (b := [_, tlC ((mkN 0 (L.take j) : Nat)) ((recN (L.take j) : Nat)) (IntKind.i64.wrap (szN (L.take j) + sizeV L[j])) ((mkN 1 (L.take j) : Nat)) ((mkN 2 (L.take j) : Nat)) 0 0]) rfl ?_
        refine fin _ ?_
        rw [snoc, es]
        try simp only [es]
  · have hc : ¬ (j : Int) < ((L.map Bt.pv).length : Nat) := of_decide_eq_false hc
    have : j = L.length := by omega
    subst this
    rw [List.take_length]
    refine Cal.frameK [] (tfold_c L (by omega) hb _ fun _ => ?_) rfl rfl rfl
    refine Cal.frameK [2, 3] (allU_c (L := L) (by omega) _ fun _ => ?_) rfl rfl rfl
    obtain ⟨hi1, hi2, hi3⟩ := dFold_inv L
    have hpl := prsL (dFold L).1
    refine LoopX.fam [0, 1, 4, 5, 54, 55, 56] (fun (j : Nat) => ([(0, .p (ii st)), (1, .p (rowP L)), (4, .ref 0 0), (5, .ref 1 0), (54, .p (prsC (dFold L).1)), (55, .p (ii ((dFold L).1.map Pr.pv).length)), (56, .p (ii (j : Nat)))], [tlC 0 0 0 0 0 0 0, tl1 L (opN ((dFold L).1.take j)) 0, some (.map (.int .i64) ((tApps ([], 0) L).1.map tent) (tApps ([], 0) L).2), some (.cells [.map 2])]))
      (fun j => j ≤ (dFold L).1.length) (fun j => (dFold L).1.length - j) 0 (Nat.zero_le _) (Trim.mk' rfl rfl rfl rfl (Nat.le_refl _)) ?_
    intro j hj
    have hj : j ≤ (dFold L).1.length := hj
    refine Br.mk (fun hc => ?_) (fun hc => ?_)
    · have hc : (j : Int) < (((dFold L).1.map Pr.pv).length : Nat) := of_decide_eq_true hc
      have hj1 : j < (dFold L).1.length := by omega
      have ej : IntKind.i64.wrap ((j : Int) + 1) = ((j + 1 : Nat) : Int) := by rw [wrap_i64] <;> omega
      have hon : opN ((dFold L).1.take j) ≤ j := Nat.le_trans List.countP_le_length (by rw [List.length_take]; omega)
      have htk := opN_snoc ((dFold L).1.take j) (dFold L).1[j]
      rw [← take_succ' hj1] at htk
      have eo : IntKind.i64.wrap (((opN ((dFold L).1.take j) : Nat) : Int) + 1) = ((opN ((dFold L).1.take j) + 1 : Nat) : Int) := by rw [wrap_i64] <;> omega
      refine Idx.mk _ (Int.natCast_nonneg _) (getP hj1) ?_
      refine Ob.mk (okst rfl rfl rfl) ?_
      refine Br.mk (fun hd => ?_) (fun hd => ?_)
      · have hd : decide ((dFold L).1[j].op ≥ 0) = true := hd
        rw [if_pos hd] at htk
        refine Ob.mk (okst rfl rfl rfl) ?_
        refine ⟨j + 1, hj1, by show (dFold L).1.length - (j + 1) < (dFold L).1.length - j; omega, (show 4 ≤ 4 by decide), Trim.mk' ?_ ?_ rfl rfl (by show (4 : Nat) ≤ 5; decide)⟩
        · refine Eq.trans (b := [_, _, _, _, _, _, (56, AV.p (ii (IntKind.i64.wrap ((j : Int) + 1))))]) rfl ?_
          rw [ej]; rfl
        · refine Eq.trans (b := [_, tl1 L (IntKind.i64.wrap (((opN ((dFold L).1.take j) : Nat) : Int) + 1)) 0, _, _]) rfl ?_
          rw [eo, ← htk]
      · have hd : decide ((dFold L).1[j].op ≥ 0) = false := hd
        rw [if_neg (by rw [hd]; decide), Nat.add_zero] at htk
        refine ⟨j + 1, hj1, by show (dFold L).1.length - (j + 1) < (dFold L).1.length - j; omega, (show 4 ≤ 4 by decide), Trim.mk' ?_ ?_ rfl rfl (by show (4 : Nat) ≤ 5; decide)⟩
        · refine Eq.trans (b := [_, _, _, _, _, _, (56, AV.p (ii (IntKind.i64.wrap ((j : Int) + 1))))]) rfl ?_
          rw [ej]; rfl
        · refine Eq.trans (b := [_, tl1 L (opN ((dFold L).1.take j) : Nat) 0, _, _]) rfl ?_
          rw [htk]; rfl
    · have hc : ¬ (j : Int) < (((dFold L).1.map Pr.pv).length : Nat) := of_decide_eq_false hc
      have : j = (dFold L).1.length := by omega
      subst this
      rw [List.take_length]
      refine fend_c L st (by omega) _ _ ?_
      refine frecs_c st st (endW st L) L hL hb3 _ _ ?_
      refine Cal.frameK [] (rof_c L hL hR hb _ fun _ => ?_) rfl rfl rfl
      refine Cal.frameK [4] (rall_c (dFold L).2 (by omega) _ fun _ => ?_) rfl rfl rfl
      have hgl := gts_le (fr := st) (to := endW st L) hb3
      have hml : L.length * 300 ≤ 1000000 * 300 := Nat.mul_le_mul_right _ hL
      have hsl := stay_len (dFold L).2 (gts st (endW st L) L)
      have hdel : ∀ s K, K (.p (gsC (stay (dFold L).2 (gts st (endW st L) L)))) s → Cal Tryz.prog 76 [.p (.agg [gsC (gts st (endW st L) L), drsP (dFold L).2, ii 0, ii 0])] s K := fun s K hk =>
        Cal.argsD (args' := [.p (.agg [gsP (gts st (endW st L) L), drsP (dFold L).2, ii 0, ii 0])]) (deliver_c _ _ 0 0 (by omega) (by omega) s K hk) ⟨.inr ⟨_, _, rfl, rfl, .agg _ _ (.cons _ _ _ _ (wk_gsC _) (.cons _ _ _ _ (.refl _) (.cons _ _ _ _ (.refl _) (.cons _ _ _ _ (.refl _) .nil))))⟩, trivial⟩
      have es : IntKind.i64.wrap ((((gts st (endW st L) L).map Gt.pv).length : Nat) - ((((stay (dFold L).2 (gts st (endW st L) L)).map Gt.pv).length : Nat) : Int)) = (((gts st (endW st L) L).countP (bad (dFold L).2) : Nat) : Int) := by
        rw [gsL, gsL, wrap_i64] <;> omega
      refine Ob.mk (okst rfl rfl rfl) ?_
      rw [← es] at h
      clear hgl hml hsl es
      repeat' (first
        | refine Chk.mk (by kernel_rfl) ?_
        | (apply Br.t; · (first | rfl | (simp only [*] <;> rfl)))
        | (apply Br.f; · (first | rfl | (simp only [*] <;> rfl)))
        | refine ⟨_, ⟨rfl, rfl⟩, ?_⟩
        | refine ⟨_, _, ⟨rfl, rfl⟩, rfl, ?_⟩
        | refine Or.inl ⟨_, fun s' => hdel s' _ ⟨rfl, rfl⟩, rfl, ?_⟩
        | refine ⟨_, Ob.mk (by decide) ⟨rfl, rfl⟩, ?_⟩
        | (refine ⟨_, Br.t ?_ ⟨rfl, rfl⟩, ?_⟩; · (first | rfl | (simp only [*] <;> rfl)))
        | (refine ⟨_, Br.f ?_ ⟨rfl, rfl⟩, ?_⟩; · (first | rfl | (simp only [*] <;> rfl)))
        | refine ⟨_, _, Ob.mk (okst rfl rfl rfl) ⟨rfl, rfl⟩, rfl, ?_⟩
        | refine Ob.mk (okst rfl rfl rfl) ?_
        | refine Ob.mk (by decide) ?_
        | refine Br.mkT (fun c => ?_) (fun c => ?_)
        | refine Br.mkF (fun c => ?_) (fun c => ?_)
        | refine Br.mk (fun c => ?_) (fun c => ?_))
      exact h
end Go.Proofs.YtlnelaajlhfabaaGreat.AW

open Go Go.Proofs.YtlnelaajlhfabaaGreat.AW Go.Proofs
namespace Go.Proofs.YtlnelaajlhfabaaGreat.AW
set_option maxRecDepth 100000
set_option linter.unusedSimpArgs false
set_option linter.unusedVariables false

/-! ### .. by the document -/
theorem bad_hit {L : List Bt} (h : DInv L) (g : Gt) : bad (dFold L).2 g = hit (dFold L).2 g := by
  unfold bad hit
  rw [Bool.eq_iff_iff, List.any_eq_true, List.any_eq_true]
  constructor
  · rintro ⟨d, hd, hg⟩
    refine ⟨d, hd, (gm_iff _ _).2 ?_⟩
    unfold gmD at hg
    simp at hg
    exact ⟨hg.2.1.symm, hg.2.2.1, hg.2.2.2⟩
  · rintro ⟨d, hd, hg⟩
    refine ⟨d, hd, ?_⟩
    obtain ⟨h1, h2, h3⟩ := (gm_iff _ _).1 hg
    have := (h.d1 d hd).1
    unfold gmD
    simp
    exact ⟨by omega, h1.symm, h2, h3⟩
def hitsN (D : List Dr) (G : List Gt) : Nat := (G.map fun g => D.countP (gm g)).sum
theorem hitsN_snoc (D : List Dr) (G : List Gt) (g : Gt) : hitsN D (G ++ [g]) = hitsN D G + D.countP (gm g) := by unfold hitsN; rw [List.map_append, List.sum_append]; simp
theorem hitsN_le (D : List Dr) : ∀ G : List Gt, hitsN D G ≤ G.length * D.length
  | [] => Nat.zero_le _
  | g :: G => by
    have := hitsN_le D G
    have h2 : D.countP (gm g) ≤ D.length := List.countP_le_length
    show D.countP (gm g) + hitsN D G ≤ (G.length + 1) * D.length
    rw [Nat.add_mul]; omega
theorem hitsN_row {L : List Bt} (h : DInv L) : ∀ G : List Gt, hitsN (dFold L).2 G = G.countP (bad (dFold L).2)
  | [] => rfl
  | g :: G => by
    show (dFold L).2.countP (gm g) + hitsN (dFold L).2 G = _
    rw [hitsN_row h G, List.countP_cons, one_hit h, ← bad_hit h, Nat.add_comm]
/-- How often so far: the records ahead, and this one with the first ones dropped. -/
def hitsA (D : List Dr) (G : List Gt) (i k : Nat) : Nat := hitsN D (G.take i) + (D.take k).countP (gm (G.getD i ⟨0, 0, [], []⟩))
theorem getD_G {G : List Gt} {i : Nat} (h : i < G.length) : G.getD i ⟨0, 0, [], []⟩ = G[i] := by rw [List.getD_eq_getElem?_getD, List.getElem?_eq_getElem h]; rfl
theorem hitsA_0 (D : List Dr) (G : List Gt) (i : Nat) : hitsA D G i 0 = hitsN D (G.take i) := by unfold hitsA; simp
theorem hitsA_succ {D : List Dr} {G : List Gt} {i k : Nat} (hi : i < G.length) (hk : k < D.length) : hitsA D G i (k + 1) = hitsA D G i k + if gm G[i] D[k] = true then 1 else 0 := by
  unfold hitsA; rw [getD_G hi, take_succ' hk, List.countP_append, List.countP_singleton, Nat.add_assoc]
theorem hitsA_end {D : List Dr} {G : List Gt} {i : Nat} (hi : i < G.length) : hitsA D G i D.length = hitsN D (G.take (i + 1)) := by
  unfold hitsA; rw [getD_G hi, List.take_length, take_succ' hi, hitsN_snoc]
theorem hitsA_le {D : List Dr} {G : List Gt} {i k : Nat} (hD : D.length ≤ 1000000) (hG : G.length ≤ 300000000) : hitsA D G i k ≤ 300000001000000 := by
  unfold hitsA
  have h1 := hitsN_le D (G.take i)
  have h2 : (D.take k).countP (gm (G.getD i ⟨0, 0, [], []⟩)) ≤ D.length := Nat.le_trans List.countP_le_length (by rw [List.length_take]; omega)
  have h3 : (G.take i).length * D.length ≤ 300000000 * 1000000 := Nat.mul_le_mul (by rw [List.length_take]; omega) hD
  omega
set_option maxHeartbeats 16000000 in
theorem tally_c {st : Int} (L : List Bt) (hL : L.length ≤ 1000000) (hst : 0 ≤ st) (hR : RowC st L) (s : Store) (K : AV → Store → Prop)
    (h : K (.p (tlP (mkN 0 L) (recN L) (szN L) (mkN 1 L) (mkN 2 L) (opN (dFold L).1) ((gts st (endW st L) L).countP (bad (dFold L).2)))) s) : Cal Tryz.prog 27 [.p (rowP L)] s K := by
  refine Cal.pure (args := [rowP L]) ?_
  refine Cal.intro Tryz.func27 (by decide +kernel) rfl rfl ?_
  have hlm := rowL L
  have hb : ∀ b, b ∈ L → b.small := fun b hm => by
    obtain ⟨h1, h2⟩ := right_small (hR.right b hm)
    exact ⟨by omega, fun q hq => by have := h2 q hq; omega⟩
  have hb3 : ∀ b, b ∈ L → b.recs.length ≤ 300 := fun b hm => (hb b hm).1
  refine Cal.frameK [] (dfold_c L (by omega) hb _ fun _ => ?_) rfl rfl rfl
  obtain ⟨hi1, hi2, hi3⟩ := dFold_inv L
  refine LoopX.fam [0, 2, 3, 4, 5, 19, 20, 21] (fun (j : Nat) => ([(0, .p (rowP L)), (2, .ref 0 0), (3, .ref 1 0), (4, .ref 2 0), (5, .p (drsP (dFold L).2)), (19, .p (rowP L)), (20, .p (ii (L.map Bt.pv).length)), (21, .p (ii (j : Nat)))], [tlC 0 0 0 0 0 0 0, tl1 (L.take j) 0 0, some (.cells [.p (prsP (dFold L).1)])]))
    (fun j => j ≤ L.length) (fun j => L.length - j) 0 (Nat.zero_le _) (Trim.mk' rfl rfl rfl rfl (Nat.le_refl _)) ?_
  intro j hj
  have hj : j ≤ L.length := hj
  refine Br.mk (fun hc => ?_) (fun hc => ?_)
  · have hc : (j : Int) < ((L.map Bt.pv).length : Nat) := of_decide_eq_true hc
    have hj1 : j < L.length := by omega
    have ej : IntKind.i64.wrap ((j : Int) + 1) = ((j + 1 : Nat) : Int) := by rw [wrap_i64] <;> omega
    have htk : L.take (j + 1) = L.take j ++ [L[j]] := take_succ' hj1
    have hbj := hb _ (List.getElem_mem hj1)
    have hsz := sizeV_in L[j]
    have hsn := szN_in (L.take j)
    have hm0 := mkN_le 0 (L.take j); have hm1 := mkN_le 1 (L.take j); have hm2 := mkN_le 2 (L.take j)
    have hrn := recN_le (M := 300) (L := L.take j) (fun b hm => hb3 b (List.mem_of_mem_take hm))
    rw [List.length_take] at hsn hm0 hm1 hm2 hrn
    have hmul : min j L.length * 300 ≤ 1000000 * 300 := Nat.mul_le_mul_right _ (by omega)
    have hr3 := hb3 _ (List.getElem_mem hj1)
    have e0 : IntKind.i64.wrap (((mkN 0 (L.take j) : Nat) : Int) + 1) = ((mkN 0 (L.take j) + 1 : Nat) : Int) := by rw [wrap_i64] <;> omega
    have e1 : IntKind.i64.wrap (((mkN 1 (L.take j) : Nat) : Int) + 1) = ((mkN 1 (L.take j) + 1 : Nat) : Int) := by rw [wrap_i64] <;> omega
    have e2 : IntKind.i64.wrap (((mkN 2 (L.take j) : Nat) : Int) + 1) = ((mkN 2 (L.take j) + 1 : Nat) : Int) := by rw [wrap_i64] <;> omega
    have er : IntKind.i64.wrap (((recN (L.take j) : Nat) : Int) + ((L[j].recs.map rec2).length : Nat)) = ((recN (L.take j) + L[j].recs.length : Nat) : Int) := by rw [rcP_len, wrap_i64] <;> omega
    have es : IntKind.i64.wrap (szN (L.take j) + sizeV L[j]) = szN (L.take j) + sizeV L[j] := by rw [wrap_i64] <;> omega
    have fin : ∀ (o : Option AObj), o = tl1 (L.take (j + 1)) 0 0 → [tlC 0 0 0 0 0 0 0, o, some (.cells [.p (prsP (dFold L).1)])] = [tlC 0 0 0 0 0 0 0, tl1 (L.take (j + 1)) 0 0, some (.cells [.p (prsP (dFold L).1)])] := fun o e => by rw [e]
    have snoc : tl1 (L.take (j + 1)) 0 0 = tlC ((mkN 0 (L.take j) + (if L[j].mark = 0 then 1 else 0) : Nat)) ((recN (L.take j) + (if L[j].mark = 0 then L[j].recs.length else 0) : Nat)) (szN (L.take j) + sizeV L[j]) ((mkN 1 (L.take j) + (if L[j].mark = 1 then 1 else 0) : Nat)) ((mkN 2 (L.take j) + (if L[j].mark = 2 then 1 else 0) : Nat)) 0 0 := by
      unfold tl1; rw [htk, mkN_snoc, mkN_snoc, mkN_snoc, recN_snoc, szN_snoc]
    refine Idx.mk _ (Int.natCast_nonneg _) (getL hj1) ?_
    refine Ob.mk (okst rfl rfl rfl) ?_
    repeat' (first
      | refine Chk.mk (by kernel_rfl) ?_
      | (apply Br.t; · (first | rfl | (simp only [*] <;> rfl)))
      | (apply Br.f; · (first | rfl | (simp only [*] <;> rfl)))
      | refine ⟨_, ⟨rfl, rfl⟩, ?_⟩
      | refine ⟨_, _, ⟨rfl, rfl⟩, rfl, ?_⟩
      | refine Or.inl ⟨_, fun s' => size_c L[j] hbj s' _ ⟨rfl, rfl⟩, rfl, ?_⟩
      | refine ⟨_, Ob.mk (by decide) ⟨rfl, rfl⟩, ?_⟩
      | (refine ⟨_, Br.t ?_ ⟨rfl, rfl⟩, ?_⟩; · (first | rfl | (simp only [*] <;> rfl)))
      | (refine ⟨_, Br.f ?_ ⟨rfl, rfl⟩, ?_⟩; · (first | rfl | (simp only [*] <;> rfl)))
      | refine ⟨_, _, Ob.mk (okst rfl rfl rfl) ⟨rfl, rfl⟩, rfl, ?_⟩
      | refine Ob.mk (okst rfl rfl rfl) ?_
      | refine Ob.mk (by decide) ?_
      | refine Br.mkT (fun c => ?_) (fun c => ?_)
      | refine Br.mkF (fun c => ?_) (fun c => ?_)
      | refine Br.mk (fun c => ?_) (fun c => ?_))
    · have hm : L[j].mark = 0 := by simpa using c
      have em : ∀ x y : Nat, (if L[j].mark = 0 then x else y) = x := fun x y => if_pos hm
      have en : ∀ x y : Nat, (if L[j].mark = 1 then x else y) = y := fun x y => if_neg (by rw [hm]; decide)
      have ep : ∀ x y : Nat, (if L[j].mark = 2 then x else y) = y := fun x y => if_neg (by rw [hm]; decide)
      rw [em, em, en, ep] at snoc
      simp only [Nat.add_zero] at snoc
      refine ⟨j + 1, hj1, by show L.length - (j + 1) < L.length - j; omega, (show 3 ≤ 3 by decide), Trim.mk' ?_ ?_ rfl rfl (by show (3 : Nat) ≤ 4; decide)⟩
      · refine Eq.trans (b := [_, _, _, _, _, _, _, (21, AV.p (ii (IntKind.i64.wrap ((j : Int) + 1))))]) rfl ?_
        rw [ej]; rfl
      · refine Eq.trans (b := [_, tlC (IntKind.i64.wrap (((mkN 0 (L.take j) : Nat) : Int) + 1)) (IntKind.i64.wrap (((recN (L.take j) : Nat) : Int) + ((L[j].recs.map rec2).length : Nat))) (IntKind.i64.wrap (szN (L.take j) + sizeV L[j])) ((mkN 1 (L.take j) : Nat)) ((mkN 2 (L.take j) : Nat)) 0 0, _]) rfl ?_
        refine fin _ ?_
        rw [snoc, es]
        try simp only [e0, er]
    · rename_i c0
      have h0 : ¬ L[j].mark = 0 := by simpa using c0
      have hm : L[j].mark = 1 := by simpa using c
      have em : ∀ x y : Nat, (if L[j].mark = 0 then x else y) = y := fun x y => if_neg h0
      have en : ∀ x y : Nat, (if L[j].mark = 1 then x else y) = x := fun x y => if_pos hm
      have ep : ∀ x y : Nat, (if L[j].mark = 2 then x else y) = y := fun x y => if_neg (by rw [hm]; decide)
      rw [em, em, en, ep] at snoc
      simp only [Nat.add_zero] at snoc
      refine ⟨j + 1, hj1, by show L.length - (j + 1) < L.length - j; omega, (show 3 ≤ 3 by decide), Trim.mk' ?_ ?_ rfl rfl (by show (3 : Nat) ≤ 4; decide)⟩
      · refine Eq.trans (b := [_, _, _, _, _, _, _, (21, AV.p (ii (IntKind.i64.wrap ((j : Int) + 1))))]) rfl ?_
        rw [ej]; rfl
      · refine Eq.trans (b := [_, tlC ((mkN 0 (L.take j) : Nat)) ((recN (L.take j) : Nat)) (IntKind.i64.wrap (szN (L.take j) + sizeV L[j])) (IntKind.i64.wrap (((mkN 1 (L.take j) : Nat) : Int) + 1)) ((mkN 2 (L.take j) : Nat)) 0 0, _]) rfl ?_
        refine fin _ ?_
        rw [snoc, es]
        try simp only [e1]
    · rename_i c0 c1
      have h0 : ¬ L[j].mark = 0 := by simpa using c0
      have h1 : ¬ L[j].mark = 1 := by simpa using c1
      have hm : L[j].mark = 2 := by simpa using c
      have em : ∀ x y : Nat, (if L[j].mark = 0 then x else y) = y := fun x y => if_neg h0
      have en : ∀ x y : Nat, (if L[j].mark = 1 then x else y) = y := fun x y => if_neg h1
      have ep : ∀ x y : Nat, (if L[j].mark = 2 then x else y) = x := fun x y => if_pos hm
      rw [em, em, en, ep] at snoc
      simp only [Nat.add_zero] at snoc
      refine ⟨j + 1, hj1, by show L.length - (j + 1) < L.length - j; omega, (show 3 ≤ 3 by decide), Trim.mk' ?_ ?_ rfl rfl (by show (3 : Nat) ≤ 4; decide)⟩
      · refine Eq.trans (b := [_, _, _, _, _, _, _, (21, AV.p (ii (IntKind.i64.wrap ((j : Int) + 1))))]) rfl ?_
        rw [ej]; rfl
      · refine Eq.trans (b := [_, tlC ((mkN 0 (L.take j) : Nat)) ((recN (L.take j) : Nat)) (IntKind.i64.wrap (szN (L.take j) + sizeV L[j])) ((mkN 1 (L.take j) : Nat)) (IntKind.i64.wrap (((mkN 2 (L.take j) : Nat) : Int) + 1)) 0 0, _]) rfl ?_
        refine fin _ ?_
        rw [snoc, es]
        try simp only [e2]
    · rename_i c0 c1
      have h0 : ¬ L[j].mark = 0 := by simpa using c0
      have h1 : ¬ L[j].mark = 1 := by simpa using c1
      have h2 : ¬ L[j].mark = 2 := by simpa using c
      have em : ∀ x y : Nat, (if L[j].mark = 0 then x else y) = y := fun x y => if_neg h0
      have en : ∀ x y : Nat, (if L[j].mark = 1 then x else y) = y := fun x y => if_neg h1
      have ep : ∀ x y : Nat, (if L[j].mark = 2 then x else y) = y := fun x y => if_neg h2
      rw [em, em, en, ep] at snoc
      simp only [Nat.add_zero] at snoc
      refine ⟨j + 1, hj1, by show L.length - (j + 1) < L.length - j; omega, (show 3 ≤ 3 by decide), Trim.mk' ?_ ?_ rfl rfl (by show (3 : Nat) ≤ 4; decide)⟩
      · refine Eq.trans (b := [_, _, _, _, _, _, _, (21, AV.p (ii (IntKind.i64.wrap ((j : Int) + 1))))]) rfl ?_
        rw [ej]; rfl
      · refine Eq.trans (b := [_, tlC ((mkN 0 (L.take j) : Nat)) ((recN (L.take j) : Nat)) (IntKind.i64.wrap (szN (L.take j) + sizeV L[j])) ((mkN 1 (L.take j) : Nat)) ((mkN 2 (L.take j) : Nat)) 0 0, _]) rfl ?_
        refine fin _ ?_
        rw [snoc, es]
        try simp only [es]
  · have hc : ¬ (j : Int) < ((L.map Bt.pv).length : Nat) := of_decide_eq_false hc
    have : j = L.length := by omega
    subst this
    rw [List.take_length]
    have hpl := prsL (dFold L).1
    refine LoopX.fam [0, 2, 3, 5, 62, 63, 64] (fun (j : Nat) => ([(0, .p (rowP L)), (2, .ref 0 0), (3, .ref 1 0), (5, .p (drsP (dFold L).2)), (62, .p (prsP (dFold L).1)), (63, .p (ii ((dFold L).1.map Pr.pv).length)), (64, .p (ii (j : Nat)))], [tlC 0 0 0 0 0 0 0, tl1 L (opN ((dFold L).1.take j)) 0, some (.cells [.p (prsP (dFold L).1)])]))
      (fun j => j ≤ (dFold L).1.length) (fun j => (dFold L).1.length - j) 0 (Nat.zero_le _) (Trim.mk' rfl rfl rfl rfl (Nat.le_refl _)) ?_
    intro j hj
    have hj : j ≤ (dFold L).1.length := hj
    refine Br.mk (fun hc => ?_) (fun hc => ?_)
    · have hc : (j : Int) < (((dFold L).1.map Pr.pv).length : Nat) := of_decide_eq_true hc
      have hj1 : j < (dFold L).1.length := by omega
      have ej : IntKind.i64.wrap ((j : Int) + 1) = ((j + 1 : Nat) : Int) := by rw [wrap_i64] <;> omega
      have hon : opN ((dFold L).1.take j) ≤ j := Nat.le_trans List.countP_le_length (by rw [List.length_take]; omega)
      have htk := opN_snoc ((dFold L).1.take j) (dFold L).1[j]
      rw [← take_succ' hj1] at htk
      have eo : IntKind.i64.wrap (((opN ((dFold L).1.take j) : Nat) : Int) + 1) = ((opN ((dFold L).1.take j) + 1 : Nat) : Int) := by rw [wrap_i64] <;> omega
      refine Idx.mk _ (Int.natCast_nonneg _) (getP hj1) ?_
      refine Ob.mk (okst rfl rfl rfl) ?_
      refine Br.mk (fun hd => ?_) (fun hd => ?_)
      · have hd : decide ((dFold L).1[j].op ≥ 0) = true := hd
        rw [if_pos hd] at htk
        refine Ob.mk (okst rfl rfl rfl) ?_
        refine ⟨j + 1, hj1, by show (dFold L).1.length - (j + 1) < (dFold L).1.length - j; omega, (show 3 ≤ 3 by decide), Trim.mk' ?_ ?_ rfl rfl (by show (3 : Nat) ≤ 4; decide)⟩
        · refine Eq.trans (b := [_, _, _, _, _, _, (64, AV.p (ii (IntKind.i64.wrap ((j : Int) + 1))))]) rfl ?_
          rw [ej]; rfl
        · refine Eq.trans (b := [_, tl1 L (IntKind.i64.wrap (((opN ((dFold L).1.take j) : Nat) : Int) + 1)) 0, _]) rfl ?_
          rw [eo, ← htk]
      · have hd : decide ((dFold L).1[j].op ≥ 0) = false := hd
        rw [if_neg (by rw [hd]; decide), Nat.add_zero] at htk
        refine ⟨j + 1, hj1, by show (dFold L).1.length - (j + 1) < (dFold L).1.length - j; omega, (show 3 ≤ 3 by decide), Trim.mk' ?_ ?_ rfl rfl (by show (3 : Nat) ≤ 4; decide)⟩
        · refine Eq.trans (b := [_, _, _, _, _, _, (64, AV.p (ii (IntKind.i64.wrap ((j : Int) + 1))))]) rfl ?_
          rw [ej]; rfl
        · refine Eq.trans (b := [_, tl1 L (opN ((dFold L).1.take j) : Nat) 0, _]) rfl ?_
          rw [htk]; rfl
    · have hc : ¬ (j : Int) < (((dFold L).1.map Pr.pv).length : Nat) := of_decide_eq_false hc
      have : j = (dFold L).1.length := by omega
      subst this
      rw [List.take_length]
      refine drecs_c 0 4611686018427387904 L hL hb3 _ _ ?_
      obtain ⟨G, hG⟩ : ∃ G, G = gts 0 4611686018427387904 L := ⟨_, rfl⟩
      obtain ⟨D, hD⟩ : ∃ D, D = (dFold L).2 := ⟨_, rfl⟩
      have hgl := gts_le (fr := 0) (to := 4611686018427387904) hb3
      have hml : L.length * 300 ≤ 1000000 * 300 := Nat.mul_le_mul_right _ hL
      have hend : endW st L ≤ 4611686018427387904 ∨ L = [] := by
        by_cases hn : L = []
        · exact .inr hn
        · have := hR.end_le hn; exact .inl (by omega)
      have hall : G = gts st (endW st L) L := by
        rw [hG]
        rcases hend with he | he
        · exact gts_all hR hst he (Int.le_refl _) (Int.le_refl _)
        · rw [he]; rfl
      have hsum : hitsN D G = (gts st (endW st L) L).countP (bad (dFold L).2) := by rw [hD, hitsN_row (DInv.mk' hR), hall]
      rw [← hsum] at h
      rw [← hG] at hgl ⊢
      rw [← hD] at hi3 ⊢
      have hgG := gsL G
      have hdD := drL D
      clear hsum hall hend hG
      refine LoopX.fam [2, 3, 5, 77, 78, 79] (fun (i : Nat) => ([(2, .ref 0 0), (3, .ref 1 0), (5, .p (drsP D)), (77, .p (gsP G)), (78, .p (ii (G.map Gt.pv).length)), (79, .p (ii (i : Nat)))], [tlC 0 0 0 0 0 0 0, tl1 L (opN (dFold L).1) (hitsN D (G.take i)), some (.cells [.p (prsP (dFold L).1)])]))
        (fun i => i ≤ G.length) (fun i => G.length - i) 0 (Nat.zero_le _) (Trim.mk' rfl rfl rfl rfl (Nat.le_refl _)) ?_
      intro i hi
      have hi : i ≤ G.length := hi
      refine Br.mk (fun hc => ?_) (fun hc => ?_)
      · have hc : (i : Int) < ((G.map Gt.pv).length : Nat) := of_decide_eq_true hc
        have hi1 : i < G.length := by omega
        have ei : IntKind.i64.wrap ((i : Int) + 1) = ((i + 1 : Nat) : Int) := by rw [wrap_i64] <;> omega
        refine Idx.mk _ (Int.natCast_nonneg _) (getG hi1) ?_
        refine Ob.mk (okst rfl rfl rfl) ?_
        rw [← hitsA_0]
        refine LoopX.fam [2, 3, 5, 11, 77, 78, 79, 83, 84, 85] (fun (k : Nat) => ([(2, .ref 0 0), (3, .ref 1 0), (5, .p (drsP D)), (11, .ref 3 0), (77, .p (gsP G)), (78, .p (ii (G.map Gt.pv).length)), (79, .p (ii (i : Nat))), (83, .p (drsP D)), (84, .p (ii (D.map drP).length)), (85, .p (ii (k : Nat)))], [tlC 0 0 0 0 0 0 0, tl1 L (opN (dFold L).1) (hitsA D G i k), some (.cells [.p (prsP (dFold L).1)]), gC G[i]]))
          (fun k => k ≤ D.length) (fun k => D.length - k) 0 (Nat.zero_le _) (Trim.mk' rfl rfl rfl rfl (Nat.le_refl _)) ?_
        intro k hk
        have hk : k ≤ D.length := hk
        refine Br.mk (fun hc2 => ?_) (fun hc2 => ?_)
        · have hc2 : (k : Int) < ((D.map drP).length : Nat) := of_decide_eq_true hc2
          have hk1 : k < D.length := by omega
          have ek : IntKind.i64.wrap ((k : Int) + 1) = ((k + 1 : Nat) : Int) := by rw [wrap_i64] <;> omega
          have hle := hitsA_le (D := D) (G := G) (i := i) (k := k) (by omega) (by omega)
          have hsu := hitsA_succ hi1 hk1
          have eh : IntKind.i64.wrap (((hitsA D G i k : Nat) : Int) + 1) = ((hitsA D G i k + 1 : Nat) : Int) := by rw [wrap_i64] <;> omega
          have no : hitsA D G i (k + 1) = hitsA D G i k → ∀ o, o = tl1 L (opN (dFold L).1) (hitsA D G i k) → o = tl1 L (opN (dFold L).1) (hitsA D G i (k + 1)) := fun e o ho => by rw [ho, e]
          refine Idx.mk _ (Int.natCast_nonneg _) (getDr hk1) ?_
          refine Ob.mk (okst rfl rfl rfl) ?_
          unfold gm at hsu
          clear hlm hpl hgl hml hgG hdD hi3 hst hD hle no
          cases k1 : (G[i].prod == D[k].1) with
          | false =>
            rw [k1] at hsu
            rw [if_neg (by simp), Nat.add_zero] at hsu
            repeat' (first
              | (apply Br.t; · (first | rfl | (simp only [*] <;> rfl)))
              | (apply Br.f; · (first | rfl | (simp only [*] <;> rfl)))
              | refine Ob.mk (okst rfl rfl rfl) ?_
              | refine Br.mkT (fun c => ?_) (fun c => ?_)
              | refine Br.mkF (fun c => ?_) (fun c => ?_)
              | refine Br.mk (fun c => ?_) (fun c => ?_))
            refine ⟨k + 1, hk1, by show D.length - (k + 1) < D.length - k; omega, (show 4 ≤ 4 by decide), Trim.mk' ?_ ?_ rfl rfl (by show (4 : Nat) ≤ 5; decide)⟩
            · refine Eq.trans (b := [_, _, _, _, _, _, _, _, _, (85, AV.p (ii (IntKind.i64.wrap ((k : Int) + 1))))]) rfl ?_
              rw [ek]; rfl
            · show [_, tl1 L (opN (dFold L).1) (hitsA D G i k : Nat), _, _] = _
              rw [hsu]; rfl
          | true =>
            cases k2 : decide (G[i].off ≥ D[k].2.1) with
            | false =>
              rw [k1, k2] at hsu
              rw [if_neg (by simp), Nat.add_zero] at hsu
              repeat' (first
                | (apply Br.t; · (first | rfl | (simp only [*] <;> rfl)))
                | (apply Br.f; · (first | rfl | (simp only [*] <;> rfl)))
                | refine Ob.mk (okst rfl rfl rfl) ?_
                | refine Br.mkT (fun c => ?_) (fun c => ?_)
                | refine Br.mkF (fun c => ?_) (fun c => ?_)
                | refine Br.mk (fun c => ?_) (fun c => ?_))
              refine ⟨k + 1, hk1, by show D.length - (k + 1) < D.length - k; omega, (show 4 ≤ 4 by decide), Trim.mk' ?_ ?_ rfl rfl (by show (4 : Nat) ≤ 5; decide)⟩
              · refine Eq.trans (b := [_, _, _, _, _, _, _, _, _, (85, AV.p (ii (IntKind.i64.wrap ((k : Int) + 1))))]) rfl ?_
                rw [ek]; rfl
              · show [_, tl1 L (opN (dFold L).1) (hitsA D G i k : Nat), _, _] = _
                rw [hsu]; rfl
            | true =>
              cases k3 : decide (G[i].off ≤ D[k].2.2) with
              | false =>
                rw [k1, k2, k3] at hsu
                rw [if_neg (by simp), Nat.add_zero] at hsu
                repeat' (first
                  | (apply Br.t; · (first | rfl | (simp only [*] <;> rfl)))
                  | (apply Br.f; · (first | rfl | (simp only [*] <;> rfl)))
                  | refine Ob.mk (okst rfl rfl rfl) ?_
                  | refine Br.mkT (fun c => ?_) (fun c => ?_)
                  | refine Br.mkF (fun c => ?_) (fun c => ?_)
                  | refine Br.mk (fun c => ?_) (fun c => ?_))
                refine ⟨k + 1, hk1, by show D.length - (k + 1) < D.length - k; omega, (show 4 ≤ 4 by decide), Trim.mk' ?_ ?_ rfl rfl (by show (4 : Nat) ≤ 5; decide)⟩
                · refine Eq.trans (b := [_, _, _, _, _, _, _, _, _, (85, AV.p (ii (IntKind.i64.wrap ((k : Int) + 1))))]) rfl ?_
                  rw [ek]; rfl
                · show [_, tl1 L (opN (dFold L).1) (hitsA D G i k : Nat), _, _] = _
                  rw [hsu]; rfl
              | true =>
                rw [k1, k2, k3, if_pos (by decide)] at hsu
                repeat' (first
                  | (apply Br.t; · (first | rfl | (simp only [*] <;> rfl)))
                  | (apply Br.f; · (first | rfl | (simp only [*] <;> rfl)))
                  | refine Ob.mk (okst rfl rfl rfl) ?_
                  | refine Br.mkT (fun c => ?_) (fun c => ?_)
                  | refine Br.mkF (fun c => ?_) (fun c => ?_)
                  | refine Br.mk (fun c => ?_) (fun c => ?_))
                refine ⟨k + 1, hk1, by show D.length - (k + 1) < D.length - k; omega, (show 4 ≤ 4 by decide), Trim.mk' ?_ ?_ rfl rfl (by show (4 : Nat) ≤ 5; decide)⟩
                · refine Eq.trans (b := [_, _, _, _, _, _, _, _, _, (85, AV.p (ii (IntKind.i64.wrap ((k : Int) + 1))))]) rfl ?_
                  rw [ek]; rfl
                · refine Eq.trans (b := [_, tl1 L (opN (dFold L).1) (IntKind.i64.wrap (((hitsA D G i k : Nat) : Int) + 1)), _, _]) rfl ?_
                  rw [eh, ← hsu]
        · have hc2 : ¬ (k : Int) < ((D.map drP).length : Nat) := of_decide_eq_false hc2
          have : k = D.length := by omega
          subst this
          have hen := hitsA_end (D := D) hi1
          refine ⟨i + 1, hi1, by show G.length - (i + 1) < G.length - i; omega, (show 3 ≤ 3 by decide), Trim.mk' ?_ ?_ rfl rfl (by show (3 : Nat) ≤ 4; decide)⟩
          · refine Eq.trans (b := [_, _, _, _, _, (79, AV.p (ii (IntKind.i64.wrap ((i : Int) + 1))))]) rfl ?_
            rw [ei]; rfl
          · show [_, tl1 L (opN (dFold L).1) (hitsA D G i D.length : Nat), _] = _
            rw [hen]
      · have hc : ¬ (i : Int) < ((G.map Gt.pv).length : Nat) := of_decide_eq_false hc
        have : i = G.length := by omega
        subst this
        rw [List.take_length]
        refine Ob.mk (okst rfl rfl rfl) ?_
        exact h
end Go.Proofs.YtlnelaajlhfabaaGreat.AW

open Go Go.Proofs.YtlnelaajlhfabaaGreat.AW Go.Proofs
namespace Go.Proofs.YtlnelaajlhfabaaGreat.AW
set_option maxRecDepth 100000
set_option linter.unusedSimpArgs false
set_option linter.unusedVariables false

/-! ### slices.SortStableFunc of a few records: put in one by one -/
def insP (out : List Gt) (g : Gt) : Nat → Nat
  | 0 => 0
  | k + 1 => if (out.getD k ⟨0, 0, [], []⟩).off > g.off then insP out g k else k + 1
theorem insP_le (out : List Gt) (g : Gt) : ∀ k, insP out g k ≤ k
  | 0 => Nat.le_refl _
  | k + 1 => by unfold insP; have := insP_le out g k; split <;> omega
def insG (out : List Gt) (g : Gt) : List Gt := out.take (insP out g out.length) ++ g :: out.drop (insP out g out.length)
def isort (gs : List Gt) : List Gt := gs.foldl insG []
theorem isort_snoc (gs : List Gt) (g : Gt) : isort (gs ++ [g]) = insG (isort gs) g := by unfold isort; rw [List.foldl_append]; rfl
theorem insG_len (out : List Gt) (g : Gt) : (insG out g).length = out.length + 1 := by
  unfold insG
  have := insP_le out g out.length
  rw [List.length_append, List.length_cons, List.length_take, List.length_drop]; omega
theorem isort_len (gs : List Gt) : (isort gs).length = gs.length := by
  rw [← List.reverse_reverse gs]
  induction gs.reverse with
  | nil => rfl
  | cons g r ih => rw [List.reverse_cons, isort_snoc, insG_len, ih, List.length_append]; rfl
/-- The data, with the one that is put in at a place. -/
def insD (out : List Gt) (g : Gt) (rest : List Gt) (j : Nat) : List Gt := out.take j ++ g :: (out.drop j ++ rest)
theorem insD_len {out rest : List Gt} {g : Gt} {j : Nat} (hj : j ≤ out.length) : (insD out g rest j).length = out.length + 1 + rest.length := by
  unfold insD
  rw [List.length_append, List.length_cons, List.length_append, List.length_take, List.length_drop]; omega
theorem insD_at {out rest : List Gt} {g : Gt} {j : Nat} (hj : j ≤ out.length) : (insD out g rest j)[j]? = some g := by
  unfold insD
  rw [List.getElem?_append_right (by rw [List.length_take]; omega), List.length_take, Nat.min_eq_left hj, Nat.sub_self]; rfl
theorem insD_ahead {out rest : List Gt} {g : Gt} {j : Nat} (hj : j + 1 ≤ out.length) : (insD out g rest (j + 1))[j]? = some out[j] := by
  unfold insD
  rw [List.getElem?_append_left (by rw [List.length_take]; omega), List.getElem?_take_of_lt (by omega), List.getElem?_eq_getElem]
theorem insD_swap {out rest : List Gt} {g : Gt} {j : Nat} (hj : j + 1 ≤ out.length) : ((insD out g rest (j + 1)).set (j + 1) out[j]).set j g = insD out g rest j := by
  have e1 : out.take (j + 1) = out.take j ++ [out[j]] := take_succ' (by omega)
  have e2 : out.drop j = out[j] :: out.drop (j + 1) := List.drop_eq_getElem_cons (by omega)
  have hl : (out.take j).length = j := by rw [List.length_take]; omega
  unfold insD
  rw [e1, e2, List.append_assoc, List.set_append_right _ _ (by omega), List.set_append_right _ _ (by omega), hl, Nat.sub_self, show j + 1 - j = 1 by omega]
  rfl
theorem lcmp_c (x y : Gt) (s : Store) (K : AV → Store → Prop) (h : K (.p (ii (cmpI x.off y.off))) s) : Cal Tryz.prog 88 [.p x.pv, .p y.pv] s K := by
  refine Cal.pure (args := [x.pv, y.pv]) ?_
  refine Cal.intro Tryz.func88 (by decide +kernel) rfl rfl ?_
  exact cmpI_c _ _ _ _ h
theorem ins_none (xs : List PV) (a : Nat) (ha : a ≤ 1000000) (K : AV → Store → Prop) (h : K (.tup []) [some (.buf 4 xs)]) : Cal Tryz.prog 195 [.osl 0 xs.length 0 xs.length, .p (ii (a : Nat)), .p (ii (a : Nat)), .clos 88 []] [some (.buf 4 xs)] K := by
  refine Cal.intro Tryz.func195 (by decide +kernel) rfl rfl ?_
  have e : decide (IntKind.i64.wrap ((a : Int) + 1) < (a : Int)) = false := decide_eq_false (by rw [wrap_i64] <;> omega)
  refine LoopX.fam [2, 8] (fun (_ : Nat) => ([(2, .p (ii (a : Nat))), (8, .p (ii (IntKind.i64.wrap ((a : Int) + 1))))], [some (.buf 4 xs)])) (fun _ => True) (fun _ => 0) 0 trivial (Trim.mk' rfl rfl rfl rfl (Nat.le_refl _)) ?_
  intro j _
  refine Br.f e ?_
  exact h
set_option maxHeartbeats 16000000 in
theorem ins_c (gs : List Gt) (hg : gs.length ≤ 1000000) (K : AV → Store → Prop) (h : K (.tup []) [some (.buf 4 ((isort gs).map Gt.pv))]) : Cal Tryz.prog 195 [.osl 0 gs.length 0 gs.length, .p (ii 0), .p (ii (gs.length : Nat)), .clos 88 []] [some (.buf 4 (gs.map Gt.pv))] K := by
  refine Cal.intro Tryz.func195 (by decide +kernel) rfl rfl ?_
  cases hn : gs with
  | nil =>
    rw [hn] at h
    refine LoopX.fam [2, 8] (fun (_ : Nat) => ([(2, .p (ii 0)), (8, .p (ii 1))], [some (.buf 4 [])])) (fun _ => True) (fun _ => 0) 0 trivial (Trim.mk' rfl rfl rfl rfl (Nat.le_refl _)) ?_
    intro j _
    refine Br.f rfl ?_
    exact h
  | cons g0 gr =>
    rw [← hn]
    have hpos : 1 ≤ gs.length := by rw [hn]; exact Nat.succ_le_succ (Nat.zero_le _)
    have hone : isort (gs.take 1) ++ gs.drop 1 = gs := by rw [hn]; rfl
    refine LoopX.fam [0, 1, 2, 3, 8] (fun (i : Nat) => ([(0, .osl 0 gs.length 0 gs.length), (1, .p (ii 0)), (2, .p (ii (gs.length : Nat))), (3, .clos 88 []), (8, .p (ii (i : Nat)))], [some (.buf 4 ((isort (gs.take i) ++ gs.drop i).map Gt.pv))]))
      (fun i => i ≤ gs.length) (fun i => gs.length - i) 1 hpos (Trim.mk' rfl (by rw [hone]; rfl) rfl rfl (Nat.le_refl _)) ?_
    intro i hi
    have hi : i ≤ gs.length := hi
    refine Br.mk (fun hc => ?_) (fun hc => ?_)
    · have hc : (i : Int) < ((gs.length : Nat) : Int) := of_decide_eq_true hc
      have hi1 : i < gs.length := by omega
      have ei : IntKind.i64.wrap ((i : Int) + 1) = ((i + 1 : Nat) : Int) := by rw [wrap_i64] <;> omega
      obtain ⟨out, ho⟩ : ∃ out, out = isort (gs.take i) := ⟨_, rfl⟩
      have hol : out.length = i := by rw [ho, isort_len, List.length_take]; omega
      have hsn : isort (gs.take (i + 1)) ++ gs.drop (i + 1) = insD out gs[i] (gs.drop (i + 1)) (insP out gs[i] i) := by
        rw [take_succ' hi1, isort_snoc, ← ho]
        unfold insG insD
        rw [hol, List.append_assoc, List.cons_append]
      have hst : isort (gs.take i) ++ gs.drop i = insD out gs[i] (gs.drop (i + 1)) i := by
        rw [← ho, List.drop_eq_getElem_cons hi1]
        unfold insD
        rw [List.take_of_length_le (by omega : out.length ≤ i), List.drop_of_length_le (by omega : out.length ≤ i)]; rfl
      have hlen : ∀ j, j ≤ i → ((insD out gs[i] (gs.drop (i + 1)) j).map Gt.pv).length = gs.length := fun j hj => by
        rw [List.length_map, insD_len (by omega), List.length_drop]; omega
      rw [hst]
      clear hst ho
      refine LoopX.fam [0, 1, 2, 3, 8, 9] (fun (j : Nat) => ([(0, .osl 0 gs.length 0 gs.length), (1, .p (ii 0)), (2, .p (ii (gs.length : Nat))), (3, .clos 88 []), (8, .p (ii (i : Nat))), (9, .p (ii (j : Nat)))], [some (.buf 4 ((insD out gs[i] (gs.drop (i + 1)) j).map Gt.pv))]))
        (fun j => j ≤ i ∧ insP out gs[i] j = insP out gs[i] i) (fun j => j) i ⟨Nat.le_refl _, rfl⟩ (Trim.mk' rfl rfl rfl rfl (Nat.le_refl _)) ?_
      rintro j ⟨hj, hjp⟩
      have hj : j ≤ i := hj
      have hjp : insP out gs[i] j = insP out gs[i] i := hjp
      have fin : insP out gs[i] j = j → ∃ y : Nat, (fun i => i ≤ gs.length) y ∧ y = i + 1 ∧ isort (gs.take y) ++ gs.drop y = insD out gs[i] (gs.drop (i + 1)) j := fun e => ⟨i + 1, hi1, rfl, by rw [hsn, ← hjp, e]⟩
      cases j with
      | zero =>
        have e0 : decide (((0 : Nat) : Int) > 0) = false := rfl
        clear hlen hol
        repeat (first
          | refine ⟨_, ⟨rfl, rfl⟩, ?_⟩
          | refine Br.f rfl ?_
          | refine ⟨_, Br.f rfl ⟨rfl, rfl⟩, ?_⟩
          | refine Chk.mk (by kernel_rfl) ?_)
        obtain ⟨y, _, rfl, hy⟩ := fin rfl
        refine ⟨i + 1, hi1, by show gs.length - (i + 1) < gs.length - i; omega, (show 1 ≤ 1 by decide), Trim.mk' ?_ ?_ rfl rfl (by show (1 : Nat) ≤ 1; decide)⟩
        · refine Eq.trans (b := [_, _, _, _, (8, AV.p (ii (IntKind.i64.wrap ((i : Int) + 1))))]) rfl ?_
          rw [ei]; rfl
        · show [some (AObj.buf 4 ((insD out gs[i] (gs.drop (i + 1)) 0).map Gt.pv) none)] = _
          rw [← hy]
      | succ j =>
        have hjo : j + 1 ≤ out.length := by omega
        have ej : IntKind.i64.wrap (((j + 1 : Nat) : Int) - 1) = ((j : Nat) : Int) := by rw [wrap_i64] <;> omega
        have l1 := hlen (j + 1) hj
        have a1 : (0 : Int) ≤ ((j + 1 : Nat) : Int) := Int.natCast_nonneg _
        have a2 : ((j + 1 : Nat) : Int) < ((gs.length : Nat) : Int) := by omega
        have b1 : (0 : Int) ≤ IntKind.i64.wrap (((j + 1 : Nat) : Int) - 1) := by rw [ej]; exact Int.natCast_nonneg _
        have b2 : IntKind.i64.wrap (((j + 1 : Nat) : Int) - 1) < ((gs.length : Nat) : Int) := by rw [ej]; omega
        have g1 : ((insD out gs[i] (gs.drop (i + 1)) (j + 1)).map Gt.pv)[(((0 + (((j + 1 : Nat) : Int)).toNat : Nat)) : Int).toNat]? = some gs[i].pv := by
          rw [Int.toNat_natCast, Int.toNat_natCast, Nat.zero_add, List.getElem?_map, insD_at hjo]; rfl
        have g2 : ((insD out gs[i] (gs.drop (i + 1)) (j + 1)).map Gt.pv)[(((0 + (IntKind.i64.wrap (((j + 1 : Nat) : Int) - 1)).toNat : Nat)) : Int).toNat]? = some out[j].pv := by
          rw [ej, Int.toNat_natCast, Int.toNat_natCast, Nat.zero_add, List.getElem?_map, insD_ahead hjo]; rfl
        have c0 : decide (((j + 1 : Nat) : Int) > 0) = true := decide_eq_true (by omega)
        have hstep : insP out gs[i] (j + 1) = if out[j].off > gs[i].off then insP out gs[i] j else j + 1 := by
          show (if (out.getD j ⟨0, 0, [], []⟩).off > gs[i].off then _ else _) = _
          rw [getD_G (by omega : j < out.length)]
        have cl := cmpI_lt gs[i].off out[j].off
        cases hlt : decide (cmpI gs[i].off out[j].off < 0) with
        | false =>
          have hno : ¬ out[j].off > gs[i].off := fun q => of_decide_eq_false hlt (cl.2 q)
          rw [if_neg hno] at hstep
          clear hlen hol
          repeat (first
            | refine ⟨_, ⟨rfl, rfl⟩, ?_⟩
            | refine Br.t c0 ?_
            | refine Br.t (congrArg (· == true) c0) ?_
            | refine ⟨_, Br.t c0 ⟨rfl, rfl⟩, ?_⟩
            | refine ⟨_, Ob.mk ⟨l1, a1, a2⟩ ⟨rfl, rfl⟩, ?_⟩
            | refine ⟨_, Ob.mk ⟨l1, b1, b2⟩ ⟨rfl, rfl⟩, ?_⟩
            | refine ⟨_, Ob.mk l1 (Idx.mk _ (Int.natCast_nonneg _) g1 ⟨rfl, rfl⟩), ?_⟩
            | refine ⟨_, Ob.mk l1 (Idx.mk _ (Int.natCast_nonneg _) g2 ⟨rfl, rfl⟩), ?_⟩
            | refine Or.inl ⟨_, fun s' => lcmp_c gs[i] out[j] s' _ ⟨rfl, rfl⟩, rfl, ?_⟩
            | refine Br.f hlt ?_
            | refine Chk.mk (by kernel_rfl) ?_)
          obtain ⟨y, _, rfl, hy⟩ := fin hstep
          refine ⟨i + 1, hi1, by show gs.length - (i + 1) < gs.length - i; omega, (show 1 ≤ 1 by decide), Trim.mk' ?_ ?_ rfl rfl (by show (1 : Nat) ≤ 1; decide)⟩
          · refine Eq.trans (b := [_, _, _, _, (8, AV.p (ii (IntKind.i64.wrap ((i : Int) + 1))))]) rfl ?_
            rw [ei]; rfl
          · show [some (AObj.buf 4 ((insD out gs[i] (gs.drop (i + 1)) (j + 1)).map Gt.pv) none)] = _
            rw [← hy]
        | true =>
          have hyes : out[j].off > gs[i].off := cl.1 (of_decide_eq_true hlt)
          rw [if_pos hyes] at hstep
          have l2 : (((insD out gs[i] (gs.drop (i + 1)) (j + 1)).map Gt.pv).set (0 + (((j + 1 : Nat) : Int)).toNat) out[j].pv).length = gs.length := by rw [List.length_set]; exact l1
          have n1 : 0 + (((j + 1 : Nat) : Int)).toNat < gs.length := by omega
          have n2 : 0 + (IntKind.i64.wrap (((j + 1 : Nat) : Int) - 1)).toNat < gs.length := by rw [ej]; omega
          have hsw : (((insD out gs[i] (gs.drop (i + 1)) (j + 1)).map Gt.pv).set (0 + (((j + 1 : Nat) : Int)).toNat) out[j].pv).set (0 + (IntKind.i64.wrap (((j + 1 : Nat) : Int) - 1)).toNat) gs[i].pv = (insD out gs[i] (gs.drop (i + 1)) j).map Gt.pv := by
            rw [ej, Int.toNat_natCast, Int.toNat_natCast, Nat.zero_add, Nat.zero_add, ← List.map_set, ← List.map_set, insD_swap hjo]
          clear hlen hol
          repeat (first
            | refine ⟨_, ⟨rfl, rfl⟩, ?_⟩
            | refine Br.t c0 ?_
            | refine Br.t (congrArg (· == true) c0) ?_
            | refine ⟨_, Br.t c0 ⟨rfl, rfl⟩, ?_⟩
            | refine ⟨_, Ob.mk ⟨l1, a1, a2⟩ ⟨rfl, rfl⟩, ?_⟩
            | refine ⟨_, Ob.mk ⟨l1, b1, b2⟩ ⟨rfl, rfl⟩, ?_⟩
            | refine ⟨_, Ob.mk l1 (Idx.mk _ (Int.natCast_nonneg _) g1 ⟨rfl, rfl⟩), ?_⟩
            | refine ⟨_, Ob.mk l1 (Idx.mk _ (Int.natCast_nonneg _) g2 ⟨rfl, rfl⟩), ?_⟩
            | refine ⟨_, _, Ob.mk ⟨l1, n1⟩ ⟨rfl, rfl⟩, rfl, ?_⟩
            | refine ⟨_, Ob.mk ⟨l2, b1, b2⟩ ⟨rfl, rfl⟩, ?_⟩
            | refine ⟨_, _, Ob.mk ⟨l2, n2⟩ ⟨rfl, rfl⟩, rfl, ?_⟩
            | refine Or.inl ⟨_, fun s' => lcmp_c gs[i] out[j] s' _ ⟨rfl, rfl⟩, rfl, ?_⟩
            | refine Br.t hlt ?_
            | refine Chk.mk (by kernel_rfl) ?_)
          refine ⟨j, ⟨by show j ≤ i; omega, by show insP out gs[i] j = insP out gs[i] i; rw [← hjp, hstep]⟩, Nat.lt_succ_self _, (show 1 ≤ 1 by decide), Trim.mk' ?_ ?_ rfl rfl (by show (1 : Nat) ≤ 1; decide)⟩
          · refine Eq.trans (b := [_, _, _, _, _, (9, AV.p (ii (IntKind.i64.wrap (((j + 1 : Nat) : Int) - 1))))]) rfl ?_
            rw [ej]; rfl
          · refine Eq.trans (b := [some (AObj.buf 4 ((((insD out gs[i] (gs.drop (i + 1)) (j + 1)).map Gt.pv).set (0 + (((j + 1 : Nat) : Int)).toNat) out[j].pv).set (0 + (IntKind.i64.wrap (((j + 1 : Nat) : Int) - 1)).toNat) gs[i].pv) none)]) rfl ?_
            rw [hsw]
    · have hc : ¬ (i : Int) < ((gs.length : Nat) : Int) := of_decide_eq_false hc
      have : i = gs.length := by omega
      subst this
      rw [List.take_length, List.drop_length, List.append_nil]
      exact h
theorem stab_c (gs : List Gt) (hg : gs.length ≤ 20) (K : AV → Store → Prop) (h : K (.tup []) [some (.buf 4 ((isort gs).map Gt.pv))]) : Cal Tryz.prog 87 [.osl 0 gs.length 0 gs.length, .clos 88 []] [some (.buf 4 (gs.map Gt.pv))] K := by
  refine Cal.intro Tryz.func87 (by decide +kernel) rfl rfl ?_
  refine Cal.intro Tryz.func143 (by decide +kernel) rfl rfl ?_
  have hil : ((isort gs).map Gt.pv).length = gs.length := by rw [List.length_map, isort_len]
  by_cases h20 : gs.length = 20
  · rw [h20] at hil ⊢
    refine LoopX.fam [0, 1, 2, 6, 7, 8] (fun (i : Nat) => ([(0, .osl 0 20 0 20), (1, .p (ii (20 : Nat))), (2, .clos 88 []), (6, .p (ii 20)), (7, .p (ii (20 * i : Nat))), (8, .p (ii (20 * i + 20 : Nat)))], [some (.buf 4 ((match i with | 0 => gs | _ + 1 => isort gs).map Gt.pv))]))
      (fun i => i ≤ 1) (fun i => 1 - i) 0 (Nat.zero_le _) (Trim.mk' rfl rfl rfl rfl (Nat.le_refl _)) ?_
    intro i hi
    have hi : i ≤ 1 := hi
    match i, hi with
    | 0, _ =>
      refine Br.t rfl ?_
      have := ins_c gs (by omega)
      rw [h20] at this
      refine this _ ?_
      exact ⟨1, Nat.le_refl _, (by show 0 < 1; decide), (show 1 ≤ 1 by decide), Trim.mk' rfl rfl rfl rfl (Nat.le_refl _)⟩
    | 1, _ =>
      refine Br.f rfl ?_
      have := ins_none ((isort gs).map Gt.pv) 20 (by decide)
      rw [hil] at this
      refine this _ ?_
      refine LoopX.fam [1, 6] (fun (_ : Nat) => ([(1, .p (ii (20 : Nat))), (6, .p (ii 20))], [some (.buf 4 ((isort gs).map Gt.pv))])) (fun _ => True) (fun _ => 0) 0 trivial (Trim.mk' rfl rfl rfl rfl (Nat.le_refl _)) ?_
      intro j _
      refine Br.f rfl ?_
      exact h
  · have h19 : gs.length ≤ 19 := by omega
    have e : decide ((20 : Int) ≤ ((gs.length : Nat) : Int)) = false := decide_eq_false (by omega)
    have e2 : decide ((20 : Int) < ((gs.length : Nat) : Int)) = false := decide_eq_false (by omega)
    refine LoopX.fam [0, 1, 2, 6, 7, 8] (fun (i : Nat) => ([(0, .osl 0 gs.length 0 gs.length), (1, .p (ii (gs.length : Nat))), (2, .clos 88 []), (6, .p (ii 20)), (7, .p (ii 0)), (8, .p (ii 20))], [some (.buf 4 (gs.map Gt.pv))]))
      (fun i => True) (fun i => 0) 0 trivial (Trim.mk' rfl rfl rfl rfl (Nat.le_refl _)) ?_
    intro i _
    refine Br.f e ?_
    refine ins_c gs (by omega) _ ?_
    refine LoopX.fam [1, 6] (fun (_ : Nat) => ([(1, .p (ii (gs.length : Nat))), (6, .p (ii 20))], [some (.buf 4 ((isort gs).map Gt.pv))])) (fun _ => True) (fun _ => 0) 0 trivial (Trim.mk' rfl rfl rfl rfl (Nat.le_refl _)) ?_
    intro j _
    refine Br.f e2 ?_
    exact h
end Go.Proofs.YtlnelaajlhfabaaGreat.AW
