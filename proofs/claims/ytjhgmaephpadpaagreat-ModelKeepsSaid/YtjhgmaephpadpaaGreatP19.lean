/- A part of the proof: LG/M19, LG/M20, LG/M21, LG/M22. -/
import Derived.Test.YtjhgmaephpadpaaGreatP18

open Go Go.Proofs.YtjhgmaephpadpaaGreat.AW Go.Proofs
namespace Go.Proofs.YtjhgmaephpadpaaGreat.AW
set_option maxRecDepth 100000
set_option linter.unusedSimpArgs false
set_option linter.unusedVariables false

/-! ### A part of a result told as a tree -/
theorem Cal.frzV {P : Program} {f : Nat} {args : List AV} {s : Store} {K : AV → Store → Prop} (i : Nat)
    (h : Cal P f args s fun v s' => K v s' ∨ ∃ vs a, v = .tup vs ∧ vs[i]? = some a ∧ toP s' a fun p s'' => K (.tup (vs.set i (.p p))) s'') : Cal P f args s K := by
  unfold Cal at h ⊢
  refine fun w g vs hinv hG hfresh hargs => (h w g vs hinv hG hfresh hargs).mono fun e w' hpost => ?_
  obtain ⟨r, v, s', g', rfl, hk, hlen, hrep, hinv', hext, hC⟩ := hpost
  rcases hk with hk | ⟨us, a, rfl, h2, hk⟩
  · exact ⟨_, _, _, g', rfl, hk, hlen, hrep, hinv', hext, hC⟩
  cases hrep with
  | tup _ b hc =>
    obtain ⟨x, hxi, hxr⟩ := hc.at h2
    have c : Cx w' g' (getO s') s' (fun _ => True) False := ⟨hinv', fun _ _ => rfl, fun hh => hh.elim⟩
    obtain ⟨p, s2, k1, fz, k3⟩ := toP_tree hxr c (fun _ _ => trivial) hk
    have hov : ovr (fun _ => True) s' s2 (getO s') = getO s2 := by funext i; simp [ovr]
    have q1 := fz.inv; have q2 := fz.ext
    have hl := fz.len
    rw [hov] at q1 q2 k3
    exact ⟨_, _, s2, g', rfl, k1, by omega, .tup _ b ((q2.repAs hc).put hxi (.p _ _ k3)), q1, hext.trans q2, fun j hj => by have := hC j hj; rw [hl]; exact this⟩

/-! ### ref1.Cut -/
theorem g1V_in (a : List UInt8) : ∀ (l : List UInt8) (j : Nat) (v : Int), j + l.length ≤ 1000 → (g1V a l j v).2 = 0 ∨ ((j : Int) < (g1V a l j v).2 ∧ (g1V a l j v).2 ≤ (j + l.length : Nat))
  | [], _, _, _ => .inl rfl
  | c :: r, j, v, h => by
    have hl : (c :: r).length = r.length + 1 := rfl
    unfold g1V
    split
    · split
      · refine .inr ?_
        show (j : Int) < IntKind.i64.wrap ((j : Int) + 1) ∧ IntKind.i64.wrap ((j : Int) + 1) ≤ _
        have e : IntKind.i64.wrap ((j : Int) + 1) = (j : Int) + 1 := by rw [wrap_i64] <;> omega
        rw [e]; omega
      · exact .inl rfl
    · rcases g1V_in a r (j + 1) (g1S c j v) (by omega) with e | ⟨e1, e2⟩
      · exact .inl e
      · exact .inr ⟨by omega, by omega⟩
def c1Bad (n k len most : Int) : Bool := (k == 0) || (decide (n < 0) || (decide (n > most) || decide (n > IntKind.i64.wrap (len - k))))
def c1V (a : List UInt8) (most : Int) : List UInt8 × Int :=
  if c1Bad (g1V a (a.take 10) 0 0).1 (g1V a (a.take 10) 0 0).2 (a.length : Nat) most = true then ([], 0)
  else ((a.drop (g1V a (a.take 10) 0 0).2.toNat).take (g1V a (a.take 10) 0 0).1.toNat, (g1V a (a.take 10) 0 0).2 + (g1V a (a.take 10) 0 0).1)
theorem c1V_in (a : List UInt8) (most : Int) (ha : a.length ≤ 1000000000) : 0 ≤ (c1V a most).2 ∧ (c1V a most).2 ≤ (a.length : Nat) := by
  unfold c1V
  have hin := g1V_in a (a.take 10) 0 0 (by rw [List.length_take]; omega)
  generalize g1V a (a.take 10) 0 0 = q at hin ⊢
  obtain ⟨n, k⟩ := q
  split
  · exact ⟨Int.le_refl _, Int.natCast_nonneg _⟩
  · rename_i hb
    unfold c1Bad at hb
    simp only [Bool.or_eq_true, beq_iff_eq, decide_eq_true_eq, not_or] at hb
    dsimp only at hin ⊢
    have hk : 0 < k ∧ k ≤ (a.length : Nat) := by
      rcases hin with e | ⟨e1, e2⟩
      · exact absurd e hb.1
      · rw [List.length_take] at e2; omega
    have h4 := hb.2.2.2
    rw [wrap_i64 (by omega) (by omega)] at h4
    omega
set_option maxHeartbeats 8000000 in
theorem cut1_c (a : List UInt8) (ha : a.length ≤ 1000000000) (most : Int) (s : Store) (K : AV → Store → Prop) (h : K (.tup [.p (.str (c1V a most).1), .p (ii (c1V a most).2)]) s) : Cal Tryz.prog 172 [.p (bsl a), .p (ii most)] s K := by
  refine Cal.pure (args := [bsl a, ii most]) ?_
  refine Cal.intro Tryz.func172 (by decide +kernel) rfl rfl ?_
  have hla := bytesP_len a
  refine get1_c a ha _ _ ?_
  have hin := g1V_in a (a.take 10) 0 0 (by rw [List.length_take]; omega)
  unfold c1V at h
  generalize g1V a (a.take 10) 0 0 = q at h hin ⊢
  obtain ⟨n, k⟩ := q
  dsimp only at h hin ⊢
  have hbad : c1Bad n k (((bytesP a).length : Nat) : Int) most = true → K (.tup [.p (.str []), .p (ii 0)]) s := fun e => by
    rw [hla] at e; rw [if_pos e] at h; exact h
  have hok : c1Bad n k (((bytesP a).length : Nat) : Int) most = false → K (.tup [.p (.str ((a.drop k.toNat).take n.toNat)), .p (ii (k + n))]) s := fun e => by
    rw [hla] at e; rw [e, if_neg (by decide)] at h; exact h
  have hfit : c1Bad n k (((bytesP a).length : Nat) : Int) most = false → 0 < k ∧ 0 ≤ n ∧ k + n ≤ (((bytesP a).length : Nat) : Int) := fun e => by
    unfold c1Bad at e
    simp only [Bool.or_eq_false_iff, decide_eq_false_iff_not] at e
    have hk : 0 < k ∧ k ≤ (a.length : Nat) := by
      rcases hin with q | ⟨e1, e2⟩
      · rw [q] at e; exact absurd e.1 (by decide)
      · rw [List.length_take] at e2; omega
    have h4 := e.2.2.2
    rw [wrap_i64 (by omega) (by omega)] at h4
    omega
  unfold c1Bad at hbad hok hfit
  have hlb : (((bytesP a).length : Nat) : Int) ≤ 1000000000 := by omega
  clear h hin hla ha
  generalize hm : (((bytesP a).length : Nat) : Int) = m at hbad hok hfit hlb
  cases c1 : (k == 0) with
  | true =>
    have := hbad (by rw [c1]; rfl)
    clear hbad hok hfit hm hlb
    repeat' (first
      | (apply Br.t; · (first | rfl | (simp only [*] <;> rfl)))
      | (apply Br.f; · (first | rfl | (simp only [*] <;> rfl)))
      | refine Ob.mk (okst rfl rfl rfl) ?_
      | refine Br.mkT (fun c => ?_) (fun c => ?_)
      | refine Br.mkF (fun c => ?_) (fun c => ?_)
      | refine Br.mk (fun c => ?_) (fun c => ?_)
      | exact this
      | (simp only [*, Bool.true_and, Bool.false_and, Bool.true_or, Bool.false_or, Bool.and_true, Bool.and_false, Bool.or_true, Bool.or_false, Bool.not_true, Bool.not_false, if_true, if_false, reduceIte, Bool.false_eq_true] at this; exact this))
  | false =>
    cases c2 : decide (n < 0) with
    | true =>
      have := hbad (by rw [c1, c2]; rfl)
      clear hbad hok hfit hm hlb
      repeat' (first
        | (apply Br.t; · (first | rfl | (simp only [*] <;> rfl)))
        | (apply Br.f; · (first | rfl | (simp only [*] <;> rfl)))
        | refine Ob.mk (okst rfl rfl rfl) ?_
        | refine Br.mkT (fun c => ?_) (fun c => ?_)
        | refine Br.mkF (fun c => ?_) (fun c => ?_)
        | refine Br.mk (fun c => ?_) (fun c => ?_)
        | exact this
        | (simp only [*, Bool.true_and, Bool.false_and, Bool.true_or, Bool.false_or, Bool.and_true, Bool.and_false, Bool.or_true, Bool.or_false, Bool.not_true, Bool.not_false, if_true, if_false, reduceIte, Bool.false_eq_true] at this; exact this))
    | false =>
      cases c3 : decide (n > most) with
      | true =>
        have := hbad (by rw [c1, c2, c3]; rfl)
        clear hbad hok hfit hm hlb
        repeat' (first
          | (apply Br.t; · (first | rfl | (simp only [*] <;> rfl)))
          | (apply Br.f; · (first | rfl | (simp only [*] <;> rfl)))
          | refine Ob.mk (okst rfl rfl rfl) ?_
          | refine Br.mkT (fun c => ?_) (fun c => ?_)
          | refine Br.mkF (fun c => ?_) (fun c => ?_)
          | refine Br.mk (fun c => ?_) (fun c => ?_)
          | exact this
          | (simp only [*, Bool.true_and, Bool.false_and, Bool.true_or, Bool.false_or, Bool.and_true, Bool.and_false, Bool.or_true, Bool.or_false, Bool.not_true, Bool.not_false, if_true, if_false, reduceIte, Bool.false_eq_true] at this; exact this))
      | false =>
        cases c4 : decide (n > IntKind.i64.wrap (m - k)) with
        | true =>
          have := hbad (by rw [c1, c2, c3, c4]; rfl)
          subst hm
          clear hbad hok hfit hlb
          repeat' (first
            | (apply Br.t; · (first | rfl | (simp only [*] <;> rfl)))
            | (apply Br.f; · (first | rfl | (simp only [*] <;> rfl)))
            | refine Ob.mk (okst rfl rfl rfl) ?_
            | refine Br.mkT (fun c => ?_) (fun c => ?_)
            | refine Br.mkF (fun c => ?_) (fun c => ?_)
            | refine Br.mk (fun c => ?_) (fun c => ?_)
            | exact this
            | (simp only [*, Bool.true_and, Bool.false_and, Bool.true_or, Bool.false_or, Bool.and_true, Bool.and_false, Bool.or_true, Bool.or_false, Bool.not_true, Bool.not_false, if_true, if_false, reduceIte, Bool.false_eq_true] at this; exact this))
        | false =>
          have hk := hok (by rw [c1, c2, c3, c4]; rfl)
          obtain ⟨f1, f2, f3⟩ := hfit (by rw [c1, c2, c3, c4]; rfl)
          have hs : IntKind.i64.wrap (k + n) = k + n := by rw [wrap_i64] <;> omega
          have o1 : 0 ≤ k ∧ k ≤ IntKind.i64.wrap (k + n) ∧ IntKind.i64.wrap (k + n) ≤ (((bytesP a).length : Nat) : Int) := by rw [hs, hm]; omega
          have hxs : ((bytesP a).take (IntKind.i64.wrap (k + n)).toNat).drop k.toNat = bytesP ((a.drop k.toNat).take n.toNat) := by
            have e : (k + n).toNat - k.toNat = n.toNat := by omega
            rw [hs]; unfold bytesP
            rw [← List.map_take, ← List.map_drop, List.drop_take, e]
          rw [← hs] at hk
          subst hm
          clear hbad hok hfit hlb hs f1 f2 f3
          repeat' (first
            | (apply Br.t; · (first | rfl | (simp only [*] <;> rfl)))
            | (apply Br.f; · (first | rfl | (simp only [*] <;> rfl)))
            | refine Ob.mk (okst rfl rfl rfl) ?_
            | refine Ob.mk o1 ?_
            | refine Ob.mk (.inr rfl) ⟨_, hxs, ?_⟩
            | refine Br.mkT (fun c => ?_) (fun c => ?_)
            | refine Br.mkF (fun c => ?_) (fun c => ?_)
            | refine Br.mk (fun c => ?_) (fun c => ?_))
          exact hk
end Go.Proofs.YtjhgmaephpadpaaGreat.AW


open Go Go.Proofs.YtjhgmaephpadpaaGreat.AW Go.Proofs
namespace Go.Proofs.YtjhgmaephpadpaaGreat.AW
set_option maxRecDepth 100000
set_option linter.unusedSimpArgs false
set_option linter.unusedVariables false

/-! ### ref6.inner -/
def bkR (a : List UInt8) : Int := if a.length < 8 then 0 else IntKind.i64.wrap (bkV (a.take 8))
def epW (x y : UInt8) : Int := bits .or .i64 (IntKind.i64.wrap (IntKind.i64.wrap (x.toNat : Int) * 2 ^ min (8 : Int).toNat IntKind.i64.bits)) (IntKind.i64.wrap (y.toNat : Int))
def _root_.Prod.epG (q : UInt8 × UInt8) : Int := epW q.1 q.2
def epV (x y : UInt8) : Int := if (epW x y == 65535) = true then -1 else epW x y
def txR (x : UInt8) : Bool := bits .and .u8 (x.toNat : Int) 1 == 1
def mkR (x : UInt8) : Int := IntKind.i64.wrap ((x.toNat : Int).fdiv (2 ^ min (1 : Int).toNat IntKind.u8.bits))
def bN (b : Bt) (r : PV) : PV := .agg [ii b.base, ii b.prod, ii b.epoch, ii b.seq, .bool b.txn, ii b.mark, r]
theorem wk_bN {b : Bt} {r : PV} (h : WkD r (rcP b.recs)) : WkD (bN b r) b.pv := .agg _ _ (.cons _ _ _ _ (.refl _) (.cons _ _ _ _ (.refl _) (.cons _ _ _ _ (.refl _) (.cons _ _ _ _ (.refl _) (.cons _ _ _ _ (.refl _) (.cons _ _ _ _ (.refl _) (.cons _ _ _ _ h .nil)))))))
def inR (x : List UInt8) : Nat → Nat → List KV → Option (List KV × Nat)
  | 0, p, R => some (R, p)
  | n + 1, p, R =>
    if (((c1V (x.drop p) (x.length : Nat)).2 == 0) || ((c1V (x.drop (p + (c1V (x.drop p) (x.length : Nat)).2.toNat)) (x.length : Nat)).2 == 0)) = true then none
    else inR x n (p + (c1V (x.drop p) (x.length : Nat)).2.toNat + (c1V (x.drop (p + (c1V (x.drop p) (x.length : Nat)).2.toNat)) (x.length : Nat)).2.toNat) (R ++ [((c1V (x.drop p) (x.length : Nat)).1, (c1V (x.drop (p + (c1V (x.drop p) (x.length : Nat)).2.toNat)) (x.length : Nat)).1)])
def inB0 (x : List UInt8) (R : List KV) : Bt := ⟨0, bkR (x.drop 1), epV (x.getD 9 0) (x.getD 10 0), bkR (x.drop 11), txR (x.getD 0 0), mkR (x.getD 0 0), R⟩
theorem getD_at {x : List UInt8} (k : Nat) (h : k < x.length) : (bytesP x)[((k : Nat) : Int).toNat]? = some (.int .u8 ((x.getD k 0).toNat : Int)) := by
  rw [getB h]; rw [List.getD_eq_getElem?_getD, List.getElem?_eq_getElem h]; rfl
theorem drop_at (x : List UInt8) (i : Int) (k : Nat) (h : i = (k : Int)) : PV.sl .shr 1 ((bytesP x).drop i.toNat) = bsl (x.drop k) := by
  subst h; rw [Int.toNat_natCast]; unfold bsl bytesP; rw [List.map_drop]
def rcA (i : Nat) (R : List KV) : AV := match i with | 0 => .p (.sl .nil 0 []) | _ + 1 => .osl 2 (R.map rec2).length 0 (R.map rec2).length
def bzC : Option AObj := some (.cells [.p (ii 0), .p (ii 0), .p (ii 0), .p (ii 0), .p (.bool false), .p (ii 0), .p (.sl .nil 0 [])])
def inS (b : Bt) (i : Nat) (R : List KV) : Store := [bzC, some (.cells [.p (ii 0), .p (ii b.prod), .p (ii b.epoch), .p (ii b.seq), .p (.bool b.txn), .p (ii b.mark), rcA i R]), some (.buf 2 (R.map rec2))]
set_option maxHeartbeats 16000000 in
theorem inner_c (x : List UInt8) (hx : x.length ≤ 1000000) (s : Store) (K : AV → Store → Prop) (h0 : (20 ≤ x.length → inR x (x.getD 19 0).toNat 20 [] = none) → K (.tup [.p bZv, .p (.bool false)]) s)
    (h1 : 20 ≤ x.length → ∀ R p, inR x (x.getD 19 0).toNat 20 [] = some (R, p) → ∀ k sz xs, WkD (.sl k sz xs) (rcP R) → K (.tup [.p (bN (inB0 x R) (.sl k sz xs)), .p (.bool (((p : Nat) : Int) == ((x.length : Nat) : Int)))]) s) : Cal Tryz.prog 148 [.p (bsl x)] s K := by
  refine Cal.pure (args := [bsl x]) ?_
  refine Cal.intro Tryz.func148 (by decide +kernel) rfl rfl ?_
  have hlx := bytesP_len x
  cases c1 : decide ((((bytesP x).length : Nat) : Int) < 20) with
  | true =>
    have h0 := h0 (fun h => by have := of_decide_eq_true c1; omega)
    clear h1 hlx
    repeat' (first
      | (apply Br.t; · (first | rfl | (simp only [*] <;> rfl)))
      | (apply Br.f; · (first | rfl | (simp only [*] <;> rfl)))
      | refine Ob.mk (okst rfl rfl rfl) ?_
      | refine Br.mkT (fun c => ?_) (fun c => ?_)
      | refine Br.mkF (fun c => ?_) (fun c => ?_)
      | refine Br.mk (fun c => ?_) (fun c => ?_)
      | exact h0
      | (simp only [*, Bool.true_and, Bool.false_and, Bool.true_or, Bool.false_or, Bool.and_true, Bool.and_false, Bool.or_true, Bool.or_false, Bool.not_true, Bool.not_false, if_true, if_false, reduceIte, Bool.false_eq_true] at h0; exact h0))
  | false =>
    have h20 : 20 ≤ x.length := by have := of_decide_eq_false c1; omega
    have h1 := h1 h20
    have h0 : inR x (x.getD 19 0).toNat 20 [] = none → K (.tup [.p bZv, .p (.bool false)]) s := fun e => h0 (fun _ => e)
    have g0 := getD_at 0 (show 0 < x.length by omega)
    have g9 := getD_at 9 (show 9 < x.length by omega)
    have g10 := getD_at 10 (show 10 < x.length by omega)
    have g19 := getD_at 19 (show 19 < x.length by omega)
    have z : ∀ k : Nat, (0 : Int) ≤ (k : Int) := Int.natCast_nonneg
    have o1 : (0 : Int) ≤ 1 ∧ (1 : Int) ≤ (((bytesP x).length : Nat) : Int) := by omega
    have o2 : (0 : Int) ≤ 11 ∧ (11 : Int) ≤ (((bytesP x).length : Nat) : Int) := by omega
    have d1 := drop_at x 1 1 rfl
    have d2 := drop_at x 11 11 rfl
    have hb1 : ∀ s K, K (.tup [.p (ii (bkR (x.drop 1))), .p (.bool (decide (8 ≤ (x.drop 1).length)))]) s → Cal Tryz.prog 149 [.p (.sl .shr 1 ((bytesP x).drop (1 : Int).toNat))] s K := fun s K hK => by
      rw [d1]; exact back1_c (x.drop 1) s K hK
    have hb2 : ∀ s K, K (.tup [.p (ii (bkR (x.drop 11))), .p (.bool (decide (8 ≤ (x.drop 11).length)))]) s → Cal Tryz.prog 149 [.p (.sl .shr 1 ((bytesP x).drop (11 : Int).toNat))] s K := fun s K hK => by
      rw [d2]; exact back1_c (x.drop 11) s K hK
    unfold inB0 at h1
    obtain ⟨x0, hx0⟩ : ∃ x0, x0 = x.getD 0 0 := ⟨_, rfl⟩
    obtain ⟨x9, hx9⟩ : ∃ x9, x9 = x.getD 9 0 := ⟨_, rfl⟩
    obtain ⟨x10, hx10⟩ : ∃ x10, x10 = x.getD 10 0 := ⟨_, rfl⟩
    obtain ⟨x19, hx19⟩ : ∃ x19, x19 = x.getD 19 0 := ⟨_, rfl⟩
    rw [← hx0] at g0
    rw [← hx9] at g9
    rw [← hx10] at g10
    rw [← hx19] at g19
    rw [← hx0, ← hx9, ← hx10, ← hx19] at h1
    rw [← hx19] at h0
    generalize bkR (x.drop 1) = pr at h1 hb1
    generalize bkR (x.drop 11) = sq at h1 hb2
    generalize decide (8 ≤ (x.drop 1).length) = e1 at hb1
    generalize decide (8 ≤ (x.drop 11).length) = e2 at hb2
    clear d1 d2 hx0 hx9 hx10 hx19
    unfold epV at h1
    have o3 : (0 : Int) ≤ 8 := by decide
    have o4 : (0 : Int) ≤ 1 := by decide
    cases k1 : (epW x9 x10 == 65535) with
    | true =>
      rw [k1, if_pos rfl] at h1
      unfold epW at k1
      refine Br.f c1 ?_
      clear c1
      repeat' (first
        | refine Chk.mk (by kernel_rfl) ?_
        | (apply Br.t; · (first | rfl | (simp only [*] <;> rfl)))
        | (apply Br.f; · (first | rfl | (simp only [*] <;> rfl)))
        | refine ⟨_, ⟨rfl, rfl⟩, ?_⟩
        | refine ⟨_, _, ⟨rfl, rfl⟩, rfl, ?_⟩
        | refine ⟨_, Idx.mk (.int .u8 (x0.toNat : Int)) (z 0) g0 ⟨rfl, rfl⟩, ?_⟩
        | refine ⟨_, Idx.mk (.int .u8 (x9.toNat : Int)) (z 9) g9 ⟨rfl, rfl⟩, ?_⟩
        | refine ⟨_, Idx.mk (.int .u8 (x10.toNat : Int)) (z 10) g10 ⟨rfl, rfl⟩, ?_⟩
        | refine Idx.mk (.int .u8 (x19.toNat : Int)) (z 19) g19 ?_
        | refine Ob.mk o1 ?_
        | refine Ob.mk o2 ?_
        | refine hb1 _ _ ?_
        | refine hb2 _ _ ?_
        | refine ⟨_, Ob.mk (by decide) ⟨rfl, rfl⟩, ?_⟩
        | (refine ⟨_, Br.t ?_ ⟨rfl, rfl⟩, ?_⟩; · (first | rfl | (simp only [*] <;> rfl)))
        | (refine ⟨_, Br.f ?_ ⟨rfl, rfl⟩, ?_⟩; · (first | rfl | (simp only [*] <;> rfl)))
        | refine ⟨_, _, Ob.mk (okst rfl rfl rfl) ⟨rfl, rfl⟩, rfl, ?_⟩
        | refine Ob.mk (okst rfl rfl rfl) ?_
        | refine Ob.mk (by decide) ?_
        | refine Br.mkT (fun c => ?_) (fun c => ?_)
        | refine Br.mkF (fun c => ?_) (fun c => ?_)
        | refine Br.mk (fun c => ?_) (fun c => ?_))
      refine LoopX.famW [0, 2, 4, 5, 6, 7] (fun (q : Nat × List KV × Nat) => ([(0, .p (bsl x)), (2, .ref 0 0), (4, .ref 1 0), (5, .p (ii (IntKind.i64.wrap (x19.toNat : Int)))), (6, .p (ii (q.2.2 : Nat))), (7, .p (ii (q.1 : Nat)))], inS ⟨0, pr, (-1), sq, txR x0, mkR x0, []⟩ q.1 q.2.1))
        (fun q => q.1 ≤ x19.toNat ∧ q.2.2 ≤ x.length ∧ inR x x19.toNat 20 [] = inR x (x19.toNat - q.1) q.2.2 q.2.1 ∧ q.2.1.length ≤ q.1) (fun q => x19.toNat - q.1) (0, [], 20) ⟨Nat.zero_le _, h20, rfl, Nat.le_refl _⟩ (by show 2 ≤ 3; decide) (Trim.wk 2 [(2, none)] rfl (by show 2 ≤ 2; decide) (.inr rfl) rfl rfl rfl rfl rfl ⟨.inl rfl, .inl rfl, .inl rfl, .inl rfl, .inl rfl, .inl rfl, trivial⟩) ?_
      rintro ⟨i, R, p⟩ ⟨hi, hp, hin, hRl⟩
      have hi : i ≤ x19.toNat := hi
      have hp : p ≤ x.length := hp
      have hin : inR x x19.toNat 20 [] = inR x (x19.toNat - i) p R := hin
      have hRl : R.length ≤ i := hRl
      have h255 : x19.toNat < 256 := x19.toNat_lt
      have e19 : IntKind.i64.wrap (x19.toNat : Int) = ((x19.toNat : Nat) : Int) := by rw [wrap_i64] <;> omega
      have ei : IntKind.i64.wrap ((i : Int) + 1) = ((i + 1 : Nat) : Int) := by rw [wrap_i64] <;> omega
      refine Br.mk (fun hc => ?_) (fun hc => ?_)
      · have hc : (i : Int) < IntKind.i64.wrap (x19.toNat : Int) := of_decide_eq_true hc
        rw [e19] at hc
        have hi1 : i < x19.toNat := by omega
        clear hc e19
        cases i with
        | zero =>
          have hR0 : R = [] := List.eq_nil_of_length_eq_zero (by omega)
          have hp1 : p ≤ x.length := hp
          have o5 : (0 : Int) ≤ ((p : Nat) : Int) ∧ ((p : Nat) : Int) ≤ (((bytesP x).length : Nat) : Int) := by rw [hlx]; omega
          have d3 := drop_at x ((p : Nat) : Int) p rfl
          have i1 := c1V_in (x.drop p) (x.length : Nat) (by rw [List.length_drop]; omega)
          rw [List.length_drop] at i1
          have u1 := fun s K => cut1_c (x.drop p) (by rw [List.length_drop]; omega) (x.length : Nat) s K
          have hnone : ∀ m, x19.toNat - (0) = m + 1 → inR x (x19.toNat - (0)) p R = if (((c1V (x.drop p) (x.length : Nat)).2 == 0) || ((c1V (x.drop (p + (c1V (x.drop p) (x.length : Nat)).2.toNat)) (x.length : Nat)).2 == 0)) = true then none
              else inR x m (p + (c1V (x.drop p) (x.length : Nat)).2.toNat + (c1V (x.drop (p + (c1V (x.drop p) (x.length : Nat)).2.toNat)) (x.length : Nat)).2.toNat) (R ++ [((c1V (x.drop p) (x.length : Nat)).1, (c1V (x.drop (p + (c1V (x.drop p) (x.length : Nat)).2.toNat)) (x.length : Nat)).1)]) := fun m e => by rw [e]; rfl
          have hn1 := hnone (x19.toNat - (0 + 1)) (by omega)
          clear hnone
          generalize hk : c1V (x.drop p) (x.length : Nat) = k at i1 u1 hn1
          obtain ⟨key, kn⟩ := k
          have i1 : 0 ≤ kn ∧ kn ≤ ((x.length - p : Nat) : Int) := i1
          have o6 : (0 : Int) ≤ IntKind.i64.wrap (((p : Nat) : Int) + kn) ∧ IntKind.i64.wrap (((p : Nat) : Int) + kn) ≤ (((bytesP x).length : Nat) : Int) := by rw [hlx, wrap_i64] <;> omega
          have ew6 : IntKind.i64.wrap (((p : Nat) : Int) + kn) = ((p + kn.toNat : Nat) : Int) := by rw [wrap_i64] <;> omega
          have d4 := drop_at x (IntKind.i64.wrap (((p : Nat) : Int) + kn)) (p + kn.toNat) ew6
          have i2 := c1V_in (x.drop (p + kn.toNat)) (x.length : Nat) (by rw [List.length_drop]; omega)
          rw [List.length_drop] at i2
          have u2 := fun s K => cut1_c (x.drop (p + kn.toNat)) (by rw [List.length_drop]; omega) (x.length : Nat) s K
          dsimp only at hn1
          generalize hm : c1V (x.drop (p + kn.toNat)) (x.length : Nat) = mm at i2 u2 hn1
          obtain ⟨val, mn⟩ := mm
          have i2 : 0 ≤ mn ∧ mn ≤ ((x.length - (p + kn.toNat) : Nat) : Int) := i2
          dsimp only at hn1
          have ew7 : IntKind.i64.wrap (IntKind.i64.wrap (((p : Nat) : Int) + kn) + mn) = ((p + kn.toNat + mn.toNat : Nat) : Int) := by rw [ew6, wrap_i64] <;> omega
          have hple : p + kn.toNat + mn.toNat ≤ x.length := by omega
          have v1 : ∀ s K, K (.tup [.p (.str key), .p (ii kn)]) s → Cal Tryz.prog 172 [.p (.sl .shr 1 ((bytesP x).drop ((p : Nat) : Int).toNat)), .p (ii (((bytesP x).length : Nat) : Int))] s K := fun s K hK => by
            rw [d3, hlx]; exact u1 s K hK
          have v2 : ∀ s K, K (.tup [.p (.str val), .p (ii mn)]) s → Cal Tryz.prog 172 [.p (.sl .shr 1 ((bytesP x).drop (IntKind.i64.wrap (((p : Nat) : Int) + kn)).toNat)), .p (ii (((bytesP x).length : Nat) : Int))] s K := fun s K hK => by
            rw [d4, hlx]; exact u2 s K hK
          have hRl : (R.map rec2).length = R.length := List.length_map ..
          have hob : ((R.map rec2).length + 1) * 32 ≤ 140737488355328 := by rw [hRl]; omega
          have hob0 : (0 + 1) * 32 ≤ 140737488355328 := by decide
          clear d3 d4 u1 u2 hk hm i1 i2 o1 o2
          cases q1 : (kn == 0) with
          | true =>
            have h0 := h0 (by rw [hin, hn1, q1]; rfl)
            clear hlx hRl
            repeat' (first
              | (apply Br.t; · (first | rfl | (simp only [*] <;> rfl)))
              | (apply Br.f; · (first | rfl | (simp only [*] <;> rfl)))
              | refine Ob.mk (okst rfl rfl rfl) ?_
              | refine Ob.mk o5 ?_
              | refine Ob.mk o6 ?_
              | refine v1 _ _ ?_
              | refine v2 _ _ ?_
              | refine Br.mkT (fun c => ?_) (fun c => ?_)
              | refine Br.mkF (fun c => ?_) (fun c => ?_)
              | refine Br.mk (fun c => ?_) (fun c => ?_)
              | exact h0
              | (simp only [*, Bool.true_and, Bool.false_and, Bool.true_or, Bool.false_or, Bool.and_true, Bool.and_false, Bool.or_true, Bool.or_false, Bool.not_true, Bool.not_false, if_true, if_false, reduceIte, Bool.false_eq_true] at h0; exact h0))
          | false =>
            cases q2 : (mn == 0) with
            | true =>
              have h0 := h0 (by rw [hin, hn1, q1, q2]; rfl)
              clear hlx hRl
              repeat' (first
                | (apply Br.t; · (first | rfl | (simp only [*] <;> rfl)))
                | (apply Br.f; · (first | rfl | (simp only [*] <;> rfl)))
                | refine Ob.mk (okst rfl rfl rfl) ?_
                | refine Ob.mk o5 ?_
                | refine Ob.mk o6 ?_
                | refine v1 _ _ ?_
                | refine v2 _ _ ?_
                | refine Br.mkT (fun c => ?_) (fun c => ?_)
                | refine Br.mkF (fun c => ?_) (fun c => ?_)
                | refine Br.mk (fun c => ?_) (fun c => ?_)
                | exact h0
                | (simp only [*, Bool.true_and, Bool.false_and, Bool.true_or, Bool.false_or, Bool.and_true, Bool.and_false, Bool.or_true, Bool.or_false, Bool.not_true, Bool.not_false, if_true, if_false, reduceIte, Bool.false_eq_true] at h0; exact h0))
            | false =>
              rw [q1, q2, if_neg (by decide)] at hn1
              have hnx : inR x x19.toNat 20 [] = inR x (x19.toNat - (0 + 1)) (p + kn.toNat + mn.toNat) (R ++ [(key, val)]) := by rw [hin, hn1]
              have hmap : (R ++ [(key, val)]).map rec2 = R.map rec2 ++ [rec2 (key, val)] := by rw [List.map_append]; rfl
              clear hlx hRl hin hn1 h1 h0
              repeat' (first
                | (apply Br.t; · (first | rfl | (simp only [*] <;> rfl)))
                | (apply Br.f; · (first | rfl | (simp only [*] <;> rfl)))
                | refine Ob.mk (okst rfl rfl rfl) ?_
                | refine Ob.mk o5 ?_
                | refine Ob.mk o6 ?_
                | refine v1 _ _ ?_
                | refine v2 _ _ ?_
                | refine Ob.mk ⟨rfl, rfl, rfl, hob⟩ ?_
                | refine BrL.c ?_
                | refine Ob.mk hob0 ?_
                | refine Br.mkT (fun c => ?_) (fun c => ?_)
                | refine Br.mkF (fun c => ?_) (fun c => ?_)
                | refine Br.mk (fun c => ?_) (fun c => ?_))
              rw [hR0, List.nil_append] at hnx
              refine ⟨(1, [(key, val)], p + kn.toNat + mn.toNat), ⟨by show 1 ≤ x19.toNat; omega, hple, hnx, Nat.le_refl _⟩, by show x19.toNat - 1 < x19.toNat - 0; omega, (by show (2 : Nat) ≤ 3; decide), Trim.mv [] [0, 1, 3] (TrimR.mk' rfl rfl ?_ rfl ?_)⟩
              · rfl
              · refine Eq.trans (b := [_, _, _, _, AV.p (ii (IntKind.i64.wrap (IntKind.i64.wrap (((p : Nat) : Int) + kn) + mn))), AV.p (ii (IntKind.i64.wrap (((0 : Nat) : Int) + 1)))]) rfl ?_
                rw [ew7]; rfl
        | succ i =>
          have hp1 : p ≤ x.length := hp
          have o5 : (0 : Int) ≤ ((p : Nat) : Int) ∧ ((p : Nat) : Int) ≤ (((bytesP x).length : Nat) : Int) := by rw [hlx]; omega
          have d3 := drop_at x ((p : Nat) : Int) p rfl
          have i1 := c1V_in (x.drop p) (x.length : Nat) (by rw [List.length_drop]; omega)
          rw [List.length_drop] at i1
          have u1 := fun s K => cut1_c (x.drop p) (by rw [List.length_drop]; omega) (x.length : Nat) s K
          have hnone : ∀ m, x19.toNat - ((i+1)) = m + 1 → inR x (x19.toNat - ((i+1))) p R = if (((c1V (x.drop p) (x.length : Nat)).2 == 0) || ((c1V (x.drop (p + (c1V (x.drop p) (x.length : Nat)).2.toNat)) (x.length : Nat)).2 == 0)) = true then none
              else inR x m (p + (c1V (x.drop p) (x.length : Nat)).2.toNat + (c1V (x.drop (p + (c1V (x.drop p) (x.length : Nat)).2.toNat)) (x.length : Nat)).2.toNat) (R ++ [((c1V (x.drop p) (x.length : Nat)).1, (c1V (x.drop (p + (c1V (x.drop p) (x.length : Nat)).2.toNat)) (x.length : Nat)).1)]) := fun m e => by rw [e]; rfl
          have hn1 := hnone (x19.toNat - ((i+1) + 1)) (by omega)
          clear hnone
          generalize hk : c1V (x.drop p) (x.length : Nat) = k at i1 u1 hn1
          obtain ⟨key, kn⟩ := k
          have i1 : 0 ≤ kn ∧ kn ≤ ((x.length - p : Nat) : Int) := i1
          have o6 : (0 : Int) ≤ IntKind.i64.wrap (((p : Nat) : Int) + kn) ∧ IntKind.i64.wrap (((p : Nat) : Int) + kn) ≤ (((bytesP x).length : Nat) : Int) := by rw [hlx, wrap_i64] <;> omega
          have ew6 : IntKind.i64.wrap (((p : Nat) : Int) + kn) = ((p + kn.toNat : Nat) : Int) := by rw [wrap_i64] <;> omega
          have d4 := drop_at x (IntKind.i64.wrap (((p : Nat) : Int) + kn)) (p + kn.toNat) ew6
          have i2 := c1V_in (x.drop (p + kn.toNat)) (x.length : Nat) (by rw [List.length_drop]; omega)
          rw [List.length_drop] at i2
          have u2 := fun s K => cut1_c (x.drop (p + kn.toNat)) (by rw [List.length_drop]; omega) (x.length : Nat) s K
          dsimp only at hn1
          generalize hm : c1V (x.drop (p + kn.toNat)) (x.length : Nat) = mm at i2 u2 hn1
          obtain ⟨val, mn⟩ := mm
          have i2 : 0 ≤ mn ∧ mn ≤ ((x.length - (p + kn.toNat) : Nat) : Int) := i2
          dsimp only at hn1
          have ew7 : IntKind.i64.wrap (IntKind.i64.wrap (((p : Nat) : Int) + kn) + mn) = ((p + kn.toNat + mn.toNat : Nat) : Int) := by rw [ew6, wrap_i64] <;> omega
          have hple : p + kn.toNat + mn.toNat ≤ x.length := by omega
          have v1 : ∀ s K, K (.tup [.p (.str key), .p (ii kn)]) s → Cal Tryz.prog 172 [.p (.sl .shr 1 ((bytesP x).drop ((p : Nat) : Int).toNat)), .p (ii (((bytesP x).length : Nat) : Int))] s K := fun s K hK => by
            rw [d3, hlx]; exact u1 s K hK
          have v2 : ∀ s K, K (.tup [.p (.str val), .p (ii mn)]) s → Cal Tryz.prog 172 [.p (.sl .shr 1 ((bytesP x).drop (IntKind.i64.wrap (((p : Nat) : Int) + kn)).toNat)), .p (ii (((bytesP x).length : Nat) : Int))] s K := fun s K hK => by
            rw [d4, hlx]; exact u2 s K hK
          have hRl : (R.map rec2).length = R.length := List.length_map ..
          have hob : ((R.map rec2).length + 1) * 32 ≤ 140737488355328 := by rw [hRl]; omega
          have hob0 : (0 + 1) * 32 ≤ 140737488355328 := by decide
          clear d3 d4 u1 u2 hk hm i1 i2 o1 o2
          cases q1 : (kn == 0) with
          | true =>
            have h0 := h0 (by rw [hin, hn1, q1]; rfl)
            clear hlx hRl
            repeat' (first
              | (apply Br.t; · (first | rfl | (simp only [*] <;> rfl)))
              | (apply Br.f; · (first | rfl | (simp only [*] <;> rfl)))
              | refine Ob.mk (okst rfl rfl rfl) ?_
              | refine Ob.mk o5 ?_
              | refine Ob.mk o6 ?_
              | refine v1 _ _ ?_
              | refine v2 _ _ ?_
              | refine Br.mkT (fun c => ?_) (fun c => ?_)
              | refine Br.mkF (fun c => ?_) (fun c => ?_)
              | refine Br.mk (fun c => ?_) (fun c => ?_)
              | exact h0
              | (simp only [*, Bool.true_and, Bool.false_and, Bool.true_or, Bool.false_or, Bool.and_true, Bool.and_false, Bool.or_true, Bool.or_false, Bool.not_true, Bool.not_false, if_true, if_false, reduceIte, Bool.false_eq_true] at h0; exact h0))
          | false =>
            cases q2 : (mn == 0) with
            | true =>
              have h0 := h0 (by rw [hin, hn1, q1, q2]; rfl)
              clear hlx hRl
              repeat' (first
                | (apply Br.t; · (first | rfl | (simp only [*] <;> rfl)))
                | (apply Br.f; · (first | rfl | (simp only [*] <;> rfl)))
                | refine Ob.mk (okst rfl rfl rfl) ?_
                | refine Ob.mk o5 ?_
                | refine Ob.mk o6 ?_
                | refine v1 _ _ ?_
                | refine v2 _ _ ?_
                | refine Br.mkT (fun c => ?_) (fun c => ?_)
                | refine Br.mkF (fun c => ?_) (fun c => ?_)
                | refine Br.mk (fun c => ?_) (fun c => ?_)
                | exact h0
                | (simp only [*, Bool.true_and, Bool.false_and, Bool.true_or, Bool.false_or, Bool.and_true, Bool.and_false, Bool.or_true, Bool.or_false, Bool.not_true, Bool.not_false, if_true, if_false, reduceIte, Bool.false_eq_true] at h0; exact h0))
            | false =>
              rw [q1, q2, if_neg (by decide)] at hn1
              have hnx : inR x x19.toNat 20 [] = inR x (x19.toNat - ((i+1) + 1)) (p + kn.toNat + mn.toNat) (R ++ [(key, val)]) := by rw [hin, hn1]
              have hmap : (R ++ [(key, val)]).map rec2 = R.map rec2 ++ [rec2 (key, val)] := by rw [List.map_append]; rfl
              clear hlx hRl hin hn1 h1 h0
              repeat' (first
                | (apply Br.t; · (first | rfl | (simp only [*] <;> rfl)))
                | (apply Br.f; · (first | rfl | (simp only [*] <;> rfl)))
                | refine Ob.mk (okst rfl rfl rfl) ?_
                | refine Ob.mk o5 ?_
                | refine Ob.mk o6 ?_
                | refine v1 _ _ ?_
                | refine v2 _ _ ?_
                | refine Ob.mk ⟨rfl, rfl, rfl, hob⟩ ?_
                | refine BrL.c ?_
                | refine Ob.mk hob0 ?_
                | refine Br.mkT (fun c => ?_) (fun c => ?_)
                | refine Br.mkF (fun c => ?_) (fun c => ?_)
                | refine Br.mk (fun c => ?_) (fun c => ?_))
              refine ⟨((i+1) + 1, R ++ [(key, val)], p + kn.toNat + mn.toNat), ⟨by show (i+1) + 1 ≤ x19.toNat; omega, hple, hnx, by show (R ++ [(key, val)]).length ≤ (i+1) + 1; rw [List.length_append]; show R.length + 1 ≤ (i+1) + 1; omega⟩, by show x19.toNat - ((i+1) + 1) < x19.toNat - ((i+1)); omega, (by show (2 : Nat) ≤ 3; decide), Trim.mk' ?_ ?_ rfl rfl (show 3 ≤ 3 by decide)⟩
              · refine Eq.trans (b := [_, _, _, _, (6, AV.p (ii (IntKind.i64.wrap (IntKind.i64.wrap (((p : Nat) : Int) + kn) + mn)))), (7, AV.p (ii (IntKind.i64.wrap ((((i+1) : Nat) : Int) + 1))))]) rfl ?_
                rw [ei, ew7]; rfl
              · refine Eq.trans (b := [_, some (.cells [.p (ii 0), .p (ii pr), .p (ii (-1)), .p (ii sq), .p (.bool (txR x0)), .p (ii (mkR x0)), .osl 2 (R.map rec2 ++ [rec2 (key, val)]).length 0 (R.map rec2 ++ [rec2 (key, val)]).length]), some (.buf 2 (R.map rec2 ++ [rec2 (key, val)]))]) rfl ?_
                rw [← hmap]; rfl
      · have hc : ¬ (i : Int) < IntKind.i64.wrap (x19.toNat : Int) := of_decide_eq_false hc
        rw [e19] at hc
        have hi0 : x19.toNat - i = 0 := by omega
        rw [hi0] at hin
        have h2 := h1 R p hin
        rw [← hlx] at h2
        cases i with
        | zero =>
          have hR0 : R = [] := List.eq_nil_of_length_eq_zero (by omega)
          have h3 := h2 .nil 0 [] (by rw [hR0]; exact .nil 0 .shr 2)
          clear hR0
          clear h1 h2 h0 hin hlx
          repeat' (first
            | (apply Br.t; · (first | rfl | (simp only [*] <;> rfl)))
            | (apply Br.f; · (first | rfl | (simp only [*] <;> rfl)))
            | refine Ob.mk (okst rfl rfl rfl) ?_
            | refine Br.mkT (fun c => ?_) (fun c => ?_)
            | refine Br.mkF (fun c => ?_) (fun c => ?_)
            | refine Br.mk (fun c => ?_) (fun c => ?_)
            | exact h3
            | (simp only [*, Bool.true_and, Bool.false_and, Bool.true_or, Bool.false_or, Bool.and_true, Bool.and_false, Bool.or_true, Bool.or_false, Bool.not_true, Bool.not_false, if_true, if_false, reduceIte, Bool.false_eq_true] at h3; exact h3))
        | succ i =>
          have h3 := h2 .shr 2 (((R.map rec2).drop 0).take (R.map rec2).length) (by rw [cut_all]; exact .refl _)
          clear h1 h2 h0 hin hlx
          repeat' (first
            | (apply Br.t; · (first | rfl | (simp only [*] <;> rfl)))
            | (apply Br.f; · (first | rfl | (simp only [*] <;> rfl)))
            | refine Ob.mk (okst rfl rfl rfl) ?_
            | refine Ob.mk rfl ?_
            | refine Br.mkT (fun c => ?_) (fun c => ?_)
            | refine Br.mkF (fun c => ?_) (fun c => ?_)
            | refine Br.mk (fun c => ?_) (fun c => ?_)
            | exact h3
            | (simp only [*, Bool.true_and, Bool.false_and, Bool.true_or, Bool.false_or, Bool.and_true, Bool.and_false, Bool.or_true, Bool.or_false, Bool.not_true, Bool.not_false, if_true, if_false, reduceIte, Bool.false_eq_true] at h3; exact h3))
    | false =>
      rw [k1, if_neg (by decide)] at h1
      unfold epW at k1
      refine Br.f c1 ?_
      clear c1
      repeat' (first
        | refine Chk.mk (by kernel_rfl) ?_
        | (apply Br.t; · (first | rfl | (simp only [*] <;> rfl)))
        | (apply Br.f; · (first | rfl | (simp only [*] <;> rfl)))
        | refine ⟨_, ⟨rfl, rfl⟩, ?_⟩
        | refine ⟨_, _, ⟨rfl, rfl⟩, rfl, ?_⟩
        | refine ⟨_, Idx.mk (.int .u8 (x0.toNat : Int)) (z 0) g0 ⟨rfl, rfl⟩, ?_⟩
        | refine ⟨_, Idx.mk (.int .u8 (x9.toNat : Int)) (z 9) g9 ⟨rfl, rfl⟩, ?_⟩
        | refine ⟨_, Idx.mk (.int .u8 (x10.toNat : Int)) (z 10) g10 ⟨rfl, rfl⟩, ?_⟩
        | refine Idx.mk (.int .u8 (x19.toNat : Int)) (z 19) g19 ?_
        | refine Ob.mk o1 ?_
        | refine Ob.mk o2 ?_
        | refine hb1 _ _ ?_
        | refine hb2 _ _ ?_
        | refine ⟨_, Ob.mk (by decide) ⟨rfl, rfl⟩, ?_⟩
        | (refine ⟨_, Br.t ?_ ⟨rfl, rfl⟩, ?_⟩; · (first | rfl | (simp only [*] <;> rfl)))
        | (refine ⟨_, Br.f ?_ ⟨rfl, rfl⟩, ?_⟩; · (first | rfl | (simp only [*] <;> rfl)))
        | refine ⟨_, _, Ob.mk (okst rfl rfl rfl) ⟨rfl, rfl⟩, rfl, ?_⟩
        | refine Ob.mk (okst rfl rfl rfl) ?_
        | refine Ob.mk (by decide) ?_
        | refine Br.mkT (fun c => ?_) (fun c => ?_)
        | refine Br.mkF (fun c => ?_) (fun c => ?_)
        | refine Br.mk (fun c => ?_) (fun c => ?_))
      refine LoopX.famW [0, 2, 4, 5, 6, 7] (fun (q : Nat × List KV × Nat) => ([(0, .p (bsl x)), (2, .ref 0 0), (4, .ref 1 0), (5, .p (ii (IntKind.i64.wrap (x19.toNat : Int)))), (6, .p (ii (q.2.2 : Nat))), (7, .p (ii (q.1 : Nat)))], inS ⟨0, pr, (x9,x10).epG, sq, txR x0, mkR x0, []⟩ q.1 q.2.1))
        (fun q => q.1 ≤ x19.toNat ∧ q.2.2 ≤ x.length ∧ inR x x19.toNat 20 [] = inR x (x19.toNat - q.1) q.2.2 q.2.1 ∧ q.2.1.length ≤ q.1) (fun q => x19.toNat - q.1) (0, [], 20) ⟨Nat.zero_le _, h20, rfl, Nat.le_refl _⟩ (by show 2 ≤ 3; decide) (Trim.wk 2 [(2, none)] rfl (by show 2 ≤ 2; decide) (.inr rfl) rfl rfl rfl rfl rfl ⟨.inl rfl, .inl rfl, .inl rfl, .inl rfl, .inl rfl, .inl rfl, trivial⟩) ?_
      rintro ⟨i, R, p⟩ ⟨hi, hp, hin, hRl⟩
      have hi : i ≤ x19.toNat := hi
      have hp : p ≤ x.length := hp
      have hin : inR x x19.toNat 20 [] = inR x (x19.toNat - i) p R := hin
      have hRl : R.length ≤ i := hRl
      have h255 : x19.toNat < 256 := x19.toNat_lt
      have e19 : IntKind.i64.wrap (x19.toNat : Int) = ((x19.toNat : Nat) : Int) := by rw [wrap_i64] <;> omega
      have ei : IntKind.i64.wrap ((i : Int) + 1) = ((i + 1 : Nat) : Int) := by rw [wrap_i64] <;> omega
      refine Br.mk (fun hc => ?_) (fun hc => ?_)
      · have hc : (i : Int) < IntKind.i64.wrap (x19.toNat : Int) := of_decide_eq_true hc
        rw [e19] at hc
        have hi1 : i < x19.toNat := by omega
        clear hc e19
        cases i with
        | zero =>
          have hR0 : R = [] := List.eq_nil_of_length_eq_zero (by omega)
          have hp1 : p ≤ x.length := hp
          have o5 : (0 : Int) ≤ ((p : Nat) : Int) ∧ ((p : Nat) : Int) ≤ (((bytesP x).length : Nat) : Int) := by rw [hlx]; omega
          have d3 := drop_at x ((p : Nat) : Int) p rfl
          have i1 := c1V_in (x.drop p) (x.length : Nat) (by rw [List.length_drop]; omega)
          rw [List.length_drop] at i1
          have u1 := fun s K => cut1_c (x.drop p) (by rw [List.length_drop]; omega) (x.length : Nat) s K
          have hnone : ∀ m, x19.toNat - (0) = m + 1 → inR x (x19.toNat - (0)) p R = if (((c1V (x.drop p) (x.length : Nat)).2 == 0) || ((c1V (x.drop (p + (c1V (x.drop p) (x.length : Nat)).2.toNat)) (x.length : Nat)).2 == 0)) = true then none
              else inR x m (p + (c1V (x.drop p) (x.length : Nat)).2.toNat + (c1V (x.drop (p + (c1V (x.drop p) (x.length : Nat)).2.toNat)) (x.length : Nat)).2.toNat) (R ++ [((c1V (x.drop p) (x.length : Nat)).1, (c1V (x.drop (p + (c1V (x.drop p) (x.length : Nat)).2.toNat)) (x.length : Nat)).1)]) := fun m e => by rw [e]; rfl
          have hn1 := hnone (x19.toNat - (0 + 1)) (by omega)
          clear hnone
          generalize hk : c1V (x.drop p) (x.length : Nat) = k at i1 u1 hn1
          obtain ⟨key, kn⟩ := k
          have i1 : 0 ≤ kn ∧ kn ≤ ((x.length - p : Nat) : Int) := i1
          have o6 : (0 : Int) ≤ IntKind.i64.wrap (((p : Nat) : Int) + kn) ∧ IntKind.i64.wrap (((p : Nat) : Int) + kn) ≤ (((bytesP x).length : Nat) : Int) := by rw [hlx, wrap_i64] <;> omega
          have ew6 : IntKind.i64.wrap (((p : Nat) : Int) + kn) = ((p + kn.toNat : Nat) : Int) := by rw [wrap_i64] <;> omega
          have d4 := drop_at x (IntKind.i64.wrap (((p : Nat) : Int) + kn)) (p + kn.toNat) ew6
          have i2 := c1V_in (x.drop (p + kn.toNat)) (x.length : Nat) (by rw [List.length_drop]; omega)
          rw [List.length_drop] at i2
          have u2 := fun s K => cut1_c (x.drop (p + kn.toNat)) (by rw [List.length_drop]; omega) (x.length : Nat) s K
          dsimp only at hn1
          generalize hm : c1V (x.drop (p + kn.toNat)) (x.length : Nat) = mm at i2 u2 hn1
          obtain ⟨val, mn⟩ := mm
          have i2 : 0 ≤ mn ∧ mn ≤ ((x.length - (p + kn.toNat) : Nat) : Int) := i2
          dsimp only at hn1
          have ew7 : IntKind.i64.wrap (IntKind.i64.wrap (((p : Nat) : Int) + kn) + mn) = ((p + kn.toNat + mn.toNat : Nat) : Int) := by rw [ew6, wrap_i64] <;> omega
          have hple : p + kn.toNat + mn.toNat ≤ x.length := by omega
          have v1 : ∀ s K, K (.tup [.p (.str key), .p (ii kn)]) s → Cal Tryz.prog 172 [.p (.sl .shr 1 ((bytesP x).drop ((p : Nat) : Int).toNat)), .p (ii (((bytesP x).length : Nat) : Int))] s K := fun s K hK => by
            rw [d3, hlx]; exact u1 s K hK
          have v2 : ∀ s K, K (.tup [.p (.str val), .p (ii mn)]) s → Cal Tryz.prog 172 [.p (.sl .shr 1 ((bytesP x).drop (IntKind.i64.wrap (((p : Nat) : Int) + kn)).toNat)), .p (ii (((bytesP x).length : Nat) : Int))] s K := fun s K hK => by
            rw [d4, hlx]; exact u2 s K hK
          have hRl : (R.map rec2).length = R.length := List.length_map ..
          have hob : ((R.map rec2).length + 1) * 32 ≤ 140737488355328 := by rw [hRl]; omega
          have hob0 : (0 + 1) * 32 ≤ 140737488355328 := by decide
          clear d3 d4 u1 u2 hk hm i1 i2 o1 o2
          cases q1 : (kn == 0) with
          | true =>
            have h0 := h0 (by rw [hin, hn1, q1]; rfl)
            clear hlx hRl
            repeat' (first
              | (apply Br.t; · (first | rfl | (simp only [*] <;> rfl)))
              | (apply Br.f; · (first | rfl | (simp only [*] <;> rfl)))
              | refine Ob.mk (okst rfl rfl rfl) ?_
              | refine Ob.mk o5 ?_
              | refine Ob.mk o6 ?_
              | refine v1 _ _ ?_
              | refine v2 _ _ ?_
              | refine Br.mkT (fun c => ?_) (fun c => ?_)
              | refine Br.mkF (fun c => ?_) (fun c => ?_)
              | refine Br.mk (fun c => ?_) (fun c => ?_)
              | exact h0
              | (simp only [*, Bool.true_and, Bool.false_and, Bool.true_or, Bool.false_or, Bool.and_true, Bool.and_false, Bool.or_true, Bool.or_false, Bool.not_true, Bool.not_false, if_true, if_false, reduceIte, Bool.false_eq_true] at h0; exact h0))
          | false =>
            cases q2 : (mn == 0) with
            | true =>
              have h0 := h0 (by rw [hin, hn1, q1, q2]; rfl)
              clear hlx hRl
              repeat' (first
                | (apply Br.t; · (first | rfl | (simp only [*] <;> rfl)))
                | (apply Br.f; · (first | rfl | (simp only [*] <;> rfl)))
                | refine Ob.mk (okst rfl rfl rfl) ?_
                | refine Ob.mk o5 ?_
                | refine Ob.mk o6 ?_
                | refine v1 _ _ ?_
                | refine v2 _ _ ?_
                | refine Br.mkT (fun c => ?_) (fun c => ?_)
                | refine Br.mkF (fun c => ?_) (fun c => ?_)
                | refine Br.mk (fun c => ?_) (fun c => ?_)
                | exact h0
                | (simp only [*, Bool.true_and, Bool.false_and, Bool.true_or, Bool.false_or, Bool.and_true, Bool.and_false, Bool.or_true, Bool.or_false, Bool.not_true, Bool.not_false, if_true, if_false, reduceIte, Bool.false_eq_true] at h0; exact h0))
            | false =>
              rw [q1, q2, if_neg (by decide)] at hn1
              have hnx : inR x x19.toNat 20 [] = inR x (x19.toNat - (0 + 1)) (p + kn.toNat + mn.toNat) (R ++ [(key, val)]) := by rw [hin, hn1]
              have hmap : (R ++ [(key, val)]).map rec2 = R.map rec2 ++ [rec2 (key, val)] := by rw [List.map_append]; rfl
              clear hlx hRl hin hn1 h1 h0
              repeat' (first
                | (apply Br.t; · (first | rfl | (simp only [*] <;> rfl)))
                | (apply Br.f; · (first | rfl | (simp only [*] <;> rfl)))
                | refine Ob.mk (okst rfl rfl rfl) ?_
                | refine Ob.mk o5 ?_
                | refine Ob.mk o6 ?_
                | refine v1 _ _ ?_
                | refine v2 _ _ ?_
                | refine Ob.mk ⟨rfl, rfl, rfl, hob⟩ ?_
                | refine BrL.c ?_
                | refine Ob.mk hob0 ?_
                | refine Br.mkT (fun c => ?_) (fun c => ?_)
                | refine Br.mkF (fun c => ?_) (fun c => ?_)
                | refine Br.mk (fun c => ?_) (fun c => ?_))
              rw [hR0, List.nil_append] at hnx
              refine ⟨(1, [(key, val)], p + kn.toNat + mn.toNat), ⟨by show 1 ≤ x19.toNat; omega, hple, hnx, Nat.le_refl _⟩, by show x19.toNat - 1 < x19.toNat - 0; omega, (by show (2 : Nat) ≤ 3; decide), Trim.mv [] [0, 1, 3] (TrimR.mk' rfl rfl ?_ rfl ?_)⟩
              · rfl
              · refine Eq.trans (b := [_, _, _, _, AV.p (ii (IntKind.i64.wrap (IntKind.i64.wrap (((p : Nat) : Int) + kn) + mn))), AV.p (ii (IntKind.i64.wrap (((0 : Nat) : Int) + 1)))]) rfl ?_
                rw [ew7]; rfl
        | succ i =>
          have hp1 : p ≤ x.length := hp
          have o5 : (0 : Int) ≤ ((p : Nat) : Int) ∧ ((p : Nat) : Int) ≤ (((bytesP x).length : Nat) : Int) := by rw [hlx]; omega
          have d3 := drop_at x ((p : Nat) : Int) p rfl
          have i1 := c1V_in (x.drop p) (x.length : Nat) (by rw [List.length_drop]; omega)
          rw [List.length_drop] at i1
          have u1 := fun s K => cut1_c (x.drop p) (by rw [List.length_drop]; omega) (x.length : Nat) s K
          have hnone : ∀ m, x19.toNat - ((i+1)) = m + 1 → inR x (x19.toNat - ((i+1))) p R = if (((c1V (x.drop p) (x.length : Nat)).2 == 0) || ((c1V (x.drop (p + (c1V (x.drop p) (x.length : Nat)).2.toNat)) (x.length : Nat)).2 == 0)) = true then none
              else inR x m (p + (c1V (x.drop p) (x.length : Nat)).2.toNat + (c1V (x.drop (p + (c1V (x.drop p) (x.length : Nat)).2.toNat)) (x.length : Nat)).2.toNat) (R ++ [((c1V (x.drop p) (x.length : Nat)).1, (c1V (x.drop (p + (c1V (x.drop p) (x.length : Nat)).2.toNat)) (x.length : Nat)).1)]) := fun m e => by rw [e]; rfl
          have hn1 := hnone (x19.toNat - ((i+1) + 1)) (by omega)
          clear hnone
          generalize hk : c1V (x.drop p) (x.length : Nat) = k at i1 u1 hn1
          obtain ⟨key, kn⟩ := k
          have i1 : 0 ≤ kn ∧ kn ≤ ((x.length - p : Nat) : Int) := i1
          have o6 : (0 : Int) ≤ IntKind.i64.wrap (((p : Nat) : Int) + kn) ∧ IntKind.i64.wrap (((p : Nat) : Int) + kn) ≤ (((bytesP x).length : Nat) : Int) := by rw [hlx, wrap_i64] <;> omega
          have ew6 : IntKind.i64.wrap (((p : Nat) : Int) + kn) = ((p + kn.toNat : Nat) : Int) := by rw [wrap_i64] <;> omega
          have d4 := drop_at x (IntKind.i64.wrap (((p : Nat) : Int) + kn)) (p + kn.toNat) ew6
          have i2 := c1V_in (x.drop (p + kn.toNat)) (x.length : Nat) (by rw [List.length_drop]; omega)
          rw [List.length_drop] at i2
          have u2 := fun s K => cut1_c (x.drop (p + kn.toNat)) (by rw [List.length_drop]; omega) (x.length : Nat) s K
          dsimp only at hn1
          generalize hm : c1V (x.drop (p + kn.toNat)) (x.length : Nat) = mm at i2 u2 hn1
          obtain ⟨val, mn⟩ := mm
          have i2 : 0 ≤ mn ∧ mn ≤ ((x.length - (p + kn.toNat) : Nat) : Int) := i2
          dsimp only at hn1
          have ew7 : IntKind.i64.wrap (IntKind.i64.wrap (((p : Nat) : Int) + kn) + mn) = ((p + kn.toNat + mn.toNat : Nat) : Int) := by rw [ew6, wrap_i64] <;> omega
          have hple : p + kn.toNat + mn.toNat ≤ x.length := by omega
          have v1 : ∀ s K, K (.tup [.p (.str key), .p (ii kn)]) s → Cal Tryz.prog 172 [.p (.sl .shr 1 ((bytesP x).drop ((p : Nat) : Int).toNat)), .p (ii (((bytesP x).length : Nat) : Int))] s K := fun s K hK => by
            rw [d3, hlx]; exact u1 s K hK
          have v2 : ∀ s K, K (.tup [.p (.str val), .p (ii mn)]) s → Cal Tryz.prog 172 [.p (.sl .shr 1 ((bytesP x).drop (IntKind.i64.wrap (((p : Nat) : Int) + kn)).toNat)), .p (ii (((bytesP x).length : Nat) : Int))] s K := fun s K hK => by
            rw [d4, hlx]; exact u2 s K hK
          have hRl : (R.map rec2).length = R.length := List.length_map ..
          have hob : ((R.map rec2).length + 1) * 32 ≤ 140737488355328 := by rw [hRl]; omega
          have hob0 : (0 + 1) * 32 ≤ 140737488355328 := by decide
          clear d3 d4 u1 u2 hk hm i1 i2 o1 o2
          cases q1 : (kn == 0) with
          | true =>
            have h0 := h0 (by rw [hin, hn1, q1]; rfl)
            clear hlx hRl
            repeat' (first
              | (apply Br.t; · (first | rfl | (simp only [*] <;> rfl)))
              | (apply Br.f; · (first | rfl | (simp only [*] <;> rfl)))
              | refine Ob.mk (okst rfl rfl rfl) ?_
              | refine Ob.mk o5 ?_
              | refine Ob.mk o6 ?_
              | refine v1 _ _ ?_
              | refine v2 _ _ ?_
              | refine Br.mkT (fun c => ?_) (fun c => ?_)
              | refine Br.mkF (fun c => ?_) (fun c => ?_)
              | refine Br.mk (fun c => ?_) (fun c => ?_)
              | exact h0
              | (simp only [*, Bool.true_and, Bool.false_and, Bool.true_or, Bool.false_or, Bool.and_true, Bool.and_false, Bool.or_true, Bool.or_false, Bool.not_true, Bool.not_false, if_true, if_false, reduceIte, Bool.false_eq_true] at h0; exact h0))
          | false =>
            cases q2 : (mn == 0) with
            | true =>
              have h0 := h0 (by rw [hin, hn1, q1, q2]; rfl)
              clear hlx hRl
              repeat' (first
                | (apply Br.t; · (first | rfl | (simp only [*] <;> rfl)))
                | (apply Br.f; · (first | rfl | (simp only [*] <;> rfl)))
                | refine Ob.mk (okst rfl rfl rfl) ?_
                | refine Ob.mk o5 ?_
                | refine Ob.mk o6 ?_
                | refine v1 _ _ ?_
                | refine v2 _ _ ?_
                | refine Br.mkT (fun c => ?_) (fun c => ?_)
                | refine Br.mkF (fun c => ?_) (fun c => ?_)
                | refine Br.mk (fun c => ?_) (fun c => ?_)
                | exact h0
                | (simp only [*, Bool.true_and, Bool.false_and, Bool.true_or, Bool.false_or, Bool.and_true, Bool.and_false, Bool.or_true, Bool.or_false, Bool.not_true, Bool.not_false, if_true, if_false, reduceIte, Bool.false_eq_true] at h0; exact h0))
            | false =>
              rw [q1, q2, if_neg (by decide)] at hn1
              have hnx : inR x x19.toNat 20 [] = inR x (x19.toNat - ((i+1) + 1)) (p + kn.toNat + mn.toNat) (R ++ [(key, val)]) := by rw [hin, hn1]
              have hmap : (R ++ [(key, val)]).map rec2 = R.map rec2 ++ [rec2 (key, val)] := by rw [List.map_append]; rfl
              clear hlx hRl hin hn1 h1 h0
              repeat' (first
                | (apply Br.t; · (first | rfl | (simp only [*] <;> rfl)))
                | (apply Br.f; · (first | rfl | (simp only [*] <;> rfl)))
                | refine Ob.mk (okst rfl rfl rfl) ?_
                | refine Ob.mk o5 ?_
                | refine Ob.mk o6 ?_
                | refine v1 _ _ ?_
                | refine v2 _ _ ?_
                | refine Ob.mk ⟨rfl, rfl, rfl, hob⟩ ?_
                | refine BrL.c ?_
                | refine Ob.mk hob0 ?_
                | refine Br.mkT (fun c => ?_) (fun c => ?_)
                | refine Br.mkF (fun c => ?_) (fun c => ?_)
                | refine Br.mk (fun c => ?_) (fun c => ?_))
              refine ⟨((i+1) + 1, R ++ [(key, val)], p + kn.toNat + mn.toNat), ⟨by show (i+1) + 1 ≤ x19.toNat; omega, hple, hnx, by show (R ++ [(key, val)]).length ≤ (i+1) + 1; rw [List.length_append]; show R.length + 1 ≤ (i+1) + 1; omega⟩, by show x19.toNat - ((i+1) + 1) < x19.toNat - ((i+1)); omega, (by show (2 : Nat) ≤ 3; decide), Trim.mk' ?_ ?_ rfl rfl (show 3 ≤ 3 by decide)⟩
              · refine Eq.trans (b := [_, _, _, _, (6, AV.p (ii (IntKind.i64.wrap (IntKind.i64.wrap (((p : Nat) : Int) + kn) + mn)))), (7, AV.p (ii (IntKind.i64.wrap ((((i+1) : Nat) : Int) + 1))))]) rfl ?_
                rw [ei, ew7]; rfl
              · refine Eq.trans (b := [_, some (.cells [.p (ii 0), .p (ii pr), .p (ii (x9,x10).epG), .p (ii sq), .p (.bool (txR x0)), .p (ii (mkR x0)), .osl 2 (R.map rec2 ++ [rec2 (key, val)]).length 0 (R.map rec2 ++ [rec2 (key, val)]).length]), some (.buf 2 (R.map rec2 ++ [rec2 (key, val)]))]) rfl ?_
                rw [← hmap]; rfl
      · have hc : ¬ (i : Int) < IntKind.i64.wrap (x19.toNat : Int) := of_decide_eq_false hc
        rw [e19] at hc
        have hi0 : x19.toNat - i = 0 := by omega
        rw [hi0] at hin
        have h2 := h1 R p hin
        rw [← hlx] at h2
        cases i with
        | zero =>
          have hR0 : R = [] := List.eq_nil_of_length_eq_zero (by omega)
          have h3 := h2 .nil 0 [] (by rw [hR0]; exact .nil 0 .shr 2)
          clear hR0
          clear h1 h2 h0 hin hlx
          repeat' (first
            | (apply Br.t; · (first | rfl | (simp only [*] <;> rfl)))
            | (apply Br.f; · (first | rfl | (simp only [*] <;> rfl)))
            | refine Ob.mk (okst rfl rfl rfl) ?_
            | refine Br.mkT (fun c => ?_) (fun c => ?_)
            | refine Br.mkF (fun c => ?_) (fun c => ?_)
            | refine Br.mk (fun c => ?_) (fun c => ?_)
            | exact h3
            | (simp only [*, Bool.true_and, Bool.false_and, Bool.true_or, Bool.false_or, Bool.and_true, Bool.and_false, Bool.or_true, Bool.or_false, Bool.not_true, Bool.not_false, if_true, if_false, reduceIte, Bool.false_eq_true] at h3; exact h3))
        | succ i =>
          have h3 := h2 .shr 2 (((R.map rec2).drop 0).take (R.map rec2).length) (by rw [cut_all]; exact .refl _)
          clear h1 h2 h0 hin hlx
          repeat' (first
            | (apply Br.t; · (first | rfl | (simp only [*] <;> rfl)))
            | (apply Br.f; · (first | rfl | (simp only [*] <;> rfl)))
            | refine Ob.mk (okst rfl rfl rfl) ?_
            | refine Ob.mk rfl ?_
            | refine Br.mkT (fun c => ?_) (fun c => ?_)
            | refine Br.mkF (fun c => ?_) (fun c => ?_)
            | refine Br.mk (fun c => ?_) (fun c => ?_)
            | exact h3
            | (simp only [*, Bool.true_and, Bool.false_and, Bool.true_or, Bool.false_or, Bool.and_true, Bool.and_false, Bool.or_true, Bool.or_false, Bool.not_true, Bool.not_false, if_true, if_false, reduceIte, Bool.false_eq_true] at h3; exact h3))
end Go.Proofs.YtjhgmaephpadpaaGreat.AW


open Go Go.Proofs.YtjhgmaephpadpaaGreat.AW Go.Proofs
namespace Go.Proofs.YtjhgmaephpadpaaGreat.AW
set_option maxRecDepth 100000
set_option linter.unusedSimpArgs false
set_option linter.unusedVariables false

/-! ### Sealed, Unseal, Back of bytes that are owned; Unseal of a tree -/
theorem seg_eq (a : List UInt8) (o m : Nat) : ((bytesP a).drop o).take m = bytesP ((a.drop o).take m) := by unfold bytesP; rw [← List.map_drop, ← List.map_take]
theorem crc1_s (a : List UInt8) (o m : Nat) (hb : a.length ≤ 1000000) (K : AV → Store → Prop) (h : K (.p (u32v (crcV ((a.drop o).take m)))) [bu a]) : Cal Tryz.prog 131 [.osl 0 (bytesP a).length o m] [bu a] K := by
  have hl : ((a.drop o).take m).length ≤ 1000000 := by
    have : ((a.drop o).take m).length ≤ a.length := by rw [List.length_take, List.length_drop]; omega
    omega
  have hp : [PV.sl .shr 1 (((bytesP a).drop o).take m)] = [bsl ((a.drop o).take m)] := by rw [seg_eq]; rfl
  exact Cal.lend (ps := [bsl ((a.drop o).take m)]) (Ob.mk rfl hp) (crc1_c _ hl _ _ rfl) rfl h
set_option maxHeartbeats 4000000 in
theorem sealed_s (a : List UInt8) (o m : Nat) (hb : a.length ≤ 1000000) (K : AV → Store → Prop) (h : K (ob 1 (sealB ((a.drop o).take m))) [bu a, bu (sealB ((a.drop o).take m))]) : Cal Tryz.prog 101 [.osl 0 (bytesP a).length o m] [bu a] K := by
  refine Cal.intro Tryz.func101 (by decide +kernel) rfl rfl ?_
  refine Cal.frameK [0] (crc1_s a o m hb _ fun _ => ?_) rfl rfl rfl
  iterate 3 refine Ob.mk (by decide) ?_
  refine Or.inr ?_
  refine Ob.mk rfl ?_
  have hbs : ((a.drop o).take m).length ≤ 1000000 := by rw [List.length_take, List.length_drop]; omega
  have es := seg_eq a o m
  generalize (a.drop o).take m = b at h hbs es ⊢
  refine Ob.mk ⟨rfl, rfl, rfl, ?_⟩ ?_
  · show (4 + (((bytesP a).drop o).take m).length) * 1 ≤ _
    rw [es, bytesP_len]; omega
  have e : [PV.int .u8 (IntKind.u8.wrap (crcV b)), .int .u8 (IntKind.u8.wrap ((crcV b).fdiv (2 ^ (min (8 : Int).toNat IntKind.u32.bits)))), .int .u8 (IntKind.u8.wrap ((crcV b).fdiv (2 ^ (min (16 : Int).toNat IntKind.u32.bits)))), .int .u8 (IntKind.u8.wrap ((crcV b).fdiv (2 ^ (min (24 : Int).toNat IntKind.u32.bits))))] ++ ((bytesP a).drop o).take m = bytesP (sealB b) := by
    rw [u8_w, u8_w, u8_w, u8_w, es]
    show _ = bytesP (sumB b ++ b)
    rw [bytesP_app]; rfl
  rw [show ob 1 (sealB b) = AV.osl 1 (bytesP (sealB b)).length 0 (bytesP (sealB b)).length from rfl, show bu (sealB b) = some (AObj.buf 1 (bytesP (sealB b)) (some 5)) from rfl, ← e] at h
  exact h
def uOk (x : List UInt8) : Bool := decide (4 ≤ x.length) && (sealB (x.drop 4) == x)
set_option maxHeartbeats 8000000 in
theorem unseal_c (x : List UInt8) (hx : x.length ≤ 1000000) (s : Store) (K : AV → Store → Prop) (h0 : uOk x = false → K (.tup [.p (.sl .nil 0 []), .p (.bool false)]) s) (h1 : uOk x = true → K (.tup [.p (bsl (x.drop 4)), .p (.bool true)]) s ∧ (x.drop 4 = [] → K (.tup [.p (.sl .clip 1 []), .p (.bool true)]) s)) : Cal Tryz.prog 147 [.p (bsl x)] s K := by
  refine Cal.pure (args := [bsl x]) ?_
  refine Cal.intro Tryz.func147 (by decide +kernel) rfl rfl ?_
  have hlx := bytesP_len x
  unfold uOk at h0 h1
  cases c1 : decide ((((bytesP x).length : Nat) : Int) < 4) with
  | true =>
    have := h0 (by rw [decide_eq_false (by have := of_decide_eq_true c1; omega)]; rfl)
    clear h0 h1 hlx
    repeat' (first
      | refine Chk.mk (by kernel_rfl) ?_
      | (apply Br.t; · (first | rfl | (simp only [*] <;> rfl)))
      | (apply Br.f; · (first | rfl | (simp only [*] <;> rfl)))
      | refine ⟨_, ⟨rfl, rfl⟩, ?_⟩
      | refine ⟨_, _, ⟨rfl, rfl⟩, rfl, ?_⟩
      | exact this
      | refine ⟨_, Ob.mk (by decide) ⟨rfl, rfl⟩, ?_⟩
      | (refine ⟨_, Br.t ?_ ⟨rfl, rfl⟩, ?_⟩; · (first | rfl | (simp only [*] <;> rfl)))
      | (refine ⟨_, Br.f ?_ ⟨rfl, rfl⟩, ?_⟩; · (first | rfl | (simp only [*] <;> rfl)))
      | refine ⟨_, _, Ob.mk (okst rfl rfl rfl) ⟨rfl, rfl⟩, rfl, ?_⟩
      | refine Ob.mk (okst rfl rfl rfl) ?_
      | refine Ob.mk (by decide) ?_
      | refine Br.mkT (fun c => ?_) (fun c => ?_)
      | refine Br.mkF (fun c => ?_) (fun c => ?_)
      | refine Br.mk (fun c => ?_) (fun c => ?_))
  | false =>
    have h4 : 4 ≤ x.length := by have := of_decide_eq_false c1; omega
    rw [decide_eq_true h4] at h0 h1
    have o1 : (0 : Int) ≤ 4 ∧ (4 : Int) ≤ (((bytesP x).length : Nat) : Int) := by omega
    have d1 := drop_at x 4 4 rfl
    have hse : ∀ K, K (ob 0 (sealB (x.drop 4))) [bu (sealB (x.drop 4))] → Cal Tryz.prog 101 [.p (.sl .shr 1 ((bytesP x).drop (4 : Int).toNat))] [] K := fun K hK => by
      rw [d1]; exact sealed_t (x.drop 4) (by rw [List.length_drop]; omega) K hK
    have hcu : ∀ y : List UInt8, ((bytesP y).drop 0).take (bytesP y).length = bytesP y := fun y => cut_all
    have hl2 : (0 + ((bytesP x).drop (4 : Int).toNat).length) * 1 ≤ 140737488355328 := by rw [List.length_drop]; omega
    clear hlx
    cases c2 : (!(sealB (x.drop 4) == x)) with
    | true =>
      have := h0 (by have c2 : (sealB (x.drop 4) == x) = false := by simpa using c2
                     rw [c2]; rfl)
      clear h0 h1
      repeat' (first
        | refine Chk.mk (by kernel_rfl) ?_
        | (apply Br.t; · (first | rfl | (simp only [*] <;> rfl)))
        | (apply Br.f; · (first | rfl | (simp only [*] <;> rfl)))
        | refine ⟨_, ⟨rfl, rfl⟩, ?_⟩
        | refine ⟨_, _, ⟨rfl, rfl⟩, rfl, ?_⟩
        | refine ⟨_, Ob.mk o1 ⟨rfl, rfl⟩, ?_⟩
        | refine .inr <| .inl ⟨[], _, _, _, _, hse _ ⟨rfl, rfl⟩, rfl, rfl, rfl, ?_⟩
        | refine ⟨_, Ob.mk rfl (Ob.mk (.inr rfl) ⟨_, hcu _, ⟨rfl, rfl⟩⟩), ?_⟩
        | refine ⟨_, Ob.mk (.inr rfl) ⟨x, rfl, ⟨rfl, rfl⟩⟩, ?_⟩
        | exact this
        | refine ⟨_, Ob.mk (by decide) ⟨rfl, rfl⟩, ?_⟩
        | (refine ⟨_, Br.t ?_ ⟨rfl, rfl⟩, ?_⟩; · (first | rfl | (simp only [*] <;> rfl)))
        | (refine ⟨_, Br.f ?_ ⟨rfl, rfl⟩, ?_⟩; · (first | rfl | (simp only [*] <;> rfl)))
        | refine ⟨_, _, Ob.mk (okst rfl rfl rfl) ⟨rfl, rfl⟩, rfl, ?_⟩
        | refine Ob.mk (okst rfl rfl rfl) ?_
        | refine Ob.mk (by decide) ?_
        | refine Br.mkT (fun c => ?_) (fun c => ?_)
        | refine Br.mkF (fun c => ?_) (fun c => ?_)
        | refine Br.mk (fun c => ?_) (fun c => ?_))
    | false =>
      have := h1 (by have c2 : (sealB (x.drop 4) == x) = true := by simpa using c2
                     rw [c2]; rfl)
      clear h0 h1
      repeat' (first
        | refine Chk.mk (by kernel_rfl) ?_
        | (apply Br.t; · (first | rfl | (simp only [*] <;> rfl)))
        | (apply Br.f; · (first | rfl | (simp only [*] <;> rfl)))
        | refine ⟨_, ⟨rfl, rfl⟩, ?_⟩
        | refine ⟨_, _, ⟨rfl, rfl⟩, rfl, ?_⟩
        | refine ⟨_, Ob.mk o1 ⟨rfl, rfl⟩, ?_⟩
        | refine .inr <| .inl ⟨[], _, _, _, _, hse _ ⟨rfl, rfl⟩, rfl, rfl, rfl, ?_⟩
        | refine ⟨_, Ob.mk rfl (Ob.mk (.inr rfl) ⟨_, hcu _, ⟨rfl, rfl⟩⟩), ?_⟩
        | refine ⟨_, Ob.mk (.inr rfl) ⟨x, rfl, ⟨rfl, rfl⟩⟩, ?_⟩
        | refine Or.inl ?_
        | refine Ob.mk o1 ?_
        | refine ⟨_, Ob.mk (by decide) ⟨rfl, rfl⟩, ?_⟩
        | (refine ⟨_, Br.t ?_ ⟨rfl, rfl⟩, ?_⟩; · (first | rfl | (simp only [*] <;> rfl)))
        | (refine ⟨_, Br.f ?_ ⟨rfl, rfl⟩, ?_⟩; · (first | rfl | (simp only [*] <;> rfl)))
        | refine ⟨_, _, Ob.mk (okst rfl rfl rfl) ⟨rfl, rfl⟩, rfl, ?_⟩
        | refine Ob.mk (okst rfl rfl rfl) ?_
        | refine Ob.mk (by decide) ?_
        | refine Br.mkT (fun c => ?_) (fun c => ?_)
        | refine Br.mkF (fun c => ?_) (fun c => ?_)
        | refine Br.mk (fun c => ?_) (fun c => ?_))
      refine BrL.mk (fun hre => ?_) (fun hrn => ?_)
      · have := this.2 (by have hre : (bytesP x).drop (4 : Int).toNat = [] := hre
                           have := congrArg List.length hre
                           rw [List.length_drop, bytesP_len] at this
                           exact List.eq_nil_of_length_eq_zero (by rw [List.length_drop]; exact this))
        exact this
      · refine Ob.mk hl2 ?_
        refine Ob.mk rfl ?_
        have e : PV.sl .shr 1 (((([] ++ (bytesP x).drop (4 : Int).toNat).drop 0).take ([] ++ (bytesP x).drop (4 : Int).toNat).length)) = bsl (x.drop 4) := by rw [cut_all, List.nil_append]; exact d1
        have h2 := this.1
        rw [← e] at h2
        exact h2
end Go.Proofs.YtjhgmaephpadpaaGreat.AW


open Go Go.Proofs.YtjhgmaephpadpaaGreat.AW Go.Proofs
namespace Go.Proofs.YtjhgmaephpadpaaGreat.AW
set_option maxRecDepth 100000
set_option linter.unusedSimpArgs false
set_option linter.unusedVariables false

/-! ### Unseal, Back of bytes that are owned -/
theorem sealed_r (a : List UInt8) (o m : Nat) (hb : a.length ≤ 1000000) (K : AV → Store → Prop) (h : K (.p (bsl (sealB ((a.drop o).take m)))) [bu a]) : Cal Tryz.prog 101 [.osl 0 (bytesP a).length o m] [bu a] K := by
  refine Cal.cut ?_
  refine Cal.frz ?_
  refine sealed_s a o m hb _ ?_
  refine Ob.mk rfl ?_
  refine ⟨1, [bu a], Nat.le_refl 1, (show 1 ≤ 2 by decide), rfl, rfl, WkS.refl _, ?_⟩
  show K (.p (.sl .shr 1 (((bytesP (sealB ((a.drop o).take m))).drop 0).take (bytesP (sealB ((a.drop o).take m))).length))) [bu a]
  rw [cut_all]; exact h
set_option maxHeartbeats 8000000 in
theorem unseal_s (a : List UInt8) (o m : Nat) (hom : o + m ≤ a.length) (ha : a.length ≤ 1000000) (K : AV → Store → Prop) (h0 : uOk ((a.drop o).take m) = false → K (.tup [.p (.sl .nil 0 []), .p (.bool false)]) [bu a])
    (h1 : uOk ((a.drop o).take m) = true → K (.tup [.p (bsl (((a.drop o).take m).drop 4)), .p (.bool true)]) [bu a] ∧ (((a.drop o).take m).drop 4 = [] → K (.tup [.p (.sl .clip 1 []), .p (.bool true)]) [bu a])) : Cal Tryz.prog 147 [.osl 0 (bytesP a).length o m] [bu a] K := by
  refine Cal.cut ?_
  refine Cal.frzV 0 ?_
  refine Cal.intro Tryz.func147 (by decide +kernel) rfl rfl ?_
  have hxl : ((a.drop o).take m).length = m := by rw [List.length_take, List.length_drop]; omega
  have hsg := seg_eq a o m
  have hsg4 : ((bytesP a).drop (o + (4 : Int).toNat)).take (((m : Nat) : Int) - 4).toNat = bytesP (((a.drop o).take m).drop 4) := by
    rw [seg_eq, show (((m : Nat) : Int) - 4).toNat = m - 4 by omega, show o + (4 : Int).toNat = o + 4 from rfl, ← List.drop_drop, ← List.drop_take]
  have hse := fun K => sealed_r a (o + (4 : Int).toNat) (((m : Nat) : Int) - 4).toNat ha K
  have hsx : (a.drop (o + (4 : Int).toNat)).take (((m : Nat) : Int) - 4).toNat = ((a.drop o).take m).drop 4 := by
    rw [show (((m : Nat) : Int) - 4).toNat = m - 4 by omega, show o + (4 : Int).toNat = o + 4 from rfl, ← List.drop_drop, ← List.drop_take]
  rw [hsx] at hse
  unfold uOk at h0 h1
  rw [hxl] at h0 h1
  generalize (a.drop o).take m = x at h0 h1 hxl hsg hsg4 hse
  have hcu : ∀ y : List UInt8, ((bytesP y).drop 0).take (bytesP y).length = bytesP y := fun y => cut_all
  cases c1 : decide (((m : Nat) : Int) < 4) with
  | true =>
    have := h0 (by rw [decide_eq_false (by have := of_decide_eq_true c1; omega)]; rfl)
    clear h0 h1 hxl hsg hsg4 hsx hom
    repeat' (first
      | refine Chk.mk (by kernel_rfl) ?_
      | (apply Br.t; · (first | rfl | (simp only [*] <;> rfl)))
      | (apply Br.f; · (first | rfl | (simp only [*] <;> rfl)))
      | refine ⟨_, ⟨rfl, rfl⟩, ?_⟩
      | refine ⟨_, _, ⟨rfl, rfl⟩, rfl, ?_⟩
      | exact .inl ⟨1, [bu a], Nat.le_refl 1, (show 1 ≤ 1 by decide), rfl, rfl, WkS.refl _, this⟩
      | refine ⟨_, Ob.mk (by decide) ⟨rfl, rfl⟩, ?_⟩
      | (refine ⟨_, Br.t ?_ ⟨rfl, rfl⟩, ?_⟩; · (first | rfl | (simp only [*] <;> rfl)))
      | (refine ⟨_, Br.f ?_ ⟨rfl, rfl⟩, ?_⟩; · (first | rfl | (simp only [*] <;> rfl)))
      | refine ⟨_, _, Ob.mk (okst rfl rfl rfl) ⟨rfl, rfl⟩, rfl, ?_⟩
      | refine Ob.mk (okst rfl rfl rfl) ?_
      | refine Ob.mk (by decide) ?_
      | refine Br.mkT (fun c => ?_) (fun c => ?_)
      | refine Br.mkF (fun c => ?_) (fun c => ?_)
      | refine Br.mk (fun c => ?_) (fun c => ?_))
  | false =>
    have h4 : 4 ≤ m := by have := of_decide_eq_false c1; omega
    rw [decide_eq_true h4] at h0 h1
    have o1 : (bytesP a).length = (bytesP a).length ∧ (0 : Int) ≤ 4 ∧ (4 : Int) ≤ ((m : Nat) : Int) ∧ ((m : Nat) : Int) ≤ ((m : Nat) : Int) := by omega
    have hl2 : (0 + (((bytesP a).drop (o + (4 : Int).toNat)).take (((m : Nat) : Int) - 4).toNat).length) * 1 ≤ 140737488355328 := by rw [hsg4, bytesP_len, List.length_drop]; omega
    clear hsx hom
    cases c2 : (!(sealB (x.drop 4) == x)) with
    | true =>
      have := h0 (by have c2 : (sealB (x.drop 4) == x) = false := by simpa using c2
                     rw [c2]; rfl)
      clear h0 h1 hxl
      repeat' (first
        | refine Chk.mk (by kernel_rfl) ?_
        | (apply Br.t; · (first | rfl | (simp only [*] <;> rfl)))
        | (apply Br.f; · (first | rfl | (simp only [*] <;> rfl)))
        | refine ⟨_, ⟨rfl, rfl⟩, ?_⟩
        | refine ⟨_, _, ⟨rfl, rfl⟩, rfl, ?_⟩
        | refine ⟨_, Ob.mk o1 ⟨rfl, rfl⟩, ?_⟩
        | refine .inr <| .inr ⟨[0], _, _, _, hse _ ⟨rfl, rfl⟩, rfl, rfl, rfl, ?_⟩
        | refine ⟨_, Ob.mk (.inr rfl) ⟨_, rfl, ⟨rfl, rfl⟩⟩, ?_⟩
        | refine ⟨_, Ob.mk rfl (Ob.mk (.inr rfl) ⟨x, hsg, ⟨rfl, rfl⟩⟩), ?_⟩
        | exact .inl ⟨1, [bu a], Nat.le_refl 1, (show 1 ≤ 1 by decide), rfl, rfl, WkS.refl _, this⟩
        | refine ⟨_, Ob.mk (by decide) ⟨rfl, rfl⟩, ?_⟩
        | (refine ⟨_, Br.t ?_ ⟨rfl, rfl⟩, ?_⟩; · (first | rfl | (simp only [*] <;> rfl)))
        | (refine ⟨_, Br.f ?_ ⟨rfl, rfl⟩, ?_⟩; · (first | rfl | (simp only [*] <;> rfl)))
        | refine ⟨_, _, Ob.mk (okst rfl rfl rfl) ⟨rfl, rfl⟩, rfl, ?_⟩
        | refine Ob.mk (okst rfl rfl rfl) ?_
        | refine Ob.mk (by decide) ?_
        | refine Br.mkT (fun c => ?_) (fun c => ?_)
        | refine Br.mkF (fun c => ?_) (fun c => ?_)
        | refine Br.mk (fun c => ?_) (fun c => ?_))
    | false =>
      have := h1 (by have c2 : (sealB (x.drop 4) == x) = true := by simpa using c2
                     rw [c2]; rfl)
      clear h0 h1
      repeat' (first
        | refine Chk.mk (by kernel_rfl) ?_
        | (apply Br.t; · (first | rfl | (simp only [*] <;> rfl)))
        | (apply Br.f; · (first | rfl | (simp only [*] <;> rfl)))
        | refine ⟨_, ⟨rfl, rfl⟩, ?_⟩
        | refine ⟨_, _, ⟨rfl, rfl⟩, rfl, ?_⟩
        | refine ⟨_, Ob.mk o1 ⟨rfl, rfl⟩, ?_⟩
        | refine .inr <| .inr ⟨[0], _, _, _, hse _ ⟨rfl, rfl⟩, rfl, rfl, rfl, ?_⟩
        | refine ⟨_, Ob.mk (.inr rfl) ⟨_, rfl, ⟨rfl, rfl⟩⟩, ?_⟩
        | refine ⟨_, Ob.mk rfl (Ob.mk (.inr rfl) ⟨x, hsg, ⟨rfl, rfl⟩⟩), ?_⟩
        | refine Or.inl ?_
        | refine Ob.mk o1 ?_
        | refine ⟨_, Ob.mk (by decide) ⟨rfl, rfl⟩, ?_⟩
        | (refine ⟨_, Br.t ?_ ⟨rfl, rfl⟩, ?_⟩; · (first | rfl | (simp only [*] <;> rfl)))
        | (refine ⟨_, Br.f ?_ ⟨rfl, rfl⟩, ?_⟩; · (first | rfl | (simp only [*] <;> rfl)))
        | refine ⟨_, _, Ob.mk (okst rfl rfl rfl) ⟨rfl, rfl⟩, rfl, ?_⟩
        | refine Ob.mk (okst rfl rfl rfl) ?_
        | refine Ob.mk (by decide) ?_
        | refine Br.mkT (fun c => ?_) (fun c => ?_)
        | refine Br.mkF (fun c => ?_) (fun c => ?_)
        | refine Br.mk (fun c => ?_) (fun c => ?_))
      refine Ob.mk rfl ?_
      refine BrL.mk (fun hre => ?_) (fun hrn => ?_)
      · have := this.2 (by have hre : ((bytesP a).drop (o + (4 : Int).toNat)).take (((m : Nat) : Int) - 4).toNat = [] := hre
                           rw [hsg4] at hre
                           have := congrArg List.length hre
                           rw [bytesP_len] at this
                           exact List.eq_nil_of_length_eq_zero this)
        exact .inl ⟨1, [bu a], Nat.le_refl 1, (show 1 ≤ 1 by decide), rfl, rfl, WkS.refl _, this⟩
      · refine Ob.mk hl2 ?_
        have e : PV.sl .shr 1 (((([] ++ ((bytesP a).drop (o + (4 : Int).toNat)).take (((m : Nat) : Int) - 4).toNat).drop 0).take ([] ++ ((bytesP a).drop (o + (4 : Int).toNat)).take (((m : Nat) : Int) - 4).toNat).length)) = bsl (x.drop 4) := by rw [cut_all, List.nil_append, hsg4]; rfl
        have h2 := this.1
        rw [← e] at h2
        exact .inr ⟨_, _, rfl, rfl, Ob.mk rfl ⟨1, [bu a], Nat.le_refl 1, (show 1 ≤ 2 by decide), rfl, rfl, WkS.refl _, h2⟩⟩
set_option maxHeartbeats 4000000 in
theorem back1_s (a : List UInt8) (ha : a.length ≤ 1000000) (K : AV → Store → Prop) (h : K (.tup [.p (ii (bkR a)), .p (.bool (decide (8 ≤ a.length)))]) [bu a]) : Cal Tryz.prog 149 [ob 0 a] [bu a] K := by
  refine Cal.intro Tryz.func149 (by decide +kernel) rfl rfl ?_
  have hla := bytesP_len a
  unfold bkR at h
  by_cases h8 : a.length < 8
  · have c1 : decide ((((bytesP a).length : Nat) : Int) < 8) = true := decide_eq_true (by omega)
    have d1 : decide (8 ≤ a.length) = false := decide_eq_false (by omega)
    rw [if_pos h8, d1] at h
    refine Br.t c1 ?_
    exact h
  · have c1 : decide ((((bytesP a).length : Nat) : Int) < 8) = false := decide_eq_false (by omega)
    have d1 : decide (8 ≤ a.length) = true := decide_eq_true (by omega)
    rw [if_neg h8, d1] at h
    refine Br.f c1 ?_
    refine LoopX.fam [0, 4, 5] (fun (j : Nat) => ([(0, ob 0 a), (4, .p (.int .u64 (bkV (a.take j)))), (5, .p (ii (j : Nat)))], [bu a]))
      (fun j => j ≤ 8) (fun j => 8 - j) 0 (Nat.zero_le _) (Trim.mk' rfl rfl rfl rfl (Nat.le_refl _)) ?_
    intro j hj
    replace hj : j ≤ 8 := hj
    refine Br.mk (fun hc => ?_) (fun hc => ?_)
    · replace hc : (j : Int) < 8 := of_decide_eq_true hc
      have hj1 : j < a.length := by omega
      have ej : IntKind.i64.wrap ((j : Int) + 1) = ((j + 1 : Nat) : Int) := by rw [wrap_i64] <;> omega
      have hg : (bytesP a)[((0 + ((j : Nat) : Int).toNat : Nat) : Int).toNat]? = some (.int .u8 ((a[j]).toNat : Int)) := by rw [Nat.zero_add, Int.toNat_natCast]; exact getB hj1
      have hs : bkV (a.take (j + 1)) = bits .or .u64 (IntKind.u64.wrap (bkV (a.take j) * 2 ^ min (8 : Int).toNat IntKind.u64.bits)) (IntKind.u64.wrap ((a[j]).toNat : Int)) := by
        unfold bkV; rw [take_succ' hj1, List.foldl_append]; rfl
      have o2 : (bytesP a).length = (bytesP a).length ∧ (0 : Int) ≤ ((j : Nat) : Int) ∧ ((j : Nat) : Int) < (((bytesP a).length : Nat) : Int) := by omega
      refine Ob.mk (by decide) ?_
      refine Ob.mk o2 ?_
      refine Ob.mk rfl ?_
      refine Idx.mk (.int .u8 ((a[j]).toNat : Int)) (Int.natCast_nonneg _) hg ?_
      refine ⟨j + 1, by show j + 1 ≤ 8; omega, by show 8 - (j + 1) < 8 - j; omega, Nat.le_refl _, Trim.mk' ?_ rfl rfl rfl (Nat.le_refl _)⟩
      refine Eq.trans (b := [_, (4, .p (.int .u64 (bits .or .u64 (IntKind.u64.wrap (bkV (a.take j) * 2 ^ min (8 : Int).toNat IntKind.u64.bits)) (IntKind.u64.wrap ((a[j]).toNat : Int))))), (5, AV.p (ii (IntKind.i64.wrap ((j : Int) + 1))))]) rfl ?_
      rw [ej, ← hs]; rfl
    · replace hc : j = 8 := by
        have : ¬ (j : Int) < 8 := of_decide_eq_false hc
        omega
      subst hc
      exact h
end Go.Proofs.YtjhgmaephpadpaaGreat.AW
