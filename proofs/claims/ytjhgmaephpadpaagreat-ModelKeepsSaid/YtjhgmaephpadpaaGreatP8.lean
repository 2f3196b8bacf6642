/- A part of the proof: LG/G1, LG/G2, LG/G3, LG/G4, LG/B0, LG/G5, LG/G6, LG/G7, LG/G8, LG/G9, LG/G10. -/
import Derived.Test.YtjhgmaephpadpaaGreatProg
import Derived.Test.YtjhgmaephpadpaaGreatP7

open Go Go.Proofs.YtjhgmaephpadpaaGreat.AW Go.Proofs
namespace Go.Proofs.YtjhgmaephpadpaaGreat.AW
set_option maxRecDepth 100000
set_option linter.unusedSimpArgs false
set_option linter.unusedVariables false

def ii (n : Int) : PV := .int .i64 n
abbrev okst {a b : Nat} {c : Bool} {x y : Nat} (h1 : a = b) (h2 : Nat.ble x y = true) (h3 : c = true) : a = b ∧ x ≤ y ∧ c = true := ⟨h1, Nat.le_of_ble_eq_true h2, h3⟩

/-! ### Within -/
def wi (n H : Int) : Int := if 0 ≤ n ∧ n ≤ H then n else if n.tmod (H + 1) < 0 then n.tmod (H + 1) + H + 1 else n.tmod (H + 1)
theorem wi_in (n : Int) {H : Int} (h0 : 0 ≤ H) : 0 ≤ wi n H ∧ wi n H ≤ H := by
  unfold wi
  have h1 := Int.tmod_lt_of_pos n (show (0 : Int) < H + 1 by omega)
  have h2 : -(H + 1) < n.tmod (H + 1) := by
    rcases Int.le_total 0 n with h | h
    · have := Int.tmod_nonneg (H + 1) h; omega
    · have := Int.tmod_lt_of_pos (-n) (show (0 : Int) < H + 1 by omega)
      rw [Int.neg_tmod] at this; omega
  split
  · omega
  · split <;> omega
theorem within_c (n H : Int) (h0 : 0 ≤ H) (h1 : H ≤ 1073741824) (s : Store) (K : AV → Store → Prop) (h : K (.p (ii (wi n H))) s) : Cal Tryz.prog 18 [.p (ii n), .p (ii 0), .p (ii H)] s K := by
  refine Cal.pure (args := [ii n, ii 0, ii H]) ?_
  refine Cal.intro Tryz.func18 (by decide +kernel) rfl rfl ?_
  have hin := wi_in n h0
  unfold wi at h hin
  have e1 : IntKind.i64.wrap (IntKind.i64.wrap (H - 0) + 1) = H + 1 := by simp only [IntKind.wrap_i64]; omega
  have hlo : -(H + 1) < n.tmod (H + 1) := by
    rcases Int.le_total 0 n with h | h
    · have := Int.tmod_nonneg (H + 1) h; omega
    · have := Int.tmod_lt_of_pos (-n) (show (0 : Int) < H + 1 by omega)
      rw [Int.neg_tmod] at this; omega
  have hhi := Int.tmod_lt_of_pos n (show (0 : Int) < H + 1 by omega)
  have fin : ¬ (0 ≤ n ∧ n ≤ H) → (∀ M : Int, M = H + 1 → (M ≠ 0 ∧ (n.tmod M < 0 → K (.p (ii (IntKind.i64.wrap (0 + IntKind.i64.wrap (IntKind.i64.wrap (IntKind.i64.wrap (n.tmod M + H) - 0) + 1))))) s) ∧ (¬ n.tmod M < 0 → K (.p (ii (IntKind.i64.wrap (0 + n.tmod M)))) s))) := by
    intro hc M hM
    subst hM
    rw [if_neg hc] at h
    refine ⟨by omega, fun hn => ?_, fun hn => ?_⟩
    · rw [if_pos hn] at h
      have e : IntKind.i64.wrap (0 + IntKind.i64.wrap (IntKind.i64.wrap (IntKind.i64.wrap (n.tmod (H + 1) + H) - 0) + 1)) = n.tmod (H + 1) + H + 1 := by
        generalize n.tmod (H + 1) = t at *
        simp only [IntKind.wrap_i64]; omega
      rw [e]; exact h
    · rw [if_neg hn] at h
      have e : IntKind.i64.wrap (0 + n.tmod (H + 1)) = n.tmod (H + 1) := by
        generalize n.tmod (H + 1) = t at *
        rw [wrap_i64] <;> omega
      rw [e]; exact h
  cases hx : decide (n ≥ 0) with
  | false =>
    have hx1 : (decide (n ≥ 0) == true) = false := by rw [hx]; rfl
    iterate 3 refine Br.f hx1 ?_
    refine Br.f hx ?_
    refine Br.f rfl ?_
    obtain ⟨f1, f2, f3⟩ := fin (fun hh => absurd hh.1 (by simpa using hx)) _ e1
    refine Ob.mk f1 ?_
    refine Br.mk (fun c => ?_) (fun c => ?_)
    · exact f2 (by simpa using c)
    · exact f3 (by simpa using c)
  | true =>
    have hx1 : (decide (n ≥ 0) == true) = true := by rw [hx]; rfl
    have hn0 : 0 ≤ n := by simpa using hx
    cases hy : decide (n ≤ H) with
    | true =>
      have hn1 : n ≤ H := by simpa using hy
      rw [if_pos ⟨hn0, hn1⟩] at h
      iterate 3 refine Br.t hx1 ?_
      refine Br.t hx ?_
      refine Br.t hy ?_
      exact h
    | false =>
      have hn1 : ¬ n ≤ H := by simpa using hy
      iterate 3 refine Br.t hx1 ?_
      refine Br.t hx ?_
      refine Br.f hy ?_
      obtain ⟨f1, f2, f3⟩ := fin (fun hh => hn1 hh.2) _ e1
      refine Ob.mk f1 ?_
      refine Br.mk (fun c => ?_) (fun c => ?_)
      · exact f2 (by simpa using c)
      · exact f3 (by simpa using c)


/-! ### A tape -/
def kl (keeps : List Int) : PV := .sl .shr 1 (keeps.map ii)
def tp (l : List Int) (a : Nat) : Option AObj := some (.cells [.p (kl l), .p (ii a)])
def nxA (l : List Int) (a : Nat) (n : Int) : Nat := if l.length ≤ a ∨ n < 1 then a else a + 1
def nxV (l : List Int) (a : Nat) (n : Int) : Int := if l.length ≤ a ∨ n < 1 then 0 else (wi (l.getD a 0) 1073741824).tmod n
theorem nxA_le {l : List Int} {a : Nat} {n : Int} (h : a ≤ l.length) : nxA l a n ≤ l.length := by unfold nxA; split <;> omega
theorem nxV_in {l : List Int} {a : Nat} {n : Int} (h : 1 ≤ n) : 0 ≤ nxV l a n ∧ nxV l a n < n := by
  unfold nxV
  split
  · omega
  · exact ⟨Int.tmod_nonneg _ (wi_in _ (by decide)).1, Int.tmod_lt_of_pos _ (by omega)⟩
theorem next_c (l : List Int) (a : Nat) (n : Int) (hl : l.length ≤ 9223372036854775807) (ha : a ≤ l.length) (K : AV → Store → Prop) (h : K (.p (ii (nxV l a n))) [tp l (nxA l a n)]) :
    Cal Tryz.prog 30 [.ref 0 0, .p (ii n)] [tp l a] K := by
  have hlen : (l.map ii).length = l.length := List.length_map ..
  unfold nxV nxA at h
  refine Cal.intro Tryz.func30 (by decide +kernel) rfl rfl ?_
  iterate 11 refine ⟨_, ⟨rfl, rfl⟩, ?_⟩
  cases hx : decide ((a : Int) ≥ ((l.map ii).length : Int)) with
  | true =>
    have hx0 : l.length ≤ a := by simp [hlen] at hx; omega
    rw [if_pos (.inl hx0), if_pos (.inl hx0)] at h
    iterate 2 refine Br.f rfl ?_
    refine ⟨_, Br.t rfl ⟨rfl, rfl⟩, ?_⟩
    refine Chk.mk (by kernel_rfl) ?_
    refine Br.t rfl ?_
    exact h
  | false =>
    have hx0 : a < l.length := by simp [hlen] at hx; omega
    iterate 2 refine Br.t rfl ⟨_, ⟨rfl, rfl⟩, ?_⟩
    refine ⟨_, Br.f rfl ⟨rfl, rfl⟩, ?_⟩
    refine Chk.mk (by kernel_rfl) ?_
    refine Br.mk (fun hc => ?_) (fun hc => ?_)
    · have hc : n < 1 := by simpa using hc
      rw [if_pos (.inr hc), if_pos (.inr hc)] at h
      exact h
    · have hc : ¬ n < 1 := by simpa using hc
      rw [if_neg (by omega), if_neg (by omega)] at h
      have e1 : IntKind.i64.wrap ((a : Int) + 1) = ((a + 1 : Nat) : Int) := by rw [wrap_i64] <;> omega
      have e2 : IntKind.i64.wrap (((a + 1 : Nat) : Int) - 1) = (a : Int) := by rw [wrap_i64] <;> omega
      have hgd : l.getD a 0 = l[a] := by simp [List.getD, hx0]
      have hget : (l.map ii)[(IntKind.i64.wrap (IntKind.i64.wrap ((a : Int) + 1) - 1)).toNat]? = some (ii (l.getD a 0)) := by
        rw [e1, e2, Int.toNat_natCast, hgd]; simp [hx0]
      rw [show tp l (a + 1) = some (.cells [.p (kl l), .p (ii (IntKind.i64.wrap ((a : Int) + 1)))]) by rw [e1]; rfl] at h
      refine Ob.mk (okst rfl rfl rfl) ?_
      iterate 9 refine ⟨_, ⟨rfl, rfl⟩, ?_⟩
      refine ⟨_, Idx.mk _ (by rw [e1, e2]; omega) hget ⟨rfl, rfl⟩, ?_⟩
      refine ⟨_, ⟨rfl, rfl⟩, ?_⟩
      refine Or.inl ⟨_, fun s' => within_c _ 1073741824 (by decide) (by decide) s' _ ⟨rfl, rfl⟩, rfl, ?_⟩
      refine ⟨_, ⟨rfl, rfl⟩, ?_⟩
      refine ⟨_, Ob.mk (by omega) ⟨rfl, rfl⟩, ?_⟩
      refine ⟨_, ⟨rfl, rfl⟩, ?_⟩
      refine Chk.mk (by kernel_rfl) ?_
      exact h

def txL : List (List UInt8) := [[], [97], [107, 101, 121], [228, 184, 150], [116, 119, 111, 32, 119, 111, 114, 100, 115], [98, 255], [107, 50], [61], [97, 10, 98]]
def txV (l : List Int) (a : Nat) : List UInt8 := txL.getD (nxV l a 9).toNat []
theorem txV_len (l : List Int) (a : Nat) : (txV l a).length ≤ 9 := by
  unfold txV
  obtain ⟨h1, h2⟩ := nxV_in (l := l) (a := a) (n := 9) (by decide)
  have h3 : ∀ k, k < 9 → (txL.getD k []).length ≤ 9 := by decide
  exact h3 _ (by omega)
theorem txV_get (l : List Int) (a : Nat) : (txL.map PV.str)[(nxV l a 9).toNat]? = some (.str (txV l a)) := by
  obtain ⟨h1, h2⟩ := nxV_in (l := l) (a := a) (n := 9) (by decide)
  have h3 : (nxV l a 9).toNat < txL.length := by show _ < 9; omega
  unfold txV
  rw [List.getElem?_map, List.getElem?_eq_getElem h3]
  simp [h3]
theorem text_c (l : List Int) (a : Nat) (hl : l.length ≤ 9223372036854775807) (ha : a ≤ l.length) (K : AV → Store → Prop) (h : K (.p (.str (txV l a))) [tp l (nxA l a 9)]) : Cal Tryz.prog 78 [.ref 0 0] [tp l a] K := by
  refine Cal.intro Tryz.func78 (by decide +kernel) rfl rfl ?_
  refine next_c l a 9 hl ha _ ?_
  refine Idx.mk (.str (txV l a)) (nxV_in (by decide)).1 (txV_get l a) ?_
  exact h
end Go.Proofs.YtjhgmaephpadpaaGreat.AW


open Go Go.Proofs.YtjhgmaephpadpaaGreat.AW Go.Proofs
namespace Go.Proofs.YtjhgmaephpadpaaGreat.AW
set_option maxRecDepth 100000
set_option linter.unusedSimpArgs false
set_option linter.unusedVariables false

/-! ### Records of a tape -/
abbrev KV := List UInt8 × List UInt8
def rec2 (q : KV) : PV := .agg [.str q.1, .str q.2]
def rcs (l : List Int) : Nat → Nat → List KV × Nat
  | 0, a => ([], a)
  | k + 1, a => ((txV l a, txV l (nxA l a 9)) :: (rcs l k (nxA l (nxA l a 9) 9)).1, (rcs l k (nxA l (nxA l a 9) 9)).2)
def rcsV (l : List Int) (a : Nat) (n : Int) : List KV := (rcs l (1 + nxV l a n).toNat (nxA l a n)).1
def rcsA (l : List Int) (a : Nat) (n : Int) : Nat := (rcs l (1 + nxV l a n).toNat (nxA l a n)).2
theorem rcs_le {l : List Int} : ∀ (k a : Nat), a ≤ l.length → (rcs l k a).2 ≤ l.length
  | 0, _, h => h
  | k + 1, a, h => rcs_le k (nxA l (nxA l a 9) 9) (nxA_le (nxA_le h))
theorem rcs_len {l : List Int} : ∀ {k a : Nat}, (rcs l k a).1.length = k
  | 0, _ => rfl
  | k + 1, a => by show (rcs l k _).1.length + 1 = k + 1; rw [rcs_len]
theorem rcs_short {l : List Int} : ∀ {k a : Nat}, ∀ q, q ∈ (rcs l k a).1 → q.1.length ≤ 9 ∧ q.2.length ≤ 9
  | 0, _, q, h => by cases h
  | k + 1, a, q, h => by
    rcases List.mem_cons.1 h with rfl | h
    · exact ⟨txV_len _ _, txV_len _ _⟩
    · exact rcs_short q h

set_option maxHeartbeats 4000000 in
theorem recs_c (l : List Int) (a : Nat) (n : Int) (hl : l.length ≤ 9223372036854775807) (ha : a ≤ l.length) (hn : 1 ≤ n ∧ n ≤ 1000) (K : AV → Store → Prop) (h : K (.p (.sl .shr 2 ((rcsV l a n).map rec2))) [tp l (rcsA l a n)]) :
    Cal Tryz.prog 42 [.ref 0 0, .p (ii n)] [tp l a] K := by
  refine Cal.cut ?_
  refine Cal.frz ?_
  refine Cal.intro Tryz.func42 (by decide +kernel) rfl rfl ?_
  refine next_c l a n hl ha _ ?_
  obtain ⟨h1, h2⟩ := nxV_in (l := l) (a := a) hn.1
  obtain ⟨m, hm⟩ : ∃ m, m = (1 + nxV l a n).toNat := ⟨_, rfl⟩
  have em : IntKind.i64.wrap (1 + nxV l a n) = (m : Int) := by rw [hm, wrap_i64 (by omega) (by omega)]; omega
  unfold rcsV rcsA at h
  rw [← hm] at h
  have ha1 := nxA_le (n := n) ha
  refine LoopX.famW [0, 5, 6] (fun (q : List KV × Nat × Nat) => ([(0, .ref 0 0), (5, .osl 1 (q.1.map rec2).length 0 (q.1.map rec2).length), (6, .p (ii q.2.1))], [tp l q.2.2, some (.buf 2 (q.1.map rec2))]))
    (fun q => q.1 ++ (rcs l q.2.1 q.2.2).1 = (rcs l m (nxA l a n)).1 ∧ (rcs l q.2.1 q.2.2).2 = (rcs l m (nxA l a n)).2 ∧ q.2.2 ≤ l.length) (fun q => q.2.1) ([], m, nxA l a n) ⟨rfl, rfl, ha1⟩ (by show 1 ≤ 2; decide)
    (Trim.wk 1 [(2, none)] rfl (by show 1 ≤ 1; decide) (.inr rfl) rfl rfl rfl rfl rfl ⟨.inl rfl, .own 1 rfl rfl, ?_, trivial⟩) ?_
  · refine .inl ?_
    show AV.p (ii (IntKind.i64.wrap (1 + nxV l a n))) = AV.p (ii m)
    rw [em]
  rintro ⟨out, k, b⟩ ⟨hq1, hq2, hb⟩
  have hq1 : out ++ (rcs l k b).1 = (rcs l m (nxA l a n)).1 := hq1
  have hq2 : (rcs l k b).2 = (rcs l m (nxA l a n)).2 := hq2
  have hb : b ≤ l.length := hb
  have hlen : out.length + k = m := by have := congrArg List.length hq1; rw [List.length_append, rcs_len, rcs_len] at this; exact this
  have hm1 : m ≤ 1001 := by omega
  refine Br.mk (fun hc => ?_) (fun hc => ?_)
  · have hc : 0 < k := by have h5 : (k : Int) > 0 := of_decide_eq_true hc; omega
    obtain ⟨k', rfl⟩ : ∃ k', k = k' + 1 := ⟨k - 1, by omega⟩
    have ek : IntKind.i64.wrap (((k' + 1 : Nat) : Int) - 1) = (k' : Int) := by rw [wrap_i64] <;> omega
    refine Cal.frameK [0] (text_c l b hl hb _ fun _ => ?_) rfl rfl rfl
    refine Cal.frameK [0] (text_c l (nxA l b 9) hl (nxA_le hb) _ fun _ => ?_) rfl rfl rfl
    refine Ob.mk ⟨rfl, rfl, rfl, ?_⟩ ?_
    · show ((out.map rec2).length + 1) * 32 ≤ _
      rw [List.length_map]; omega
    · refine ⟨(out ++ [(txV l b, txV l (nxA l b 9))], k', nxA l (nxA l b 9) 9), ⟨?_, hq2, nxA_le (nxA_le hb)⟩, Nat.lt_succ_self _, (show (1 : Nat) ≤ 2 by decide), Trim.mk' ?_ ?_ rfl rfl (Nat.le_refl _)⟩
      · rw [← hq1, List.append_assoc]; rfl
      · refine Eq.trans (b := [_, (5, AV.osl 1 (out.map rec2 ++ [rec2 (txV l b, txV l (nxA l b 9))]).length 0 (out.map rec2 ++ [rec2 (txV l b, txV l (nxA l b 9))]).length), (6, AV.p (ii (IntKind.i64.wrap (((k' + 1 : Nat) : Int) - 1))))]) rfl ?_
        rw [ek, List.map_append]; rfl
      · show [_, some (AObj.buf 2 (out.map rec2 ++ [rec2 (txV l b, txV l (nxA l b 9))]))] = [_, _]
        rw [List.map_append]; rfl
  · have hc : k = 0 := by have h5 : ¬ (k : Int) > 0 := of_decide_eq_false hc; omega
    subst hc
    have hq1 : out ++ [] = (rcs l m (nxA l a n)).1 := hq1
    rw [List.append_nil] at hq1
    have hq2 : b = (rcs l m (nxA l a n)).2 := hq2
    refine Ob.mk rfl ?_
    refine ⟨1, [tp l b], Nat.le_refl 1, (show (1 : Nat) ≤ 2 by decide), rfl, rfl, WkS.refl _, ?_⟩
    show K (.p (.sl .shr 2 (((out.map rec2).drop 0).take (out.map rec2).length))) _
    rw [List.drop_zero, List.take_length, hq1, hq2]
    exact h
end Go.Proofs.YtjhgmaephpadpaaGreat.AW


open Go Go.Proofs.YtjhgmaephpadpaaGreat.AW Go.Proofs
namespace Go.Proofs.YtjhgmaephpadpaaGreat.AW
set_option maxRecDepth 100000
set_option linter.unusedSimpArgs false
set_option linter.unusedVariables false

/-- What a call returns, told with less at any depth. -/
theorem Cal.weakD {P : Program} {f : Nat} {args : List AV} {s : Store} {K : AV → Store → Prop} (h : Cal P f args s fun r s' => ∃ p q, r = .p p ∧ WkD p q ∧ K (.p q) s') : Cal P f args s K := by
  unfold Cal at h ⊢
  refine fun w g vs h1 hG h2 h3 => (h w g vs h1 hG h2 h3).mono fun e w' hpost => ?_
  obtain ⟨r, v, s', g', h4, ⟨p, q, rfl, hw, hk⟩, h5, h6, h7⟩ := hpost
  exact ⟨_, v, s', g', h4, hk, h5, .p _ _ (hw.rep h6.inv_p), h7⟩

/-! ### A batch of a tape -/
structure Bt where
  base : Int
  prod : Int
  epoch : Int
  seq : Int
  txn : Bool
  mark : Int
  recs : List KV
def rcP (r : List KV) : PV := .sl .shr 2 (r.map rec2)
def Bt.pv (b : Bt) : PV := .agg [ii b.base, ii b.prod, ii b.epoch, ii b.seq, .bool b.txn, ii b.mark, rcP b.recs]
def btR (l : List Int) (a : Nat) (base : Int) : Bt × Nat :=
  if nxV l a 4 - 1 < 0 then (⟨base, nxV l a 4 - 1, -1, -1, false, 0, rcsV l (nxA l a 4) 4⟩, rcsA l (nxA l a 4) 4)
  else if nxV l (nxA l (nxA l a 4) 3) 4 = 0 then (⟨base, nxV l a 4 - 1, nxV l (nxA l a 4) 3, -1, true, 1 + nxV l (nxA l (nxA l (nxA l a 4) 3) 4) 2, []⟩, nxA l (nxA l (nxA l (nxA l a 4) 3) 4) 2)
  else
    let a3 := nxA l (nxA l (nxA l a 4) 3) 4
    let a5 := nxA l (nxA l a3 6) 2
    let a6 := rcsA l a5 4
    if nxV l a6 9 = 0 then (⟨base, nxV l a 4 - 1, nxV l (nxA l a 4) 3, 2147483647 - nxV l (nxA l a6 9) 3, nxV l (nxA l a3 6) 2 == 0, 0, rcsV l a5 4⟩, nxA l (nxA l a6 9) 3)
    else (⟨base, nxV l a 4 - 1, nxV l (nxA l a 4) 3, nxV l a3 6, nxV l (nxA l a3 6) 2 == 0, 0, rcsV l a5 4⟩, nxA l a6 9)
theorem rcsA_le {l : List Int} {a : Nat} {n : Int} (h : a ≤ l.length) : rcsA l a n ≤ l.length := rcs_le _ _ (nxA_le h)

attribute [local irreducible] nxV nxA rcsV rcsA in
set_option maxHeartbeats 4000000 in
theorem batch_c (l : List Int) (a : Nat) (base : Int) (hl : l.length ≤ 9223372036854775807) (ha : a ≤ l.length) (K : AV → Store → Prop) (h : K (.p (btR l a base).1.pv) [tp l (btR l a base).2]) :
    Cal Tryz.prog 19 [.ref 0 0, .p (ii base)] [tp l a] K := by
  refine Cal.cut ?_
  refine Cal.weakD ?_
  refine Cal.intro Tryz.func19 (by decide +kernel) rfl rfl ?_
  have a1 := nxA_le (n := 4) ha
  have a2 := nxA_le (n := 3) a1
  have a3 := nxA_le (n := 4) a2
  obtain ⟨p1, p2⟩ := nxV_in (l := l) (a := a) (n := 4) (by decide)
  have ep : IntKind.i64.wrap (nxV l a 4 - 1) = nxV l a 4 - 1 := by rw [wrap_i64] <;> omega
  refine Cal.frameK [0] (next_c l a 4 hl ha _ fun _ => ?_) rfl rfl rfl
  refine Ob.mk (okst rfl rfl rfl) ?_
  by_cases hp : nxV l a 4 - 1 < 0
  · unfold btR at h
    rw [if_pos hp] at h
    refine Br.t (decide_eq_true (show IntKind.i64.wrap (nxV l a 4 - 1) < 0 by rw [ep]; exact hp)) ?_
    refine Cal.frameK [0] (recs_c l (nxA l a 4) 4 hl a1 (by decide) _ fun _ => ?_) rfl rfl rfl
    iterate 4 refine Ob.mk (okst rfl rfl rfl) ?_
    refine ⟨_, _, rfl, .refl _, 1, [tp l (rcsA l (nxA l a 4) 4)], Nat.le_refl 1, (show (1 : Nat) ≤ 3 by decide), rfl, rfl, WkS.refl _, ?_⟩
    rw [← ep] at h
    exact h
  · refine Br.f (decide_eq_false (show ¬ IntKind.i64.wrap (nxV l a 4 - 1) < 0 by rw [ep]; exact hp)) ?_
    unfold btR at h
    rw [if_neg hp] at h
    refine Cal.frameK [0] (next_c l (nxA l a 4) 3 hl a1 _ fun _ => ?_) rfl rfl rfl
    refine Ob.mk (okst rfl rfl rfl) ?_
    refine Cal.frameK [0] (next_c l (nxA l (nxA l a 4) 3) 4 hl a2 _ fun _ => ?_) rfl rfl rfl
    by_cases hz : nxV l (nxA l (nxA l a 4) 3) 4 = 0
    · rw [if_pos hz] at h
      refine Br.t (show (nxV l (nxA l (nxA l a 4) 3) 4 == 0) = true by rw [hz]; rfl) ?_
      refine Cal.frameK [0] (next_c l (nxA l (nxA l (nxA l a 4) 3) 4) 2 hl a3 _ fun _ => ?_) rfl rfl rfl
      obtain ⟨m1, m2⟩ := nxV_in (l := l) (a := nxA l (nxA l (nxA l a 4) 3) 4) (n := 2) (by decide)
      have em : IntKind.i64.wrap (1 + nxV l (nxA l (nxA l (nxA l a 4) 3) 4) 2) = 1 + nxV l (nxA l (nxA l (nxA l a 4) 3) 4) 2 := by rw [wrap_i64] <;> omega
      iterate 4 refine Ob.mk (okst rfl rfl rfl) ?_
      refine ⟨_, _, rfl, .agg _ _ (.cons _ _ _ _ (.refl _) (.cons _ _ _ _ (.refl _) (.cons _ _ _ _ (.refl _) (.cons _ _ _ _ (.refl _) (.cons _ _ _ _ (.refl _) (.cons _ _ _ _ (.refl _) (.cons _ _ _ _ (.nil 0 .shr 2) .nil))))))), 1, [tp l (nxA l (nxA l (nxA l (nxA l a 4) 3) 4) 2)], Nat.le_refl 1, (show (1 : Nat) ≤ 3 by decide), rfl, rfl, WkS.refl _, ?_⟩
      rw [← ep, ← em] at h
      exact h
    · rw [if_neg hz] at h
      refine Br.f (show (nxV l (nxA l (nxA l a 4) 3) 4 == 0) = false by simpa using hz) ?_
      obtain ⟨b3, hb3⟩ : ∃ b3, b3 = nxA l (nxA l (nxA l a 4) 3) 4 := ⟨_, rfl⟩
      rw [← hb3] at a3 h ⊢
      have a4 := nxA_le (n := 6) a3
      have a5 := nxA_le (n := 2) a4
      have a6 := rcsA_le (n := 4) a5
      have a7 := nxA_le (n := 9) a6
      refine Cal.frameK [0] (next_c l b3 6 hl a3 _ fun _ => ?_) rfl rfl rfl
      refine Cal.frameK [0] (next_c l (nxA l b3 6) 2 hl a4 _ fun _ => ?_) rfl rfl rfl
      refine Cal.frameK [0] (recs_c l (nxA l (nxA l b3 6) 2) 4 hl a5 (by decide) _ fun _ => ?_) rfl rfl rfl
      iterate 3 refine Ob.mk (okst rfl rfl rfl) ?_
      refine Cal.frameK [0] (next_c l (rcsA l (nxA l (nxA l b3 6) 2) 4) 9 hl a6 _ fun _ => ?_) rfl rfl rfl
      by_cases hs : nxV l (rcsA l (nxA l (nxA l b3 6) 2) 4) 9 = 0
      · simp only [hs, if_true] at h
        refine Br.t (show (nxV l (rcsA l (nxA l (nxA l b3 6) 2) 4) 9 == 0) = true by rw [hs]; rfl) ?_
        refine Cal.frameK [0] (next_c l (nxA l (rcsA l (nxA l (nxA l b3 6) 2) 4) 9) 3 hl a7 _ fun _ => ?_) rfl rfl rfl
        obtain ⟨m1, m2⟩ := nxV_in (l := l) (a := nxA l (rcsA l (nxA l (nxA l b3 6) 2) 4) 9) (n := 3) (by decide)
        have em : IntKind.i64.wrap (2147483647 - nxV l (nxA l (rcsA l (nxA l (nxA l b3 6) 2) 4) 9) 3) = 2147483647 - nxV l (nxA l (rcsA l (nxA l (nxA l b3 6) 2) 4) 9) 3 := by rw [wrap_i64] <;> omega
        iterate 2 refine Ob.mk (okst rfl rfl rfl) ?_
        refine ⟨_, _, rfl, .refl _, 1, [tp l (nxA l (nxA l (rcsA l (nxA l (nxA l b3 6) 2) 4) 9) 3)], Nat.le_refl 1, (show (1 : Nat) ≤ 3 by decide), rfl, rfl, WkS.refl _, ?_⟩
        rw [← ep, ← em] at h
        exact h
      · simp only [hs, if_false] at h
        refine Br.f (show (nxV l (rcsA l (nxA l (nxA l b3 6) 2) 4) 9 == 0) = false by simpa using hs) ?_
        refine Ob.mk (okst rfl rfl rfl) ?_
        refine ⟨_, _, rfl, .refl _, 1, [tp l (nxA l (rcsA l (nxA l (nxA l b3 6) 2) 4) 9)], Nat.le_refl 1, (show (1 : Nat) ≤ 3 by decide), rfl, rfl, WkS.refl _, ?_⟩
        rw [← ep] at h
        exact h
end Go.Proofs.YtjhgmaephpadpaaGreat.AW


open Go Go.Proofs.YtjhgmaephpadpaaGreat.AW Go.Proofs
namespace Go.Proofs.YtjhgmaephpadpaaGreat.AW
set_option maxRecDepth 100000
set_option linter.unusedSimpArgs false
set_option linter.unusedVariables false

/-! ### Small questions about a batch -/
theorem rcP_len (r : List KV) : (r.map rec2).length = r.length := List.length_map ..
def cntV (b : Bt) : Int := if b.mark != 0 then 1 else b.recs.length
theorem count_c (b : Bt) (s : Store) (K : AV → Store → Prop) (h : K (.p (ii (cntV b))) s) : Cal Tryz.prog 66 [.p b.pv] s K := by
  refine Cal.pure (args := [b.pv]) ?_
  refine Cal.intro Tryz.func66 (by decide +kernel) rfl rfl ?_
  unfold cntV at h
  cases hm : (b.mark != 0) with
  | true =>
    rw [hm] at h
    refine Br.t hm ?_
    exact h
  | false =>
    rw [hm] at h
    refine Br.f hm ?_
    show K (.p (ii ((b.recs.map rec2).length : Nat))) s
    rw [rcP_len]; exact h
def headV (b : Bt) : Bool := decide (b.prod ≥ 0) && (decide (b.epoch ≥ 0) && decide (b.epoch ≤ 32767))
theorem head_c (b : Bt) (s : Store) (K : AV → Store → Prop) (h : K (.p (.bool (headV b))) s) : Cal Tryz.prog 97 [.p b.pv] s K := by
  refine Cal.pure (args := [b.pv]) ?_
  refine Cal.intro Tryz.func97 (by decide +kernel) rfl rfl ?_
  unfold headV at h
  cases h1 : decide (b.prod ≥ 0) with
  | false =>
    rw [h1] at h
    have h1b : (decide (b.prod ≥ 0) == true) = false := by rw [h1]; rfl
    iterate 3 refine Br.f h1b ?_
    refine Br.f h1 ?_
    iterate 3 refine Br.f rfl ?_
    refine Br.f rfl ?_
    exact h
  | true =>
    rw [h1] at h
    have h1b : (decide (b.prod ≥ 0) == true) = true := by rw [h1]; rfl
    iterate 3 refine Br.t h1b ?_
    refine Br.t h1 ?_
    cases h2 : decide (b.epoch ≥ 0) with
    | false =>
      rw [h2] at h
      iterate 3 refine Br.f rfl ?_
      refine Br.f rfl ?_
      exact h
    | true =>
      rw [h2] at h
      iterate 3 refine Br.t rfl ?_
      refine Br.t rfl ?_
      exact h
def seqV (n : Int) : Bool := decide (n ≥ 0) && decide (n ≤ 2147483647)
theorem seq_c (n : Int) (s : Store) (K : AV → Store → Prop) (h : K (.p (.bool (seqV n))) s) : Cal Tryz.prog 98 [.p (ii n)] s K := by
  refine Cal.pure (args := [ii n]) ?_
  refine Cal.intro Tryz.func98 (by decide +kernel) rfl rfl ?_
  unfold seqV at h
  cases h1 : decide (n ≥ 0) with
  | false =>
    rw [h1] at h
    have h1b : (decide (n ≥ 0) == true) = false := by rw [h1]; rfl
    iterate 2 refine Br.f h1b ?_
    refine Br.f h1 ?_
    exact h
  | true =>
    rw [h1] at h
    have h1b : (decide (n ≥ 0) == true) = true := by rw [h1]; rfl
    iterate 2 refine Br.t h1b ?_
    refine Br.t h1 ?_
    exact h
theorem seq2_c (n : Int) (s : Store) (K : AV → Store → Prop) (h : K (.p (.bool (seqV n))) s) : Cal Tryz.prog 122 [.p (ii n)] s K := by
  refine Cal.pure (args := [ii n]) ?_
  refine Cal.intro Tryz.func122 (by decide +kernel) rfl rfl ?_
  unfold seqV at h
  cases h1 : decide (n ≥ 0) with
  | false =>
    rw [h1] at h
    have h1b : (decide (n ≥ 0) == true) = false := by rw [h1]; rfl
    iterate 2 refine Br.f h1b ?_
    refine Br.f h1 ?_
    exact h
  | true =>
    rw [h1] at h
    have h1b : (decide (n ≥ 0) == true) = true := by rw [h1]; rfl
    iterate 2 refine Br.t h1b ?_
    refine Br.t h1 ?_
    exact h

/-- Where a row ends. -/
def rowP (L : List Bt) : PV := .sl .shr 7 (L.map Bt.pv)
end Go.Proofs.YtjhgmaephpadpaaGreat.AW

open Go Go.Proofs.YtjhgmaephpadpaaGreat.AW Go.Proofs
namespace Go.Proofs.YtjhgmaephpadpaaGreat.AW
set_option maxRecDepth 100000
set_option linter.unusedSimpArgs false
set_option linter.unusedVariables false

theorem Br.mkT {x : Bool} {A B : Prop} (h : x = true → A) (k : x = false → B) : Br (x == true) A B := Br.mk (fun c => h (by simpa using c)) (fun c => k (by simpa using c))
theorem Br.mkF {x : Bool} {A B : Prop} (h : x = false → A) (k : x = true → B) : Br (x == false) A B := Br.mk (fun c => h (by simpa using c)) (fun c => k (by simpa using c))

/-! ### Bytes of numbers -/
def bsl (a : List UInt8) : PV := .sl .shr 1 (bytesP a)
theorem bytesP_len (a : List UInt8) : (bytesP a).length = a.length := by simp [bytesP]
theorem bytesP_app (a b : List UInt8) : bytesP (a ++ b) = bytesP a ++ bytesP b := by simp [bytesP]
theorem cut_all {xs : List PV} : (xs.drop 0).take xs.length = xs := by rw [List.drop_zero, List.take_length]
/-- A buffer of bytes that is owned. -/
def bu (b : List UInt8) : Option AObj := some (.buf 1 (bytesP b) (some 5))
def ob (id : Nat) (b : List UInt8) : AV := .osl id (bytesP b).length 0 (bytesP b).length
theorem o_of_t1 {P : Program} {f : Nat} {b : List UInt8} {x : PV} {v : AV} {s : Store} (hf : ∃ fn, P.funcs[f]? = some fn ∧ (fn.name == "runtime.NumGoroutine") = false ∧ fn.body.isSome = true) (h : ∀ K, K v s → Cal P f [.p (bsl b), .p x] [] K) (K : AV → Store → Prop)
    (hk : renK (place [] 1) v fun r' => mergeK (place [] 1) [] [none] s fun s'' => K r' s'') : Cal P f [ob 0 b, .p x] [bu b] K := by
  refine Cal.freeze ?_ hf
  refine Ob.mk rfl ?_
  show Cal P f [.p (.sl .shr 1 (((bytesP b).drop 0).take (bytesP b).length)), .p x] [none] K
  rw [cut_all]
  exact Cal.frameK [] (h _ fun _ => hk) rfl rfl rfl
def u8 (n : Int) : UInt8 := UInt8.ofNat (n % 256).toNat
theorem u8_w (n : Int) : IntKind.u8.wrap n = ((u8 n).toNat : Int) := by
  unfold u8
  rw [IntKind.wrap_u8, UInt8.toNat_ofNat']
  omega
theorem u8_eq {m n : Int} (h : m % 256 = n % 256) : u8 m = u8 n := by unfold u8; rw [h]
theorem fd (x : Int) (k : Nat) : x.fdiv (2 ^ k) = x / 2 ^ k := Int.fdiv_eq_ediv_of_nonneg x (Int.pow_nonneg (by decide))

/-- A number of eight bytes: its first j. -/
def lgL (n : Int) (j : Nat) : List UInt8 := (List.range j).map fun i => u8 (n.fdiv (2 ^ (56 - 8 * i)))
def lgB (n : Int) : List UInt8 := lgL n 8
theorem lgL_len (n : Int) (j : Nat) : (lgL n j).length = j := by simp [lgL]
theorem lgB_len (n : Int) : (lgB n).length = 8 := lgL_len n 8
theorem lgL_succ (n : Int) (j : Nat) : lgL n (j + 1) = lgL n j ++ [u8 (n.fdiv (2 ^ (56 - 8 * j)))] := by simp [lgL, List.range_succ]
/-- The same of the number without its sign. -/
theorem u8_u64 (n : Int) {j : Nat} (h : j < 8) : u8 ((IntKind.u64.wrap n).fdiv (2 ^ (56 - 8 * j))) = u8 (n.fdiv (2 ^ (56 - 8 * j))) := by
  refine u8_eq ?_
  rw [fd, fd, IntKind.wrap_u64]
  have : j = 0 ∨ j = 1 ∨ j = 2 ∨ j = 3 ∨ j = 4 ∨ j = 5 ∨ j = 6 ∨ j = 7 := by omega
  rcases this with rfl | rfl | rfl | rfl | rfl | rfl | rfl | rfl <;> simp only [Nat.mul_zero, Nat.sub_zero, Nat.reduceMul, Nat.reduceSub, Int.reducePow] <;> omega

/-- A number of few bytes. -/
def putL : Nat → Int → List UInt8
  | 0, _ => []
  | f + 1, v => if 128 ≤ v then u8 (bits .or .u8 (IntKind.u8.wrap v) 128) :: putL f (v.fdiv 128) else [u8 v]
def zz (n : Int) : Int := bits .xor .u64 (IntKind.u64.wrap (n * 2)) (IntKind.u64.wrap (n.fdiv (2 ^ 63)))
def putB (n : Int) : List UInt8 := putL 10 (zz n)
theorem putL_le : ∀ (f : Nat) (v : Int), (putL f v).length ≤ f
  | 0, _ => Nat.le_refl _
  | f + 1, v => by
    unfold putL
    split
    · rw [List.length_cons]; have := putL_le f (v.fdiv 128); omega
    · show 1 ≤ _; omega
theorem putB_le (n : Int) : (putB n).length ≤ 10 := putL_le _ _
theorem bits_u64 (op : BinOp) (x y : Int) : 0 ≤ bits op .u64 x y ∧ bits op .u64 x y < 18446744073709551616 := by
  unfold bits; simp only [IntKind.wrap_u64]; omega
theorem zz_in (n : Int) : 0 ≤ zz n ∧ zz n < 18446744073709551616 := bits_u64 _ _ _
theorem zz1 (n : Int) : IntKind.u64.wrap (IntKind.i64.wrap (n * 2 ^ (min (1 : Int).toNat IntKind.i64.bits))) = IntKind.u64.wrap (n * 2) := by
  show IntKind.u64.wrap (IntKind.i64.wrap (n * 2 ^ 1)) = _
  simp only [IntKind.wrap_u64, IntKind.wrap_i64]; omega
theorem zz2 (n : Int) : IntKind.u64.wrap (IntKind.u64.wrap n * 2 ^ (min (1 : Int).toNat IntKind.u64.bits)) = IntKind.u64.wrap (n * 2) := by
  show IntKind.u64.wrap (IntKind.u64.wrap n * 2 ^ 1) = _
  simp only [IntKind.wrap_u64]; omega

def txB (s : List UInt8) : List UInt8 := putB (s.length : Nat) ++ s
theorem txB_le (s : List UInt8) : (txB s).length ≤ s.length + 10 := by unfold txB; rw [List.length_append]; have := putB_le (s.length : Nat); omega

/-! ### A sum of 32 bits -/
def stC (c : Int) : Int := if bits .and .u32 c 1 = 1 then bits .xor .u32 (c.fdiv 2) 2197175160 else c.fdiv 2
def stN : Nat → Int → Int
  | 0, c => c
  | j + 1, c => stC (stN j c)
def nxC (c : Int) (b : UInt8) : Int := stN 8 (bits .xor .u32 c (b.toNat : Int))
def u32in (c : Int) : Prop := 0 ≤ c ∧ c < 4294967296
theorem bits_u32 (op : BinOp) (x y : Int) : u32in (bits op .u32 x y) := by
  unfold bits u32in; simp only [IntKind.wrap_u32]; omega
theorem stC_in {c : Int} (h : u32in c) : u32in (stC c) := by
  unfold stC
  split
  · exact bits_u32 _ _ _
  · unfold u32in at *
    have : c.fdiv 2 = c / 2 := Int.fdiv_eq_ediv_of_nonneg c (by decide)
    omega
theorem stN_in : ∀ (j : Nat) {c : Int}, u32in c → u32in (stN j c)
  | 0, _, h => h
  | j + 1, _, h => stC_in (stN_in j h)
theorem nxC_in (c : Int) (b : UInt8) : u32in (nxC c b) := stN_in _ (bits_u32 _ _ _)
theorem u32_nat {x : Int} (h : u32in x) : ∃ n : Nat, n < 4294967296 ∧ x = (n : Int) := ⟨x.toNat, by unfold u32in at h; omega, by unfold u32in at h; omega⟩
theorem and_one {c : Int} (h : u32in c) : bits .and .u32 c 1 = c % 2 := by
  obtain ⟨n, hn, rfl⟩ := u32_nat h
  unfold bits
  show IntKind.u32.wrap (((BitVec.ofInt 32 (n : Int) &&& BitVec.ofInt 32 1).toNat : Nat) : Int) = _
  rw [BitVec.toNat_and]
  have e1 : (BitVec.ofInt 32 (n : Int)).toNat = n := by simp [BitVec.toNat_ofInt]; omega
  have e2 : (BitVec.ofInt 32 (1 : Int)).toNat = 1 := by decide
  rw [e1, e2, Nat.and_one_is_mod, IntKind.wrap_u32]
  omega
theorem xor_zero {c : Int} (h : u32in c) : bits .xor .u32 c 0 = c := by
  obtain ⟨n, hn, rfl⟩ := u32_nat h
  unfold bits
  show IntKind.u32.wrap (((BitVec.ofInt 32 (n : Int) ^^^ BitVec.ofInt 32 0).toNat : Nat) : Int) = _
  rw [BitVec.toNat_xor]
  have e1 : (BitVec.ofInt 32 (n : Int)).toNat = n := by simp [BitVec.toNat_ofInt]; omega
  have e2 : (BitVec.ofInt 32 (0 : Int)).toNat = 0 := by decide
  rw [e1, e2, Nat.xor_zero, IntKind.wrap_u32]
  omega
/-- The step, without a question. -/
theorem stC_mul {c : Int} (h : u32in c) : bits .xor .u32 (c.fdiv 2) (IntKind.u32.wrap (2197175160 * bits .and .u32 c 1)) = stC c := by
  unfold stC
  have hd : u32in (c.fdiv 2) := by
    have : c.fdiv 2 = c / 2 := Int.fdiv_eq_ediv_of_nonneg c (by decide)
    unfold u32in at *; omega
  rw [and_one h]
  have h2 : c % 2 = 0 ∨ c % 2 = 1 := by omega
  rcases h2 with h2 | h2
  · rw [h2, if_neg (by decide)]
    exact xor_zero hd
  · rw [h2, if_pos rfl]
    rfl
def foC (c : Int) (b : List UInt8) : Int := b.foldl nxC c
theorem foC_in {c : Int} (h : u32in c) : ∀ (b : List UInt8), u32in (foC c b)
  | [] => h
  | x :: r => foC_in (nxC_in c x) r
def crcV (b : List UInt8) : Int := bits .xor .u32 4294967295 (foC 4294967295 b)
def sumB (b : List UInt8) : List UInt8 := [u8 (crcV b), u8 ((crcV b).fdiv (2 ^ 8)), u8 ((crcV b).fdiv (2 ^ 16)), u8 ((crcV b).fdiv (2 ^ 24))]
def sealB (b : List UInt8) : List UInt8 := sumB b ++ b
theorem sealB_len (b : List UInt8) : (sealB b).length = b.length + 4 := by unfold sealB sumB; simp

/-! ### A batch as bytes -/
def flB (b : Bt) : UInt8 := if b.txn then u8 (IntKind.u8.wrap (IntKind.i64.wrap (2 * b.mark)) + 1) else u8 (IntKind.i64.wrap (2 * b.mark))
def rcB (q : KV) : List UInt8 := txB q.1 ++ txB q.2
def inB (b : Bt) : List UInt8 := [flB b] ++ lgB b.prod ++ [u8 (b.epoch.fdiv (2 ^ 8)), u8 b.epoch] ++ lgB b.seq ++ [u8 b.recs.length] ++ b.recs.flatMap rcB
def n4B (n : Int) : List UInt8 := [u8 (n.fdiv (2 ^ 24)), u8 (n.fdiv (2 ^ 16)), u8 (n.fdiv (2 ^ 8)), u8 n]
def wrB (b : Bt) : List UInt8 := lgB b.base ++ n4B ((sealB (inB b)).length : Nat) ++ sealB (inB b)
theorem inB_len (b : Bt) : (inB b).length = 20 + (b.recs.flatMap rcB).length := by unfold inB; simp [lgB, lgL_len]; omega
theorem wrB_len (b : Bt) : (wrB b).length = 36 + (b.recs.flatMap rcB).length := by
  unfold wrB; simp only [List.length_append, sealB_len, inB_len]; simp [lgB, lgL_len, n4B]; omega
theorem rcB_le (q : KV) : (rcB q).length ≤ q.1.length + q.2.length + 20 := by unfold rcB; rw [List.length_append]; have := txB_le q.1; have := txB_le q.2; omega
theorem rcBs_le {M : Nat} : ∀ {l : List KV}, (∀ q, q ∈ l → q.1.length + q.2.length ≤ M) → (l.flatMap rcB).length ≤ l.length * (M + 20)
  | [], _ => by simp
  | q :: r, h => by
    rw [List.flatMap_cons, List.length_append, List.length_cons, Nat.succ_mul]
    have h1 := rcB_le q
    have h2 := h q (List.mem_cons_self ..)
    have h3 := rcBs_le (M := M) (l := r) fun q hq => h q (List.mem_cons_of_mem _ hq)
    omega
end Go.Proofs.YtjhgmaephpadpaaGreat.AW


open Go Go.Proofs.YtjhgmaephpadpaaGreat.AW Go.Proofs
namespace Go.Proofs.YtjhgmaephpadpaaGreat.AW
set_option maxRecDepth 100000
set_option linter.unusedSimpArgs false
set_option linter.unusedVariables false

/-! ### Bytes by the document -/
set_option maxHeartbeats 4000000 in
theorem long_t (b : List UInt8) (n : Int) (hb : b.length ≤ 1000000) (K : AV → Store → Prop) (h : K (ob 0 (b ++ lgB n)) [bu (b ++ lgB n)]) : Cal Tryz.prog 99 [.p (bsl b), .p (ii n)] [] K := by
  refine Cal.intro Tryz.func99 (by decide +kernel) rfl rfl ?_
  refine Or.inr ?_
  refine Ob.mk ⟨rfl, rfl, rfl, ?_⟩ ?_
  · show (0 + (bytesP b).length) * 1 ≤ _
    rw [bytesP_len]; omega
  refine LoopX.fam [1, 5, 6] (fun (j : Nat) => ([(1, .p (ii n)), (5, .osl 0 (bytesP (b ++ lgL n j)).length 0 (bytesP (b ++ lgL n j)).length), (6, .p (ii (56 - 8 * (j : Int))))], [some (.buf 1 (bytesP (b ++ lgL n j)) (some 5))]))
    (fun j => j ≤ 8) (fun j => 8 - j) 0 (by omega) (Trim.mk' ?_ ?_ rfl rfl (Nat.le_refl _)) ?_
  · show _ = [_, (5, AV.osl 0 (bytesP (b ++ [])).length 0 (bytesP (b ++ [])).length), _]
    rw [List.append_nil]; rfl
  · show _ = [some (AObj.buf 1 (bytesP (b ++ [])) (some 5))]
    rw [List.append_nil]; rfl
  intro j hj
  refine Br.mk (fun hc => ?_) (fun hc => ?_)
  · have hc : 56 - 8 * (j : Int) ≥ 0 := of_decide_eq_true hc
    have e1 : IntKind.i64.wrap (56 - 8 * (j : Int) - 8) = 56 - 8 * ((j + 1 : Nat) : Int) := by rw [wrap_i64] <;> omega
    have e2 : IntKind.u64.wrap (56 - 8 * (j : Int)) = 56 - 8 * (j : Int) := by rw [IntKind.wrap_u64]; omega
    refine Ob.mk (show (0 : Int) ≤ IntKind.u64.wrap (56 - 8 * (j : Int)) by rw [e2]; exact hc) ?_
    have e3 : min (IntKind.u64.wrap (56 - 8 * (j : Int))).toNat IntKind.i64.bits = 56 - 8 * j := by rw [e2]; show min _ 64 = _; omega
    have e4 : IntKind.u8.wrap (n.fdiv (2 ^ (min (IntKind.u64.wrap (56 - 8 * (j : Int))).toNat IntKind.i64.bits))) = ((u8 (n.fdiv (2 ^ (56 - 8 * j)))).toNat : Int) := by rw [e3, u8_w]
    refine Or.inl ?_
    refine Ob.mk ⟨rfl, rfl, rfl, ?_⟩ ?_
    · show ((bytesP (b ++ lgL n j)).length + 1) * 1 ≤ _
      rw [bytesP_len, List.length_append, lgL_len]; omega
    have e5 : bytesP (b ++ lgL n (j + 1)) = bytesP (b ++ lgL n j) ++ [PV.int .u8 (IntKind.u8.wrap (n.fdiv (2 ^ (min (IntKind.u64.wrap (56 - 8 * (j : Int))).toNat IntKind.i64.bits))))] := by
      rw [e4, lgL_succ, ← List.append_assoc, bytesP_app (b ++ lgL n j)]; rfl
    refine ⟨j + 1, by show j + 1 ≤ 8; omega, by show 8 - (j + 1) < 8 - j; omega, Nat.le_refl _, Trim.mk' ?_ ?_ rfl rfl (Nat.le_refl _)⟩
    · refine Eq.trans (b := [_, (5, AV.osl 0 (bytesP (b ++ lgL n j) ++ [PV.int .u8 (IntKind.u8.wrap (n.fdiv (2 ^ (min (IntKind.u64.wrap (56 - 8 * (j : Int))).toNat IntKind.i64.bits))))]).length 0 (bytesP (b ++ lgL n j) ++ [PV.int .u8 (IntKind.u8.wrap (n.fdiv (2 ^ (min (IntKind.u64.wrap (56 - 8 * (j : Int))).toNat IntKind.i64.bits))))]).length), (6, AV.p (ii (IntKind.i64.wrap (56 - 8 * (j : Int) - 8))))]) rfl ?_
      rw [e1, ← e5]; rfl
    · show [some (AObj.buf 1 (bytesP (b ++ lgL n j) ++ [PV.int .u8 (IntKind.u8.wrap (n.fdiv (2 ^ (min (IntKind.u64.wrap (56 - 8 * (j : Int))).toNat IntKind.i64.bits))))]) (some 5))] = [_]
      rw [← e5]
  · have hc : ¬ 56 - 8 * (j : Int) ≥ 0 := of_decide_eq_false hc
    have hj : j ≤ 8 := hj
    have : j = 8 := by omega
    subst this
    exact h
theorem long_o (b : List UInt8) (n : Int) (hb : b.length ≤ 1000000) (K : AV → Store → Prop) (h : K (ob 1 (b ++ lgB n)) [none, bu (b ++ lgB n)]) : Cal Tryz.prog 99 [ob 0 b, .p (ii n)] [bu b] K :=
  o_of_t1 ⟨_, Tryz.func99, rfl, rfl⟩ (fun K h => long_t b n hb K h) K h

theorem v128 {v : Int} {j : Nat} (h : v * 128 ^ j < 128 ^ 10) (h0 : 128 ≤ v) : j ≤ 8 ∧ v.fdiv 128 * 128 ^ (j + 1) < 128 ^ 10 ∧ 0 ≤ v.fdiv 128 ∧ v.fdiv 128 < v := by
  have hp : (0 : Int) ≤ 128 ^ j := Int.pow_nonneg (by decide)
  have hf : v.fdiv 128 = v / 128 := Int.fdiv_eq_ediv_of_nonneg v (by decide)
  rw [hf]
  refine ⟨?_, ?_, by omega, by omega⟩
  · refine Classical.byContradiction fun hj => ?_
    have h1 : (128 : Int) ^ 9 ≤ 128 ^ j := by
      have h5 : ((128 ^ 9 : Nat) : Int) ≤ ((128 ^ j : Nat) : Int) := Int.ofNat_le.2 (Nat.pow_le_pow_right (by decide) (by omega))
      rw [Int.natCast_pow, Int.natCast_pow] at h5
      exact h5
    have h2 : (128 : Int) * 128 ^ j ≤ v * 128 ^ j := Int.mul_le_mul_of_nonneg_right h0 hp
    have h3 : (128 : Int) * 128 ^ 9 = 128 ^ 10 := by decide
    omega
  · have h1 : v / 128 * 128 ≤ v := by omega
    have h2 := Int.mul_le_mul_of_nonneg_right h1 hp
    have h3 : v / 128 * 128 ^ (j + 1) = v / 128 * 128 * 128 ^ j := by rw [Int.pow_succ, Int.mul_comm (128 ^ j), Int.mul_assoc]
    omega

set_option maxHeartbeats 4000000 in
theorem put_t (b : List UInt8) (n : Int) (hb : b.length ≤ 1000000) (K : AV → Store → Prop) (h : K (ob 0 (b ++ putB n)) [bu (b ++ putB n)]) : Cal Tryz.prog 130 [.p (bsl b), .p (ii n)] [] K := by
  refine Cal.intro Tryz.func130 (by decide +kernel) rfl rfl ?_
  refine Or.inr ?_
  refine Ob.mk ⟨rfl, rfl, rfl, ?_⟩ ?_
  · show (0 + (bytesP b).length) * 1 ≤ _
    rw [bytesP_len]; omega
  refine Ob.mk (by decide) ?_
  refine Ob.mk (by decide) ?_
  refine LoopX.fam [5, 6] (fun (q : List UInt8 × Int) => ([(5, .osl 0 (bytesP q.1).length 0 (bytesP q.1).length), (6, .p (.int .u64 q.2))], [some (.buf 1 (bytesP q.1) (some 5))]))
    (fun q => ∃ j : Nat, j ≤ 9 ∧ q.1.length = b.length + j ∧ q.1 ++ putL (10 - j) q.2 = b ++ putB n ∧ 0 ≤ q.2 ∧ q.2 * 128 ^ j < 128 ^ 10) (fun q => q.2.toNat) (b, zz n) ⟨0, by omega, rfl, rfl, (zz_in n).1, by show zz n * 1 < _; have := (zz_in n).2; omega⟩ (Trim.mk' ?_ rfl rfl rfl (Nat.le_refl _)) ?_
  · rw [show zz n = bits .xor .u64 (IntKind.u64.wrap (IntKind.i64.wrap (n * 2 ^ (min (1 : Int).toNat IntKind.i64.bits)))) (IntKind.u64.wrap (n.fdiv (2 ^ (min (63 : Int).toNat IntKind.i64.bits)))) by rw [zz1]; rfl]
    rfl
  rintro ⟨out, v⟩ ⟨j, hj, hl, he, hv, hvj⟩
  have hl : out.length = b.length + j := hl
  have hv : 0 ≤ v := hv
  have hvj : v * 128 ^ j < 128 ^ 10 := hvj
  have he : out ++ putL (10 - j) v = b ++ putB n := he
  obtain ⟨f, hf⟩ : ∃ f, 10 - j = f + 1 := ⟨9 - j, by omega⟩
  rw [hf] at he
  unfold putL at he
  refine Br.mk (fun hc => ?_) (fun hc => ?_)
  · have hc : v ≥ 128 := of_decide_eq_true hc
    obtain ⟨q1, q2, q3, q4⟩ := v128 hvj hc
    rw [if_pos hc] at he
    have hu : bits .or .u8 (IntKind.u8.wrap v) 128 = ((u8 (bits .or .u8 (IntKind.u8.wrap v) 128)).toNat : Int) := by
      rw [← u8_w]
      unfold bits; simp only [IntKind.wrap_u8]; omega
    refine Or.inl ?_
    refine Ob.mk ⟨rfl, rfl, rfl, ?_⟩ ?_
    · show ((bytesP out).length + 1) * 1 ≤ _
      rw [bytesP_len]; omega
    refine Ob.mk (by decide) ?_
    have e5 : bytesP (out ++ [u8 (bits .or .u8 (IntKind.u8.wrap v) 128)]) = bytesP out ++ [PV.int .u8 (bits .or .u8 (IntKind.u8.wrap v) 128)] := by
      rw [bytesP_app]
      show _ ++ [PV.int .u8 ((u8 (bits .or .u8 (IntKind.u8.wrap v) 128)).toNat : Int)] = _
      rw [← hu]
    refine ⟨(out ++ [u8 (bits .or .u8 (IntKind.u8.wrap v) 128)], v.fdiv 128), ⟨j + 1, by omega, by rw [List.length_append, hl]; rfl, ?_, q3, q2⟩, by show (v.fdiv 128).toNat < v.toNat; omega, Nat.le_refl _, Trim.mk' ?_ ?_ rfl rfl (Nat.le_refl _)⟩
    · show (out ++ [_]) ++ putL (10 - (j + 1)) (v.fdiv 128) = _
      rw [← he, show 10 - (j + 1) = f by omega, List.append_assoc]; rfl
    · refine Eq.trans (b := [(5, AV.osl 0 (bytesP out ++ [PV.int .u8 (bits .or .u8 (IntKind.u8.wrap v) 128)]).length 0 (bytesP out ++ [PV.int .u8 (bits .or .u8 (IntKind.u8.wrap v) 128)]).length), (6, AV.p (.int .u64 (v.fdiv (2 ^ (min (7 : Int).toNat IntKind.u64.bits)))))]) rfl ?_
      rw [← e5]; rfl
    · show [some (AObj.buf 1 (bytesP out ++ [PV.int .u8 (bits .or .u8 (IntKind.u8.wrap v) 128)]) (some 5))] = [_]
      rw [← e5]
  · have hc : ¬ v ≥ 128 := of_decide_eq_false hc
    rw [if_neg hc] at he
    refine Or.inl ?_
    refine Ob.mk ⟨rfl, rfl, rfl, ?_⟩ ?_
    · show ((bytesP out).length + 1) * 1 ≤ _
      rw [bytesP_len]; omega
    have e6 : bytesP out ++ [PV.int .u8 (IntKind.u8.wrap v)] = bytesP (b ++ putB n) := by rw [← he, u8_w, bytesP_app]; rfl
    show K (AV.osl 0 (bytesP out ++ [PV.int .u8 (IntKind.u8.wrap v)]).length 0 (bytesP out ++ [PV.int .u8 (IntKind.u8.wrap v)]).length) [some (AObj.buf 1 (bytesP out ++ [PV.int .u8 (IntKind.u8.wrap v)]) (some 5))]
    rw [e6]
    exact h
theorem text_t (b s : List UInt8) (hb : b.length ≤ 1000000) (hs : s.length ≤ 1000000) (K : AV → Store → Prop) (h : K (ob 0 (b ++ txB s)) [bu (b ++ txB s)]) : Cal Tryz.prog 100 [.p (bsl b), .p (.str s)] [] K := by
  refine Cal.intro Tryz.func100 (by decide +kernel) rfl rfl ?_
  refine Cal.frameK [] (put_t b s.length hb _ fun _ => ?_) rfl rfl rfl
  refine Ob.mk ⟨rfl, rfl, rfl, ?_⟩ ?_
  · show ((bytesP (b ++ putB (s.length : Nat))).length + (bytesP s).length) * 1 ≤ _
    rw [bytesP_len, bytesP_len, List.length_append]; have := putB_le (s.length : Nat); omega
  have e : bytesP (b ++ putB (s.length : Nat)) ++ bytesP s = bytesP (b ++ txB s) := by rw [← bytesP_app, List.append_assoc]; rfl
  show K (AV.osl 0 (bytesP (b ++ putB (s.length : Nat)) ++ bytesP s).length 0 (bytesP (b ++ putB (s.length : Nat)) ++ bytesP s).length) [some (AObj.buf 1 (bytesP (b ++ putB (s.length : Nat)) ++ bytesP s) (some 5))]
  rw [e]
  exact h
theorem text_o (b s : List UInt8) (hb : b.length ≤ 1000000) (hs : s.length ≤ 1000000) (K : AV → Store → Prop) (h : K (ob 1 (b ++ txB s)) [none, bu (b ++ txB s)]) : Cal Tryz.prog 100 [ob 0 b, .p (.str s)] [bu b] K :=
  o_of_t1 ⟨_, Tryz.func100, rfl, rfl⟩ (fun K h => text_t b s hb hs K h) K h

/-! ### The sum -/
def u32v (c : Int) : PV := .int .u32 c
set_option maxHeartbeats 4000000 in
theorem next1_c (c : Int) (x : UInt8) (s : Store) (K : AV → Store → Prop) (h : K (.p (u32v (nxC c x))) s) : Cal Tryz.prog 165 [.p (u32v c), .p (.int .u8 (x.toNat : Int))] s K := by
  refine Cal.pure (args := [u32v c, .int .u8 (x.toNat : Int)]) ?_
  refine Cal.intro Tryz.func165 (by decide +kernel) rfl rfl ?_
  have ex : IntKind.u32.wrap (x.toNat : Int) = (x.toNat : Int) := by rw [IntKind.wrap_u32]; have := x.toNat_lt; omega
  obtain ⟨c0, hc0⟩ : ∃ c0, c0 = bits .xor .u32 c (x.toNat : Int) := ⟨_, rfl⟩
  refine LoopX.fam [0, 5] (fun (j : Nat) => ([(0, .p (u32v (stN j c0))), (5, .p (ii (j : Nat)))], [])) (fun j => j ≤ 8) (fun j => 8 - j) 0 (by omega) (Trim.mk' ?_ rfl rfl rfl (Nat.le_refl _)) ?_
  · show [(0, AV.p (.int .u32 (bits .xor .u32 c (IntKind.u32.wrap (x.toNat : Int))))), _] = _
    rw [ex, ← hc0]; rfl
  intro j hj
  have hj : j ≤ 8 := hj
  refine Br.mk (fun hc => ?_) (fun hc => ?_)
  · have hc : (j : Int) < 8 := of_decide_eq_true hc
    have ej : IntKind.i64.wrap ((j : Int) + 1) = ((j + 1 : Nat) : Int) := by rw [wrap_i64] <;> omega
    refine Ob.mk (by decide) ?_
    have e2 : (stN j c0).fdiv (2 ^ (min (1 : Int).toNat IntKind.u32.bits)) = (stN j c0).fdiv 2 := rfl
    refine Br.mk (fun hl => ?_) (fun hl => ?_)
    · have hl : bits .and .u32 (stN j c0) 1 = 1 := eq_of_beq hl
      refine ⟨j + 1, by show j + 1 ≤ 8; omega, by show 8 - (j + 1) < 8 - j; omega, Nat.le_refl _, Trim.mk' ?_ rfl rfl rfl (Nat.le_refl _)⟩
      refine Eq.trans (b := [(0, AV.p (.int .u32 (bits .xor .u32 ((stN j c0).fdiv (2 ^ (min (1 : Int).toNat IntKind.u32.bits))) 2197175160))), (5, AV.p (ii (IntKind.i64.wrap ((j : Int) + 1))))]) rfl ?_
      rw [ej, e2, show stN (j + 1) c0 = bits .xor .u32 ((stN j c0).fdiv 2) 2197175160 from if_pos hl]; rfl
    · have hl : ¬ bits .and .u32 (stN j c0) 1 = 1 := ne_of_beq_false hl
      refine ⟨j + 1, by show j + 1 ≤ 8; omega, by show 8 - (j + 1) < 8 - j; omega, Nat.le_refl _, Trim.mk' ?_ rfl rfl rfl (Nat.le_refl _)⟩
      refine Eq.trans (b := [(0, AV.p (.int .u32 ((stN j c0).fdiv (2 ^ (min (1 : Int).toNat IntKind.u32.bits))))), (5, AV.p (ii (IntKind.i64.wrap ((j : Int) + 1))))]) rfl ?_
      rw [ej, e2, show stN (j + 1) c0 = (stN j c0).fdiv 2 from if_neg hl]; rfl
  · have hc : ¬ (j : Int) < 8 := of_decide_eq_false hc
    have : j = 8 := by omega
    subst this
    subst hc0
    exact h

theorem getB {b : List UInt8} {j : Nat} (h : j < b.length) : (bytesP b)[((j : Nat) : Int).toNat]? = some (.int .u8 ((b[j]).toNat : Int)) := by
  rw [Int.toNat_natCast]; simp [bytesP, h]
theorem take_succ' {α : Type} {b : List α} {j : Nat} (h : j < b.length) : b.take (j + 1) = b.take j ++ [b[j]] := by
  rw [List.take_succ_eq_append_getElem h]
set_option maxHeartbeats 4000000 in
theorem crc1_c (b : List UInt8) (hb : b.length ≤ 1000000) (s : Store) (K : AV → Store → Prop) (h : K (.p (u32v (crcV b))) s) : Cal Tryz.prog 131 [.p (bsl b)] s K := by
  refine Cal.pure (args := [bsl b]) ?_
  refine Cal.intro Tryz.func131 (by decide +kernel) rfl rfl ?_
  refine LoopX.fam [0, 3, 4] (fun (j : Nat) => ([(0, .p (bsl b)), (3, .p (u32v (foC 4294967295 (b.take j)))), (4, .p (ii (j : Nat)))], [])) (fun j => j ≤ b.length) (fun j => b.length - j) 0 (Nat.zero_le _) (Trim.mk' rfl rfl rfl rfl (Nat.le_refl _)) ?_
  intro j hj
  have hj : j ≤ b.length := hj
  refine Br.mk (fun hc => ?_) (fun hc => ?_)
  · have hc : (j : Int) < ((bytesP b).length : Nat) := of_decide_eq_true hc
    rw [bytesP_len] at hc
    have hj1 : j < b.length := by omega
    have ej : IntKind.i64.wrap ((j : Int) + 1) = ((j + 1 : Nat) : Int) := by rw [wrap_i64] <;> omega
    refine Idx.mk _ (by omega) (getB hj1) ?_
    refine next1_c _ _ _ _ ?_
    refine ⟨j + 1, by show j + 1 ≤ b.length; omega, by show b.length - (j + 1) < b.length - j; omega, Nat.le_refl _, Trim.mk' ?_ rfl rfl rfl (Nat.le_refl _)⟩
    refine Eq.trans (b := [_, (3, AV.p (u32v (nxC (foC 4294967295 (b.take j)) b[j]))), (4, AV.p (ii (IntKind.i64.wrap ((j : Int) + 1))))]) rfl ?_
    rw [ej, show nxC (foC 4294967295 (b.take j)) b[j] = foC 4294967295 (b.take (j + 1)) by rw [take_succ' hj1]; unfold foC; rw [List.foldl_append]; rfl]; rfl
  · have hc : ¬ (j : Int) < ((bytesP b).length : Nat) := of_decide_eq_false hc
    rw [bytesP_len] at hc
    have : j = b.length := by omega
    subst this
    have e : crcV b = bits .xor .u32 4294967295 (foC 4294967295 (b.take b.length)) := by rw [List.take_length]; rfl
    rw [e] at h
    exact h

theorem sealed_t (b : List UInt8) (hb : b.length ≤ 1000000) (K : AV → Store → Prop) (h : K (ob 0 (sealB b)) [bu (sealB b)]) : Cal Tryz.prog 101 [.p (bsl b)] [] K := by
  refine Cal.intro Tryz.func101 (by decide +kernel) rfl rfl ?_
  refine crc1_c b hb _ _ ?_
  iterate 3 refine Ob.mk (by decide) ?_
  refine Or.inr ?_
  refine Ob.mk ⟨rfl, rfl, rfl, ?_⟩ ?_
  · show (4 + (bytesP b).length) * 1 ≤ _
    rw [bytesP_len]; omega
  have e : [PV.int .u8 (IntKind.u8.wrap (crcV b)), .int .u8 (IntKind.u8.wrap ((crcV b).fdiv (2 ^ (min (8 : Int).toNat IntKind.u32.bits)))), .int .u8 (IntKind.u8.wrap ((crcV b).fdiv (2 ^ (min (16 : Int).toNat IntKind.u32.bits)))), .int .u8 (IntKind.u8.wrap ((crcV b).fdiv (2 ^ (min (24 : Int).toNat IntKind.u32.bits))))] ++ bytesP b = bytesP (sealB b) := by
    rw [u8_w, u8_w, u8_w, u8_w]
    show _ = bytesP (sumB b ++ b)
    rw [bytesP_app]; rfl
  rw [show ob 0 (sealB b) = AV.osl 0 (bytesP (sealB b)).length 0 (bytesP (sealB b)).length from rfl, show bu (sealB b) = some (AObj.buf 1 (bytesP (sealB b)) (some 5)) from rfl, ← e] at h
  exact h
/-! ### The same, of buffers as they stand -/
theorem long_x (xs : List PV) (b : List UInt8) (n : Int) (hx : xs = bytesP b) (hb : b.length ≤ 1000000) (K : AV → Store → Prop) (h : K (ob 1 (b ++ lgB n)) [none, bu (b ++ lgB n)]) : Cal Tryz.prog 99 [.osl 0 xs.length 0 xs.length, .p (ii n)] [some (.buf 1 xs (some 5))] K := by
  subst hx; exact long_o b n hb K h
end Go.Proofs.YtjhgmaephpadpaaGreat.AW


open Go Go.Proofs.YtjhgmaephpadpaaGreat.AW Go.Proofs
namespace Go.Proofs.YtjhgmaephpadpaaGreat.AW
set_option maxRecDepth 100000
set_option linter.unusedSimpArgs false
set_option linter.unusedVariables false

/-! ### A batch as bytes, by the document -/
def hdB (b : Bt) : List UInt8 := [flB b] ++ lgB b.prod ++ [u8 (b.epoch.fdiv (2 ^ 8)), u8 b.epoch] ++ lgB b.seq ++ [u8 b.recs.length]
def rcL (b : Bt) (j : Nat) : List UInt8 := hdB b ++ (b.recs.take j).flatMap rcB
theorem rcL_succ (b : Bt) {j : Nat} (h : j < b.recs.length) : rcL b (j + 1) = rcL b j ++ txB b.recs[j].1 ++ txB b.recs[j].2 := by
  unfold rcL
  rw [take_succ' h, List.flatMap_append, List.flatMap_cons, List.flatMap_nil, List.append_nil, ← List.append_assoc, List.append_assoc]; unfold rcB; rw [← List.append_assoc, ← List.append_assoc]
theorem hdB_len (b : Bt) : (hdB b).length = 20 := by unfold hdB; simp [lgB, lgL_len]
/-- A batch whose texts are not endless. -/
def Bt.shrt (b : Bt) : Prop := b.recs.length ≤ 300 ∧ ∀ q, q ∈ b.recs → q.1.length + q.2.length ≤ 2000
theorem rcL_le {b : Bt} (hb : b.shrt) (j : Nat) : (rcL b j).length ≤ 700000 := by
  unfold rcL
  have h1 : ((b.recs.take j).flatMap rcB).length ≤ (b.recs.take j).length * (2000 + 20) := rcBs_le fun q hq => hb.2 q (List.mem_of_mem_take hq)
  have h2 : (b.recs.take j).length ≤ 300 := Nat.le_trans (List.length_take_le' ..) hb.1
  rw [List.length_append, hdB_len]
  omega
theorem flag_v (b : Bt) : (if b.txn then IntKind.u8.wrap (IntKind.u8.wrap (IntKind.i64.wrap (2 * b.mark)) + 1) else IntKind.u8.wrap (IntKind.i64.wrap (2 * b.mark))) = ((flB b).toNat : Int) := by
  unfold flB
  cases b.txn
  · exact u8_w _
  · exact u8_w _
theorem getR {b : Bt} {j : Nat} (h : j < b.recs.length) : (b.recs.map rec2)[((j : Nat) : Int).toNat]? = some (rec2 b.recs[j]) := by
  rw [Int.toNat_natCast]; simp [h]

set_option maxHeartbeats 4000000 in
attribute [local irreducible] lgB sealB sumB crcV in
theorem write_0 (b : Bt) (hb : b.shrt) (K : AV → Store → Prop) (h : K (ob 5 (wrB b)) [some (.cells [.p (ii b.base), .p (ii b.prod), .p (ii b.epoch), .p (ii b.seq), .p (.bool b.txn), .p (ii b.mark), .p (rcP b.recs)]), none, none, none, bu (sealB (inB b)), bu (wrB b)]) : Cal Tryz.prog 68 [.p b.pv] [] K := by
  refine Cal.intro Tryz.func68 (by decide +kernel) rfl rfl ?_
  have hf := flag_v b
  have l1 : ([flB b] ++ lgB b.prod).length = 9 := by simp [lgB, lgL_len]
  have l2 : ([flB b] ++ lgB b.prod ++ [u8 (b.epoch.fdiv (2 ^ 8)), u8 b.epoch]).length = 11 := by simp [lgB, lgL_len]
  have l3 : ([flB b] ++ lgB b.prod ++ [u8 (b.epoch.fdiv (2 ^ 8)), u8 b.epoch] ++ lgB b.seq).length = 19 := by simp [lgB, lgL_len]
  have e1 : bytesP ([flB b] ++ lgB b.prod) ++ [.int .u8 (IntKind.u8.wrap (b.epoch.fdiv (2 ^ (min (8 : Int).toNat IntKind.i64.bits)))), .int .u8 (IntKind.u8.wrap b.epoch)] = bytesP ([flB b] ++ lgB b.prod ++ [u8 (b.epoch.fdiv (2 ^ 8)), u8 b.epoch]) := by
    rw [u8_w, u8_w, bytesP_app (_ ++ _)]; rfl
  have e2 : bytesP ([flB b] ++ lgB b.prod ++ [u8 (b.epoch.fdiv (2 ^ 8)), u8 b.epoch] ++ lgB b.seq) ++ [.int .u8 (IntKind.u8.wrap ((b.recs.map rec2).length : Nat))] = bytesP (hdB b) := by
    rw [u8_w, List.length_map]
    unfold hdB
    rw [bytesP_app (_ ++ lgB b.seq)]; rfl
  refine Br.mk (fun ht => ?_) (fun ht => ?_)
  all_goals
    rw [show b.txn = _ from ht] at hf
    refine Or.inr ?_
    first
      | refine Cal.frameK [1] (long_x [.int .u8 (IntKind.u8.wrap (IntKind.u8.wrap (IntKind.i64.wrap (2 * b.mark)) + 1))] [flB b] b.prod (by rw [show IntKind.u8.wrap (IntKind.u8.wrap (IntKind.i64.wrap (2 * b.mark)) + 1) = _ from hf]; rfl) (show 1 ≤ 1000000 by decide) _ fun _ => ?_) rfl rfl rfl
      | refine Cal.frameK [1] (long_x [.int .u8 (IntKind.u8.wrap (IntKind.i64.wrap (2 * b.mark)))] [flB b] b.prod (by rw [show IntKind.u8.wrap (IntKind.i64.wrap (2 * b.mark)) = _ from hf]; rfl) (show 1 ≤ 1000000 by decide) _ fun _ => ?_) rfl rfl rfl
    refine Ob.mk (by decide) ?_
    refine Or.inl ?_
    refine Ob.mk ⟨rfl, rfl, rfl, ?_⟩ ?_
    · show ((bytesP ([flB b] ++ lgB b.prod)).length + 2) * 1 ≤ _
      rw [bytesP_len, l1]; omega
    iterate 3 refine ⟨_, ⟨rfl, rfl⟩, ?_⟩
    refine .inr <| .inl ⟨[2], _, _, _, _, long_x (bytesP ([flB b] ++ lgB b.prod) ++ [.int .u8 (IntKind.u8.wrap (b.epoch.fdiv (2 ^ (min (8 : Int).toNat IntKind.i64.bits)))), .int .u8 (IntKind.u8.wrap b.epoch)]) _ b.seq e1 (by rw [l2]; omega) _ ⟨rfl, rfl⟩, rfl, rfl, rfl, ?_⟩
    iterate 4 refine ⟨_, ⟨rfl, rfl⟩, ?_⟩
    refine ⟨_, _, Or.inl ⟨rfl, rfl⟩, rfl, ?_⟩
    refine ⟨_, _, Ob.mk ⟨rfl, rfl, rfl, ?_⟩ ⟨rfl, rfl⟩, rfl, ?_⟩
    · show ((bytesP ([flB b] ++ lgB b.prod ++ [u8 (b.epoch.fdiv (2 ^ 8)), u8 b.epoch] ++ lgB b.seq)).length + 1) * 1 ≤ _
      rw [bytesP_len, l3]; omega
    refine ⟨_, ⟨rfl, rfl⟩, ?_⟩
    refine Chk.mk (by kernel_rfl) ?_
    refine LoopX.fam [1, 4, 43, 44, 45] (fun (j : Nat) => ([(1, .ref 0 0), (4, .p (bsl (rcL b j))), (43, .p (rcP b.recs)), (44, .p (ii (b.recs.map rec2).length)), (45, .p (ii (j : Nat)))], [some (.cells [.p (ii b.base), .p (ii b.prod), .p (ii b.epoch), .p (ii b.seq), .p (.bool b.txn), .p (ii b.mark), .p (rcP b.recs)]), none, none, none]))
      (fun j => j ≤ b.recs.length) (fun j => b.recs.length - j) 0 (Nat.zero_le _) (Trim.fz [4] (Ob.mk rfl (TrimO.mk' ?_ rfl rfl rfl (Nat.le_refl _)))) ?_
    · show [_, (4, AV.p (PV.sl .shr 1 (((bytesP ([flB b] ++ lgB b.prod ++ [u8 (b.epoch.fdiv (2 ^ 8)), u8 b.epoch] ++ lgB b.seq) ++ [PV.int .u8 (IntKind.u8.wrap ((b.recs.map rec2).length : Nat))]).drop 0).take (bytesP ([flB b] ++ lgB b.prod ++ [u8 (b.epoch.fdiv (2 ^ 8)), u8 b.epoch] ++ lgB b.seq) ++ [PV.int .u8 (IntKind.u8.wrap ((b.recs.map rec2).length : Nat))]).length))), _, _, _] = [_, (4, AV.p (PV.sl .shr 1 (bytesP (hdB b ++ [])))), _, _, _]
      rw [cut_all, e2, List.append_nil]; rfl
    intro j hj
    have hj : j ≤ b.recs.length := hj
    have hrl : (b.recs.map rec2).length = b.recs.length := List.length_map ..
    refine Br.mk (fun hc => ?_) (fun hc => ?_)
    · have hc : (j : Int) < ((b.recs.map rec2).length : Nat) := of_decide_eq_true hc
      have hj1 : j < b.recs.length := by omega
      have hb0 := hb.1
      have hq := hb.2 _ (List.getElem_mem hj1)
      have ej : IntKind.i64.wrap ((j : Int) + 1) = ((j + 1 : Nat) : Int) := by rw [wrap_i64] <;> omega
      refine Idx.mk _ (by omega) (getR hj1) ?_
      refine Ob.mk (okst rfl rfl rfl) ?_
      iterate 3 refine ⟨_, ⟨rfl, rfl⟩, ?_⟩
      have hle := rcL_le hb j
      refine .inr <| .inl ⟨[], _, _, _, _, text_t _ _ (by omega) (by omega) _ ⟨rfl, rfl⟩, rfl, rfl, rfl, ?_⟩
      iterate 2 refine ⟨_, ⟨rfl, rfl⟩, ?_⟩
      have hle2 : (rcL b j ++ txB b.recs[j].1).length ≤ 1000000 := by rw [List.length_append]; have := txB_le b.recs[j].1; omega
      refine .inr <| .inl ⟨[5], _, _, _, _, text_o _ _ hle2 (by omega) _ ⟨rfl, rfl⟩, rfl, rfl, rfl, ?_⟩
      refine ⟨_, ⟨rfl, rfl⟩, ?_⟩
      refine Chk.mk (by kernel_rfl) ?_
      refine ⟨j + 1, by show j + 1 ≤ b.recs.length; omega, by show b.recs.length - (j + 1) < b.recs.length - j; omega, Nat.le_refl _, Trim.fz [4] (Ob.mk rfl (TrimO.mk' ?_ rfl rfl rfl (show 4 ≤ 7 by decide)))⟩
      have e3 : bytesP (rcL b j ++ txB b.recs[j].1 ++ txB b.recs[j].2) = bytesP (rcL b (j + 1)) := by rw [rcL_succ b hj1]
      refine Eq.trans (b := [_, (4, AV.p (PV.sl .shr 1 (((bytesP (rcL b j ++ txB b.recs[j].1 ++ txB b.recs[j].2)).drop 0).take (bytesP (rcL b j ++ txB b.recs[j].1 ++ txB b.recs[j].2)).length))), _, _, (45, AV.p (ii (IntKind.i64.wrap ((j : Int) + 1))))]) rfl ?_
      rw [cut_all, e3, ej]; rfl
    · have hc : ¬ (j : Int) < ((b.recs.map rec2).length : Nat) := of_decide_eq_false hc
      have : j = b.recs.length := by omega
      subst this
      have e4 : rcL b b.recs.length = inB b := by unfold rcL; rw [List.take_length]; rfl
      have hle := rcL_le hb b.recs.length
      rw [e4] at hle ⊢
      refine Cal.frameK [] (sealed_t _ (by omega) _ fun _ => ?_) rfl rfl rfl
      refine Cal.args (args' := [.p (bsl []), .p (ii b.base)]) ?_ ⟨.nil .shr 1, .refl _, trivial⟩
      refine Cal.frameK [] (long_t [] b.base (Nat.zero_le _) _ fun _ => ?_) rfl rfl rfl
      iterate 3 refine Ob.mk (by decide) ?_
      refine Or.inl ?_
      refine Ob.mk ⟨rfl, rfl, rfl, ?_⟩ ?_
      · show ((bytesP ([] ++ lgB b.base)).length + 4) * 1 ≤ _
        rw [bytesP_len]; simp [lgB, lgL_len]
      refine Ob.mk rfl ?_
      have hsl : (sealB (inB b)).length ≤ 700004 := by rw [sealB_len]; omega
      have e5 : bytesP ([] ++ lgB b.base) ++ [PV.int .u8 (IntKind.u8.wrap ((((bytesP (sealB (inB b))).length : Nat) : Int).fdiv (2 ^ (min (24 : Int).toNat IntKind.i64.bits)))), PV.int .u8 (IntKind.u8.wrap ((((bytesP (sealB (inB b))).length : Nat) : Int).fdiv (2 ^ (min (16 : Int).toNat IntKind.i64.bits)))), PV.int .u8 (IntKind.u8.wrap ((((bytesP (sealB (inB b))).length : Nat) : Int).fdiv (2 ^ (min (8 : Int).toNat IntKind.i64.bits)))), PV.int .u8 (IntKind.u8.wrap (((bytesP (sealB (inB b))).length : Nat) : Int))] ++ (((bytesP (sealB (inB b))).drop 0).take (bytesP (sealB (inB b))).length) = bytesP (wrB b) := by
        rw [cut_all, bytesP_len, u8_w, u8_w, u8_w, u8_w]
        unfold wrB
        rw [bytesP_app (lgB b.base ++ _), bytesP_app (lgB b.base), List.nil_append]; rfl
      refine Ob.mk ⟨rfl, rfl, rfl, ?_⟩ ?_
      · show (List.length (_ ++ _) + List.length (((bytesP (sealB (inB b))).drop 0).take (bytesP (sealB (inB b))).length)) * 1 ≤ _
        rw [List.length_append, cut_all, bytesP_len, bytesP_len, List.nil_append, lgB_len]
        show (8 + 4 + _) * 1 ≤ _
        omega
      rw [show ob 5 (wrB b) = AV.osl 5 (bytesP (wrB b)).length 0 (bytesP (wrB b)).length from rfl, show bu (wrB b) = some (AObj.buf 1 (bytesP (wrB b)) (some 5)) from rfl, ← e5] at h
      exact h
theorem write_c (b : Bt) (hb : b.shrt) (s : Store) (K : AV → Store → Prop) (h : K (.p (bsl (wrB b))) s) : Cal Tryz.prog 68 [.p b.pv] s K := by
  refine Cal.pure (args := [b.pv]) ?_
  refine write_0 b hb _ ?_
  refine Ob.mk rfl ?_
  show K (.p (.sl .shr 1 (((bytesP (wrB b)).drop 0).take (bytesP (wrB b)).length))) s
  rw [cut_all]
  exact h
end Go.Proofs.YtjhgmaephpadpaaGreat.AW


open Go Go.Proofs.YtjhgmaephpadpaaGreat.AW Go.Proofs
namespace Go.Proofs.YtjhgmaephpadpaaGreat.AW
set_option maxRecDepth 100000
set_option linter.unusedSimpArgs false
set_option linter.unusedVariables false

/-! ### May a batch be, by the document -/
def Bt.rl (b : Bt) : Int := ((b.recs.map rec2).length : Nat)
theorem Bt.rl_eq (b : Bt) : b.rl = b.recs.length := by unfold Bt.rl; rw [List.length_map]
def longR (q : KV) : Bool := decide (((q.1.length : Nat) : Int) > 64) || decide (((q.2.length : Nat) : Int) > 64)
def noneV (b : Bt) : Bool := (b.prod == -1) && ((b.epoch == -1) && ((b.seq == -1) && !b.txn))
def plainV (b : Bt) : Int :=
  if (decide (b.base < 0) || decide (b.base > 1099511627776)) = true then 18
  else if (b.mark != 0) = true then (if (((b.mark != 1) && (b.mark != 2)) || (!headV b || ((b.seq != -1) || (!b.txn || decide (b.rl > 0))))) = true then 12 else 0)
  else if ((!(noneV b) && (!headV b || !seqV b.seq)) || (b.rl == 0)) = true then 12
  else if decide (b.rl > 16) = true then 13
  else if b.recs.any longR = true then 13 else 0
set_option maxHeartbeats 4000000 in
theorem plain_c (b : Bt) (s : Store) (K : AV → Store → Prop) (h : K (.p (ii (plainV b))) s) : Cal Tryz.prog 67 [.p b.pv] s K := by
  refine Cal.pure (args := [b.pv]) ?_
  refine Cal.intro Tryz.func67 (by decide +kernel) rfl rfl ?_
  unfold plainV noneV Bt.rl at h
  repeat' (first
    | (apply Br.t; · (first | rfl | (simp only [*] <;> rfl)))
    | (apply Br.f; · (first | rfl | (simp only [*] <;> rfl)))
    | refine Ob.mk (okst rfl rfl rfl) ?_
    | refine head_c b _ _ ?_
    | refine seq_c b.seq _ _ ?_
    | refine Br.mkT (fun c => ?_) (fun c => ?_)
    | refine Br.mkF (fun c => ?_) (fun c => ?_)
    | refine Br.mk (fun c => ?_) (fun c => ?_)
    | exact h
    | (simp only [*, Bool.true_and, Bool.false_and, Bool.true_or, Bool.false_or, Bool.and_true, Bool.and_false, Bool.or_true, Bool.or_false, Bool.not_true, Bool.not_false, if_true, if_false, reduceIte, Bool.false_eq_true] at h; exact h))
  all_goals
    have h13 : b.recs.any longR = true → K (.p (ii 13)) s := fun hl => by
      simp only [*, Bool.true_and, Bool.false_and, Bool.true_or, Bool.false_or, Bool.and_true, Bool.and_false, Bool.or_true, Bool.or_false, Bool.not_true, Bool.not_false, if_true, if_false, reduceIte, Bool.false_eq_true] at h
      exact h
    have h0 : b.recs.any longR = false → K (.p (ii 0)) s := fun hl => by
      simp only [*, Bool.true_and, Bool.false_and, Bool.true_or, Bool.false_or, Bool.and_true, Bool.and_false, Bool.or_true, Bool.or_false, Bool.not_true, Bool.not_false, if_true, if_false, reduceIte, Bool.false_eq_true] at h
      exact h
    have hrl : (b.recs.map rec2).length = b.recs.length := List.length_map ..
    have h16 : ¬ (((b.recs.map rec2).length : Nat) : Int) > 16 := of_decide_eq_false (by assumption)
    clear h
    refine LoopX.fam [88, 89, 90] (fun (j : Nat) => ([(88, .p (rcP b.recs)), (89, .p (ii (b.recs.map rec2).length)), (90, .p (ii (j : Nat)))], [some (.cells [.p (ii b.base), .p (ii b.prod), .p (ii b.epoch), .p (ii b.seq), .p (.bool b.txn), .p (ii b.mark), .p (rcP b.recs)])]))
      (fun j => j ≤ b.recs.length ∧ (b.recs.take j).any longR = false) (fun j => b.recs.length - j) 0 ⟨Nat.zero_le _, rfl⟩ (Trim.mk' rfl rfl rfl rfl (Nat.le_refl _)) ?_
    rintro j ⟨hj, hno⟩
    refine Br.mk (fun hc => ?_) (fun hc => ?_)
    · have hc : (j : Int) < ((b.recs.map rec2).length : Nat) := of_decide_eq_true hc
      have hj1 : j < b.recs.length := by omega
      have ej : IntKind.i64.wrap ((j : Int) + 1) = ((j + 1 : Nat) : Int) := by rw [wrap_i64] <;> omega
      refine Idx.mk _ (by omega) (getR hj1) ?_
      refine Ob.mk (okst rfl rfl rfl) ?_
      have hyes : longR b.recs[j] = true → K (.p (ii 13)) s := fun hl => h13 (List.any_eq_true.2 ⟨_, List.getElem_mem hj1, hl⟩)
      repeat' (first
        | (apply Br.t; · (first | rfl | (simp only [*] <;> rfl)))
        | (apply Br.f; · (first | rfl | (simp only [*] <;> rfl)))
        | refine Ob.mk (okst rfl rfl rfl) ?_
        | exact hyes (by unfold longR; simp only [*]; rfl)
        | refine Br.mkT (fun c => ?_) (fun c => ?_)
        | refine Br.mkF (fun c => ?_) (fun c => ?_)
        | refine Br.mk (fun c => ?_) (fun c => ?_))
      have hno1 : longR b.recs[j] = false := by unfold longR; simp only [*]; rfl
      refine ⟨j + 1, ⟨by omega, by rw [take_succ' hj1, List.any_append, hno]; simp [hno1]⟩, by show b.recs.length - (j + 1) < b.recs.length - j; omega, Nat.le_refl _, Trim.mk' ?_ rfl rfl rfl (show 1 ≤ 2 by decide)⟩
      refine Eq.trans (b := [_, _, (90, AV.p (ii (IntKind.i64.wrap ((j : Int) + 1))))]) rfl ?_
      rw [ej]; rfl
    · have hc : ¬ (j : Int) < ((b.recs.map rec2).length : Nat) := of_decide_eq_false hc
      have : j = b.recs.length := by omega
      subst this
      rw [List.take_length] at hno
      exact h0 hno
theorem plain_shrt {b : Bt} (h : plainV b = 0) : b.shrt := by
  unfold plainV at h
  split at h
  · exact absurd h (by decide)
  · split at h
    · split at h
      · exact absurd h (by decide)
      · rename_i h3
        simp only [Bool.or_eq_true, decide_eq_true_eq, not_or] at h3
        have h4 := h3.2.2.2.2
        rw [Bt.rl_eq] at h4
        have h5 : b.recs = [] := List.eq_nil_of_length_eq_zero (by omega)
        unfold Bt.shrt
        rw [h5]
        exact ⟨Nat.zero_le _, fun q hq => by cases hq⟩
    · split at h
      · exact absurd h (by decide)
      · split at h
        · exact absurd h (by decide)
        · rename_i h4
          have h4 : ¬ b.rl > 16 := by simpa using h4
          rw [Bt.rl_eq] at h4
          split at h
          · exact absurd h (by decide)
          · rename_i h5
            refine ⟨by omega, fun q hq => ?_⟩
            have h6 : ¬ longR q = true := fun e => h5 (List.any_eq_true.2 ⟨q, hq, e⟩)
            unfold longR at h6
            simp only [Bool.or_eq_true, decide_eq_true_eq, not_or] at h6
            omega
theorem plain_shrt' {b : Bt} (h : (plainV b != 0) = false) : b.shrt := plain_shrt (by simpa using h)
/-- A batch that a machine may hold. -/
def Bt.small (b : Bt) : Prop := b.recs.length ≤ 9223372036854775807 ∧ ∀ q, q ∈ b.recs → True
theorem Bt.shrt.small {b : Bt} (h : b.shrt) : b.small := ⟨by have := h.1; omega, fun _ _ => trivial⟩
def rightV (b : Bt) : Int := if (plainV b != 0) = true then plainV b else if decide ((((bytesP (wrB b)).length : Nat) : Int) > 4096) = true then 13 else 0
set_option maxHeartbeats 4000000 in
theorem right1_c (b : Bt) (hb : b.small) (s : Store) (K : AV → Store → Prop) (h : K (.p (ii (rightV b))) s) : Cal Tryz.prog 37 [.p b.pv] s K := by
  refine Cal.pure (args := [b.pv]) ?_
  refine Cal.intro Tryz.func37 (by decide +kernel) rfl rfl ?_
  unfold rightV at h
  repeat' (first
    | (apply Br.t; · (first | rfl | (simp only [*] <;> rfl)))
    | (apply Br.f; · (first | rfl | (simp only [*] <;> rfl)))
    | refine Ob.mk (okst rfl rfl rfl) ?_
    | refine plain_c b _ _ ?_
    | refine write_c b (plain_shrt' (by assumption)) _ _ ?_
    | refine Br.mkT (fun c => ?_) (fun c => ?_)
    | refine Br.mkF (fun c => ?_) (fun c => ?_)
    | refine Br.mk (fun c => ?_) (fun c => ?_)
    | exact h
    | (simp only [*, Bool.true_and, Bool.false_and, Bool.true_or, Bool.false_or, Bool.and_true, Bool.and_false, Bool.or_true, Bool.or_false, Bool.not_true, Bool.not_false, if_true, if_false, reduceIte, Bool.false_eq_true] at h; exact h))
theorem right_plain {b : Bt} (h : rightV b = 0) : plainV b = 0 := by
  unfold rightV at h
  split at h
  · exact h
  · rename_i h1; simpa using h1
theorem right_shrt {b : Bt} (h : rightV b = 0) : b.shrt := plain_shrt (right_plain h)
theorem right_shrt' {b : Bt} (h : (rightV b != 0) = false) : b.shrt := right_shrt (by simpa using h)
def sizeV (b : Bt) : Int := if (rightV b != 0) = true then 0 else ((bytesP (wrB b)).length : Nat)
def bytesV (b : Bt) : AV := if (rightV b != 0) = true then .tup [.p (.sl .nil 0 []), .p (ii (rightV b))] else .tup [.p (bsl (wrB b)), .p (ii 0)]
set_option maxHeartbeats 4000000 in
theorem bytes_c (b : Bt) (hb : b.small) (s : Store) (K : AV → Store → Prop) (h : K (bytesV b) s) : Cal Tryz.prog 45 [.p b.pv] s K := by
  refine Cal.pure (args := [b.pv]) ?_
  refine Cal.intro Tryz.func45 (by decide +kernel) rfl rfl ?_
  unfold bytesV at h
  repeat' (first
    | (apply Br.t; · (first | rfl | (simp only [*] <;> rfl)))
    | (apply Br.f; · (first | rfl | (simp only [*] <;> rfl)))
    | refine Ob.mk (okst rfl rfl rfl) ?_
    | refine right1_c b hb _ _ ?_
    | refine write_c b (right_shrt' (by assumption)) _ _ ?_
    | refine Br.mkT (fun c => ?_) (fun c => ?_)
    | refine Br.mkF (fun c => ?_) (fun c => ?_)
    | refine Br.mk (fun c => ?_) (fun c => ?_)
    | exact h
    | (simp only [*, Bool.true_and, Bool.false_and, Bool.true_or, Bool.false_or, Bool.and_true, Bool.and_false, Bool.or_true, Bool.or_false, Bool.not_true, Bool.not_false, if_true, if_false, reduceIte, Bool.false_eq_true] at h; exact h))
set_option maxHeartbeats 4000000 in
theorem size_c (b : Bt) (hb : b.small) (s : Store) (K : AV → Store → Prop) (h : K (.p (ii (sizeV b))) s) : Cal Tryz.prog 22 [.p b.pv] s K := by
  refine Cal.pure (args := [b.pv]) ?_
  refine Cal.intro Tryz.func22 (by decide +kernel) rfl rfl ?_
  refine bytes_c b hb _ _ ?_
  unfold sizeV at h
  unfold bytesV
  cases hr : (rightV b != 0) with
  | true => rw [hr] at h; exact h
  | false => rw [hr] at h; exact h
end Go.Proofs.YtjhgmaephpadpaaGreat.AW


open Go Go.Proofs.YtjhgmaephpadpaaGreat.AW Go.Proofs
namespace Go.Proofs.YtjhgmaephpadpaaGreat.AW
set_option maxRecDepth 100000
set_option linter.unusedSimpArgs false
set_option linter.unusedVariables false

/-! ### Numbers that go round, by both -/
def addV (n k : Int) : Int := if (!seqV n) = true then -1 else (IntKind.i64.wrap ((IntKind.i64.wrap (n + k.tmod 2147483648)).tmod 2147483648 + 2147483648)).tmod 2147483648
def lastV (n k : Int) : Int := if (decide (k < 1) || decide (k > 16)) = true then -1 else addV n (IntKind.i64.wrap (k - 1))
def follV (l f : Int) : Bool := if (l == -1) = true then f == 0 else seqV l && (f == addV l 1)
theorem add1_c (n k : Int) (s : Store) (K : AV → Store → Prop) (h : K (.p (ii (addV n k))) s) : Cal Tryz.prog 164 [.p (ii n), .p (ii k)] s K := by
  refine Cal.pure (args := [ii n, ii k]) ?_
  refine Cal.intro Tryz.func164 (by decide +kernel) rfl rfl ?_
  unfold addV at h
  repeat' (first
    | (apply Br.t; · (first | rfl | (simp only [*] <;> rfl)))
    | (apply Br.f; · (first | rfl | (simp only [*] <;> rfl)))
    | refine Ob.mk (okst rfl rfl rfl) ?_
    | refine seq_c n _ _ ?_
    | refine Ob.mk (by decide) ?_
    | refine Br.mkT (fun c => ?_) (fun c => ?_)
    | refine Br.mkF (fun c => ?_) (fun c => ?_)
    | refine Br.mk (fun c => ?_) (fun c => ?_)
    | exact h
    | (simp only [*, Bool.true_and, Bool.false_and, Bool.true_or, Bool.false_or, Bool.and_true, Bool.and_false, Bool.or_true, Bool.or_false, Bool.not_true, Bool.not_false, if_true, if_false, reduceIte, Bool.false_eq_true] at h; exact h))
theorem last1_c (n k : Int) (s : Store) (K : AV → Store → Prop) (h : K (.p (ii (lastV n k))) s) : Cal Tryz.prog 150 [.p (ii n), .p (ii k)] s K := by
  refine Cal.pure (args := [ii n, ii k]) ?_
  refine Cal.intro Tryz.func150 (by decide +kernel) rfl rfl ?_
  unfold lastV at h
  repeat' (first
    | (apply Br.t; · (first | rfl | (simp only [*] <;> rfl)))
    | (apply Br.f; · (first | rfl | (simp only [*] <;> rfl)))
    | refine Ob.mk (okst rfl rfl rfl) ?_
    | refine add1_c _ _ _ _ ?_
    | refine Br.mkT (fun c => ?_) (fun c => ?_)
    | refine Br.mkF (fun c => ?_) (fun c => ?_)
    | refine Br.mk (fun c => ?_) (fun c => ?_)
    | exact h
    | (simp only [*, Bool.true_and, Bool.false_and, Bool.true_or, Bool.false_or, Bool.and_true, Bool.and_false, Bool.or_true, Bool.or_false, Bool.not_true, Bool.not_false, if_true, if_false, reduceIte, Bool.false_eq_true] at h; exact h))
theorem foll1_c (l f : Int) (s : Store) (K : AV → Store → Prop) (h : K (.p (.bool (follV l f))) s) : Cal Tryz.prog 129 [.p (ii l), .p (ii f)] s K := by
  refine Cal.pure (args := [ii l, ii f]) ?_
  refine Cal.intro Tryz.func129 (by decide +kernel) rfl rfl ?_
  unfold follV at h
  have hcm : (addV l 1 == f) = (f == addV l 1) := BEq.comm
  rw [← hcm] at h
  clear hcm
  repeat' (first
    | (apply Br.t; · (first | rfl | (simp only [*] <;> rfl)))
    | (apply Br.f; · (first | rfl | (simp only [*] <;> rfl)))
    | refine Ob.mk (okst rfl rfl rfl) ?_
    | refine seq_c _ _ _ ?_
    | refine add1_c _ _ _ _ ?_
    | refine Br.mkT (fun c => ?_) (fun c => ?_)
    | refine Br.mkF (fun c => ?_) (fun c => ?_)
    | refine Br.mk (fun c => ?_) (fun c => ?_)
    | exact h
    | (simp only [*, Bool.true_and, Bool.false_and, Bool.true_or, Bool.false_or, Bool.and_true, Bool.and_false, Bool.or_true, Bool.or_false, Bool.not_true, Bool.not_false, if_true, if_false, reduceIte, Bool.false_eq_true] at h; exact h))
theorem add2_c (n k : Int) (s : Store) (K : AV → Store → Prop) (h : K (.p (ii (addV n k))) s) : Cal Tryz.prog 173 [.p (ii n), .p (ii k)] s K := by
  refine Cal.pure (args := [ii n, ii k]) ?_
  refine Cal.intro Tryz.func173 (by decide +kernel) rfl rfl ?_
  unfold addV at h
  repeat' (first
    | (apply Br.t; · (first | rfl | (simp only [*] <;> rfl)))
    | (apply Br.f; · (first | rfl | (simp only [*] <;> rfl)))
    | refine Ob.mk (okst rfl rfl rfl) ?_
    | refine seq2_c n _ _ ?_
    | refine Ob.mk (by decide) ?_
    | refine Br.mkT (fun c => ?_) (fun c => ?_)
    | refine Br.mkF (fun c => ?_) (fun c => ?_)
    | refine Br.mk (fun c => ?_) (fun c => ?_)
    | exact h
    | (simp only [*, Bool.true_and, Bool.false_and, Bool.true_or, Bool.false_or, Bool.and_true, Bool.and_false, Bool.or_true, Bool.or_false, Bool.not_true, Bool.not_false, if_true, if_false, reduceIte, Bool.false_eq_true] at h; exact h))
theorem last2_c (n k : Int) (s : Store) (K : AV → Store → Prop) (h : K (.p (ii (lastV n k))) s) : Cal Tryz.prog 153 [.p (ii n), .p (ii k)] s K := by
  refine Cal.pure (args := [ii n, ii k]) ?_
  refine Cal.intro Tryz.func153 (by decide +kernel) rfl rfl ?_
  unfold lastV at h
  repeat' (first
    | (apply Br.t; · (first | rfl | (simp only [*] <;> rfl)))
    | (apply Br.f; · (first | rfl | (simp only [*] <;> rfl)))
    | refine Ob.mk (okst rfl rfl rfl) ?_
    | refine add2_c _ _ _ _ ?_
    | refine Br.mkT (fun c => ?_) (fun c => ?_)
    | refine Br.mkF (fun c => ?_) (fun c => ?_)
    | refine Br.mk (fun c => ?_) (fun c => ?_)
    | exact h
    | (simp only [*, Bool.true_and, Bool.false_and, Bool.true_or, Bool.false_or, Bool.and_true, Bool.and_false, Bool.or_true, Bool.or_false, Bool.not_true, Bool.not_false, if_true, if_false, reduceIte, Bool.false_eq_true] at h; exact h))
theorem foll2_c (l f : Int) (s : Store) (K : AV → Store → Prop) (h : K (.p (.bool (follV l f))) s) : Cal Tryz.prog 163 [.p (ii l), .p (ii f)] s K := by
  refine Cal.pure (args := [ii l, ii f]) ?_
  refine Cal.intro Tryz.func163 (by decide +kernel) rfl rfl ?_
  unfold follV at h
  have hcm : (addV l 1 == f) = (f == addV l 1) := BEq.comm
  skip
  clear hcm
  repeat' (first
    | (apply Br.t; · (first | rfl | (simp only [*] <;> rfl)))
    | (apply Br.f; · (first | rfl | (simp only [*] <;> rfl)))
    | refine Ob.mk (okst rfl rfl rfl) ?_
    | refine seq2_c _ _ _ ?_
    | refine add2_c _ _ _ _ ?_
    | refine Br.mkT (fun c => ?_) (fun c => ?_)
    | refine Br.mkF (fun c => ?_) (fun c => ?_)
    | refine Br.mk (fun c => ?_) (fun c => ?_)
    | exact h
    | (simp only [*, Bool.true_and, Bool.false_and, Bool.true_or, Bool.false_or, Bool.and_true, Bool.and_false, Bool.or_true, Bool.or_false, Bool.not_true, Bool.not_false, if_true, if_false, reduceIte, Bool.false_eq_true] at h; exact h))

/-! ### Where a batch ends -/
theorem count2_c (b : Bt) (s : Store) (K : AV → Store → Prop) (h : K (.p (ii (cntV b))) s) : Cal Tryz.prog 94 [.p b.pv] s K := by
  refine Cal.pure (args := [b.pv]) ?_
  refine Cal.intro Tryz.func94 (by decide +kernel) rfl rfl ?_
  unfold cntV at h
  have hrl : ((b.recs.length : Nat) : Int) = ((b.recs.map rec2).length : Nat) := by rw [List.length_map]
  repeat' (first
    | (apply Br.t; · (first | rfl | (simp only [*] <;> rfl)))
    | (apply Br.f; · (first | rfl | (simp only [*] <;> rfl)))
    | refine Ob.mk (okst rfl rfl rfl) ?_
    | refine Br.mkT (fun c => ?_) (fun c => ?_)
    | refine Br.mkF (fun c => ?_) (fun c => ?_)
    | refine Br.mk (fun c => ?_) (fun c => ?_)
    | exact h
    | (simp only [*, Bool.true_and, Bool.false_and, Bool.true_or, Bool.false_or, Bool.and_true, Bool.and_false, Bool.or_true, Bool.or_false, Bool.not_true, Bool.not_false, if_true, if_false, reduceIte, Bool.false_eq_true] at h; exact h))
def endB (b : Bt) : Int := IntKind.i64.wrap (b.base + cntV b)
theorem segend_c (b : Bt) (s : Store) (K : AV → Store → Prop) (h : K (.p (ii (endB b))) s) : Cal Tryz.prog 102 [.p b.pv] s K := by
  refine Cal.pure (args := [b.pv]) ?_
  refine Cal.intro Tryz.func102 (by decide +kernel) rfl rfl ?_
  unfold endB at h
  iterate 3 refine ⟨_, ⟨rfl, rfl⟩, ?_⟩
  refine Or.inl ⟨_, fun s' => count2_c b s' _ ⟨rfl, rfl⟩, rfl, ?_⟩
  iterate 2 refine ⟨_, ⟨rfl, rfl⟩, ?_⟩
  refine Chk.mk (by kernel_rfl) ?_
  exact h
def endW (st : Int) (L : List Bt) : Int := match L.getLast? with | some b => endB b | none => st
theorem rowL (L : List Bt) : (L.map Bt.pv).length = L.length := List.length_map ..
theorem getL {L : List Bt} {j : Nat} (h : j < L.length) : (L.map Bt.pv)[((j : Nat) : Int).toNat]? = some L[j].pv := by
  rw [Int.toNat_natCast]; simp [h]
theorem segnext_c (L : List Bt) (st : Int) (hL : L.length < 4611686018427387904) (s : Store) (K : AV → Store → Prop) (h : K (.p (ii (endW st L))) s) : Cal Tryz.prog 69 [.p (rowP L), .p (ii st)] s K := by
  refine Cal.pure (args := [rowP L, ii st]) ?_
  refine Cal.intro Tryz.func69 (by decide +kernel) rfl rfl ?_
  have hl := rowL L
  by_cases h0 : L = []
  · subst h0
    refine Br.t rfl ?_
    exact h
  · have hp : 0 < L.length := List.length_pos_iff.2 h0
    refine Br.f (beq_false_of_ne (show (((L.map Bt.pv).length : Nat) : Int) ≠ 0 by omega)) ?_
    have e : IntKind.i64.wrap ((((L.map Bt.pv).length : Nat) : Int) - 1) = ((L.length - 1 : Nat) : Int) := by rw [hl, wrap_i64] <;> omega
    refine Idx.mk (L[L.length - 1]'(by omega)).pv (by rw [e]; omega) (by rw [e]; exact getL (by omega)) ?_
    refine segend_c _ _ _ ?_
    unfold endW at h
    rw [List.getLast?_eq_getElem?, List.getElem?_eq_getElem (by omega)] at h
    exact h
theorem end1_c (L : List Bt) (st : Int) (hL : L.length < 4611686018427387904) (s : Store) (K : AV → Store → Prop) (h : K (.p (ii (endW st L))) s) : Cal Tryz.prog 50 [.p (ii st), .p (rowP L)] s K := by
  refine Cal.pure (args := [ii st, rowP L]) ?_
  refine Cal.intro Tryz.func50 (by decide +kernel) rfl rfl ?_
  have hl := rowL L
  by_cases h0 : L = []
  · subst h0
    refine Br.t rfl ?_
    exact h
  · have hp : 0 < L.length := List.length_pos_iff.2 h0
    refine Br.f (beq_false_of_ne (show (((L.map Bt.pv).length : Nat) : Int) ≠ 0 by omega)) ?_
    have e : IntKind.i64.wrap ((((L.map Bt.pv).length : Nat) : Int) - 1) = ((L.length - 1 : Nat) : Int) := by rw [hl, wrap_i64] <;> omega
    refine Idx.mk (L[L.length - 1]'(by omega)).pv (by rw [e]; omega) (by rw [e]; exact getL (by omega)) ?_
    refine Ob.mk (okst rfl rfl rfl) ?_
    iterate 3 refine ⟨_, ⟨rfl, rfl⟩, ?_⟩
    refine Or.inl ⟨_, fun s' => count_c (L[L.length - 1]'(by omega)) s' _ ⟨rfl, rfl⟩, rfl, ?_⟩
    iterate 2 refine ⟨_, ⟨rfl, rfl⟩, ?_⟩
    refine Chk.mk (by kernel_rfl) ?_
    unfold endW at h
    rw [List.getLast?_eq_getElem?, List.getElem?_eq_getElem (by omega)] at h
    exact h
end Go.Proofs.YtjhgmaephpadpaaGreat.AW


open Go Go.Proofs.YtjhgmaephpadpaaGreat.AW Go.Proofs
namespace Go.Proofs.YtjhgmaephpadpaaGreat.AW
set_option maxRecDepth 100000
set_option linter.unusedSimpArgs false
set_option linter.unusedVariables false

/-! ### slices.Clone, slices.Clip, of any elements -/
theorem cutA {xs : List PV} : (xs.take (((xs.length : Nat) : Int)).toNat).drop (0 : Int).toNat = xs := by
  rw [Int.toNat_natCast, List.take_length]; rfl
theorem clone_p3 (xs : List PV) (hl : xs.length ≤ 1000000000) (s : Store) (K : AV → Store → Prop) (h : K (.p (.sl .shr 3 xs)) s) : Cal Tryz.prog 104 [.p (.sl .shr 3 xs)] s K := by
  refine Cal.weak ?_
  refine Cal.pure (args := [.sl .shr 3 xs]) ?_
  refine Cal.intro Tryz.func104 (by decide +kernel) rfl rfl ?_
  cases xs with
  | nil =>
    refine ⟨?_, ?_⟩
    · refine Br.t rfl ?_
      exact ⟨.p (.sl .shr 3 []), .inl (WkA1.nil _ _), h⟩
    · refine Br.f rfl ?_
      try refine Or.inl ?_
      refine BrL.n ?_
      exact ⟨.p (.sl .shr 3 []), .inl WkA1.shr, h⟩
  | cons x r =>
    refine Br.f rfl ?_
    try refine Or.inl ?_
    refine BrL.c ?_
    refine Ob.mk ?_ ?_
    · show (0 + (x :: r).length) * 24 ≤ _; omega
    · refine Ob.mk rfl ?_
      have e : (([] ++ (x :: r)).drop 0).take ([] ++ (x :: r)).length = x :: r := by rw [List.drop_zero, List.take_length]; rfl
      refine ⟨.p (.sl .shr 3 (x :: r)), .inl ?_, h⟩
      show WkA1 (.p (.sl .shr 3 ((([] ++ (x :: r)).drop 0).take ([] ++ (x :: r)).length))) _
      rw [e]; exact .refl _
theorem clone_rec (xs : List PV) (hl : xs.length ≤ 1000000000) (s : Store) (K : AV → Store → Prop) (h : K (.p (.sl .shr 2 xs)) s) : Cal Tryz.prog 109 [.p (.sl .shr 2 xs)] s K := by
  refine Cal.weak ?_
  refine Cal.pure (args := [.sl .shr 2 xs]) ?_
  refine Cal.intro Tryz.func109 (by decide +kernel) rfl rfl ?_
  cases xs with
  | nil =>
    refine ⟨?_, ?_⟩
    · refine Br.t rfl ?_
      exact ⟨.p (.sl .shr 2 []), .inl (WkA1.nil _ _), h⟩
    · refine Br.f rfl ?_
      try refine Or.inl ?_
      refine BrL.n ?_
      exact ⟨.p (.sl .shr 2 []), .inl WkA1.shr, h⟩
  | cons x r =>
    refine Br.f rfl ?_
    try refine Or.inl ?_
    refine BrL.c ?_
    refine Ob.mk ?_ ?_
    · show (0 + (x :: r).length) * 32 ≤ _; omega
    · refine Ob.mk rfl ?_
      have e : (([] ++ (x :: r)).drop 0).take ([] ++ (x :: r)).length = x :: r := by rw [List.drop_zero, List.take_length]; rfl
      refine ⟨.p (.sl .shr 2 (x :: r)), .inl ?_, h⟩
      show WkA1 (.p (.sl .shr 2 ((([] ++ (x :: r)).drop 0).take ([] ++ (x :: r)).length))) _
      rw [e]; exact .refl _
theorem clip_byte (xs : List PV) (s : Store) (K : AV → Store → Prop) (h : K (.p (.sl .clip 1 xs)) s) : Cal Tryz.prog 156 [.p (.sl .shr 1 xs)] s K := by
  refine Cal.pure (args := [.sl .shr 1 xs]) ?_
  refine Cal.intro Tryz.func156 (by decide +kernel) rfl rfl ?_
  refine Ob.mk ⟨Int.le_refl 0, Int.natCast_nonneg _, rfl, Int.le_refl _⟩ ?_
  show K (.p (.sl .clip 1 ((xs.take (((xs.length : Nat) : Int)).toNat).drop (0 : Int).toNat))) s
  rw [cutA]; exact h
theorem clip_p3 (xs : List PV) (s : Store) (K : AV → Store → Prop) (h : K (.p (.sl .clip 3 xs)) s) : Cal Tryz.prog 103 [.p (.sl .shr 3 xs)] s K := by
  refine Cal.pure (args := [.sl .shr 3 xs]) ?_
  refine Cal.intro Tryz.func103 (by decide +kernel) rfl rfl ?_
  refine Ob.mk ⟨Int.le_refl 0, Int.natCast_nonneg _, rfl, Int.le_refl _⟩ ?_
  show K (.p (.sl .clip 3 ((xs.take (((xs.length : Nat) : Int)).toNat).drop (0 : Int).toNat))) s
  rw [cutA]; exact h
theorem clip_rec (xs : List PV) (s : Store) (K : AV → Store → Prop) (h : K (.p (.sl .clip 2 xs)) s) : Cal Tryz.prog 108 [.p (.sl .shr 2 xs)] s K := by
  refine Cal.pure (args := [.sl .shr 2 xs]) ?_
  refine Cal.intro Tryz.func108 (by decide +kernel) rfl rfl ?_
  refine Ob.mk ⟨Int.le_refl 0, Int.natCast_nonneg _, rfl, Int.le_refl _⟩ ?_
  show K (.p (.sl .clip 2 ((xs.take (((xs.length : Nat) : Int)).toNat).drop (0 : Int).toNat))) s
  rw [cutA]; exact h
theorem clip_pr (xs : List PV) (s : Store) (K : AV → Store → Prop) (h : K (.p (.sl .clip 4 xs)) s) : Cal Tryz.prog 74 [.p (.sl .shr 4 xs)] s K := by
  refine Cal.pure (args := [.sl .shr 4 xs]) ?_
  refine Cal.intro Tryz.func74 (by decide +kernel) rfl rfl ?_
  refine Ob.mk ⟨Int.le_refl 0, Int.natCast_nonneg _, rfl, Int.le_refl _⟩ ?_
  show K (.p (.sl .clip 4 ((xs.take (((xs.length : Nat) : Int)).toNat).drop (0 : Int).toNat))) s
  rw [cutA]; exact h
end Go.Proofs.YtjhgmaephpadpaaGreat.AW


open Go Go.Proofs.YtjhgmaephpadpaaGreat.AW Go.Proofs
namespace Go.Proofs.YtjhgmaephpadpaaGreat.AW
set_option maxRecDepth 100000
set_option linter.unusedSimpArgs false
set_option linter.unusedVariables false

/-! ### Bytes, by the code -/
def csl (a : List UInt8) : PV := .sl .clip 1 (bytesP a)
theorem bitsOf_c (n : Int) (s : Store) (K : AV → Store → Prop) (h : K (.p (ii (IntKind.i64.wrap (n * 8)))) s) : Cal Tryz.prog 155 [.p (ii n)] s K := by
  refine Cal.pure (args := [ii n]) ?_
  refine Cal.intro Tryz.func155 (by decide +kernel) rfl rfl ?_
  exact h
/-- A Clone that is owned: or none, or an empty one. -/
theorem clone_k (b : List UInt8) (hl : b.length ≤ 1000000000) (K : AV → Store → Prop) (h1 : b ≠ [] → K (ob 0 b) [bu b]) (h2 : b = [] → K (.p (.sl .nil 0 [])) [] ∧ K (.p (.sl .clip 1 [])) []) : Cal Tryz.prog 154 [.p (bsl b)] [] K := by
  refine Cal.intro Tryz.func154 (by decide +kernel) rfl rfl ?_
  cases b with
  | nil =>
    refine ⟨?_, ?_⟩
    · refine Br.t rfl ?_
      exact (h2 rfl).1
    · refine Br.f rfl ?_
      refine Or.inl ?_
      refine BrL.n ?_
      exact (h2 rfl).2
  | cons x r =>
    refine Br.f rfl ?_
    refine Or.inl ?_
    refine BrL.c ?_
    refine Ob.mk ?_ ?_
    · show (0 + (bytesP (x :: r)).length) * 1 ≤ _
      rw [bytesP_len]; omega
    · exact h1 (by simp)
/-- Bytes that are gathered: none, or a buffer. -/
def acV : List UInt8 → AV
  | [] => .p (.sl .clip 1 [])
  | x :: r => ob 0 (x :: r)
def acS : List UInt8 → Store
  | [] => []
  | x :: r => [bu (x :: r)]
theorem acV_ne {c : List UInt8} (h : c ≠ []) : acV c = ob 0 c := by cases c with | nil => exact absurd rfl h | cons _ _ => rfl
theorem acS_ne {c : List UInt8} (h : c ≠ []) : acS c = [bu c] := by cases c with | nil => exact absurd rfl h | cons _ _ => rfl

theorem bytes_app1 {c : List UInt8} {n : Int} {u : UInt8} (h : IntKind.u8.wrap n = (u.toNat : Int)) : bytesP c ++ [PV.int .u8 (IntKind.u8.wrap n)] = bytesP (c ++ [u]) := by rw [h, bytesP_app]; rfl
set_option maxHeartbeats 4000000 in
theorem long2_c (b : List UInt8) (n : Int) (hb : b.length ≤ 1000000) (s : Store) (K : AV → Store → Prop) (h : K (.p (csl (b ++ lgB n))) s) : Cal Tryz.prog 123 [.p (bsl b), .p (ii n)] s K := by
  refine Cal.pure (args := [bsl b, ii n]) ?_
  refine Cal.intro Tryz.func123 (by decide +kernel) rfl rfl ?_
  refine clone_k b (by omega) _ (fun hne => ?_) (fun he => ⟨?_, ?_⟩)
  all_goals
    refine LoopX.famW [1, 5, 9] (fun (j : Nat) => ([(1, .p (ii n)), (5, acV (b ++ lgL n j)), (9, .p (ii (j : Nat)))], acS (b ++ lgL n j))) (fun j => j ≤ 8) (fun j => 8 - j) 0 (by omega) ?_ ?_ ?_
    rotate_left
    rotate_left
    · intro j hj
      have hj : j ≤ 8 := hj
      have hl8 : (b ++ lgL n j).length ≤ 1000008 := by rw [List.length_append, lgL_len]; omega
      refine Br.mk (fun hc => ?_) (fun hc => ?_)
      · have hc : (j : Int) < 8 := of_decide_eq_true hc
        have hj8 : j < 8 := by omega
        have ej : IntKind.i64.wrap ((j : Int) + 1) = ((j + 1 : Nat) : Int) := by rw [wrap_i64] <;> omega
        have e7 : IntKind.i64.wrap (7 - (j : Int)) = 7 - (j : Int) := by rw [wrap_i64] <;> omega
        have e8 : IntKind.i64.wrap (IntKind.i64.wrap (7 - (j : Int)) * 8) = 56 - 8 * (j : Int) := by rw [e7, wrap_i64] <;> omega
        have e9 : IntKind.u8.wrap ((IntKind.u64.wrap n).fdiv (2 ^ (min (IntKind.i64.wrap (IntKind.i64.wrap (7 - (j : Int)) * 8)).toNat IntKind.u64.bits))) = ((u8 (n.fdiv (2 ^ (56 - 8 * j)))).toNat : Int) := by
          rw [e8, show min (56 - 8 * (j : Int)).toNat IntKind.u64.bits = 56 - 8 * j by show min _ 64 = _; omega, u8_w, u8_u64 n hj8]
        have ec : b ++ lgL n (j + 1) = (b ++ lgL n j) ++ [u8 (n.fdiv (2 ^ (56 - 8 * j)))] := by rw [lgL_succ, List.append_assoc]
        have eb := bytes_app1 (c := b ++ lgL n j) e9
        have hne2 : b ++ lgL n (j + 1) ≠ [] := by rw [ec]; simp
        have eV : acV (b ++ lgL n (j + 1)) = AV.osl 0 (bytesP (b ++ lgL n j) ++ [PV.int .u8 (IntKind.u8.wrap ((IntKind.u64.wrap n).fdiv (2 ^ (min (IntKind.i64.wrap (IntKind.i64.wrap (7 - (j : Int)) * 8)).toNat IntKind.u64.bits))))]).length 0 (bytesP (b ++ lgL n j) ++ [PV.int .u8 (IntKind.u8.wrap ((IntKind.u64.wrap n).fdiv (2 ^ (min (IntKind.i64.wrap (IntKind.i64.wrap (7 - (j : Int)) * 8)).toNat IntKind.u64.bits))))]).length := by rw [eb, ← ec]; exact acV_ne hne2
        have eS : acS (b ++ lgL n (j + 1)) = [some (AObj.buf 1 (bytesP (b ++ lgL n j) ++ [PV.int .u8 (IntKind.u8.wrap ((IntKind.u64.wrap n).fdiv (2 ^ (min (IntKind.i64.wrap (IntKind.i64.wrap (7 - (j : Int)) * 8)).toNat IntKind.u64.bits))))]) (some 5))] := by rw [eb, ← ec]; exact acS_ne hne2
        dsimp only
        generalize b ++ lgL n j = c at *
        cases c with
        | nil =>
          refine bitsOf_c _ _ _ ?_
          refine Ob.mk (show (0 : Int) ≤ IntKind.i64.wrap (IntKind.i64.wrap (7 - (j : Int)) * 8) by rw [e8]; omega) ?_
          refine Or.inl ?_
          refine BrL.c ?_
          refine Ob.mk (show (0 + 1) * 1 ≤ 140737488355328 by decide) ?_
          refine ⟨j + 1, by show j + 1 ≤ 8; omega, by show 8 - (j + 1) < 8 - j; omega, ?_, Trim.mk' ?_ ?_ ?_ ?_ ?_⟩
          · rw [eS]; first | exact Nat.le_refl _ | exact Nat.zero_le _
          · show _ = [(1, AV.p (ii n)), (5, acV (b ++ lgL n (j + 1))), (9, AV.p (ii ((j + 1 : Nat) : Int)))]
            rw [eV, ← ej]; rfl
          · rw [eS]; rfl
          · rw [eS]; rfl
          · rw [eS]; rfl
          · rw [eS]; exact Nat.le_refl _
        | cons x r =>
          refine bitsOf_c _ _ _ ?_
          refine Ob.mk (show (0 : Int) ≤ IntKind.i64.wrap (IntKind.i64.wrap (7 - (j : Int)) * 8) by rw [e8]; omega) ?_
          refine Or.inl ?_
          refine Ob.mk ⟨rfl, rfl, rfl, ?_⟩ ?_
          · show ((bytesP (x :: r)).length + 1) * 1 ≤ _
            rw [bytesP_len]; omega
          refine ⟨j + 1, by show j + 1 ≤ 8; omega, by show 8 - (j + 1) < 8 - j; omega, ?_, Trim.mk' ?_ ?_ ?_ ?_ ?_⟩
          · rw [eS]; first | exact Nat.le_refl _ | exact Nat.zero_le _
          · show _ = [(1, AV.p (ii n)), (5, acV (b ++ lgL n (j + 1))), (9, AV.p (ii ((j + 1 : Nat) : Int)))]
            rw [eV, ← ej]; rfl
          · rw [eS]; rfl
          · rw [eS]; rfl
          · rw [eS]; rfl
          · rw [eS]; exact Nat.le_refl _
      · have hc : ¬ (j : Int) < 8 := of_decide_eq_false hc
        have : j = 8 := by omega
        subst this
        have hne2 : b ++ lgL n 8 ≠ [] := fun e => by have := congrArg List.length e; rw [List.length_append, lgL_len] at this; simp at this
        dsimp only
        rw [acV_ne hne2, acS_ne hne2]
        refine Cal.freeze ?_ ⟨_, Tryz.func156, rfl, rfl⟩
        refine Ob.mk rfl ?_
        show Cal Tryz.prog 156 [.p (.sl .shr 1 (((bytesP (b ++ lgL n 8)).drop 0).take (bytesP (b ++ lgL n 8)).length))] _ _
        rw [cut_all]
        refine clip_byte _ _ _ ?_
        exact h
  · rw [acS_ne (c := b ++ lgL n 0) (by show b ++ [] ≠ []; rw [List.append_nil]; exact hne)]
    exact Nat.le_refl _
  · show Trim _ _ (acS (b ++ [])).length _ _ [(1, .p (ii n)), (5, acV (b ++ [])), (9, .p (ii (0 : Nat)))] (acS (b ++ []))
    rw [List.append_nil, acS_ne hne, acV_ne hne]
    exact Trim.mk' rfl rfl rfl rfl (Nat.le_refl _)
  all_goals subst he
  · exact Nat.le_refl _
  · exact Trim.wk 0 [] rfl (Nat.le_refl _) (.inl rfl) rfl rfl rfl rfl rfl ⟨.inl rfl, .nil .clip 1, .inl rfl, trivial⟩
  · exact Nat.le_refl _
  · exact Trim.mk' rfl rfl rfl rfl (Nat.le_refl _)

theorem putL_step (f : Nat) (v : Int) : putL (f + 1) v = if 128 ≤ v then u8 (bits .or .u8 (IntKind.u8.wrap v) 128) :: putL f (v.fdiv 128) else [u8 v] := rfl
theorem or_u8 (v : Int) : IntKind.u8.wrap (bits .or .u8 (IntKind.u8.wrap v) 128) = bits .or .u8 (IntKind.u8.wrap v) 128 := by unfold bits; simp only [IntKind.wrap_u8]; omega
theorem bytes_app2 {c : List UInt8} {n : Int} {u : UInt8} (h : n = (u.toNat : Int)) : bytesP c ++ [PV.int .u8 n] = bytesP (c ++ [u]) := by rw [h, bytesP_app]; rfl
set_option maxHeartbeats 4000000 in
theorem put2_c (b : List UInt8) (n : Int) (hb : b.length ≤ 1000000) (s : Store) (K : AV → Store → Prop) (h : K (.p (csl (b ++ putB n))) s) : Cal Tryz.prog 157 [.p (bsl b), .p (ii n)] s K := by
  refine Cal.pure (args := [bsl b, ii n]) ?_
  refine Cal.intro Tryz.func157 (by decide +kernel) rfl rfl ?_
  have ez : bits .xor .u64 (IntKind.u64.wrap (IntKind.u64.wrap n * 2 ^ (min (1 : Int).toNat IntKind.u64.bits))) (IntKind.u64.wrap (n.fdiv (2 ^ (min (63 : Int).toNat IntKind.i64.bits)))) = zz n := by rw [zz2]; rfl
  have h0 : ∃ j : Nat, j ≤ 9 ∧ b.length = b.length + j ∧ b ++ putL (10 - j) (zz n) = b ++ putB n ∧ 0 ≤ zz n ∧ zz n * 128 ^ j < 128 ^ 10 := ⟨0, by omega, rfl, rfl, (zz_in n).1, by have := (zz_in n).2; omega⟩
  refine clone_k b (by omega) _ (fun hne => ?_) (fun he => ⟨?_, ?_⟩)
  all_goals
    iterate 2 refine Ob.mk (by decide) ?_
    refine LoopX.famW [5, 6] (fun (q : List UInt8 × Int) => ([(5, acV q.1), (6, .p (.int .u64 q.2))], acS q.1))
      (fun q => ∃ j : Nat, j ≤ 9 ∧ q.1.length = b.length + j ∧ q.1 ++ putL (10 - j) q.2 = b ++ putB n ∧ 0 ≤ q.2 ∧ q.2 * 128 ^ j < 128 ^ 10) (fun q => q.2.toNat) (b, zz n) h0 ?_ ?_ ?_
    rotate_left
    rotate_left
    · rintro ⟨out, v⟩ ⟨j, hj, hl, he, hv, hvj⟩
      have hl : out.length = b.length + j := hl
      have hv : 0 ≤ v := hv
      have hvj : v * 128 ^ j < 128 ^ 10 := hvj
      have he : out ++ putL (10 - j) v = b ++ putB n := he
      have hl8 : out.length ≤ 1000010 := by omega
      obtain ⟨f, hf⟩ : ∃ f, 10 - j = f + 1 := ⟨9 - j, by omega⟩
      rw [hf, putL_step] at he
      have hu := (u8_w (bits .or .u8 (IntKind.u8.wrap v) 128)).symm.trans (or_u8 v)
      have eb := bytes_app2 (c := out) hu.symm
      have eb2 := bytes_app2 (c := out) (u8_w v)
      have hne2 : ∀ u : UInt8, out ++ [u] ≠ [] := fun u => by simp
      have eV : acV (out ++ [u8 (bits .or .u8 (IntKind.u8.wrap v) 128)]) = AV.osl 0 (bytesP out ++ [PV.int .u8 (bits .or .u8 (IntKind.u8.wrap v) 128)]).length 0 (bytesP out ++ [PV.int .u8 (bits .or .u8 (IntKind.u8.wrap v) 128)]).length := by rw [eb]; exact acV_ne (hne2 _)
      have eS : acS (out ++ [u8 (bits .or .u8 (IntKind.u8.wrap v) 128)]) = [some (AObj.buf 1 (bytesP out ++ [PV.int .u8 (bits .or .u8 (IntKind.u8.wrap v) 128)]) (some 5))] := by rw [eb]; exact acS_ne (hne2 _)
      refine Br.mk (fun hc => ?_) (fun hc => ?_)
      · have hc : v ≥ 128 := of_decide_eq_true hc
        obtain ⟨q1, q2, q3, q4⟩ := v128 hvj hc
        rw [if_pos hc] at he
        have hok : ∃ j' : Nat, j' ≤ 9 ∧ (out ++ [u8 (bits .or .u8 (IntKind.u8.wrap v) 128)]).length = b.length + j' ∧ (out ++ [u8 (bits .or .u8 (IntKind.u8.wrap v) 128)]) ++ putL (10 - j') (v.fdiv 128) = b ++ putB n ∧ 0 ≤ v.fdiv 128 ∧ v.fdiv 128 * 128 ^ j' < 128 ^ 10 :=
          ⟨j + 1, by omega, by rw [List.length_append, hl]; rfl, by rw [← he, show 10 - (j + 1) = f by omega, List.append_assoc]; rfl, q3, q2⟩
        dsimp only
        clear h0 he hl
        cases out with
        | nil =>
          refine Or.inl ?_
          refine BrL.c ?_
          refine Ob.mk (show (0 + 1) * 1 ≤ 140737488355328 by decide) ?_
          refine Ob.mk (by decide) ?_
          refine ⟨(_, v.fdiv 128), hok, by show (v.fdiv 128).toNat < v.toNat; omega, ?_, Trim.mk' ?_ ?_ ?_ ?_ ?_⟩
          · show _ ≤ (acS (_ ++ [u8 (bits .or .u8 (IntKind.u8.wrap v) 128)])).length
            rw [eS]; first | exact Nat.le_refl _ | exact Nat.zero_le _
          · show _ = [(5, acV (_ ++ [u8 (bits .or .u8 (IntKind.u8.wrap v) 128)])), (6, _)]
            rw [eV]; rfl
          · show _ = acS (_ ++ [u8 (bits .or .u8 (IntKind.u8.wrap v) 128)])
            rw [eS]; rfl
          · show unders (acS (_ ++ [u8 (bits .or .u8 (IntKind.u8.wrap v) 128)])).length _ = true
            rw [eS]; rfl
          · show (acS (_ ++ [u8 (bits .or .u8 (IntKind.u8.wrap v) 128)])).all (objUnder (acS (_ ++ [u8 (bits .or .u8 (IntKind.u8.wrap v) 128)])).length) = true
            rw [eS]; rfl
          · show (acS (_ ++ [u8 (bits .or .u8 (IntKind.u8.wrap v) 128)])).length ≤ _
            rw [eS]; exact Nat.le_refl _
        | cons x r =>
          refine Or.inl ?_
          refine Ob.mk ⟨rfl, rfl, rfl, ?_⟩ ?_
          · show ((bytesP (x :: r)).length + 1) * 1 ≤ _
            rw [bytesP_len]; omega
          refine Ob.mk (by decide) ?_
          refine ⟨(_, v.fdiv 128), hok, by show (v.fdiv 128).toNat < v.toNat; omega, ?_, Trim.mk' ?_ ?_ ?_ ?_ ?_⟩
          · show _ ≤ (acS (_ ++ [u8 (bits .or .u8 (IntKind.u8.wrap v) 128)])).length
            rw [eS]; first | exact Nat.le_refl _ | exact Nat.zero_le _
          · show _ = [(5, acV (_ ++ [u8 (bits .or .u8 (IntKind.u8.wrap v) 128)])), (6, _)]
            rw [eV]; rfl
          · show _ = acS (_ ++ [u8 (bits .or .u8 (IntKind.u8.wrap v) 128)])
            rw [eS]; rfl
          · show unders (acS (_ ++ [u8 (bits .or .u8 (IntKind.u8.wrap v) 128)])).length _ = true
            rw [eS]; rfl
          · show (acS (_ ++ [u8 (bits .or .u8 (IntKind.u8.wrap v) 128)])).all (objUnder (acS (_ ++ [u8 (bits .or .u8 (IntKind.u8.wrap v) 128)])).length) = true
            rw [eS]; rfl
          · show (acS (_ ++ [u8 (bits .or .u8 (IntKind.u8.wrap v) 128)])).length ≤ _
            rw [eS]; exact Nat.le_refl _
      · have hc : ¬ v ≥ 128 := of_decide_eq_false hc
        rw [if_neg hc] at he
        have hfin : ∀ K' : AV → Store → Prop, K' (.p (csl (b ++ putB n))) [none] → Cal Tryz.prog 156 [.p (.sl .shr 1 (((bytesP out ++ [PV.int .u8 (IntKind.u8.wrap v)]).drop 0).take (bytesP out ++ [PV.int .u8 (IntKind.u8.wrap v)]).length))] [none] K' := by
          intro K' hk
          rw [cut_all, eb2, he]
          exact clip_byte _ _ _ hk
        dsimp only
        clear h0 he hl
        cases out with
        | nil =>
          refine Or.inl ?_
          refine BrL.c ?_
          refine Ob.mk (show (0 + 1) * 1 ≤ 140737488355328 by decide) ?_
          refine Cal.freeze ?_ ⟨_, Tryz.func156, rfl, rfl⟩
          refine Ob.mk rfl ?_
          exact hfin _ h
        | cons x r =>
          refine Or.inl ?_
          refine Ob.mk ⟨rfl, rfl, rfl, ?_⟩ ?_
          · show ((bytesP (x :: r)).length + 1) * 1 ≤ _
            rw [bytesP_len]; omega
          refine Cal.freeze ?_ ⟨_, Tryz.func156, rfl, rfl⟩
          refine Ob.mk rfl ?_
          exact hfin _ h
  · dsimp only
    rw [acS_ne hne]
    exact Nat.le_refl _
  · dsimp only
    rw [acS_ne hne, acV_ne hne, ← ez]
    exact Trim.mk' rfl rfl rfl rfl (Nat.le_refl _)
  all_goals subst he
  · exact Nat.le_refl _
  · dsimp only
    rw [← ez]
    exact Trim.wk 0 [] rfl (Nat.le_refl _) (.inl rfl) rfl rfl rfl rfl rfl ⟨.nil .clip 1, .inl rfl, trivial⟩
  · exact Nat.le_refl _
  · dsimp only
    rw [← ez]
    exact Trim.mk' rfl rfl rfl rfl (Nat.le_refl _)
end Go.Proofs.YtjhgmaephpadpaaGreat.AW
