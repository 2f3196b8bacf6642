/- A part of the proof: LG/M23, LG/M24, LG/M25, LG/M26. -/
import Derived.Test.YtjhgmaephpadpaaGreatP19

open Go Go.Proofs.YtjhgmaephpadpaaGreat.AW Go.Proofs
namespace Go.Proofs.YtjhgmaephpadpaaGreat.AW
set_option maxRecDepth 100000
set_option linter.unusedSimpArgs false
set_option linter.unusedVariables false

/-! ### ref6.Read -/
def shW (w : UInt8) (k : Int) : Int := IntKind.i64.wrap (IntKind.i64.wrap (w.toNat : Int) * 2 ^ min k.toNat IntKind.i64.bits)
def n1W (w x y z : UInt8) : Int := bits .or .i64 (bits .or .i64 (bits .or .i64 (shW w 24) (shW x 16)) (shW y 8)) (IntKind.i64.wrap (z.toNat : Int))
theorem or_in {x y : Int} (hx : 0 ≤ x ∧ x < 4294967296) (hy : 0 ≤ y ∧ y < 4294967296) : 0 ≤ bits .or .i64 x y ∧ bits .or .i64 x y < 4294967296 := by
  have e : bits .or .i64 x y = IntKind.i64.wrap (((BitVec.ofInt 64 x ||| BitVec.ofInt 64 y).toNat : Nat) : Int) := rfl
  have h : (BitVec.ofInt 64 x ||| BitVec.ofInt 64 y).toNat < 4294967296 := by
    rw [BitVec.toNat_or]
    have hh : ∀ v : Int, 0 ≤ v ∧ v < 4294967296 → (BitVec.ofInt 64 v).toNat < 2 ^ 32 := fun v hv => by
      rw [BitVec.toNat_ofInt]
      have : (v % ((2 ^ 64 : Nat) : Int)).toNat = v.toNat := by rw [Int.emod_eq_of_lt hv.1 (by omega)]
      rw [this]; omega
    exact Nat.or_lt_two_pow (hh x hx) (hh y hy)
  rw [e, wrap_i64] <;> omega
theorem shW_in (w : UInt8) (k : Nat) (hk : k ≤ 24) : 0 ≤ shW w (k : Int) ∧ shW w (k : Int) < 4294967296 := by
  have hw : w.toNat < 256 := w.toNat_lt
  unfold shW
  have e1 : IntKind.i64.wrap (w.toNat : Int) = (w.toNat : Int) := by rw [wrap_i64] <;> omega
  have e2 : min ((k : Nat) : Int).toNat IntKind.i64.bits = k := by
    rw [Int.toNat_natCast]; exact Nat.min_eq_left (by show k ≤ 64; omega)
  rw [e1, e2]
  have h1 : ((w.toNat : Int)) * 2 ^ k ≤ 255 * 2 ^ 24 := by
    have : w.toNat * 2 ^ k ≤ 255 * 2 ^ 24 := Nat.mul_le_mul (by omega) (Nat.pow_le_pow_right (by decide) hk)
    exact_mod_cast this
  have h2 : 0 ≤ ((w.toNat : Int)) * 2 ^ k := Int.mul_nonneg (Int.natCast_nonneg _) (Int.le_of_lt (Int.pow_pos (by decide)))
  rw [wrap_i64] <;> omega
theorem n1W_in (w x y z : UInt8) : 0 ≤ n1W w x y z ∧ n1W w x y z < 4294967296 := by
  have hz : z.toNat < 256 := z.toNat_lt
  unfold n1W
  refine or_in (or_in (or_in (shW_in w 24 (by decide)) (shW_in x 16 (by decide))) (shW_in y 8 (by decide))) ?_
  rw [wrap_i64] <;> omega
def n1V (a : List UInt8) : Int := n1W (a.getD 8 0) (a.getD 9 0) (a.getD 10 0) (a.getD 11 0)
def inO (x : List UInt8) : Option Bt := if x.length < 20 then none else match inR x (x.getD 19 0).toNat 20 [] with | none => none | some (R, p) => if p = x.length then some (inB0 x R) else none
def rd1 (a : List UInt8) : Option Bt :=
  if uOk ((a.drop 12).take (n1V a).toNat) = true then
    (match inO (((a.drop 12).take (n1V a).toNat).drop 4) with
    | none => none
    | some b => if rightV (b.at (bkR a)) = 0 ∧ wrB (b.at (bkR a)) = a.take (n1V a + 12).toNat then some (b.at (bkR a)) else none)
  else none
def r3 (b : PV) (n e : Int) : AV := .tup [.p b, .p (ii n), .p (ii e)]
theorem inner_o (x : List UInt8) (hx : x.length ≤ 1000000) (s : Store) (K : AV → Store → Prop) (h0 : inO x = none → K (.tup [.p bZv, .p (.bool false)]) s)
    (h1 : ∀ b ok, (ok = false → inO x = none) → (ok = true → inO x = some b) → b.recs.length ≤ 255 → ∀ k sz xs, WkD (.sl k sz xs) (rcP b.recs) → K (.tup [.p (bN b (.sl k sz xs)), .p (.bool ok)]) s) : Cal Tryz.prog 148 [.p (bsl x)] s K := by
  refine inner_c x hx s K (fun e => h0 ?_) (fun h20 R p hin k sz xs hw => h1 (inB0 x R) _ (fun e => ?_) (fun e => ?_) ?_ k sz xs hw)
  · unfold inO
    by_cases h20 : x.length < 20
    · rw [if_pos h20]
    · rw [if_neg h20, e (by omega)]
  · unfold inO
    rw [if_neg (by omega), hin]
    show (if p = x.length then _ else _) = _
    rw [if_neg (by intro q; rw [q] at e; simp at e)]
  · unfold inO
    rw [if_neg (by omega), hin]
    show (if p = x.length then _ else _) = _
    rw [if_pos (by have : ((p : Nat) : Int) = ((x.length : Nat) : Int) := by simpa using e
                   omega)]
  · show R.length ≤ 255
    have hl : ∀ n p R R' p', inR x n p R = some (R', p') → R'.length = R.length + n := by
      intro n
      induction n with
      | zero => intro p R R' p' h; cases h; rfl
      | succ n ih =>
        intro p R R' p' h
        unfold inR at h
        split at h
        · cases h
        · have := ih _ _ _ _ h
          rw [this, List.length_append]; show R.length + 1 + n = _; omega
    have := hl _ _ _ _ _ hin
    have h255 := (x.getD 19 0).toNat_lt
    rw [this]; show 0 + _ ≤ 255; omega
theorem inner_n (s : Store) (K : AV → Store → Prop) (h0 : K (.tup [.p bZv, .p (.bool false)]) s) : Cal Tryz.prog 148 [.p (.sl .clip 1 [])] s K :=
  Cal.argsD (args' := [.p (bsl [])]) (inner_c [] (by decide) s K (fun _ => h0) (fun h => absurd h (by decide))) ⟨.inr ⟨_, _, rfl, rfl, .sl .clip 1 [] [] rfl (fun y hy => by cases hy) .nil⟩, trivial⟩
set_option maxHeartbeats 16000000 in
theorem read1_c (a : List UInt8) (ha : a.length ≤ 1000000) (s : Store) (K : AV → Store → Prop) (h12 : (a.length < 12 ∨ (n1V a ≤ 4084 ∧ ((a.length : Int) < n1V a + 12 ∨ rd1 a = none))) → K (r3 bZv 0 12) s) (h13 : 12 ≤ a.length → 4084 < n1V a → K (r3 bZv 0 13) s)
    (hok : 12 ≤ a.length → n1V a ≤ 4084 → n1V a + 12 ≤ (a.length : Int) → ∀ b, rd1 a = some b → b.small → ∀ k sz xs, WkD (.sl k sz xs) (rcP b.recs) → K (r3 (bN b (.sl k sz xs)) (n1V a + 12) 0) s) : Cal Tryz.prog 111 [.p (bsl a)] s K := by
  refine Cal.pure (args := [bsl a]) ?_
  refine Cal.intro Tryz.func111 (by decide +kernel) rfl rfl ?_
  have hla := bytesP_len a
  cases c1 : decide ((((bytesP a).length : Nat) : Int) < 12) with
  | true =>
    have := h12 (.inl (by have := of_decide_eq_true c1; omega))
    clear h12 h13 hok hla
    refine Br.t c1 ?_
    repeat' (first
      | refine Chk.mk (by kernel_rfl) ?_
      | (apply Br.t; · (first | rfl | (simp only [*] <;> rfl)))
      | (apply Br.f; · (first | rfl | (simp only [*] <;> rfl)))
      | refine ⟨_, ⟨rfl, rfl⟩, ?_⟩
      | refine ⟨_, _, ⟨rfl, rfl⟩, rfl, ?_⟩
      | exact this
      | exact ⟨1, [bu a], Nat.le_refl 1, (show 1 ≤ 2 by decide), rfl, rfl, WkS.refl _, this⟩
      | refine ⟨_, Ob.mk (by decide) ⟨rfl, rfl⟩, ?_⟩
      | (refine ⟨_, Br.t ?_ ⟨rfl, rfl⟩, ?_⟩; · (first | rfl | (simp only [*] <;> rfl)))
      | (refine ⟨_, Br.f ?_ ⟨rfl, rfl⟩, ?_⟩; · (first | rfl | (simp only [*] <;> rfl)))
      | refine ⟨_, _, Ob.mk (okst rfl rfl rfl) ⟨rfl, rfl⟩, rfl, ?_⟩
      | refine Ob.mk (okst rfl rfl rfl) ?_
      | refine Ob.mk (by decide) ?_
      | refine Br.mkT (fun c => ?_) (fun c => ?_)
      | refine Br.mkF (fun c => ?_) (fun c => ?_)
      | refine Br.mk (fun c => ?_) (fun c => ?_))
  | false =>
    have h12l : 12 ≤ a.length := by have := of_decide_eq_false c1; omega
    refine Br.f c1 ?_
    clear c1
    have g8 := getD_at 8 (show 8 < a.length by omega)
    have g9 := getD_at 9 (show 9 < a.length by omega)
    have g10 := getD_at 10 (show 10 < a.length by omega)
    have g11 := getD_at 11 (show 11 < a.length by omega)
    have z : ∀ k : Nat, (0 : Int) ≤ (k : Int) := Int.natCast_nonneg
    have hni : 0 ≤ n1V a ∧ n1V a < 4294967296 := n1W_in _ _ _ _
    obtain ⟨n, hn⟩ : ∃ n, n = n1V a := ⟨_, rfl⟩
    have hn2 := hn
    unfold n1V at hn2
    rw [← hn] at hni h12 h13 hok
    obtain ⟨w8, hw8⟩ : ∃ w, w = a.getD 8 0 := ⟨_, rfl⟩
    obtain ⟨w9, hw9⟩ : ∃ w, w = a.getD 9 0 := ⟨_, rfl⟩
    obtain ⟨w10, hw10⟩ : ∃ w, w = a.getD 10 0 := ⟨_, rfl⟩
    obtain ⟨w11, hw11⟩ : ∃ w, w = a.getD 11 0 := ⟨_, rfl⟩
    rw [← hw8, ← hw9, ← hw10, ← hw11] at hn2
    rw [← hw8] at g8
    rw [← hw9] at g9
    rw [← hw10] at g10
    rw [← hw11] at g11
    clear hw8 hw9 hw10 hw11
    have e1 : IntKind.i64.wrap (n1W w8 w9 w10 w11 + 12) = n1W w8 w9 w10 w11 + 12 := by rw [← hn2, wrap_i64] <;> omega
    have e2 : IntKind.i64.wrap (12 + n1W w8 w9 w10 w11) = n1W w8 w9 w10 w11 + 12 := by rw [← hn2, wrap_i64] <;> omega
    cases k2 : decide (IntKind.i64.wrap (n1W w8 w9 w10 w11 + 12) > 4096) with
    | true =>
      have := h13 h12l (by have := of_decide_eq_true k2; rw [e1, ← hn2] at this; omega)
      unfold n1W shW at k2
      clear h12 h13 hok hla e1 e2 hn hn2 hni
      repeat' (first
        | refine Chk.mk (by kernel_rfl) ?_
        | (apply Br.t; · (first | rfl | (simp only [*] <;> rfl)))
        | (apply Br.f; · (first | rfl | (simp only [*] <;> rfl)))
        | refine ⟨_, ⟨rfl, rfl⟩, ?_⟩
        | refine ⟨_, _, ⟨rfl, rfl⟩, rfl, ?_⟩
        | refine ⟨_, Idx.mk (.int .u8 (w8.toNat : Int)) (z 8) g8 ⟨rfl, rfl⟩, ?_⟩
        | refine ⟨_, Idx.mk (.int .u8 (w9.toNat : Int)) (z 9) g9 ⟨rfl, rfl⟩, ?_⟩
        | refine ⟨_, Idx.mk (.int .u8 (w10.toNat : Int)) (z 10) g10 ⟨rfl, rfl⟩, ?_⟩
        | refine ⟨_, Idx.mk (.int .u8 (w11.toNat : Int)) (z 11) g11 ⟨rfl, rfl⟩, ?_⟩
        | refine ⟨_, Ob.mk ⟨rfl, z 8, l8⟩ ⟨rfl, rfl⟩, ?_⟩
        | refine ⟨_, Ob.mk ⟨rfl, z 9, l9⟩ ⟨rfl, rfl⟩, ?_⟩
        | refine ⟨_, Ob.mk ⟨rfl, z 10, l10⟩ ⟨rfl, rfl⟩, ?_⟩
        | refine ⟨_, Ob.mk ⟨rfl, z 11, l11⟩ ⟨rfl, rfl⟩, ?_⟩
        | refine ⟨_, Ob.mk rfl (Idx.mk (.int .u8 (w8.toNat : Int)) (z 8) g8 ⟨rfl, rfl⟩), ?_⟩
        | refine ⟨_, Ob.mk rfl (Idx.mk (.int .u8 (w9.toNat : Int)) (z 9) g9 ⟨rfl, rfl⟩), ?_⟩
        | refine ⟨_, Ob.mk rfl (Idx.mk (.int .u8 (w10.toNat : Int)) (z 10) g10 ⟨rfl, rfl⟩), ?_⟩
        | refine ⟨_, Ob.mk rfl (Idx.mk (.int .u8 (w11.toNat : Int)) (z 11) g11 ⟨rfl, rfl⟩), ?_⟩
        | exact this
        | exact ⟨1, [bu a], Nat.le_refl 1, (show 1 ≤ 2 by decide), rfl, rfl, WkS.refl _, this⟩
        | refine ⟨_, Ob.mk (by decide) ⟨rfl, rfl⟩, ?_⟩
        | (refine ⟨_, Br.t ?_ ⟨rfl, rfl⟩, ?_⟩; · (first | rfl | (simp only [*] <;> rfl)))
        | (refine ⟨_, Br.f ?_ ⟨rfl, rfl⟩, ?_⟩; · (first | rfl | (simp only [*] <;> rfl)))
        | refine ⟨_, _, Ob.mk (okst rfl rfl rfl) ⟨rfl, rfl⟩, rfl, ?_⟩
        | refine Ob.mk (okst rfl rfl rfl) ?_
        | refine Ob.mk (by decide) ?_
        | refine Br.mkT (fun c => ?_) (fun c => ?_)
        | refine Br.mkF (fun c => ?_) (fun c => ?_)
        | refine Br.mk (fun c => ?_) (fun c => ?_))
    | false =>
      have hn4 : n ≤ 4084 := by have := of_decide_eq_false k2; rw [e1, ← hn2] at this; omega
      cases k3 : decide ((((bytesP a).length : Nat) : Int) < IntKind.i64.wrap (n1W w8 w9 w10 w11 + 12)) with
      | true =>
        have := h12 (.inr ⟨hn4, .inl (by have := of_decide_eq_true k3; rw [e1, ← hn2, hla] at this; omega)⟩)
        unfold n1W shW at k2 k3
        clear h12 h13 hok hla e1 e2 hn hn2 hni
        repeat' (first
          | refine Chk.mk (by kernel_rfl) ?_
          | (apply Br.t; · (first | rfl | (simp only [*] <;> rfl)))
          | (apply Br.f; · (first | rfl | (simp only [*] <;> rfl)))
          | refine ⟨_, ⟨rfl, rfl⟩, ?_⟩
          | refine ⟨_, _, ⟨rfl, rfl⟩, rfl, ?_⟩
          | refine ⟨_, Idx.mk (.int .u8 (w8.toNat : Int)) (z 8) g8 ⟨rfl, rfl⟩, ?_⟩
          | refine ⟨_, Idx.mk (.int .u8 (w9.toNat : Int)) (z 9) g9 ⟨rfl, rfl⟩, ?_⟩
          | refine ⟨_, Idx.mk (.int .u8 (w10.toNat : Int)) (z 10) g10 ⟨rfl, rfl⟩, ?_⟩
          | refine ⟨_, Idx.mk (.int .u8 (w11.toNat : Int)) (z 11) g11 ⟨rfl, rfl⟩, ?_⟩
          | refine ⟨_, Ob.mk ⟨rfl, z 8, l8⟩ ⟨rfl, rfl⟩, ?_⟩
          | refine ⟨_, Ob.mk ⟨rfl, z 9, l9⟩ ⟨rfl, rfl⟩, ?_⟩
          | refine ⟨_, Ob.mk ⟨rfl, z 10, l10⟩ ⟨rfl, rfl⟩, ?_⟩
          | refine ⟨_, Ob.mk ⟨rfl, z 11, l11⟩ ⟨rfl, rfl⟩, ?_⟩
          | refine ⟨_, Ob.mk rfl (Idx.mk (.int .u8 (w8.toNat : Int)) (z 8) g8 ⟨rfl, rfl⟩), ?_⟩
          | refine ⟨_, Ob.mk rfl (Idx.mk (.int .u8 (w9.toNat : Int)) (z 9) g9 ⟨rfl, rfl⟩), ?_⟩
          | refine ⟨_, Ob.mk rfl (Idx.mk (.int .u8 (w10.toNat : Int)) (z 10) g10 ⟨rfl, rfl⟩), ?_⟩
          | refine ⟨_, Ob.mk rfl (Idx.mk (.int .u8 (w11.toNat : Int)) (z 11) g11 ⟨rfl, rfl⟩), ?_⟩
          | exact this
          | exact ⟨1, [bu a], Nat.le_refl 1, (show 1 ≤ 2 by decide), rfl, rfl, WkS.refl _, this⟩
          | refine ⟨_, Ob.mk (by decide) ⟨rfl, rfl⟩, ?_⟩
          | (refine ⟨_, Br.t ?_ ⟨rfl, rfl⟩, ?_⟩; · (first | rfl | (simp only [*] <;> rfl)))
          | (refine ⟨_, Br.f ?_ ⟨rfl, rfl⟩, ?_⟩; · (first | rfl | (simp only [*] <;> rfl)))
          | refine ⟨_, _, Ob.mk (okst rfl rfl rfl) ⟨rfl, rfl⟩, rfl, ?_⟩
          | refine Ob.mk (okst rfl rfl rfl) ?_
          | refine Ob.mk (by decide) ?_
          | refine Br.mkT (fun c => ?_) (fun c => ?_)
          | refine Br.mkF (fun c => ?_) (fun c => ?_)
          | refine Br.mk (fun c => ?_) (fun c => ?_))
      | false =>
        have hnl : n + 12 ≤ (a.length : Int) := by have := of_decide_eq_false k3; rw [e1, ← hn2, hla] at this; omega
        have hbad : rd1 a = none → K (r3 bZv 0 12) _ := fun e => h12 (.inr ⟨hn4, .inr e⟩)
        have hgood := hok h12l hn4 hnl
        clear h12 h13 hok
        have o12 : (0 : Int) ≤ 12 ∧ (12 : Int) ≤ IntKind.i64.wrap (12 + n1W w8 w9 w10 w11) ∧ IntKind.i64.wrap (12 + n1W w8 w9 w10 w11) ≤ (((bytesP a).length : Nat) : Int) := by rw [e2, ← hn2, hla]; omega
        have o13 : (0 : Int) ≤ 0 ∧ (0 : Int) ≤ IntKind.i64.wrap (12 + n1W w8 w9 w10 w11) ∧ IntKind.i64.wrap (12 + n1W w8 w9 w10 w11) ≤ (((bytesP a).length : Nat) : Int) := by rw [e2, ← hn2, hla]; omega
        have hx1 : ((bytesP a).take (IntKind.i64.wrap (12 + n1W w8 w9 w10 w11)).toNat).drop (12 : Int).toNat = bytesP ((a.drop 12).take n.toNat) := by
          rw [e2, ← hn2, show (n + 12).toNat = 12 + n.toNat by omega]
          unfold bytesP
          rw [← List.map_take, ← List.map_drop, List.drop_take]
          congr 2
          show 12 + n.toNat - 12 = n.toNat
          omega
        have hx2 : ((bytesP a).take (IntKind.i64.wrap (12 + n1W w8 w9 w10 w11)).toNat).drop (0 : Int).toNat = bytesP (a.take (n + 12).toNat) := by
          rw [e2, ← hn2]; unfold bytesP; rw [← List.map_take]; rfl
        have hrd : rd1 a = if uOk ((a.drop 12).take n.toNat) = true then (match inO (((a.drop 12).take n.toNat).drop 4) with | none => none | some b => if rightV (b.at (bkR a)) = 0 ∧ wrB (b.at (bkR a)) = a.take (n + 12).toNat then some (b.at (bkR a)) else none) else none := by
          rw [hn]; rfl
        have hsgl : ((a.drop 12).take n.toNat).length ≤ 1000000 := by rw [List.length_take, List.length_drop]; omega
        have hnA : uOk ((a.drop 12).take n.toNat) = false → rd1 a = none := fun e => by rw [hrd, e]; rfl
        have hnB : inO (((a.drop 12).take n.toNat).drop 4) = none → rd1 a = none := fun e => by
          rw [hrd, e]; split <;> rfl
        have hnC : ∀ b, uOk ((a.drop 12).take n.toNat) = true → inO (((a.drop 12).take n.toNat).drop 4) = some b → ¬ (rightV (b.at (bkR a)) = 0 ∧ wrB (b.at (bkR a)) = a.take (n + 12).toNat) → rd1 a = none := fun b e0 e c => by
          rw [hrd, if_pos e0, e]; show (if _ then _ else _) = _; rw [if_neg c]
        have hnD : ∀ b, uOk ((a.drop 12).take n.toNat) = true → inO (((a.drop 12).take n.toNat).drop 4) = some b → rightV (b.at (bkR a)) = 0 → wrB (b.at (bkR a)) = a.take (n + 12).toNat → rd1 a = some (b.at (bkR a)) := fun b e0 e c d => by
          rw [hrd, if_pos e0, e]; show (if _ then _ else _) = _; rw [if_pos ⟨c, d⟩]
        have hinl : (((a.drop 12).take n.toNat).drop 4).length ≤ 1000000 := by rw [List.length_drop]; omega
        have hin := fun s K => inner_o (((a.drop 12).take n.toNat).drop 4) hinl s K
        have e3 : n + 12 = IntKind.i64.wrap (n1W w8 w9 w10 w11 + 12) := by rw [e1, hn2]
        rw [e3] at hgood
        have hus : ∀ s K, (uOk ((a.drop 12).take n.toNat) = false → K (.tup [.p (.sl .nil 0 []), .p (.bool false)]) s) → (uOk ((a.drop 12).take n.toNat) = true → K (.tup [.p (bsl (((a.drop 12).take n.toNat).drop 4)), .p (.bool true)]) s ∧ (((a.drop 12).take n.toNat).drop 4 = [] → K (.tup [.p (.sl .clip 1 []), .p (.bool true)]) s)) → Cal Tryz.prog 147 [.p (.sl .shr 1 (((bytesP a).take (IntKind.i64.wrap (12 + n1W w8 w9 w10 w11)).toNat).drop (12 : Int).toNat))] s K := fun s K q0 q1 => by
          rw [hx1]; exact unseal_c _ hsgl s K q0 q1
        have hbk := fun s K => back1_c a s K
        unfold n1W shW at k2 k3
        clear hrd hsgl hinl e1 e2 e3 hn hn2 hni hla hnl hn4
        repeat' (first
          | refine Chk.mk (by kernel_rfl) ?_
          | (apply Br.t; · (first | rfl | (simp only [*] <;> rfl)))
          | (apply Br.f; · (first | rfl | (simp only [*] <;> rfl)))
          | refine ⟨_, ⟨rfl, rfl⟩, ?_⟩
          | refine ⟨_, _, ⟨rfl, rfl⟩, rfl, ?_⟩
          | refine ⟨_, Idx.mk (.int .u8 (w8.toNat : Int)) (z 8) g8 ⟨rfl, rfl⟩, ?_⟩
          | refine ⟨_, Idx.mk (.int .u8 (w9.toNat : Int)) (z 9) g9 ⟨rfl, rfl⟩, ?_⟩
          | refine ⟨_, Idx.mk (.int .u8 (w10.toNat : Int)) (z 10) g10 ⟨rfl, rfl⟩, ?_⟩
          | refine ⟨_, Idx.mk (.int .u8 (w11.toNat : Int)) (z 11) g11 ⟨rfl, rfl⟩, ?_⟩
          | refine ⟨_, Ob.mk ⟨rfl, z 8, l8⟩ ⟨rfl, rfl⟩, ?_⟩
          | refine ⟨_, Ob.mk ⟨rfl, z 9, l9⟩ ⟨rfl, rfl⟩, ?_⟩
          | refine ⟨_, Ob.mk ⟨rfl, z 10, l10⟩ ⟨rfl, rfl⟩, ?_⟩
          | refine ⟨_, Ob.mk ⟨rfl, z 11, l11⟩ ⟨rfl, rfl⟩, ?_⟩
          | refine ⟨_, Ob.mk rfl (Idx.mk (.int .u8 (w8.toNat : Int)) (z 8) g8 ⟨rfl, rfl⟩), ?_⟩
          | refine ⟨_, Ob.mk rfl (Idx.mk (.int .u8 (w9.toNat : Int)) (z 9) g9 ⟨rfl, rfl⟩), ?_⟩
          | refine ⟨_, Ob.mk rfl (Idx.mk (.int .u8 (w10.toNat : Int)) (z 10) g10 ⟨rfl, rfl⟩), ?_⟩
          | refine ⟨_, Ob.mk rfl (Idx.mk (.int .u8 (w11.toNat : Int)) (z 11) g11 ⟨rfl, rfl⟩), ?_⟩
          | refine Ob.mk o12 ?_
          | refine Ob.mk ⟨rfl, o12⟩ ?_
          | refine ⟨_, Ob.mk (by decide) ⟨rfl, rfl⟩, ?_⟩
          | (refine ⟨_, Br.t ?_ ⟨rfl, rfl⟩, ?_⟩; · (first | rfl | (simp only [*] <;> rfl)))
          | (refine ⟨_, Br.f ?_ ⟨rfl, rfl⟩, ?_⟩; · (first | rfl | (simp only [*] <;> rfl)))
          | refine ⟨_, _, Ob.mk (okst rfl rfl rfl) ⟨rfl, rfl⟩, rfl, ?_⟩
          | refine Ob.mk (okst rfl rfl rfl) ?_
          | refine Ob.mk (by decide) ?_
          | refine Br.mkT (fun c => ?_) (fun c => ?_)
          | refine Br.mkF (fun c => ?_) (fun c => ?_)
          | refine Br.mk (fun c => ?_) (fun c => ?_))
        refine hus _ _ (fun hu => ?_) (fun hu => ⟨?_, fun he => ?_⟩)
        · have := hbad (hnA hu)
          repeat' (first
            | refine Chk.mk (by kernel_rfl) ?_
            | (apply Br.t; · (first | rfl | (simp only [*] <;> rfl)))
            | (apply Br.f; · (first | rfl | (simp only [*] <;> rfl)))
            | refine ⟨_, ⟨rfl, rfl⟩, ?_⟩
            | refine ⟨_, _, ⟨rfl, rfl⟩, rfl, ?_⟩
            | refine hbk _ _ ?_
            | refine Cal.frameK [0] (hbks _ fun _ => ?_) rfl rfl rfl
            | refine Or.inl ⟨_, fun s' => hrt s' _ ⟨rfl, rfl⟩, rfl, ?_⟩
            | refine Or.inl ⟨_, fun s' => hwr s' _ ⟨rfl, rfl⟩, rfl, ?_⟩
            | refine ⟨_, Ob.mk o13 ⟨rfl, rfl⟩, ?_⟩
            | refine ⟨_, Ob.mk ⟨rfl, o13⟩ ⟨rfl, rfl⟩, ?_⟩
            | refine ⟨_, Ob.mk (.inr rfl) ⟨_, hx2, ⟨rfl, rfl⟩⟩, ?_⟩
            | refine ⟨_, Ob.mk rfl (Ob.mk (.inr rfl) ⟨_, hx2s, ⟨rfl, rfl⟩⟩), ?_⟩
            | refine ⟨_, Ob.mk (.inr rfl) ⟨_, rfl, ⟨rfl, rfl⟩⟩, ?_⟩
            | exact this
            | exact ⟨1, [bu a], Nat.le_refl 1, (show 1 ≤ 2 by decide), rfl, rfl, WkS.refl _, this⟩
            | exact ⟨1, [bu a], Nat.le_refl 1, (show 1 ≤ 3 by decide), rfl, rfl, WkS.refl _, this⟩
            | refine ⟨_, Ob.mk (by decide) ⟨rfl, rfl⟩, ?_⟩
            | (refine ⟨_, Br.t ?_ ⟨rfl, rfl⟩, ?_⟩; · (first | rfl | (simp only [*] <;> rfl)))
            | (refine ⟨_, Br.f ?_ ⟨rfl, rfl⟩, ?_⟩; · (first | rfl | (simp only [*] <;> rfl)))
            | refine ⟨_, _, Ob.mk (okst rfl rfl rfl) ⟨rfl, rfl⟩, rfl, ?_⟩
            | refine Ob.mk (okst rfl rfl rfl) ?_
            | refine Ob.mk (by decide) ?_
            | refine Br.mkT (fun c => ?_) (fun c => ?_)
            | refine Br.mkF (fun c => ?_) (fun c => ?_)
            | refine Br.mk (fun c => ?_) (fun c => ?_))
        · refine Br.f rfl ?_
          refine hin _ _ (fun hi => ?_) (fun b ok hf ht hR k sz xs hw => ?_)
          · have := hbad (hnB hi)
            repeat' (first
              | refine Chk.mk (by kernel_rfl) ?_
              | (apply Br.t; · (first | rfl | (simp only [*] <;> rfl)))
              | (apply Br.f; · (first | rfl | (simp only [*] <;> rfl)))
              | refine ⟨_, ⟨rfl, rfl⟩, ?_⟩
              | refine ⟨_, _, ⟨rfl, rfl⟩, rfl, ?_⟩
              | refine hbk _ _ ?_
              | refine Cal.frameK [0] (hbks _ fun _ => ?_) rfl rfl rfl
              | refine Or.inl ⟨_, fun s' => hrt s' _ ⟨rfl, rfl⟩, rfl, ?_⟩
              | refine Or.inl ⟨_, fun s' => hwr s' _ ⟨rfl, rfl⟩, rfl, ?_⟩
              | refine ⟨_, Ob.mk o13 ⟨rfl, rfl⟩, ?_⟩
              | refine ⟨_, Ob.mk ⟨rfl, o13⟩ ⟨rfl, rfl⟩, ?_⟩
              | refine ⟨_, Ob.mk (.inr rfl) ⟨_, hx2, ⟨rfl, rfl⟩⟩, ?_⟩
              | refine ⟨_, Ob.mk rfl (Ob.mk (.inr rfl) ⟨_, hx2s, ⟨rfl, rfl⟩⟩), ?_⟩
              | refine ⟨_, Ob.mk (.inr rfl) ⟨_, rfl, ⟨rfl, rfl⟩⟩, ?_⟩
              | exact this
              | exact ⟨1, [bu a], Nat.le_refl 1, (show 1 ≤ 2 by decide), rfl, rfl, WkS.refl _, this⟩
              | exact ⟨1, [bu a], Nat.le_refl 1, (show 1 ≤ 3 by decide), rfl, rfl, WkS.refl _, this⟩
              | refine ⟨_, Ob.mk (by decide) ⟨rfl, rfl⟩, ?_⟩
              | (refine ⟨_, Br.t ?_ ⟨rfl, rfl⟩, ?_⟩; · (first | rfl | (simp only [*] <;> rfl)))
              | (refine ⟨_, Br.f ?_ ⟨rfl, rfl⟩, ?_⟩; · (first | rfl | (simp only [*] <;> rfl)))
              | refine ⟨_, _, Ob.mk (okst rfl rfl rfl) ⟨rfl, rfl⟩, rfl, ?_⟩
              | refine Ob.mk (okst rfl rfl rfl) ?_
              | refine Ob.mk (by decide) ?_
              | refine Br.mkT (fun c => ?_) (fun c => ?_)
              | refine Br.mkF (fun c => ?_) (fun c => ?_)
              | refine Br.mk (fun c => ?_) (fun c => ?_))
          · have hsm : (b.at (bkR a)).small := ⟨by show b.recs.length ≤ _; omega, fun _ _ => trivial⟩
            have hrt : ∀ s K, K (.p (ii (rightV (b.at (bkR a))))) s → Cal Tryz.prog 37 [.p (bN (b.at (bkR a)) (.sl k sz xs))] s K := fun s K hK =>
              Cal.argsD (args' := [.p (b.at (bkR a)).pv]) (right1_c _ hsm s K hK) ⟨.inr ⟨_, _, rfl, rfl, wk_bN hw⟩, trivial⟩
            cases ok with
            | false =>
              have := hbad (hnB (hf rfl))
              clear hrt hin hgood hnA hnB hnC hnD hbad hf ht
              repeat' (first
                | refine Chk.mk (by kernel_rfl) ?_
                | (apply Br.t; · (first | rfl | (simp only [*] <;> rfl)))
                | (apply Br.f; · (first | rfl | (simp only [*] <;> rfl)))
                | refine ⟨_, ⟨rfl, rfl⟩, ?_⟩
                | refine ⟨_, _, ⟨rfl, rfl⟩, rfl, ?_⟩
                | refine hbk _ _ ?_
                | refine Cal.frameK [0] (hbks _ fun _ => ?_) rfl rfl rfl
                | refine Or.inl ⟨_, fun s' => hrt s' _ ⟨rfl, rfl⟩, rfl, ?_⟩
                | refine Or.inl ⟨_, fun s' => hwr s' _ ⟨rfl, rfl⟩, rfl, ?_⟩
                | refine ⟨_, Ob.mk o13 ⟨rfl, rfl⟩, ?_⟩
                | refine ⟨_, Ob.mk ⟨rfl, o13⟩ ⟨rfl, rfl⟩, ?_⟩
                | refine ⟨_, Ob.mk (.inr rfl) ⟨_, hx2, ⟨rfl, rfl⟩⟩, ?_⟩
                | refine ⟨_, Ob.mk rfl (Ob.mk (.inr rfl) ⟨_, hx2s, ⟨rfl, rfl⟩⟩), ?_⟩
                | refine ⟨_, Ob.mk (.inr rfl) ⟨_, rfl, ⟨rfl, rfl⟩⟩, ?_⟩
                | exact this
                | exact ⟨1, [bu a], Nat.le_refl 1, (show 1 ≤ 2 by decide), rfl, rfl, WkS.refl _, this⟩
                | exact ⟨1, [bu a], Nat.le_refl 1, (show 1 ≤ 3 by decide), rfl, rfl, WkS.refl _, this⟩
                | refine ⟨_, Ob.mk (by decide) ⟨rfl, rfl⟩, ?_⟩
                | (refine ⟨_, Br.t ?_ ⟨rfl, rfl⟩, ?_⟩; · (first | rfl | (simp only [*] <;> rfl)))
                | (refine ⟨_, Br.f ?_ ⟨rfl, rfl⟩, ?_⟩; · (first | rfl | (simp only [*] <;> rfl)))
                | refine ⟨_, _, Ob.mk (okst rfl rfl rfl) ⟨rfl, rfl⟩, rfl, ?_⟩
                | refine Ob.mk (okst rfl rfl rfl) ?_
                | refine Ob.mk (by decide) ?_
                | refine Br.mkT (fun c => ?_) (fun c => ?_)
                | refine Br.mkF (fun c => ?_) (fun c => ?_)
                | refine Br.mk (fun c => ?_) (fun c => ?_))
            | true =>
              have hi := ht rfl
              cases k4 : (rightV (b.at (bkR a)) != 0) with
              | true =>
                have := hbad (hnC b hu hi (fun h => by rw [h.1] at k4; exact absurd k4 (by decide)))
                clear hin hgood hnA hnB hnC hnD hbad hf ht hi
                generalize rightV (b.at (bkR a)) = rv at hrt k4
                repeat' (first
                  | refine Chk.mk (by kernel_rfl) ?_
                  | (apply Br.t; · (first | rfl | (simp only [*] <;> rfl)))
                  | (apply Br.f; · (first | rfl | (simp only [*] <;> rfl)))
                  | refine ⟨_, ⟨rfl, rfl⟩, ?_⟩
                  | refine ⟨_, _, ⟨rfl, rfl⟩, rfl, ?_⟩
                  | refine hbk _ _ ?_
                  | refine Cal.frameK [0] (hbks _ fun _ => ?_) rfl rfl rfl
                  | refine Or.inl ⟨_, fun s' => hrt s' _ ⟨rfl, rfl⟩, rfl, ?_⟩
                  | refine Or.inl ⟨_, fun s' => hwr s' _ ⟨rfl, rfl⟩, rfl, ?_⟩
                  | refine ⟨_, Ob.mk o13 ⟨rfl, rfl⟩, ?_⟩
                  | refine ⟨_, Ob.mk ⟨rfl, o13⟩ ⟨rfl, rfl⟩, ?_⟩
                  | refine ⟨_, Ob.mk (.inr rfl) ⟨_, hx2, ⟨rfl, rfl⟩⟩, ?_⟩
                  | refine ⟨_, Ob.mk rfl (Ob.mk (.inr rfl) ⟨_, hx2s, ⟨rfl, rfl⟩⟩), ?_⟩
                  | refine ⟨_, Ob.mk (.inr rfl) ⟨_, rfl, ⟨rfl, rfl⟩⟩, ?_⟩
                  | exact this
                  | exact ⟨1, [bu a], Nat.le_refl 1, (show 1 ≤ 2 by decide), rfl, rfl, WkS.refl _, this⟩
                  | exact ⟨1, [bu a], Nat.le_refl 1, (show 1 ≤ 3 by decide), rfl, rfl, WkS.refl _, this⟩
                  | refine ⟨_, Ob.mk (by decide) ⟨rfl, rfl⟩, ?_⟩
                  | (refine ⟨_, Br.t ?_ ⟨rfl, rfl⟩, ?_⟩; · (first | rfl | (simp only [*] <;> rfl)))
                  | (refine ⟨_, Br.f ?_ ⟨rfl, rfl⟩, ?_⟩; · (first | rfl | (simp only [*] <;> rfl)))
                  | refine ⟨_, _, Ob.mk (okst rfl rfl rfl) ⟨rfl, rfl⟩, rfl, ?_⟩
                  | refine Ob.mk (okst rfl rfl rfl) ?_
                  | refine Ob.mk (by decide) ?_
                  | refine Br.mkT (fun c => ?_) (fun c => ?_)
                  | refine Br.mkF (fun c => ?_) (fun c => ?_)
                  | refine Br.mk (fun c => ?_) (fun c => ?_))
              | false =>
                have hr0 : rightV (b.at (bkR a)) = 0 := by simpa using k4
                have hwr : ∀ s K, K (.p (bsl (wrB (b.at (bkR a))))) s → Cal Tryz.prog 68 [.p (bN (b.at (bkR a)) (.sl k sz xs))] s K := fun s K hK =>
                  Cal.argsD (args' := [.p (b.at (bkR a)).pv]) (write_c _ (right_shrt hr0) s K hK) ⟨.inr ⟨_, _, rfl, rfl, wk_bN hw⟩, trivial⟩
                cases k5 : (!(wrB (b.at (bkR a)) == a.take (n + 12).toNat)) with
                | true =>
                  have := hbad (hnC b hu hi (fun h => by rw [h.2] at k5; simp at k5))
                  clear hin hgood hnA hnB hnC hnD hbad hf ht hi hr0
                  generalize rightV (b.at (bkR a)) = rv at hrt k4
                  generalize wrB (b.at (bkR a)) = wv at hwr k5
                  repeat' (first
                    | refine Chk.mk (by kernel_rfl) ?_
                    | (apply Br.t; · (first | rfl | (simp only [*] <;> rfl)))
                    | (apply Br.f; · (first | rfl | (simp only [*] <;> rfl)))
                    | refine ⟨_, ⟨rfl, rfl⟩, ?_⟩
                    | refine ⟨_, _, ⟨rfl, rfl⟩, rfl, ?_⟩
                    | refine hbk _ _ ?_
                    | refine Cal.frameK [0] (hbks _ fun _ => ?_) rfl rfl rfl
                    | refine Or.inl ⟨_, fun s' => hrt s' _ ⟨rfl, rfl⟩, rfl, ?_⟩
                    | refine Or.inl ⟨_, fun s' => hwr s' _ ⟨rfl, rfl⟩, rfl, ?_⟩
                    | refine ⟨_, Ob.mk o13 ⟨rfl, rfl⟩, ?_⟩
                    | refine ⟨_, Ob.mk ⟨rfl, o13⟩ ⟨rfl, rfl⟩, ?_⟩
                    | refine ⟨_, Ob.mk (.inr rfl) ⟨_, hx2, ⟨rfl, rfl⟩⟩, ?_⟩
                    | refine ⟨_, Ob.mk rfl (Ob.mk (.inr rfl) ⟨_, hx2s, ⟨rfl, rfl⟩⟩), ?_⟩
                    | refine ⟨_, Ob.mk (.inr rfl) ⟨_, rfl, ⟨rfl, rfl⟩⟩, ?_⟩
                    | exact this
                    | exact ⟨1, [bu a], Nat.le_refl 1, (show 1 ≤ 2 by decide), rfl, rfl, WkS.refl _, this⟩
                    | exact ⟨1, [bu a], Nat.le_refl 1, (show 1 ≤ 3 by decide), rfl, rfl, WkS.refl _, this⟩
                    | refine ⟨_, Ob.mk (by decide) ⟨rfl, rfl⟩, ?_⟩
                    | (refine ⟨_, Br.t ?_ ⟨rfl, rfl⟩, ?_⟩; · (first | rfl | (simp only [*] <;> rfl)))
                    | (refine ⟨_, Br.f ?_ ⟨rfl, rfl⟩, ?_⟩; · (first | rfl | (simp only [*] <;> rfl)))
                    | refine ⟨_, _, Ob.mk (okst rfl rfl rfl) ⟨rfl, rfl⟩, rfl, ?_⟩
                    | refine Ob.mk (okst rfl rfl rfl) ?_
                    | refine Ob.mk (by decide) ?_
                    | refine Br.mkT (fun c => ?_) (fun c => ?_)
                    | refine Br.mkF (fun c => ?_) (fun c => ?_)
                    | refine Br.mk (fun c => ?_) (fun c => ?_))
                | false =>
                  have := hgood (b.at (bkR a)) (hnD b hu hi hr0 (by simpa using k5)) hsm k sz xs hw
                  clear hin hgood hnA hnB hnC hnD hbad hf ht hi hr0
                  generalize rightV (b.at (bkR a)) = rv at hrt k4
                  generalize wrB (b.at (bkR a)) = wv at hwr k5
                  repeat' (first
                    | refine Chk.mk (by kernel_rfl) ?_
                    | (apply Br.t; · (first | rfl | (simp only [*] <;> rfl)))
                    | (apply Br.f; · (first | rfl | (simp only [*] <;> rfl)))
                    | refine ⟨_, ⟨rfl, rfl⟩, ?_⟩
                    | refine ⟨_, _, ⟨rfl, rfl⟩, rfl, ?_⟩
                    | refine hbk _ _ ?_
                    | refine Cal.frameK [0] (hbks _ fun _ => ?_) rfl rfl rfl
                    | refine Or.inl ⟨_, fun s' => hrt s' _ ⟨rfl, rfl⟩, rfl, ?_⟩
                    | refine Or.inl ⟨_, fun s' => hwr s' _ ⟨rfl, rfl⟩, rfl, ?_⟩
                    | refine ⟨_, Ob.mk o13 ⟨rfl, rfl⟩, ?_⟩
                    | refine ⟨_, Ob.mk ⟨rfl, o13⟩ ⟨rfl, rfl⟩, ?_⟩
                    | refine ⟨_, Ob.mk (.inr rfl) ⟨_, hx2, ⟨rfl, rfl⟩⟩, ?_⟩
                    | refine ⟨_, Ob.mk rfl (Ob.mk (.inr rfl) ⟨_, hx2s, ⟨rfl, rfl⟩⟩), ?_⟩
                    | refine ⟨_, Ob.mk (.inr rfl) ⟨_, rfl, ⟨rfl, rfl⟩⟩, ?_⟩
                    | exact this
                    | exact ⟨1, [bu a], Nat.le_refl 1, (show 1 ≤ 2 by decide), rfl, rfl, WkS.refl _, this⟩
                    | exact ⟨1, [bu a], Nat.le_refl 1, (show 1 ≤ 3 by decide), rfl, rfl, WkS.refl _, this⟩
                    | refine ⟨_, Ob.mk (by decide) ⟨rfl, rfl⟩, ?_⟩
                    | (refine ⟨_, Br.t ?_ ⟨rfl, rfl⟩, ?_⟩; · (first | rfl | (simp only [*] <;> rfl)))
                    | (refine ⟨_, Br.f ?_ ⟨rfl, rfl⟩, ?_⟩; · (first | rfl | (simp only [*] <;> rfl)))
                    | refine ⟨_, _, Ob.mk (okst rfl rfl rfl) ⟨rfl, rfl⟩, rfl, ?_⟩
                    | refine Ob.mk (okst rfl rfl rfl) ?_
                    | refine Ob.mk (by decide) ?_
                    | refine Br.mkT (fun c => ?_) (fun c => ?_)
                    | refine Br.mkF (fun c => ?_) (fun c => ?_)
                    | refine Br.mk (fun c => ?_) (fun c => ?_))
        · have := hbad (hnB (by rw [he]; rfl))
          refine Br.f rfl ?_
          refine inner_n _ _ ?_
          repeat' (first
            | refine Chk.mk (by kernel_rfl) ?_
            | (apply Br.t; · (first | rfl | (simp only [*] <;> rfl)))
            | (apply Br.f; · (first | rfl | (simp only [*] <;> rfl)))
            | refine ⟨_, ⟨rfl, rfl⟩, ?_⟩
            | refine ⟨_, _, ⟨rfl, rfl⟩, rfl, ?_⟩
            | refine hbk _ _ ?_
            | refine Cal.frameK [0] (hbks _ fun _ => ?_) rfl rfl rfl
            | refine Or.inl ⟨_, fun s' => hrt s' _ ⟨rfl, rfl⟩, rfl, ?_⟩
            | refine Or.inl ⟨_, fun s' => hwr s' _ ⟨rfl, rfl⟩, rfl, ?_⟩
            | refine ⟨_, Ob.mk o13 ⟨rfl, rfl⟩, ?_⟩
            | refine ⟨_, Ob.mk ⟨rfl, o13⟩ ⟨rfl, rfl⟩, ?_⟩
            | refine ⟨_, Ob.mk (.inr rfl) ⟨_, hx2, ⟨rfl, rfl⟩⟩, ?_⟩
            | refine ⟨_, Ob.mk rfl (Ob.mk (.inr rfl) ⟨_, hx2s, ⟨rfl, rfl⟩⟩), ?_⟩
            | refine ⟨_, Ob.mk (.inr rfl) ⟨_, rfl, ⟨rfl, rfl⟩⟩, ?_⟩
            | exact this
            | exact ⟨1, [bu a], Nat.le_refl 1, (show 1 ≤ 2 by decide), rfl, rfl, WkS.refl _, this⟩
            | exact ⟨1, [bu a], Nat.le_refl 1, (show 1 ≤ 3 by decide), rfl, rfl, WkS.refl _, this⟩
            | refine ⟨_, Ob.mk (by decide) ⟨rfl, rfl⟩, ?_⟩
            | (refine ⟨_, Br.t ?_ ⟨rfl, rfl⟩, ?_⟩; · (first | rfl | (simp only [*] <;> rfl)))
            | (refine ⟨_, Br.f ?_ ⟨rfl, rfl⟩, ?_⟩; · (first | rfl | (simp only [*] <;> rfl)))
            | refine ⟨_, _, Ob.mk (okst rfl rfl rfl) ⟨rfl, rfl⟩, rfl, ?_⟩
            | refine Ob.mk (okst rfl rfl rfl) ?_
            | refine Ob.mk (by decide) ?_
            | refine Br.mkT (fun c => ?_) (fun c => ?_)
            | refine Br.mkF (fun c => ?_) (fun c => ?_)
            | refine Br.mk (fun c => ?_) (fun c => ?_))
set_option maxHeartbeats 16000000 in
theorem read1_s (a : List UInt8) (ha : a.length ≤ 1000000) (K : AV → Store → Prop) (h12 : (a.length < 12 ∨ (n1V a ≤ 4084 ∧ ((a.length : Int) < n1V a + 12 ∨ rd1 a = none))) → K (r3 bZv 0 12) [bu a]) (h13 : 12 ≤ a.length → 4084 < n1V a → K (r3 bZv 0 13) [bu a])
    (hok : 12 ≤ a.length → n1V a ≤ 4084 → n1V a + 12 ≤ (a.length : Int) → ∀ b, rd1 a = some b → b.small → ∀ k sz xs, WkD (.sl k sz xs) (rcP b.recs) → K (r3 (bN b (.sl k sz xs)) (n1V a + 12) 0) [bu a]) : Cal Tryz.prog 111 [ob 0 a] [bu a] K := by
  refine Cal.cut ?_
  refine Cal.intro Tryz.func111 (by decide +kernel) rfl rfl ?_
  have hla := bytesP_len a
  cases c1 : decide ((((bytesP a).length : Nat) : Int) < 12) with
  | true =>
    have := h12 (.inl (by have := of_decide_eq_true c1; omega))
    clear h12 h13 hok hla
    refine Br.t c1 ?_
    repeat' (first
      | refine Chk.mk (by kernel_rfl) ?_
      | (apply Br.t; · (first | rfl | (simp only [*] <;> rfl)))
      | (apply Br.f; · (first | rfl | (simp only [*] <;> rfl)))
      | refine ⟨_, ⟨rfl, rfl⟩, ?_⟩
      | refine ⟨_, _, ⟨rfl, rfl⟩, rfl, ?_⟩
      | exact this
      | exact ⟨1, [bu a], Nat.le_refl 1, (show 1 ≤ 2 by decide), rfl, rfl, WkS.refl _, this⟩
      | refine ⟨_, Ob.mk (by decide) ⟨rfl, rfl⟩, ?_⟩
      | (refine ⟨_, Br.t ?_ ⟨rfl, rfl⟩, ?_⟩; · (first | rfl | (simp only [*] <;> rfl)))
      | (refine ⟨_, Br.f ?_ ⟨rfl, rfl⟩, ?_⟩; · (first | rfl | (simp only [*] <;> rfl)))
      | refine ⟨_, _, Ob.mk (okst rfl rfl rfl) ⟨rfl, rfl⟩, rfl, ?_⟩
      | refine Ob.mk (okst rfl rfl rfl) ?_
      | refine Ob.mk (by decide) ?_
      | refine Br.mkT (fun c => ?_) (fun c => ?_)
      | refine Br.mkF (fun c => ?_) (fun c => ?_)
      | refine Br.mk (fun c => ?_) (fun c => ?_))
  | false =>
    have h12l : 12 ≤ a.length := by have := of_decide_eq_false c1; omega
    refine Br.f c1 ?_
    clear c1
    have g8 := getD_at 8 (show 8 < a.length by omega)
    have g9 := getD_at 9 (show 9 < a.length by omega)
    have g10 := getD_at 10 (show 10 < a.length by omega)
    have g11 := getD_at 11 (show 11 < a.length by omega)
    have z : ∀ k : Nat, (0 : Int) ≤ (k : Int) := Int.natCast_nonneg
    have hni : 0 ≤ n1V a ∧ n1V a < 4294967296 := n1W_in _ _ _ _
    obtain ⟨n, hn⟩ : ∃ n, n = n1V a := ⟨_, rfl⟩
    have hn2 := hn
    unfold n1V at hn2
    rw [← hn] at hni h12 h13 hok
    obtain ⟨w8, hw8⟩ : ∃ w, w = a.getD 8 0 := ⟨_, rfl⟩
    obtain ⟨w9, hw9⟩ : ∃ w, w = a.getD 9 0 := ⟨_, rfl⟩
    obtain ⟨w10, hw10⟩ : ∃ w, w = a.getD 10 0 := ⟨_, rfl⟩
    obtain ⟨w11, hw11⟩ : ∃ w, w = a.getD 11 0 := ⟨_, rfl⟩
    rw [← hw8, ← hw9, ← hw10, ← hw11] at hn2
    rw [← hw8] at g8
    rw [← hw9] at g9
    rw [← hw10] at g10
    rw [← hw11] at g11
    clear hw8 hw9 hw10 hw11
    have l8 : (8 : Int) < (((bytesP a).length : Nat) : Int) := by omega
    have l9 : (9 : Int) < (((bytesP a).length : Nat) : Int) := by omega
    have l10 : (10 : Int) < (((bytesP a).length : Nat) : Int) := by omega
    have l11 : (11 : Int) < (((bytesP a).length : Nat) : Int) := by omega
    have e1 : IntKind.i64.wrap (n1W w8 w9 w10 w11 + 12) = n1W w8 w9 w10 w11 + 12 := by rw [← hn2, wrap_i64] <;> omega
    have e2 : IntKind.i64.wrap (12 + n1W w8 w9 w10 w11) = n1W w8 w9 w10 w11 + 12 := by rw [← hn2, wrap_i64] <;> omega
    cases k2 : decide (IntKind.i64.wrap (n1W w8 w9 w10 w11 + 12) > 4096) with
    | true =>
      have := h13 h12l (by have := of_decide_eq_true k2; rw [e1, ← hn2] at this; omega)
      unfold n1W shW at k2
      clear h12 h13 hok hla e1 e2 hn hn2 hni
      repeat' (first
        | refine Chk.mk (by kernel_rfl) ?_
        | (apply Br.t; · (first | rfl | (simp only [*] <;> rfl)))
        | (apply Br.f; · (first | rfl | (simp only [*] <;> rfl)))
        | refine ⟨_, ⟨rfl, rfl⟩, ?_⟩
        | refine ⟨_, _, ⟨rfl, rfl⟩, rfl, ?_⟩
        | refine ⟨_, Idx.mk (.int .u8 (w8.toNat : Int)) (z 8) g8 ⟨rfl, rfl⟩, ?_⟩
        | refine ⟨_, Idx.mk (.int .u8 (w9.toNat : Int)) (z 9) g9 ⟨rfl, rfl⟩, ?_⟩
        | refine ⟨_, Idx.mk (.int .u8 (w10.toNat : Int)) (z 10) g10 ⟨rfl, rfl⟩, ?_⟩
        | refine ⟨_, Idx.mk (.int .u8 (w11.toNat : Int)) (z 11) g11 ⟨rfl, rfl⟩, ?_⟩
        | refine ⟨_, Ob.mk ⟨rfl, z 8, l8⟩ ⟨rfl, rfl⟩, ?_⟩
        | refine ⟨_, Ob.mk ⟨rfl, z 9, l9⟩ ⟨rfl, rfl⟩, ?_⟩
        | refine ⟨_, Ob.mk ⟨rfl, z 10, l10⟩ ⟨rfl, rfl⟩, ?_⟩
        | refine ⟨_, Ob.mk ⟨rfl, z 11, l11⟩ ⟨rfl, rfl⟩, ?_⟩
        | refine ⟨_, Ob.mk rfl (Idx.mk (.int .u8 (w8.toNat : Int)) (z 8) g8 ⟨rfl, rfl⟩), ?_⟩
        | refine ⟨_, Ob.mk rfl (Idx.mk (.int .u8 (w9.toNat : Int)) (z 9) g9 ⟨rfl, rfl⟩), ?_⟩
        | refine ⟨_, Ob.mk rfl (Idx.mk (.int .u8 (w10.toNat : Int)) (z 10) g10 ⟨rfl, rfl⟩), ?_⟩
        | refine ⟨_, Ob.mk rfl (Idx.mk (.int .u8 (w11.toNat : Int)) (z 11) g11 ⟨rfl, rfl⟩), ?_⟩
        | exact this
        | exact ⟨1, [bu a], Nat.le_refl 1, (show 1 ≤ 2 by decide), rfl, rfl, WkS.refl _, this⟩
        | refine ⟨_, Ob.mk (by decide) ⟨rfl, rfl⟩, ?_⟩
        | (refine ⟨_, Br.t ?_ ⟨rfl, rfl⟩, ?_⟩; · (first | rfl | (simp only [*] <;> rfl)))
        | (refine ⟨_, Br.f ?_ ⟨rfl, rfl⟩, ?_⟩; · (first | rfl | (simp only [*] <;> rfl)))
        | refine ⟨_, _, Ob.mk (okst rfl rfl rfl) ⟨rfl, rfl⟩, rfl, ?_⟩
        | refine Ob.mk (okst rfl rfl rfl) ?_
        | refine Ob.mk (by decide) ?_
        | refine Br.mkT (fun c => ?_) (fun c => ?_)
        | refine Br.mkF (fun c => ?_) (fun c => ?_)
        | refine Br.mk (fun c => ?_) (fun c => ?_))
    | false =>
      have hn4 : n ≤ 4084 := by have := of_decide_eq_false k2; rw [e1, ← hn2] at this; omega
      cases k3 : decide ((((bytesP a).length : Nat) : Int) < IntKind.i64.wrap (n1W w8 w9 w10 w11 + 12)) with
      | true =>
        have := h12 (.inr ⟨hn4, .inl (by have := of_decide_eq_true k3; rw [e1, ← hn2, hla] at this; omega)⟩)
        unfold n1W shW at k2 k3
        clear h12 h13 hok hla e1 e2 hn hn2 hni
        repeat' (first
          | refine Chk.mk (by kernel_rfl) ?_
          | (apply Br.t; · (first | rfl | (simp only [*] <;> rfl)))
          | (apply Br.f; · (first | rfl | (simp only [*] <;> rfl)))
          | refine ⟨_, ⟨rfl, rfl⟩, ?_⟩
          | refine ⟨_, _, ⟨rfl, rfl⟩, rfl, ?_⟩
          | refine ⟨_, Idx.mk (.int .u8 (w8.toNat : Int)) (z 8) g8 ⟨rfl, rfl⟩, ?_⟩
          | refine ⟨_, Idx.mk (.int .u8 (w9.toNat : Int)) (z 9) g9 ⟨rfl, rfl⟩, ?_⟩
          | refine ⟨_, Idx.mk (.int .u8 (w10.toNat : Int)) (z 10) g10 ⟨rfl, rfl⟩, ?_⟩
          | refine ⟨_, Idx.mk (.int .u8 (w11.toNat : Int)) (z 11) g11 ⟨rfl, rfl⟩, ?_⟩
          | refine ⟨_, Ob.mk ⟨rfl, z 8, l8⟩ ⟨rfl, rfl⟩, ?_⟩
          | refine ⟨_, Ob.mk ⟨rfl, z 9, l9⟩ ⟨rfl, rfl⟩, ?_⟩
          | refine ⟨_, Ob.mk ⟨rfl, z 10, l10⟩ ⟨rfl, rfl⟩, ?_⟩
          | refine ⟨_, Ob.mk ⟨rfl, z 11, l11⟩ ⟨rfl, rfl⟩, ?_⟩
          | refine ⟨_, Ob.mk rfl (Idx.mk (.int .u8 (w8.toNat : Int)) (z 8) g8 ⟨rfl, rfl⟩), ?_⟩
          | refine ⟨_, Ob.mk rfl (Idx.mk (.int .u8 (w9.toNat : Int)) (z 9) g9 ⟨rfl, rfl⟩), ?_⟩
          | refine ⟨_, Ob.mk rfl (Idx.mk (.int .u8 (w10.toNat : Int)) (z 10) g10 ⟨rfl, rfl⟩), ?_⟩
          | refine ⟨_, Ob.mk rfl (Idx.mk (.int .u8 (w11.toNat : Int)) (z 11) g11 ⟨rfl, rfl⟩), ?_⟩
          | exact this
          | exact ⟨1, [bu a], Nat.le_refl 1, (show 1 ≤ 2 by decide), rfl, rfl, WkS.refl _, this⟩
          | refine ⟨_, Ob.mk (by decide) ⟨rfl, rfl⟩, ?_⟩
          | (refine ⟨_, Br.t ?_ ⟨rfl, rfl⟩, ?_⟩; · (first | rfl | (simp only [*] <;> rfl)))
          | (refine ⟨_, Br.f ?_ ⟨rfl, rfl⟩, ?_⟩; · (first | rfl | (simp only [*] <;> rfl)))
          | refine ⟨_, _, Ob.mk (okst rfl rfl rfl) ⟨rfl, rfl⟩, rfl, ?_⟩
          | refine Ob.mk (okst rfl rfl rfl) ?_
          | refine Ob.mk (by decide) ?_
          | refine Br.mkT (fun c => ?_) (fun c => ?_)
          | refine Br.mkF (fun c => ?_) (fun c => ?_)
          | refine Br.mk (fun c => ?_) (fun c => ?_))
      | false =>
        have hnl : n + 12 ≤ (a.length : Int) := by have := of_decide_eq_false k3; rw [e1, ← hn2, hla] at this; omega
        have hbad : rd1 a = none → K (r3 bZv 0 12) _ := fun e => h12 (.inr ⟨hn4, .inr e⟩)
        have hgood := hok h12l hn4 hnl
        clear h12 h13 hok
        have o12 : (0 : Int) ≤ 12 ∧ (12 : Int) ≤ IntKind.i64.wrap (12 + n1W w8 w9 w10 w11) ∧ IntKind.i64.wrap (12 + n1W w8 w9 w10 w11) ≤ (((bytesP a).length : Nat) : Int) := by rw [e2, ← hn2, hla]; omega
        have o13 : (0 : Int) ≤ 0 ∧ (0 : Int) ≤ IntKind.i64.wrap (12 + n1W w8 w9 w10 w11) ∧ IntKind.i64.wrap (12 + n1W w8 w9 w10 w11) ≤ (((bytesP a).length : Nat) : Int) := by rw [e2, ← hn2, hla]; omega
        have hx1 : ((bytesP a).take (IntKind.i64.wrap (12 + n1W w8 w9 w10 w11)).toNat).drop (12 : Int).toNat = bytesP ((a.drop 12).take n.toNat) := by
          rw [e2, ← hn2, show (n + 12).toNat = 12 + n.toNat by omega]
          unfold bytesP
          rw [← List.map_take, ← List.map_drop, List.drop_take]
          congr 2
          show 12 + n.toNat - 12 = n.toNat
          omega
        have hx2 : ((bytesP a).take (IntKind.i64.wrap (12 + n1W w8 w9 w10 w11)).toNat).drop (0 : Int).toNat = bytesP (a.take (n + 12).toNat) := by
          rw [e2, ← hn2]; unfold bytesP; rw [← List.map_take]; rfl
        have hrd : rd1 a = if uOk ((a.drop 12).take n.toNat) = true then (match inO (((a.drop 12).take n.toNat).drop 4) with | none => none | some b => if rightV (b.at (bkR a)) = 0 ∧ wrB (b.at (bkR a)) = a.take (n + 12).toNat then some (b.at (bkR a)) else none) else none := by
          rw [hn]; rfl
        have hsgl : ((a.drop 12).take n.toNat).length ≤ 1000000 := by rw [List.length_take, List.length_drop]; omega
        have hnA : uOk ((a.drop 12).take n.toNat) = false → rd1 a = none := fun e => by rw [hrd, e]; rfl
        have hnB : inO (((a.drop 12).take n.toNat).drop 4) = none → rd1 a = none := fun e => by
          rw [hrd, e]; split <;> rfl
        have hnC : ∀ b, uOk ((a.drop 12).take n.toNat) = true → inO (((a.drop 12).take n.toNat).drop 4) = some b → ¬ (rightV (b.at (bkR a)) = 0 ∧ wrB (b.at (bkR a)) = a.take (n + 12).toNat) → rd1 a = none := fun b e0 e c => by
          rw [hrd, if_pos e0, e]; show (if _ then _ else _) = _; rw [if_neg c]
        have hnD : ∀ b, uOk ((a.drop 12).take n.toNat) = true → inO (((a.drop 12).take n.toNat).drop 4) = some b → rightV (b.at (bkR a)) = 0 → wrB (b.at (bkR a)) = a.take (n + 12).toNat → rd1 a = some (b.at (bkR a)) := fun b e0 e c d => by
          rw [hrd, if_pos e0, e]; show (if _ then _ else _) = _; rw [if_pos ⟨c, d⟩]
        have hinl : (((a.drop 12).take n.toNat).drop 4).length ≤ 1000000 := by rw [List.length_drop]; omega
        have hin := fun s K => inner_o (((a.drop 12).take n.toNat).drop 4) hinl s K
        have e3 : n + 12 = IntKind.i64.wrap (n1W w8 w9 w10 w11 + 12) := by rw [e1, hn2]
        rw [e3] at hgood
        have hus : ∀ K, (uOk ((a.drop 12).take n.toNat) = false → K (.tup [.p (.sl .nil 0 []), .p (.bool false)]) [bu a]) → (uOk ((a.drop 12).take n.toNat) = true → K (.tup [.p (bsl (((a.drop 12).take n.toNat).drop 4)), .p (.bool true)]) [bu a] ∧ (((a.drop 12).take n.toNat).drop 4 = [] → K (.tup [.p (.sl .clip 1 []), .p (.bool true)]) [bu a])) → Cal Tryz.prog 147 [.osl 0 (bytesP a).length (0 + (12 : Int).toNat) (IntKind.i64.wrap (12 + n1W w8 w9 w10 w11) - 12).toNat] [bu a] K := fun K q0 q1 => by
          have em : (IntKind.i64.wrap (12 + n1W w8 w9 w10 w11) - 12).toNat = n.toNat := by rw [e2, ← hn2]; omega
          rw [em]
          exact unseal_s a 12 n.toNat (by omega) ha K q0 q1
        have hx2s : ((bytesP a).drop (0 + (0 : Int).toNat)).take (IntKind.i64.wrap (12 + n1W w8 w9 w10 w11) - 0).toNat = bytesP (a.take (n + 12).toNat) := by
          rw [e2, ← hn2, show n + 12 - 0 = n + 12 by omega]; unfold bytesP; rw [List.map_take]; rfl
        have hbks := fun K => back1_s a ha K
        unfold n1W shW at k2 k3
        clear hrd hsgl hinl e1 e2 e3 hn hn2 hni hla hnl hn4
        repeat' (first
          | refine Chk.mk (by kernel_rfl) ?_
          | (apply Br.t; · (first | rfl | (simp only [*] <;> rfl)))
          | (apply Br.f; · (first | rfl | (simp only [*] <;> rfl)))
          | refine ⟨_, ⟨rfl, rfl⟩, ?_⟩
          | refine ⟨_, _, ⟨rfl, rfl⟩, rfl, ?_⟩
          | refine ⟨_, Idx.mk (.int .u8 (w8.toNat : Int)) (z 8) g8 ⟨rfl, rfl⟩, ?_⟩
          | refine ⟨_, Idx.mk (.int .u8 (w9.toNat : Int)) (z 9) g9 ⟨rfl, rfl⟩, ?_⟩
          | refine ⟨_, Idx.mk (.int .u8 (w10.toNat : Int)) (z 10) g10 ⟨rfl, rfl⟩, ?_⟩
          | refine ⟨_, Idx.mk (.int .u8 (w11.toNat : Int)) (z 11) g11 ⟨rfl, rfl⟩, ?_⟩
          | refine ⟨_, Ob.mk ⟨rfl, z 8, l8⟩ ⟨rfl, rfl⟩, ?_⟩
          | refine ⟨_, Ob.mk ⟨rfl, z 9, l9⟩ ⟨rfl, rfl⟩, ?_⟩
          | refine ⟨_, Ob.mk ⟨rfl, z 10, l10⟩ ⟨rfl, rfl⟩, ?_⟩
          | refine ⟨_, Ob.mk ⟨rfl, z 11, l11⟩ ⟨rfl, rfl⟩, ?_⟩
          | refine ⟨_, Ob.mk rfl (Idx.mk (.int .u8 (w8.toNat : Int)) (z 8) g8 ⟨rfl, rfl⟩), ?_⟩
          | refine ⟨_, Ob.mk rfl (Idx.mk (.int .u8 (w9.toNat : Int)) (z 9) g9 ⟨rfl, rfl⟩), ?_⟩
          | refine ⟨_, Ob.mk rfl (Idx.mk (.int .u8 (w10.toNat : Int)) (z 10) g10 ⟨rfl, rfl⟩), ?_⟩
          | refine ⟨_, Ob.mk rfl (Idx.mk (.int .u8 (w11.toNat : Int)) (z 11) g11 ⟨rfl, rfl⟩), ?_⟩
          | refine Ob.mk o12 ?_
          | refine Ob.mk ⟨rfl, o12⟩ ?_
          | refine ⟨_, Ob.mk (by decide) ⟨rfl, rfl⟩, ?_⟩
          | (refine ⟨_, Br.t ?_ ⟨rfl, rfl⟩, ?_⟩; · (first | rfl | (simp only [*] <;> rfl)))
          | (refine ⟨_, Br.f ?_ ⟨rfl, rfl⟩, ?_⟩; · (first | rfl | (simp only [*] <;> rfl)))
          | refine ⟨_, _, Ob.mk (okst rfl rfl rfl) ⟨rfl, rfl⟩, rfl, ?_⟩
          | refine Ob.mk (okst rfl rfl rfl) ?_
          | refine Ob.mk (by decide) ?_
          | refine Br.mkT (fun c => ?_) (fun c => ?_)
          | refine Br.mkF (fun c => ?_) (fun c => ?_)
          | refine Br.mk (fun c => ?_) (fun c => ?_))
        refine Cal.frameK [0] (hus _ (fun hu _ => ?_) (fun hu => ⟨fun _ => ?_, fun he _ => ?_⟩)) rfl rfl rfl
        · have := hbad (hnA hu)
          repeat' (first
            | refine Chk.mk (by kernel_rfl) ?_
            | (apply Br.t; · (first | rfl | (simp only [*] <;> rfl)))
            | (apply Br.f; · (first | rfl | (simp only [*] <;> rfl)))
            | refine ⟨_, ⟨rfl, rfl⟩, ?_⟩
            | refine ⟨_, _, ⟨rfl, rfl⟩, rfl, ?_⟩
            | refine hbk _ _ ?_
            | refine Cal.frameK [0] (hbks _ fun _ => ?_) rfl rfl rfl
            | refine Or.inl ⟨_, fun s' => hrt s' _ ⟨rfl, rfl⟩, rfl, ?_⟩
            | refine Or.inl ⟨_, fun s' => hwr s' _ ⟨rfl, rfl⟩, rfl, ?_⟩
            | refine ⟨_, Ob.mk o13 ⟨rfl, rfl⟩, ?_⟩
            | refine ⟨_, Ob.mk ⟨rfl, o13⟩ ⟨rfl, rfl⟩, ?_⟩
            | refine ⟨_, Ob.mk (.inr rfl) ⟨_, hx2, ⟨rfl, rfl⟩⟩, ?_⟩
            | refine ⟨_, Ob.mk rfl (Ob.mk (.inr rfl) ⟨_, hx2s, ⟨rfl, rfl⟩⟩), ?_⟩
            | refine ⟨_, Ob.mk (.inr rfl) ⟨_, rfl, ⟨rfl, rfl⟩⟩, ?_⟩
            | exact this
            | exact ⟨1, [bu a], Nat.le_refl 1, (show 1 ≤ 2 by decide), rfl, rfl, WkS.refl _, this⟩
            | exact ⟨1, [bu a], Nat.le_refl 1, (show 1 ≤ 3 by decide), rfl, rfl, WkS.refl _, this⟩
            | refine ⟨_, Ob.mk (by decide) ⟨rfl, rfl⟩, ?_⟩
            | (refine ⟨_, Br.t ?_ ⟨rfl, rfl⟩, ?_⟩; · (first | rfl | (simp only [*] <;> rfl)))
            | (refine ⟨_, Br.f ?_ ⟨rfl, rfl⟩, ?_⟩; · (first | rfl | (simp only [*] <;> rfl)))
            | refine ⟨_, _, Ob.mk (okst rfl rfl rfl) ⟨rfl, rfl⟩, rfl, ?_⟩
            | refine Ob.mk (okst rfl rfl rfl) ?_
            | refine Ob.mk (by decide) ?_
            | refine Br.mkT (fun c => ?_) (fun c => ?_)
            | refine Br.mkF (fun c => ?_) (fun c => ?_)
            | refine Br.mk (fun c => ?_) (fun c => ?_))
        · refine Br.f rfl ?_
          refine hin _ _ (fun hi => ?_) (fun b ok hf ht hR k sz xs hw => ?_)
          · have := hbad (hnB hi)
            repeat' (first
              | refine Chk.mk (by kernel_rfl) ?_
              | (apply Br.t; · (first | rfl | (simp only [*] <;> rfl)))
              | (apply Br.f; · (first | rfl | (simp only [*] <;> rfl)))
              | refine ⟨_, ⟨rfl, rfl⟩, ?_⟩
              | refine ⟨_, _, ⟨rfl, rfl⟩, rfl, ?_⟩
              | refine hbk _ _ ?_
              | refine Cal.frameK [0] (hbks _ fun _ => ?_) rfl rfl rfl
              | refine Or.inl ⟨_, fun s' => hrt s' _ ⟨rfl, rfl⟩, rfl, ?_⟩
              | refine Or.inl ⟨_, fun s' => hwr s' _ ⟨rfl, rfl⟩, rfl, ?_⟩
              | refine ⟨_, Ob.mk o13 ⟨rfl, rfl⟩, ?_⟩
              | refine ⟨_, Ob.mk ⟨rfl, o13⟩ ⟨rfl, rfl⟩, ?_⟩
              | refine ⟨_, Ob.mk (.inr rfl) ⟨_, hx2, ⟨rfl, rfl⟩⟩, ?_⟩
              | refine ⟨_, Ob.mk rfl (Ob.mk (.inr rfl) ⟨_, hx2s, ⟨rfl, rfl⟩⟩), ?_⟩
              | refine ⟨_, Ob.mk (.inr rfl) ⟨_, rfl, ⟨rfl, rfl⟩⟩, ?_⟩
              | exact this
              | exact ⟨1, [bu a], Nat.le_refl 1, (show 1 ≤ 2 by decide), rfl, rfl, WkS.refl _, this⟩
              | exact ⟨1, [bu a], Nat.le_refl 1, (show 1 ≤ 3 by decide), rfl, rfl, WkS.refl _, this⟩
              | refine ⟨_, Ob.mk (by decide) ⟨rfl, rfl⟩, ?_⟩
              | (refine ⟨_, Br.t ?_ ⟨rfl, rfl⟩, ?_⟩; · (first | rfl | (simp only [*] <;> rfl)))
              | (refine ⟨_, Br.f ?_ ⟨rfl, rfl⟩, ?_⟩; · (first | rfl | (simp only [*] <;> rfl)))
              | refine ⟨_, _, Ob.mk (okst rfl rfl rfl) ⟨rfl, rfl⟩, rfl, ?_⟩
              | refine Ob.mk (okst rfl rfl rfl) ?_
              | refine Ob.mk (by decide) ?_
              | refine Br.mkT (fun c => ?_) (fun c => ?_)
              | refine Br.mkF (fun c => ?_) (fun c => ?_)
              | refine Br.mk (fun c => ?_) (fun c => ?_))
          · have hsm : (b.at (bkR a)).small := ⟨by show b.recs.length ≤ _; omega, fun _ _ => trivial⟩
            have hrt : ∀ s K, K (.p (ii (rightV (b.at (bkR a))))) s → Cal Tryz.prog 37 [.p (bN (b.at (bkR a)) (.sl k sz xs))] s K := fun s K hK =>
              Cal.argsD (args' := [.p (b.at (bkR a)).pv]) (right1_c _ hsm s K hK) ⟨.inr ⟨_, _, rfl, rfl, wk_bN hw⟩, trivial⟩
            cases ok with
            | false =>
              have := hbad (hnB (hf rfl))
              clear hrt hin hgood hnA hnB hnC hnD hbad hf ht
              repeat' (first
                | refine Chk.mk (by kernel_rfl) ?_
                | (apply Br.t; · (first | rfl | (simp only [*] <;> rfl)))
                | (apply Br.f; · (first | rfl | (simp only [*] <;> rfl)))
                | refine ⟨_, ⟨rfl, rfl⟩, ?_⟩
                | refine ⟨_, _, ⟨rfl, rfl⟩, rfl, ?_⟩
                | refine hbk _ _ ?_
                | refine Cal.frameK [0] (hbks _ fun _ => ?_) rfl rfl rfl
                | refine Or.inl ⟨_, fun s' => hrt s' _ ⟨rfl, rfl⟩, rfl, ?_⟩
                | refine Or.inl ⟨_, fun s' => hwr s' _ ⟨rfl, rfl⟩, rfl, ?_⟩
                | refine ⟨_, Ob.mk o13 ⟨rfl, rfl⟩, ?_⟩
                | refine ⟨_, Ob.mk ⟨rfl, o13⟩ ⟨rfl, rfl⟩, ?_⟩
                | refine ⟨_, Ob.mk (.inr rfl) ⟨_, hx2, ⟨rfl, rfl⟩⟩, ?_⟩
                | refine ⟨_, Ob.mk rfl (Ob.mk (.inr rfl) ⟨_, hx2s, ⟨rfl, rfl⟩⟩), ?_⟩
                | refine ⟨_, Ob.mk (.inr rfl) ⟨_, rfl, ⟨rfl, rfl⟩⟩, ?_⟩
                | exact this
                | exact ⟨1, [bu a], Nat.le_refl 1, (show 1 ≤ 2 by decide), rfl, rfl, WkS.refl _, this⟩
                | exact ⟨1, [bu a], Nat.le_refl 1, (show 1 ≤ 3 by decide), rfl, rfl, WkS.refl _, this⟩
                | refine ⟨_, Ob.mk (by decide) ⟨rfl, rfl⟩, ?_⟩
                | (refine ⟨_, Br.t ?_ ⟨rfl, rfl⟩, ?_⟩; · (first | rfl | (simp only [*] <;> rfl)))
                | (refine ⟨_, Br.f ?_ ⟨rfl, rfl⟩, ?_⟩; · (first | rfl | (simp only [*] <;> rfl)))
                | refine ⟨_, _, Ob.mk (okst rfl rfl rfl) ⟨rfl, rfl⟩, rfl, ?_⟩
                | refine Ob.mk (okst rfl rfl rfl) ?_
                | refine Ob.mk (by decide) ?_
                | refine Br.mkT (fun c => ?_) (fun c => ?_)
                | refine Br.mkF (fun c => ?_) (fun c => ?_)
                | refine Br.mk (fun c => ?_) (fun c => ?_))
            | true =>
              have hi := ht rfl
              cases k4 : (rightV (b.at (bkR a)) != 0) with
              | true =>
                have := hbad (hnC b hu hi (fun h => by rw [h.1] at k4; exact absurd k4 (by decide)))
                clear hin hgood hnA hnB hnC hnD hbad hf ht hi
                generalize rightV (b.at (bkR a)) = rv at hrt k4
                repeat' (first
                  | refine Chk.mk (by kernel_rfl) ?_
                  | (apply Br.t; · (first | rfl | (simp only [*] <;> rfl)))
                  | (apply Br.f; · (first | rfl | (simp only [*] <;> rfl)))
                  | refine ⟨_, ⟨rfl, rfl⟩, ?_⟩
                  | refine ⟨_, _, ⟨rfl, rfl⟩, rfl, ?_⟩
                  | refine hbk _ _ ?_
                  | refine Cal.frameK [0] (hbks _ fun _ => ?_) rfl rfl rfl
                  | refine Or.inl ⟨_, fun s' => hrt s' _ ⟨rfl, rfl⟩, rfl, ?_⟩
                  | refine Or.inl ⟨_, fun s' => hwr s' _ ⟨rfl, rfl⟩, rfl, ?_⟩
                  | refine ⟨_, Ob.mk o13 ⟨rfl, rfl⟩, ?_⟩
                  | refine ⟨_, Ob.mk ⟨rfl, o13⟩ ⟨rfl, rfl⟩, ?_⟩
                  | refine ⟨_, Ob.mk (.inr rfl) ⟨_, hx2, ⟨rfl, rfl⟩⟩, ?_⟩
                  | refine ⟨_, Ob.mk rfl (Ob.mk (.inr rfl) ⟨_, hx2s, ⟨rfl, rfl⟩⟩), ?_⟩
                  | refine ⟨_, Ob.mk (.inr rfl) ⟨_, rfl, ⟨rfl, rfl⟩⟩, ?_⟩
                  | exact this
                  | exact ⟨1, [bu a], Nat.le_refl 1, (show 1 ≤ 2 by decide), rfl, rfl, WkS.refl _, this⟩
                  | exact ⟨1, [bu a], Nat.le_refl 1, (show 1 ≤ 3 by decide), rfl, rfl, WkS.refl _, this⟩
                  | refine ⟨_, Ob.mk (by decide) ⟨rfl, rfl⟩, ?_⟩
                  | (refine ⟨_, Br.t ?_ ⟨rfl, rfl⟩, ?_⟩; · (first | rfl | (simp only [*] <;> rfl)))
                  | (refine ⟨_, Br.f ?_ ⟨rfl, rfl⟩, ?_⟩; · (first | rfl | (simp only [*] <;> rfl)))
                  | refine ⟨_, _, Ob.mk (okst rfl rfl rfl) ⟨rfl, rfl⟩, rfl, ?_⟩
                  | refine Ob.mk (okst rfl rfl rfl) ?_
                  | refine Ob.mk (by decide) ?_
                  | refine Br.mkT (fun c => ?_) (fun c => ?_)
                  | refine Br.mkF (fun c => ?_) (fun c => ?_)
                  | refine Br.mk (fun c => ?_) (fun c => ?_))
              | false =>
                have hr0 : rightV (b.at (bkR a)) = 0 := by simpa using k4
                have hwr : ∀ s K, K (.p (bsl (wrB (b.at (bkR a))))) s → Cal Tryz.prog 68 [.p (bN (b.at (bkR a)) (.sl k sz xs))] s K := fun s K hK =>
                  Cal.argsD (args' := [.p (b.at (bkR a)).pv]) (write_c _ (right_shrt hr0) s K hK) ⟨.inr ⟨_, _, rfl, rfl, wk_bN hw⟩, trivial⟩
                cases k5 : (!(wrB (b.at (bkR a)) == a.take (n + 12).toNat)) with
                | true =>
                  have := hbad (hnC b hu hi (fun h => by rw [h.2] at k5; simp at k5))
                  clear hin hgood hnA hnB hnC hnD hbad hf ht hi hr0
                  generalize rightV (b.at (bkR a)) = rv at hrt k4
                  generalize wrB (b.at (bkR a)) = wv at hwr k5
                  repeat' (first
                    | refine Chk.mk (by kernel_rfl) ?_
                    | (apply Br.t; · (first | rfl | (simp only [*] <;> rfl)))
                    | (apply Br.f; · (first | rfl | (simp only [*] <;> rfl)))
                    | refine ⟨_, ⟨rfl, rfl⟩, ?_⟩
                    | refine ⟨_, _, ⟨rfl, rfl⟩, rfl, ?_⟩
                    | refine hbk _ _ ?_
                    | refine Cal.frameK [0] (hbks _ fun _ => ?_) rfl rfl rfl
                    | refine Or.inl ⟨_, fun s' => hrt s' _ ⟨rfl, rfl⟩, rfl, ?_⟩
                    | refine Or.inl ⟨_, fun s' => hwr s' _ ⟨rfl, rfl⟩, rfl, ?_⟩
                    | refine ⟨_, Ob.mk o13 ⟨rfl, rfl⟩, ?_⟩
                    | refine ⟨_, Ob.mk ⟨rfl, o13⟩ ⟨rfl, rfl⟩, ?_⟩
                    | refine ⟨_, Ob.mk (.inr rfl) ⟨_, hx2, ⟨rfl, rfl⟩⟩, ?_⟩
                    | refine ⟨_, Ob.mk rfl (Ob.mk (.inr rfl) ⟨_, hx2s, ⟨rfl, rfl⟩⟩), ?_⟩
                    | refine ⟨_, Ob.mk (.inr rfl) ⟨_, rfl, ⟨rfl, rfl⟩⟩, ?_⟩
                    | exact this
                    | exact ⟨1, [bu a], Nat.le_refl 1, (show 1 ≤ 2 by decide), rfl, rfl, WkS.refl _, this⟩
                    | exact ⟨1, [bu a], Nat.le_refl 1, (show 1 ≤ 3 by decide), rfl, rfl, WkS.refl _, this⟩
                    | refine ⟨_, Ob.mk (by decide) ⟨rfl, rfl⟩, ?_⟩
                    | (refine ⟨_, Br.t ?_ ⟨rfl, rfl⟩, ?_⟩; · (first | rfl | (simp only [*] <;> rfl)))
                    | (refine ⟨_, Br.f ?_ ⟨rfl, rfl⟩, ?_⟩; · (first | rfl | (simp only [*] <;> rfl)))
                    | refine ⟨_, _, Ob.mk (okst rfl rfl rfl) ⟨rfl, rfl⟩, rfl, ?_⟩
                    | refine Ob.mk (okst rfl rfl rfl) ?_
                    | refine Ob.mk (by decide) ?_
                    | refine Br.mkT (fun c => ?_) (fun c => ?_)
                    | refine Br.mkF (fun c => ?_) (fun c => ?_)
                    | refine Br.mk (fun c => ?_) (fun c => ?_))
                | false =>
                  have := hgood (b.at (bkR a)) (hnD b hu hi hr0 (by simpa using k5)) hsm k sz xs hw
                  clear hin hgood hnA hnB hnC hnD hbad hf ht hi hr0
                  generalize rightV (b.at (bkR a)) = rv at hrt k4
                  generalize wrB (b.at (bkR a)) = wv at hwr k5
                  repeat' (first
                    | refine Chk.mk (by kernel_rfl) ?_
                    | (apply Br.t; · (first | rfl | (simp only [*] <;> rfl)))
                    | (apply Br.f; · (first | rfl | (simp only [*] <;> rfl)))
                    | refine ⟨_, ⟨rfl, rfl⟩, ?_⟩
                    | refine ⟨_, _, ⟨rfl, rfl⟩, rfl, ?_⟩
                    | refine hbk _ _ ?_
                    | refine Cal.frameK [0] (hbks _ fun _ => ?_) rfl rfl rfl
                    | refine Or.inl ⟨_, fun s' => hrt s' _ ⟨rfl, rfl⟩, rfl, ?_⟩
                    | refine Or.inl ⟨_, fun s' => hwr s' _ ⟨rfl, rfl⟩, rfl, ?_⟩
                    | refine ⟨_, Ob.mk o13 ⟨rfl, rfl⟩, ?_⟩
                    | refine ⟨_, Ob.mk ⟨rfl, o13⟩ ⟨rfl, rfl⟩, ?_⟩
                    | refine ⟨_, Ob.mk (.inr rfl) ⟨_, hx2, ⟨rfl, rfl⟩⟩, ?_⟩
                    | refine ⟨_, Ob.mk rfl (Ob.mk (.inr rfl) ⟨_, hx2s, ⟨rfl, rfl⟩⟩), ?_⟩
                    | refine ⟨_, Ob.mk (.inr rfl) ⟨_, rfl, ⟨rfl, rfl⟩⟩, ?_⟩
                    | exact this
                    | exact ⟨1, [bu a], Nat.le_refl 1, (show 1 ≤ 2 by decide), rfl, rfl, WkS.refl _, this⟩
                    | exact ⟨1, [bu a], Nat.le_refl 1, (show 1 ≤ 3 by decide), rfl, rfl, WkS.refl _, this⟩
                    | refine ⟨_, Ob.mk (by decide) ⟨rfl, rfl⟩, ?_⟩
                    | (refine ⟨_, Br.t ?_ ⟨rfl, rfl⟩, ?_⟩; · (first | rfl | (simp only [*] <;> rfl)))
                    | (refine ⟨_, Br.f ?_ ⟨rfl, rfl⟩, ?_⟩; · (first | rfl | (simp only [*] <;> rfl)))
                    | refine ⟨_, _, Ob.mk (okst rfl rfl rfl) ⟨rfl, rfl⟩, rfl, ?_⟩
                    | refine Ob.mk (okst rfl rfl rfl) ?_
                    | refine Ob.mk (by decide) ?_
                    | refine Br.mkT (fun c => ?_) (fun c => ?_)
                    | refine Br.mkF (fun c => ?_) (fun c => ?_)
                    | refine Br.mk (fun c => ?_) (fun c => ?_))
        · have := hbad (hnB (by rw [he]; rfl))
          refine Br.f rfl ?_
          refine inner_n _ _ ?_
          repeat' (first
            | refine Chk.mk (by kernel_rfl) ?_
            | (apply Br.t; · (first | rfl | (simp only [*] <;> rfl)))
            | (apply Br.f; · (first | rfl | (simp only [*] <;> rfl)))
            | refine ⟨_, ⟨rfl, rfl⟩, ?_⟩
            | refine ⟨_, _, ⟨rfl, rfl⟩, rfl, ?_⟩
            | refine hbk _ _ ?_
            | refine Cal.frameK [0] (hbks _ fun _ => ?_) rfl rfl rfl
            | refine Or.inl ⟨_, fun s' => hrt s' _ ⟨rfl, rfl⟩, rfl, ?_⟩
            | refine Or.inl ⟨_, fun s' => hwr s' _ ⟨rfl, rfl⟩, rfl, ?_⟩
            | refine ⟨_, Ob.mk o13 ⟨rfl, rfl⟩, ?_⟩
            | refine ⟨_, Ob.mk ⟨rfl, o13⟩ ⟨rfl, rfl⟩, ?_⟩
            | refine ⟨_, Ob.mk (.inr rfl) ⟨_, hx2, ⟨rfl, rfl⟩⟩, ?_⟩
            | refine ⟨_, Ob.mk rfl (Ob.mk (.inr rfl) ⟨_, hx2s, ⟨rfl, rfl⟩⟩), ?_⟩
            | refine ⟨_, Ob.mk (.inr rfl) ⟨_, rfl, ⟨rfl, rfl⟩⟩, ?_⟩
            | exact this
            | exact ⟨1, [bu a], Nat.le_refl 1, (show 1 ≤ 2 by decide), rfl, rfl, WkS.refl _, this⟩
            | exact ⟨1, [bu a], Nat.le_refl 1, (show 1 ≤ 3 by decide), rfl, rfl, WkS.refl _, this⟩
            | refine ⟨_, Ob.mk (by decide) ⟨rfl, rfl⟩, ?_⟩
            | (refine ⟨_, Br.t ?_ ⟨rfl, rfl⟩, ?_⟩; · (first | rfl | (simp only [*] <;> rfl)))
            | (refine ⟨_, Br.f ?_ ⟨rfl, rfl⟩, ?_⟩; · (first | rfl | (simp only [*] <;> rfl)))
            | refine ⟨_, _, Ob.mk (okst rfl rfl rfl) ⟨rfl, rfl⟩, rfl, ?_⟩
            | refine Ob.mk (okst rfl rfl rfl) ?_
            | refine Ob.mk (by decide) ?_
            | refine Br.mkT (fun c => ?_) (fun c => ?_)
            | refine Br.mkF (fun c => ?_) (fun c => ?_)
            | refine Br.mk (fun c => ?_) (fun c => ?_))
end Go.Proofs.YtjhgmaephpadpaaGreat.AW


open Go Go.Proofs.YtjhgmaephpadpaaGreat.AW Go.Proofs
namespace Go.Proofs.YtjhgmaephpadpaaGreat.AW
set_option maxRecDepth 100000
set_option linter.unusedSimpArgs false
set_option linter.unusedVariables false

/-! ### ref14.Raw; ref6.Bytes, owned -/
def rawV (cap st : Int) (L : List Bt) (a : List UInt8) : (Int × Int) × List Bt :=
  if a.length < 12 then ((-1, 12), L) else if 4084 < n1V a then ((-1, 13), L) else if (a.length : Int) < n1V a + 12 then ((-1, 12), L)
  else match rd1 a with
    | none => ((-1, 12), L)
    | some b => if n1V a + 12 = (a.length : Int) then prodV cap st L b else ((-1, 12), L)
theorem raw_12 {cap st : Int} {L : List Bt} {a : List UInt8} (h : a.length < 12 ∨ (n1V a ≤ 4084 ∧ ((a.length : Int) < n1V a + 12 ∨ rd1 a = none))) : rawV cap st L a = ((-1, 12), L) := by
  unfold rawV
  by_cases h1 : a.length < 12
  · rw [if_pos h1]
  · rw [if_neg h1]
    rcases h with h | ⟨h2, h3⟩
    · exact absurd h h1
    · rw [if_neg (by omega)]
      rcases h3 with h3 | h3
      · rw [if_pos h3]
      · rw [h3]; split <;> rfl
theorem raw_13 {cap st : Int} {L : List Bt} {a : List UInt8} (h : 12 ≤ a.length) (h2 : 4084 < n1V a) : rawV cap st L a = ((-1, 13), L) := by
  unfold rawV
  rw [if_neg (by omega), if_pos h2]
theorem raw_ok {cap st : Int} {L : List Bt} {a : List UInt8} {b : Bt} (h : 12 ≤ a.length) (h2 : n1V a ≤ 4084) (h3 : n1V a + 12 ≤ (a.length : Int)) (hb : rd1 a = some b) : rawV cap st L a = if n1V a + 12 = (a.length : Int) then prodV cap st L b else ((-1, 12), L) := by
  unfold rawV
  rw [if_neg (by omega), if_neg (by omega), if_neg (by omega), hb]
theorem raw_ans {cap st : Int} {L : List Bt} (a : List UInt8) (h : RowC st L) (h0 : 0 ≤ st) (h1 : st ≤ 1099511627776) : Ans cap st L (rawV cap st L a) := by
  unfold rawV
  repeat' split
  all_goals first | exact .same h _ (.inr rfl) | exact prod_ans _ h h0 h1
set_option maxHeartbeats 8000000 in
theorem mraw_c (cap st : Int) (L : List Bt) (hL : L.length + 1 ≤ 1000000000) (hbs : ∀ b, b ∈ L → b.small) (a : List UInt8) (ha : a.length ≤ 1000000) (K : AV → Store → Prop) (h : K (i2 (rawV cap st L a).1) (mS cap st (rawV cap st L a).2)) : Cal Tryz.prog 80 [.ref 0 0, .p (bsl a)] (mS cap st L) K := by
  refine Cal.cut ?_
  refine Cal.intro Tryz.func80 (by decide +kernel) rfl rfl ?_
  refine read1_c a ha _ _ (fun hh => ?_) (fun hh1 hh2 => ?_) (fun hh1 hh2 hh3 b hb hs k sz xs hw => ?_)
  · have hv := raw_12 (cap := cap) (st := st) (L := L) hh
    rw [hv] at h
    repeat' (first
      | (apply Br.t; · (first | rfl | (simp only [*] <;> rfl)))
      | (apply Br.f; · (first | rfl | (simp only [*] <;> rfl)))
      | refine Ob.mk (okst rfl rfl rfl) ?_
      | exact ⟨1, _, Nat.le_refl _, (by show 1 ≤ 1 + 1; decide), rfl, rfl, WkS.refl _, h⟩
      | refine Br.mkT (fun c => ?_) (fun c => ?_)
      | refine Br.mkF (fun c => ?_) (fun c => ?_)
      | refine Br.mk (fun c => ?_) (fun c => ?_))
  · have hv := raw_13 (cap := cap) (st := st) (L := L) hh1 hh2
    rw [hv] at h
    repeat' (first
      | (apply Br.t; · (first | rfl | (simp only [*] <;> rfl)))
      | (apply Br.f; · (first | rfl | (simp only [*] <;> rfl)))
      | refine Ob.mk (okst rfl rfl rfl) ?_
      | exact ⟨1, _, Nat.le_refl _, (by show 1 ≤ 1 + 1; decide), rfl, rfl, WkS.refl _, h⟩
      | refine Br.mkT (fun c => ?_) (fun c => ?_)
      | refine Br.mkF (fun c => ?_) (fun c => ?_)
      | refine Br.mk (fun c => ?_) (fun c => ?_))
  · have hv := raw_ok (cap := cap) (st := st) (L := L) hh1 hh2 hh3 hb
    rw [hv] at h
    have hpn : ∀ K, K (i2 (prodV cap st L b).1) (mS cap st (prodV cap st L b).2) → Cal Tryz.prog 13 [.ref 0 0, .p (bN b (.sl k sz xs))] (mS cap st L) K := fun K hK =>
      Cal.argsD (args' := [.ref 0 0, .p b.pv]) (mprod_c cap st L hL hbs b hs K hK) ⟨.inl rfl, .inr ⟨_, _, rfl, rfl, wk_bN hw⟩, trivial⟩
    cases k1 : (n1V a + 12 != (((bytesP a).length : Nat) : Int)) with
    | true =>
      rw [if_neg (by rw [bytesP_len] at k1; simpa using k1)] at h
      clear hpn
      repeat' (first
        | (apply Br.t; · (first | rfl | (simp only [*] <;> rfl)))
        | (apply Br.f; · (first | rfl | (simp only [*] <;> rfl)))
        | refine Ob.mk (okst rfl rfl rfl) ?_
        | exact ⟨1, _, Nat.le_refl _, (by show 1 ≤ 1 + 1; decide), rfl, rfl, WkS.refl _, h⟩
        | refine Br.mkT (fun c => ?_) (fun c => ?_)
        | refine Br.mkF (fun c => ?_) (fun c => ?_)
        | refine Br.mk (fun c => ?_) (fun c => ?_))
    | false =>
      rw [if_pos (by rw [bytesP_len] at k1; simpa using k1)] at h
      generalize prodV cap st L b = r at h hpn
      repeat' (first
        | (apply Br.t; · (first | rfl | (simp only [*] <;> rfl)))
        | (apply Br.f; · (first | rfl | (simp only [*] <;> rfl)))
        | refine Ob.mk (okst rfl rfl rfl) ?_
        | refine Cal.frameK [0] (hpn _ fun _ => ?_) rfl rfl rfl
        | exact ⟨1, _, Nat.le_refl _, (by show 1 ≤ 1 + 1; decide), rfl, rfl, WkS.refl _, h⟩
        | refine Br.mkT (fun c => ?_) (fun c => ?_)
        | refine Br.mkF (fun c => ?_) (fun c => ?_)
        | refine Br.mk (fun c => ?_) (fun c => ?_))
set_option maxHeartbeats 8000000 in
theorem mraw_s (cap st : Int) (L : List Bt) (hL : L.length + 1 ≤ 1000000000) (hbs : ∀ b, b ∈ L → b.small) (a : List UInt8) (ha : a.length ≤ 1000000) (K : AV → Store → Prop) (h : K (i2 (rawV cap st L a).1) [mC cap st (rawV cap st L a).2, bu a]) : Cal Tryz.prog 80 [.ref 0 0, ob 1 a] [mC cap st L, bu a] K := by
  refine Cal.cut ?_
  refine Cal.intro Tryz.func80 (by decide +kernel) rfl rfl ?_
  refine Cal.frameK [1] (read1_s a ha _ (fun hh _ => ?_) (fun hh1 hh2 _ => ?_) (fun hh1 hh2 hh3 b hb hs k sz xs hw _ => ?_)) rfl rfl rfl
  · have hv := raw_12 (cap := cap) (st := st) (L := L) hh
    rw [hv] at h
    repeat' (first
      | (apply Br.t; · (first | rfl | (simp only [*] <;> rfl)))
      | (apply Br.f; · (first | rfl | (simp only [*] <;> rfl)))
      | refine Ob.mk (okst rfl rfl rfl) ?_
      | exact ⟨2, _, Nat.le_refl _, (by show 2 ≤ 2 + 1; decide), rfl, rfl, WkS.refl _, h⟩
      | refine Br.mkT (fun c => ?_) (fun c => ?_)
      | refine Br.mkF (fun c => ?_) (fun c => ?_)
      | refine Br.mk (fun c => ?_) (fun c => ?_))
  · have hv := raw_13 (cap := cap) (st := st) (L := L) hh1 hh2
    rw [hv] at h
    repeat' (first
      | (apply Br.t; · (first | rfl | (simp only [*] <;> rfl)))
      | (apply Br.f; · (first | rfl | (simp only [*] <;> rfl)))
      | refine Ob.mk (okst rfl rfl rfl) ?_
      | exact ⟨2, _, Nat.le_refl _, (by show 2 ≤ 2 + 1; decide), rfl, rfl, WkS.refl _, h⟩
      | refine Br.mkT (fun c => ?_) (fun c => ?_)
      | refine Br.mkF (fun c => ?_) (fun c => ?_)
      | refine Br.mk (fun c => ?_) (fun c => ?_))
  · have hv := raw_ok (cap := cap) (st := st) (L := L) hh1 hh2 hh3 hb
    rw [hv] at h
    have hpn : ∀ K, K (i2 (prodV cap st L b).1) (mS cap st (prodV cap st L b).2) → Cal Tryz.prog 13 [.ref 0 0, .p (bN b (.sl k sz xs))] (mS cap st L) K := fun K hK =>
      Cal.argsD (args' := [.ref 0 0, .p b.pv]) (mprod_c cap st L hL hbs b hs K hK) ⟨.inl rfl, .inr ⟨_, _, rfl, rfl, wk_bN hw⟩, trivial⟩
    cases k1 : (n1V a + 12 != (((bytesP a).length : Nat) : Int)) with
    | true =>
      rw [if_neg (by rw [bytesP_len] at k1; simpa using k1)] at h
      clear hpn
      repeat' (first
        | (apply Br.t; · (first | rfl | (simp only [*] <;> rfl)))
        | (apply Br.f; · (first | rfl | (simp only [*] <;> rfl)))
        | refine Ob.mk (okst rfl rfl rfl) ?_
        | exact ⟨2, _, Nat.le_refl _, (by show 2 ≤ 2 + 1; decide), rfl, rfl, WkS.refl _, h⟩
        | refine Br.mkT (fun c => ?_) (fun c => ?_)
        | refine Br.mkF (fun c => ?_) (fun c => ?_)
        | refine Br.mk (fun c => ?_) (fun c => ?_))
    | false =>
      rw [if_pos (by rw [bytesP_len] at k1; simpa using k1)] at h
      generalize prodV cap st L b = r at h hpn
      repeat' (first
        | (apply Br.t; · (first | rfl | (simp only [*] <;> rfl)))
        | (apply Br.f; · (first | rfl | (simp only [*] <;> rfl)))
        | refine Ob.mk (okst rfl rfl rfl) ?_
        | refine Cal.frameK [0] (hpn _ fun _ => ?_) rfl rfl rfl
        | exact ⟨2, _, Nat.le_refl _, (by show 2 ≤ 2 + 1; decide), rfl, rfl, WkS.refl _, h⟩
        | refine Br.mkT (fun c => ?_) (fun c => ?_)
        | refine Br.mkF (fun c => ?_) (fun c => ?_)
        | refine Br.mk (fun c => ?_) (fun c => ?_))
set_option maxHeartbeats 8000000 in
theorem bytes_o (b : Bt) (hb : b.small) (K : AV → Store → Prop) (h0 : rightV b ≠ 0 → K (.tup [.p (.sl .nil 0 []), .p (ii (rightV b))]) []) (h1 : rightV b = 0 → K (.tup [ob 0 (wrB b), .p (ii 0)]) [bu (wrB b)]) : Cal Tryz.prog 45 [.p b.pv] [] K := by
  refine Cal.mvOut ?_
  refine Cal.intro Tryz.func45 (by decide +kernel) rfl rfl ?_
  refine right1_c b hb _ _ ?_
  cases k1 : (rightV b != 0) with
  | true =>
    have := h0 (by simpa using k1)
    generalize rightV b = v at this k1 ⊢
    clear h0 h1
    repeat' (first
      | (apply Br.t; · (first | rfl | (simp only [*] <;> rfl)))
      | (apply Br.f; · (first | rfl | (simp only [*] <;> rfl)))
      | refine Ob.mk (okst rfl rfl rfl) ?_
      | exact ⟨[], _, [], rfl, rfl, rfl, this⟩
      | refine Br.mkT (fun c => ?_) (fun c => ?_)
      | refine Br.mkF (fun c => ?_) (fun c => ?_)
      | refine Br.mk (fun c => ?_) (fun c => ?_))
  | false =>
    have hr : rightV b = 0 := by simpa using k1
    have := h1 hr
    clear h0 h1
    refine Br.f k1 ?_
    refine Cal.frameK [] (write_0 b (right_shrt hr) _ fun _ => ?_) rfl rfl rfl
    exact ⟨[6], .tup [ob 0 (wrB b), .p (ii 0)], [bu (wrB b)], rfl, rfl, rfl, this⟩
end Go.Proofs.YtjhgmaephpadpaaGreat.AW


open Go Go.Proofs.YtjhgmaephpadpaaGreat.AW Go.Proofs
namespace Go.Proofs.YtjhgmaephpadpaaGreat.AW
set_option maxRecDepth 100000
set_option linter.unusedSimpArgs false
set_option linter.unusedVariables false

/-! ### Acts -/
structure Ac where
  kind : Int
  b : Bt
  bytes : List UInt8
  frm : Int
  n : Int
  only : Bool
  keeps : List Int
  garb : List UInt8
def acC (kind : Int) (b : Bt) (r bs : PV) (frm n : Int) (only : Bool) (ks gs : PV) : List PV := [ii kind, ii b.base, ii b.prod, ii b.epoch, ii b.seq, .bool b.txn, ii b.mark, r, bs, ii frm, ii n, .bool only, ks, gs]
def Ac.cs (x : Ac) : List PV := acC x.kind x.b (rcP x.b.recs) (bsl x.bytes) x.frm x.n x.only (kl x.keeps) (bsl x.garb)
def Ac.pv (x : Ac) : PV := .agg x.cs
def acsP (A : List Ac) : PV := .sl .shr 14 (A.map Ac.pv)
theorem ac_el {A : List Ac} : ∀ y, y ∈ A.map Ac.pv → El 14 y := fun y hy => by
  obtain ⟨u, _, rfl⟩ := List.mem_map.1 hy; exact ⟨rfl, rfl⟩
theorem acsL (A : List Ac) : (A.map Ac.pv).length = A.length := List.length_map ..
def b0 : Bt := ⟨0, 0, 0, 0, false, 0, []⟩
theorem wk_acC {kind : Int} {b : Bt} {r bs : PV} {frm n : Int} {only : Bool} {bytes : List UInt8} (hr : WkD r (rcP b.recs)) (hb : WkD bs (bsl bytes)) : WkDs (acC kind b r bs frm n only (.sl .nil 0 []) (.sl .nil 0 [])) (Ac.cs ⟨kind, b, bytes, frm, n, only, [], []⟩) :=
  .cons _ _ _ _ (.refl _) (.cons _ _ _ _ (.refl _) (.cons _ _ _ _ (.refl _) (.cons _ _ _ _ (.refl _) (.cons _ _ _ _ (.refl _) (.cons _ _ _ _ (.refl _) (.cons _ _ _ _ (.refl _) (.cons _ _ _ _ hr (.cons _ _ _ _ hb (.cons _ _ _ _ (.refl _) (.cons _ _ _ _ (.refl _) (.cons _ _ _ _ (.refl _) (.cons _ _ _ _ (.nil 0 .shr 1) (.cons _ _ _ _ (.nil 0 .shr 1) .nil)))))))))))))
theorem wk_acs : ∀ {xs : List (List PV)} {ys : List Ac}, xs.length = ys.length → (∀ i (h1 : i < xs.length) (h2 : i < ys.length), WkDs xs[i] ys[i].cs) → WkDs (flat (xs.map PV.agg)) (flat (ys.map Ac.pv))
  | [], [], _, _ => .nil
  | x :: xs, y :: ys, hl, h => (h 0 (by simp) (by simp)).append (wk_acs (by simpa using hl) fun i h1 h2 => h (i + 1) (by simpa using h1) (by simpa using h2))
  | [], _ :: _, hl, _ => by simp at hl
  | _ :: _, [], hl, _ => by simp at hl
theorem wk_ac1 {x : List PV} {y : Ac} (h : WkDs x y.cs) : WkD (.sl .clip 14 [.agg x]) (acsP [y]) := .sl .clip 14 _ _ rfl ac_el (wk_acs (xs := [x]) (ys := [y]) rfl fun i h1 h2 => by
  match i, h1 with
  | 0, _ => exact h)
theorem wk_ac2 {x1 x2 : List PV} {y1 y2 : Ac} (h1 : WkDs x1 y1.cs) (h2 : WkDs x2 y2.cs) : WkD (.sl .clip 14 [.agg x1, .agg x2]) (acsP [y1, y2]) := .sl .clip 14 _ _ rfl ac_el (wk_acs (xs := [x1, x2]) (ys := [y1, y2]) rfl fun i h3 h4 => by
  match i, h3 with
  | 0, _ => exact h1
  | 1, _ => exact h2)
theorem wk_ac3 {x1 x2 x3 : List PV} {y1 y2 y3 : Ac} (h1 : WkDs x1 y1.cs) (h2 : WkDs x2 y2.cs) (h3 : WkDs x3 y3.cs) : WkD (.sl .clip 14 [.agg x1, .agg x2, .agg x3]) (acsP [y1, y2, y3]) := .sl .clip 14 _ _ rfl ac_el (wk_acs (xs := [x1, x2, x3]) (ys := [y1, y2, y3]) rfl fun i h4 h5 => by
  match i, h4 with
  | 0, _ => exact h1
  | 1, _ => exact h2
  | 2, _ => exact h3)
theorem wk_ac0 {kind : Int} {bs : PV} {frm n : Int} {only : Bool} {bytes : List UInt8} (hb : WkD bs (bsl bytes)) : WkDs (acC kind b0 (.sl .nil 0 []) bs frm n only (.sl .nil 0 []) (.sl .nil 0 [])) (Ac.cs ⟨kind, b0, bytes, frm, n, only, [], []⟩) := wk_acC (b := b0) (.nil 0 .shr 2) hb
/-- What an act of a tape is like. -/
def AcOk (x : Ac) : Prop := x.b.small ∧ x.bytes.length ≤ 4096
theorem ok0 {kind frm n : Int} {only : Bool} : AcOk ⟨kind, b0, [], frm, n, only, [], []⟩ := ⟨⟨Nat.zero_le _, fun _ _ => trivial⟩, Nat.zero_le _⟩
theorem okb {kind frm n : Int} {only : Bool} {b : Bt} (h : b.small) : AcOk ⟨kind, b, [], frm, n, only, [], []⟩ := ⟨h, Nat.zero_le _⟩
theorem okx {kind frm n : Int} {only : Bool} {x : List UInt8} (h : x.length ≤ 4096) : AcOk ⟨kind, b0, x, frm, n, only, [], []⟩ := ⟨⟨Nat.zero_le _, fun _ _ => trivial⟩, h⟩
theorem w0 : WkD (.sl .nil 0 []) (rcP []) := .nil 0 .shr 2
theorem w1 : WkD (.sl .nil 0 []) (bsl []) := .nil 0 .shr 1
theorem wr_len {b : Bt} (h : rightV b = 0) : (wrB b).length ≤ 4096 := by
  unfold rightV at h
  split at h
  · rename_i h1; rw [h] at h1; exact absurd h1 (by decide)
  · split at h
    · exact absurd h (by decide)
    · rename_i h2
      simp only [decide_eq_true_eq] at h2
      rw [bytesP_len] at h2
      omega
theorem all1 {P : Ac → Prop} {x : Ac} (h : P x) : ∀ y, y ∈ [x] → P y := fun y hy => by rw [List.mem_singleton.1 hy]; exact h
attribute [local irreducible] nxV nxA btR prodV markV rawV in
set_option maxHeartbeats 16000000 in
theorem act_c (l : List Int) (a : Nat) (hl : l.length ≤ 9223372036854775807) (ha : a ≤ l.length) (cap st : Int) (L : List Bt) (hL : L.length + 1 ≤ 1000000) (hC : RowC st L) (h0 : 0 ≤ st) (h1 : st ≤ 1099511627776) (K : AV → Store → Prop)
    (h : ∀ (A : List Ac) (a' : Nat) (st' : Int) (M : List Bt), (∀ x, x ∈ A → AcOk x) → 1 ≤ A.length → A.length ≤ 3 → a' ≤ l.length → RowC st' M → 0 ≤ st' → st' ≤ 1099511627776 → M.length ≤ L.length + 1 → K (.p (acsP A)) [tp l a', mC cap st' M]) : Cal Tryz.prog 46 [.ref 0 0, .ref 1 0] [tp l a, mC cap st L] K := by
  refine Cal.weakD ?_
  refine Cal.cut ?_
  refine Cal.intro Tryz.func46 (by decide +kernel) rfl rfl ?_
  refine Cal.frameK [1] (mend_c cap st L (by omega) _ fun _ => ?_) rfl rfl rfl
  generalize endW st L = en
  refine Cal.frameK [0] (next_c l a 20 hl ha _ fun _ => ?_) rfl rfl rfl
  have ha1 := nxA_le (n := 20) ha
  generalize nxA l a 20 = a1 at ha1 ⊢
  generalize nxV l a 20 = k
  have hsame : ∀ A a', (∀ x, x ∈ A → AcOk x) → 1 ≤ A.length → A.length ≤ 3 → a' ≤ l.length → K (.p (acsP A)) [tp l a', mC cap st L] := fun A a' q1 q2 q3 q4 => h A a' st L q1 q2 q3 q4 hC h0 h1 (Nat.le_succ _)
  have hans : ∀ A a' r, (∀ x, x ∈ A → AcOk x) → 1 ≤ A.length → A.length ≤ 3 → a' ≤ l.length → Ans cap st L r → K (.p (acsP A)) [tp l a', mC cap st r.2] := fun A a' r q1 q2 q3 q4 q5 => h A a' st r.2 q1 q2 q3 q4 q5.row h0 h1 q5.len
  have hans1 : ∀ x a' r, AcOk x → a' ≤ l.length → Ans cap st L r → K (.p (acsP [x])) [tp l a', mC cap st r.2] := fun x a' r q1 q2 q3 => hans [x] a' r (all1 q1) (Nat.le_refl 1) (show 1 ≤ 3 by decide) q2 q3
  have hsam1 : ∀ x a', AcOk x → a' ≤ l.length → K (.p (acsP [x])) [tp l a', mC cap st L] := fun x a' q1 q2 => hsame [x] a' (all1 q1) (Nat.le_refl 1) (show 1 ≤ 3 by decide) q2
  refine Br.mk (fun c1 => ?_) (fun c1 => ?_)
  · clear c1
    refine Cal.frameK [0, 1] (ask_c l a1 hl ha1 cap st L (by omega) hC.smalls _ fun b a2 hb ha2 _ => ?_) rfl rfl rfl
    have hbs := hb.small
    refine Ob.mk (okst rfl rfl rfl) ?_
    refine Br.mk (fun c2 => ?_) (fun c2 => ?_)
    · refine Cal.frameK [1] (mmark_c cap st L (by omega) hC.smalls b.prod b.epoch b.mark _ fun _ => ?_) rfl rfl rfl
      have := hans1 ⟨3, b, [], 0, 0, false, [], []⟩ a2 _ (okb hbs) ha2 (mark_ans b.prod b.epoch b.mark hC h0 h1)
      exact ⟨2, _, Nat.le_refl 2, (show 2 ≤ 3 by decide), rfl, rfl, WkS.refl _, _, _, rfl, wk_ac1 (wk_acC (.refl _) w1), this⟩
    · refine Cal.frameK [0] (next_c l a2 5 hl ha2 _ fun _ => ?_) rfl rfl rfl
      have ha3 := nxA_le (n := 5) ha2
      generalize nxA l a2 5 = a3 at ha3 ⊢
      generalize nxV l a2 5 = k3
      refine Br.mk (fun c3 => ?_) (fun c3 => ?_)
      · refine Cal.frameK [] (bytes_o b hbs _ (fun hr _ => ?_) (fun hr _ => ?_)) rfl rfl rfl
        · have hraw : ∀ K, K (i2 (rawV cap st L []).1) (mS cap st (rawV cap st L []).2) → Cal Tryz.prog 80 [.ref 0 0, .p (.sl .nil 0 [])] (mS cap st L) K := fun K hK =>
            Cal.argsD (args' := [.ref 0 0, .p (bsl [])]) (mraw_c cap st L (by omega) hC.smalls [] (by decide) K hK) ⟨.inl rfl, .inr ⟨_, _, rfl, rfl, w1⟩, trivial⟩
          refine Cal.frameK [1] (hraw _ fun _ => ?_) rfl rfl rfl
          have := hans1 ⟨2, b0, [], 0, 0, false, [], []⟩ a3 _ ok0 ha3 (raw_ans [] hC h0 h1)
          repeat refine Br.f rfl ?_
          exact ⟨2, _, Nat.le_refl 2, (show 2 ≤ 3 by decide), rfl, rfl, WkS.refl _, _, _, rfl, wk_ac1 (wk_ac0 w1), this⟩
        · have hwl := wr_len hr
          have hw36 := wrB_len b
          have hra := raw_ans (cap := cap) (wrB b) hC h0 h1
          generalize wrB b = x at hwl hw36 hra ⊢
          refine Cal.frameK [1, 3] (mraw_s cap st L (by omega) hC.smalls x (by omega) _ fun _ => ?_) rfl rfl rfl
          generalize rawV cap st L x = r at hra ⊢
          have hpos : decide ((((bytesP x).length : Nat) : Int) > 0) = true := decide_eq_true (by rw [bytesP_len]; omega)
          have hm1 : ∀ y : List UInt8, y.length ≤ 4096 → ∀ a', a' ≤ l.length → K (.p (acsP [⟨2, b0, y, 0, 0, false, [], []⟩])) [tp l a', mC cap st r.2] := fun y hy a' q => hans1 ⟨2, b0, y, 0, 0, false, [], []⟩ a' r (okx hy) q hra
          have hn4 := fun K => next_c l a3 4 hl ha3 K
          have ha4 := nxA_le (n := 4) ha3
          generalize nxA l a3 4 = a4 at ha4 hn4
          generalize nxV l a3 4 = k4 at hn4
          cases c4 : (k4 == 0) with
          | false =>
            have := hm1 x hwl a4 ha4
            clear hm1 hra hans hans1 hsame hsam1 h hwl hw36
            repeat' (first
              | (apply Br.t; · (first | rfl | (simp only [*] <;> rfl)))
              | (apply Br.f; · (first | rfl | (simp only [*] <;> rfl)))
              | refine Ob.mk (okst rfl rfl rfl) ?_
              | refine Cal.frameK [0] (hn4 _ fun _ => ?_) rfl rfl rfl
              | refine Br.mkT (fun c => ?_) (fun c => ?_)
              | refine Br.mkF (fun c => ?_) (fun c => ?_)
              | refine Br.mk (fun c => ?_) (fun c => ?_))
            refine Or.inl ?_
            refine Ob.mk rfl ?_
            exact ⟨2, _, Nat.le_refl 2, (show 2 ≤ 4 by decide), rfl, rfl, WkS.refl _, _, _, rfl, wk_ac1 (wk_ac0 (by rw [cut_all]; exact .refl _)), this⟩
          | true =>
            have hlen : 1 ≤ (((bytesP x).length : Nat) : Int) := by rw [bytesP_len]; omega
            obtain ⟨v1, v2⟩ := nxV_in (l := l) (a := a4) hlen
            have hn5 := fun K => next_c l a4 ((((bytesP x).length : Nat) : Int)) hl ha4 K
            have ha5 := nxA_le (n := (((bytesP x).length : Nat) : Int)) ha4
            generalize nxA l a4 ((((bytesP x).length : Nat) : Int)) = a5 at ha5 hn5
            generalize nxV l a4 ((((bytesP x).length : Nat) : Int)) = ix at v1 v2 hn5
            have hn6 := fun K => next_c l a5 255 hl ha5 K
            have ha6 := nxA_le (n := 255) ha5
            generalize nxA l a5 255 = a6 at ha6 hn6
            generalize nxV l a5 255 = ky at hn6
            obtain ⟨m, hm⟩ : ∃ m : Nat, ix = (m : Int) := ⟨ix.toNat, by omega⟩
            subst hm
            have hmx : m < x.length := by rw [bytesP_len] at v2; omega
            have hg : (bytesP x)[((0 + ((m : Nat) : Int).toNat : Nat) : Int).toNat]? = some (.int .u8 ((x[m]).toNat : Int)) := by rw [Nat.zero_add, Int.toNat_natCast]; exact getB hmx
            have o1 : (bytesP x).length = (bytesP x).length ∧ (0 : Int) ≤ ((m : Nat) : Int) ∧ ((m : Nat) : Int) < (((bytesP x).length : Nat) : Int) := ⟨rfl, v1, v2⟩
            have o2 : (bytesP x).length = (bytesP x).length ∧ 0 + ((m : Nat) : Int).toNat < (bytesP x).length := ⟨rfl, by rw [Int.toNat_natCast]; omega⟩
            clear hra hans hans1 hsame hsam1 h hw36 hlen v1 v2
            repeat' (first
              | refine Chk.mk (by kernel_rfl) ?_
              | (apply Br.t; · (first | rfl | (simp only [*] <;> rfl)))
              | (apply Br.f; · (first | rfl | (simp only [*] <;> rfl)))
              | refine ⟨_, ⟨rfl, rfl⟩, ?_⟩
              | refine ⟨_, _, ⟨rfl, rfl⟩, rfl, ?_⟩
              | refine Cal.frameK [0] (hn4 _ fun _ => ?_) rfl rfl rfl
              | refine .inr <| .inl ⟨[0], _, _, _, _, hn5 _ ⟨rfl, rfl⟩, rfl, rfl, rfl, ?_⟩
              | refine .inr <| .inl ⟨[0], _, _, _, _, hn6 _ ⟨rfl, rfl⟩, rfl, rfl, rfl, ?_⟩
              | refine ⟨_, Ob.mk o1 ⟨rfl, rfl⟩, ?_⟩
              | refine ⟨_, Ob.mk rfl (Idx.mk (.int .u8 ((x[m]).toNat : Int)) (Int.natCast_nonneg _) hg ⟨rfl, rfl⟩), ?_⟩
              | refine ⟨_, _, Ob.mk o2 ⟨rfl, rfl⟩, rfl, ?_⟩
              | refine ⟨_, Ob.mk (by decide) ⟨rfl, rfl⟩, ?_⟩
              | (refine ⟨_, Br.t ?_ ⟨rfl, rfl⟩, ?_⟩; · (first | rfl | (simp only [*] <;> rfl)))
              | (refine ⟨_, Br.f ?_ ⟨rfl, rfl⟩, ?_⟩; · (first | rfl | (simp only [*] <;> rfl)))
              | refine ⟨_, _, Ob.mk (okst rfl rfl rfl) ⟨rfl, rfl⟩, rfl, ?_⟩
              | refine Ob.mk (okst rfl rfl rfl) ?_
              | refine Ob.mk (by decide) ?_
              | refine Br.mkT (fun c => ?_) (fun c => ?_)
              | refine Br.mkF (fun c => ?_) (fun c => ?_)
              | refine Br.mk (fun c => ?_) (fun c => ?_))
            obtain ⟨y, hy1, hy2⟩ : ∃ y : List UInt8, y.length = x.length ∧ (bytesP x).set (0 + ((m : Nat) : Int).toNat) (.int .u8 (bits .xor .u8 ((x[m]).toNat : Int) (IntKind.u8.wrap (IntKind.i64.wrap (1 + ky))))) = bytesP y := by
              refine ⟨x.set m (u8 (((BitVec.ofInt 8 ((x[m]).toNat : Int) ^^^ BitVec.ofInt 8 (IntKind.u8.wrap (IntKind.i64.wrap (1 + ky)))).toNat : Nat) : Int)), List.length_set .., ?_⟩
              unfold bytesP
              rw [List.map_set, Nat.zero_add, Int.toNat_natCast]
              congr 1
              exact congrArg (PV.int .u8) (u8_w _)
            have := hm1 y (by rw [hy1]; exact hwl) a6 ha6
            refine Or.inl ?_
            refine Ob.mk (List.length_set ..) ?_
            have hcut : WkD (.sl .shr 1 ((((bytesP x).set (0 + ((m : Nat) : Int).toNat) (.int .u8 (bits .xor .u8 ((x[m]).toNat : Int) (IntKind.u8.wrap (IntKind.i64.wrap (1 + ky)))))).drop 0).take (bytesP x).length)) (bsl y) := by
              rw [hy2, show (bytesP x).length = (bytesP y).length by rw [bytesP_len, bytesP_len, hy1], cut_all]; exact .refl _
            exact ⟨2, _, Nat.le_refl 2, (show 2 ≤ 4 by decide), rfl, rfl, WkS.refl _, _, _, rfl, wk_ac1 (wk_ac0 hcut), this⟩
      · refine Cal.frameK [1] (mprod_c cap st L (by omega) hC.smalls b hbs _ fun _ => ?_) rfl rfl rfl
        have := hans1 ⟨1, b, [], 0, 0, false, [], []⟩ a3 _ (okb hbs) ha3 (prod_ans b hC h0 h1)
        exact ⟨2, _, Nat.le_refl 2, (show 2 ≤ 3 by decide), rfl, rfl, WkS.refl _, _, _, rfl, wk_ac1 (wk_acC (.refl _) w1), this⟩
  · cases c2 : decide (k < 15) with
    | true =>
      have hn1 := fun K => next_c l a1 (IntKind.i64.wrap (en + 3)) hl ha1 K
      have ha2 := nxA_le (n := IntKind.i64.wrap (en + 3)) ha1
      generalize nxA l a1 (IntKind.i64.wrap (en + 3)) = a2 at ha2 hn1
      generalize nxV l a1 (IntKind.i64.wrap (en + 3)) = v1 at hn1
      have hn2 := fun K => next_c l a2 20 hl ha2 K
      have ha3 := nxA_le (n := 20) ha2
      generalize nxA l a2 20 = a3 at ha3 hn2
      generalize nxV l a2 20 = v2 at hn2
      have hn3 := fun K => next_c l a3 2 hl ha3 K
      have ha4 := nxA_le (n := 2) ha3
      generalize nxA l a3 2 = a4 at ha4 hn3
      generalize nxV l a3 2 = v3 at hn3
      have := hsam1 ⟨4, b0, [], IntKind.i64.wrap (v1 - 1), v2, v3 == 0, [], []⟩ a4 ok0 ha4
      clear hans hans1 hsame hsam1 h
      repeat' (first
        | (apply Br.t; · (first | rfl | (simp only [*] <;> rfl)))
        | (apply Br.f; · (first | rfl | (simp only [*] <;> rfl)))
        | refine Ob.mk (okst rfl rfl rfl) ?_
        | refine Cal.frameK [0] (hn1 _ fun _ => ?_) rfl rfl rfl
        | refine Cal.frameK [0] (hn2 _ fun _ => ?_) rfl rfl rfl
        | refine Cal.frameK [0] (hn3 _ fun _ => ?_) rfl rfl rfl
        | refine Br.mkT (fun c => ?_) (fun c => ?_)
        | refine Br.mkF (fun c => ?_) (fun c => ?_)
        | refine Br.mk (fun c => ?_) (fun c => ?_))
      exact ⟨2, _, Nat.le_refl 2, (show 2 ≤ 2 by decide), rfl, rfl, WkS.refl _, _, _, rfl, wk_ac1 (wk_ac0 w1), this⟩
    | false =>
      cases c3 : (k == 15) with
      | true =>
        have hn1 := fun K => next_c l a1 (IntKind.i64.wrap (en + 2)) hl ha1 K
        have ha2 := nxA_le (n := IntKind.i64.wrap (en + 2)) ha1
        generalize nxA l a1 (IntKind.i64.wrap (en + 2)) = a2 at ha2 hn1
        generalize nxV l a1 (IntKind.i64.wrap (en + 2)) = v1 at hn1
        have hkp := fun K => mkeep_c cap st L (by omega) hC v1 K
        obtain ⟨kk, q1, q2, q3, q4, q5, q6, q7, q8, q9⟩ := kp_law hC h0 h1 v1
        have := h [⟨6, b0, [], v1, 0, false, [], []⟩] a2 _ _ (all1 ok0) (Nat.le_refl 1) (show 1 ≤ 3 by decide) ha2 q8 (by omega) q7 (by rw [List.length_drop]; omega)
        rw [q3] at hkp
        generalize kpS st L v1 = sn at hkp this
        generalize L.drop kk = M at hkp this
        clear hans hans1 hsame hsam1 h q1 q2 q3 q4 q5 q6 q7 q8 q9
        repeat' (first
          | (apply Br.t; · (first | rfl | (simp only [*] <;> rfl)))
          | (apply Br.f; · (first | rfl | (simp only [*] <;> rfl)))
          | refine Ob.mk (okst rfl rfl rfl) ?_
          | refine Cal.frameK [0] (hn1 _ fun _ => ?_) rfl rfl rfl
          | refine Cal.frameK [1] (hkp _ fun _ => ?_) rfl rfl rfl
          | refine Br.mkT (fun c => ?_) (fun c => ?_)
          | refine Br.mkF (fun c => ?_) (fun c => ?_)
          | refine Br.mk (fun c => ?_) (fun c => ?_))
        exact ⟨2, _, Nat.le_refl 2, (show 2 ≤ 2 by decide), rfl, rfl, WkS.refl _, _, _, rfl, wk_ac1 (wk_ac0 w1), this⟩
      | false =>
        cases c4 : (k == 16) with
        | true =>
          have := hsame [⟨7, b0, [], 0, 0, false, [], []⟩, ⟨8, b0, [], 0, 0, false, [], []⟩] a1 (fun x hx => by
            rcases List.mem_cons.1 hx with rfl | hx
            · exact ok0
            · rw [List.mem_singleton.1 hx]; exact ok0) (show 1 ≤ 2 by decide) (show 2 ≤ 3 by decide) ha1
          clear hans hans1 hsame hsam1 h
          repeat' (first
            | (apply Br.t; · (first | rfl | (simp only [*] <;> rfl)))
            | (apply Br.f; · (first | rfl | (simp only [*] <;> rfl)))
            | refine Ob.mk (okst rfl rfl rfl) ?_
            | refine Br.mkT (fun c => ?_) (fun c => ?_)
            | refine Br.mkF (fun c => ?_) (fun c => ?_)
            | refine Br.mk (fun c => ?_) (fun c => ?_))
          exact ⟨2, _, Nat.le_refl 2, (show 2 ≤ 2 by decide), rfl, rfl, WkS.refl _, _, _, rfl, wk_ac2 (wk_ac0 w1) (wk_ac0 w1), this⟩
        | false =>
          cases c5 : (k == 17) with
          | true =>
            have hn1 := fun K => next_c l a1 1048576 hl ha1 K
            have ha2 := nxA_le (n := 1048576) ha1
            generalize nxA l a1 1048576 = a2 at ha2 hn1
            generalize nxV l a1 1048576 = v1 at hn1
            have := hsame [⟨7, b0, [], 0, 0, false, [], []⟩, ⟨11, b0, [], v1, 0, false, [], []⟩, ⟨8, b0, [], 0, 0, false, [], []⟩] a2 (fun x hx => by
              rcases List.mem_cons.1 hx with rfl | hx
              · exact ok0
              · rcases List.mem_cons.1 hx with rfl | hx
                · exact ok0
                · rw [List.mem_singleton.1 hx]; exact ok0) (show 1 ≤ 3 by decide) (show 3 ≤ 3 by decide) ha2
            clear hans hans1 hsame hsam1 h
            repeat' (first
              | (apply Br.t; · (first | rfl | (simp only [*] <;> rfl)))
              | (apply Br.f; · (first | rfl | (simp only [*] <;> rfl)))
              | refine Ob.mk (okst rfl rfl rfl) ?_
              | refine Cal.frameK [0] (hn1 _ fun _ => ?_) rfl rfl rfl
              | refine Br.mkT (fun c => ?_) (fun c => ?_)
              | refine Br.mkF (fun c => ?_) (fun c => ?_)
              | refine Br.mk (fun c => ?_) (fun c => ?_))
            exact ⟨2, _, Nat.le_refl 2, (show 2 ≤ 2 by decide), rfl, rfl, WkS.refl _, _, _, rfl, wk_ac3 (wk_ac0 w1) (wk_ac0 w1) (wk_ac0 w1), this⟩
          | false =>
            have := hsam1 ⟨5, b0, [], 0, 0, false, [], []⟩ a1 ok0 ha1
            clear hans hans1 hsame hsam1 h
            repeat' (first
              | (apply Br.t; · (first | rfl | (simp only [*] <;> rfl)))
              | (apply Br.f; · (first | rfl | (simp only [*] <;> rfl)))
              | refine Ob.mk (okst rfl rfl rfl) ?_
              | refine Br.mkT (fun c => ?_) (fun c => ?_)
              | refine Br.mkF (fun c => ?_) (fun c => ?_)
              | refine Br.mk (fun c => ?_) (fun c => ?_))
            exact ⟨2, _, Nat.le_refl 2, (show 2 ≤ 2 by decide), rfl, rfl, WkS.refl _, _, _, rfl, wk_ac1 (wk_ac0 w1), this⟩
end Go.Proofs.YtjhgmaephpadpaaGreat.AW


open Go Go.Proofs.YtjhgmaephpadpaaGreat.AW Go.Proofs
namespace Go.Proofs.YtjhgmaephpadpaaGreat.AW
set_option maxRecDepth 100000
set_option linter.unusedSimpArgs false
set_option linter.unusedVariables false

set_option maxHeartbeats 16000000 in
theorem acts_c (l : List Int) (most : Nat) (hl : l.length ≤ 9223372036854775807) (hm : most ≤ 1000) (s : Store) (K : AV → Store → Prop) (h : ∀ A : List Ac, (∀ x, x ∈ A → AcOk x) → A.length ≤ most + 2 → K (.p (acsP A)) s) : Cal Tryz.prog 23 [.p (kl l), .p (ii (most : Nat))] s K := by
  refine Cal.pure (args := [kl l, ii (most : Nat)]) ?_
  refine Cal.intro Tryz.func23 (by decide +kernel) rfl rfl ?_
  refine LoopX.famW [0, 1, 5, 6, 7] (fun (q : List Ac × Nat × Int × List Bt) => ([(0, .p (kl l)), (1, .p (ii (most : Nat))), (5, .ref 0 0), (6, .ref 1 0), (7, .osl 2 (q.1.map Ac.pv).length 0 (q.1.map Ac.pv).length)], [tp l q.2.1, mcv q.1.length 1073741824 q.2.2.1 q.2.2.2, some (.buf 14 (q.1.map Ac.pv))]))
    (fun q => (∀ x, x ∈ q.1 → AcOk x) ∧ q.2.2.2.length ≤ q.1.length ∧ q.2.1 ≤ l.length ∧ RowC q.2.2.1 q.2.2.2 ∧ (0 ≤ q.2.2.1 ∧ q.2.2.1 ≤ 1099511627776) ∧ q.1.length ≤ most + 2) (fun q => most + 3 - q.1.length) ([], 0, 0, []) ⟨(fun x hx => by cases hx), Nat.le_refl _, Nat.zero_le _, RowC.nil, ⟨Int.le_refl _, by decide⟩, Nat.zero_le _⟩ (by show 2 ≤ 3; decide)
    (Trim.wk 2 [(14, none)] rfl (by show 2 ≤ 2; decide) (.inr rfl) rfl rfl rfl rfl rfl ⟨.inl rfl, .inl rfl, .inl rfl, .inl rfl, .own 2 rfl rfl, trivial⟩) ?_
  rintro ⟨A, a, st, M⟩ ⟨hA, hM, ha, hC, ⟨h0, h1⟩, hlen⟩
  have hA : ∀ x, x ∈ A → AcOk x := hA
  have hM : M.length ≤ A.length := hM
  have ha : a ≤ l.length := ha
  have hC : RowC st M := hC
  have h0 : 0 ≤ st := h0
  have h1 : st ≤ 1099511627776 := h1
  have hlen : A.length ≤ most + 2 := hlen
  have hfin : K (.p (.sl .shr 14 (((A.map Ac.pv).drop 0).take (A.map Ac.pv).length))) s := by
    rw [cut_all]; exact h A hA hlen
  have hAl := acsL A
  have hwl : WkL [.p (ii 1073741824), .p (ii st), .p (rv A.length M)] [.p (ii 1073741824), .p (ii st), .p (rowP M)] := ⟨.inl rfl, .inl rfl, .inr ⟨_, _, rfl, rfl, wk_rv A.length M (fun e => List.eq_nil_of_length_eq_zero (by omega))⟩, trivial⟩
  have hact : ∀ K, (∀ (B : List Ac) (a' : Nat) (st' : Int) (N : List Bt), (∀ x, x ∈ B → AcOk x) → 1 ≤ B.length → B.length ≤ 3 → a' ≤ l.length → RowC st' N → 0 ≤ st' → st' ≤ 1099511627776 → N.length ≤ M.length + 1 → K (.p (acsP B)) [tp l a', mC 1073741824 st' N]) → Cal Tryz.prog 46 [.ref 0 0, .ref 1 0] [tp l a, mcv A.length 1073741824 st M] K := fun K hk =>
    Cal.tellIn 1 rfl hwl (act_c l a hl ha 1073741824 st M (by omega) hC h0 h1 K hk)
  have hlk : (l.map ii).length = l.length := List.length_map ..
  cases k1 : decide (((((A.map Ac.pv).length : Nat) : Nat) : Int) < ((most : Nat) : Int)) with
  | false =>
    clear hAl hlk
    repeat' (first
      | (apply Br.t; · (first | rfl | (simp only [*] <;> rfl)))
      | (apply Br.f; · (first | rfl | (simp only [*] <;> rfl)))
      | refine Ob.mk (okst rfl rfl rfl) ?_
      | refine Br.mkT (fun c => ?_) (fun c => ?_)
      | refine Br.mkF (fun c => ?_) (fun c => ?_)
      | refine Br.mk (fun c => ?_) (fun c => ?_))
    exact Ob.mk rfl hfin
  | true =>
    have hlt : A.length < most := by have := of_decide_eq_true k1; omega
    cases k2 : decide (((a : Nat) : Int) < (((l.map ii).length : Nat) : Int)) with
    | false =>
      clear hAl hlk
      repeat' (first
        | (apply Br.t; · (first | rfl | (simp only [*] <;> rfl)))
        | (apply Br.f; · (first | rfl | (simp only [*] <;> rfl)))
        | refine Ob.mk (okst rfl rfl rfl) ?_
        | refine Br.mkT (fun c => ?_) (fun c => ?_)
        | refine Br.mkF (fun c => ?_) (fun c => ?_)
        | refine Br.mk (fun c => ?_) (fun c => ?_))
      exact Ob.mk rfl hfin
    | true =>
      clear hlk
      have hAl2 : ((A.map Ac.pv).length + 0) ≤ 1002 := by omega
      clear hAl
      repeat' (first
        | (apply Br.t; · (first | rfl | (simp only [*] <;> rfl)))
        | (apply Br.f; · (first | rfl | (simp only [*] <;> rfl)))
        | refine Ob.mk (okst rfl rfl rfl) ?_
        | refine Br.mkT (fun c => ?_) (fun c => ?_)
        | refine Br.mkF (fun c => ?_) (fun c => ?_)
        | refine Br.mk (fun c => ?_) (fun c => ?_))
      refine Cal.frameK [0, 1] (hact _ fun B a' st' N hB hB1 hB3 ha' hC' h0' h1' hN _ => ?_) rfl rfl rfl
      refine Ob.mk ⟨rfl, rfl, rfl, ?_⟩ ?_
      · show ((A.map Ac.pv).length + (B.map Ac.pv).length) * 176 ≤ _
        rw [acsL B]; omega
      have hn1 : 1 ≤ (A ++ B).length := by rw [List.length_append]; omega
      obtain ⟨w, hw⟩ : ∃ w, (A ++ B).length = w + 1 := ⟨(A ++ B).length - 1, by omega⟩
      refine ⟨(A ++ B, a', st', N), ⟨fun x hx => ?_, by show N.length ≤ (A ++ B).length; rw [List.length_append]; omega, ha', hC', ⟨h0', h1'⟩, by show (A ++ B).length ≤ most + 2; rw [List.length_append]; omega⟩, by show most + 3 - (A ++ B).length < most + 3 - A.length; rw [List.length_append]; omega, (by show (2 : Nat) ≤ 3; decide), Trim.mk' ?_ ?_ rfl ?_ (by show (3 : Nat) ≤ 3; decide)⟩
      · rcases List.mem_append.1 hx with hx | hx
        · exact hA x hx
        · exact hB x hx
      · refine Eq.trans (b := [_, _, _, _, (7, AV.osl 2 (A.map Ac.pv ++ B.map Ac.pv).length 0 (A.map Ac.pv ++ B.map Ac.pv).length)]) rfl ?_
        rw [← List.map_append]; rfl
      · show _ = [_, mcv (A ++ B).length 1073741824 st' N, _]
        rw [hw]
        refine Eq.trans (b := [_, mcv (w + 1) 1073741824 st' N, some (.buf 14 (A.map Ac.pv ++ B.map Ac.pv))]) rfl ?_
        rw [← List.map_append]; rfl
      · show [_, mcv (A ++ B).length 1073741824 st' N, _].all _ = true
        rw [hw]; rfl
end Go.Proofs.YtjhgmaephpadpaaGreat.AW
