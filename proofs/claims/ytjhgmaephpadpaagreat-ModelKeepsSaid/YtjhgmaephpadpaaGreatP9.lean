/- A part of the proof: LG/G11, LG/G12, LG/G13, LG/G14, LG/G15, LG/G16. -/
import Derived.Test.YtjhgmaephpadpaaGreatP8
import Derived.Test.YtjhgmaephpadpaaGreatP7

open Go Go.Proofs.YtjhgmaephpadpaaGreat.AW Go.Proofs
namespace Go.Proofs.YtjhgmaephpadpaaGreat.AW
set_option maxRecDepth 100000
set_option linter.unusedSimpArgs false
set_option linter.unusedVariables false

theorem bsl_shr (b : List UInt8) : WkA1 (.p (csl b)) (.p (bsl b)) := WkA1.shr
/-- A pure call to which a buffer is handed. -/
theorem pu_x1 {P : Program} {f : Nat} {b : List UInt8} {xs : List PV} {x v : PV} (hf : ∃ fn, P.funcs[f]? = some fn ∧ (fn.name == "runtime.NumGoroutine") = false ∧ fn.body.isSome = true) (hx : xs = bytesP b) (h : ∀ s K, K (.p v) s → Cal P f [.p (bsl b), .p x] s K) (K : AV → Store → Prop) (hk : K (.p v) [none]) :
    Cal P f [.osl 0 xs.length 0 xs.length, .p x] [some (.buf 1 xs (some 5))] K := by
  subst hx
  refine Cal.freeze ?_ hf
  refine Ob.mk rfl ?_
  show Cal P f [.p (.sl .shr 1 (((bytesP b).drop 0).take (bytesP b).length)), .p x] [none] K
  rw [cut_all]
  exact h _ _ hk
theorem long2_x (xs : List PV) (b : List UInt8) (n : Int) (hx : xs = bytesP b) (hb : b.length ≤ 1000000) (K : AV → Store → Prop) (h : K (.p (csl (b ++ lgB n))) [none]) : Cal Tryz.prog 123 [.osl 0 xs.length 0 xs.length, .p (ii n)] [some (.buf 1 xs (some 5))] K :=
  pu_x1 ⟨_, Tryz.func123, rfl, rfl⟩ hx (fun s K h => long2_c b n hb s K h) K h

theorem text2_c (b t : List UInt8) (hb : b.length ≤ 1000000) (ht : t.length ≤ 1000000) (s : Store) (K : AV → Store → Prop) (h : K (.p (csl (b ++ txB t))) s) : Cal Tryz.prog 124 [.p (bsl b), .p (.str t)] s K := by
  refine Cal.pure (args := [bsl b, .str t]) ?_
  refine Cal.intro Tryz.func124 (by decide +kernel) rfl rfl ?_
  refine put2_c b t.length hb _ _ ?_
  cases t with
  | nil =>
    refine BrL.n ?_
    refine Cal.args (args' := [.p (bsl (b ++ putB 0))]) ?_ ⟨bsl_shr _, trivial⟩
    refine clip_byte _ _ _ ?_
    have e : b ++ txB [] = b ++ putB 0 := by unfold txB; rw [List.append_nil]; rfl
    rw [e] at h
    exact h
  | cons x r =>
    refine BrL.c ?_
    refine Ob.mk ?_ ?_
    · show ((bytesP (b ++ putB ((x :: r).length : Nat))).length + (bytesP (x :: r)).length) * 1 ≤ _
      rw [bytesP_len, bytesP_len, List.length_append]; have := putB_le ((x :: r).length : Nat); omega
    refine Cal.freeze ?_ ⟨_, Tryz.func156, rfl, rfl⟩
    refine Ob.mk rfl ?_
    have e : bytesP (b ++ putB ((x :: r).length : Nat)) ++ bytesP (x :: r) = bytesP (b ++ txB (x :: r)) := by rw [← bytesP_app, List.append_assoc]; rfl
    show Cal Tryz.prog 156 [.p (.sl .shr 1 (((bytesP (b ++ putB ((x :: r).length : Nat)) ++ bytesP (x :: r)).drop 0).take (bytesP (b ++ putB ((x :: r).length : Nat)) ++ bytesP (x :: r)).length))] _ _
    rw [cut_all, e]
    refine clip_byte _ _ _ ?_
    exact h
theorem text2_k (b t : List UInt8) (hb : b.length ≤ 1000000) (ht : t.length ≤ 1000000) (s : Store) (K : AV → Store → Prop) (h : K (.p (csl (b ++ txB t))) s) : Cal Tryz.prog 124 [.p (csl b), .p (.str t)] s K :=
  Cal.args (args' := [.p (bsl b), .p (.str t)]) (text2_c b t hb ht s K h) ⟨bsl_shr _, .refl _, trivial⟩

/-! ### The sum, by the code -/
set_option maxHeartbeats 4000000 in
theorem next2_c (c : Int) (hc0 : u32in c) (x : UInt8) (s : Store) (K : AV → Store → Prop) (h : K (.p (u32v (nxC c x))) s) : Cal Tryz.prog 174 [.p (u32v c), .p (.int .u8 (x.toNat : Int))] s K := by
  refine Cal.pure (args := [u32v c, .int .u8 (x.toNat : Int)]) ?_
  refine Cal.intro Tryz.func174 (by decide +kernel) rfl rfl ?_
  have ex : IntKind.u32.wrap (x.toNat : Int) = (x.toNat : Int) := by rw [IntKind.wrap_u32]; have := x.toNat_lt; omega
  obtain ⟨c0, hc0⟩ : ∃ c0, c0 = bits .xor .u32 c (x.toNat : Int) := ⟨_, rfl⟩
  have hin : u32in c0 := by rw [hc0]; exact bits_u32 _ _ _
  refine LoopX.fam [0, 10] (fun (j : Nat) => ([(0, .p (u32v (stN j c0))), (10, .p (ii (j : Nat)))], [])) (fun j => j ≤ 8) (fun j => 8 - j) 0 (by omega) (Trim.mk' ?_ rfl rfl rfl (Nat.le_refl _)) ?_
  · show [(0, AV.p (.int .u32 (bits .xor .u32 c (IntKind.u32.wrap (x.toNat : Int))))), _] = _
    rw [ex, ← hc0]; rfl
  intro j hj
  have hj : j ≤ 8 := hj
  refine Br.mk (fun hc => ?_) (fun hc => ?_)
  · have hc : (j : Int) < 8 := of_decide_eq_true hc
    have ej : IntKind.i64.wrap ((j : Int) + 1) = ((j + 1 : Nat) : Int) := by rw [wrap_i64] <;> omega
    refine Ob.mk (by decide) ?_
    refine ⟨j + 1, by show j + 1 ≤ 8; omega, by show 8 - (j + 1) < 8 - j; omega, Nat.le_refl _, Trim.mk' ?_ rfl rfl rfl (Nat.le_refl _)⟩
    refine Eq.trans (b := [(0, AV.p (.int .u32 (bits .xor .u32 ((stN j c0).fdiv (2 ^ (min (1 : Int).toNat IntKind.u32.bits))) (IntKind.u32.wrap (2197175160 * bits .and .u32 (stN j c0) 1))))), (10, AV.p (ii (IntKind.i64.wrap ((j : Int) + 1))))]) rfl ?_
    rw [ej, show (stN j c0).fdiv (2 ^ (min (1 : Int).toNat IntKind.u32.bits)) = (stN j c0).fdiv 2 from rfl, stC_mul (stN_in j hin)]; rfl
  · have hc : ¬ (j : Int) < 8 := of_decide_eq_false hc
    have : j = 8 := by omega
    subst this
    subst hc0
    exact h
set_option maxHeartbeats 4000000 in
theorem crc2_c (b : List UInt8) (hb : b.length ≤ 1000000) (s : Store) (K : AV → Store → Prop) (h : K (.p (u32v (crcV b))) s) : Cal Tryz.prog 158 [.p (bsl b)] s K := by
  refine Cal.pure (args := [bsl b]) ?_
  refine Cal.intro Tryz.func158 (by decide +kernel) rfl rfl ?_
  refine LoopX.fam [3, 6, 7, 8] (fun (j : Nat) => ([(3, .p (u32v (foC 4294967295 (b.take j)))), (6, .p (bsl b)), (7, .p (ii (bytesP b).length)), (8, .p (ii (j : Nat)))], [])) (fun j => j ≤ b.length) (fun j => b.length - j) 0 (Nat.zero_le _) (Trim.mk' rfl rfl rfl rfl (Nat.le_refl _)) ?_
  intro j hj
  have hj : j ≤ b.length := hj
  refine Br.mk (fun hc => ?_) (fun hc => ?_)
  · have hc : (j : Int) < ((bytesP b).length : Nat) := of_decide_eq_true hc
    rw [bytesP_len] at hc
    have hj1 : j < b.length := by omega
    have ej : IntKind.i64.wrap ((j : Int) + 1) = ((j + 1 : Nat) : Int) := by rw [wrap_i64] <;> omega
    refine Idx.mk _ (by omega) (getB hj1) ?_
    refine next2_c _ (foC_in ⟨by decide, by decide⟩ _) _ _ _ ?_
    refine ⟨j + 1, by show j + 1 ≤ b.length; omega, by show b.length - (j + 1) < b.length - j; omega, Nat.le_refl _, Trim.mk' ?_ rfl rfl rfl (Nat.le_refl _)⟩
    refine Eq.trans (b := [(3, AV.p (u32v (nxC (foC 4294967295 (b.take j)) b[j]))), _, _, (8, AV.p (ii (IntKind.i64.wrap ((j : Int) + 1))))]) rfl ?_
    rw [ej, show nxC (foC 4294967295 (b.take j)) b[j] = foC 4294967295 (b.take (j + 1)) by rw [take_succ' hj1]; unfold foC; rw [List.foldl_append]; rfl]; rfl
  · have hc : ¬ (j : Int) < ((bytesP b).length : Nat) := of_decide_eq_false hc
    rw [bytesP_len] at hc
    have : j = b.length := by omega
    subst this
    have e : crcV b = bits .xor .u32 4294967295 (foC 4294967295 (b.take b.length)) := by rw [List.take_length]; rfl
    rw [e] at h
    exact h

/-! ### slices.Grow, slices.Concat of bytes -/
theorem grow_0 (K : AV → Store → Prop) (h : K (.p (.sl .nil 0 [])) []) : Cal Tryz.prog 159 [.p (.sl .nil 0 []), .p (ii 0)] [] K := by
  refine Cal.intro Tryz.func159 (by decide +kernel) rfl rfl ?_
  refine Br.f rfl ?_
  refine Br.f rfl ?_
  exact h
theorem grow_c (n : Int) (h1 : 1 ≤ n) (h2 : n ≤ 1099511627776) (K : AV → Store → Prop) (h : K (.osl 1 0 0 0) [none, some (.buf 1 [] (some 5))]) : Cal Tryz.prog 159 [.p (.sl .nil 0 []), .p (ii n)] [] K := by
  refine Cal.retract ?_
  refine Cal.intro Tryz.func159 (by decide +kernel) rfl rfl ?_
  have e0 : IntKind.i64.wrap (n - IntKind.i64.wrap (0 - 0)) = n := by rw [wrap_i64 (n := 0 - 0) (by omega) (by omega), wrap_i64 (by omega) (by omega)]; omega
  have c1 : decide (n < 0) = false := decide_eq_false (by omega)
  have c2 : decide (IntKind.i64.wrap (n - IntKind.i64.wrap (0 - 0)) > 0) = true := decide_eq_true (by rw [e0]; omega)
  refine Br.f c1 ?_
  refine Br.t c2 ?_
  refine Ob.mk (by decide) ?_
  have e1 : IntKind.i64.wrap (n - IntKind.i64.wrap (0 - (([] : List PV).length : Int))) = n := e0
  refine Ob.mk ⟨?_, ?_⟩ ?_
  · show 1 ≤ IntKind.i64.wrap (n - IntKind.i64.wrap (0 - (([] : List PV).length : Int)))
    rw [e1]; exact h1
  · show IntKind.i64.wrap (n - IntKind.i64.wrap (0 - (([] : List PV).length : Int))) * 1 ≤ _
    rw [e1]; omega
  refine Ob.mk ⟨rfl, by decide, by decide, Int.natCast_nonneg _⟩ ?_
  exact ⟨0, _, _, _, _, _, rfl, rfl, rfl, Nat.zero_le _, h⟩
theorem getS {bss : List (List UInt8)} {j : Nat} (h : j < bss.length) : (bss.map bsl)[((j : Nat) : Int).toNat]? = some (bsl bss[j]) := by
  rw [Int.toNat_natCast]; simp [h]
theorem flat_succ {bss : List (List UInt8)} {j : Nat} (h : j < bss.length) : (bss.take (j + 1)).flatten = (bss.take j).flatten ++ bss[j] := by
  rw [take_succ' h, List.flatten_append]; simp
theorem flat_le {bss : List (List UInt8)} (j : Nat) : (bss.take j).flatten.length ≤ bss.flatten.length := by
  conv => rhs; rw [← List.take_append_drop j bss, List.flatten_append, List.length_append]
  omega
set_option maxHeartbeats 4000000 in
theorem concat_c (bss : List (List UInt8)) (hn : bss.length ≤ 100) (hl : bss.flatten.length ≤ 100000000) (s : Store) (K : AV → Store → Prop) (h : K (.p (bsl bss.flatten)) s) : Cal Tryz.prog 126 [.p (.sl .shr 1 (bss.map bsl))] s K := by
  refine Cal.weak ?_
  refine Cal.pure (args := [.sl .shr 1 (bss.map bsl)]) ?_
  refine Cal.intro Tryz.func126 (by decide +kernel) rfl rfl ?_
  have lm : (bss.map bsl).length = bss.length := List.length_map ..
  refine LoopX.fam [0, 3, 9, 10, 11] (fun (j : Nat) => ([(0, .p (.sl .shr 1 (bss.map bsl))), (3, .p (ii ((bss.take j).flatten.length : Nat))), (9, .p (.sl .shr 1 (bss.map bsl))), (10, .p (ii (bss.map bsl).length)), (11, .p (ii (j : Nat)))], [])) (fun j => j ≤ bss.length) (fun j => bss.length - j) 0 (Nat.zero_le _) (Trim.mk' rfl rfl rfl rfl (Nat.le_refl _)) ?_
  intro j hj
  have hj : j ≤ bss.length := hj
  have hle := flat_le (bss := bss) j
  have ej : j < bss.length → IntKind.i64.wrap ((j : Int) + 1) = ((j + 1 : Nat) : Int) := fun _ => by rw [wrap_i64] <;> omega
  refine Br.mk (fun hc => ?_) (fun hc => ?_)
  · have hc : (j : Int) < ((bss.map bsl).length : Nat) := of_decide_eq_true hc
    have hj1 : j < bss.length := by omega
    have hle1 := flat_le (bss := bss) (j + 1)
    rw [flat_succ hj1, List.length_append] at hle1
    have e : IntKind.i64.wrap (((bss.take j).flatten.length : Nat) + ((bytesP bss[j]).length : Int)) = ((bss.take (j + 1)).flatten.length : Nat) := by rw [bytesP_len, wrap_i64 (by omega) (by omega), flat_succ hj1, List.length_append]; omega
    refine Idx.mk _ (by omega) (getS hj1) ?_
    refine Br.f (decide_eq_false (show ¬ (IntKind.i64.wrap (((bss.take j).flatten.length : Nat) + ((bytesP bss[j]).length : Int)) < 0) by rw [e]; omega)) ?_
    refine ⟨j + 1, by show j + 1 ≤ bss.length; omega, by show bss.length - (j + 1) < bss.length - j; omega, Nat.le_refl _, Trim.mk' ?_ rfl rfl rfl (Nat.le_refl _)⟩
    refine Eq.trans (b := [_, (3, AV.p (ii (IntKind.i64.wrap (((bss.take j).flatten.length : Nat) + ((bytesP bss[j]).length : Int))))), _, _, (11, AV.p (ii (IntKind.i64.wrap ((j : Int) + 1))))]) rfl ?_
    rw [e, ej hj1]; rfl
  · have hc : ¬ (j : Int) < ((bss.map bsl).length : Nat) := of_decide_eq_false hc
    have : j = bss.length := by omega
    subst this
    dsimp only
    rw [List.take_length]
    by_cases hz : bss.flatten.length = 0
    · have hz0 : bss.flatten = [] := List.length_eq_zero_iff.1 hz
      rw [hz]
      refine grow_0 _ ?_
      refine LoopX.fam [6, 25, 26, 27] (fun (j : Nat) => ([(6, .p (.sl .nil 0 [])), (25, .p (.sl .shr 1 (bss.map bsl))), (26, .p (ii (bss.map bsl).length)), (27, .p (ii (j : Nat)))], [])) (fun j => j ≤ bss.length) (fun j => bss.length - j) 0 (Nat.zero_le _) (Trim.mk' rfl rfl rfl rfl (Nat.le_refl _)) ?_
      intro j hj
      have hj : j ≤ bss.length := hj
      refine Br.mk (fun hc => ?_) (fun hc => ?_)
      · have hc : (j : Int) < ((bss.map bsl).length : Nat) := of_decide_eq_true hc
        have hj1 : j < bss.length := by omega
        have ej : IntKind.i64.wrap ((j : Int) + 1) = ((j + 1 : Nat) : Int) := by rw [wrap_i64] <;> omega
        have e0 : bss[j] = [] := List.flatten_eq_nil_iff.1 hz0 _ (List.getElem_mem hj1)
        have hg := getS hj1
        rw [e0] at hg
        refine Idx.mk (bsl []) (by omega) hg ?_
        refine BrL.n ?_
        refine ⟨j + 1, by show j + 1 ≤ bss.length; omega, by show bss.length - (j + 1) < bss.length - j; omega, Nat.le_refl _, Trim.mk' ?_ rfl rfl rfl (Nat.le_refl _)⟩
        refine Eq.trans (b := [_, _, _, (27, AV.p (ii (IntKind.i64.wrap ((j : Int) + 1))))]) rfl ?_
        rw [ej]; rfl
      · rw [hz0] at h
        exact ⟨.p (bsl []), .inl (WkA1.nil _ _), h⟩
    · refine grow_c ((bss.flatten.length : Nat) : Int) (by omega) (by omega) _ ?_
      refine LoopX.fam [6, 25, 26, 27] (fun (j : Nat) => ([(6, .osl 1 (bytesP (bss.take j).flatten).length 0 (bytesP (bss.take j).flatten).length), (25, .p (.sl .shr 1 (bss.map bsl))), (26, .p (ii (bss.map bsl).length)), (27, .p (ii (j : Nat)))], [none, some (.buf 1 (bytesP (bss.take j).flatten) (some 5))])) (fun j => j ≤ bss.length) (fun j => bss.length - j) 0 (Nat.zero_le _) (Trim.mk' rfl rfl rfl rfl (Nat.le_refl _)) ?_
      intro j hj
      have hj : j ≤ bss.length := hj
      refine Br.mk (fun hc => ?_) (fun hc => ?_)
      · have hc : (j : Int) < ((bss.map bsl).length : Nat) := of_decide_eq_true hc
        have hj1 : j < bss.length := by omega
        have ej : IntKind.i64.wrap ((j : Int) + 1) = ((j + 1 : Nat) : Int) := by rw [wrap_i64] <;> omega
        have hle1 := flat_le (bss := bss) (j + 1)
        rw [flat_succ hj1, List.length_append] at hle1
        refine Idx.mk _ (by omega) (getS hj1) ?_
        refine Ob.mk ⟨rfl, rfl, rfl, ?_⟩ ?_
        · show ((bytesP (bss.take j).flatten).length + (bytesP bss[j]).length) * 1 ≤ _
          rw [bytesP_len, bytesP_len]; omega
        refine ⟨j + 1, by show j + 1 ≤ bss.length; omega, by show bss.length - (j + 1) < bss.length - j; omega, Nat.le_refl _, Trim.mk' ?_ ?_ rfl rfl (Nat.le_refl _)⟩
        · refine Eq.trans (b := [(6, AV.osl 1 (bytesP (bss.take j).flatten ++ bytesP bss[j]).length 0 (bytesP (bss.take j).flatten ++ bytesP bss[j]).length), _, _, (27, AV.p (ii (IntKind.i64.wrap ((j : Int) + 1))))]) rfl ?_
          rw [ej, ← bytesP_app, ← flat_succ hj1]; rfl
        · show [none, some (AObj.buf 1 (bytesP (bss.take j).flatten ++ bytesP bss[j]) (some 5))] = _
          rw [← bytesP_app, ← flat_succ hj1]
      · have hc : ¬ (j : Int) < ((bss.map bsl).length : Nat) := of_decide_eq_false hc
        have : j = bss.length := by omega
        subst this
        refine Ob.mk rfl ?_
        refine ⟨.p (bsl bss.flatten), .inl ?_, h⟩
        show WkA1 (.p (.sl .shr 1 (((bytesP (bss.take bss.length).flatten).drop 0).take (bytesP (bss.take bss.length).flatten).length))) _
        rw [cut_all, List.take_length]; exact .refl _
end Go.Proofs.YtjhgmaephpadpaaGreat.AW


open Go Go.Proofs.YtjhgmaephpadpaaGreat.AW Go.Proofs
namespace Go.Proofs.YtjhgmaephpadpaaGreat.AW
set_option maxRecDepth 100000
set_option linter.unusedSimpArgs false
set_option linter.unusedVariables false

/-! ### May a batch be, by the code -/
theorem named_c (b : Bt) (s : Store) (K : AV → Store → Prop) (h : K (.p (.bool (headV b))) s) : Cal Tryz.prog 91 [.p b.pv] s K := by
  refine Cal.pure (args := [b.pv]) ?_
  refine Cal.intro Tryz.func91 (by decide +kernel) rfl rfl ?_
  unfold headV at h
  repeat' (first
    | (apply Br.t; · (first | rfl | (simp only [*] <;> rfl)))
    | (apply Br.f; · (first | rfl | (simp only [*] <;> rfl)))
    | refine Ob.mk (okst rfl rfl rfl) ?_
    | refine Br.mkT (fun c => ?_) (fun c => ?_)
    | refine Br.mkF (fun c => ?_) (fun c => ?_)
    | refine Br.mk (fun c => ?_) (fun c => ?_)
    | exact h
    | (simp only [*, Bool.true_and, Bool.false_and, Bool.true_or, Bool.false_or, Bool.and_true, Bool.and_false, Bool.or_true, Bool.or_false, Bool.not_true, Bool.not_false, if_true, if_false, reduceIte, Bool.false_eq_true] at h; exact h))
def dataV (b : Bt) : Int :=
  if ((!(noneV b) && !(headV b && seqV b.seq)) || (b.rl == 0)) = true then 12
  else if decide (b.rl > 16) = true then 13
  else if b.recs.any longR = true then 13 else 0
set_option maxHeartbeats 4000000 in
theorem data_c (b : Bt) (s : Store) (K : AV → Store → Prop) (h : K (.p (ii (dataV b))) s) : Cal Tryz.prog 90 [.p b.pv] s K := by
  refine Cal.pure (args := [b.pv]) ?_
  refine Cal.intro Tryz.func90 (by decide +kernel) rfl rfl ?_
  unfold dataV noneV Bt.rl at h
  repeat' (first
    | (apply Br.t; · (first | rfl | (simp only [*] <;> rfl)))
    | (apply Br.f; · (first | rfl | (simp only [*] <;> rfl)))
    | refine Ob.mk (okst rfl rfl rfl) ?_
    | refine named_c b _ _ ?_
    | refine seq2_c b.seq _ _ ?_
    | refine Br.mkT (fun c => ?_) (fun c => ?_)
    | refine Br.mkF (fun c => ?_) (fun c => ?_)
    | refine Br.mk (fun c => ?_) (fun c => ?_)
    | exact h
    | (simp only [*, Bool.true_and, Bool.false_and, Bool.true_or, Bool.false_or, Bool.and_true, Bool.and_false, Bool.or_true, Bool.or_false, Bool.not_true, Bool.not_false, if_true, if_false, reduceIte, Bool.false_eq_true] at h; exact h))
  all_goals
    have h13 : b.recs.any longR = true → K (.p (ii 13)) s := fun hl => by
      simp only [*, Bool.true_and, Bool.false_and, Bool.true_or, Bool.false_or, Bool.and_true, Bool.and_false, Bool.or_true, Bool.or_false, Bool.not_true, Bool.not_false, if_true, if_false, reduceIte, Bool.false_eq_true] at h
      exact h
    have h0 : b.recs.any longR = false → K (.p (ii 0)) s := fun hl => by
      simp only [*, Bool.true_and, Bool.false_and, Bool.true_or, Bool.false_or, Bool.and_true, Bool.and_false, Bool.or_true, Bool.or_false, Bool.not_true, Bool.not_false, if_true, if_false, reduceIte, Bool.false_eq_true] at h
      exact h
    have hrl : (b.recs.map rec2).length = b.recs.length := List.length_map ..
    have h16 : ¬ (((b.recs.map rec2).length : Nat) : Int) > 16 := of_decide_eq_false (by assumption)
    clear h
    refine LoopX.fam [48, 49, 50] (fun (j : Nat) => ([(48, .p (rcP b.recs)), (49, .p (ii (b.recs.map rec2).length)), (50, .p (ii (j : Nat)))], [some (.cells [.p (ii b.base), .p (ii b.prod), .p (ii b.epoch), .p (ii b.seq), .p (.bool b.txn), .p (ii b.mark), .p (rcP b.recs)])]))
      (fun j => j ≤ b.recs.length ∧ (b.recs.take j).any longR = false) (fun j => b.recs.length - j) 0 ⟨Nat.zero_le _, rfl⟩ (Trim.mk' rfl rfl rfl rfl (Nat.le_refl _)) ?_
    rintro j ⟨hj, hno⟩
    refine Br.mk (fun hc => ?_) (fun hc => ?_)
    · have hc : (j : Int) < ((b.recs.map rec2).length : Nat) := of_decide_eq_true hc
      have hj1 : j < b.recs.length := by omega
      have ej : IntKind.i64.wrap ((j : Int) + 1) = ((j + 1 : Nat) : Int) := by rw [wrap_i64] <;> omega
      refine Idx.mk _ (by omega) (getR hj1) ?_
      refine Ob.mk (okst rfl rfl rfl) ?_
      have hyes : longR b.recs[j] = true → K (.p (ii 13)) s := fun hl => h13 (List.any_eq_true.2 ⟨_, List.getElem_mem hj1, hl⟩)
      repeat' (first
        | (apply Br.t; · (first | rfl | (simp only [*] <;> rfl)))
        | (apply Br.f; · (first | rfl | (simp only [*] <;> rfl)))
        | refine Ob.mk (okst rfl rfl rfl) ?_
        | exact hyes (by unfold longR; simp only [*]; rfl)
        | refine Br.mkT (fun c => ?_) (fun c => ?_)
        | refine Br.mkF (fun c => ?_) (fun c => ?_)
        | refine Br.mk (fun c => ?_) (fun c => ?_))
      have hno1 : longR b.recs[j] = false := by unfold longR; simp only [*]; rfl
      refine ⟨j + 1, ⟨by omega, by rw [take_succ' hj1, List.any_append, hno]; simp [hno1]⟩, by show b.recs.length - (j + 1) < b.recs.length - j; omega, Nat.le_refl _, Trim.mk' ?_ rfl rfl rfl (show 1 ≤ 2 by decide)⟩
      refine Eq.trans (b := [_, _, (50, AV.p (ii (IntKind.i64.wrap ((j : Int) + 1))))]) rfl ?_
      rw [ej]; rfl
    · have hc : ¬ (j : Int) < ((b.recs.map rec2).length : Nat) := of_decide_eq_false hc
      have : j = b.recs.length := by omega
      subst this
      rw [List.take_length] at hno
      exact h0 hno

/-! ### A batch as bytes, by the code -/
theorem long2_y (xs : List PV) (b : List UInt8) (n : Int) (hx : xs = bytesP b) (hb : b.length ≤ 1000000) (s : Store) (K : AV → Store → Prop) (h : K (.p (csl (b ++ lgB n))) s) : Cal Tryz.prog 123 [.p (.sl .clip 1 xs), .p (ii n)] s K := by
  subst hx
  exact Cal.args (args' := [.p (bsl b), .p (ii n)]) (long2_c b n hb s K h) ⟨bsl_shr _, .refl _, trivial⟩
theorem bytes_el {b : List UInt8} : ∀ y, y ∈ bytesP b → El 1 y := fun y hy => by
  obtain ⟨u, _, rfl⟩ := List.mem_map.1 hy; exact ⟨rfl, rfl⟩
theorem wkds_refl : ∀ l : List PV, WkDs l l
  | [] => .nil
  | v :: r => .cons _ _ _ _ (.refl v) (wkds_refl r)
theorem wk_clip (b : List UInt8) : WkD (csl b) (bsl b) := .sl .clip 1 _ _ rfl bytes_el (wkds_refl _)
theorem bsl_el {bss : List (List UInt8)} : ∀ y, y ∈ bss.map bsl → El 1 y := fun y hy => by
  obtain ⟨u, _, rfl⟩ := List.mem_map.1 hy; exact ⟨rfl, rfl⟩
/-- slices.Concat of two, of three: each a tree, or put together here. -/
theorem concat2_c (a b : List UInt8) (hl : a.length + b.length ≤ 100000000) (s : Store) (K : AV → Store → Prop) (h : K (.p (bsl (a ++ b))) s) : Cal Tryz.prog 126 [.p (.sl .clip 1 [csl a, bsl b])] s K := by
  refine Cal.arg1 (concat_c [a, b] (show 2 ≤ 100 by decide) (by simpa using hl) s K (by simpa using h)) ?_
  exact .sl .clip 1 [csl a, bsl b] _ rfl bsl_el (.cons _ _ _ _ (wk_clip a) (.cons _ _ _ _ (.refl _) .nil))
theorem concat3_c (a b c : List UInt8) (hl : a.length + b.length + c.length ≤ 100000000) (s : Store) (K : AV → Store → Prop) (h : K (.p (bsl (a ++ b ++ c))) s) : Cal Tryz.prog 126 [.p (.sl .clip 1 [csl a, csl b, bsl c])] s K := by
  refine Cal.arg1 (concat_c [a, b, c] (show 3 ≤ 100 by decide) (by simp; omega) s K (by simpa using h)) ?_
  exact .sl .clip 1 [csl a, csl b, bsl c] _ rfl bsl_el (.cons _ _ _ _ (wk_clip a) (.cons _ _ _ _ (wk_clip b) (.cons _ _ _ _ (.refl _) .nil)))
theorem crcput_c (b : List UInt8) (hb : b.length ≤ 1000000) (s : Store) (K : AV → Store → Prop) (h : K (.p (bsl (sealB b))) s) : Cal Tryz.prog 125 [.p (bsl b)] s K := by
  refine Cal.pure (args := [bsl b]) ?_
  refine Cal.intro Tryz.func125 (by decide +kernel) rfl rfl ?_
  refine crc2_c b hb _ _ ?_
  iterate 3 refine Ob.mk (by decide) ?_
  refine Or.inl ?_
  have e : [PV.int .u8 (IntKind.u8.wrap (crcV b)), .int .u8 (IntKind.u8.wrap ((crcV b).fdiv (2 ^ (min (8 : Int).toNat IntKind.u32.bits)))), .int .u8 (IntKind.u8.wrap ((crcV b).fdiv (2 ^ (min (16 : Int).toNat IntKind.u32.bits)))), .int .u8 (IntKind.u8.wrap ((crcV b).fdiv (2 ^ (min (24 : Int).toNat IntKind.u32.bits))))] = bytesP (sumB b) := by
    rw [u8_w, u8_w, u8_w, u8_w]; rfl
  show Cal Tryz.prog 126 [.p (.sl .clip 1 [.sl .clip 1 [PV.int .u8 (IntKind.u8.wrap (crcV b)), .int .u8 (IntKind.u8.wrap ((crcV b).fdiv (2 ^ (min (8 : Int).toNat IntKind.u32.bits)))), .int .u8 (IntKind.u8.wrap ((crcV b).fdiv (2 ^ (min (16 : Int).toNat IntKind.u32.bits)))), .int .u8 (IntKind.u8.wrap ((crcV b).fdiv (2 ^ (min (24 : Int).toNat IntKind.u32.bits))))], bsl b])] _ _
  rw [e]
  refine concat2_c (sumB b) b (by show 4 + b.length ≤ _; omega) _ _ ?_
  exact h
attribute [local irreducible] lgB sealB sumB crcV txB in
set_option maxHeartbeats 4000000 in
theorem batbytes_c (b : Bt) (hb : b.shrt) (s : Store) (K : AV → Store → Prop) (h : K (.p (bsl (wrB b))) s) : Cal Tryz.prog 92 [.p b.pv] s K := by
  refine Cal.pure (args := [b.pv]) ?_
  refine Cal.intro Tryz.func92 (by decide +kernel) rfl rfl ?_
  have hf := flag_v b
  have l1 : ([flB b] ++ lgB b.prod).length = 9 := by simp [lgB, lgL_len]
  have l2 : ([flB b] ++ lgB b.prod ++ [u8 (b.epoch.fdiv (2 ^ 8)), u8 b.epoch]).length = 11 := by simp [lgB, lgL_len]
  have l3 : ([flB b] ++ lgB b.prod ++ [u8 (b.epoch.fdiv (2 ^ 8)), u8 b.epoch] ++ lgB b.seq).length = 19 := by simp [lgB, lgL_len]
  have e1 : bytesP ([flB b] ++ lgB b.prod) ++ [.int .u8 (IntKind.u8.wrap (b.epoch.fdiv (2 ^ (min (8 : Int).toNat IntKind.i64.bits)))), .int .u8 (IntKind.u8.wrap b.epoch)] = bytesP ([flB b] ++ lgB b.prod ++ [u8 (b.epoch.fdiv (2 ^ 8)), u8 b.epoch]) := by
    rw [u8_w, u8_w, bytesP_app (_ ++ _)]; rfl
  have e2 : bytesP ([flB b] ++ lgB b.prod ++ [u8 (b.epoch.fdiv (2 ^ 8)), u8 b.epoch] ++ lgB b.seq) ++ [.int .u8 (IntKind.u8.wrap ((b.recs.map rec2).length : Nat))] = bytesP (hdB b) := by
    rw [u8_w, List.length_map]
    unfold hdB
    rw [bytesP_app (_ ++ lgB b.seq)]; rfl
  refine Br.mk (fun ht => ?_) (fun ht => ?_)
  all_goals
    rw [show b.txn = _ from ht] at hf
    refine Or.inl ?_
    first
      | refine long2_y [.int .u8 (IntKind.u8.wrap (IntKind.u8.wrap (IntKind.i64.wrap (2 * b.mark)) + 1))] [flB b] b.prod (by rw [show IntKind.u8.wrap (IntKind.u8.wrap (IntKind.i64.wrap (2 * b.mark)) + 1) = _ from hf]; rfl) (show 1 ≤ 1000000 by decide) _ _ ?_
      | refine long2_y [.int .u8 (IntKind.u8.wrap (IntKind.i64.wrap (2 * b.mark)))] [flB b] b.prod (by rw [show IntKind.u8.wrap (IntKind.i64.wrap (2 * b.mark)) = _ from hf]; rfl) (show 1 ≤ 1000000 by decide) _ _ ?_
    iterate 3 refine ⟨_, ⟨rfl, rfl⟩, ?_⟩
    refine ⟨_, Ob.mk (by decide) ⟨rfl, rfl⟩, ?_⟩
    iterate 4 refine ⟨_, ⟨rfl, rfl⟩, ?_⟩
    refine ⟨_, _, Or.inl ⟨rfl, rfl⟩, rfl, ?_⟩
    refine ⟨_, _, BrL.c (Ob.mk ?_ ⟨rfl, rfl⟩), rfl, ?_⟩
    · show ((bytesP ([flB b] ++ lgB b.prod)).length + 2) * 1 ≤ _
      rw [bytesP_len, l1]; omega
    iterate 2 refine ⟨_, ⟨rfl, rfl⟩, ?_⟩
    refine .inr <| .inl ⟨[1], _, _, _, _, long2_x (bytesP ([flB b] ++ lgB b.prod) ++ [.int .u8 (IntKind.u8.wrap (b.epoch.fdiv (2 ^ (min (8 : Int).toNat IntKind.i64.bits)))), .int .u8 (IntKind.u8.wrap b.epoch)]) _ b.seq e1 (by rw [l2]; omega) _ ⟨rfl, rfl⟩, rfl, rfl, rfl, ?_⟩
    refine ⟨_, ⟨rfl, rfl⟩, ?_⟩
    refine Chk.mk (by kernel_rfl) ?_
    refine Or.inl ?_
    refine BrL.c ?_
    refine Ob.mk ?_ ?_
    · show ((bytesP ([flB b] ++ lgB b.prod ++ [u8 (b.epoch.fdiv (2 ^ 8)), u8 b.epoch] ++ lgB b.seq)).length + 1) * 1 ≤ _
      rw [bytesP_len, l3]; omega
    refine LoopX.fam [1, 4, 42, 43, 44] (fun (j : Nat) => ([(1, .ref 0 0), (4, .p (bsl (rcL b j))), (42, .p (rcP b.recs)), (43, .p (ii (b.recs.map rec2).length)), (44, .p (ii (j : Nat)))], [some (.cells [.p (ii b.base), .p (ii b.prod), .p (ii b.epoch), .p (ii b.seq), .p (.bool b.txn), .p (ii b.mark), .p (rcP b.recs)]), none, none]))
      (fun j => j ≤ b.recs.length) (fun j => b.recs.length - j) 0 (Nat.zero_le _) (Trim.fz [4] (Ob.mk rfl (TrimO.mk' ?_ rfl rfl rfl (Nat.le_refl _)))) ?_
    · show [_, (4, AV.p (PV.sl .shr 1 (((bytesP ([flB b] ++ lgB b.prod ++ [u8 (b.epoch.fdiv (2 ^ 8)), u8 b.epoch] ++ lgB b.seq) ++ [PV.int .u8 (IntKind.u8.wrap ((b.recs.map rec2).length : Nat))]).drop 0).take (bytesP ([flB b] ++ lgB b.prod ++ [u8 (b.epoch.fdiv (2 ^ 8)), u8 b.epoch] ++ lgB b.seq) ++ [PV.int .u8 (IntKind.u8.wrap ((b.recs.map rec2).length : Nat))]).length))), _, _, _] = [_, (4, AV.p (PV.sl .shr 1 (bytesP (hdB b ++ [])))), _, _, _]
      rw [cut_all, e2, List.append_nil]; rfl
    intro j hj
    have hj : j ≤ b.recs.length := hj
    have hrl : (b.recs.map rec2).length = b.recs.length := List.length_map ..
    refine Br.mk (fun hc => ?_) (fun hc => ?_)
    · have hc : (j : Int) < ((b.recs.map rec2).length : Nat) := of_decide_eq_true hc
      have hj1 : j < b.recs.length := by omega
      have hb0 := hb.1
      have hq := hb.2 _ (List.getElem_mem hj1)
      have ej : IntKind.i64.wrap ((j : Int) + 1) = ((j + 1 : Nat) : Int) := by rw [wrap_i64] <;> omega
      refine Idx.mk _ (by omega) (getR hj1) ?_
      refine Ob.mk (okst rfl rfl rfl) ?_
      iterate 3 refine ⟨_, ⟨rfl, rfl⟩, ?_⟩
      have hle := rcL_le hb j
      refine Or.inl ⟨_, fun s' => text2_c (rcL b j) b.recs[j].1 (by omega) (by omega) s' _ ⟨rfl, rfl⟩, rfl, ?_⟩
      iterate 2 refine ⟨_, ⟨rfl, rfl⟩, ?_⟩
      have hle2 : (rcL b j ++ txB b.recs[j].1).length ≤ 1000000 := by rw [List.length_append]; have := txB_le b.recs[j].1; omega
      refine Or.inl ⟨_, fun s' => text2_k (rcL b j ++ txB b.recs[j].1) b.recs[j].2 hle2 (by omega) s' _ ⟨rfl, rfl⟩, rfl, ?_⟩
      refine ⟨_, ⟨rfl, rfl⟩, ?_⟩
      refine Chk.mk (by kernel_rfl) ?_
      have e3 : bytesP (rcL b j ++ txB b.recs[j].1 ++ txB b.recs[j].2) = bytesP (rcL b (j + 1)) := by rw [rcL_succ b hj1]
      refine ⟨j + 1, by show j + 1 ≤ b.recs.length; omega, by show b.recs.length - (j + 1) < b.recs.length - j; omega, Nat.le_refl _, Trim.wk 3 [] rfl (show 3 ≤ 4 by decide) (.inl rfl) rfl rfl rfl rfl rfl ⟨.inl rfl, ?_, .inl rfl, .inl rfl, .inl ?_, trivial⟩⟩
      · show WkV _ _ (AV.p (PV.sl .clip 1 (bytesP (rcL b j ++ txB b.recs[j].1 ++ txB b.recs[j].2)))) (AV.p (PV.sl .shr 1 (bytesP (rcL b (j + 1)))))
        rw [e3]; exact .shr
      · show AV.p (ii (IntKind.i64.wrap ((j : Int) + 1))) = AV.p (ii ((j + 1 : Nat) : Int))
        rw [ej]
    · have hc : ¬ (j : Int) < ((b.recs.map rec2).length : Nat) := of_decide_eq_false hc
      have : j = b.recs.length := by omega
      subst this
      have e4 : rcL b b.recs.length = inB b := by unfold rcL; rw [List.take_length]; rfl
      have hle := rcL_le hb b.recs.length
      rw [e4] at hle ⊢
      refine crcput_c _ (by omega) _ _ ?_
      refine Cal.args (args' := [.p (bsl []), .p (ii b.base)]) ?_ ⟨.nil .shr 1, .refl _, trivial⟩
      refine long2_c [] b.base (Nat.zero_le _) _ _ ?_
      iterate 3 refine Ob.mk (by decide) ?_
      refine Or.inl ?_
      have hsl : (sealB (inB b)).length ≤ 700004 := by rw [sealB_len]; omega
      have e5 : [PV.int .u8 (IntKind.u8.wrap ((((bytesP (sealB (inB b))).length : Nat) : Int).fdiv (2 ^ (min (24 : Int).toNat IntKind.i64.bits)))), PV.int .u8 (IntKind.u8.wrap ((((bytesP (sealB (inB b))).length : Nat) : Int).fdiv (2 ^ (min (16 : Int).toNat IntKind.i64.bits)))), PV.int .u8 (IntKind.u8.wrap ((((bytesP (sealB (inB b))).length : Nat) : Int).fdiv (2 ^ (min (8 : Int).toNat IntKind.i64.bits)))), PV.int .u8 (IntKind.u8.wrap (((bytesP (sealB (inB b))).length : Nat) : Int))] = bytesP (n4B ((sealB (inB b)).length : Nat)) := by
        rw [bytesP_len, u8_w, u8_w, u8_w, u8_w]; rfl
      show Cal Tryz.prog 126 [.p (.sl .clip 1 [csl ([] ++ lgB b.base), .sl .clip 1 [PV.int .u8 (IntKind.u8.wrap ((((bytesP (sealB (inB b))).length : Nat) : Int).fdiv (2 ^ (min (24 : Int).toNat IntKind.i64.bits)))), PV.int .u8 (IntKind.u8.wrap ((((bytesP (sealB (inB b))).length : Nat) : Int).fdiv (2 ^ (min (16 : Int).toNat IntKind.i64.bits)))), PV.int .u8 (IntKind.u8.wrap ((((bytesP (sealB (inB b))).length : Nat) : Int).fdiv (2 ^ (min (8 : Int).toNat IntKind.i64.bits)))), PV.int .u8 (IntKind.u8.wrap (((bytesP (sealB (inB b))).length : Nat) : Int))], bsl (sealB (inB b))])] _ _
      rw [e5, List.nil_append]
      refine concat3_c _ _ _ (by rw [lgB_len]; show 8 + 4 + _ ≤ _; omega) _ _ ?_
      exact h
end Go.Proofs.YtjhgmaephpadpaaGreat.AW


open Go Go.Proofs.YtjhgmaephpadpaaGreat.AW Go.Proofs
namespace Go.Proofs.YtjhgmaephpadpaaGreat.AW
set_option maxRecDepth 100000
set_option linter.unusedSimpArgs false
set_option linter.unusedVariables false

/-! ### Right, Bytes, Size, by the code: the same -/
def right2V (b : Bt) : Int :=
  if (decide (b.base < 0) || decide (b.base > 1099511627776)) = true then 18
  else if (b.mark == 0) = true then (if (dataV b != 0) = true then dataV b else if decide ((((bytesP (wrB b)).length : Nat) : Int) > 4096) = true then 13 else 0)
  else if (((b.mark != 1) && (b.mark != 2)) || (!headV b || ((b.seq != -1) || (!b.txn || decide (b.rl > 0))))) = true then 12
  else if decide ((((bytesP (wrB b)).length : Nat) : Int) > 4096) = true then 13 else 0
theorem right_same (b : Bt) : right2V b = rightV b := by
  unfold right2V rightV plainV
  cases h1 : (decide (b.base < 0) || decide (b.base > 1099511627776)) with
  | true => simp
  | false =>
    cases h2 : (b.mark == 0) with
    | true =>
      have h3 : (b.mark != 0) = false := by unfold bne; rw [h2]; rfl
      have h4 : dataV b = (if ((!(noneV b) && (!headV b || !seqV b.seq)) || (b.rl == 0)) = true then 12 else if decide (b.rl > 16) = true then 13 else if b.recs.any longR = true then 13 else 0) := by
        unfold dataV; rw [Bool.not_and]
      simp only [h3, ← h4, Bool.false_eq_true, if_false, if_true]
    | false =>
      have h3 : (b.mark != 0) = true := by unfold bne; rw [h2]; rfl
      simp only [h3, Bool.false_eq_true, if_false, if_true]
      split <;> simp
theorem data_shrt {b : Bt} (h : (dataV b != 0) = false) : b.shrt := by
  have h : dataV b = 0 := by simpa using h
  unfold dataV at h
  split at h
  · exact absurd h (by decide)
  · split at h
    · exact absurd h (by decide)
    · rename_i h4
      have h4 : ¬ b.rl > 16 := by simpa using h4
      rw [Bt.rl_eq] at h4
      split at h
      · exact absurd h (by decide)
      · rename_i h5
        refine ⟨by omega, fun q hq => ?_⟩
        have h6 : ¬ longR q = true := fun e => h5 (List.any_eq_true.2 ⟨q, hq, e⟩)
        unfold longR at h6
        simp only [Bool.or_eq_true, decide_eq_true_eq, not_or] at h6
        omega
theorem nil_shrt {b : Bt} (h : decide ((((b.recs.map rec2).length : Nat) : Int) > 0) = false) : b.shrt := by
  have h := of_decide_eq_false h
  rw [List.length_map] at h
  have h5 : b.recs = [] := List.eq_nil_of_length_eq_zero (by omega)
  unfold Bt.shrt
  rw [h5]
  exact ⟨Nat.zero_le _, fun q hq => by cases hq⟩
set_option maxHeartbeats 4000000 in
theorem right2_c (b : Bt) (hb : b.small) (s : Store) (K : AV → Store → Prop) (h : K (.p (ii (rightV b))) s) : Cal Tryz.prog 61 [.p b.pv] s K := by
  refine Cal.pure (args := [b.pv]) ?_
  refine Cal.intro Tryz.func61 (by decide +kernel) rfl rfl ?_
  rw [← right_same] at h
  unfold right2V Bt.rl at h
  repeat' (first
    | (apply Br.t; · (first | rfl | (simp only [*] <;> rfl)))
    | (apply Br.f; · (first | rfl | (simp only [*] <;> rfl)))
    | refine Ob.mk (okst rfl rfl rfl) ?_
    | refine named_c b _ _ ?_
    | refine data_c b _ _ ?_
    | refine batbytes_c b (data_shrt (by assumption)) _ _ ?_
    | refine batbytes_c b (nil_shrt (by assumption)) _ _ ?_
    | refine Br.mkT (fun c => ?_) (fun c => ?_)
    | refine Br.mkF (fun c => ?_) (fun c => ?_)
    | refine Br.mk (fun c => ?_) (fun c => ?_)
    | exact h
    | (simp only [*, Bool.true_and, Bool.false_and, Bool.true_or, Bool.false_or, Bool.and_true, Bool.and_false, Bool.or_true, Bool.or_false, Bool.not_true, Bool.not_false, if_true, if_false, reduceIte, Bool.false_eq_true] at h; exact h))
set_option maxHeartbeats 4000000 in
theorem bytes2_c (b : Bt) (hb : b.small) (s : Store) (K : AV → Store → Prop) (h : K (bytesV b) s) : Cal Tryz.prog 89 [.p b.pv] s K := by
  refine Cal.pure (args := [b.pv]) ?_
  refine Cal.intro Tryz.func89 (by decide +kernel) rfl rfl ?_
  unfold bytesV at h
  repeat' (first
    | (apply Br.t; · (first | rfl | (simp only [*] <;> rfl)))
    | (apply Br.f; · (first | rfl | (simp only [*] <;> rfl)))
    | refine Ob.mk (okst rfl rfl rfl) ?_
    | refine right2_c b hb _ _ ?_
    | refine batbytes_c b (right_shrt' (by assumption)) _ _ ?_
    | refine Br.mkT (fun c => ?_) (fun c => ?_)
    | refine Br.mkF (fun c => ?_) (fun c => ?_)
    | refine Br.mk (fun c => ?_) (fun c => ?_)
    | exact h
    | (simp only [*, Bool.true_and, Bool.false_and, Bool.true_or, Bool.false_or, Bool.and_true, Bool.and_false, Bool.or_true, Bool.or_false, Bool.not_true, Bool.not_false, if_true, if_false, reduceIte, Bool.false_eq_true] at h; exact h))
set_option maxHeartbeats 4000000 in
theorem size2_c (b : Bt) (hb : b.small) (s : Store) (K : AV → Store → Prop) (h : K (.p (ii (sizeV b))) s) : Cal Tryz.prog 60 [.p b.pv] s K := by
  refine Cal.pure (args := [b.pv]) ?_
  refine Cal.intro Tryz.func60 (by decide +kernel) rfl rfl ?_
  refine bytes2_c b hb _ _ ?_
  unfold sizeV at h
  unfold bytesV
  cases hr : (rightV b != 0) with
  | true => rw [hr] at h; exact h
  | false => rw [hr] at h; exact h
end Go.Proofs.YtjhgmaephpadpaaGreat.AW


open Go Go.Proofs.YtjhgmaephpadpaaGreat.AW Go.Proofs
namespace Go.Proofs.YtjhgmaephpadpaaGreat.AW
set_option maxRecDepth 100000
set_option linter.unusedSimpArgs false
set_option linter.unusedVariables false

/-! ### Producers -/
abbrev Tri := Int × Int × Int
def tri (x : Tri) : PV := .agg [ii x.1, ii x.2.1, ii x.2.2]
structure Pr where
  id : Int
  epoch : Int
  last : List Tri
  op : Int
def lsP (l : List Tri) : PV := .sl .shr 3 (l.map tri)
def Pr.pv (p : Pr) : PV := .agg [ii p.id, ii p.epoch, lsP p.last, ii p.op]
theorem find_at {α : Type} {p : α → Bool} : ∀ {l : List α} {j : Nat} (hj : j < l.length), (l.take j).any p = false → p l[j] = true → l.find? p = some l[j]
  | x :: r, 0, _, _, h => by simp only [List.getElem_cons_zero] at h ⊢; rw [List.find?_cons, h]
  | x :: r, j + 1, hj, hn, h => by
    simp only [List.take_succ_cons, List.any_cons, Bool.or_eq_false_iff] at hn
    simp only [List.getElem_cons_succ] at h ⊢
    rw [List.find?_cons, hn.1]
    exact find_at (by simpa using hj) hn.2 h
theorem find_no {α : Type} {p : α → Bool} : ∀ {l : List α}, l.any p = false → l.find? p = none
  | [], _ => rfl
  | x :: r, h => by
    simp only [List.any_cons, Bool.or_eq_false_iff] at h
    rw [List.find?_cons, h.1]; exact find_no h.2
def dupP (p : Pr) (b : Bt) (x : Tri) : Bool := (b.mark == 0) && ((b.epoch == p.epoch) && ((x.1 == b.seq) && (x.2.1 == lastV b.seq b.rl)))
def dupV (p : Pr) (b : Bt) : Int × Bool := match p.last.find? (dupP p b) with | some x => (x.2.2, true) | none => (-1, false)
def ib (q : Int × Bool) : AV := .tup [.p (ii q.1), .p (.bool q.2)]
def i2 (q : Int × Int) : AV := .tup [.p (ii q.1), .p (ii q.2)]
theorem getT {l : List Tri} {j : Nat} (h : j < l.length) : (l.map tri)[((j : Nat) : Int).toNat]? = some (tri l[j]) := by
  rw [Int.toNat_natCast]; simp [h]
theorem lsL (l : List Tri) : (l.map tri).length = l.length := List.length_map ..
abbrev pCells (p : Pr) : Option AObj := some (.cells [.p (ii p.id), .p (ii p.epoch), .p (lsP p.last), .p (ii p.op)])
abbrev bCells (b : Bt) : Option AObj := some (.cells [.p (ii b.base), .p (ii b.prod), .p (ii b.epoch), .p (ii b.seq), .p (.bool b.txn), .p (ii b.mark), .p (rcP b.recs)])
set_option maxHeartbeats 4000000 in
theorem dup_c (p : Pr) (b : Bt) (hp : p.last.length ≤ 1000000000) (s : Store) (K : AV → Store → Prop) (h : K (ib (dupV p b)) s) : Cal Tryz.prog 162 [.p p.pv, .p b.pv] s K := by
  refine Cal.pure (args := [p.pv, b.pv]) ?_
  refine Cal.intro Tryz.func162 (by decide +kernel) rfl rfl ?_
  refine last2_c b.seq b.rl _ _ ?_
  refine LoopX.fam [2, 3, 6, 16, 17, 18] (fun (j : Nat) => ([(2, .ref 0 0), (3, .ref 1 0), (6, .p (ii (lastV b.seq b.rl))), (16, .p (lsP p.last)), (17, .p (ii (p.last.map tri).length)), (18, .p (ii (j : Nat)))], [pCells p, bCells b]))
    (fun j => j ≤ p.last.length ∧ (p.last.take j).any (dupP p b) = false) (fun j => p.last.length - j) 0 ⟨Nat.zero_le _, rfl⟩ (Trim.mk' rfl rfl rfl rfl (Nat.le_refl _)) ?_
  rintro j ⟨hj, hno⟩
  have hl := lsL p.last
  refine Br.mk (fun hc => ?_) (fun hc => ?_)
  · have hc : (j : Int) < ((p.last.map tri).length : Nat) := of_decide_eq_true hc
    have hj1 : j < p.last.length := by omega
    have ej : IntKind.i64.wrap ((j : Int) + 1) = ((j + 1 : Nat) : Int) := by rw [wrap_i64] <;> omega
    refine Idx.mk _ (by omega) (getT hj1) ?_
    refine Or.inl ?_
    refine Ob.mk (okst rfl rfl rfl) ?_
    have hyes : dupP p b p.last[j] = true → K (.tup [.p (ii p.last[j].2.2), .p (.bool true)]) s := fun hd => by
      unfold dupV at h
      rw [find_at hj1 hno hd] at h
      exact h
    repeat' (first
      | (apply Br.t; · (first | rfl | (simp only [*] <;> rfl)))
      | (apply Br.f; · (first | rfl | (simp only [*] <;> rfl)))
      | refine Ob.mk (okst rfl rfl rfl) ?_
      | exact hyes (by unfold dupP; simp only [*]; rfl)
      | refine Ob.mk (by decide) ?_
      | refine Br.mkT (fun c => ?_) (fun c => ?_)
      | refine Br.mkF (fun c => ?_) (fun c => ?_)
      | refine Br.mk (fun c => ?_) (fun c => ?_))
    all_goals
      have hno1 : dupP p b p.last[j] = false := by unfold dupP; simp only [*]; rfl
      refine ⟨j + 1, ⟨by omega, by rw [take_succ' hj1, List.any_append, hno]; simp [hno1]⟩, by show p.last.length - (j + 1) < p.last.length - j; omega, Nat.le_refl _, Trim.mk' ?_ rfl rfl rfl (show 2 ≤ 3 by decide)⟩
      refine Eq.trans (b := [_, _, _, _, _, (18, AV.p (ii (IntKind.i64.wrap ((j : Int) + 1))))]) rfl ?_
      rw [ej]; rfl
  · have hc : ¬ (j : Int) < ((p.last.map tri).length : Nat) := of_decide_eq_false hc
    have : j = p.last.length := by omega
    subst this
    rw [List.take_length] at hno
    unfold dupV at h
    rw [find_no hno] at h
    exact h
set_option maxHeartbeats 4000000 in
theorem dup1_c (p : Pr) (b : Bt) (hp : p.last.length ≤ 1000000000) (s : Store) (K : AV → Store → Prop) (h : K (ib (dupV p b)) s) : Cal Tryz.prog 128 [.p p.pv, .p b.pv] s K := by
  refine Cal.pure (args := [p.pv, b.pv]) ?_
  refine Cal.intro Tryz.func128 (by decide +kernel) rfl rfl ?_
  have hfalse : (b.epoch == p.epoch) = false ∨ (b.mark == 0) = false → K (.tup [.p (ii (-1)), .p (.bool false)]) s := fun hd => by
    have hn : p.last.any (dupP p b) = false := by
      rw [List.any_eq_false]
      intro x _ hx
      unfold dupP at hx
      rcases hd with hd | hd <;> rw [hd] at hx <;> simp at hx
    unfold dupV at h
    rw [find_no hn] at h
    exact h
  repeat' (first
    | (apply Br.t; · (first | rfl | (simp only [*] <;> rfl)))
    | (apply Br.f; · (first | rfl | (simp only [*] <;> rfl)))
    | refine Ob.mk (okst rfl rfl rfl) ?_
    | exact hfalse (.inl (by assumption))
    | exact hfalse (.inr (by assumption))
    | refine Br.mkT (fun c => ?_) (fun c => ?_)
    | refine Br.mkF (fun c => ?_) (fun c => ?_)
    | refine Br.mk (fun c => ?_) (fun c => ?_))
  have hl := lsL p.last
  refine LoopX.fam [2, 3, 19, 20, 21] (fun (j : Nat) => ([(2, .ref 0 0), (3, .ref 1 0), (19, .p (lsP p.last)), (20, .p (ii (p.last.map tri).length)), (21, .p (ii (j : Nat)))], [pCells p, bCells b]))
    (fun j => j ≤ p.last.length ∧ (p.last.take j).any (dupP p b) = false) (fun j => p.last.length - j) 0 ⟨Nat.zero_le _, rfl⟩ (Trim.mk' rfl rfl rfl rfl (Nat.le_refl _)) ?_
  rintro j ⟨hj, hno⟩
  refine Br.mk (fun hc => ?_) (fun hc => ?_)
  · have hc : (j : Int) < ((p.last.map tri).length : Nat) := of_decide_eq_true hc
    have hj1 : j < p.last.length := by omega
    have ej : IntKind.i64.wrap ((j : Int) + 1) = ((j + 1 : Nat) : Int) := by rw [wrap_i64] <;> omega
    refine Idx.mk _ (by omega) (getT hj1) ?_
    refine Or.inl ?_
    refine Ob.mk (okst rfl rfl rfl) ?_
    have hyes : dupP p b p.last[j] = true → K (.tup [.p (ii p.last[j].2.2), .p (.bool true)]) s := fun hd => by
      unfold dupV at h
      rw [find_at hj1 hno hd] at h
      exact h
    clear hfalse
    repeat' (first
      | refine Chk.mk (by kernel_rfl) ?_
      | (apply Br.t; · (first | rfl | (simp only [*] <;> rfl)))
      | (apply Br.f; · (first | rfl | (simp only [*] <;> rfl)))
      | refine ⟨_, ⟨rfl, rfl⟩, ?_⟩
      | refine ⟨_, _, ⟨rfl, rfl⟩, rfl, ?_⟩
      | exact hyes (by unfold dupP; simp only [*]; rfl)
      | refine Or.inl ⟨_, fun s' => last1_c b.seq b.rl s' _ ⟨rfl, rfl⟩, rfl, ?_⟩
      | refine ⟨_, Ob.mk (by decide) ⟨rfl, rfl⟩, ?_⟩
      | (refine ⟨_, Br.t ?_ ⟨rfl, rfl⟩, ?_⟩; · (first | rfl | (simp only [*] <;> rfl)))
      | (refine ⟨_, Br.f ?_ ⟨rfl, rfl⟩, ?_⟩; · (first | rfl | (simp only [*] <;> rfl)))
      | refine ⟨_, _, Ob.mk (okst rfl rfl rfl) ⟨rfl, rfl⟩, rfl, ?_⟩
      | refine Ob.mk (okst rfl rfl rfl) ?_
      | refine Ob.mk (by decide) ?_
      | refine Br.mkT (fun c => ?_) (fun c => ?_)
      | refine Br.mkF (fun c => ?_) (fun c => ?_)
      | refine Br.mk (fun c => ?_) (fun c => ?_))
    all_goals
      have hno1 : dupP p b p.last[j] = false := by unfold dupP; simp only [*]; rfl
      refine ⟨j + 1, ⟨by omega, by rw [take_succ' hj1, List.any_append, hno]; simp [hno1]⟩, by show p.last.length - (j + 1) < p.last.length - j; omega, Nat.le_refl _, Trim.mk' ?_ rfl rfl rfl (show 2 ≤ 3 by decide)⟩
      refine Eq.trans (b := [_, _, _, _, (21, AV.p (ii (IntKind.i64.wrap ((j : Int) + 1))))]) rfl ?_
      rw [ej]; rfl
  · have hc : ¬ (j : Int) < ((p.last.map tri).length : Nat) := of_decide_eq_false hc
    have : j = p.last.length := by omega
    subst this
    rw [List.take_length] at hno
    unfold dupV at h
    rw [find_no hno] at h
    exact h
end Go.Proofs.YtjhgmaephpadpaaGreat.AW


open Go Go.Proofs.YtjhgmaephpadpaaGreat.AW Go.Proofs
namespace Go.Proofs.YtjhgmaephpadpaaGreat.AW
set_option maxRecDepth 100000
set_option linter.unusedSimpArgs false
set_option linter.unusedVariables false

/-! ### A producer judges a batch -/
def markerV (p : Pr) (k : Bool) (b : Bt) : Int := if (!k) = true then 16 else if decide (b.epoch < p.epoch) = true then 14 else if decide (p.op < 0) = true then 16 else 0
def laterV (p : Pr) (b : Bt) : Int := if decide (p.op ≥ 0) = true then 16 else if (b.seq != 0) = true then 15 else 0
def lastBad (p : Pr) (b : Bt) : Bool := match p.last.getLast? with | some x => !follV x.2.1 b.seq | none => false
def checkV (p : Pr) (k : Bool) (b : Bt) : Int × Int :=
  if (b.mark != 0) = true then (-1, markerV p k b)
  else if (!k) = true then (-1, 0)
  else if decide (b.epoch < p.epoch) = true then (-1, 14)
  else if decide (b.epoch > p.epoch) = true then (-1, laterV p b)
  else if (dupV p b).2 = true then ((dupV p b).1, 0)
  else if lastBad p b = true then (-1, 15)
  else if (decide (p.op ≥ 0) && !b.txn) = true then (-1, 16) else (-1, 0)
theorem marker_c (p : Pr) (k : Bool) (b : Bt) (s : Store) (K : AV → Store → Prop) (h : K (.p (ii (markerV p k b))) s) : Cal Tryz.prog 160 [.p p.pv, .p (.bool k), .p b.pv] s K := by
  refine Cal.pure (args := [p.pv, .bool k, b.pv]) ?_
  refine Cal.intro Tryz.func160 (by decide +kernel) rfl rfl ?_
  unfold markerV at h
  repeat' (first
    | (apply Br.t; · (first | rfl | (simp only [*] <;> rfl)))
    | (apply Br.f; · (first | rfl | (simp only [*] <;> rfl)))
    | refine Ob.mk (okst rfl rfl rfl) ?_
    | refine Br.mkT (fun c => ?_) (fun c => ?_)
    | refine Br.mkF (fun c => ?_) (fun c => ?_)
    | refine Br.mk (fun c => ?_) (fun c => ?_)
    | exact h
    | (simp only [*, Bool.true_and, Bool.false_and, Bool.true_or, Bool.false_or, Bool.and_true, Bool.and_false, Bool.or_true, Bool.or_false, Bool.not_true, Bool.not_false, if_true, if_false, reduceIte, Bool.false_eq_true] at h; exact h))
theorem later_c (p : Pr) (b : Bt) (s : Store) (K : AV → Store → Prop) (h : K (.p (ii (laterV p b))) s) : Cal Tryz.prog 161 [.p p.pv, .p b.pv] s K := by
  refine Cal.pure (args := [p.pv, b.pv]) ?_
  refine Cal.intro Tryz.func161 (by decide +kernel) rfl rfl ?_
  unfold laterV at h
  repeat' (first
    | (apply Br.t; · (first | rfl | (simp only [*] <;> rfl)))
    | (apply Br.f; · (first | rfl | (simp only [*] <;> rfl)))
    | refine Ob.mk (okst rfl rfl rfl) ?_
    | refine Br.mkT (fun c => ?_) (fun c => ?_)
    | refine Br.mkF (fun c => ?_) (fun c => ?_)
    | refine Br.mk (fun c => ?_) (fun c => ?_)
    | exact h
    | (simp only [*, Bool.true_and, Bool.false_and, Bool.true_or, Bool.false_or, Bool.and_true, Bool.and_false, Bool.or_true, Bool.or_false, Bool.not_true, Bool.not_false, if_true, if_false, reduceIte, Bool.false_eq_true] at h; exact h))
theorem last_get {l : List Tri} {x : Tri} (h : l.getLast? = some x) (hl : l.length ≤ 1000000000) : 0 ≤ IntKind.i64.wrap (((l.map tri).length : Nat) - 1) ∧ (l.map tri)[(IntKind.i64.wrap ((((l.map tri).length : Nat) : Int) - 1)).toNat]? = some (tri x) ∧ decide ((((l.map tri).length : Nat) : Int) > 0) = true := by
  have hp : 0 < l.length := List.length_pos_iff.2 fun e => by rw [e] at h; cases h
  have e : IntKind.i64.wrap ((((l.map tri).length : Nat) : Int) - 1) = ((l.length - 1 : Nat) : Int) := by rw [lsL, wrap_i64] <;> omega
  rw [e]
  refine ⟨by omega, ?_, decide_eq_true (by rw [lsL]; omega)⟩
  rw [Int.toNat_natCast, List.getElem?_map, ← List.getLast?_eq_getElem?, h]; rfl
theorem no_last {l : List Tri} (h : l.getLast? = none) : decide ((((l.map tri).length : Nat) : Int) > 0) = false := by
  have : l = [] := List.getLast?_eq_none_iff.1 h
  subst this; rfl
set_option maxHeartbeats 8000000 in
theorem check_c (p : Pr) (k : Bool) (b : Bt) (hp : p.last.length ≤ 1000000000) (s : Store) (K : AV → Store → Prop) (h : K (i2 (checkV p k b)) s) : Cal Tryz.prog 127 [.p p.pv, .p (.bool k), .p b.pv] s K := by
  refine Cal.pure (args := [p.pv, .bool k, b.pv]) ?_
  refine Cal.intro Tryz.func127 (by decide +kernel) rfl rfl ?_
  unfold checkV i2 at h
  cases hg : p.last.getLast? with
  | none =>
    have hl0 : lastBad p b = false := by unfold lastBad; rw [hg]
    have h0 := no_last hg
    repeat' (first
      | (apply Br.t; · (first | rfl | (simp only [*] <;> rfl)))
      | (apply Br.f; · (first | rfl | (simp only [*] <;> rfl)))
      | refine Ob.mk (okst rfl rfl rfl) ?_
      | refine marker_c p k b _ _ ?_
      | refine later_c p b _ _ ?_
      | refine dup_c p b hp _ _ ?_
      | refine Br.mkT (fun c => ?_) (fun c => ?_)
      | refine Br.mkF (fun c => ?_) (fun c => ?_)
      | refine Br.mk (fun c => ?_) (fun c => ?_)
      | exact h
      | (simp only [*, Bool.true_and, Bool.false_and, Bool.true_or, Bool.false_or, Bool.and_true, Bool.and_false, Bool.or_true, Bool.or_false, Bool.not_true, Bool.not_false, if_true, if_false, reduceIte, Bool.false_eq_true] at h; exact h))
    all_goals
      repeat' (first
        | refine Chk.mk (by kernel_rfl) ?_
        | (apply Br.t; · (first | rfl | (simp only [*] <;> rfl)))
        | (apply Br.f; · (first | rfl | (simp only [*] <;> rfl)))
        | refine ⟨_, ⟨rfl, rfl⟩, ?_⟩
        | refine ⟨_, _, ⟨rfl, rfl⟩, rfl, ?_⟩
        | (simp only [*, Bool.true_and, Bool.false_and, if_true, if_false, Bool.not_true, Bool.not_false, Bool.false_eq_true] at h; exact h)
        | refine ⟨_, Ob.mk (by decide) ⟨rfl, rfl⟩, ?_⟩
        | (refine ⟨_, Br.t ?_ ⟨rfl, rfl⟩, ?_⟩; · (first | rfl | (simp only [*] <;> rfl)))
        | (refine ⟨_, Br.f ?_ ⟨rfl, rfl⟩, ?_⟩; · (first | rfl | (simp only [*] <;> rfl)))
        | refine ⟨_, _, Ob.mk (okst rfl rfl rfl) ⟨rfl, rfl⟩, rfl, ?_⟩
        | refine Ob.mk (okst rfl rfl rfl) ?_
        | refine Ob.mk (by decide) ?_
        | refine Br.mkT (fun c => ?_) (fun c => ?_)
        | refine Br.mkF (fun c => ?_) (fun c => ?_)
        | refine Br.mk (fun c => ?_) (fun c => ?_))
  | some x =>
    have hl0 : lastBad p b = !follV x.2.1 b.seq := by unfold lastBad; rw [hg]
    obtain ⟨q1, q2, q3⟩ := last_get hg hp
    repeat' (first
      | (apply Br.t; · (first | rfl | (simp only [*] <;> rfl)))
      | (apply Br.f; · (first | rfl | (simp only [*] <;> rfl)))
      | refine Ob.mk (okst rfl rfl rfl) ?_
      | refine marker_c p k b _ _ ?_
      | refine later_c p b _ _ ?_
      | refine dup_c p b hp _ _ ?_
      | refine Br.mkT (fun c => ?_) (fun c => ?_)
      | refine Br.mkF (fun c => ?_) (fun c => ?_)
      | refine Br.mk (fun c => ?_) (fun c => ?_)
      | exact h
      | (simp only [*, Bool.true_and, Bool.false_and, Bool.true_or, Bool.false_or, Bool.and_true, Bool.and_false, Bool.or_true, Bool.or_false, Bool.not_true, Bool.not_false, if_true, if_false, reduceIte, Bool.false_eq_true] at h; exact h))
    all_goals
      repeat' (first
        | refine Chk.mk (by kernel_rfl) ?_
        | (apply Br.t; · (first | rfl | (simp only [*] <;> rfl)))
        | (apply Br.f; · (first | rfl | (simp only [*] <;> rfl)))
        | refine ⟨_, ⟨rfl, rfl⟩, ?_⟩
        | refine ⟨_, _, ⟨rfl, rfl⟩, rfl, ?_⟩
        | refine ⟨_, Idx.mk (tri x) q1 q2 ⟨rfl, rfl⟩, ?_⟩
        | refine Or.inl ⟨_, fun s' => foll2_c x.2.1 b.seq s' _ ⟨rfl, rfl⟩, rfl, ?_⟩
        | (simp only [*, Bool.true_and, Bool.false_and, if_true, if_false, Bool.not_true, Bool.not_false, Bool.false_eq_true] at h; exact h)
        | refine ⟨_, Ob.mk (by decide) ⟨rfl, rfl⟩, ?_⟩
        | (refine ⟨_, Br.t ?_ ⟨rfl, rfl⟩, ?_⟩; · (first | rfl | (simp only [*] <;> rfl)))
        | (refine ⟨_, Br.f ?_ ⟨rfl, rfl⟩, ?_⟩; · (first | rfl | (simp only [*] <;> rfl)))
        | refine ⟨_, _, Ob.mk (okst rfl rfl rfl) ⟨rfl, rfl⟩, rfl, ?_⟩
        | refine Ob.mk (okst rfl rfl rfl) ?_
        | refine Ob.mk (by decide) ?_
        | refine Br.mkT (fun c => ?_) (fun c => ?_)
        | refine Br.mkF (fun c => ?_) (fun c => ?_)
        | refine Br.mk (fun c => ?_) (fun c => ?_))
set_option maxHeartbeats 8000000 in
theorem check1_c (p : Pr) (k : Bool) (b : Bt) (hp : p.last.length ≤ 1000000000) (s : Store) (K : AV → Store → Prop) (h : K (i2 (checkV p k b)) s) : Cal Tryz.prog 96 [.p p.pv, .p (.bool k), .p b.pv] s K := by
  refine Cal.pure (args := [p.pv, .bool k, b.pv]) ?_
  refine Cal.intro Tryz.func96 (by decide +kernel) rfl rfl ?_
  unfold checkV i2 markerV laterV at h
  cases hg : p.last.getLast? with
  | none =>
    have hl0 : lastBad p b = false := by unfold lastBad; rw [hg]
    have h0 := no_last hg
    repeat' (first
      | (apply Br.t; · (first | rfl | (simp only [*] <;> rfl)))
      | (apply Br.f; · (first | rfl | (simp only [*] <;> rfl)))
      | refine Ob.mk (okst rfl rfl rfl) ?_
      | refine dup1_c p b hp _ _ ?_
      | refine Br.mkT (fun c => ?_) (fun c => ?_)
      | refine Br.mkF (fun c => ?_) (fun c => ?_)
      | refine Br.mk (fun c => ?_) (fun c => ?_)
      | exact h
      | (simp only [*, Bool.true_and, Bool.false_and, Bool.true_or, Bool.false_or, Bool.and_true, Bool.and_false, Bool.or_true, Bool.or_false, Bool.not_true, Bool.not_false, if_true, if_false, reduceIte, Bool.false_eq_true] at h; exact h))
    all_goals
      repeat' (first
        | refine Chk.mk (by kernel_rfl) ?_
        | (apply Br.t; · (first | rfl | (simp only [*] <;> rfl)))
        | (apply Br.f; · (first | rfl | (simp only [*] <;> rfl)))
        | refine ⟨_, ⟨rfl, rfl⟩, ?_⟩
        | refine ⟨_, _, ⟨rfl, rfl⟩, rfl, ?_⟩
        | (simp only [*, Bool.true_and, Bool.false_and, if_true, if_false, Bool.not_true, Bool.not_false, Bool.false_eq_true] at h; exact h)
        | refine ⟨_, Ob.mk (by decide) ⟨rfl, rfl⟩, ?_⟩
        | (refine ⟨_, Br.t ?_ ⟨rfl, rfl⟩, ?_⟩; · (first | rfl | (simp only [*] <;> rfl)))
        | (refine ⟨_, Br.f ?_ ⟨rfl, rfl⟩, ?_⟩; · (first | rfl | (simp only [*] <;> rfl)))
        | refine ⟨_, _, Ob.mk (okst rfl rfl rfl) ⟨rfl, rfl⟩, rfl, ?_⟩
        | refine Ob.mk (okst rfl rfl rfl) ?_
        | refine Ob.mk (by decide) ?_
        | refine Br.mkT (fun c => ?_) (fun c => ?_)
        | refine Br.mkF (fun c => ?_) (fun c => ?_)
        | refine Br.mk (fun c => ?_) (fun c => ?_))
  | some x =>
    have hl0 : lastBad p b = !follV x.2.1 b.seq := by unfold lastBad; rw [hg]
    obtain ⟨q1, q2, q3⟩ := last_get hg hp
    repeat' (first
      | (apply Br.t; · (first | rfl | (simp only [*] <;> rfl)))
      | (apply Br.f; · (first | rfl | (simp only [*] <;> rfl)))
      | refine Ob.mk (okst rfl rfl rfl) ?_
      | refine dup1_c p b hp _ _ ?_
      | refine Br.mkT (fun c => ?_) (fun c => ?_)
      | refine Br.mkF (fun c => ?_) (fun c => ?_)
      | refine Br.mk (fun c => ?_) (fun c => ?_)
      | exact h
      | (simp only [*, Bool.true_and, Bool.false_and, Bool.true_or, Bool.false_or, Bool.and_true, Bool.and_false, Bool.or_true, Bool.or_false, Bool.not_true, Bool.not_false, if_true, if_false, reduceIte, Bool.false_eq_true] at h; exact h))
    all_goals
      repeat' (first
        | refine Chk.mk (by kernel_rfl) ?_
        | (apply Br.t; · (first | rfl | (simp only [*] <;> rfl)))
        | (apply Br.f; · (first | rfl | (simp only [*] <;> rfl)))
        | refine ⟨_, ⟨rfl, rfl⟩, ?_⟩
        | refine ⟨_, _, ⟨rfl, rfl⟩, rfl, ?_⟩
        | refine ⟨_, Idx.mk (tri x) q1 q2 ⟨rfl, rfl⟩, ?_⟩
        | refine Or.inl ⟨_, fun s' => foll1_c x.2.1 b.seq s' _ ⟨rfl, rfl⟩, rfl, ?_⟩
        | (simp only [*, Bool.true_and, Bool.false_and, if_true, if_false, Bool.not_true, Bool.not_false, Bool.false_eq_true] at h; exact h)
        | refine ⟨_, Ob.mk (by decide) ⟨rfl, rfl⟩, ?_⟩
        | (refine ⟨_, Br.t ?_ ⟨rfl, rfl⟩, ?_⟩; · (first | rfl | (simp only [*] <;> rfl)))
        | (refine ⟨_, Br.f ?_ ⟨rfl, rfl⟩, ?_⟩; · (first | rfl | (simp only [*] <;> rfl)))
        | refine ⟨_, _, Ob.mk (okst rfl rfl rfl) ⟨rfl, rfl⟩, rfl, ?_⟩
        | refine Ob.mk (okst rfl rfl rfl) ?_
        | refine Ob.mk (by decide) ?_
        | refine Br.mkT (fun c => ?_) (fun c => ?_)
        | refine Br.mkF (fun c => ?_) (fun c => ?_)
        | refine Br.mk (fun c => ?_) (fun c => ?_))

/-! ### A producer by itself; are two the same? -/
theorem copy_c (p : Pr) (hp : p.last.length ≤ 1000000000) (s : Store) (K : AV → Store → Prop) (h : K (.p p.pv) s) : Cal Tryz.prog 70 [.p p.pv] s K := by
  refine Cal.pure (args := [p.pv]) ?_
  refine Cal.weakD ?_
  refine Cal.intro Tryz.func70 (by decide +kernel) rfl rfl ?_
  refine clone_p3 _ (by rw [lsL]; exact hp) _ _ ?_
  refine clip_p3 _ _ _ ?_
  refine Ob.mk (okst rfl rfl rfl) ?_
  refine Ob.mk (okst rfl rfl rfl) ?_
  have hel : ∀ y, y ∈ p.last.map tri → El 3 y := fun y hy => by
    obtain ⟨u, _, rfl⟩ := List.mem_map.1 hy; exact ⟨rfl, rfl⟩
  refine ⟨_, p.pv, rfl, .agg _ _ (.cons _ _ _ _ (.refl _) (.cons _ _ _ _ (.refl _) (.cons _ _ _ _ ?_ (.cons _ _ _ _ (.refl _) .nil)))), h⟩
  exact .sl .clip 3 _ _ rfl hel (wkds_refl _)
end Go.Proofs.YtjhgmaephpadpaaGreat.AW


open Go Go.Proofs.YtjhgmaephpadpaaGreat.AW Go.Proofs
namespace Go.Proofs.YtjhgmaephpadpaaGreat.AW
set_option maxRecDepth 100000
set_option linter.unusedSimpArgs false
set_option linter.unusedVariables false

/-! ### A producer behind a batch -/
def appL (l0 : List Tri) (b : Bt) : List Tri := (l0 ++ [(b.seq, lastV b.seq b.rl, b.base)]).drop ((l0 ++ [(b.seq, lastV b.seq b.rl, b.base)]).length - 5)
def behV (l0 : List Tri) (op0 : Int) (b : Bt) : Pr :=
  if (b.mark != 0) = true then ⟨b.prod, b.epoch, l0, -1⟩ else ⟨b.prod, b.epoch, appL l0 b, if (b.txn && decide (op0 < 0)) = true then b.base else op0⟩
def applyV (p : Pr) (k : Bool) (b : Bt) : Pr := behV (if (k && (b.epoch == p.epoch)) = true then p.last else []) (if k = true then p.op else -1) b
theorem clone_k3 (xs : List PV) (hl : xs.length ≤ 1000000000) (K : AV → Store → Prop) (h1 : xs ≠ [] → K (.osl 0 xs.length 0 xs.length) [some (.buf 3 xs)]) (h2 : xs = [] → K (.p (.sl .nil 0 [])) [] ∧ K (.p (.sl .clip 3 [])) []) : Cal Tryz.prog 104 [.p (.sl .shr 3 xs)] [] K := by
  refine Cal.intro Tryz.func104 (by decide +kernel) rfl rfl ?_
  cases xs with
  | nil =>
    refine ⟨?_, ?_⟩
    · refine Br.t rfl ?_
      exact (h2 rfl).1
    · refine Br.f rfl ?_
      refine BrL.n ?_
      exact (h2 rfl).2
  | cons x r =>
    refine Br.f rfl ?_
    refine BrL.c ?_
    refine Ob.mk ?_ ?_
    · show (0 + (x :: r).length) * 24 ≤ _; omega
    · exact h1 (by simp)
theorem mx5 {n : Nat} (h : n ≤ 1000000001) : (if IntKind.i64.wrap (((n : Nat) : Int) - 5) > 0 then IntKind.i64.wrap (((n : Nat) : Int) - 5) else 0) = ((n - 5 : Nat) : Int) := by
  rw [wrap_i64 (by omega) (by omega)]
  split <;> omega
theorem mx5' {n : Nat} (h : n ≤ 1000000001) : (if 0 > IntKind.i64.wrap (((n : Nat) : Int) - 5) then 0 else IntKind.i64.wrap (((n : Nat) : Int) - 5)) = ((n - 5 : Nat) : Int) := by
  rw [wrap_i64 (by omega) (by omega)]
  split <;> omega
theorem cut5 (xs : List PV) : (xs.drop (0 + (((xs.length - 5 : Nat) : Int)).toNat)).take ((((xs.length : Nat) : Int) - ((xs.length - 5 : Nat) : Int)).toNat) = xs.drop (xs.length - 5) := by
  rw [Int.toNat_natCast, Nat.zero_add, List.take_of_length_le]
  rw [List.length_drop]; omega
theorem appL_map (l0 : List Tri) (b : Bt) : (List.map tri l0 ++ [tri (b.seq, lastV b.seq b.rl, b.base)]).drop ((List.map tri l0 ++ [tri (b.seq, lastV b.seq b.rl, b.base)]).length - 5) = (appL l0 b).map tri := by
  rw [show [tri (b.seq, lastV b.seq b.rl, b.base)] = List.map tri [(b.seq, lastV b.seq b.rl, b.base)] from rfl, ← List.map_append, List.length_map, ← List.map_drop]; rfl
theorem appL_le {l0 : List Tri} {b : Bt} {n : Nat} (h : l0.length + 1 ≤ n + 5) (h5 : 5 ≤ n := by omega) : ((appL l0 b).map tri).length ≤ n := by
  rw [List.length_map]; unfold appL; rw [List.length_drop, List.length_append]; show l0.length + 1 - (l0.length + 1 - 5) ≤ n; omega
set_option maxHeartbeats 8000000 in
theorem apply_c (p : Pr) (k : Bool) (b : Bt) (hp : p.last.length ≤ 1000000000) (s : Store) (K : AV → Store → Prop) (h : K (.p (applyV p k b).pv) s) : Cal Tryz.prog 121 [.p p.pv, .p (.bool k), .p b.pv] s K := by
  refine Cal.weakD ?_
  refine Cal.pure (args := [p.pv, .bool k, b.pv]) ?_
  refine Cal.intro Tryz.func121 (by decide +kernel) rfl rfl ?_
  refine Ob.mk (okst rfl rfl rfl) ?_
  cases hk : k with
  | false =>
    refine Br.f rfl ?_
    have hl0 : (List.map tri ([] : List Tri) ++ [tri (b.seq, lastV b.seq b.rl, b.base)]).length ≤ 1000000001 := by
      rw [List.length_append, List.length_map]; show _ + 1 ≤ _; simp; try omega
    refine Br.mk (fun hm => ?_) (fun hm => ?_)
    · have e : applyV p k b = ⟨b.prod, b.epoch, [], -1⟩ := by
        unfold applyV behV; simp only [*, Bool.true_and, Bool.false_and, if_true, if_false, Bool.false_eq_true]
      rw [e] at h
      refine Ob.mk (okst rfl rfl rfl) ?_
      refine Ob.mk (okst rfl rfl rfl) ?_
      exact ⟨_, _, rfl, .agg _ _ (.cons _ _ _ _ (.refl _) (.cons _ _ _ _ (.refl _) (.cons _ _ _ _ (.nil 0 .shr 3) (.cons _ _ _ _ (.refl _) .nil)))), h⟩
    · have e : applyV p k b = ⟨b.prod, b.epoch, appL [] b, if (b.txn && decide (((-1) : Int) < 0)) = true then b.base else (-1)⟩ := by
        unfold applyV behV; simp only [*, Bool.true_and, Bool.false_and, if_true, if_false, Bool.false_eq_true]
      rw [e] at h
      repeat' (first
        | refine Chk.mk (by kernel_rfl) ?_
        | (apply Br.t; · (first | rfl | (simp only [*] <;> rfl)))
        | (apply Br.f; · (first | rfl | (simp only [*] <;> rfl)))
        | refine ⟨_, ⟨rfl, rfl⟩, ?_⟩
        | refine ⟨_, _, ⟨rfl, rfl⟩, rfl, ?_⟩
        | refine Or.inl ⟨_, fun s' => last2_c b.seq b.rl s' _ ⟨rfl, rfl⟩, rfl, ?_⟩
        | refine ⟨_, _, BrL.c (Ob.mk (show (0 + 1) * 24 ≤ 140737488355328 by decide) ⟨rfl, rfl⟩), rfl, ?_⟩
        | refine ⟨_, _, Ob.mk ⟨rfl, rfl, rfl, (show (0 + 1) * 24 ≤ 140737488355328 by decide)⟩ ⟨rfl, rfl⟩, rfl, ?_⟩
        | refine ⟨_, Ob.mk (by decide) ⟨rfl, rfl⟩, ?_⟩
        | (refine ⟨_, Br.t ?_ ⟨rfl, rfl⟩, ?_⟩; · (first | rfl | (simp only [*] <;> rfl)))
        | (refine ⟨_, Br.f ?_ ⟨rfl, rfl⟩, ?_⟩; · (first | rfl | (simp only [*] <;> rfl)))
        | refine ⟨_, _, Ob.mk (okst rfl rfl rfl) ⟨rfl, rfl⟩, rfl, ?_⟩
        | refine Ob.mk (okst rfl rfl rfl) ?_
        | refine Ob.mk (by decide) ?_
        | refine Br.mkT (fun c => ?_) (fun c => ?_)
        | refine Br.mkF (fun c => ?_) (fun c => ?_)
        | refine Br.mk (fun c => ?_) (fun c => ?_))
      have hmx := mx5 hl0
      refine Ob.mk ⟨rfl, ?_, ?_, Int.le_refl _⟩ ?_
      · show 0 ≤ (if IntKind.i64.wrap (((((List.map tri ([] : List Tri) ++ [tri (b.seq, lastV b.seq b.rl, b.base)])).length : Nat) : Int) - 5) > 0 then IntKind.i64.wrap (((((List.map tri ([] : List Tri) ++ [tri (b.seq, lastV b.seq b.rl, b.base)])).length : Nat) : Int) - 5) else 0)
        rw [hmx]; exact Int.natCast_nonneg _
      · show (if IntKind.i64.wrap (((((List.map tri ([] : List Tri) ++ [tri (b.seq, lastV b.seq b.rl, b.base)])).length : Nat) : Int) - 5) > 0 then IntKind.i64.wrap (((((List.map tri ([] : List Tri) ++ [tri (b.seq, lastV b.seq b.rl, b.base)])).length : Nat) : Int) - 5) else 0) ≤ ((((List.map tri ([] : List Tri) ++ [tri (b.seq, lastV b.seq b.rl, b.base)])).length : Nat) : Int)
        rw [hmx]; omega
      refine Cal.freeze ?_ ⟨_, Tryz.func104, rfl, rfl⟩
      refine Ob.mk rfl ?_
      show Cal Tryz.prog 104 [.p (.sl .shr 3 (((List.map tri ([] : List Tri) ++ [tri (b.seq, lastV b.seq b.rl, b.base)]).drop (0 + (if IntKind.i64.wrap (((((List.map tri ([] : List Tri) ++ [tri (b.seq, lastV b.seq b.rl, b.base)])).length : Nat) : Int) - 5) > 0 then IntKind.i64.wrap (((((List.map tri ([] : List Tri) ++ [tri (b.seq, lastV b.seq b.rl, b.base)])).length : Nat) : Int) - 5) else 0).toNat)).take ((((((List.map tri ([] : List Tri) ++ [tri (b.seq, lastV b.seq b.rl, b.base)])).length : Nat) : Int) - (if IntKind.i64.wrap (((((List.map tri ([] : List Tri) ++ [tri (b.seq, lastV b.seq b.rl, b.base)])).length : Nat) : Int) - 5) > 0 then IntKind.i64.wrap (((((List.map tri ([] : List Tri) ++ [tri (b.seq, lastV b.seq b.rl, b.base)])).length : Nat) : Int) - 5) else 0)).toNat)))] _ _
      rw [hmx, cut5, appL_map]
      refine clone_p3 _ (appL_le (by simp; try omega)) _ _ ?_
      refine Ob.mk (okst rfl rfl rfl) ?_
      repeat' (first
        | (apply Br.t; · (first | rfl | (simp only [*] <;> rfl)))
        | (apply Br.f; · (first | rfl | (simp only [*] <;> rfl)))
        | refine Ob.mk (okst rfl rfl rfl) ?_
        | (simp only [*, Bool.true_and, Bool.false_and, Bool.true_or, Bool.false_or, Bool.and_true, Bool.and_false, Bool.or_true, Bool.or_false, Bool.not_true, Bool.not_false, if_true, if_false, reduceIte, Bool.false_eq_true] at h; exact ⟨_, _, rfl, .refl _, h⟩)
        | refine Br.mkT (fun c => ?_) (fun c => ?_)
        | refine Br.mkF (fun c => ?_) (fun c => ?_)
        | refine Br.mk (fun c => ?_) (fun c => ?_))
  | true =>
    refine Br.t rfl ?_
    refine Ob.mk (okst rfl rfl rfl) ?_
    cases he : (b.epoch == p.epoch) with
    | false =>
      refine Br.f he ?_
      have hl0 : (List.map tri ([] : List Tri) ++ [tri (b.seq, lastV b.seq b.rl, b.base)]).length ≤ 1000000001 := by
        rw [List.length_append, List.length_map]; show _ + 1 ≤ _; simp; try omega
      refine Br.mk (fun hm => ?_) (fun hm => ?_)
      · have e : applyV p k b = ⟨b.prod, b.epoch, [], -1⟩ := by
          unfold applyV behV; simp only [*, Bool.true_and, Bool.false_and, if_true, if_false, Bool.false_eq_true]
        rw [e] at h
        refine Ob.mk (okst rfl rfl rfl) ?_
        refine Ob.mk (okst rfl rfl rfl) ?_
        exact ⟨_, _, rfl, .agg _ _ (.cons _ _ _ _ (.refl _) (.cons _ _ _ _ (.refl _) (.cons _ _ _ _ (.nil 0 .shr 3) (.cons _ _ _ _ (.refl _) .nil)))), h⟩
      · have e : applyV p k b = ⟨b.prod, b.epoch, appL [] b, if (b.txn && decide ((p.op : Int) < 0)) = true then b.base else p.op⟩ := by
          unfold applyV behV; simp only [*, Bool.true_and, Bool.false_and, if_true, if_false, Bool.false_eq_true]
        rw [e] at h
        repeat' (first
          | refine Chk.mk (by kernel_rfl) ?_
          | (apply Br.t; · (first | rfl | (simp only [*] <;> rfl)))
          | (apply Br.f; · (first | rfl | (simp only [*] <;> rfl)))
          | refine ⟨_, ⟨rfl, rfl⟩, ?_⟩
          | refine ⟨_, _, ⟨rfl, rfl⟩, rfl, ?_⟩
          | refine Or.inl ⟨_, fun s' => last2_c b.seq b.rl s' _ ⟨rfl, rfl⟩, rfl, ?_⟩
          | refine ⟨_, _, BrL.c (Ob.mk (show (0 + 1) * 24 ≤ 140737488355328 by decide) ⟨rfl, rfl⟩), rfl, ?_⟩
          | refine ⟨_, _, Ob.mk ⟨rfl, rfl, rfl, (show (0 + 1) * 24 ≤ 140737488355328 by decide)⟩ ⟨rfl, rfl⟩, rfl, ?_⟩
          | refine ⟨_, Ob.mk (by decide) ⟨rfl, rfl⟩, ?_⟩
          | (refine ⟨_, Br.t ?_ ⟨rfl, rfl⟩, ?_⟩; · (first | rfl | (simp only [*] <;> rfl)))
          | (refine ⟨_, Br.f ?_ ⟨rfl, rfl⟩, ?_⟩; · (first | rfl | (simp only [*] <;> rfl)))
          | refine ⟨_, _, Ob.mk (okst rfl rfl rfl) ⟨rfl, rfl⟩, rfl, ?_⟩
          | refine Ob.mk (okst rfl rfl rfl) ?_
          | refine Ob.mk (by decide) ?_
          | refine Br.mkT (fun c => ?_) (fun c => ?_)
          | refine Br.mkF (fun c => ?_) (fun c => ?_)
          | refine Br.mk (fun c => ?_) (fun c => ?_))
        have hmx := mx5 hl0
        refine Ob.mk ⟨rfl, ?_, ?_, Int.le_refl _⟩ ?_
        · show 0 ≤ (if IntKind.i64.wrap (((((List.map tri ([] : List Tri) ++ [tri (b.seq, lastV b.seq b.rl, b.base)])).length : Nat) : Int) - 5) > 0 then IntKind.i64.wrap (((((List.map tri ([] : List Tri) ++ [tri (b.seq, lastV b.seq b.rl, b.base)])).length : Nat) : Int) - 5) else 0)
          rw [hmx]; exact Int.natCast_nonneg _
        · show (if IntKind.i64.wrap (((((List.map tri ([] : List Tri) ++ [tri (b.seq, lastV b.seq b.rl, b.base)])).length : Nat) : Int) - 5) > 0 then IntKind.i64.wrap (((((List.map tri ([] : List Tri) ++ [tri (b.seq, lastV b.seq b.rl, b.base)])).length : Nat) : Int) - 5) else 0) ≤ ((((List.map tri ([] : List Tri) ++ [tri (b.seq, lastV b.seq b.rl, b.base)])).length : Nat) : Int)
          rw [hmx]; omega
        refine Cal.freeze ?_ ⟨_, Tryz.func104, rfl, rfl⟩
        refine Ob.mk rfl ?_
        show Cal Tryz.prog 104 [.p (.sl .shr 3 (((List.map tri ([] : List Tri) ++ [tri (b.seq, lastV b.seq b.rl, b.base)]).drop (0 + (if IntKind.i64.wrap (((((List.map tri ([] : List Tri) ++ [tri (b.seq, lastV b.seq b.rl, b.base)])).length : Nat) : Int) - 5) > 0 then IntKind.i64.wrap (((((List.map tri ([] : List Tri) ++ [tri (b.seq, lastV b.seq b.rl, b.base)])).length : Nat) : Int) - 5) else 0).toNat)).take ((((((List.map tri ([] : List Tri) ++ [tri (b.seq, lastV b.seq b.rl, b.base)])).length : Nat) : Int) - (if IntKind.i64.wrap (((((List.map tri ([] : List Tri) ++ [tri (b.seq, lastV b.seq b.rl, b.base)])).length : Nat) : Int) - 5) > 0 then IntKind.i64.wrap (((((List.map tri ([] : List Tri) ++ [tri (b.seq, lastV b.seq b.rl, b.base)])).length : Nat) : Int) - 5) else 0)).toNat)))] _ _
        rw [hmx, cut5, appL_map]
        refine clone_p3 _ (appL_le (by simp; try omega)) _ _ ?_
        refine Ob.mk (okst rfl rfl rfl) ?_
        repeat' (first
          | (apply Br.t; · (first | rfl | (simp only [*] <;> rfl)))
          | (apply Br.f; · (first | rfl | (simp only [*] <;> rfl)))
          | refine Ob.mk (okst rfl rfl rfl) ?_
          | (simp only [*, Bool.true_and, Bool.false_and, Bool.true_or, Bool.false_or, Bool.and_true, Bool.and_false, Bool.or_true, Bool.or_false, Bool.not_true, Bool.not_false, if_true, if_false, reduceIte, Bool.false_eq_true] at h; exact ⟨_, _, rfl, .refl _, h⟩)
          | refine Br.mkT (fun c => ?_) (fun c => ?_)
          | refine Br.mkF (fun c => ?_) (fun c => ?_)
          | refine Br.mk (fun c => ?_) (fun c => ?_))
    | true =>
      refine Br.t he ?_
      refine Cal.frameK [] (clone_k3 (p.last.map tri) (by rw [lsL]; exact hp) _ (fun hne _ => ?_) (fun h0 => ⟨fun _ => ?_, fun _ => ?_⟩)) rfl rfl rfl
      · refine Ob.mk (okst rfl rfl rfl) ?_
        have hW : WkD (.agg [ii b.prod, ii b.epoch, .sl .shr 3 (((p.last.map tri).drop 0).take (p.last.map tri).length), ii (-1)]) (Pr.pv ⟨b.prod, b.epoch, p.last, -1⟩) := by rw [cut_all]; exact .refl _
        have hl0 : (List.map tri (p.last : List Tri) ++ [tri (b.seq, lastV b.seq b.rl, b.base)]).length ≤ 1000000001 := by
          rw [List.length_append, List.length_map]; show _ + 1 ≤ _; simp; try omega
        refine Br.mk (fun hm => ?_) (fun hm => ?_)
        · have e : applyV p k b = ⟨b.prod, b.epoch, p.last, -1⟩ := by
            unfold applyV behV; simp only [*, Bool.true_and, Bool.false_and, if_true, if_false, Bool.false_eq_true]
          rw [e] at h
          refine Ob.mk (okst rfl rfl rfl) ?_
          refine Ob.mk (okst rfl rfl rfl) ?_
          exact Ob.mk rfl ⟨_, _, rfl, hW, h⟩
        · have e : applyV p k b = ⟨b.prod, b.epoch, appL p.last b, if (b.txn && decide ((p.op : Int) < 0)) = true then b.base else p.op⟩ := by
            unfold applyV behV; simp only [*, Bool.true_and, Bool.false_and, if_true, if_false, Bool.false_eq_true]
          rw [e] at h
          repeat' (first
            | refine Chk.mk (by kernel_rfl) ?_
            | (apply Br.t; · (first | rfl | (simp only [*] <;> rfl)))
            | (apply Br.f; · (first | rfl | (simp only [*] <;> rfl)))
            | refine ⟨_, ⟨rfl, rfl⟩, ?_⟩
            | refine ⟨_, _, ⟨rfl, rfl⟩, rfl, ?_⟩
            | refine Or.inl ⟨_, fun s' => last2_c b.seq b.rl s' _ ⟨rfl, rfl⟩, rfl, ?_⟩
            | refine ⟨_, _, BrL.c (Ob.mk (show ((p.last.map tri).length + 1) * 24 ≤ 140737488355328 by rw [lsL]; omega) ⟨rfl, rfl⟩), rfl, ?_⟩
            | refine ⟨_, _, Ob.mk ⟨rfl, rfl, rfl, (show ((p.last.map tri).length + 1) * 24 ≤ 140737488355328 by rw [lsL]; omega)⟩ ⟨rfl, rfl⟩, rfl, ?_⟩
            | refine ⟨_, Ob.mk (by decide) ⟨rfl, rfl⟩, ?_⟩
            | (refine ⟨_, Br.t ?_ ⟨rfl, rfl⟩, ?_⟩; · (first | rfl | (simp only [*] <;> rfl)))
            | (refine ⟨_, Br.f ?_ ⟨rfl, rfl⟩, ?_⟩; · (first | rfl | (simp only [*] <;> rfl)))
            | refine ⟨_, _, Ob.mk (okst rfl rfl rfl) ⟨rfl, rfl⟩, rfl, ?_⟩
            | refine Ob.mk (okst rfl rfl rfl) ?_
            | refine Ob.mk (by decide) ?_
            | refine Br.mkT (fun c => ?_) (fun c => ?_)
            | refine Br.mkF (fun c => ?_) (fun c => ?_)
            | refine Br.mk (fun c => ?_) (fun c => ?_))
          have hmx := mx5 hl0
          refine Ob.mk ⟨rfl, ?_, ?_, Int.le_refl _⟩ ?_
          · show 0 ≤ (if IntKind.i64.wrap (((((List.map tri (p.last : List Tri) ++ [tri (b.seq, lastV b.seq b.rl, b.base)])).length : Nat) : Int) - 5) > 0 then IntKind.i64.wrap (((((List.map tri (p.last : List Tri) ++ [tri (b.seq, lastV b.seq b.rl, b.base)])).length : Nat) : Int) - 5) else 0)
            rw [hmx]; exact Int.natCast_nonneg _
          · show (if IntKind.i64.wrap (((((List.map tri (p.last : List Tri) ++ [tri (b.seq, lastV b.seq b.rl, b.base)])).length : Nat) : Int) - 5) > 0 then IntKind.i64.wrap (((((List.map tri (p.last : List Tri) ++ [tri (b.seq, lastV b.seq b.rl, b.base)])).length : Nat) : Int) - 5) else 0) ≤ ((((List.map tri (p.last : List Tri) ++ [tri (b.seq, lastV b.seq b.rl, b.base)])).length : Nat) : Int)
            rw [hmx]; omega
          refine Cal.freeze ?_ ⟨_, Tryz.func104, rfl, rfl⟩
          refine Ob.mk rfl ?_
          show Cal Tryz.prog 104 [.p (.sl .shr 3 (((List.map tri (p.last : List Tri) ++ [tri (b.seq, lastV b.seq b.rl, b.base)]).drop (0 + (if IntKind.i64.wrap (((((List.map tri (p.last : List Tri) ++ [tri (b.seq, lastV b.seq b.rl, b.base)])).length : Nat) : Int) - 5) > 0 then IntKind.i64.wrap (((((List.map tri (p.last : List Tri) ++ [tri (b.seq, lastV b.seq b.rl, b.base)])).length : Nat) : Int) - 5) else 0).toNat)).take ((((((List.map tri (p.last : List Tri) ++ [tri (b.seq, lastV b.seq b.rl, b.base)])).length : Nat) : Int) - (if IntKind.i64.wrap (((((List.map tri (p.last : List Tri) ++ [tri (b.seq, lastV b.seq b.rl, b.base)])).length : Nat) : Int) - 5) > 0 then IntKind.i64.wrap (((((List.map tri (p.last : List Tri) ++ [tri (b.seq, lastV b.seq b.rl, b.base)])).length : Nat) : Int) - 5) else 0)).toNat)))] _ _
          rw [hmx, cut5, appL_map]
          refine clone_p3 _ (appL_le (by simp; try omega)) _ _ ?_
          refine Ob.mk (okst rfl rfl rfl) ?_
          repeat' (first
            | (apply Br.t; · (first | rfl | (simp only [*] <;> rfl)))
            | (apply Br.f; · (first | rfl | (simp only [*] <;> rfl)))
            | refine Ob.mk (okst rfl rfl rfl) ?_
            | (simp only [*, Bool.true_and, Bool.false_and, Bool.true_or, Bool.false_or, Bool.and_true, Bool.and_false, Bool.or_true, Bool.or_false, Bool.not_true, Bool.not_false, if_true, if_false, reduceIte, Bool.false_eq_true] at h; exact ⟨_, _, rfl, .refl _, h⟩)
            | refine Br.mkT (fun c => ?_) (fun c => ?_)
            | refine Br.mkF (fun c => ?_) (fun c => ?_)
            | refine Br.mk (fun c => ?_) (fun c => ?_))
      · have hnil : p.last = [] := List.map_eq_nil_iff.1 h0
        refine Ob.mk (okst rfl rfl rfl) ?_
        have hl0 : (List.map tri ([] : List Tri) ++ [tri (b.seq, lastV b.seq b.rl, b.base)]).length ≤ 1000000001 := by
          rw [List.length_append, List.length_map]; show _ + 1 ≤ _; simp; try omega
        refine Br.mk (fun hm => ?_) (fun hm => ?_)
        · have e : applyV p k b = ⟨b.prod, b.epoch, [], -1⟩ := by
            unfold applyV behV; simp only [*, Bool.true_and, Bool.false_and, if_true, if_false, Bool.false_eq_true]
          rw [e] at h
          refine Ob.mk (okst rfl rfl rfl) ?_
          refine Ob.mk (okst rfl rfl rfl) ?_
          exact ⟨_, _, rfl, .agg _ _ (.cons _ _ _ _ (.refl _) (.cons _ _ _ _ (.refl _) (.cons _ _ _ _ (.nil 0 .shr 3) (.cons _ _ _ _ (.refl _) .nil)))), h⟩
        · have e : applyV p k b = ⟨b.prod, b.epoch, appL [] b, if (b.txn && decide ((p.op : Int) < 0)) = true then b.base else p.op⟩ := by
            unfold applyV behV; simp only [*, Bool.true_and, Bool.false_and, if_true, if_false, Bool.false_eq_true]
          rw [e] at h
          repeat' (first
            | refine Chk.mk (by kernel_rfl) ?_
            | (apply Br.t; · (first | rfl | (simp only [*] <;> rfl)))
            | (apply Br.f; · (first | rfl | (simp only [*] <;> rfl)))
            | refine ⟨_, ⟨rfl, rfl⟩, ?_⟩
            | refine ⟨_, _, ⟨rfl, rfl⟩, rfl, ?_⟩
            | refine Or.inl ⟨_, fun s' => last2_c b.seq b.rl s' _ ⟨rfl, rfl⟩, rfl, ?_⟩
            | refine ⟨_, _, BrL.c (Ob.mk (show (0 + 1) * 24 ≤ 140737488355328 by decide) ⟨rfl, rfl⟩), rfl, ?_⟩
            | refine ⟨_, _, Ob.mk ⟨rfl, rfl, rfl, (show (0 + 1) * 24 ≤ 140737488355328 by decide)⟩ ⟨rfl, rfl⟩, rfl, ?_⟩
            | refine ⟨_, Ob.mk (by decide) ⟨rfl, rfl⟩, ?_⟩
            | (refine ⟨_, Br.t ?_ ⟨rfl, rfl⟩, ?_⟩; · (first | rfl | (simp only [*] <;> rfl)))
            | (refine ⟨_, Br.f ?_ ⟨rfl, rfl⟩, ?_⟩; · (first | rfl | (simp only [*] <;> rfl)))
            | refine ⟨_, _, Ob.mk (okst rfl rfl rfl) ⟨rfl, rfl⟩, rfl, ?_⟩
            | refine Ob.mk (okst rfl rfl rfl) ?_
            | refine Ob.mk (by decide) ?_
            | refine Br.mkT (fun c => ?_) (fun c => ?_)
            | refine Br.mkF (fun c => ?_) (fun c => ?_)
            | refine Br.mk (fun c => ?_) (fun c => ?_))
          have hmx := mx5 hl0
          refine Ob.mk ⟨rfl, ?_, ?_, Int.le_refl _⟩ ?_
          · show 0 ≤ (if IntKind.i64.wrap (((((List.map tri ([] : List Tri) ++ [tri (b.seq, lastV b.seq b.rl, b.base)])).length : Nat) : Int) - 5) > 0 then IntKind.i64.wrap (((((List.map tri ([] : List Tri) ++ [tri (b.seq, lastV b.seq b.rl, b.base)])).length : Nat) : Int) - 5) else 0)
            rw [hmx]; exact Int.natCast_nonneg _
          · show (if IntKind.i64.wrap (((((List.map tri ([] : List Tri) ++ [tri (b.seq, lastV b.seq b.rl, b.base)])).length : Nat) : Int) - 5) > 0 then IntKind.i64.wrap (((((List.map tri ([] : List Tri) ++ [tri (b.seq, lastV b.seq b.rl, b.base)])).length : Nat) : Int) - 5) else 0) ≤ ((((List.map tri ([] : List Tri) ++ [tri (b.seq, lastV b.seq b.rl, b.base)])).length : Nat) : Int)
            rw [hmx]; omega
          refine Cal.freeze ?_ ⟨_, Tryz.func104, rfl, rfl⟩
          refine Ob.mk rfl ?_
          show Cal Tryz.prog 104 [.p (.sl .shr 3 (((List.map tri ([] : List Tri) ++ [tri (b.seq, lastV b.seq b.rl, b.base)]).drop (0 + (if IntKind.i64.wrap (((((List.map tri ([] : List Tri) ++ [tri (b.seq, lastV b.seq b.rl, b.base)])).length : Nat) : Int) - 5) > 0 then IntKind.i64.wrap (((((List.map tri ([] : List Tri) ++ [tri (b.seq, lastV b.seq b.rl, b.base)])).length : Nat) : Int) - 5) else 0).toNat)).take ((((((List.map tri ([] : List Tri) ++ [tri (b.seq, lastV b.seq b.rl, b.base)])).length : Nat) : Int) - (if IntKind.i64.wrap (((((List.map tri ([] : List Tri) ++ [tri (b.seq, lastV b.seq b.rl, b.base)])).length : Nat) : Int) - 5) > 0 then IntKind.i64.wrap (((((List.map tri ([] : List Tri) ++ [tri (b.seq, lastV b.seq b.rl, b.base)])).length : Nat) : Int) - 5) else 0)).toNat)))] _ _
          rw [hmx, cut5, appL_map]
          refine clone_p3 _ (appL_le (by simp; try omega)) _ _ ?_
          refine Ob.mk (okst rfl rfl rfl) ?_
          repeat' (first
            | (apply Br.t; · (first | rfl | (simp only [*] <;> rfl)))
            | (apply Br.f; · (first | rfl | (simp only [*] <;> rfl)))
            | refine Ob.mk (okst rfl rfl rfl) ?_
            | (simp only [*, Bool.true_and, Bool.false_and, Bool.true_or, Bool.false_or, Bool.and_true, Bool.and_false, Bool.or_true, Bool.or_false, Bool.not_true, Bool.not_false, if_true, if_false, reduceIte, Bool.false_eq_true] at h; exact ⟨_, _, rfl, .refl _, h⟩)
            | refine Br.mkT (fun c => ?_) (fun c => ?_)
            | refine Br.mkF (fun c => ?_) (fun c => ?_)
            | refine Br.mk (fun c => ?_) (fun c => ?_))
      · have hnil : p.last = [] := List.map_eq_nil_iff.1 h0
        refine Ob.mk (okst rfl rfl rfl) ?_
        have hl0 : (List.map tri ([] : List Tri) ++ [tri (b.seq, lastV b.seq b.rl, b.base)]).length ≤ 1000000001 := by
          rw [List.length_append, List.length_map]; show _ + 1 ≤ _; simp; try omega
        refine Br.mk (fun hm => ?_) (fun hm => ?_)
        · have e : applyV p k b = ⟨b.prod, b.epoch, [], -1⟩ := by
            unfold applyV behV; simp only [*, Bool.true_and, Bool.false_and, if_true, if_false, Bool.false_eq_true]
          rw [e] at h
          refine Ob.mk (okst rfl rfl rfl) ?_
          refine Ob.mk (okst rfl rfl rfl) ?_
          exact ⟨_, _, rfl, .agg _ _ (.cons _ _ _ _ (.refl _) (.cons _ _ _ _ (.refl _) (.cons _ _ _ _ (.sl .clip 3 [] [] rfl (by simp) .nil) (.cons _ _ _ _ (.refl _) .nil)))), h⟩
        · have e : applyV p k b = ⟨b.prod, b.epoch, appL [] b, if (b.txn && decide ((p.op : Int) < 0)) = true then b.base else p.op⟩ := by
            unfold applyV behV; simp only [*, Bool.true_and, Bool.false_and, if_true, if_false, Bool.false_eq_true]
          rw [e] at h
          repeat' (first
            | refine Chk.mk (by kernel_rfl) ?_
            | (apply Br.t; · (first | rfl | (simp only [*] <;> rfl)))
            | (apply Br.f; · (first | rfl | (simp only [*] <;> rfl)))
            | refine ⟨_, ⟨rfl, rfl⟩, ?_⟩
            | refine ⟨_, _, ⟨rfl, rfl⟩, rfl, ?_⟩
            | refine Or.inl ⟨_, fun s' => last2_c b.seq b.rl s' _ ⟨rfl, rfl⟩, rfl, ?_⟩
            | refine ⟨_, _, BrL.c (Ob.mk (show (0 + 1) * 24 ≤ 140737488355328 by decide) ⟨rfl, rfl⟩), rfl, ?_⟩
            | refine ⟨_, _, Ob.mk ⟨rfl, rfl, rfl, (show (0 + 1) * 24 ≤ 140737488355328 by decide)⟩ ⟨rfl, rfl⟩, rfl, ?_⟩
            | refine ⟨_, Ob.mk (by decide) ⟨rfl, rfl⟩, ?_⟩
            | (refine ⟨_, Br.t ?_ ⟨rfl, rfl⟩, ?_⟩; · (first | rfl | (simp only [*] <;> rfl)))
            | (refine ⟨_, Br.f ?_ ⟨rfl, rfl⟩, ?_⟩; · (first | rfl | (simp only [*] <;> rfl)))
            | refine ⟨_, _, Ob.mk (okst rfl rfl rfl) ⟨rfl, rfl⟩, rfl, ?_⟩
            | refine Ob.mk (okst rfl rfl rfl) ?_
            | refine Ob.mk (by decide) ?_
            | refine Br.mkT (fun c => ?_) (fun c => ?_)
            | refine Br.mkF (fun c => ?_) (fun c => ?_)
            | refine Br.mk (fun c => ?_) (fun c => ?_))
          have hmx := mx5 hl0
          refine Ob.mk ⟨rfl, ?_, ?_, Int.le_refl _⟩ ?_
          · show 0 ≤ (if IntKind.i64.wrap (((((List.map tri ([] : List Tri) ++ [tri (b.seq, lastV b.seq b.rl, b.base)])).length : Nat) : Int) - 5) > 0 then IntKind.i64.wrap (((((List.map tri ([] : List Tri) ++ [tri (b.seq, lastV b.seq b.rl, b.base)])).length : Nat) : Int) - 5) else 0)
            rw [hmx]; exact Int.natCast_nonneg _
          · show (if IntKind.i64.wrap (((((List.map tri ([] : List Tri) ++ [tri (b.seq, lastV b.seq b.rl, b.base)])).length : Nat) : Int) - 5) > 0 then IntKind.i64.wrap (((((List.map tri ([] : List Tri) ++ [tri (b.seq, lastV b.seq b.rl, b.base)])).length : Nat) : Int) - 5) else 0) ≤ ((((List.map tri ([] : List Tri) ++ [tri (b.seq, lastV b.seq b.rl, b.base)])).length : Nat) : Int)
            rw [hmx]; omega
          refine Cal.freeze ?_ ⟨_, Tryz.func104, rfl, rfl⟩
          refine Ob.mk rfl ?_
          show Cal Tryz.prog 104 [.p (.sl .shr 3 (((List.map tri ([] : List Tri) ++ [tri (b.seq, lastV b.seq b.rl, b.base)]).drop (0 + (if IntKind.i64.wrap (((((List.map tri ([] : List Tri) ++ [tri (b.seq, lastV b.seq b.rl, b.base)])).length : Nat) : Int) - 5) > 0 then IntKind.i64.wrap (((((List.map tri ([] : List Tri) ++ [tri (b.seq, lastV b.seq b.rl, b.base)])).length : Nat) : Int) - 5) else 0).toNat)).take ((((((List.map tri ([] : List Tri) ++ [tri (b.seq, lastV b.seq b.rl, b.base)])).length : Nat) : Int) - (if IntKind.i64.wrap (((((List.map tri ([] : List Tri) ++ [tri (b.seq, lastV b.seq b.rl, b.base)])).length : Nat) : Int) - 5) > 0 then IntKind.i64.wrap (((((List.map tri ([] : List Tri) ++ [tri (b.seq, lastV b.seq b.rl, b.base)])).length : Nat) : Int) - 5) else 0)).toNat)))] _ _
          rw [hmx, cut5, appL_map]
          refine clone_p3 _ (appL_le (by simp; try omega)) _ _ ?_
          refine Ob.mk (okst rfl rfl rfl) ?_
          repeat' (first
            | (apply Br.t; · (first | rfl | (simp only [*] <;> rfl)))
            | (apply Br.f; · (first | rfl | (simp only [*] <;> rfl)))
            | refine Ob.mk (okst rfl rfl rfl) ?_
            | (simp only [*, Bool.true_and, Bool.false_and, Bool.true_or, Bool.false_or, Bool.and_true, Bool.and_false, Bool.or_true, Bool.or_false, Bool.not_true, Bool.not_false, if_true, if_false, reduceIte, Bool.false_eq_true] at h; exact ⟨_, _, rfl, .refl _, h⟩)
            | refine Br.mkT (fun c => ?_) (fun c => ?_)
            | refine Br.mkF (fun c => ?_) (fun c => ?_)
            | refine Br.mk (fun c => ?_) (fun c => ?_))
set_option maxHeartbeats 8000000 in
theorem apply1_c (p : Pr) (k : Bool) (b : Bt) (hp : p.last.length ≤ 1000000000) (s : Store) (K : AV → Store → Prop) (h : K (.p (applyV p k b).pv) s) : Cal Tryz.prog 114 [.p p.pv, .p (.bool k), .p b.pv] s K := by
  refine Cal.weakD ?_
  refine Cal.pure (args := [p.pv, .bool k, b.pv]) ?_
  refine Cal.intro Tryz.func114 (by decide +kernel) rfl rfl ?_
  refine Ob.mk (okst rfl rfl rfl) ?_
  cases hk : k with
  | false =>
    refine Br.f rfl ?_
    have hl0 : (List.map tri ([] : List Tri) ++ [tri (b.seq, lastV b.seq b.rl, b.base)]).length ≤ 1000000001 := by
      rw [List.length_append, List.length_map]; show _ + 1 ≤ _; simp; try omega
    refine Br.mk (fun hm => ?_) (fun hm => ?_)
    · have e : applyV p k b = ⟨b.prod, b.epoch, [], -1⟩ := by
        unfold applyV behV; simp only [*, Bool.true_and, Bool.false_and, if_true, if_false, Bool.false_eq_true]
      rw [e] at h
      refine Ob.mk (okst rfl rfl rfl) ?_
      refine Ob.mk (okst rfl rfl rfl) ?_
      exact ⟨_, _, rfl, .agg _ _ (.cons _ _ _ _ (.refl _) (.cons _ _ _ _ (.refl _) (.cons _ _ _ _ (.nil 0 .shr 3) (.cons _ _ _ _ (.refl _) .nil)))), h⟩
    · have e : applyV p k b = ⟨b.prod, b.epoch, appL [] b, if (b.txn && decide (((-1) : Int) < 0)) = true then b.base else (-1)⟩ := by
        unfold applyV behV; simp only [*, Bool.true_and, Bool.false_and, if_true, if_false, Bool.false_eq_true]
      rw [e] at h
      repeat' (first
        | refine Chk.mk (by kernel_rfl) ?_
        | (apply Br.t; · (first | rfl | (simp only [*] <;> rfl)))
        | (apply Br.f; · (first | rfl | (simp only [*] <;> rfl)))
        | refine ⟨_, ⟨rfl, rfl⟩, ?_⟩
        | refine ⟨_, _, ⟨rfl, rfl⟩, rfl, ?_⟩
        | refine Or.inl ⟨_, fun s' => last1_c b.seq b.rl s' _ ⟨rfl, rfl⟩, rfl, ?_⟩
        | refine ⟨_, _, BrL.c (Ob.mk (show (0 + 1) * 24 ≤ 140737488355328 by decide) ⟨rfl, rfl⟩), rfl, ?_⟩
        | refine ⟨_, _, Ob.mk ⟨rfl, rfl, rfl, (show (0 + 1) * 24 ≤ 140737488355328 by decide)⟩ ⟨rfl, rfl⟩, rfl, ?_⟩
        | refine ⟨_, Ob.mk (by decide) ⟨rfl, rfl⟩, ?_⟩
        | (refine ⟨_, Br.t ?_ ⟨rfl, rfl⟩, ?_⟩; · (first | rfl | (simp only [*] <;> rfl)))
        | (refine ⟨_, Br.f ?_ ⟨rfl, rfl⟩, ?_⟩; · (first | rfl | (simp only [*] <;> rfl)))
        | refine ⟨_, _, Ob.mk (okst rfl rfl rfl) ⟨rfl, rfl⟩, rfl, ?_⟩
        | refine Ob.mk (okst rfl rfl rfl) ?_
        | refine Ob.mk (by decide) ?_
        | refine Br.mkT (fun c => ?_) (fun c => ?_)
        | refine Br.mkF (fun c => ?_) (fun c => ?_)
        | refine Br.mk (fun c => ?_) (fun c => ?_))
      have hmx := mx5' hl0
      refine Ob.mk ⟨rfl, ?_, ?_, Int.le_refl _⟩ ?_
      · show 0 ≤ (if 0 > IntKind.i64.wrap (((((List.map tri ([] : List Tri) ++ [tri (b.seq, lastV b.seq b.rl, b.base)])).length : Nat) : Int) - 5) then 0 else IntKind.i64.wrap (((((List.map tri ([] : List Tri) ++ [tri (b.seq, lastV b.seq b.rl, b.base)])).length : Nat) : Int) - 5))
        rw [hmx]; exact Int.natCast_nonneg _
      · show (if 0 > IntKind.i64.wrap (((((List.map tri ([] : List Tri) ++ [tri (b.seq, lastV b.seq b.rl, b.base)])).length : Nat) : Int) - 5) then 0 else IntKind.i64.wrap (((((List.map tri ([] : List Tri) ++ [tri (b.seq, lastV b.seq b.rl, b.base)])).length : Nat) : Int) - 5)) ≤ ((((List.map tri ([] : List Tri) ++ [tri (b.seq, lastV b.seq b.rl, b.base)])).length : Nat) : Int)
        rw [hmx]; omega
      have hWF : ∀ o, WkD (.agg [ii b.prod, ii b.epoch, .sl .shr 3 (((List.map tri ([] : List Tri) ++ [tri (b.seq, lastV b.seq b.rl, b.base)]).drop (0 + (if 0 > IntKind.i64.wrap (((((List.map tri ([] : List Tri) ++ [tri (b.seq, lastV b.seq b.rl, b.base)])).length : Nat) : Int) - 5) then 0 else IntKind.i64.wrap (((((List.map tri ([] : List Tri) ++ [tri (b.seq, lastV b.seq b.rl, b.base)])).length : Nat) : Int) - 5)).toNat)).take ((((((List.map tri ([] : List Tri) ++ [tri (b.seq, lastV b.seq b.rl, b.base)])).length : Nat) : Int) - (if 0 > IntKind.i64.wrap (((((List.map tri ([] : List Tri) ++ [tri (b.seq, lastV b.seq b.rl, b.base)])).length : Nat) : Int) - 5) then 0 else IntKind.i64.wrap (((((List.map tri ([] : List Tri) ++ [tri (b.seq, lastV b.seq b.rl, b.base)])).length : Nat) : Int) - 5))).toNat)), ii o]) (Pr.pv ⟨b.prod, b.epoch, appL [] b, o⟩) := fun o => by
        rw [hmx, cut5, appL_map]; exact .refl _
      refine Ob.mk (okst rfl rfl rfl) ?_
      repeat' (first
        | (apply Br.t; · (first | rfl | (simp only [*] <;> rfl)))
        | (apply Br.f; · (first | rfl | (simp only [*] <;> rfl)))
        | refine Ob.mk (okst rfl rfl rfl) ?_
        | (simp only [*, Bool.true_and, Bool.false_and, Bool.true_or, Bool.false_or, Bool.and_true, Bool.and_false, Bool.or_true, Bool.or_false, Bool.not_true, Bool.not_false, if_true, if_false, reduceIte, Bool.false_eq_true] at h; exact Ob.mk rfl ⟨_, _, rfl, hWF _, h⟩)
        | refine Br.mkT (fun c => ?_) (fun c => ?_)
        | refine Br.mkF (fun c => ?_) (fun c => ?_)
        | refine Br.mk (fun c => ?_) (fun c => ?_))
  | true =>
    refine Br.t rfl ?_
    refine Ob.mk (okst rfl rfl rfl) ?_
    have hcm : (p.epoch == b.epoch) = (b.epoch == p.epoch) := BEq.comm
    cases he : (b.epoch == p.epoch) with
    | false =>
      refine Br.f (hcm.trans he) ?_
      have hl0 : (List.map tri ([] : List Tri) ++ [tri (b.seq, lastV b.seq b.rl, b.base)]).length ≤ 1000000001 := by
        rw [List.length_append, List.length_map]; show _ + 1 ≤ _; simp; try omega
      refine Br.mk (fun hm => ?_) (fun hm => ?_)
      · have e : applyV p k b = ⟨b.prod, b.epoch, [], -1⟩ := by
          unfold applyV behV; simp only [*, Bool.true_and, Bool.false_and, if_true, if_false, Bool.false_eq_true]
        rw [e] at h
        refine Ob.mk (okst rfl rfl rfl) ?_
        refine Ob.mk (okst rfl rfl rfl) ?_
        exact ⟨_, _, rfl, .agg _ _ (.cons _ _ _ _ (.refl _) (.cons _ _ _ _ (.refl _) (.cons _ _ _ _ (.nil 0 .shr 3) (.cons _ _ _ _ (.refl _) .nil)))), h⟩
      · have e : applyV p k b = ⟨b.prod, b.epoch, appL [] b, if (b.txn && decide ((p.op : Int) < 0)) = true then b.base else p.op⟩ := by
          unfold applyV behV; simp only [*, Bool.true_and, Bool.false_and, if_true, if_false, Bool.false_eq_true]
        rw [e] at h
        repeat' (first
          | refine Chk.mk (by kernel_rfl) ?_
          | (apply Br.t; · (first | rfl | (simp only [*] <;> rfl)))
          | (apply Br.f; · (first | rfl | (simp only [*] <;> rfl)))
          | refine ⟨_, ⟨rfl, rfl⟩, ?_⟩
          | refine ⟨_, _, ⟨rfl, rfl⟩, rfl, ?_⟩
          | refine Or.inl ⟨_, fun s' => last1_c b.seq b.rl s' _ ⟨rfl, rfl⟩, rfl, ?_⟩
          | refine ⟨_, _, BrL.c (Ob.mk (show (0 + 1) * 24 ≤ 140737488355328 by decide) ⟨rfl, rfl⟩), rfl, ?_⟩
          | refine ⟨_, _, Ob.mk ⟨rfl, rfl, rfl, (show (0 + 1) * 24 ≤ 140737488355328 by decide)⟩ ⟨rfl, rfl⟩, rfl, ?_⟩
          | refine ⟨_, Ob.mk (by decide) ⟨rfl, rfl⟩, ?_⟩
          | (refine ⟨_, Br.t ?_ ⟨rfl, rfl⟩, ?_⟩; · (first | rfl | (simp only [*] <;> rfl)))
          | (refine ⟨_, Br.f ?_ ⟨rfl, rfl⟩, ?_⟩; · (first | rfl | (simp only [*] <;> rfl)))
          | refine ⟨_, _, Ob.mk (okst rfl rfl rfl) ⟨rfl, rfl⟩, rfl, ?_⟩
          | refine Ob.mk (okst rfl rfl rfl) ?_
          | refine Ob.mk (by decide) ?_
          | refine Br.mkT (fun c => ?_) (fun c => ?_)
          | refine Br.mkF (fun c => ?_) (fun c => ?_)
          | refine Br.mk (fun c => ?_) (fun c => ?_))
        have hmx := mx5' hl0
        refine Ob.mk ⟨rfl, ?_, ?_, Int.le_refl _⟩ ?_
        · show 0 ≤ (if 0 > IntKind.i64.wrap (((((List.map tri ([] : List Tri) ++ [tri (b.seq, lastV b.seq b.rl, b.base)])).length : Nat) : Int) - 5) then 0 else IntKind.i64.wrap (((((List.map tri ([] : List Tri) ++ [tri (b.seq, lastV b.seq b.rl, b.base)])).length : Nat) : Int) - 5))
          rw [hmx]; exact Int.natCast_nonneg _
        · show (if 0 > IntKind.i64.wrap (((((List.map tri ([] : List Tri) ++ [tri (b.seq, lastV b.seq b.rl, b.base)])).length : Nat) : Int) - 5) then 0 else IntKind.i64.wrap (((((List.map tri ([] : List Tri) ++ [tri (b.seq, lastV b.seq b.rl, b.base)])).length : Nat) : Int) - 5)) ≤ ((((List.map tri ([] : List Tri) ++ [tri (b.seq, lastV b.seq b.rl, b.base)])).length : Nat) : Int)
          rw [hmx]; omega
        have hWF : ∀ o, WkD (.agg [ii b.prod, ii b.epoch, .sl .shr 3 (((List.map tri ([] : List Tri) ++ [tri (b.seq, lastV b.seq b.rl, b.base)]).drop (0 + (if 0 > IntKind.i64.wrap (((((List.map tri ([] : List Tri) ++ [tri (b.seq, lastV b.seq b.rl, b.base)])).length : Nat) : Int) - 5) then 0 else IntKind.i64.wrap (((((List.map tri ([] : List Tri) ++ [tri (b.seq, lastV b.seq b.rl, b.base)])).length : Nat) : Int) - 5)).toNat)).take ((((((List.map tri ([] : List Tri) ++ [tri (b.seq, lastV b.seq b.rl, b.base)])).length : Nat) : Int) - (if 0 > IntKind.i64.wrap (((((List.map tri ([] : List Tri) ++ [tri (b.seq, lastV b.seq b.rl, b.base)])).length : Nat) : Int) - 5) then 0 else IntKind.i64.wrap (((((List.map tri ([] : List Tri) ++ [tri (b.seq, lastV b.seq b.rl, b.base)])).length : Nat) : Int) - 5))).toNat)), ii o]) (Pr.pv ⟨b.prod, b.epoch, appL [] b, o⟩) := fun o => by
          rw [hmx, cut5, appL_map]; exact .refl _
        refine Ob.mk (okst rfl rfl rfl) ?_
        repeat' (first
          | (apply Br.t; · (first | rfl | (simp only [*] <;> rfl)))
          | (apply Br.f; · (first | rfl | (simp only [*] <;> rfl)))
          | refine Ob.mk (okst rfl rfl rfl) ?_
          | (simp only [*, Bool.true_and, Bool.false_and, Bool.true_or, Bool.false_or, Bool.and_true, Bool.and_false, Bool.or_true, Bool.or_false, Bool.not_true, Bool.not_false, if_true, if_false, reduceIte, Bool.false_eq_true] at h; exact Ob.mk rfl ⟨_, _, rfl, hWF _, h⟩)
          | refine Br.mkT (fun c => ?_) (fun c => ?_)
          | refine Br.mkF (fun c => ?_) (fun c => ?_)
          | refine Br.mk (fun c => ?_) (fun c => ?_))
    | true =>
      refine Br.t (hcm.trans he) ?_
      refine BrL.mk (fun h0 => ?_) (fun hne => ?_)
      · have hnil : p.last = [] := List.map_eq_nil_iff.1 h0
        refine Ob.mk (okst rfl rfl rfl) ?_
        have hl0 : (List.map tri ([] : List Tri) ++ [tri (b.seq, lastV b.seq b.rl, b.base)]).length ≤ 1000000001 := by
          rw [List.length_append, List.length_map]; show _ + 1 ≤ _; simp; try omega
        refine Br.mk (fun hm => ?_) (fun hm => ?_)
        · have e : applyV p k b = ⟨b.prod, b.epoch, [], -1⟩ := by
            unfold applyV behV; simp only [*, Bool.true_and, Bool.false_and, if_true, if_false, Bool.false_eq_true]
          rw [e] at h
          refine Ob.mk (okst rfl rfl rfl) ?_
          refine Ob.mk (okst rfl rfl rfl) ?_
          exact ⟨_, _, rfl, .agg _ _ (.cons _ _ _ _ (.refl _) (.cons _ _ _ _ (.refl _) (.cons _ _ _ _ (.sl .clip 3 [] [] rfl (by simp) .nil) (.cons _ _ _ _ (.refl _) .nil)))), h⟩
        · have e : applyV p k b = ⟨b.prod, b.epoch, appL [] b, if (b.txn && decide ((p.op : Int) < 0)) = true then b.base else p.op⟩ := by
            unfold applyV behV; simp only [*, Bool.true_and, Bool.false_and, if_true, if_false, Bool.false_eq_true]
          rw [e] at h
          repeat' (first
            | refine Chk.mk (by kernel_rfl) ?_
            | (apply Br.t; · (first | rfl | (simp only [*] <;> rfl)))
            | (apply Br.f; · (first | rfl | (simp only [*] <;> rfl)))
            | refine ⟨_, ⟨rfl, rfl⟩, ?_⟩
            | refine ⟨_, _, ⟨rfl, rfl⟩, rfl, ?_⟩
            | refine Or.inl ⟨_, fun s' => last1_c b.seq b.rl s' _ ⟨rfl, rfl⟩, rfl, ?_⟩
            | refine ⟨_, _, BrL.c (Ob.mk (show (0 + 1) * 24 ≤ 140737488355328 by decide) ⟨rfl, rfl⟩), rfl, ?_⟩
            | refine ⟨_, _, Ob.mk ⟨rfl, rfl, rfl, (show (0 + 1) * 24 ≤ 140737488355328 by decide)⟩ ⟨rfl, rfl⟩, rfl, ?_⟩
            | refine ⟨_, Ob.mk (by decide) ⟨rfl, rfl⟩, ?_⟩
            | (refine ⟨_, Br.t ?_ ⟨rfl, rfl⟩, ?_⟩; · (first | rfl | (simp only [*] <;> rfl)))
            | (refine ⟨_, Br.f ?_ ⟨rfl, rfl⟩, ?_⟩; · (first | rfl | (simp only [*] <;> rfl)))
            | refine ⟨_, _, Ob.mk (okst rfl rfl rfl) ⟨rfl, rfl⟩, rfl, ?_⟩
            | refine Ob.mk (okst rfl rfl rfl) ?_
            | refine Ob.mk (by decide) ?_
            | refine Br.mkT (fun c => ?_) (fun c => ?_)
            | refine Br.mkF (fun c => ?_) (fun c => ?_)
            | refine Br.mk (fun c => ?_) (fun c => ?_))
          have hmx := mx5' hl0
          refine Ob.mk ⟨rfl, ?_, ?_, Int.le_refl _⟩ ?_
          · show 0 ≤ (if 0 > IntKind.i64.wrap (((((List.map tri ([] : List Tri) ++ [tri (b.seq, lastV b.seq b.rl, b.base)])).length : Nat) : Int) - 5) then 0 else IntKind.i64.wrap (((((List.map tri ([] : List Tri) ++ [tri (b.seq, lastV b.seq b.rl, b.base)])).length : Nat) : Int) - 5))
            rw [hmx]; exact Int.natCast_nonneg _
          · show (if 0 > IntKind.i64.wrap (((((List.map tri ([] : List Tri) ++ [tri (b.seq, lastV b.seq b.rl, b.base)])).length : Nat) : Int) - 5) then 0 else IntKind.i64.wrap (((((List.map tri ([] : List Tri) ++ [tri (b.seq, lastV b.seq b.rl, b.base)])).length : Nat) : Int) - 5)) ≤ ((((List.map tri ([] : List Tri) ++ [tri (b.seq, lastV b.seq b.rl, b.base)])).length : Nat) : Int)
            rw [hmx]; omega
          have hWF : ∀ o, WkD (.agg [ii b.prod, ii b.epoch, .sl .shr 3 (((List.map tri ([] : List Tri) ++ [tri (b.seq, lastV b.seq b.rl, b.base)]).drop (0 + (if 0 > IntKind.i64.wrap (((((List.map tri ([] : List Tri) ++ [tri (b.seq, lastV b.seq b.rl, b.base)])).length : Nat) : Int) - 5) then 0 else IntKind.i64.wrap (((((List.map tri ([] : List Tri) ++ [tri (b.seq, lastV b.seq b.rl, b.base)])).length : Nat) : Int) - 5)).toNat)).take ((((((List.map tri ([] : List Tri) ++ [tri (b.seq, lastV b.seq b.rl, b.base)])).length : Nat) : Int) - (if 0 > IntKind.i64.wrap (((((List.map tri ([] : List Tri) ++ [tri (b.seq, lastV b.seq b.rl, b.base)])).length : Nat) : Int) - 5) then 0 else IntKind.i64.wrap (((((List.map tri ([] : List Tri) ++ [tri (b.seq, lastV b.seq b.rl, b.base)])).length : Nat) : Int) - 5))).toNat)), ii o]) (Pr.pv ⟨b.prod, b.epoch, appL [] b, o⟩) := fun o => by
            rw [hmx, cut5, appL_map]; exact .refl _
          refine Ob.mk (okst rfl rfl rfl) ?_
          repeat' (first
            | (apply Br.t; · (first | rfl | (simp only [*] <;> rfl)))
            | (apply Br.f; · (first | rfl | (simp only [*] <;> rfl)))
            | refine Ob.mk (okst rfl rfl rfl) ?_
            | (simp only [*, Bool.true_and, Bool.false_and, Bool.true_or, Bool.false_or, Bool.and_true, Bool.and_false, Bool.or_true, Bool.or_false, Bool.not_true, Bool.not_false, if_true, if_false, reduceIte, Bool.false_eq_true] at h; exact Ob.mk rfl ⟨_, _, rfl, hWF _, h⟩)
            | refine Br.mkT (fun c => ?_) (fun c => ?_)
            | refine Br.mkF (fun c => ?_) (fun c => ?_)
            | refine Br.mk (fun c => ?_) (fun c => ?_))
      · refine Ob.mk (show (0 + (p.last.map tri).length) * 24 ≤ 140737488355328 by rw [lsL]; omega) ?_
        refine Ob.mk (okst rfl rfl rfl) ?_
        have hW : WkD (.agg [ii b.prod, ii b.epoch, .sl .shr 3 (((p.last.map tri).drop 0).take (p.last.map tri).length), ii (-1)]) (Pr.pv ⟨b.prod, b.epoch, p.last, -1⟩) := by rw [cut_all]; exact .refl _
        have hl0 : (List.map tri (p.last : List Tri) ++ [tri (b.seq, lastV b.seq b.rl, b.base)]).length ≤ 1000000001 := by
          rw [List.length_append, List.length_map]; show _ + 1 ≤ _; simp; try omega
        refine Br.mk (fun hm => ?_) (fun hm => ?_)
        · have e : applyV p k b = ⟨b.prod, b.epoch, p.last, -1⟩ := by
            unfold applyV behV; simp only [*, Bool.true_and, Bool.false_and, if_true, if_false, Bool.false_eq_true]
          rw [e] at h
          refine Ob.mk (okst rfl rfl rfl) ?_
          refine Ob.mk (okst rfl rfl rfl) ?_
          exact Ob.mk rfl ⟨_, _, rfl, hW, h⟩
        · have e : applyV p k b = ⟨b.prod, b.epoch, appL p.last b, if (b.txn && decide ((p.op : Int) < 0)) = true then b.base else p.op⟩ := by
            unfold applyV behV; simp only [*, Bool.true_and, Bool.false_and, if_true, if_false, Bool.false_eq_true]
          rw [e] at h
          repeat' (first
            | refine Chk.mk (by kernel_rfl) ?_
            | (apply Br.t; · (first | rfl | (simp only [*] <;> rfl)))
            | (apply Br.f; · (first | rfl | (simp only [*] <;> rfl)))
            | refine ⟨_, ⟨rfl, rfl⟩, ?_⟩
            | refine ⟨_, _, ⟨rfl, rfl⟩, rfl, ?_⟩
            | refine Or.inl ⟨_, fun s' => last1_c b.seq b.rl s' _ ⟨rfl, rfl⟩, rfl, ?_⟩
            | refine ⟨_, _, BrL.c (Ob.mk (show ((p.last.map tri).length + 1) * 24 ≤ 140737488355328 by rw [lsL]; omega) ⟨rfl, rfl⟩), rfl, ?_⟩
            | refine ⟨_, _, Ob.mk ⟨rfl, rfl, rfl, (show ((p.last.map tri).length + 1) * 24 ≤ 140737488355328 by rw [lsL]; omega)⟩ ⟨rfl, rfl⟩, rfl, ?_⟩
            | refine ⟨_, Ob.mk (by decide) ⟨rfl, rfl⟩, ?_⟩
            | (refine ⟨_, Br.t ?_ ⟨rfl, rfl⟩, ?_⟩; · (first | rfl | (simp only [*] <;> rfl)))
            | (refine ⟨_, Br.f ?_ ⟨rfl, rfl⟩, ?_⟩; · (first | rfl | (simp only [*] <;> rfl)))
            | refine ⟨_, _, Ob.mk (okst rfl rfl rfl) ⟨rfl, rfl⟩, rfl, ?_⟩
            | refine Ob.mk (okst rfl rfl rfl) ?_
            | refine Ob.mk (by decide) ?_
            | refine Br.mkT (fun c => ?_) (fun c => ?_)
            | refine Br.mkF (fun c => ?_) (fun c => ?_)
            | refine Br.mk (fun c => ?_) (fun c => ?_))
          have hmx := mx5' hl0
          refine Ob.mk ⟨rfl, ?_, ?_, Int.le_refl _⟩ ?_
          · show 0 ≤ (if 0 > IntKind.i64.wrap (((((List.map tri (p.last : List Tri) ++ [tri (b.seq, lastV b.seq b.rl, b.base)])).length : Nat) : Int) - 5) then 0 else IntKind.i64.wrap (((((List.map tri (p.last : List Tri) ++ [tri (b.seq, lastV b.seq b.rl, b.base)])).length : Nat) : Int) - 5))
            rw [hmx]; exact Int.natCast_nonneg _
          · show (if 0 > IntKind.i64.wrap (((((List.map tri (p.last : List Tri) ++ [tri (b.seq, lastV b.seq b.rl, b.base)])).length : Nat) : Int) - 5) then 0 else IntKind.i64.wrap (((((List.map tri (p.last : List Tri) ++ [tri (b.seq, lastV b.seq b.rl, b.base)])).length : Nat) : Int) - 5)) ≤ ((((List.map tri (p.last : List Tri) ++ [tri (b.seq, lastV b.seq b.rl, b.base)])).length : Nat) : Int)
            rw [hmx]; omega
          have hWF : ∀ o, WkD (.agg [ii b.prod, ii b.epoch, .sl .shr 3 (((List.map tri (p.last : List Tri) ++ [tri (b.seq, lastV b.seq b.rl, b.base)]).drop (0 + (if 0 > IntKind.i64.wrap (((((List.map tri (p.last : List Tri) ++ [tri (b.seq, lastV b.seq b.rl, b.base)])).length : Nat) : Int) - 5) then 0 else IntKind.i64.wrap (((((List.map tri (p.last : List Tri) ++ [tri (b.seq, lastV b.seq b.rl, b.base)])).length : Nat) : Int) - 5)).toNat)).take ((((((List.map tri (p.last : List Tri) ++ [tri (b.seq, lastV b.seq b.rl, b.base)])).length : Nat) : Int) - (if 0 > IntKind.i64.wrap (((((List.map tri (p.last : List Tri) ++ [tri (b.seq, lastV b.seq b.rl, b.base)])).length : Nat) : Int) - 5) then 0 else IntKind.i64.wrap (((((List.map tri (p.last : List Tri) ++ [tri (b.seq, lastV b.seq b.rl, b.base)])).length : Nat) : Int) - 5))).toNat)), ii o]) (Pr.pv ⟨b.prod, b.epoch, appL p.last b, o⟩) := fun o => by
            rw [hmx, cut5, appL_map]; exact .refl _
          refine Ob.mk (okst rfl rfl rfl) ?_
          repeat' (first
            | (apply Br.t; · (first | rfl | (simp only [*] <;> rfl)))
            | (apply Br.f; · (first | rfl | (simp only [*] <;> rfl)))
            | refine Ob.mk (okst rfl rfl rfl) ?_
            | (simp only [*, Bool.true_and, Bool.false_and, Bool.true_or, Bool.false_or, Bool.and_true, Bool.and_false, Bool.or_true, Bool.or_false, Bool.not_true, Bool.not_false, if_true, if_false, reduceIte, Bool.false_eq_true] at h; exact Ob.mk rfl ⟨_, _, rfl, hWF _, h⟩)
            | refine Br.mkT (fun c => ?_) (fun c => ?_)
            | refine Br.mkF (fun c => ?_) (fun c => ?_)
            | refine Br.mk (fun c => ?_) (fun c => ?_))
end Go.Proofs.YtjhgmaephpadpaaGreat.AW
