/- A part of the proof: LG/M13, LG/M14, LG/M15, LG/M16, LG/M17, LG/M18. -/
import Derived.Test.YtjhgmaephpadpaaGreatP17

open Go Go.Proofs.YtjhgmaephpadpaaGreat.AW Go.Proofs
namespace Go.Proofs.YtjhgmaephpadpaaGreat.AW
set_option maxRecDepth 100000
set_option linter.unusedSimpArgs false
set_option linter.unusedVariables false

/-! ### known -/
def kb : Bt := ⟨0, 1, 0, 5, false, 0, [([107], [])]⟩
def kb2 : Bt := ⟨0, 1, 0, 6, false, 0, List.replicate 16 ([], List.replicate 60 0)⟩
theorem pk1 : prodV 200 0 [] kb = ((0, 0), [kb]) := by kernel_rfl
theorem pk2 : prodV 200 0 [kb] kb = ((0, 0), [kb]) := by kernel_rfl
theorem pk3 : markV 200 0 [kb] 1 0 1 = ((-1, 16), [kb]) := by kernel_rfl
theorem pk5 : endW 0 [kb] = 1 := by kernel_rfl
theorem pk6 : kpS 0 [kb] (-1) = 0 := by kernel_rfl
theorem pk7 : kepL 0 [kb] = [kb] := by kernel_rfl
theorem pk8 : kpS 0 [kb] 9 = 1 := by kernel_rfl
theorem pk9 : kepL 1 [kb] = [] := by kernel_rfl
theorem pk4 : prodV 200 0 [kb] kb2 = ((-1, 17), [kb]) := by kernel_rfl
theorem kbR : rightV kb = 0 := by kernel_rfl
theorem kbC : RowC 0 [kb] := RowC.snoc [] kb .nil rfl kbR (by decide +kernel)
theorem frz2 {P : Program} {f : Nat} {a v : AV} {s : Store} {K : AV → Store → Prop} (h : toP s v fun p s' => Cal P f [a, .p p] s' K) : Cal P f [a, v] s K := by
  unfold Cal
  refine fun w g vs hinv hG hfresh hargs => ?_
  have c : Cx w g (getO s) s (fun _ => True) False := ⟨hinv, fun _ _ => rfl, fun hh => hh.elim⟩
  cases hargs with
  | cons _ x _ xs ha h1 =>
  cases h1 with
  | cons _ z _ zs hv h3 =>
  obtain ⟨p, s2, k1, fz, k3⟩ := toP_tree hv c (fun _ _ => trivial) h
  have hov : ovr (fun _ => True) s s2 (getO s) = getO s2 := by funext i; simp [ovr]
  have q1 := fz.inv; have q2 := fz.ext
  rw [hov] at q1 q2 k3
  unfold Cal at k1
  have hG2 := hG.ext q2
  refine (k1 w g _ q1 hG2 (fun id hid => by rw [fz.len]; exact hfresh id hid) (.cons _ _ _ _ (q2.repA ha) (.cons _ _ _ _ (.p _ _ k3) (by cases h3; exact .nil)))).mono fun e w' hpost => ?_
  obtain ⟨r, v, s', g', rfl, a1, a2, a3, a4, a5, a6⟩ := hpost
  exact ⟨r, v, s', g', rfl, a1, by have := fz.len; omega, a3, a4, q2.trans a5, fun id hid => by have := a6 id hid; rw [fz.len] at this; exact this⟩
def kR (k : SK) : PV := .agg [ii 0, ii 1, ii 0, ii 5, .bool false, ii 0, .sl k 2 [.agg [.str [107], .str []]]]
theorem wk_kR : WkD (kR .clip) kb.pv := .agg _ _ (.cons _ _ _ _ (.refl _) (.cons _ _ _ _ (.refl _) (.cons _ _ _ _ (.refl _) (.cons _ _ _ _ (.refl _) (.cons _ _ _ _ (.refl _) (.cons _ _ _ _ (.refl _) (.cons _ _ _ _ (.sl .clip 2 _ _ rfl (fun y hy => by rw [List.mem_singleton.1 hy]; exact ⟨rfl, rfl⟩) (wkds_refl _)) .nil)))))))
theorem kb_small : kb.small := ⟨by decide, fun _ _ => trivial⟩
theorem kb2_small : kb2.small := ⟨by decide, fun _ _ => trivial⟩
theorem kp1 (K : AV → Store → Prop) (h : K (i2 (0, 0)) (lgS 0 0 0 200 0 [kb])) : Cal Tryz.prog 12 [.ref 0 0, .p (kR .clip)] (lgS 0 0 0 200 0 []) K :=
  Cal.argsD (args' := [.ref 0 0, .p kb.pv]) (lprod_c 0 0 0 200 0 [] (by decide) .nil (by decide) kb kb_small K (by rw [pk1]; exact h)) ⟨.inl rfl, .inr ⟨_, _, rfl, rfl, wk_kR⟩, trivial⟩
theorem kp2 (K : AV → Store → Prop) (h : K (i2 (0, 0)) (lgS 0 0 0 200 0 [kb])) : Cal Tryz.prog 12 [.ref 0 0, .p (kR .clip)] (lgS 0 0 0 200 0 [kb]) K :=
  Cal.argsD (args' := [.ref 0 0, .p kb.pv]) (lprod_c 0 0 0 200 0 [kb] (by decide) kbC (by decide) kb kb_small K (by rw [pk2]; exact h)) ⟨.inl rfl, .inr ⟨_, _, rfl, rfl, wk_kR⟩, trivial⟩
theorem kp3 (K : AV → Store → Prop) (h : K (i2 (-1, 16)) (lgS 0 0 0 200 0 [kb])) : Cal Tryz.prog 10 [.ref 0 0, .p (ii 1), .p (ii 0), .p (ii 1)] (lgS 0 0 0 200 0 [kb]) K :=
  lmark_c 0 0 0 200 0 [kb] (by decide) kbC (by decide) (by decide) 1 0 1 K (by rw [pk3]; exact h)
theorem kp4 (K : AV → Store → Prop) (h : K (i2 (-1, 17)) (lgS 0 0 0 200 0 [kb])) : Cal Tryz.prog 12 [.ref 0 0, .p kb2.pv] (lgS 0 0 0 200 0 [kb]) K :=
  lprod_c 0 0 0 200 0 [kb] (by decide) kbC (by decide) kb2 kb2_small K (by rw [pk4]; exact h)
theorem kb_all : ∀ b, b ∈ [kb] → b.small := fun b hb => by rw [List.mem_singleton.1 hb]; exact kb_small
theorem kb_rec : ∀ b, b ∈ [kb] → b.recs.length ≤ 1000000000 := fun b hb => by rw [List.mem_singleton.1 hb]; decide
theorem kp6 (K : AV → Store → Prop) (h : K (.p (ii 0)) (lgK 0 0 0 200 0 [kb] [kb])) : Cal Tryz.prog 25 [.ref 0 0, .p (ii (-1))] (lgS 0 0 0 200 0 [kb]) K :=
  lkeep_c 0 0 0 200 0 [kb] (by decide) kb_all kb_rec (-1) K (by rw [pk6, pk7]; exact h)
theorem kp8 (K : AV → Store → Prop) (h : K (.p (ii 1)) (lgK 0 0 0 200 1 [kb] [])) : Cal Tryz.prog 25 [.ref 0 0, .p (ii 9)] (lgS 0 0 0 200 0 [kb]) K :=
  lkeep_c 0 0 0 200 0 [kb] (by decide) kb_all kb_rec 9 K (by rw [pk8, pk9]; exact h)
theorem kend (K : AV → Store → Prop) (h : K (.p (ii 1)) (lgS 0 0 0 200 0 [kb])) : Cal Tryz.prog 14 [.ref 0 0] (lgS 0 0 0 200 0 [kb]) K :=
  lend_c 0 0 0 200 0 [kb] (by decide) K (by rw [pk5]; exact h)
def zR : PV := .agg [.str [], .str []]
def fR : PV := .agg [.str [], .str (List.replicate 60 0)]
def kX (j : Nat) : List PV := List.replicate j fR ++ List.replicate (16 - j) zR
def knS (j : Nat) : Store := [lcC 0 0 0 200 0 [kb] 1 3 (sizeS [kb]), bufR [kb], mpC [kb], some (.cells [.map 2]), some (.cells [.p (ii 0), .p (ii 1), .p (ii 0), .p (ii 6), .p (.bool false), .p (ii 0), .osl 5 16 0 16]), some (.buf 2 (kX j))]
theorem kX_len {j : Nat} (h : j ≤ 16) : (kX j).length = 16 := by unfold kX; rw [List.length_append, List.length_replicate, List.length_replicate]; omega
theorem kX_at {j : Nat} (h : j < 16) : (kX j)[j]? = some zR := by
  unfold kX; rw [List.getElem?_append_right (by simp), List.length_replicate, Nat.sub_self, List.getElem?_replicate, if_pos (by omega)]
theorem kX_set {j : Nat} (h : j < 16) : (kX j).set j fR = kX (j + 1) := by
  unfold kX
  rw [List.set_append_right _ _ (by simp), List.length_replicate, Nat.sub_self, show 16 - j = (16 - (j + 1)) + 1 by omega, List.replicate_succ, List.set_cons_zero, show List.replicate (j + 1) fR = List.replicate j fR ++ [fR] by rw [List.replicate_succ']]
  rw [List.append_assoc]; rfl
set_option maxHeartbeats 16000000 in
theorem known15_c (s : Store) (K : AV → Store → Prop) (h : K (.p (.bool true)) s) : Cal Tryz.prog 17 [] s K := by
  refine Cal.pure (args := []) ?_
  refine Cal.intro Tryz.func17 (by decide +kernel) rfl rfl ?_
  refine Cal.frameK [] (new_c 0 0 0 200 _ fun _ => ?_) rfl rfl rfl
  refine Br.f rfl ?_
  refine Ob.mk (okst rfl rfl rfl) ?_
  refine Cal.frameK [0, 1, 2, 3] (kp1 _ fun _ => ?_) rfl rfl rfl
  refine Cal.frameK [0, 1, 2, 3] (kp2 _ fun _ => ?_) rfl rfl rfl
  refine Cal.frameK [0, 1, 2, 3] (kp3 _ fun _ => ?_) rfl rfl rfl
  refine Cal.frameK [0, 1, 2, 3] (lraw0_c 0 0 0 200 0 [kb] _ fun _ => ?_) rfl rfl rfl
  repeat' (first
    | refine Chk.mk (by kernel_rfl) ?_
    | (apply Br.t; · (first | rfl | (simp only [*] <;> rfl)))
    | (apply Br.f; · (first | rfl | (simp only [*] <;> rfl)))
    | refine ⟨_, ⟨rfl, rfl⟩, ?_⟩
    | refine ⟨_, _, ⟨rfl, rfl⟩, rfl, ?_⟩
    | refine ⟨_, _, Ob.mk ⟨(by decide : (0 : Int) ≤ 16), rfl, (by decide : (16 : Int) * 32 ≤ 140737488355328), (by decide : (16 : Int) < 9223372036854775808)⟩ ⟨rfl, rfl⟩, rfl, ?_⟩
    | refine ⟨_, Ob.mk (by decide) ⟨rfl, rfl⟩, ?_⟩
    | (refine ⟨_, Br.t ?_ ⟨rfl, rfl⟩, ?_⟩; · (first | rfl | (simp only [*] <;> rfl)))
    | (refine ⟨_, Br.f ?_ ⟨rfl, rfl⟩, ?_⟩; · (first | rfl | (simp only [*] <;> rfl)))
    | refine ⟨_, _, Ob.mk (okst rfl rfl rfl) ⟨rfl, rfl⟩, rfl, ?_⟩
    | refine Ob.mk (okst rfl rfl rfl) ?_
    | refine Ob.mk (by decide) ?_
    | refine Br.mkT (fun c => ?_) (fun c => ?_)
    | refine Br.mkF (fun c => ?_) (fun c => ?_)
    | refine Br.mk (fun c => ?_) (fun c => ?_))
  refine LoopX.fam [1, 2, 3, 4, 5, 6, 8, 10, 47, 48, 49] (fun (j : Nat) => ([(1, .ref 0 0), (2, .ref 4 0), (3, .p (ii 0)), (4, .p (ii 0)), (5, .p (ii 0)), (6, .p (ii 0)), (8, .p (ii 16)), (10, .p (ii 12)), (47, .osl 5 16 0 16), (48, .p (ii 16)), (49, .p (ii (j : Nat)))], knS j))
    (fun j => j ≤ 16) (fun j => 16 - j) 0 (Nat.zero_le _) (Trim.mk' ?_ ?_ ?_ ?_ ?_) ?_
  · rfl
  · rfl
  · rfl
  · rfl
  · exact Nat.le_refl _
  intro j hj
  have hj : j ≤ 16 := hj
  refine Br.mk (fun hc => ?_) (fun hc => ?_)
  · have hc : (j : Int) < (16 : Nat) := of_decide_eq_true hc
    have hj1 : j < 16 := by omega
    have ej : IntKind.i64.wrap ((j : Int) + 1) = ((j + 1 : Nat) : Int) := by rw [wrap_i64] <;> omega
    have hkl := kX_len hj
    have hga : (kX j)[((0 + ((j : Nat) : Int).toNat : Nat) : Int).toNat]? = some zR := by rw [Nat.zero_add, Int.toNat_natCast, Int.toNat_natCast]; exact kX_at hj1
    have hj0 : (0 : Int) ≤ (j : Int) := Int.natCast_nonneg _
    repeat' (first
      | refine Chk.mk (by kernel_rfl) ?_
      | (apply Br.t; · (first | rfl | (simp only [*] <;> rfl)))
      | (apply Br.f; · (first | rfl | (simp only [*] <;> rfl)))
      | refine ⟨_, ⟨rfl, rfl⟩, ?_⟩
      | refine ⟨_, _, ⟨rfl, rfl⟩, rfl, ?_⟩
      | refine ⟨_, _, Ob.mk ⟨(by decide : (0 : Int) ≤ 60), rfl, (by decide : (60 : Int) * 1 ≤ 140737488355328), (by decide : (60 : Int) < 9223372036854775808)⟩ ⟨rfl, rfl⟩, rfl, ?_⟩
      | refine ⟨_, Ob.mk rfl (Ob.mk (.inr rfl) ⟨List.replicate 60 0, by kernel_rfl, ⟨rfl, rfl⟩⟩), ?_⟩
      | refine ⟨_, Ob.mk ⟨hkl, hj0, hc⟩ ⟨rfl, rfl⟩, ?_⟩
      | refine ⟨_, _, Ob.mk ⟨hkl, (by decide : 1 + 1 ≤ 2)⟩ (Idx.mk zR (Int.natCast_nonneg _) hga ⟨rfl, rfl⟩), rfl, ?_⟩
      | refine ⟨_, Ob.mk (by decide) ⟨rfl, rfl⟩, ?_⟩
      | (refine ⟨_, Br.t ?_ ⟨rfl, rfl⟩, ?_⟩; · (first | rfl | (simp only [*] <;> rfl)))
      | (refine ⟨_, Br.f ?_ ⟨rfl, rfl⟩, ?_⟩; · (first | rfl | (simp only [*] <;> rfl)))
      | refine ⟨_, _, Ob.mk (okst rfl rfl rfl) ⟨rfl, rfl⟩, rfl, ?_⟩
      | refine Ob.mk (okst rfl rfl rfl) ?_
      | refine Ob.mk (by decide) ?_
      | refine Br.mkT (fun c => ?_) (fun c => ?_)
      | refine Br.mkF (fun c => ?_) (fun c => ?_)
      | refine Br.mk (fun c => ?_) (fun c => ?_))
    refine ⟨j + 1, hj1, by show 16 - (j + 1) < 16 - j; omega, Nat.le_refl _, Trim.mk' ?_ ?_ rfl rfl (show 6 ≤ 7 by decide)⟩
    · refine Eq.trans (b := [_, _, _, _, _, _, _, _, _, _, (49, AV.p (ii (IntKind.i64.wrap ((j : Int) + 1))))]) rfl ?_
      rw [ej]; rfl
    · refine Eq.trans (b := [_, _, _, _, _, some (.buf 2 ((kX j).set (0 + ((j : Nat) : Int).toNat) fR))]) rfl ?_
      rw [Nat.zero_add, Int.toNat_natCast, kX_set hj1]; rfl
  · have hc : ¬ (j : Int) < (16 : Nat) := of_decide_eq_false hc
    have : j = 16 := by omega
    subst this
    clear hc hj
    refine frz2 ?_
    refine Ob.mk rfl ?_
    refine Cal.frameK [0, 1, 2, 3] (kp4 _ fun _ => ?_) rfl rfl rfl
    repeat' (first
      | (apply Br.t; · (first | rfl | (simp only [*] <;> rfl)))
      | (apply Br.f; · (first | rfl | (simp only [*] <;> rfl)))
      | refine Ob.mk (okst rfl rfl rfl) ?_
      | refine Cal.frameK [0, 1, 2, 3] (kend _ fun _ => ?_) rfl rfl rfl
      | refine Cal.frameK [0, 1, 2, 3] (lbats_c 0 0 0 200 0 [kb] (by decide) kb_rec _ fun _ => ?_) rfl rfl rfl
      | refine Cal.frameK [0, 1, 2, 3] (kp6 _ fun _ => ?_) rfl rfl rfl
      | refine Cal.frameK [0, 6, 7, 8] (kp8 _ fun _ => ?_) rfl rfl rfl
      | refine Cal.frameK [0, 9, 10, 11] (lstart_c 0 0 0 200 1 [] _ fun _ => ?_) rfl rfl rfl
      | refine Cal.frameK [0, 9, 10, 11] (lprods_c 0 0 0 200 1 [] (by decide) _ fun _ => ?_) rfl rfl rfl
      | exact h
      | refine Br.mkT (fun c => ?_) (fun c => ?_)
      | refine Br.mkF (fun c => ?_) (fun c => ?_)
      | refine Br.mk (fun c => ?_) (fun c => ?_))
end Go.Proofs.YtjhgmaephpadpaaGreat.AW


open Go Go.Proofs.YtjhgmaephpadpaaGreat.AW Go.Proofs
namespace Go.Proofs.YtjhgmaephpadpaaGreat.AW
set_option maxRecDepth 100000
set_option linter.unusedSimpArgs false
set_option linter.unusedVariables false

/-! ### ModelOnce -/
theorem RowOk.recs {st : Int} {L : List Bt} (h : RowOk st L) : ∀ b, b ∈ L → b.recs.length ≤ 1000000000 := fun b hb => by have := (h.tiny b hb).1; omega
theorem RowOk.smalls {st : Int} {L : List Bt} (h : RowOk st L) : ∀ b, b ∈ L → b.small := fun b hb => (h.tiny b hb).small
end Go.Proofs.YtjhgmaephpadpaaGreat.AW


open Go Go.Proofs.YtjhgmaephpadpaaGreat.AW Go.Proofs
namespace Go.Proofs.YtjhgmaephpadpaaGreat.AW
set_option maxRecDepth 100000
set_option linter.unusedSimpArgs false
set_option linter.unusedVariables false

/-! ### Within of any bounds -/
/-! ### What a refusal leaves -/
theorem RowC.recs {st : Int} {L : List Bt} (h : RowC st L) : ∀ b, b ∈ L → b.recs.length ≤ 1000000000 := fun b hb => by have := (right_small (h.right b hb)).1; omega
theorem RowC.smalls {st : Int} {L : List Bt} (h : RowC st L) : ∀ b, b ∈ L → b.small := fun b hb => (right_shrt (h.right b hb)).small
/-- What a log answers, and what it has then. -/
structure Ans (cap st : Int) (L : List Bt) (r : (Int × Int) × List Bt) : Prop where
  row : RowC st r.2
  len : r.2.length ≤ L.length + 1
  size : sizeS L ≤ cap → sizeS r.2 ≤ cap
  ref : r.1.2 ≠ 0 → r.1.1 = -1 ∧ r.2 = L
theorem Ans.same {cap st : Int} {L : List Bt} (h : RowC st L) {v : Int} (n : Int) (hv : v = 0 ∨ n = -1) : Ans cap st L ((n, v), L) :=
  ⟨h, Nat.le_succ _, id, fun hne => ⟨by rcases hv with q | q; exact absurd q hne; exact q, rfl⟩⟩
theorem put_ans {cap st : Int} {L : List Bt} {b : Bt} (h : RowC st L) (hb : b.base = endW st L) (h0 : 0 ≤ st) (h1 : st ≤ 1099511627776) : Ans cap st L (putV cap st L b) := by
  unfold putV
  split
  · exact .same h _ (.inr rfl)
  · rename_i k1
    split
    · exact .same h _ (.inl rfl)
    · split
      · exact .same h _ (.inr rfl)
      · rename_i k3
        split
        · exact .same h _ (.inr rfl)
        · rename_i k4
          have hr : rightV b = 0 := by
            have k1 : (tChk (dGet (dFold L).1 b.prod) b).2 = 0 := by simpa using k1
            unfold tChk at k1
            split at k1
            · exact k1
            · rename_i k; simpa using k
          have he := end_in h h0 h1
          have hc := right_cnt hr
          have k4 : ¬ IntKind.i64.wrap (endW st L + cntV b) > 1099511627776 := by simpa using k4
          rw [wrap_i64 (by omega) (by omega)] at k4
          refine ⟨.snoc L b h hb hr (by rw [right_end hr]; omega), by rw [List.length_append]; exact Nat.le_refl _, fun _ => ?_, fun hne => absurd rfl hne⟩
          have es : sizeS (L ++ [b]) = IntKind.i64.wrap (sizeS L + sizeV b) := by unfold sizeS; rw [List.foldl_append]; rfl
          show sizeS (L ++ [b]) ≤ cap
          rw [es]
          have k3 : ¬ IntKind.i64.wrap (sizeS L + sizeV b) > cap := by simpa using k3
          omega
theorem prod_ans {cap st : Int} {L : List Bt} (b : Bt) (h : RowC st L) (h0 : 0 ≤ st) (h1 : st ≤ 1099511627776) : Ans cap st L (prodV cap st L b) := by
  unfold prodV
  split
  · exact .same h _ (.inr rfl)
  · split
    · exact .same h _ (.inr rfl)
    · exact put_ans h rfl h0 h1
theorem mark_ans {cap st : Int} {L : List Bt} (p e m : Int) (h : RowC st L) (h0 : 0 ≤ st) (h1 : st ≤ 1099511627776) : Ans cap st L (markV cap st L p e m) := by
  unfold markV
  split
  · exact .same h _ (.inr rfl)
  · exact put_ans h rfl h0 h1
end Go.Proofs.YtjhgmaephpadpaaGreat.AW


open Go Go.Proofs.YtjhgmaephpadpaaGreat.AW Go.Proofs
namespace Go.Proofs.YtjhgmaephpadpaaGreat.AW
set_option maxRecDepth 100000
set_option linter.unusedSimpArgs false
set_option linter.unusedVariables false

/-! ### ModelRefuses -/
end Go.Proofs.YtjhgmaephpadpaaGreat.AW


open Go Go.Proofs.YtjhgmaephpadpaaGreat.AW Go.Proofs
namespace Go.Proofs.YtjhgmaephpadpaaGreat.AW
set_option maxRecDepth 100000
set_option linter.unusedSimpArgs false
set_option linter.unusedVariables false

/-! ### Keep by the document -/
theorem nxtF_max {st : Int} {L : List Bt} (h : RowC st L) (top : Int) : ∃ k, k ≤ L.length ∧ nxtF top st L = bndW st L k ∧ (k = 0 ∨ bndW st L k ≤ top) ∧ ∀ j, k < j → j < L.length → top < bndW st L j := by
  induction h with
  | nil => exact ⟨0, Nat.le_refl _, rfl, .inl rfl, fun j h1 h2 => by cases h2⟩
  | snoc L b h h1 h2 h3 ih =>
    rw [nxtF_snoc]
    have hbl : bndW st (L ++ [b]) L.length = b.base := by rw [bnd_lt (by simp)]; simp
    split
    · rename_i ht
      exact ⟨L.length, by simp, hbl.symm, .inr (by rw [hbl]; exact ht), fun j k1 k2 => by simp at k2; omega⟩
    · rename_i ht
      obtain ⟨k, k1, k2, k3, k4⟩ := ih
      refine ⟨k, by simp; omega, by rw [bnd_snoc h1 k1]; exact k2, by rw [bnd_snoc h1 k1]; exact k3, fun j j1 j2 => ?_⟩
      by_cases hj : j < L.length
      · rw [bnd_snoc h1 (by omega)]; exact k4 j j1 hj
      · have : j = L.length := by simp at j2; omega
        subst this
        rw [hbl]; omega
theorem nxt_max {st : Int} {L : List Bt} (h : RowC st L) (top : Int) : ∃ k, k ≤ L.length ∧ nxtV st L top = bndW st L k ∧ (k = 0 ∨ bndW st L k ≤ top) ∧ ∀ j, k < j → j ≤ L.length → top < bndW st L j := by
  unfold nxtV
  split
  · rename_i ht
    exact ⟨L.length, Nat.le_refl _, (bnd_ge (Nat.le_refl _)).symm, .inr (by rw [bnd_ge (Nat.le_refl _)]; exact ht), fun j h1 h2 => by omega⟩
  · rename_i ht
    obtain ⟨k, k1, k2, k3, k4⟩ := nxtF_max h top
    refine ⟨k, k1, k2, k3, fun j j1 j2 => ?_⟩
    by_cases hj : j < L.length
    · exact k4 j j1 hj
    · have : j = L.length := by omega
      subst this
      rw [bnd_ge (Nat.le_refl _)]; omega
theorem bnd_at {st : Int} {L : List Bt} (h : RowC st L) {i j : Nat} (hi : i ≤ L.length) (hj : j ≤ L.length) {top : Int} (h1 : i = 0 ∨ bndW st L i ≤ top) (h2 : ∀ k, i < k → k ≤ L.length → top < bndW st L k) (h3 : j = 0 ∨ bndW st L j ≤ top) (h4 : ∀ k, j < k → k ≤ L.length → top < bndW st L k) : i = j := by
  rcases Nat.lt_trichotomy i j with e | e | e
  · have := h2 j e hj; rcases h3 with h3 | h3 <;> omega
  · exact e
  · have := h4 i e hi; rcases h1 with h1 | h1 <;> omega
set_option maxHeartbeats 8000000 in
theorem mkeep_c (cap st : Int) (L : List Bt) (hL : L.length ≤ 1000000) (hC : RowC st L) (f : Int) (K : AV → Store → Prop) (h : K (.p (ii (kpS st L f))) (mS cap (kpS st L f) (kepL (kpS st L f) L))) : Cal Tryz.prog 54 [.ref 0 0, .p (ii f)] (mS cap st L) K := by
  refine Cal.cut ?_
  refine Cal.tellOut ?_
  refine Cal.frzF 0 2 ?_
  refine Cal.intro Tryz.func54 (by decide +kernel) rfl rfl ?_
  have hlm := rowL L
  have hst := fun s' K => mstab_c L hL hC.smalls st s' K
  have hen := fun K => mend_c cap st L (by omega) K
  obtain ⟨k, k1, k2, k3, k4⟩ := nxt_max hC (if stbW st L < f then stbW st L else f)
  have k2' : kpS st L f = bndW st L k := k2
  have k5 := kep_bnd hC k1
  rw [k2', k5] at h
  generalize stbW st L = sb at hst k3 k4
  have he : endW st L = bndW st L L.length := (bnd_ge (Nat.le_refl _)).symm
  rw [he] at hen
  repeat' (first
    | refine Chk.mk (by kernel_rfl) ?_
    | (apply Br.t; · (first | rfl | (simp only [*] <;> rfl)))
    | (apply Br.f; · (first | rfl | (simp only [*] <;> rfl)))
    | refine ⟨_, ⟨rfl, rfl⟩, ?_⟩
    | refine ⟨_, _, ⟨rfl, rfl⟩, rfl, ?_⟩
    | refine Or.inl ⟨_, fun s' => hst s' _ ⟨rfl, rfl⟩, rfl, ?_⟩
    | refine .inr <| .inr ⟨[0], _, _, _, hen _ ⟨rfl, rfl⟩, rfl, rfl, rfl, ?_⟩
    | refine ⟨_, Ob.mk (by decide) ⟨rfl, rfl⟩, ?_⟩
    | (refine ⟨_, Br.t ?_ ⟨rfl, rfl⟩, ?_⟩; · (first | rfl | (simp only [*] <;> rfl)))
    | (refine ⟨_, Br.f ?_ ⟨rfl, rfl⟩, ?_⟩; · (first | rfl | (simp only [*] <;> rfl)))
    | refine ⟨_, _, Ob.mk (okst rfl rfl rfl) ⟨rfl, rfl⟩, rfl, ?_⟩
    | refine Ob.mk (okst rfl rfl rfl) ?_
    | refine Ob.mk (by decide) ?_
    | refine Br.mkT (fun c => ?_) (fun c => ?_)
    | refine Br.mkF (fun c => ?_) (fun c => ?_)
    | refine Br.mk (fun c => ?_) (fun c => ?_))
  obtain ⟨top, ht⟩ : ∃ top, top = (if sb < f then sb else f) := ⟨_, rfl⟩
  refine LoopX.fam [0, 5, 6, 7] (fun (j : Nat) => ([(0, .ref 0 0), (5, .p (ii top)), (6, .p (ii (j : Nat))), (7, .p (ii (bndW st L j)))], mS cap st L))
    (fun j => j ≤ L.length ∧ ∀ i, j < i → i ≤ L.length → top < bndW st L i) (fun j => j) L.length ⟨Nat.le_refl _, fun i h1 h2 => by omega⟩ (Trim.mk' (by rw [ht]; refine Eq.trans (b := [_, _, (6, AV.p (ii (L.map Bt.pv).length)), _]) rfl ?_; rw [hlm]; rfl) rfl rfl rfl (Nat.le_refl _)) ?_
  rw [← ht] at k3 k4
  clear ht hst hen he
  rintro j ⟨hj, hjm⟩
  have hj : j ≤ L.length := hj
  have hjm : ∀ i, j < i → i ≤ L.length → top < bndW st L i := hjm
  have hfin : (j = 0 ∨ bndW st L j ≤ top) → j = k := fun e => bnd_at hC hj k1 e hjm k3 k4
  cases c1 : decide (((j : Nat) : Int) > 0) with
  | true =>
    have hj0 : 0 < j := by have := of_decide_eq_true c1; omega
    cases c2 : decide (bndW st L j > top) with
    | true =>
      have hj1 : j - 1 < L.length := by omega
      have ej : IntKind.i64.wrap ((j : Int) - 1) = ((j - 1 : Nat) : Int) := by rw [wrap_i64] <;> omega
      have hg : (L.map Bt.pv)[(IntKind.i64.wrap ((j : Int) - 1)).toNat]? = some (L[j - 1]).pv := by rw [ej]; exact getL hj1
      have hn0 : 0 ≤ IntKind.i64.wrap ((j : Int) - 1) := by rw [ej]; exact Int.natCast_nonneg _
      have hbd : (L[j - 1]).base = bndW st L (j - 1) := (bnd_lt hj1).symm
      have hc2 : bndW st L j > top := of_decide_eq_true c2
      clear hfin
      repeat' (first
        | (apply Br.t; · (first | rfl | (simp only [*] <;> rfl)))
        | (apply Br.f; · (first | rfl | (simp only [*] <;> rfl)))
        | refine Ob.mk (okst rfl rfl rfl) ?_
        | refine Idx.mk _ hn0 hg ?_
        | refine Br.mkT (fun c => ?_) (fun c => ?_)
        | refine Br.mkF (fun c => ?_) (fun c => ?_)
        | refine Br.mk (fun c => ?_) (fun c => ?_))
      refine ⟨j - 1, ⟨by show j - 1 ≤ L.length; omega, fun i h1 h2 => ?_⟩, by show j - 1 < j; omega, Nat.le_refl _, Trim.mk' ?_ rfl rfl rfl (Nat.le_refl _)⟩
      · by_cases e : i = j
        · subst e; exact hc2
        · have h1 : j - 1 < i := h1
          exact hjm i (by omega) h2
      · refine Eq.trans (b := [_, _, (6, AV.p (ii (IntKind.i64.wrap ((j : Int) - 1)))), (7, AV.p (ii (L[j - 1]).base))]) rfl ?_
        rw [ej, hbd]; rfl
    | false =>
      have hjk := hfin (.inr (by have := of_decide_eq_false c2; omega))
      subst hjk
      have hgt : decide (bndW st L j > st) = true := decide_eq_true (by have := bnd_mono hC hj0 hj; rw [bnd_zero hC] at this; omega)
      have hb1 : (0 : Int) ≤ ((j : Nat) : Int) ∧ ((j : Nat) : Int) ≤ (((L.map Bt.pv).length : Nat) : Int) := by omega
      have hdr : (L.map Bt.pv).drop ((j : Nat) : Int).toNat = (L.drop j).map Bt.pv := by rw [Int.toNat_natCast, List.map_drop]
      have hdl : ((L.drop j).map Bt.pv).length ≤ 1000000 := by rw [List.length_map, List.length_drop]; omega
      have hcut : (([] ++ (L.drop j).map Bt.pv).drop 0).take ([] ++ (L.drop j).map Bt.pv).length = (L.drop j).map Bt.pv := cut_all
      clear hfin hjm k3 k4 k5 k2 k2' hlm hj k1
      generalize bndW st L j = n at c2 h hgt ⊢
      clear hj0 hC
      have l1 : (0 + ((L.drop j).map Bt.pv).length) * 72 ≤ 140737488355328 := by omega
      have hw : WkL [.p (ii cap), .p (ii n), .p (.sl .shr 7 ((([] ++ (L.drop j).map Bt.pv).drop 0).take ([] ++ (L.drop j).map Bt.pv).length))] [.p (ii cap), .p (ii n), .p (rowP (L.drop j))] := ⟨.inl rfl, .inl rfl, .inr ⟨_, _, rfl, rfl, by rw [hcut]; exact .refl _⟩, trivial⟩
      have hwE : (L.drop j).map Bt.pv = [] → WkL [.p (ii cap), .p (ii n), .p (.sl .clip 7 [])] [.p (ii cap), .p (ii n), .p (rowP (L.drop j))] := fun e => ⟨.inl rfl, .inl rfl, .inr ⟨_, _, rfl, rfl, by unfold rowP; rw [e]; exact .sl .clip 7 [] [] rfl (fun y hy => by cases hy) .nil⟩, trivial⟩
      clear hcut
      repeat' (first
        | (apply Br.t; · (first | rfl | (simp only [*] <;> rfl)))
        | (apply Br.f; · (first | rfl | (simp only [*] <;> rfl)))
        | refine Ob.mk (okst rfl rfl rfl) ?_
        | refine Ob.mk hb1 ?_
        | refine Br.mkT (fun c => ?_) (fun c => ?_)
        | refine Br.mkF (fun c => ?_) (fun c => ?_)
        | refine Br.mk (fun c => ?_) (fun c => ?_))
      rw [hdr]
      refine BrL.mk (fun hre => ?_) (fun hrn => ?_)
      · skip
        repeat' (first
          | (apply Br.t; · (first | rfl | (simp only [*] <;> rfl)))
          | (apply Br.f; · (first | rfl | (simp only [*] <;> rfl)))
          | refine Ob.mk (okst rfl rfl rfl) ?_
          | refine Br.mkT (fun c => ?_) (fun c => ?_)
          | refine Br.mkF (fun c => ?_) (fun c => ?_)
          | refine Br.mk (fun c => ?_) (fun c => ?_))
        exact .inl (.inr ⟨0, _, [.p (ii cap), .p (ii n), .p (rowP (L.drop j))], none, rfl, hwE hre, 1, mS cap n (L.drop j), Nat.le_refl 1, (show 1 ≤ 1 by decide), rfl, rfl, WkS.refl _, h⟩)
      · refine Ob.mk l1 ?_
        repeat' (first
          | (apply Br.t; · (first | rfl | (simp only [*] <;> rfl)))
          | (apply Br.f; · (first | rfl | (simp only [*] <;> rfl)))
          | refine Ob.mk (okst rfl rfl rfl) ?_
          | refine Br.mkT (fun c => ?_) (fun c => ?_)
          | refine Br.mkF (fun c => ?_) (fun c => ?_)
          | refine Br.mk (fun c => ?_) (fun c => ?_))
        exact .inr ⟨_, _, _, _, _, _, _, _, _, rfl, rfl, rfl, rfl, .inr ⟨0, _, [.p (ii cap), .p (ii n), .p (rowP (L.drop j))], none, rfl, hw, 1, mS cap n (L.drop j), Nat.le_refl 1, (show 1 ≤ 2 by decide), rfl, rfl, WkS.refl _, h⟩⟩
  | false =>
    have hj0 : j = 0 := by have := of_decide_eq_false c1; omega
    have hjk := hfin (.inl hj0)
    subst hjk
    subst hj0
    have hgt : decide (bndW st L 0 > st) = false := by rw [bnd_zero hC]; exact decide_eq_false (by omega)
    rw [bnd_zero hC, List.drop_zero] at h
    clear hfin hjm k3 k4 k5 k2 k2' hlm hj k1
    repeat' (first
      | (apply Br.t; · (first | rfl | (simp only [*] <;> rfl)))
      | (apply Br.f; · (first | rfl | (simp only [*] <;> rfl)))
      | refine Ob.mk (okst rfl rfl rfl) ?_
      | refine Br.mkT (fun c => ?_) (fun c => ?_)
      | refine Br.mkF (fun c => ?_) (fun c => ?_)
      | refine Br.mk (fun c => ?_) (fun c => ?_))
    exact .inl (.inl ⟨1, mS cap st L, Nat.le_refl 1, (show 1 ≤ 1 by decide), rfl, rfl, WkS.refl _, h⟩)
end Go.Proofs.YtjhgmaephpadpaaGreat.AW


open Go Go.Proofs.YtjhgmaephpadpaaGreat.AW Go.Proofs
namespace Go.Proofs.YtjhgmaephpadpaaGreat.AW
set_option maxRecDepth 100000
set_option linter.unusedSimpArgs false
set_option linter.unusedVariables false

/-! ### ref1.Back, Get, Cut -/
set_option maxHeartbeats 4000000 in
theorem back1_c (a : List UInt8) (s : Store) (K : AV → Store → Prop) (h : K (.tup [.p (ii (if a.length < 8 then 0 else IntKind.i64.wrap (bkV (a.take 8)))), .p (.bool (decide (8 ≤ a.length)))]) s) : Cal Tryz.prog 149 [.p (bsl a)] s K := by
  refine Cal.pure (args := [bsl a]) ?_
  refine Cal.intro Tryz.func149 (by decide +kernel) rfl rfl ?_
  have hla := bytesP_len a
  by_cases h8 : a.length < 8
  · have c1 : decide ((((bytesP a).length : Nat) : Int) < 8) = true := decide_eq_true (by omega)
    have d1 : decide (8 ≤ a.length) = false := decide_eq_false (by omega)
    rw [if_pos h8, d1] at h
    refine Br.t c1 ?_
    exact h
  · have c1 : decide ((((bytesP a).length : Nat) : Int) < 8) = false := decide_eq_false (by omega)
    have d1 : decide (8 ≤ a.length) = true := decide_eq_true (by omega)
    rw [if_neg h8, d1] at h
    refine Br.f c1 ?_
    refine LoopX.fam [0, 4, 5] (fun (j : Nat) => ([(0, .p (bsl a)), (4, .p (.int .u64 (bkV (a.take j)))), (5, .p (ii (j : Nat)))], []))
      (fun j => j ≤ 8) (fun j => 8 - j) 0 (Nat.zero_le _) (Trim.mk' rfl rfl rfl rfl (Nat.le_refl _)) ?_
    intro j hj
    replace hj : j ≤ 8 := hj
    refine Br.mk (fun hc => ?_) (fun hc => ?_)
    · replace hc : (j : Int) < 8 := of_decide_eq_true hc
      have hj1 : j < a.length := by omega
      have ej : IntKind.i64.wrap ((j : Int) + 1) = ((j + 1 : Nat) : Int) := by rw [wrap_i64] <;> omega
      have hg := getB hj1
      have hs : bkV (a.take (j + 1)) = bits .or .u64 (IntKind.u64.wrap (bkV (a.take j) * 2 ^ min (8 : Int).toNat IntKind.u64.bits)) (IntKind.u64.wrap ((a[j]).toNat : Int)) := by
        unfold bkV; rw [take_succ' hj1, List.foldl_append]; rfl
      refine Ob.mk (by decide) ?_
      refine Idx.mk (.int .u8 ((a[j]).toNat : Int)) (Int.natCast_nonneg _) hg ?_
      refine ⟨j + 1, by show j + 1 ≤ 8; omega, by show 8 - (j + 1) < 8 - j; omega, Nat.le_refl _, Trim.mk' ?_ rfl rfl rfl (Nat.le_refl _)⟩
      refine Eq.trans (b := [_, (4, .p (.int .u64 (bits .or .u64 (IntKind.u64.wrap (bkV (a.take j) * 2 ^ min (8 : Int).toNat IntKind.u64.bits)) (IntKind.u64.wrap ((a[j]).toNat : Int))))), (5, AV.p (ii (IntKind.i64.wrap ((j : Int) + 1))))]) rfl ?_
      rw [ej, ← hs]; rfl
    · replace hc : j = 8 := by
        have : ¬ (j : Int) < 8 := of_decide_eq_false hc
        omega
      subst hc
      exact h
def g1S (c : UInt8) (j : Nat) (u : Int) : Int := bits .or .u64 u (IntKind.u64.wrap (IntKind.u64.wrap (bits .and .u8 (c.toNat : Int) 127) * 2 ^ min (IntKind.u64.wrap (IntKind.i64.wrap (7 * (j : Int)))).toNat IntKind.u64.bits))
def g1V (a : List UInt8) : List UInt8 → Nat → Int → Int × Int
  | [], _, _ => (0, 0)
  | c :: r, j, u =>
    if decide ((c.toNat : Int) < 128) = true then (if putB (vgZ (g1S c j u)) = a.take (j + 1) then (vgZ (g1S c j u), IntKind.i64.wrap ((j : Int) + 1)) else (0, 0))
    else g1V a r (j + 1) (g1S c j u)
set_option maxHeartbeats 8000000 in
theorem get1_c (a : List UInt8) (ha : a.length ≤ 1000000000) (s : Store) (K : AV → Store → Prop) (h : K (.tup [.p (ii (g1V a (a.take 10) 0 0).1), .p (ii (g1V a (a.take 10) 0 0).2)]) s) : Cal Tryz.prog 177 [.p (bsl a)] s K := by
  refine Cal.pure (args := [bsl a]) ?_
  refine Cal.intro Tryz.func177 (by decide +kernel) rfl rfl ?_
  have hla := bytesP_len a
  refine LoopX.fam [0, 4, 5] (fun (q : Int × Nat) => ([(0, .p (bsl a)), (4, .p (.int .u64 q.1)), (5, .p (ii (q.2 : Nat)))], []))
    (fun q => q.2 ≤ (a.take 10).length ∧ g1V a (a.take 10) 0 0 = g1V a ((a.take 10).drop q.2) q.2 q.1) (fun q => 10 - q.2) (0, 0) ⟨Nat.zero_le _, rfl⟩ (Trim.mk' rfl rfl rfl rfl (Nat.le_refl _)) ?_
  rintro ⟨v, j⟩ ⟨hj, hv⟩
  replace hj : j ≤ (a.take 10).length := hj
  replace hv : g1V a (a.take 10) 0 0 = g1V a ((a.take 10).drop j) j v := hv
  have hmin : (a.take 10).length = min 10 a.length := List.length_take ..
  have hend : (a.take 10).length ≤ j → K (.tup [.p (ii 0), .p (ii 0)]) s := fun e => by
    rw [List.drop_eq_nil_of_le e] at hv
    rw [hv] at h; exact h
  cases c1 : decide ((j : Int) < ((bytesP a).length : Nat)) with
  | false =>
    have := hend (by have := of_decide_eq_false c1; omega)
    clear h hend hla hmin hv
    repeat' (first
      | (apply Br.t; · (first | rfl | (simp only [*] <;> rfl)))
      | (apply Br.f; · (first | rfl | (simp only [*] <;> rfl)))
      | refine Ob.mk (okst rfl rfl rfl) ?_
      | refine Br.mkT (fun c => ?_) (fun c => ?_)
      | refine Br.mkF (fun c => ?_) (fun c => ?_)
      | refine Br.mk (fun c => ?_) (fun c => ?_)
      | exact this
      | (simp only [*, Bool.true_and, Bool.false_and, Bool.true_or, Bool.false_or, Bool.and_true, Bool.and_false, Bool.or_true, Bool.or_false, Bool.not_true, Bool.not_false, if_true, if_false, reduceIte, Bool.false_eq_true] at this; exact this))
  | true =>
    cases c2 : decide ((j : Int) < 10) with
    | false =>
      have := hend (by have := of_decide_eq_false c2; omega)
      clear h hend hla hmin hv
      repeat' (first
        | (apply Br.t; · (first | rfl | (simp only [*] <;> rfl)))
        | (apply Br.f; · (first | rfl | (simp only [*] <;> rfl)))
        | refine Ob.mk (okst rfl rfl rfl) ?_
        | refine Br.mkT (fun c => ?_) (fun c => ?_)
        | refine Br.mkF (fun c => ?_) (fun c => ?_)
        | refine Br.mk (fun c => ?_) (fun c => ?_)
        | exact this
        | (simp only [*, Bool.true_and, Bool.false_and, Bool.true_or, Bool.false_or, Bool.and_true, Bool.and_false, Bool.or_true, Bool.or_false, Bool.not_true, Bool.not_false, if_true, if_false, reduceIte, Bool.false_eq_true] at this; exact this))
    | true =>
      have hj1 : j < a.length := by have := of_decide_eq_true c1; omega
      have hj2 : j < (a.take 10).length := by have := of_decide_eq_true c2; omega
      have ej : IntKind.i64.wrap ((j : Int) + 1) = ((j + 1 : Nat) : Int) := by rw [wrap_i64] <;> omega
      have ew : 0 ≤ IntKind.u64.wrap (IntKind.i64.wrap (7 * (j : Int))) := by simp only [IntKind.wrap_i64, IntKind.wrap_u64]; omega
      have hg := getB hj1
      have hd : (a.take 10).drop j = a[j] :: (a.take 10).drop (j + 1) := by rw [List.drop_eq_getElem_cons hj2, List.getElem_take]
      rw [hd] at hv
      rw [hv] at h
      generalize a[j] = u at hg hv hd h
      have k1 : ∀ (x : Int × Int), g1V a (u :: (a.take 10).drop (j + 1)) j v = x → K (.tup [.p (ii x.1), .p (ii x.2)]) s := fun x e => by rw [← e]; exact h
      have hn0 := Int.natCast_nonneg j
      have hput : ∀ n : Int, ∀ K : AV → Store → Prop, K (ob 0 (putB n)) [bu (putB n)] → Cal Tryz.prog 130 [.p (.sl .nil 0 []), .p (ii n)] [] K := fun n K hK =>
        Cal.argsD (args' := [.p (bsl []), .p (ii n)]) (put_t [] n (by decide) K (by rw [List.nil_append]; exact hK)) ⟨.inr ⟨_, _, rfl, rfl, .nil 0 .shr 1⟩, .inl rfl, trivial⟩
      have o1 : 0 ≤ (0 : Int) ∧ (0 : Int) ≤ IntKind.i64.wrap ((j : Int) + 1) ∧ IntKind.i64.wrap ((j : Int) + 1) ≤ (((bytesP a).length : Nat) : Int) := by rw [ej]; omega
      have hx : ((bytesP a).take (IntKind.i64.wrap ((j : Int) + 1)).toNat).drop (0 : Int).toNat = bytesP (a.take (j + 1)) := by rw [ej, Int.toNat_natCast]; unfold bytesP; rw [List.map_take]; rfl
      have hcu : ∀ x : List UInt8, ((bytesP x).drop 0).take (bytesP x).length = bytesP x := fun x => by rw [List.drop_zero, List.take_length]
      have hnext : ¬ decide ((u.toNat : Int) < 128) = true → g1V a (a.take 10) 0 0 = g1V a ((a.take 10).drop (j + 1)) (j + 1) (g1S u j v) := fun c => by
        rw [hv]; show (if _ then _ else _) = _; rw [if_neg c]
      have hyes : decide ((u.toNat : Int) < 128) = true → putB (vgZ (g1S u j v)) = a.take (j + 1) → K (.tup [.p (ii (vgZ (g1S u j v))), .p (ii (IntKind.i64.wrap ((j : Int) + 1)))]) s := fun c e => k1 (vgZ (g1S u j v), IntKind.i64.wrap ((j : Int) + 1)) (by unfold g1V; rw [if_pos c, if_pos e])
      have hno : decide ((u.toNat : Int) < 128) = true → putB (vgZ (g1S u j v)) ≠ a.take (j + 1) → K (.tup [.p (ii 0), .p (ii 0)]) s := fun c e => k1 (0, 0) (by unfold g1V; rw [if_pos c, if_neg e])
      clear h k1 hend hv hd hmin
      cases c3 : decide ((u.toNat : Int) < 128) with
      | false =>
        have hnx := hnext (by rw [c3]; decide)
        clear hyes hno hnext hput o1 hx hcu hla
        repeat' (first
          | (apply Br.t; · (first | rfl | (simp only [*] <;> rfl)))
          | (apply Br.f; · (first | rfl | (simp only [*] <;> rfl)))
          | refine Ob.mk (okst rfl rfl rfl) ?_
          | refine Ob.mk ew ?_
          | refine Idx.mk (.int .u8 (u.toNat : Int)) hn0 hg ?_
          | refine Br.mkT (fun c => ?_) (fun c => ?_)
          | refine Br.mkF (fun c => ?_) (fun c => ?_)
          | refine Br.mk (fun c => ?_) (fun c => ?_))
        refine ⟨(g1S u j v, j + 1), ⟨by show j + 1 ≤ (a.take 10).length; omega, hnx⟩, by show 10 - (j + 1) < 10 - j; have := of_decide_eq_true c2; omega, Nat.le_refl _, Trim.mk' ?_ rfl rfl rfl (Nat.le_refl _)⟩
        refine Eq.trans (b := [_, _, (5, AV.p (ii (IntKind.i64.wrap ((j : Int) + 1))))]) rfl ?_
        rw [ej]; rfl
      | true =>
        have hyes := hyes c3
        have hno := hno c3
        have hpz := fun K => hput (vgZ (g1S u j v)) K
        clear hnext hla hput
        cases c4 : (!(putB (vgZ (g1S u j v)) == a.take (j + 1))) with
        | true =>
          have := hno (by simpa using c4)
          clear hyes hno
          repeat' (first
            | refine Chk.mk (by kernel_rfl) ?_
            | (apply Br.t; · (first | rfl | (simp only [*] <;> rfl)))
            | (apply Br.f; · (first | rfl | (simp only [*] <;> rfl)))
            | refine ⟨_, ⟨rfl, rfl⟩, ?_⟩
            | refine ⟨_, _, ⟨rfl, rfl⟩, rfl, ?_⟩
            | refine Ob.mk ew ?_
            | refine Idx.mk (.int .u8 (u.toNat : Int)) hn0 hg ?_
            | refine .inr <| .inl ⟨[], _, _, _, _, hpz _ ⟨rfl, rfl⟩, rfl, rfl, rfl, ?_⟩
            | refine ⟨_, Ob.mk rfl (Ob.mk (.inr rfl) ⟨_, hcu _, ⟨rfl, rfl⟩⟩), ?_⟩
            | refine ⟨_, Ob.mk o1 ⟨rfl, rfl⟩, ?_⟩
            | refine ⟨_, Ob.mk (.inr rfl) ⟨_, hx, ⟨rfl, rfl⟩⟩, ?_⟩
            | exact this
            | refine ⟨_, Ob.mk (by decide) ⟨rfl, rfl⟩, ?_⟩
            | (refine ⟨_, Br.t ?_ ⟨rfl, rfl⟩, ?_⟩; · (first | rfl | (simp only [*] <;> rfl)))
            | (refine ⟨_, Br.f ?_ ⟨rfl, rfl⟩, ?_⟩; · (first | rfl | (simp only [*] <;> rfl)))
            | refine ⟨_, _, Ob.mk (okst rfl rfl rfl) ⟨rfl, rfl⟩, rfl, ?_⟩
            | refine Ob.mk (okst rfl rfl rfl) ?_
            | refine Ob.mk (by decide) ?_
            | refine Br.mkT (fun c => ?_) (fun c => ?_)
            | refine Br.mkF (fun c => ?_) (fun c => ?_)
            | refine Br.mk (fun c => ?_) (fun c => ?_))
        | false =>
          have := hyes (by simpa using c4)
          clear hyes hno
          repeat' (first
            | refine Chk.mk (by kernel_rfl) ?_
            | (apply Br.t; · (first | rfl | (simp only [*] <;> rfl)))
            | (apply Br.f; · (first | rfl | (simp only [*] <;> rfl)))
            | refine ⟨_, ⟨rfl, rfl⟩, ?_⟩
            | refine ⟨_, _, ⟨rfl, rfl⟩, rfl, ?_⟩
            | refine Ob.mk ew ?_
            | refine Idx.mk (.int .u8 (u.toNat : Int)) hn0 hg ?_
            | refine .inr <| .inl ⟨[], _, _, _, _, hpz _ ⟨rfl, rfl⟩, rfl, rfl, rfl, ?_⟩
            | refine ⟨_, Ob.mk rfl (Ob.mk (.inr rfl) ⟨_, hcu _, ⟨rfl, rfl⟩⟩), ?_⟩
            | refine ⟨_, Ob.mk o1 ⟨rfl, rfl⟩, ?_⟩
            | refine ⟨_, Ob.mk (.inr rfl) ⟨_, hx, ⟨rfl, rfl⟩⟩, ?_⟩
            | exact this
            | refine ⟨_, Ob.mk (by decide) ⟨rfl, rfl⟩, ?_⟩
            | (refine ⟨_, Br.t ?_ ⟨rfl, rfl⟩, ?_⟩; · (first | rfl | (simp only [*] <;> rfl)))
            | (refine ⟨_, Br.f ?_ ⟨rfl, rfl⟩, ?_⟩; · (first | rfl | (simp only [*] <;> rfl)))
            | refine ⟨_, _, Ob.mk (okst rfl rfl rfl) ⟨rfl, rfl⟩, rfl, ?_⟩
            | refine Ob.mk (okst rfl rfl rfl) ?_
            | refine Ob.mk (by decide) ?_
            | refine Br.mkT (fun c => ?_) (fun c => ?_)
            | refine Br.mkF (fun c => ?_) (fun c => ?_)
            | refine Br.mk (fun c => ?_) (fun c => ?_))
end Go.Proofs.YtjhgmaephpadpaaGreat.AW
