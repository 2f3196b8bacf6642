/- A part of the proof: LG/M13, LG/M14, LG/M15, LG/M16. -/
import Derived.Test.YtjhgmaephpadpaaGreatP17

open Go Go.Proofs.YtjhgmaephpadpaaGreat.AW Go.Proofs
namespace Go.Proofs.YtjhgmaephpadpaaGreat.AW
set_option maxRecDepth 100000
set_option linter.unusedSimpArgs false
set_option linter.unusedVariables false

/-! ### known -/
def kb : Bt := ⟨0, 1, 0, 5, false, 0, [([107], [])]⟩
def kb2 : Bt := ⟨0, 1, 0, 6, false, 0, List.replicate 16 ([], List.replicate 60 0)⟩
theorem pk1 : prodV 200 0 [] kb = ((0, 0), [kb]) := by kernel_rfl
theorem pk2 : prodV 200 0 [kb] kb = ((0, 0), [kb]) := by kernel_rfl
theorem pk3 : markV 200 0 [kb] 1 0 1 = ((-1, 16), [kb]) := by kernel_rfl
theorem pk5 : endW 0 [kb] = 1 := by kernel_rfl
theorem pk6 : kpS 0 [kb] (-1) = 0 := by kernel_rfl
theorem pk7 : kepL 0 [kb] = [kb] := by kernel_rfl
theorem pk8 : kpS 0 [kb] 9 = 1 := by kernel_rfl
theorem pk9 : kepL 1 [kb] = [] := by kernel_rfl
theorem pk4 : prodV 200 0 [kb] kb2 = ((-1, 17), [kb]) := by kernel_rfl
theorem kbR : rightV kb = 0 := by kernel_rfl
theorem kbC : RowC 0 [kb] := RowC.snoc [] kb .nil rfl kbR (by decide +kernel)
theorem frz2 {P : Program} {f : Nat} {a v : AV} {s : Store} {K : AV → Store → Prop} (h : toP s v fun p s' => Cal P f [a, .p p] s' K) : Cal P f [a, v] s K := by
  unfold Cal
  refine fun w g vs hinv hG hfresh hargs => ?_
  have c : Cx w g (getO s) s (fun _ => True) False := ⟨hinv, fun _ _ => rfl, fun hh => hh.elim⟩
  cases hargs with
  | cons _ x _ xs ha h1 =>
  cases h1 with
  | cons _ z _ zs hv h3 =>
  obtain ⟨p, s2, k1, fz, k3⟩ := toP_tree hv c (fun _ _ => trivial) h
  have hov : ovr (fun _ => True) s s2 (getO s) = getO s2 := by funext i; simp [ovr]
  have q1 := fz.inv; have q2 := fz.ext
  rw [hov] at q1 q2 k3
  unfold Cal at k1
  have hG2 := hG.ext q2
  refine (k1 w g _ q1 hG2 (fun id hid => by rw [fz.len]; exact hfresh id hid) (.cons _ _ _ _ (q2.repA ha) (.cons _ _ _ _ (.p _ _ k3) (by cases h3; exact .nil)))).mono fun e w' hpost => ?_
  obtain ⟨r, v, s', g', rfl, a1, a2, a3, a4, a5, a6⟩ := hpost
  exact ⟨r, v, s', g', rfl, a1, by have := fz.len; omega, a3, a4, q2.trans a5, fun id hid => by have := a6 id hid; rw [fz.len] at this; exact this⟩
def kR (k : SK) : PV := .agg [ii 0, ii 1, ii 0, ii 5, .bool false, ii 0, .sl k 2 [.agg [.str [107], .str []]]]
theorem wk_kR : WkD (kR .clip) kb.pv := .agg _ _ (.cons _ _ _ _ (.refl _) (.cons _ _ _ _ (.refl _) (.cons _ _ _ _ (.refl _) (.cons _ _ _ _ (.refl _) (.cons _ _ _ _ (.refl _) (.cons _ _ _ _ (.refl _) (.cons _ _ _ _ (.sl .clip 2 _ _ rfl (fun y hy => by rw [List.mem_singleton.1 hy]; exact ⟨rfl, rfl⟩) (wkds_refl _)) .nil)))))))
theorem kb_small : kb.small := ⟨by decide, fun _ _ => trivial⟩
theorem kb2_small : kb2.small := ⟨by decide, fun _ _ => trivial⟩
theorem kp1 (K : AV → Store → Prop) (h : K (i2 (0, 0)) (lgS 0 0 0 200 0 [kb])) : Cal Tryz.prog 12 [.ref 0 0, .p (kR .clip)] (lgS 0 0 0 200 0 []) K :=
  Cal.argsD (args' := [.ref 0 0, .p kb.pv]) (lprod_c 0 0 0 200 0 [] (by decide) .nil (by decide) kb kb_small K (by rw [pk1]; exact h)) ⟨.inl rfl, .inr ⟨_, _, rfl, rfl, wk_kR⟩, trivial⟩
theorem kp2 (K : AV → Store → Prop) (h : K (i2 (0, 0)) (lgS 0 0 0 200 0 [kb])) : Cal Tryz.prog 12 [.ref 0 0, .p (kR .clip)] (lgS 0 0 0 200 0 [kb]) K :=
  Cal.argsD (args' := [.ref 0 0, .p kb.pv]) (lprod_c 0 0 0 200 0 [kb] (by decide) kbC (by decide) kb kb_small K (by rw [pk2]; exact h)) ⟨.inl rfl, .inr ⟨_, _, rfl, rfl, wk_kR⟩, trivial⟩
theorem kp3 (K : AV → Store → Prop) (h : K (i2 (-1, 16)) (lgS 0 0 0 200 0 [kb])) : Cal Tryz.prog 10 [.ref 0 0, .p (ii 1), .p (ii 0), .p (ii 1)] (lgS 0 0 0 200 0 [kb]) K :=
  lmark_c 0 0 0 200 0 [kb] (by decide) kbC (by decide) (by decide) 1 0 1 K (by rw [pk3]; exact h)
theorem kp4 (K : AV → Store → Prop) (h : K (i2 (-1, 17)) (lgS 0 0 0 200 0 [kb])) : Cal Tryz.prog 12 [.ref 0 0, .p kb2.pv] (lgS 0 0 0 200 0 [kb]) K :=
  lprod_c 0 0 0 200 0 [kb] (by decide) kbC (by decide) kb2 kb2_small K (by rw [pk4]; exact h)
theorem kb_all : ∀ b, b ∈ [kb] → b.small := fun b hb => by rw [List.mem_singleton.1 hb]; exact kb_small
theorem kb_rec : ∀ b, b ∈ [kb] → b.recs.length ≤ 1000000000 := fun b hb => by rw [List.mem_singleton.1 hb]; decide
theorem kp6 (K : AV → Store → Prop) (h : K (.p (ii 0)) (lgK 0 0 0 200 0 [kb] [kb])) : Cal Tryz.prog 25 [.ref 0 0, .p (ii (-1))] (lgS 0 0 0 200 0 [kb]) K :=
  lkeep_c 0 0 0 200 0 [kb] (by decide) kb_all kb_rec (-1) K (by rw [pk6, pk7]; exact h)
theorem kp8 (K : AV → Store → Prop) (h : K (.p (ii 1)) (lgK 0 0 0 200 1 [kb] [])) : Cal Tryz.prog 25 [.ref 0 0, .p (ii 9)] (lgS 0 0 0 200 0 [kb]) K :=
  lkeep_c 0 0 0 200 0 [kb] (by decide) kb_all kb_rec 9 K (by rw [pk8, pk9]; exact h)
theorem kend (K : AV → Store → Prop) (h : K (.p (ii 1)) (lgS 0 0 0 200 0 [kb])) : Cal Tryz.prog 14 [.ref 0 0] (lgS 0 0 0 200 0 [kb]) K :=
  lend_c 0 0 0 200 0 [kb] (by decide) K (by rw [pk5]; exact h)
def zR : PV := .agg [.str [], .str []]
def fR : PV := .agg [.str [], .str (List.replicate 60 0)]
def kX (j : Nat) : List PV := List.replicate j fR ++ List.replicate (16 - j) zR
def knS (j : Nat) : Store := [lcC 0 0 0 200 0 [kb] 1 3 (sizeS [kb]), bufR [kb], mpC [kb], some (.cells [.map 2]), some (.cells [.p (ii 0), .p (ii 1), .p (ii 0), .p (ii 6), .p (.bool false), .p (ii 0), .osl 5 16 0 16]), some (.buf 2 (kX j))]
theorem kX_len {j : Nat} (h : j ≤ 16) : (kX j).length = 16 := by unfold kX; rw [List.length_append, List.length_replicate, List.length_replicate]; omega
theorem kX_at {j : Nat} (h : j < 16) : (kX j)[j]? = some zR := by
  unfold kX; rw [List.getElem?_append_right (by simp), List.length_replicate, Nat.sub_self, List.getElem?_replicate, if_pos (by omega)]
theorem kX_set {j : Nat} (h : j < 16) : (kX j).set j fR = kX (j + 1) := by
  unfold kX
  rw [List.set_append_right _ _ (by simp), List.length_replicate, Nat.sub_self, show 16 - j = (16 - (j + 1)) + 1 by omega, List.replicate_succ, List.set_cons_zero, show List.replicate (j + 1) fR = List.replicate j fR ++ [fR] by rw [List.replicate_succ']]
  rw [List.append_assoc]; rfl
set_option maxHeartbeats 16000000 in
theorem known15_c (s : Store) (K : AV → Store → Prop) (h : K (.p (.bool true)) s) : Cal Tryz.prog 17 [] s K := by
  refine Cal.pure (args := []) ?_
  refine Cal.intro Tryz.func17 (by decide +kernel) rfl rfl ?_
  refine Cal.frameK [] (new_c 0 0 0 200 _ fun _ => ?_) rfl rfl rfl
  refine Br.f rfl ?_
  refine Ob.mk (okst rfl rfl rfl) ?_
  refine Cal.frameK [0, 1, 2, 3] (kp1 _ fun _ => ?_) rfl rfl rfl
  refine Cal.frameK [0, 1, 2, 3] (kp2 _ fun _ => ?_) rfl rfl rfl
  refine Cal.frameK [0, 1, 2, 3] (kp3 _ fun _ => ?_) rfl rfl rfl
  refine Cal.frameK [0, 1, 2, 3] (lraw0_c 0 0 0 200 0 [kb] _ fun _ => ?_) rfl rfl rfl
  repeat' (first
    | refine Chk.mk (by kernel_rfl) ?_
    | (apply Br.t; · (first | rfl | (simp only [*] <;> rfl)))
    | (apply Br.f; · (first | rfl | (simp only [*] <;> rfl)))
    | refine ⟨_, ⟨rfl, rfl⟩, ?_⟩
    | refine ⟨_, _, ⟨rfl, rfl⟩, rfl, ?_⟩
    | refine ⟨_, _, Ob.mk ⟨(by decide : (0 : Int) ≤ 16), rfl, (by decide : (16 : Int) * 32 ≤ 140737488355328), (by decide : (16 : Int) < 9223372036854775808)⟩ ⟨rfl, rfl⟩, rfl, ?_⟩
    | refine ⟨_, Ob.mk (by decide) ⟨rfl, rfl⟩, ?_⟩
    | (refine ⟨_, Br.t ?_ ⟨rfl, rfl⟩, ?_⟩; · (first | rfl | (simp only [*] <;> rfl)))
    | (refine ⟨_, Br.f ?_ ⟨rfl, rfl⟩, ?_⟩; · (first | rfl | (simp only [*] <;> rfl)))
    | refine ⟨_, _, Ob.mk (okst rfl rfl rfl) ⟨rfl, rfl⟩, rfl, ?_⟩
    | refine Ob.mk (okst rfl rfl rfl) ?_
    | refine Ob.mk (by decide) ?_
    | refine Br.mkT (fun c => ?_) (fun c => ?_)
    | refine Br.mkF (fun c => ?_) (fun c => ?_)
    | refine Br.mk (fun c => ?_) (fun c => ?_))
  refine LoopX.fam [1, 2, 3, 4, 5, 6, 8, 10, 47, 48, 49] (fun (j : Nat) => ([(1, .ref 0 0), (2, .ref 4 0), (3, .p (ii 0)), (4, .p (ii 0)), (5, .p (ii 0)), (6, .p (ii 0)), (8, .p (ii 16)), (10, .p (ii 12)), (47, .osl 5 16 0 16), (48, .p (ii 16)), (49, .p (ii (j : Nat)))], knS j))
    (fun j => j ≤ 16) (fun j => 16 - j) 0 (Nat.zero_le _) (Trim.mk' ?_ ?_ ?_ ?_ ?_) ?_
  · rfl
  · rfl
  · rfl
  · rfl
  · exact Nat.le_refl _
  intro j hj
  have hj : j ≤ 16 := hj
  refine Br.mk (fun hc => ?_) (fun hc => ?_)
  · have hc : (j : Int) < (16 : Nat) := of_decide_eq_true hc
    have hj1 : j < 16 := by omega
    have ej : IntKind.i64.wrap ((j : Int) + 1) = ((j + 1 : Nat) : Int) := by rw [wrap_i64] <;> omega
    have hkl := kX_len hj
    have hga : (kX j)[((0 + ((j : Nat) : Int).toNat : Nat) : Int).toNat]? = some zR := by rw [Nat.zero_add, Int.toNat_natCast, Int.toNat_natCast]; exact kX_at hj1
    have hj0 : (0 : Int) ≤ (j : Int) := Int.natCast_nonneg _
    repeat' (first
      | refine Chk.mk (by kernel_rfl) ?_
      | (apply Br.t; · (first | rfl | (simp only [*] <;> rfl)))
      | (apply Br.f; · (first | rfl | (simp only [*] <;> rfl)))
      | refine ⟨_, ⟨rfl, rfl⟩, ?_⟩
      | refine ⟨_, _, ⟨rfl, rfl⟩, rfl, ?_⟩
      | refine ⟨_, _, Ob.mk ⟨(by decide : (0 : Int) ≤ 60), rfl, (by decide : (60 : Int) * 1 ≤ 140737488355328), (by decide : (60 : Int) < 9223372036854775808)⟩ ⟨rfl, rfl⟩, rfl, ?_⟩
      | refine ⟨_, Ob.mk rfl (Ob.mk (.inr rfl) ⟨List.replicate 60 0, by kernel_rfl, ⟨rfl, rfl⟩⟩), ?_⟩
      | refine ⟨_, Ob.mk ⟨hkl, hj0, hc⟩ ⟨rfl, rfl⟩, ?_⟩
      | refine ⟨_, _, Ob.mk ⟨hkl, (by decide : 1 + 1 ≤ 2)⟩ (Idx.mk zR (Int.natCast_nonneg _) hga ⟨rfl, rfl⟩), rfl, ?_⟩
      | refine ⟨_, Ob.mk (by decide) ⟨rfl, rfl⟩, ?_⟩
      | (refine ⟨_, Br.t ?_ ⟨rfl, rfl⟩, ?_⟩; · (first | rfl | (simp only [*] <;> rfl)))
      | (refine ⟨_, Br.f ?_ ⟨rfl, rfl⟩, ?_⟩; · (first | rfl | (simp only [*] <;> rfl)))
      | refine ⟨_, _, Ob.mk (okst rfl rfl rfl) ⟨rfl, rfl⟩, rfl, ?_⟩
      | refine Ob.mk (okst rfl rfl rfl) ?_
      | refine Ob.mk (by decide) ?_
      | refine Br.mkT (fun c => ?_) (fun c => ?_)
      | refine Br.mkF (fun c => ?_) (fun c => ?_)
      | refine Br.mk (fun c => ?_) (fun c => ?_))
    refine ⟨j + 1, hj1, by show 16 - (j + 1) < 16 - j; omega, Nat.le_refl _, Trim.mk' ?_ ?_ rfl rfl (show 6 ≤ 7 by decide)⟩
    · refine Eq.trans (b := [_, _, _, _, _, _, _, _, _, _, (49, AV.p (ii (IntKind.i64.wrap ((j : Int) + 1))))]) rfl ?_
      rw [ej]; rfl
    · refine Eq.trans (b := [_, _, _, _, _, some (.buf 2 ((kX j).set (0 + ((j : Nat) : Int).toNat) fR))]) rfl ?_
      rw [Nat.zero_add, Int.toNat_natCast, kX_set hj1]; rfl
  · have hc : ¬ (j : Int) < (16 : Nat) := of_decide_eq_false hc
    have : j = 16 := by omega
    subst this
    clear hc hj
    refine frz2 ?_
    refine Ob.mk rfl ?_
    refine Cal.frameK [0, 1, 2, 3] (kp4 _ fun _ => ?_) rfl rfl rfl
    repeat' (first
      | (apply Br.t; · (first | rfl | (simp only [*] <;> rfl)))
      | (apply Br.f; · (first | rfl | (simp only [*] <;> rfl)))
      | refine Ob.mk (okst rfl rfl rfl) ?_
      | refine Cal.frameK [0, 1, 2, 3] (kend _ fun _ => ?_) rfl rfl rfl
      | refine Cal.frameK [0, 1, 2, 3] (lbats_c 0 0 0 200 0 [kb] (by decide) kb_rec _ fun _ => ?_) rfl rfl rfl
      | refine Cal.frameK [0, 1, 2, 3] (kp6 _ fun _ => ?_) rfl rfl rfl
      | refine Cal.frameK [0, 6, 7, 8] (kp8 _ fun _ => ?_) rfl rfl rfl
      | refine Cal.frameK [0, 9, 10, 11] (lstart_c 0 0 0 200 1 [] _ fun _ => ?_) rfl rfl rfl
      | refine Cal.frameK [0, 9, 10, 11] (lprods_c 0 0 0 200 1 [] (by decide) _ fun _ => ?_) rfl rfl rfl
      | exact h
      | refine Br.mkT (fun c => ?_) (fun c => ?_)
      | refine Br.mkF (fun c => ?_) (fun c => ?_)
      | refine Br.mk (fun c => ?_) (fun c => ?_))
end Go.Proofs.YtjhgmaephpadpaaGreat.AW


open Go Go.Proofs.YtjhgmaephpadpaaGreat.AW Go.Proofs
namespace Go.Proofs.YtjhgmaephpadpaaGreat.AW
set_option maxRecDepth 100000
set_option linter.unusedSimpArgs false
set_option linter.unusedVariables false

/-! ### ModelOnce -/
def onS (L M : List Bt) (l : List Int) (a i : Nat) : Store := [lcC 0 0 0 1073741824 0 L 1 3 (sizeS L), bufR L, mpC L, some (.cells [.map 2]), mcv i 1073741824 0 M, tp l a]
def onT (L M : List Bt) (l : List Int) (a : Nat) : Store := [lcC 0 0 0 1073741824 0 L 1 3 (sizeS L), bufR L, mpC L, some (.cells [.map 2]), mC 1073741824 0 M, tp l a]
def oP (L M : List Bt) (l : List Int) (a i : Nat) (p : Pr) : Store := [lcC 0 0 0 1073741824 0 L 1 3 (sizeS L), bufR L, mpC L, some (.cells [.map 2]), mcv i 1073741824 0 M, tp l a, pCells p]
def oX (L M : List Bt) (l : List Int) (a i : Nat) (p : Pr) (x : Tri) : Store := [lcC 0 0 0 1073741824 0 L 1 3 (sizeS L), bufR L, mpC L, some (.cells [.map 2]), mcv i 1073741824 0 M, tp l a, pCells p, some (.cells [.p (ii x.1), .p (ii x.2.1), .p (ii x.2.2)])]
theorem RowOk.recs {st : Int} {L : List Bt} (h : RowOk st L) : ∀ b, b ∈ L → b.recs.length ≤ 1000000000 := fun b hb => by have := (h.tiny b hb).1; omega
theorem RowOk.smalls {st : Int} {L : List Bt} (h : RowOk st L) : ∀ b, b ∈ L → b.small := fun b hb => (h.tiny b hb).small
theorem once_add {cap : Int} {L : List Bt} {b : Bt} (hL : RowOk 0 L) (hb : ¬ b.prod < 0) (h : (prodV cap 0 L b).1.2 = 0) : prodV cap 0 (prodV cap 0 L b).2 b = ((prodV cap 0 L b).1, (prodV cap 0 L b).2) :=
  once1 hL.c (last_pos hL.c (by decide)) (by decide) (by omega) h
attribute [local irreducible] prodV markV in
set_option maxHeartbeats 16000000 in
theorem once_c (l : List Int) (hl : l.length ≤ 9223372036854775807) (s : Store) (K : AV → Store → Prop) (h : K (.p (.bool true)) s) : Cal Tryz.prog 3 [.p (kl l)] s K := by
  refine Cal.pure (args := [kl l]) ?_
  refine Cal.intro Tryz.func3 (by decide +kernel) rfl rfl ?_
  refine Cal.frameK [] (new_c 0 0 0 1073741824 _ fun _ => ?_) rfl rfl rfl
  refine Br.f rfl ?_
  refine LoopX.fam [3, 4, 5, 6] (fun (q : (List Bt × List Bt) × Nat × Nat) => ([(3, .ref 0 0), (4, .ref 4 0), (5, .ref 5 0), (6, .p (ii (q.2.2 : Nat)))], onS q.1.1 q.1.2 l q.2.1 q.2.2))
    (fun q => (RowOk 0 q.1.1 ∧ RowOk 0 q.1.2) ∧ (q.1.1.length ≤ q.2.2 ∧ q.1.2.length ≤ q.2.2) ∧ q.2.1 ≤ l.length ∧ q.2.2 ≤ 30) (fun q => 30 - q.2.2) (([], []), 0, 0) ⟨⟨.nil, .nil⟩, ⟨Nat.le_refl _, Nat.le_refl _⟩, Nat.zero_le _, Nat.zero_le _⟩ (Trim.mk' rfl rfl rfl rfl (Nat.le_refl _)) ?_
  rintro ⟨⟨L, M⟩, a, i⟩ ⟨⟨hr, hm⟩, ⟨hL, hM⟩, ha, hi⟩
  have hr : RowOk 0 L := hr
  have hm : RowOk 0 M := hm
  have hL : L.length ≤ i := hL
  have hM : M.length ≤ i := hM
  have ha : a ≤ l.length := ha
  have hi : i ≤ 30 := hi
  have h0 : i = 0 → M = [] := fun e => List.eq_nil_of_length_eq_zero (by omega)
  have hwl : WkL [.p (ii 1073741824), .p (ii 0), .p (rv i M)] [.p (ii 1073741824), .p (ii 0), .p (rowP M)] := ⟨.inl rfl, .inl rfl, .inr ⟨_, _, rfl, rfl, wk_rv i M h0⟩, trivial⟩
  have hask : ∀ K, (∀ (b : Bt) (a' : Nat), tinyR b.recs → a' ≤ l.length → K (.p b.pv) [tp l a', mC 1073741824 0 M]) → Cal Tryz.prog 9 [.ref 0 0, .ref 1 0] [tp l a, mcv i 1073741824 0 M] K := fun K hk =>
    Cal.tellIn 1 rfl hwl (ask_c l a hl ha 1073741824 0 M (by omega) hm.smalls K hk)
  refine Br.mk (fun hc => ?_) (fun hc => ?_)
  · have hc : (i : Int) < 30 := of_decide_eq_true hc
    have ei : IntKind.i64.wrap (((i : Nat) : Int) + 1) = ((i + 1 : Nat) : Int) := by rw [wrap_i64] <;> omega
    refine Cal.frameK [5, 4] (hask _ fun b a' hb ha' _ => ?_) rfl rfl rfl
    refine Ob.mk (okst rfl rfl rfl) ?_
    refine Br.mk (fun hmk => ?_) (fun hmk => ?_)
    · refine Cal.frameK [0, 1, 2, 3] (lmark_c 0 0 0 1073741824 0 L (by omega) hr.c (by decide) (by decide) b.prod b.epoch b.mark _ fun _ => ?_) rfl rfl rfl
      refine Cal.frameK [4] (mmark_c 1073741824 0 M (by omega) hm.smalls b.prod b.epoch b.mark _ fun _ => ?_) rfl rfl rfl
      obtain ⟨m1, m2⟩ := hr.mark (cap := 1073741824) b.prod b.epoch b.mark
      obtain ⟨m3, m4⟩ := hm.mark (cap := 1073741824) b.prod b.epoch b.mark
      refine ⟨(((markV 1073741824 0 L b.prod b.epoch b.mark).2, (markV 1073741824 0 M b.prod b.epoch b.mark).2), a', i + 1), ⟨⟨m1, m3⟩, ⟨by show (markV 1073741824 0 L b.prod b.epoch b.mark).2.length ≤ i + 1; omega, by show (markV 1073741824 0 M b.prod b.epoch b.mark).2.length ≤ i + 1; omega⟩, ha', by show i + 1 ≤ 30; omega⟩, by show 30 - (i + 1) < 30 - i; omega, Nat.le_refl _, Trim.mk' ?_ rfl rfl rfl (show 6 ≤ 7 by decide)⟩
      refine Eq.trans (b := [_, _, _, (6, AV.p (ii (IntKind.i64.wrap (((i : Nat) : Int) + 1))))]) rfl ?_
      rw [ei]; rfl
    · refine Cal.frameK [0, 1, 2, 3] (lprod_c 0 0 0 1073741824 0 L (by omega) hr.c (by decide) b hb.small _ fun _ => ?_) rfl rfl rfl
      refine Cal.frameK [4] (mprod_c 1073741824 0 M (by omega) hm.smalls b hb.small _ fun _ => ?_) rfl rfl rfl
      obtain ⟨m1, m2⟩ := hr.prod (cap := 1073741824) hb
      obtain ⟨m3, m4⟩ := hm.prod (cap := 1073741824) hb
      have hon := fun h1 h2 => once_add (cap := 1073741824) (b := b) hr h1 h2
      generalize prodV 1073741824 0 M b = r2 at m3 m4 ⊢
      generalize prodV 1073741824 0 L b = r at m1 m2 hon ⊢
      obtain ⟨⟨n, e⟩, L'⟩ := r
      obtain ⟨q2, M'⟩ := r2
      have m1 : RowOk 0 L' := m1
      have m2 : L'.length ≤ L.length + 1 := m2
      have m3 : RowOk 0 M' := m3
      have m4 : M'.length ≤ M.length + 1 := m4
      have hnx : (RowOk 0 L' ∧ RowOk 0 M') ∧ (L'.length ≤ i + 1 ∧ M'.length ≤ i + 1) ∧ a' ≤ l.length ∧ i + 1 ≤ 30 := ⟨⟨m1, m3⟩, ⟨by omega, by omega⟩, ha', by omega⟩
      have hms : 30 - (i + 1) < 30 - i := by omega
      clear hc hL hM hi h0 hwl hask ha h
      cases k1 : (e != 0) with
      | true =>
        clear m2 m4 hon
        repeat' (first
          | (apply Br.t; · (first | rfl | (simp only [*] <;> rfl)))
          | (apply Br.f; · (first | rfl | (simp only [*] <;> rfl)))
          | refine Ob.mk (okst rfl rfl rfl) ?_
          | refine Br.mkT (fun c => ?_) (fun c => ?_)
          | refine Br.mkF (fun c => ?_) (fun c => ?_)
          | refine Br.mk (fun c => ?_) (fun c => ?_))
        refine ⟨((L', M'), a', i + 1), hnx, hms, Nat.le_refl _, Trim.mk' ?_ rfl rfl rfl (show 6 ≤ 7 by decide)⟩
        refine Eq.trans (b := [_, _, _, (6, AV.p (ii (IntKind.i64.wrap (((i : Nat) : Int) + 1))))]) rfl ?_
        rw [ei]; rfl
      | false =>
        cases k2 : decide (b.prod < 0) with
        | true =>
          clear m2 m4 hon
          repeat' (first
            | (apply Br.t; · (first | rfl | (simp only [*] <;> rfl)))
            | (apply Br.f; · (first | rfl | (simp only [*] <;> rfl)))
            | refine Ob.mk (okst rfl rfl rfl) ?_
            | refine Br.mkT (fun c => ?_) (fun c => ?_)
            | refine Br.mkF (fun c => ?_) (fun c => ?_)
            | refine Br.mk (fun c => ?_) (fun c => ?_))
          refine ⟨((L', M'), a', i + 1), hnx, hms, Nat.le_refl _, Trim.mk' ?_ rfl rfl rfl (show 6 ≤ 7 by decide)⟩
          refine Eq.trans (b := [_, _, _, (6, AV.p (ii (IntKind.i64.wrap (((i : Nat) : Int) + 1))))]) rfl ?_
          rw [ei]; rfl
        | false =>
          have hlen : L'.length + 1 ≤ 1000000000 := by have := hnx.2.1.1; have := hnx.2.2.2; omega
          have hon : prodV 1073741824 0 L' b = ((n, e), L') := hon (of_decide_eq_false k2) (by simpa using k1)
          have hp2 : ∀ K, K (i2 (n, e)) (lgS 0 0 0 1073741824 0 L') → Cal Tryz.prog 12 [.ref 0 0, .p b.pv] (lgS 0 0 0 1073741824 0 L') K := fun K hK =>
            lprod_c 0 0 0 1073741824 0 L' hlen m1.c (by decide) b hb.small K (by rw [hon]; exact hK)
          have hen := fun K => lend_c 0 0 0 1073741824 0 L' (by omega) K
          generalize endW 0 L' = en at hen
          have t1 : (n != n) = false := by simp
          have t2 : (en != en) = false := by simp
          clear m2 m4 hon hlen
          repeat' (first
            | (apply Br.t; · (first | rfl | (simp only [*] <;> rfl)))
            | (apply Br.f; · (first | rfl | (simp only [*] <;> rfl)))
            | refine Ob.mk (okst rfl rfl rfl) ?_
            | refine Cal.frameK [0, 1, 2, 3] (hen _ fun _ => ?_) rfl rfl rfl
            | refine Cal.frameK [0, 1, 2, 3] (hp2 _ fun _ => ?_) rfl rfl rfl
            | refine Br.mkT (fun c => ?_) (fun c => ?_)
            | refine Br.mkF (fun c => ?_) (fun c => ?_)
            | refine Br.mk (fun c => ?_) (fun c => ?_))
          refine ⟨((L', M'), a', i + 1), hnx, hms, Nat.le_refl _, Trim.mk' ?_ rfl rfl rfl (show 6 ≤ 7 by decide)⟩
          refine Eq.trans (b := [_, _, _, (6, AV.p (ii (IntKind.i64.wrap (((i : Nat) : Int) + 1))))]) rfl ?_
          rw [ei]; rfl
  · have hpb : ∀ K, K (.p (rowP L)) (lgS 0 0 0 1073741824 0 L) → Cal Tryz.prog 16 [.ref 0 0] (lgS 0 0 0 1073741824 0 L) K := fun K hK => lbats_c 0 0 0 1073741824 0 L (by omega) hr.recs K hK
    have hen := fun K => lend_c 0 0 0 1073741824 0 L (by omega) K
    have hp : ∀ b, b.small → ∀ K, K (i2 (prodV 1073741824 0 L b).1) (lgS 0 0 0 1073741824 0 (prodV 1073741824 0 L b).2) → Cal Tryz.prog 12 [.ref 0 0, .p b.pv] (lgS 0 0 0 1073741824 0 L) K := fun b hb K hK =>
      lprod_c 0 0 0 1073741824 0 L (by omega) hr.c (by decide) b hb K hK
    have hon := fun (p : Pr) (x : Tri) (b : Bt) hp hx hb hbx => once2 (cap := 1073741824) hr (by decide) (by decide) (p := p) (x := x) (b := b) hp hx hb hbx
    have hpl : ∀ p, p ∈ (dFold L).1 → p.last.length ≤ 1000000000 := (dFold_inv L).1
    have hfl : (dFold L).1.length ≤ L.length := (dFold_inv L).2.1
    refine Cal.frameK [0, 1, 2, 3] (lprods_c 0 0 0 1073741824 0 L (by omega) _ fun _ => ?_) rfl rfl rfl
    generalize (dFold L).1 = P at hon hpl hfl ⊢
    have hsm := hr.smalls
    have hLl : L.length ≤ 1000000000 := by omega
    clear hask hwl h0 hm hM ha hi hL hc hr
    have hN : ∀ j M : Nat, j < M → M ≤ 1000000000 → IntKind.i64.wrap (((j : Nat) : Int) + 1) = ((j + 1 : Nat) : Int) := fun j M h1 h2 => by rw [wrap_i64] <;> omega
    have hPl : P.length ≤ 1000000000 := by omega
    clear hfl
    refine LoopX.fam [3, 95, 96, 97] (fun (j : Nat) => ([(3, .ref 0 0), (95, .p (prsC P)), (96, .p (ii (P.map Pr.pv).length)), (97, .p (ii (j : Nat)))], onS L M l a i))
      (fun j => j ≤ P.length) (fun j => P.length - j) 0 (Nat.zero_le _) (Trim.mk' rfl rfl rfl rfl (Nat.le_refl _)) ?_
    intro j hj
    have hj : j ≤ P.length := hj
    refine Br.mk (fun hc => ?_) (fun hc => ?_)
    · have hj1 : j < P.length := by have hc : (j : Int) < ((P.map Pr.pv).length : Nat) := of_decide_eq_true hc; rw [List.length_map] at hc; omega
      have ej := hN j P.length hj1 hPl
      have hpm : P[j] ∈ P := List.getElem_mem hj1
      refine Idx.mk _ (Int.natCast_nonneg _) (getP hj1) ?_
      generalize P[j] = p at hpm
      refine Ob.mk (okst rfl rfl rfl) ?_
      have hlst := hpl p hpm
      refine LoopX.fam [3, 95, 96, 97, 102, 103, 104] (fun (k : Nat) => ([(3, .ref 0 0), (95, .p (prsC P)), (96, .p (ii (P.map Pr.pv).length)), (97, .p (ii (j : Nat))), (102, .p (lsP p.last)), (103, .p (ii (p.last.map tri).length)), (104, .p (ii (k : Nat)))], oP L M l a i p))
        (fun k => k ≤ p.last.length) (fun k => p.last.length - k) 0 (Nat.zero_le _) (Trim.mk' rfl rfl rfl rfl (Nat.le_refl _)) ?_
      intro k hk
      have hk : k ≤ p.last.length := hk
      refine Br.mk (fun hc => ?_) (fun hc => ?_)
      · have hk1 : k < p.last.length := by have hc : (k : Int) < ((p.last.map tri).length : Nat) := of_decide_eq_true hc; rw [List.length_map] at hc; omega
        have ek := hN k p.last.length hk1 hlst
        have hxm : p.last[k] ∈ p.last := List.getElem_mem hk1
        refine Idx.mk _ (Int.natCast_nonneg _) (getT hk1) ?_
        generalize p.last[k] = x at hxm
        refine Or.inl ?_
        refine Ob.mk (okst rfl rfl rfl) ?_
        refine Cal.frameK [0, 1, 2, 3] (hpb _ fun _ => ?_) rfl rfl rfl
        refine LoopX.fam [3, 95, 96, 97, 102, 103, 104, 16, 109, 110, 111] (fun (m : Nat) => ([(3, .ref 0 0), (95, .p (prsC P)), (96, .p (ii (P.map Pr.pv).length)), (97, .p (ii (j : Nat))), (102, .p (lsP p.last)), (103, .p (ii (p.last.map tri).length)), (104, .p (ii (k : Nat))), (16, .ref 7 0), (109, .p (rowP L)), (110, .p (ii (L.map Bt.pv).length)), (111, .p (ii (m : Nat)))], oX L M l a i p x))
          (fun m => m ≤ L.length) (fun m => L.length - m) 0 (Nat.zero_le _) (Trim.mk' rfl rfl rfl rfl (Nat.le_refl _)) ?_
        intro m hm
        have hm : m ≤ L.length := hm
        refine Br.mk (fun hc => ?_) (fun hc => ?_)
        · have hm1 : m < L.length := by have hc : (m : Int) < ((L.map Bt.pv).length : Nat) := of_decide_eq_true hc; rw [List.length_map] at hc; omega
          have em := hN m L.length hm1 hLl
          have hbm : L[m] ∈ L := List.getElem_mem hm1
          refine Idx.mk _ (Int.natCast_nonneg _) (getL hm1) ?_
          generalize L[m] = b at hbm
          refine Ob.mk (okst rfl rfl rfl) ?_
          refine Ob.mk (by decide) ?_
          refine Br.mk (fun hc => ?_) (fun hc => ?_)
          · have hbx : b.base = x.2.2 := by simpa using hc
            have hpp := hp b (hsm b hbm)
            rw [hon p x b hpm hxm hbm hbx] at hpp
            generalize endW 0 L = en at hen
            have t2 : (en != en) = false := by simp
            have t1 : (x.2.2 != x.2.2) = false := by simp
            clear hon hp hsm hpl hpm hxm hbm hc hPl hLl hN hpb
            repeat' (first
              | (apply Br.t; · (first | rfl | (simp only [*] <;> rfl)))
              | (apply Br.f; · (first | rfl | (simp only [*] <;> rfl)))
              | refine Ob.mk (okst rfl rfl rfl) ?_
              | refine Cal.frameK [0, 1, 2, 3] (hen _ fun _ => ?_) rfl rfl rfl
              | refine Cal.frameK [0, 1, 2, 3] (hpp _ fun _ => ?_) rfl rfl rfl
              | refine Ob.mk (by decide) ?_
              | refine Br.mkT (fun c => ?_) (fun c => ?_)
              | refine Br.mkF (fun c => ?_) (fun c => ?_)
              | refine Br.mk (fun c => ?_) (fun c => ?_))
            refine ⟨m + 1, hm1, by show L.length - (m + 1) < L.length - m; omega, Nat.le_refl _, Trim.mk' ?_ rfl rfl rfl (show 8 ≤ 9 by decide)⟩
            refine Eq.trans (b := [_, _, _, _, _, _, _, _, _, _, (111, AV.p (ii (IntKind.i64.wrap (((m : Nat) : Int) + 1))))]) rfl ?_
            rw [em]; rfl
          · refine ⟨m + 1, hm1, by show L.length - (m + 1) < L.length - m; omega, Nat.le_refl _, Trim.mk' ?_ rfl rfl rfl (show 8 ≤ 9 by decide)⟩
            refine Eq.trans (b := [_, _, _, _, _, _, _, _, _, _, (111, AV.p (ii (IntKind.i64.wrap (((m : Nat) : Int) + 1))))]) rfl ?_
            rw [em]; rfl
        · refine ⟨k + 1, hk1, by show p.last.length - (k + 1) < p.last.length - k; omega, Nat.le_refl _, Trim.mk' ?_ rfl rfl rfl (show 7 ≤ 8 by decide)⟩
          refine Eq.trans (b := [_, _, _, _, _, _, (104, AV.p (ii (IntKind.i64.wrap (((k : Nat) : Int) + 1))))]) rfl ?_
          rw [ek]; rfl
      · refine ⟨j + 1, hj1, by show P.length - (j + 1) < P.length - j; omega, Nat.le_refl _, Trim.mk' ?_ rfl rfl rfl (show 6 ≤ 7 by decide)⟩
        refine Eq.trans (b := [_, _, _, (97, AV.p (ii (IntKind.i64.wrap (((j : Nat) : Int) + 1))))]) rfl ?_
        rw [ej]; rfl
    · refine known15_c _ _ ?_
      exact h
end Go.Proofs.YtjhgmaephpadpaaGreat.AW


open Go Go.Proofs.YtjhgmaephpadpaaGreat.AW Go.Proofs
namespace Go.Proofs.YtjhgmaephpadpaaGreat.AW
set_option maxRecDepth 100000
set_option linter.unusedSimpArgs false
set_option linter.unusedVariables false

/-! ### Within of any bounds -/
set_option maxHeartbeats 4000000 in
theorem withinI_c (n lo hi : Int) (h0 : 0 ≤ lo) (h1 : lo ≤ hi) (h2 : hi ≤ 1073741824) (s : Store) (K : AV → Store → Prop) (h : ∀ m, lo ≤ m → m ≤ hi → K (.p (ii m)) s) : Cal Tryz.prog 18 [.p (ii n), .p (ii lo), .p (ii hi)] s K := by
  refine Cal.pure (args := [ii n, ii lo, ii hi]) ?_
  refine Cal.intro Tryz.func18 (by decide +kernel) rfl rfl ?_
  have e1 : IntKind.i64.wrap (IntKind.i64.wrap (hi - lo) + 1) = hi - lo + 1 := by simp only [IntKind.wrap_i64]; omega
  have hlo : -(hi - lo + 1) < n.tmod (hi - lo + 1) := by
    rcases Int.le_total 0 n with h | h
    · have := Int.tmod_nonneg (hi - lo + 1) h; omega
    · have := Int.tmod_lt_of_pos (-n) (show (0 : Int) < hi - lo + 1 by omega)
      rw [Int.neg_tmod] at this; omega
  have hhi := Int.tmod_lt_of_pos n (show (0 : Int) < hi - lo + 1 by omega)
  have fin : ∀ M : Int, M = hi - lo + 1 → (M ≠ 0 ∧ (n.tmod M < 0 → K (.p (ii (IntKind.i64.wrap (lo + IntKind.i64.wrap (IntKind.i64.wrap (IntKind.i64.wrap (n.tmod M + hi) - lo) + 1))))) s) ∧ (¬ n.tmod M < 0 → K (.p (ii (IntKind.i64.wrap (lo + n.tmod M)))) s)) := by
    intro M hM
    subst hM
    refine ⟨by omega, fun hn => ?_, fun hn => ?_⟩
    · have e : IntKind.i64.wrap (lo + IntKind.i64.wrap (IntKind.i64.wrap (IntKind.i64.wrap (n.tmod (hi - lo + 1) + hi) - lo) + 1)) = lo + n.tmod (hi - lo + 1) + (hi - lo + 1) := by
        generalize n.tmod (hi - lo + 1) = t at *
        simp only [IntKind.wrap_i64]; omega
      rw [e]; exact h _ (by omega) (by omega)
    · have e : IntKind.i64.wrap (lo + n.tmod (hi - lo + 1)) = lo + n.tmod (hi - lo + 1) := by
        generalize n.tmod (hi - lo + 1) = t at *
        rw [wrap_i64] <;> omega
      rw [e]; exact h _ (by omega) (by omega)
  have fin1 := (fin _ e1).1
  have fin2 := (fin _ e1).2
  clear hlo hhi fin e1
  cases hx : decide (n ≥ lo) with
  | false =>
    clear h
    repeat' (first
      | (apply Br.t; · (first | rfl | (simp only [*] <;> rfl)))
      | (apply Br.f; · (first | rfl | (simp only [*] <;> rfl)))
      | refine Ob.mk (okst rfl rfl rfl) ?_
      | refine Ob.mk fin1 ?_
      | refine Br.mkT (fun c => ?_) (fun c => ?_)
      | refine Br.mkF (fun c => ?_) (fun c => ?_)
      | refine Br.mk (fun c => ?_) (fun c => ?_))
    · exact fin2.1 (of_decide_eq_true (by assumption))
    · exact fin2.2 (of_decide_eq_false (by assumption))
  | true =>
    cases hy : decide (n ≤ hi) with
    | false =>
      clear h
      repeat' (first
        | (apply Br.t; · (first | rfl | (simp only [*] <;> rfl)))
        | (apply Br.f; · (first | rfl | (simp only [*] <;> rfl)))
        | refine Ob.mk (okst rfl rfl rfl) ?_
        | refine Ob.mk fin1 ?_
        | refine Br.mkT (fun c => ?_) (fun c => ?_)
        | refine Br.mkF (fun c => ?_) (fun c => ?_)
        | refine Br.mk (fun c => ?_) (fun c => ?_))
      · exact fin2.1 (of_decide_eq_true (by assumption))
      · exact fin2.2 (of_decide_eq_false (by assumption))
    | true =>
      have := h n (of_decide_eq_true hx) (of_decide_eq_true hy)
      clear fin1 fin2 h
      repeat' (first
        | (apply Br.t; · (first | rfl | (simp only [*] <;> rfl)))
        | (apply Br.f; · (first | rfl | (simp only [*] <;> rfl)))
        | refine Ob.mk (okst rfl rfl rfl) ?_
        | refine Br.mkT (fun c => ?_) (fun c => ?_)
        | refine Br.mkF (fun c => ?_) (fun c => ?_)
        | refine Br.mk (fun c => ?_) (fun c => ?_)
        | exact this
        | (simp only [*, Bool.true_and, Bool.false_and, Bool.true_or, Bool.false_or, Bool.and_true, Bool.and_false, Bool.or_true, Bool.or_false, Bool.not_true, Bool.not_false, if_true, if_false, reduceIte, Bool.false_eq_true] at this; exact this))

/-! ### What a refusal leaves -/
theorem RowC.recs {st : Int} {L : List Bt} (h : RowC st L) : ∀ b, b ∈ L → b.recs.length ≤ 1000000000 := fun b hb => by have := (right_small (h.right b hb)).1; omega
theorem RowC.smalls {st : Int} {L : List Bt} (h : RowC st L) : ∀ b, b ∈ L → b.small := fun b hb => (right_shrt (h.right b hb)).small
/-- What a log answers, and what it has then. -/
structure Ans (cap st : Int) (L : List Bt) (r : (Int × Int) × List Bt) : Prop where
  row : RowC st r.2
  len : r.2.length ≤ L.length + 1
  size : sizeS L ≤ cap → sizeS r.2 ≤ cap
  ref : r.1.2 ≠ 0 → r.1.1 = -1 ∧ r.2 = L
theorem Ans.same {cap st : Int} {L : List Bt} (h : RowC st L) {v : Int} (n : Int) (hv : v = 0 ∨ n = -1) : Ans cap st L ((n, v), L) :=
  ⟨h, Nat.le_succ _, id, fun hne => ⟨by rcases hv with q | q; exact absurd q hne; exact q, rfl⟩⟩
theorem put_ans {cap st : Int} {L : List Bt} {b : Bt} (h : RowC st L) (hb : b.base = endW st L) (h0 : 0 ≤ st) (h1 : st ≤ 1099511627776) : Ans cap st L (putV cap st L b) := by
  unfold putV
  split
  · exact .same h _ (.inr rfl)
  · rename_i k1
    split
    · exact .same h _ (.inl rfl)
    · split
      · exact .same h _ (.inr rfl)
      · rename_i k3
        split
        · exact .same h _ (.inr rfl)
        · rename_i k4
          have hr : rightV b = 0 := by
            have k1 : (tChk (dGet (dFold L).1 b.prod) b).2 = 0 := by simpa using k1
            unfold tChk at k1
            split at k1
            · exact k1
            · rename_i k; simpa using k
          have he := end_in h h0 h1
          have hc := right_cnt hr
          have k4 : ¬ IntKind.i64.wrap (endW st L + cntV b) > 1099511627776 := by simpa using k4
          rw [wrap_i64 (by omega) (by omega)] at k4
          refine ⟨.snoc L b h hb hr (by rw [right_end hr]; omega), by rw [List.length_append]; exact Nat.le_refl _, fun _ => ?_, fun hne => absurd rfl hne⟩
          have es : sizeS (L ++ [b]) = IntKind.i64.wrap (sizeS L + sizeV b) := by unfold sizeS; rw [List.foldl_append]; rfl
          show sizeS (L ++ [b]) ≤ cap
          rw [es]
          have k3 : ¬ IntKind.i64.wrap (sizeS L + sizeV b) > cap := by simpa using k3
          omega
theorem prod_ans {cap st : Int} {L : List Bt} (b : Bt) (h : RowC st L) (h0 : 0 ≤ st) (h1 : st ≤ 1099511627776) : Ans cap st L (prodV cap st L b) := by
  unfold prodV
  split
  · exact .same h _ (.inr rfl)
  · split
    · exact .same h _ (.inr rfl)
    · exact put_ans h rfl h0 h1
theorem mark_ans {cap st : Int} {L : List Bt} (p e m : Int) (h : RowC st L) (h0 : 0 ≤ st) (h1 : st ≤ 1099511627776) : Ans cap st L (markV cap st L p e m) := by
  unfold markV
  split
  · exact .same h _ (.inr rfl)
  · exact put_ans h rfl h0 h1
theorem allCC (L : List Pr) (hL : L.length ≤ 1000000000) (hb : POk L) (s : Store) (K : AV → Store → Prop) (h : K (.p (.bool true)) s) : Cal Tryz.prog 21 [.p (prsC L), .p (prsC L)] s K :=
  Cal.argsD (args' := [.p (prsP L), .p (prsP L)]) (all_c L hL hb s K h) ⟨.inr ⟨_, _, rfl, rfl, prsC_wk L⟩, .inr ⟨_, _, rfl, rfl, prsC_wk L⟩, trivial⟩
end Go.Proofs.YtjhgmaephpadpaaGreat.AW


open Go Go.Proofs.YtjhgmaephpadpaaGreat.AW Go.Proofs
namespace Go.Proofs.YtjhgmaephpadpaaGreat.AW
set_option maxRecDepth 100000
set_option linter.unusedSimpArgs false
set_option linter.unusedVariables false

/-! ### ModelRefuses -/
def rfS (cap : Int) (L : List Bt) (l : List Int) (a : Nat) : Store := [lcC 0 0 0 cap 0 L 1 3 (sizeS L), bufR L, mpC L, some (.cells [.map 2]), tp l a]
def rfT (cap : Int) (L : List Bt) (l : List Int) (a : Nat) (b : Bt) : Store := [lcC 0 0 0 cap 0 L 1 3 (sizeS L), bufR L, mpC L, some (.cells [.map 2]), tp l a, bCells b]
attribute [local irreducible] prodV markV btR in
set_option maxHeartbeats 16000000 in
theorem refuses_c (l : List Int) (hl : l.length ≤ 9223372036854775807) (R : List Bt) (hR : R.length ≤ 9223372036854775807) (hRs : ∀ b, b ∈ R → b.small) (size : Int) (s : Store) (K : AV → Store → Prop) (h : K (.p (.bool true)) s) : Cal Tryz.prog 4 [.p (kl l), .p (rowP R), .p (ii size)] s K := by
  refine Cal.pure (args := [kl l, rowP R, ii size]) ?_
  refine Cal.intro Tryz.func4 (by decide +kernel) rfl rfl ?_
  refine withinI_c size 1 900 (by decide) (by decide) (by decide) _ _ fun cap hc0 hc1 => ?_
  refine Cal.frameK [] (new_c 0 0 0 cap _ fun _ => ?_) rfl rfl rfl
  refine Br.f rfl ?_
  refine LoopX.fam [1, 7, 8, 9, 10] (fun (q : List Bt × Nat × Nat) => ([(1, .p (rowP R)), (7, .p (ii cap)), (8, .ref 0 0), (9, .ref 4 0), (10, .p (ii (q.2.2 : Nat)))], rfS cap q.1 l q.2.1))
    (fun q => RowC 0 q.1 ∧ q.1.length ≤ q.2.2 ∧ q.2.1 ≤ l.length ∧ q.2.2 ≤ 40 ∧ sizeS q.1 ≤ cap) (fun q => 40 - q.2.2) ([], 0, 0) ⟨.nil, Nat.le_refl _, Nat.zero_le _, Nat.zero_le _, by show (0 : Int) ≤ cap; omega⟩ (Trim.mk' rfl rfl rfl rfl (Nat.le_refl _)) ?_
  rintro ⟨L, a, i⟩ ⟨hC, hL, ha, hi, hsz⟩
  have hC : RowC 0 L := hC
  have hL : L.length ≤ i := hL
  have ha : a ≤ l.length := ha
  have hi : i ≤ 40 := hi
  have hsz : sizeS L ≤ cap := hsz
  refine Br.mk (fun hc => ?_) (fun hc => ?_)
  · have hc : (i : Int) < 40 := of_decide_eq_true hc
    have ei : IntKind.i64.wrap (((i : Nat) : Int) + 1) = ((i + 1 : Nat) : Int) := by rw [wrap_i64] <;> omega
    refine Cal.frameK [4] (batch_c l a 0 hl ha _ fun _ => ?_) rfl rfl rfl
    have hb0 := (btR_tiny l a 0).small
    have ha' := btR_le l a 0 ha
    generalize btR l a 0 = q at hb0 ha' ⊢
    obtain ⟨b0, a'⟩ := q
    have hb0 : b0.small := hb0
    have ha' : a' ≤ l.length := ha'
    refine Ob.mk (okst rfl rfl rfl) ?_
    have hlmR := rowL R
    have hp1 := fun K => lbats_c 0 0 0 cap 0 L (by omega) hC.recs K
    have hp2 := fun K => lprods_c 0 0 0 cap 0 L (by omega) K
    have hmk := fun p e m K => lmark_c 0 0 0 cap 0 L (by omega) hC (by decide) (by decide) p e m K
    have hpd := fun b hb K => lprod_c 0 0 0 cap 0 L (by omega) hC (by decide) b hb K
    have hma := fun p e m => mark_ans (cap := cap) p e m hC (by decide) (by decide)
    have hpa := fun b => prod_ans (cap := cap) b hC (by decide) (by decide)
    cases k1 : decide ((i : Int) < ((R.map Bt.pv).length : Nat)) with
    | false =>
      clear hRs hR hlmR
      repeat' (first
        | (apply Br.t; · (first | rfl | (simp only [*] <;> rfl)))
        | (apply Br.f; · (first | rfl | (simp only [*] <;> rfl)))
        | refine Ob.mk (okst rfl rfl rfl) ?_
        | refine Ob.mk (by decide) ?_
        | refine Idx.mk _ (Int.natCast_nonneg _) hgR ?_
        | refine Cal.frameK [0, 1, 2, 3] (hp1 _ fun _ => ?_) rfl rfl rfl
        | refine Cal.frameK [0, 1, 2, 3] (hp2 _ fun _ => ?_) rfl rfl rfl
        | refine Br.mkT (fun c => ?_) (fun c => ?_)
        | refine Br.mkF (fun c => ?_) (fun c => ?_)
        | refine Br.mk (fun c => ?_) (fun c => ?_))
      · refine Cal.frameK [0, 1, 2, 3] (hmk b0.prod b0.epoch b0.mark _ fun _ => ?_) rfl rfl rfl
        have hans := hma b0.prod b0.epoch b0.mark
        generalize markV cap 0 L b0.prod b0.epoch b0.mark = r at hans ⊢
        clear hp1 hp2 hmk hpd hma hpa
        obtain ⟨⟨n, e⟩, L'⟩ := r
        obtain ⟨m1, m2, m3, m4⟩ := hans
        have m1 : RowC 0 L' := m1
        have m2 : L'.length ≤ L.length + 1 := m2
        have m3 : sizeS L' ≤ cap := m3 hsz
        have m4 : e ≠ 0 → n = -1 ∧ L' = L := m4
        have hL'l : L'.length ≤ 1000000000 := by omega
        have hbt := fun K => lbats_c 0 0 0 cap 0 L' hL'l m1.recs K
        have hnx : RowC 0 L' ∧ L'.length ≤ i + 1 ∧ a' ≤ l.length ∧ i + 1 ≤ 40 ∧ sizeS L' ≤ cap := ⟨m1, by omega, ha', by omega, m3⟩
        have hms : 40 - (i + 1) < 40 - i := by omega
        have hszs : ∀ y, y ∈ L' → y.small := m1.smalls
        have hlm := rowL L'
        have hlm0 := rowL L
        have hLl : L.length ≤ 1000000000 := by omega
        clear hc hL hi ha h hb0 hC
        have hfin : decide (sizeS L' > cap) = false := decide_eq_false (by omega)
        cases k1 : (e != 0) with
        | true =>
          obtain ⟨q1, q2⟩ := m4 (by simpa using k1)
          subst q1
          subst q2
          have hpr := fun K => lprods_c 0 0 0 cap 0 L' hL'l K
          have hrw := fun s K => rows_c L' hL'l m1.recs s K
          have hall := fun s K => allCC (dFold L').1 (by have := (dFold_inv L').2.1; omega) (dFold_inv L').1 s K
          generalize (dFold L').1 = P at hpr hall ⊢
          have k0 : (e == 0) = false := by simpa using k1
          clear m1 m2 m3 m4 hlm0
          repeat' (first
            | (apply Br.t; · (first | rfl | (simp only [*] <;> rfl)))
            | (apply Br.f; · (first | rfl | (simp only [*] <;> rfl)))
            | refine Ob.mk (okst rfl rfl rfl) ?_
            | refine Cal.frameK [0, 1, 2, 3] (hbt _ fun _ => ?_) rfl rfl rfl
            | refine Cal.frameK [0, 1, 2, 3] (hpr _ fun _ => ?_) rfl rfl rfl
            | refine hrw _ _ ?_
            | refine hall _ _ ?_
            | refine Br.mkT (fun c => ?_) (fun c => ?_)
            | refine Br.mkF (fun c => ?_) (fun c => ?_)
            | refine Br.mk (fun c => ?_) (fun c => ?_))
          refine LoopX.fam [1, 7, 8, 9, 10, 16, 106, 107, 108] (fun (j : Nat) => ([(1, .p (rowP R)), (7, .p (ii cap)), (8, .ref 0 0), (9, .ref 4 0), (10, .p (ii (i : Nat))), (16, .p (ii (sizeS (L'.take j)))), (106, .p (rowP L')), (107, .p (ii (L'.map Bt.pv).length)), (108, .p (ii (j : Nat)))], rfT cap L' l a' b0))
            (fun j => j ≤ L'.length) (fun j => L'.length - j) 0 (Nat.zero_le _) (Trim.mk' ?_ ?_ rfl ?_ ?_) ?_
          · rfl
          · rfl
          · rfl
          · exact Nat.le_refl _
          intro j hj
          have hj : j ≤ L'.length := hj
          refine Br.mk (fun hc => ?_) (fun hc => ?_)
          · have hj1 : j < L'.length := by have hc : (j : Int) < ((L'.map Bt.pv).length : Nat) := of_decide_eq_true hc; rw [List.length_map] at hc; omega
            have ej : IntKind.i64.wrap ((j : Int) + 1) = ((j + 1 : Nat) : Int) := by rw [wrap_i64] <;> omega
            refine Idx.mk _ (Int.natCast_nonneg _) (getL hj1) ?_
            refine Ob.mk (okst rfl rfl rfl) ?_
            refine size_c L'[j] (hszs _ (List.getElem_mem hj1)) _ _ ?_
            have hs : IntKind.i64.wrap (sizeS (L'.take j) + sizeV L'[j]) = sizeS (L'.take (j + 1)) := by unfold sizeS; rw [take_succ' hj1, List.foldl_append]; rfl
            refine ⟨j + 1, hj1, by show L'.length - (j + 1) < L'.length - j; omega, Nat.le_refl _, Trim.mk' ?_ rfl rfl rfl (show 6 ≤ 7 by decide)⟩
            refine Eq.trans (b := [_, _, _, _, _, (16, AV.p (ii (IntKind.i64.wrap (sizeS (L'.take j) + sizeV L'[j])))), _, _, (108, AV.p (ii (IntKind.i64.wrap ((j : Int) + 1))))]) rfl ?_
            rw [ej, hs]; rfl
          · have hj2 : j = L'.length := by have hc : ¬ (j : Int) < ((L'.map Bt.pv).length : Nat) := of_decide_eq_false hc; rw [List.length_map] at hc; omega
            subst hj2
            rw [List.take_length]
            refine Br.f hfin ?_
            refine ⟨(L', a', i + 1), hnx, hms, Nat.le_refl _, Trim.mk' ?_ rfl rfl rfl (show 5 ≤ 6 by decide)⟩
            refine Eq.trans (b := [_, _, _, _, (10, AV.p (ii (IntKind.i64.wrap (((i : Nat) : Int) + 1))))]) rfl ?_
            rw [ei]; rfl
        | false =>
          have he : e = 0 := by simpa using k1
          subst he
          have hlt : decide (((L'.map Bt.pv).length : Int) > IntKind.i64.wrap (((L.map Bt.pv).length : Int) + 1)) = false := by
            rw [hlm, hlm0, wrap_i64 (by omega) (by omega)]
            exact decide_eq_false (by omega)
          clear m1 m2 m3 m4 hlm0 hlm k1
          repeat' (first
            | (apply Br.t; · (first | rfl | (simp only [*] <;> rfl)))
            | (apply Br.f; · (first | rfl | (simp only [*] <;> rfl)))
            | refine Ob.mk (okst rfl rfl rfl) ?_
            | refine Cal.frameK [0, 1, 2, 3] (hbt _ fun _ => ?_) rfl rfl rfl
            | refine Br.mkT (fun c => ?_) (fun c => ?_)
            | refine Br.mkF (fun c => ?_) (fun c => ?_)
            | refine Br.mk (fun c => ?_) (fun c => ?_))
          refine LoopX.fam [1, 7, 8, 9, 10, 16, 106, 107, 108] (fun (j : Nat) => ([(1, .p (rowP R)), (7, .p (ii cap)), (8, .ref 0 0), (9, .ref 4 0), (10, .p (ii (i : Nat))), (16, .p (ii (sizeS (L'.take j)))), (106, .p (rowP L')), (107, .p (ii (L'.map Bt.pv).length)), (108, .p (ii (j : Nat)))], rfT cap L' l a' b0))
            (fun j => j ≤ L'.length) (fun j => L'.length - j) 0 (Nat.zero_le _) (Trim.mk' ?_ ?_ rfl ?_ ?_) ?_
          · rfl
          · rfl
          · rfl
          · exact Nat.le_refl _
          intro j hj
          have hj : j ≤ L'.length := hj
          refine Br.mk (fun hc => ?_) (fun hc => ?_)
          · have hj1 : j < L'.length := by have hc : (j : Int) < ((L'.map Bt.pv).length : Nat) := of_decide_eq_true hc; rw [List.length_map] at hc; omega
            have ej : IntKind.i64.wrap ((j : Int) + 1) = ((j + 1 : Nat) : Int) := by rw [wrap_i64] <;> omega
            refine Idx.mk _ (Int.natCast_nonneg _) (getL hj1) ?_
            refine Ob.mk (okst rfl rfl rfl) ?_
            refine size_c L'[j] (hszs _ (List.getElem_mem hj1)) _ _ ?_
            have hs : IntKind.i64.wrap (sizeS (L'.take j) + sizeV L'[j]) = sizeS (L'.take (j + 1)) := by unfold sizeS; rw [take_succ' hj1, List.foldl_append]; rfl
            refine ⟨j + 1, hj1, by show L'.length - (j + 1) < L'.length - j; omega, Nat.le_refl _, Trim.mk' ?_ rfl rfl rfl (show 6 ≤ 7 by decide)⟩
            refine Eq.trans (b := [_, _, _, _, _, (16, AV.p (ii (IntKind.i64.wrap (sizeS (L'.take j) + sizeV L'[j])))), _, _, (108, AV.p (ii (IntKind.i64.wrap ((j : Int) + 1))))]) rfl ?_
            rw [ej, hs]; rfl
          · have hj2 : j = L'.length := by have hc : ¬ (j : Int) < ((L'.map Bt.pv).length : Nat) := of_decide_eq_false hc; rw [List.length_map] at hc; omega
            subst hj2
            rw [List.take_length]
            refine Br.f hfin ?_
            refine ⟨(L', a', i + 1), hnx, hms, Nat.le_refl _, Trim.mk' ?_ rfl rfl rfl (show 5 ≤ 6 by decide)⟩
            refine Eq.trans (b := [_, _, _, _, (10, AV.p (ii (IntKind.i64.wrap (((i : Nat) : Int) + 1))))]) rfl ?_
            rw [ei]; rfl
      · refine Cal.frameK [0, 1, 2, 3] (hpd b0 hb0 _ fun _ => ?_) rfl rfl rfl
        have hans := hpa b0
        generalize prodV cap 0 L b0 = r at hans ⊢
        clear hp1 hp2 hmk hpd hma hpa
        obtain ⟨⟨n, e⟩, L'⟩ := r
        obtain ⟨m1, m2, m3, m4⟩ := hans
        have m1 : RowC 0 L' := m1
        have m2 : L'.length ≤ L.length + 1 := m2
        have m3 : sizeS L' ≤ cap := m3 hsz
        have m4 : e ≠ 0 → n = -1 ∧ L' = L := m4
        have hL'l : L'.length ≤ 1000000000 := by omega
        have hbt := fun K => lbats_c 0 0 0 cap 0 L' hL'l m1.recs K
        have hnx : RowC 0 L' ∧ L'.length ≤ i + 1 ∧ a' ≤ l.length ∧ i + 1 ≤ 40 ∧ sizeS L' ≤ cap := ⟨m1, by omega, ha', by omega, m3⟩
        have hms : 40 - (i + 1) < 40 - i := by omega
        have hszs : ∀ y, y ∈ L' → y.small := m1.smalls
        have hlm := rowL L'
        have hlm0 := rowL L
        have hLl : L.length ≤ 1000000000 := by omega
        clear hc hL hi ha h hb0 hC
        have hfin : decide (sizeS L' > cap) = false := decide_eq_false (by omega)
        cases k1 : (e != 0) with
        | true =>
          obtain ⟨q1, q2⟩ := m4 (by simpa using k1)
          subst q1
          subst q2
          have hpr := fun K => lprods_c 0 0 0 cap 0 L' hL'l K
          have hrw := fun s K => rows_c L' hL'l m1.recs s K
          have hall := fun s K => allCC (dFold L').1 (by have := (dFold_inv L').2.1; omega) (dFold_inv L').1 s K
          generalize (dFold L').1 = P at hpr hall ⊢
          have k0 : (e == 0) = false := by simpa using k1
          clear m1 m2 m3 m4 hlm0
          repeat' (first
            | (apply Br.t; · (first | rfl | (simp only [*] <;> rfl)))
            | (apply Br.f; · (first | rfl | (simp only [*] <;> rfl)))
            | refine Ob.mk (okst rfl rfl rfl) ?_
            | refine Cal.frameK [0, 1, 2, 3] (hbt _ fun _ => ?_) rfl rfl rfl
            | refine Cal.frameK [0, 1, 2, 3] (hpr _ fun _ => ?_) rfl rfl rfl
            | refine hrw _ _ ?_
            | refine hall _ _ ?_
            | refine Br.mkT (fun c => ?_) (fun c => ?_)
            | refine Br.mkF (fun c => ?_) (fun c => ?_)
            | refine Br.mk (fun c => ?_) (fun c => ?_))
          refine LoopX.fam [1, 7, 8, 9, 10, 16, 106, 107, 108] (fun (j : Nat) => ([(1, .p (rowP R)), (7, .p (ii cap)), (8, .ref 0 0), (9, .ref 4 0), (10, .p (ii (i : Nat))), (16, .p (ii (sizeS (L'.take j)))), (106, .p (rowP L')), (107, .p (ii (L'.map Bt.pv).length)), (108, .p (ii (j : Nat)))], rfT cap L' l a' b0))
            (fun j => j ≤ L'.length) (fun j => L'.length - j) 0 (Nat.zero_le _) (Trim.mk' ?_ ?_ rfl ?_ ?_) ?_
          · rfl
          · rfl
          · rfl
          · exact Nat.le_refl _
          intro j hj
          have hj : j ≤ L'.length := hj
          refine Br.mk (fun hc => ?_) (fun hc => ?_)
          · have hj1 : j < L'.length := by have hc : (j : Int) < ((L'.map Bt.pv).length : Nat) := of_decide_eq_true hc; rw [List.length_map] at hc; omega
            have ej : IntKind.i64.wrap ((j : Int) + 1) = ((j + 1 : Nat) : Int) := by rw [wrap_i64] <;> omega
            refine Idx.mk _ (Int.natCast_nonneg _) (getL hj1) ?_
            refine Ob.mk (okst rfl rfl rfl) ?_
            refine size_c L'[j] (hszs _ (List.getElem_mem hj1)) _ _ ?_
            have hs : IntKind.i64.wrap (sizeS (L'.take j) + sizeV L'[j]) = sizeS (L'.take (j + 1)) := by unfold sizeS; rw [take_succ' hj1, List.foldl_append]; rfl
            refine ⟨j + 1, hj1, by show L'.length - (j + 1) < L'.length - j; omega, Nat.le_refl _, Trim.mk' ?_ rfl rfl rfl (show 6 ≤ 7 by decide)⟩
            refine Eq.trans (b := [_, _, _, _, _, (16, AV.p (ii (IntKind.i64.wrap (sizeS (L'.take j) + sizeV L'[j])))), _, _, (108, AV.p (ii (IntKind.i64.wrap ((j : Int) + 1))))]) rfl ?_
            rw [ej, hs]; rfl
          · have hj2 : j = L'.length := by have hc : ¬ (j : Int) < ((L'.map Bt.pv).length : Nat) := of_decide_eq_false hc; rw [List.length_map] at hc; omega
            subst hj2
            rw [List.take_length]
            refine Br.f hfin ?_
            refine ⟨(L', a', i + 1), hnx, hms, Nat.le_refl _, Trim.mk' ?_ rfl rfl rfl (show 5 ≤ 6 by decide)⟩
            refine Eq.trans (b := [_, _, _, _, (10, AV.p (ii (IntKind.i64.wrap (((i : Nat) : Int) + 1))))]) rfl ?_
            rw [ei]; rfl
        | false =>
          have he : e = 0 := by simpa using k1
          subst he
          have hlt : decide (((L'.map Bt.pv).length : Int) > IntKind.i64.wrap (((L.map Bt.pv).length : Int) + 1)) = false := by
            rw [hlm, hlm0, wrap_i64 (by omega) (by omega)]
            exact decide_eq_false (by omega)
          clear m1 m2 m3 m4 hlm0 hlm k1
          repeat' (first
            | (apply Br.t; · (first | rfl | (simp only [*] <;> rfl)))
            | (apply Br.f; · (first | rfl | (simp only [*] <;> rfl)))
            | refine Ob.mk (okst rfl rfl rfl) ?_
            | refine Cal.frameK [0, 1, 2, 3] (hbt _ fun _ => ?_) rfl rfl rfl
            | refine Br.mkT (fun c => ?_) (fun c => ?_)
            | refine Br.mkF (fun c => ?_) (fun c => ?_)
            | refine Br.mk (fun c => ?_) (fun c => ?_))
          refine LoopX.fam [1, 7, 8, 9, 10, 16, 106, 107, 108] (fun (j : Nat) => ([(1, .p (rowP R)), (7, .p (ii cap)), (8, .ref 0 0), (9, .ref 4 0), (10, .p (ii (i : Nat))), (16, .p (ii (sizeS (L'.take j)))), (106, .p (rowP L')), (107, .p (ii (L'.map Bt.pv).length)), (108, .p (ii (j : Nat)))], rfT cap L' l a' b0))
            (fun j => j ≤ L'.length) (fun j => L'.length - j) 0 (Nat.zero_le _) (Trim.mk' ?_ ?_ rfl ?_ ?_) ?_
          · rfl
          · rfl
          · rfl
          · exact Nat.le_refl _
          intro j hj
          have hj : j ≤ L'.length := hj
          refine Br.mk (fun hc => ?_) (fun hc => ?_)
          · have hj1 : j < L'.length := by have hc : (j : Int) < ((L'.map Bt.pv).length : Nat) := of_decide_eq_true hc; rw [List.length_map] at hc; omega
            have ej : IntKind.i64.wrap ((j : Int) + 1) = ((j + 1 : Nat) : Int) := by rw [wrap_i64] <;> omega
            refine Idx.mk _ (Int.natCast_nonneg _) (getL hj1) ?_
            refine Ob.mk (okst rfl rfl rfl) ?_
            refine size_c L'[j] (hszs _ (List.getElem_mem hj1)) _ _ ?_
            have hs : IntKind.i64.wrap (sizeS (L'.take j) + sizeV L'[j]) = sizeS (L'.take (j + 1)) := by unfold sizeS; rw [take_succ' hj1, List.foldl_append]; rfl
            refine ⟨j + 1, hj1, by show L'.length - (j + 1) < L'.length - j; omega, Nat.le_refl _, Trim.mk' ?_ rfl rfl rfl (show 6 ≤ 7 by decide)⟩
            refine Eq.trans (b := [_, _, _, _, _, (16, AV.p (ii (IntKind.i64.wrap (sizeS (L'.take j) + sizeV L'[j])))), _, _, (108, AV.p (ii (IntKind.i64.wrap ((j : Int) + 1))))]) rfl ?_
            rw [ej, hs]; rfl
          · have hj2 : j = L'.length := by have hc : ¬ (j : Int) < ((L'.map Bt.pv).length : Nat) := of_decide_eq_false hc; rw [List.length_map] at hc; omega
            subst hj2
            rw [List.take_length]
            refine Br.f hfin ?_
            refine ⟨(L', a', i + 1), hnx, hms, Nat.le_refl _, Trim.mk' ?_ rfl rfl rfl (show 5 ≤ 6 by decide)⟩
            refine Eq.trans (b := [_, _, _, _, (10, AV.p (ii (IntKind.i64.wrap (((i : Nat) : Int) + 1))))]) rfl ?_
            rw [ei]; rfl
    | true =>
      have hiR : i < R.length := by have := of_decide_eq_true k1; omega
      cases k2 : (((i : Nat) : Int).tmod 2 == 0) with
      | false =>
        clear hRs hR hlmR hiR
        repeat' (first
          | (apply Br.t; · (first | rfl | (simp only [*] <;> rfl)))
          | (apply Br.f; · (first | rfl | (simp only [*] <;> rfl)))
          | refine Ob.mk (okst rfl rfl rfl) ?_
          | refine Ob.mk (by decide) ?_
          | refine Idx.mk _ (Int.natCast_nonneg _) hgR ?_
          | refine Cal.frameK [0, 1, 2, 3] (hp1 _ fun _ => ?_) rfl rfl rfl
          | refine Cal.frameK [0, 1, 2, 3] (hp2 _ fun _ => ?_) rfl rfl rfl
          | refine Br.mkT (fun c => ?_) (fun c => ?_)
          | refine Br.mkF (fun c => ?_) (fun c => ?_)
          | refine Br.mk (fun c => ?_) (fun c => ?_))
        · refine Cal.frameK [0, 1, 2, 3] (hmk b0.prod b0.epoch b0.mark _ fun _ => ?_) rfl rfl rfl
          have hans := hma b0.prod b0.epoch b0.mark
          generalize markV cap 0 L b0.prod b0.epoch b0.mark = r at hans ⊢
          clear hp1 hp2 hmk hpd hma hpa
          obtain ⟨⟨n, e⟩, L'⟩ := r
          obtain ⟨m1, m2, m3, m4⟩ := hans
          have m1 : RowC 0 L' := m1
          have m2 : L'.length ≤ L.length + 1 := m2
          have m3 : sizeS L' ≤ cap := m3 hsz
          have m4 : e ≠ 0 → n = -1 ∧ L' = L := m4
          have hL'l : L'.length ≤ 1000000000 := by omega
          have hbt := fun K => lbats_c 0 0 0 cap 0 L' hL'l m1.recs K
          have hnx : RowC 0 L' ∧ L'.length ≤ i + 1 ∧ a' ≤ l.length ∧ i + 1 ≤ 40 ∧ sizeS L' ≤ cap := ⟨m1, by omega, ha', by omega, m3⟩
          have hms : 40 - (i + 1) < 40 - i := by omega
          have hszs : ∀ y, y ∈ L' → y.small := m1.smalls
          have hlm := rowL L'
          have hlm0 := rowL L
          have hLl : L.length ≤ 1000000000 := by omega
          clear hc hL hi ha h hb0 hC
          have hfin : decide (sizeS L' > cap) = false := decide_eq_false (by omega)
          cases k1 : (e != 0) with
          | true =>
            obtain ⟨q1, q2⟩ := m4 (by simpa using k1)
            subst q1
            subst q2
            have hpr := fun K => lprods_c 0 0 0 cap 0 L' hL'l K
            have hrw := fun s K => rows_c L' hL'l m1.recs s K
            have hall := fun s K => allCC (dFold L').1 (by have := (dFold_inv L').2.1; omega) (dFold_inv L').1 s K
            generalize (dFold L').1 = P at hpr hall ⊢
            have k0 : (e == 0) = false := by simpa using k1
            clear m1 m2 m3 m4 hlm0
            repeat' (first
              | (apply Br.t; · (first | rfl | (simp only [*] <;> rfl)))
              | (apply Br.f; · (first | rfl | (simp only [*] <;> rfl)))
              | refine Ob.mk (okst rfl rfl rfl) ?_
              | refine Cal.frameK [0, 1, 2, 3] (hbt _ fun _ => ?_) rfl rfl rfl
              | refine Cal.frameK [0, 1, 2, 3] (hpr _ fun _ => ?_) rfl rfl rfl
              | refine hrw _ _ ?_
              | refine hall _ _ ?_
              | refine Br.mkT (fun c => ?_) (fun c => ?_)
              | refine Br.mkF (fun c => ?_) (fun c => ?_)
              | refine Br.mk (fun c => ?_) (fun c => ?_))
            refine LoopX.fam [1, 7, 8, 9, 10, 16, 106, 107, 108] (fun (j : Nat) => ([(1, .p (rowP R)), (7, .p (ii cap)), (8, .ref 0 0), (9, .ref 4 0), (10, .p (ii (i : Nat))), (16, .p (ii (sizeS (L'.take j)))), (106, .p (rowP L')), (107, .p (ii (L'.map Bt.pv).length)), (108, .p (ii (j : Nat)))], rfT cap L' l a' b0))
              (fun j => j ≤ L'.length) (fun j => L'.length - j) 0 (Nat.zero_le _) (Trim.mk' ?_ ?_ rfl ?_ ?_) ?_
            · rfl
            · rfl
            · rfl
            · exact Nat.le_refl _
            intro j hj
            have hj : j ≤ L'.length := hj
            refine Br.mk (fun hc => ?_) (fun hc => ?_)
            · have hj1 : j < L'.length := by have hc : (j : Int) < ((L'.map Bt.pv).length : Nat) := of_decide_eq_true hc; rw [List.length_map] at hc; omega
              have ej : IntKind.i64.wrap ((j : Int) + 1) = ((j + 1 : Nat) : Int) := by rw [wrap_i64] <;> omega
              refine Idx.mk _ (Int.natCast_nonneg _) (getL hj1) ?_
              refine Ob.mk (okst rfl rfl rfl) ?_
              refine size_c L'[j] (hszs _ (List.getElem_mem hj1)) _ _ ?_
              have hs : IntKind.i64.wrap (sizeS (L'.take j) + sizeV L'[j]) = sizeS (L'.take (j + 1)) := by unfold sizeS; rw [take_succ' hj1, List.foldl_append]; rfl
              refine ⟨j + 1, hj1, by show L'.length - (j + 1) < L'.length - j; omega, Nat.le_refl _, Trim.mk' ?_ rfl rfl rfl (show 6 ≤ 7 by decide)⟩
              refine Eq.trans (b := [_, _, _, _, _, (16, AV.p (ii (IntKind.i64.wrap (sizeS (L'.take j) + sizeV L'[j])))), _, _, (108, AV.p (ii (IntKind.i64.wrap ((j : Int) + 1))))]) rfl ?_
              rw [ej, hs]; rfl
            · have hj2 : j = L'.length := by have hc : ¬ (j : Int) < ((L'.map Bt.pv).length : Nat) := of_decide_eq_false hc; rw [List.length_map] at hc; omega
              subst hj2
              rw [List.take_length]
              refine Br.f hfin ?_
              refine ⟨(L', a', i + 1), hnx, hms, Nat.le_refl _, Trim.mk' ?_ rfl rfl rfl (show 5 ≤ 6 by decide)⟩
              refine Eq.trans (b := [_, _, _, _, (10, AV.p (ii (IntKind.i64.wrap (((i : Nat) : Int) + 1))))]) rfl ?_
              rw [ei]; rfl
          | false =>
            have he : e = 0 := by simpa using k1
            subst he
            have hlt : decide (((L'.map Bt.pv).length : Int) > IntKind.i64.wrap (((L.map Bt.pv).length : Int) + 1)) = false := by
              rw [hlm, hlm0, wrap_i64 (by omega) (by omega)]
              exact decide_eq_false (by omega)
            clear m1 m2 m3 m4 hlm0 hlm k1
            repeat' (first
              | (apply Br.t; · (first | rfl | (simp only [*] <;> rfl)))
              | (apply Br.f; · (first | rfl | (simp only [*] <;> rfl)))
              | refine Ob.mk (okst rfl rfl rfl) ?_
              | refine Cal.frameK [0, 1, 2, 3] (hbt _ fun _ => ?_) rfl rfl rfl
              | refine Br.mkT (fun c => ?_) (fun c => ?_)
              | refine Br.mkF (fun c => ?_) (fun c => ?_)
              | refine Br.mk (fun c => ?_) (fun c => ?_))
            refine LoopX.fam [1, 7, 8, 9, 10, 16, 106, 107, 108] (fun (j : Nat) => ([(1, .p (rowP R)), (7, .p (ii cap)), (8, .ref 0 0), (9, .ref 4 0), (10, .p (ii (i : Nat))), (16, .p (ii (sizeS (L'.take j)))), (106, .p (rowP L')), (107, .p (ii (L'.map Bt.pv).length)), (108, .p (ii (j : Nat)))], rfT cap L' l a' b0))
              (fun j => j ≤ L'.length) (fun j => L'.length - j) 0 (Nat.zero_le _) (Trim.mk' ?_ ?_ rfl ?_ ?_) ?_
            · rfl
            · rfl
            · rfl
            · exact Nat.le_refl _
            intro j hj
            have hj : j ≤ L'.length := hj
            refine Br.mk (fun hc => ?_) (fun hc => ?_)
            · have hj1 : j < L'.length := by have hc : (j : Int) < ((L'.map Bt.pv).length : Nat) := of_decide_eq_true hc; rw [List.length_map] at hc; omega
              have ej : IntKind.i64.wrap ((j : Int) + 1) = ((j + 1 : Nat) : Int) := by rw [wrap_i64] <;> omega
              refine Idx.mk _ (Int.natCast_nonneg _) (getL hj1) ?_
              refine Ob.mk (okst rfl rfl rfl) ?_
              refine size_c L'[j] (hszs _ (List.getElem_mem hj1)) _ _ ?_
              have hs : IntKind.i64.wrap (sizeS (L'.take j) + sizeV L'[j]) = sizeS (L'.take (j + 1)) := by unfold sizeS; rw [take_succ' hj1, List.foldl_append]; rfl
              refine ⟨j + 1, hj1, by show L'.length - (j + 1) < L'.length - j; omega, Nat.le_refl _, Trim.mk' ?_ rfl rfl rfl (show 6 ≤ 7 by decide)⟩
              refine Eq.trans (b := [_, _, _, _, _, (16, AV.p (ii (IntKind.i64.wrap (sizeS (L'.take j) + sizeV L'[j])))), _, _, (108, AV.p (ii (IntKind.i64.wrap ((j : Int) + 1))))]) rfl ?_
              rw [ej, hs]; rfl
            · have hj2 : j = L'.length := by have hc : ¬ (j : Int) < ((L'.map Bt.pv).length : Nat) := of_decide_eq_false hc; rw [List.length_map] at hc; omega
              subst hj2
              rw [List.take_length]
              refine Br.f hfin ?_
              refine ⟨(L', a', i + 1), hnx, hms, Nat.le_refl _, Trim.mk' ?_ rfl rfl rfl (show 5 ≤ 6 by decide)⟩
              refine Eq.trans (b := [_, _, _, _, (10, AV.p (ii (IntKind.i64.wrap (((i : Nat) : Int) + 1))))]) rfl ?_
              rw [ei]; rfl
        · refine Cal.frameK [0, 1, 2, 3] (hpd b0 hb0 _ fun _ => ?_) rfl rfl rfl
          have hans := hpa b0
          generalize prodV cap 0 L b0 = r at hans ⊢
          clear hp1 hp2 hmk hpd hma hpa
          obtain ⟨⟨n, e⟩, L'⟩ := r
          obtain ⟨m1, m2, m3, m4⟩ := hans
          have m1 : RowC 0 L' := m1
          have m2 : L'.length ≤ L.length + 1 := m2
          have m3 : sizeS L' ≤ cap := m3 hsz
          have m4 : e ≠ 0 → n = -1 ∧ L' = L := m4
          have hL'l : L'.length ≤ 1000000000 := by omega
          have hbt := fun K => lbats_c 0 0 0 cap 0 L' hL'l m1.recs K
          have hnx : RowC 0 L' ∧ L'.length ≤ i + 1 ∧ a' ≤ l.length ∧ i + 1 ≤ 40 ∧ sizeS L' ≤ cap := ⟨m1, by omega, ha', by omega, m3⟩
          have hms : 40 - (i + 1) < 40 - i := by omega
          have hszs : ∀ y, y ∈ L' → y.small := m1.smalls
          have hlm := rowL L'
          have hlm0 := rowL L
          have hLl : L.length ≤ 1000000000 := by omega
          clear hc hL hi ha h hb0 hC
          have hfin : decide (sizeS L' > cap) = false := decide_eq_false (by omega)
          cases k1 : (e != 0) with
          | true =>
            obtain ⟨q1, q2⟩ := m4 (by simpa using k1)
            subst q1
            subst q2
            have hpr := fun K => lprods_c 0 0 0 cap 0 L' hL'l K
            have hrw := fun s K => rows_c L' hL'l m1.recs s K
            have hall := fun s K => allCC (dFold L').1 (by have := (dFold_inv L').2.1; omega) (dFold_inv L').1 s K
            generalize (dFold L').1 = P at hpr hall ⊢
            have k0 : (e == 0) = false := by simpa using k1
            clear m1 m2 m3 m4 hlm0
            repeat' (first
              | (apply Br.t; · (first | rfl | (simp only [*] <;> rfl)))
              | (apply Br.f; · (first | rfl | (simp only [*] <;> rfl)))
              | refine Ob.mk (okst rfl rfl rfl) ?_
              | refine Cal.frameK [0, 1, 2, 3] (hbt _ fun _ => ?_) rfl rfl rfl
              | refine Cal.frameK [0, 1, 2, 3] (hpr _ fun _ => ?_) rfl rfl rfl
              | refine hrw _ _ ?_
              | refine hall _ _ ?_
              | refine Br.mkT (fun c => ?_) (fun c => ?_)
              | refine Br.mkF (fun c => ?_) (fun c => ?_)
              | refine Br.mk (fun c => ?_) (fun c => ?_))
            refine LoopX.fam [1, 7, 8, 9, 10, 16, 106, 107, 108] (fun (j : Nat) => ([(1, .p (rowP R)), (7, .p (ii cap)), (8, .ref 0 0), (9, .ref 4 0), (10, .p (ii (i : Nat))), (16, .p (ii (sizeS (L'.take j)))), (106, .p (rowP L')), (107, .p (ii (L'.map Bt.pv).length)), (108, .p (ii (j : Nat)))], rfT cap L' l a' b0))
              (fun j => j ≤ L'.length) (fun j => L'.length - j) 0 (Nat.zero_le _) (Trim.mk' ?_ ?_ rfl ?_ ?_) ?_
            · rfl
            · rfl
            · rfl
            · exact Nat.le_refl _
            intro j hj
            have hj : j ≤ L'.length := hj
            refine Br.mk (fun hc => ?_) (fun hc => ?_)
            · have hj1 : j < L'.length := by have hc : (j : Int) < ((L'.map Bt.pv).length : Nat) := of_decide_eq_true hc; rw [List.length_map] at hc; omega
              have ej : IntKind.i64.wrap ((j : Int) + 1) = ((j + 1 : Nat) : Int) := by rw [wrap_i64] <;> omega
              refine Idx.mk _ (Int.natCast_nonneg _) (getL hj1) ?_
              refine Ob.mk (okst rfl rfl rfl) ?_
              refine size_c L'[j] (hszs _ (List.getElem_mem hj1)) _ _ ?_
              have hs : IntKind.i64.wrap (sizeS (L'.take j) + sizeV L'[j]) = sizeS (L'.take (j + 1)) := by unfold sizeS; rw [take_succ' hj1, List.foldl_append]; rfl
              refine ⟨j + 1, hj1, by show L'.length - (j + 1) < L'.length - j; omega, Nat.le_refl _, Trim.mk' ?_ rfl rfl rfl (show 6 ≤ 7 by decide)⟩
              refine Eq.trans (b := [_, _, _, _, _, (16, AV.p (ii (IntKind.i64.wrap (sizeS (L'.take j) + sizeV L'[j])))), _, _, (108, AV.p (ii (IntKind.i64.wrap ((j : Int) + 1))))]) rfl ?_
              rw [ej, hs]; rfl
            · have hj2 : j = L'.length := by have hc : ¬ (j : Int) < ((L'.map Bt.pv).length : Nat) := of_decide_eq_false hc; rw [List.length_map] at hc; omega
              subst hj2
              rw [List.take_length]
              refine Br.f hfin ?_
              refine ⟨(L', a', i + 1), hnx, hms, Nat.le_refl _, Trim.mk' ?_ rfl rfl rfl (show 5 ≤ 6 by decide)⟩
              refine Eq.trans (b := [_, _, _, _, (10, AV.p (ii (IntKind.i64.wrap (((i : Nat) : Int) + 1))))]) rfl ?_
              rw [ei]; rfl
          | false =>
            have he : e = 0 := by simpa using k1
            subst he
            have hlt : decide (((L'.map Bt.pv).length : Int) > IntKind.i64.wrap (((L.map Bt.pv).length : Int) + 1)) = false := by
              rw [hlm, hlm0, wrap_i64 (by omega) (by omega)]
              exact decide_eq_false (by omega)
            clear m1 m2 m3 m4 hlm0 hlm k1
            repeat' (first
              | (apply Br.t; · (first | rfl | (simp only [*] <;> rfl)))
              | (apply Br.f; · (first | rfl | (simp only [*] <;> rfl)))
              | refine Ob.mk (okst rfl rfl rfl) ?_
              | refine Cal.frameK [0, 1, 2, 3] (hbt _ fun _ => ?_) rfl rfl rfl
              | refine Br.mkT (fun c => ?_) (fun c => ?_)
              | refine Br.mkF (fun c => ?_) (fun c => ?_)
              | refine Br.mk (fun c => ?_) (fun c => ?_))
            refine LoopX.fam [1, 7, 8, 9, 10, 16, 106, 107, 108] (fun (j : Nat) => ([(1, .p (rowP R)), (7, .p (ii cap)), (8, .ref 0 0), (9, .ref 4 0), (10, .p (ii (i : Nat))), (16, .p (ii (sizeS (L'.take j)))), (106, .p (rowP L')), (107, .p (ii (L'.map Bt.pv).length)), (108, .p (ii (j : Nat)))], rfT cap L' l a' b0))
              (fun j => j ≤ L'.length) (fun j => L'.length - j) 0 (Nat.zero_le _) (Trim.mk' ?_ ?_ rfl ?_ ?_) ?_
            · rfl
            · rfl
            · rfl
            · exact Nat.le_refl _
            intro j hj
            have hj : j ≤ L'.length := hj
            refine Br.mk (fun hc => ?_) (fun hc => ?_)
            · have hj1 : j < L'.length := by have hc : (j : Int) < ((L'.map Bt.pv).length : Nat) := of_decide_eq_true hc; rw [List.length_map] at hc; omega
              have ej : IntKind.i64.wrap ((j : Int) + 1) = ((j + 1 : Nat) : Int) := by rw [wrap_i64] <;> omega
              refine Idx.mk _ (Int.natCast_nonneg _) (getL hj1) ?_
              refine Ob.mk (okst rfl rfl rfl) ?_
              refine size_c L'[j] (hszs _ (List.getElem_mem hj1)) _ _ ?_
              have hs : IntKind.i64.wrap (sizeS (L'.take j) + sizeV L'[j]) = sizeS (L'.take (j + 1)) := by unfold sizeS; rw [take_succ' hj1, List.foldl_append]; rfl
              refine ⟨j + 1, hj1, by show L'.length - (j + 1) < L'.length - j; omega, Nat.le_refl _, Trim.mk' ?_ rfl rfl rfl (show 6 ≤ 7 by decide)⟩
              refine Eq.trans (b := [_, _, _, _, _, (16, AV.p (ii (IntKind.i64.wrap (sizeS (L'.take j) + sizeV L'[j])))), _, _, (108, AV.p (ii (IntKind.i64.wrap ((j : Int) + 1))))]) rfl ?_
              rw [ej, hs]; rfl
            · have hj2 : j = L'.length := by have hc : ¬ (j : Int) < ((L'.map Bt.pv).length : Nat) := of_decide_eq_false hc; rw [List.length_map] at hc; omega
              subst hj2
              rw [List.take_length]
              refine Br.f hfin ?_
              refine ⟨(L', a', i + 1), hnx, hms, Nat.le_refl _, Trim.mk' ?_ rfl rfl rfl (show 5 ≤ 6 by decide)⟩
              refine Eq.trans (b := [_, _, _, _, (10, AV.p (ii (IntKind.i64.wrap (((i : Nat) : Int) + 1))))]) rfl ?_
              rw [ei]; rfl
      | true =>
        have hbR := hRs _ (List.getElem_mem hiR)
        have hgR := getL hiR
        generalize R[i] = b1 at hbR hgR
        clear hRs hR hlmR hiR hb0
        have hb0 := hbR
        repeat' (first
          | (apply Br.t; · (first | rfl | (simp only [*] <;> rfl)))
          | (apply Br.f; · (first | rfl | (simp only [*] <;> rfl)))
          | refine Ob.mk (okst rfl rfl rfl) ?_
          | refine Ob.mk (by decide) ?_
          | refine Idx.mk _ (Int.natCast_nonneg _) hgR ?_
          | refine Cal.frameK [0, 1, 2, 3] (hp1 _ fun _ => ?_) rfl rfl rfl
          | refine Cal.frameK [0, 1, 2, 3] (hp2 _ fun _ => ?_) rfl rfl rfl
          | refine Br.mkT (fun c => ?_) (fun c => ?_)
          | refine Br.mkF (fun c => ?_) (fun c => ?_)
          | refine Br.mk (fun c => ?_) (fun c => ?_))
        · refine Cal.frameK [0, 1, 2, 3] (hmk b1.prod b1.epoch b1.mark _ fun _ => ?_) rfl rfl rfl
          have hans := hma b1.prod b1.epoch b1.mark
          generalize markV cap 0 L b1.prod b1.epoch b1.mark = r at hans ⊢
          clear hp1 hp2 hmk hpd hma hpa
          obtain ⟨⟨n, e⟩, L'⟩ := r
          obtain ⟨m1, m2, m3, m4⟩ := hans
          have m1 : RowC 0 L' := m1
          have m2 : L'.length ≤ L.length + 1 := m2
          have m3 : sizeS L' ≤ cap := m3 hsz
          have m4 : e ≠ 0 → n = -1 ∧ L' = L := m4
          have hL'l : L'.length ≤ 1000000000 := by omega
          have hbt := fun K => lbats_c 0 0 0 cap 0 L' hL'l m1.recs K
          have hnx : RowC 0 L' ∧ L'.length ≤ i + 1 ∧ a' ≤ l.length ∧ i + 1 ≤ 40 ∧ sizeS L' ≤ cap := ⟨m1, by omega, ha', by omega, m3⟩
          have hms : 40 - (i + 1) < 40 - i := by omega
          have hszs : ∀ y, y ∈ L' → y.small := m1.smalls
          have hlm := rowL L'
          have hlm0 := rowL L
          have hLl : L.length ≤ 1000000000 := by omega
          clear hc hL hi ha h hb0 hC
          have hfin : decide (sizeS L' > cap) = false := decide_eq_false (by omega)
          cases k1 : (e != 0) with
          | true =>
            obtain ⟨q1, q2⟩ := m4 (by simpa using k1)
            subst q1
            subst q2
            have hpr := fun K => lprods_c 0 0 0 cap 0 L' hL'l K
            have hrw := fun s K => rows_c L' hL'l m1.recs s K
            have hall := fun s K => allCC (dFold L').1 (by have := (dFold_inv L').2.1; omega) (dFold_inv L').1 s K
            generalize (dFold L').1 = P at hpr hall ⊢
            have k0 : (e == 0) = false := by simpa using k1
            clear m1 m2 m3 m4 hlm0
            repeat' (first
              | (apply Br.t; · (first | rfl | (simp only [*] <;> rfl)))
              | (apply Br.f; · (first | rfl | (simp only [*] <;> rfl)))
              | refine Ob.mk (okst rfl rfl rfl) ?_
              | refine Cal.frameK [0, 1, 2, 3] (hbt _ fun _ => ?_) rfl rfl rfl
              | refine Cal.frameK [0, 1, 2, 3] (hpr _ fun _ => ?_) rfl rfl rfl
              | refine hrw _ _ ?_
              | refine hall _ _ ?_
              | refine Br.mkT (fun c => ?_) (fun c => ?_)
              | refine Br.mkF (fun c => ?_) (fun c => ?_)
              | refine Br.mk (fun c => ?_) (fun c => ?_))
            refine LoopX.fam [1, 7, 8, 9, 10, 16, 106, 107, 108] (fun (j : Nat) => ([(1, .p (rowP R)), (7, .p (ii cap)), (8, .ref 0 0), (9, .ref 4 0), (10, .p (ii (i : Nat))), (16, .p (ii (sizeS (L'.take j)))), (106, .p (rowP L')), (107, .p (ii (L'.map Bt.pv).length)), (108, .p (ii (j : Nat)))], rfT cap L' l a' b1))
              (fun j => j ≤ L'.length) (fun j => L'.length - j) 0 (Nat.zero_le _) (Trim.mk' ?_ ?_ rfl ?_ ?_) ?_
            · rfl
            · rfl
            · rfl
            · exact Nat.le_refl _
            intro j hj
            have hj : j ≤ L'.length := hj
            refine Br.mk (fun hc => ?_) (fun hc => ?_)
            · have hj1 : j < L'.length := by have hc : (j : Int) < ((L'.map Bt.pv).length : Nat) := of_decide_eq_true hc; rw [List.length_map] at hc; omega
              have ej : IntKind.i64.wrap ((j : Int) + 1) = ((j + 1 : Nat) : Int) := by rw [wrap_i64] <;> omega
              refine Idx.mk _ (Int.natCast_nonneg _) (getL hj1) ?_
              refine Ob.mk (okst rfl rfl rfl) ?_
              refine size_c L'[j] (hszs _ (List.getElem_mem hj1)) _ _ ?_
              have hs : IntKind.i64.wrap (sizeS (L'.take j) + sizeV L'[j]) = sizeS (L'.take (j + 1)) := by unfold sizeS; rw [take_succ' hj1, List.foldl_append]; rfl
              refine ⟨j + 1, hj1, by show L'.length - (j + 1) < L'.length - j; omega, Nat.le_refl _, Trim.mk' ?_ rfl rfl rfl (show 6 ≤ 7 by decide)⟩
              refine Eq.trans (b := [_, _, _, _, _, (16, AV.p (ii (IntKind.i64.wrap (sizeS (L'.take j) + sizeV L'[j])))), _, _, (108, AV.p (ii (IntKind.i64.wrap ((j : Int) + 1))))]) rfl ?_
              rw [ej, hs]; rfl
            · have hj2 : j = L'.length := by have hc : ¬ (j : Int) < ((L'.map Bt.pv).length : Nat) := of_decide_eq_false hc; rw [List.length_map] at hc; omega
              subst hj2
              rw [List.take_length]
              refine Br.f hfin ?_
              refine ⟨(L', a', i + 1), hnx, hms, Nat.le_refl _, Trim.mk' ?_ rfl rfl rfl (show 5 ≤ 6 by decide)⟩
              refine Eq.trans (b := [_, _, _, _, (10, AV.p (ii (IntKind.i64.wrap (((i : Nat) : Int) + 1))))]) rfl ?_
              rw [ei]; rfl
          | false =>
            have he : e = 0 := by simpa using k1
            subst he
            have hlt : decide (((L'.map Bt.pv).length : Int) > IntKind.i64.wrap (((L.map Bt.pv).length : Int) + 1)) = false := by
              rw [hlm, hlm0, wrap_i64 (by omega) (by omega)]
              exact decide_eq_false (by omega)
            clear m1 m2 m3 m4 hlm0 hlm k1
            repeat' (first
              | (apply Br.t; · (first | rfl | (simp only [*] <;> rfl)))
              | (apply Br.f; · (first | rfl | (simp only [*] <;> rfl)))
              | refine Ob.mk (okst rfl rfl rfl) ?_
              | refine Cal.frameK [0, 1, 2, 3] (hbt _ fun _ => ?_) rfl rfl rfl
              | refine Br.mkT (fun c => ?_) (fun c => ?_)
              | refine Br.mkF (fun c => ?_) (fun c => ?_)
              | refine Br.mk (fun c => ?_) (fun c => ?_))
            refine LoopX.fam [1, 7, 8, 9, 10, 16, 106, 107, 108] (fun (j : Nat) => ([(1, .p (rowP R)), (7, .p (ii cap)), (8, .ref 0 0), (9, .ref 4 0), (10, .p (ii (i : Nat))), (16, .p (ii (sizeS (L'.take j)))), (106, .p (rowP L')), (107, .p (ii (L'.map Bt.pv).length)), (108, .p (ii (j : Nat)))], rfT cap L' l a' b1))
              (fun j => j ≤ L'.length) (fun j => L'.length - j) 0 (Nat.zero_le _) (Trim.mk' ?_ ?_ rfl ?_ ?_) ?_
            · rfl
            · rfl
            · rfl
            · exact Nat.le_refl _
            intro j hj
            have hj : j ≤ L'.length := hj
            refine Br.mk (fun hc => ?_) (fun hc => ?_)
            · have hj1 : j < L'.length := by have hc : (j : Int) < ((L'.map Bt.pv).length : Nat) := of_decide_eq_true hc; rw [List.length_map] at hc; omega
              have ej : IntKind.i64.wrap ((j : Int) + 1) = ((j + 1 : Nat) : Int) := by rw [wrap_i64] <;> omega
              refine Idx.mk _ (Int.natCast_nonneg _) (getL hj1) ?_
              refine Ob.mk (okst rfl rfl rfl) ?_
              refine size_c L'[j] (hszs _ (List.getElem_mem hj1)) _ _ ?_
              have hs : IntKind.i64.wrap (sizeS (L'.take j) + sizeV L'[j]) = sizeS (L'.take (j + 1)) := by unfold sizeS; rw [take_succ' hj1, List.foldl_append]; rfl
              refine ⟨j + 1, hj1, by show L'.length - (j + 1) < L'.length - j; omega, Nat.le_refl _, Trim.mk' ?_ rfl rfl rfl (show 6 ≤ 7 by decide)⟩
              refine Eq.trans (b := [_, _, _, _, _, (16, AV.p (ii (IntKind.i64.wrap (sizeS (L'.take j) + sizeV L'[j])))), _, _, (108, AV.p (ii (IntKind.i64.wrap ((j : Int) + 1))))]) rfl ?_
              rw [ej, hs]; rfl
            · have hj2 : j = L'.length := by have hc : ¬ (j : Int) < ((L'.map Bt.pv).length : Nat) := of_decide_eq_false hc; rw [List.length_map] at hc; omega
              subst hj2
              rw [List.take_length]
              refine Br.f hfin ?_
              refine ⟨(L', a', i + 1), hnx, hms, Nat.le_refl _, Trim.mk' ?_ rfl rfl rfl (show 5 ≤ 6 by decide)⟩
              refine Eq.trans (b := [_, _, _, _, (10, AV.p (ii (IntKind.i64.wrap (((i : Nat) : Int) + 1))))]) rfl ?_
              rw [ei]; rfl
        · refine Cal.frameK [0, 1, 2, 3] (hpd b1 hb0 _ fun _ => ?_) rfl rfl rfl
          have hans := hpa b1
          generalize prodV cap 0 L b1 = r at hans ⊢
          clear hp1 hp2 hmk hpd hma hpa
          obtain ⟨⟨n, e⟩, L'⟩ := r
          obtain ⟨m1, m2, m3, m4⟩ := hans
          have m1 : RowC 0 L' := m1
          have m2 : L'.length ≤ L.length + 1 := m2
          have m3 : sizeS L' ≤ cap := m3 hsz
          have m4 : e ≠ 0 → n = -1 ∧ L' = L := m4
          have hL'l : L'.length ≤ 1000000000 := by omega
          have hbt := fun K => lbats_c 0 0 0 cap 0 L' hL'l m1.recs K
          have hnx : RowC 0 L' ∧ L'.length ≤ i + 1 ∧ a' ≤ l.length ∧ i + 1 ≤ 40 ∧ sizeS L' ≤ cap := ⟨m1, by omega, ha', by omega, m3⟩
          have hms : 40 - (i + 1) < 40 - i := by omega
          have hszs : ∀ y, y ∈ L' → y.small := m1.smalls
          have hlm := rowL L'
          have hlm0 := rowL L
          have hLl : L.length ≤ 1000000000 := by omega
          clear hc hL hi ha h hb0 hC
          have hfin : decide (sizeS L' > cap) = false := decide_eq_false (by omega)
          cases k1 : (e != 0) with
          | true =>
            obtain ⟨q1, q2⟩ := m4 (by simpa using k1)
            subst q1
            subst q2
            have hpr := fun K => lprods_c 0 0 0 cap 0 L' hL'l K
            have hrw := fun s K => rows_c L' hL'l m1.recs s K
            have hall := fun s K => allCC (dFold L').1 (by have := (dFold_inv L').2.1; omega) (dFold_inv L').1 s K
            generalize (dFold L').1 = P at hpr hall ⊢
            have k0 : (e == 0) = false := by simpa using k1
            clear m1 m2 m3 m4 hlm0
            repeat' (first
              | (apply Br.t; · (first | rfl | (simp only [*] <;> rfl)))
              | (apply Br.f; · (first | rfl | (simp only [*] <;> rfl)))
              | refine Ob.mk (okst rfl rfl rfl) ?_
              | refine Cal.frameK [0, 1, 2, 3] (hbt _ fun _ => ?_) rfl rfl rfl
              | refine Cal.frameK [0, 1, 2, 3] (hpr _ fun _ => ?_) rfl rfl rfl
              | refine hrw _ _ ?_
              | refine hall _ _ ?_
              | refine Br.mkT (fun c => ?_) (fun c => ?_)
              | refine Br.mkF (fun c => ?_) (fun c => ?_)
              | refine Br.mk (fun c => ?_) (fun c => ?_))
            refine LoopX.fam [1, 7, 8, 9, 10, 16, 106, 107, 108] (fun (j : Nat) => ([(1, .p (rowP R)), (7, .p (ii cap)), (8, .ref 0 0), (9, .ref 4 0), (10, .p (ii (i : Nat))), (16, .p (ii (sizeS (L'.take j)))), (106, .p (rowP L')), (107, .p (ii (L'.map Bt.pv).length)), (108, .p (ii (j : Nat)))], rfT cap L' l a' b1))
              (fun j => j ≤ L'.length) (fun j => L'.length - j) 0 (Nat.zero_le _) (Trim.mk' ?_ ?_ rfl ?_ ?_) ?_
            · rfl
            · rfl
            · rfl
            · exact Nat.le_refl _
            intro j hj
            have hj : j ≤ L'.length := hj
            refine Br.mk (fun hc => ?_) (fun hc => ?_)
            · have hj1 : j < L'.length := by have hc : (j : Int) < ((L'.map Bt.pv).length : Nat) := of_decide_eq_true hc; rw [List.length_map] at hc; omega
              have ej : IntKind.i64.wrap ((j : Int) + 1) = ((j + 1 : Nat) : Int) := by rw [wrap_i64] <;> omega
              refine Idx.mk _ (Int.natCast_nonneg _) (getL hj1) ?_
              refine Ob.mk (okst rfl rfl rfl) ?_
              refine size_c L'[j] (hszs _ (List.getElem_mem hj1)) _ _ ?_
              have hs : IntKind.i64.wrap (sizeS (L'.take j) + sizeV L'[j]) = sizeS (L'.take (j + 1)) := by unfold sizeS; rw [take_succ' hj1, List.foldl_append]; rfl
              refine ⟨j + 1, hj1, by show L'.length - (j + 1) < L'.length - j; omega, Nat.le_refl _, Trim.mk' ?_ rfl rfl rfl (show 6 ≤ 7 by decide)⟩
              refine Eq.trans (b := [_, _, _, _, _, (16, AV.p (ii (IntKind.i64.wrap (sizeS (L'.take j) + sizeV L'[j])))), _, _, (108, AV.p (ii (IntKind.i64.wrap ((j : Int) + 1))))]) rfl ?_
              rw [ej, hs]; rfl
            · have hj2 : j = L'.length := by have hc : ¬ (j : Int) < ((L'.map Bt.pv).length : Nat) := of_decide_eq_false hc; rw [List.length_map] at hc; omega
              subst hj2
              rw [List.take_length]
              refine Br.f hfin ?_
              refine ⟨(L', a', i + 1), hnx, hms, Nat.le_refl _, Trim.mk' ?_ rfl rfl rfl (show 5 ≤ 6 by decide)⟩
              refine Eq.trans (b := [_, _, _, _, (10, AV.p (ii (IntKind.i64.wrap (((i : Nat) : Int) + 1))))]) rfl ?_
              rw [ei]; rfl
          | false =>
            have he : e = 0 := by simpa using k1
            subst he
            have hlt : decide (((L'.map Bt.pv).length : Int) > IntKind.i64.wrap (((L.map Bt.pv).length : Int) + 1)) = false := by
              rw [hlm, hlm0, wrap_i64 (by omega) (by omega)]
              exact decide_eq_false (by omega)
            clear m1 m2 m3 m4 hlm0 hlm k1
            repeat' (first
              | (apply Br.t; · (first | rfl | (simp only [*] <;> rfl)))
              | (apply Br.f; · (first | rfl | (simp only [*] <;> rfl)))
              | refine Ob.mk (okst rfl rfl rfl) ?_
              | refine Cal.frameK [0, 1, 2, 3] (hbt _ fun _ => ?_) rfl rfl rfl
              | refine Br.mkT (fun c => ?_) (fun c => ?_)
              | refine Br.mkF (fun c => ?_) (fun c => ?_)
              | refine Br.mk (fun c => ?_) (fun c => ?_))
            refine LoopX.fam [1, 7, 8, 9, 10, 16, 106, 107, 108] (fun (j : Nat) => ([(1, .p (rowP R)), (7, .p (ii cap)), (8, .ref 0 0), (9, .ref 4 0), (10, .p (ii (i : Nat))), (16, .p (ii (sizeS (L'.take j)))), (106, .p (rowP L')), (107, .p (ii (L'.map Bt.pv).length)), (108, .p (ii (j : Nat)))], rfT cap L' l a' b1))
              (fun j => j ≤ L'.length) (fun j => L'.length - j) 0 (Nat.zero_le _) (Trim.mk' ?_ ?_ rfl ?_ ?_) ?_
            · rfl
            · rfl
            · rfl
            · exact Nat.le_refl _
            intro j hj
            have hj : j ≤ L'.length := hj
            refine Br.mk (fun hc => ?_) (fun hc => ?_)
            · have hj1 : j < L'.length := by have hc : (j : Int) < ((L'.map Bt.pv).length : Nat) := of_decide_eq_true hc; rw [List.length_map] at hc; omega
              have ej : IntKind.i64.wrap ((j : Int) + 1) = ((j + 1 : Nat) : Int) := by rw [wrap_i64] <;> omega
              refine Idx.mk _ (Int.natCast_nonneg _) (getL hj1) ?_
              refine Ob.mk (okst rfl rfl rfl) ?_
              refine size_c L'[j] (hszs _ (List.getElem_mem hj1)) _ _ ?_
              have hs : IntKind.i64.wrap (sizeS (L'.take j) + sizeV L'[j]) = sizeS (L'.take (j + 1)) := by unfold sizeS; rw [take_succ' hj1, List.foldl_append]; rfl
              refine ⟨j + 1, hj1, by show L'.length - (j + 1) < L'.length - j; omega, Nat.le_refl _, Trim.mk' ?_ rfl rfl rfl (show 6 ≤ 7 by decide)⟩
              refine Eq.trans (b := [_, _, _, _, _, (16, AV.p (ii (IntKind.i64.wrap (sizeS (L'.take j) + sizeV L'[j])))), _, _, (108, AV.p (ii (IntKind.i64.wrap ((j : Int) + 1))))]) rfl ?_
              rw [ej, hs]; rfl
            · have hj2 : j = L'.length := by have hc : ¬ (j : Int) < ((L'.map Bt.pv).length : Nat) := of_decide_eq_false hc; rw [List.length_map] at hc; omega
              subst hj2
              rw [List.take_length]
              refine Br.f hfin ?_
              refine ⟨(L', a', i + 1), hnx, hms, Nat.le_refl _, Trim.mk' ?_ rfl rfl rfl (show 5 ≤ 6 by decide)⟩
              refine Eq.trans (b := [_, _, _, _, (10, AV.p (ii (IntKind.i64.wrap (((i : Nat) : Int) + 1))))]) rfl ?_
              rw [ei]; rfl
  · refine known15_c _ _ ?_
    exact h
end Go.Proofs.YtjhgmaephpadpaaGreat.AW
