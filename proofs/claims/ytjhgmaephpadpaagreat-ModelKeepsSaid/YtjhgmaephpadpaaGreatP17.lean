/- A part of the proof: LG/M7, LG/M8, LG/M9, LG/M10, LG/M11, LG/M1, LG/M2, LG/M3, LG/M4, LG/M5, LG/M6, LG/M12. -/
import Derived.Test.YtjhgmaephpadpaaGreatP15
import Derived.Test.YtjhgmaephpadpaaGreatP16

open Go Go.Proofs.YtjhgmaephpadpaaGreat.AW Go.Proofs
namespace Go.Proofs.YtjhgmaephpadpaaGreat.AW
set_option maxRecDepth 100000
set_option linter.unusedSimpArgs false
set_option linter.unusedVariables false

/-! ### batch.Copy, batch.Copies, fold.End of an owned row -/
theorem bcopy_c (b : Bt) (hb : b.recs.length ≤ 1000000000) (s : Store) (K : AV → Store → Prop) (h : K (.p b.pv) s) : Cal Tryz.prog 75 [.p b.pv] s K := by
  refine Cal.pure (args := [b.pv]) ?_
  refine Cal.weakD ?_
  refine Cal.intro Tryz.func75 (by decide +kernel) rfl rfl ?_
  refine clone_rec _ (by rw [List.length_map]; exact hb) _ _ ?_
  refine clip_rec _ _ _ ?_
  refine Ob.mk (okst rfl rfl rfl) ?_
  refine Ob.mk (okst rfl rfl rfl) ?_
  exact ⟨_, b.pv, rfl, .agg _ _ (.cons _ _ _ _ (.refl _) (.cons _ _ _ _ (.refl _) (.cons _ _ _ _ (.refl _) (.cons _ _ _ _ (.refl _) (.cons _ _ _ _ (.refl _) (.cons _ _ _ _ (.refl _) (.cons _ _ _ _ (.sl .clip 2 _ _ rfl rec_el (wkds_refl _)) .nil))))))), h⟩
def bufR (L : List Bt) : Option AObj := some (.buf 7 (L.map Bt.pv))
theorem clip_bo (L : List Bt) (K : AV → Store → Prop) (h : K (.osl 0 L.length 0 L.length) [bufR L]) : Cal Tryz.prog 76 [.osl 0 L.length 0 L.length] [bufR L] K := by
  refine Cal.intro Tryz.func76 (by decide +kernel) rfl rfl ?_
  refine Ob.mk ⟨rowL L, Int.le_refl 0, Int.natCast_nonneg _, rfl, Int.le_refl _⟩ ?_
  have e : (((L.length : Nat) : Int) - 0).toNat = L.length := by omega
  show K (.osl 0 L.length (0 + (0 : Int).toNat) (((L.length : Nat) : Int) - 0).toNat) [bufR L]
  rw [e]; exact h
set_option maxHeartbeats 4000000 in
theorem copies_c (L : List Bt) (hL : L.length ≤ 1000000000) (hb : ∀ b, b ∈ L → b.recs.length ≤ 1000000000) (K : AV → Store → Prop) (h : K (.osl 0 L.length 0 L.length) [bufR L]) : Cal Tryz.prog 40 [.p (rowP L)] [] K := by
  refine Cal.intro Tryz.func40 (by decide +kernel) rfl rfl ?_
  have hlm := rowL L
  refine LoopX.famW [3, 6, 7, 8] (fun (j : Nat) => ([(3, .osl 0 (L.take j).length 0 (L.take j).length), (6, .p (rowP L)), (7, .p (ii (L.map Bt.pv).length)), (8, .p (ii (j : Nat)))], [bufR (L.take j)]))
    (fun j => j ≤ L.length) (fun j => L.length - j) 0 (Nat.zero_le _) (by show 0 ≤ 1; decide) (Trim.wk 0 [(7, none)] rfl (by show 0 ≤ 0; decide) (.inr rfl) rfl rfl rfl rfl rfl ⟨.own 0 rfl rfl, .inl rfl, .inl rfl, .inl rfl, trivial⟩) ?_
  intro j hj
  have hj : j ≤ L.length := hj
  have hlt : (L.take j).length = j := by rw [List.length_take]; omega
  refine Br.mk (fun hc => ?_) (fun hc => ?_)
  · have hc : (j : Int) < ((L.map Bt.pv).length : Nat) := of_decide_eq_true hc
    have hj1 : j < L.length := by omega
    have ej : IntKind.i64.wrap ((j : Int) + 1) = ((j + 1 : Nat) : Int) := by rw [wrap_i64] <;> omega
    refine Idx.mk _ (Int.natCast_nonneg _) (getL hj1) ?_
    refine Ob.mk (okst rfl rfl rfl) ?_
    refine bcopy_c L[j] (hb _ (List.getElem_mem hj1)) _ _ ?_
    refine Ob.mk ⟨rowL _, rfl, rfl, ?_⟩ ?_
    · show ((L.take j).length + 1) * 72 ≤ _; omega
    have hs : L.take (j + 1) = L.take j ++ [L[j]] := take_succ' hj1
    refine ⟨j + 1, hj1, by show L.length - (j + 1) < L.length - j; omega, (by show (0 : Nat) ≤ 1; decide), Trim.mk' ?_ ?_ rfl rfl (show (1 : Nat) ≤ 2 by decide)⟩
    · refine Eq.trans (b := [(3, .osl 0 ((L.take j).map Bt.pv ++ [L[j].pv]).length 0 ((L.take j).map Bt.pv ++ [L[j].pv]).length), _, _, (8, AV.p (ii (IntKind.i64.wrap ((j : Int) + 1))))]) rfl ?_
      rw [ej, hs]
      have : ((L.take j).map Bt.pv ++ [L[j].pv]).length = (L.take j ++ [L[j]]).length := by rw [List.length_append, List.length_append, List.length_map]; rfl
      rw [this]; rfl
    · show [some (AObj.buf 7 ((L.take j).map Bt.pv ++ [L[j].pv]) none)] = _
      rw [hs]; unfold bufR; rw [List.map_append]; rfl
  · have hc : ¬ (j : Int) < ((L.map Bt.pv).length : Nat) := of_decide_eq_false hc
    have : j = L.length := by omega
    subst this
    rw [List.take_length]
    exact clip_bo L _ h
theorem fend_c (L : List Bt) (st : Int) (hL : L.length < 4611686018427387904) (s : Store) (K : AV → Store → Prop) (h : K (.p (ii (endW st L))) s) : Cal Tryz.prog 38 [.p (ii st), .p (rowP L)] s K := by
  refine Cal.pure (args := [ii st, rowP L]) ?_
  refine Cal.intro Tryz.func38 (by decide +kernel) rfl rfl ?_
  refine segnext_c _ _ hL _ _ ?_
  exact h
theorem cutR (L : List Bt) : (((L.map Bt.pv).drop 0).take L.length) = L.map Bt.pv := by rw [List.drop_zero, ← rowL L, List.take_length]
theorem fend_o (L : List Bt) (st : Int) (hL : L.length < 4611686018427387904) (K : AV → Store → Prop) (h : K (.p (ii (endW st L))) [bufR L]) : Cal Tryz.prog 38 [.p (ii st), .osl 0 L.length 0 L.length] [bufR L] K :=
  Cal.lend (ps := [ii st, rowP L]) (Ob.mk (rowL L) (by show [ii st, PV.sl .shr 7 (((L.map Bt.pv).drop 0).take L.length)] = _; rw [cutR]; rfl)) (fend_c L st hL _ _ rfl) rfl h

/-! ### model.With, model.New -/
def lcC (c0 c1 c2 cap st : Int) (L : List Bt) (b m : Nat) (sz : Int) : Option AObj := some (.cells [.p (ii c0), .p (ii c1), .p (ii c2), .p (ii cap), .p (ii st), .osl b L.length 0 L.length, .ref m 0, .p (ii sz)])
def cfC (c0 c1 c2 cap : Int) : Option AObj := some (.cells [.p (ii c0), .p (ii c1), .p (ii c2), .p (ii cap)])
def mpC (L : List Bt) : Option AObj := some (.map (.int .i64) ((tApps ([], 0) L).1.map tent) (tApps ([], 0) L).2)
def lgS (c0 c1 c2 cap st : Int) (L : List Bt) : Store := [lcC c0 c1 c2 cap st L 1 3 (sizeS L), bufR L, mpC L, some (.cells [.map 2])]
def cfP (c0 c1 c2 cap : Int) : PV := .agg [ii c0, ii c1, ii c2, ii cap]
theorem tfold_s (L : List Bt) (hL : L.length ≤ 1000000000) (hb : ∀ b, b ∈ L → b.small) (K : AV → Store → Prop) (h : K (.ref 1 0) [mpC L, some (.cells [.map 0])]) : Cal Tryz.prog 59 [.p (rowP L)] [] K := tfold_c L hL hb K h
set_option maxHeartbeats 4000000 in
theorem with_c (c0 c1 c2 cap st : Int) (L : List Bt) (hL : L.length ≤ 1000000000) (hb : ∀ b, b ∈ L → b.small) (hr : ∀ b, b ∈ L → b.recs.length ≤ 1000000000) (K : AV → Store → Prop) (h : K (.ref 0 0) (lgS c0 c1 c2 cap st L)) : Cal Tryz.prog 29 [.p (cfP c0 c1 c2 cap), .p (ii st), .p (rowP L)] [] K := by
  refine Cal.mvOut ?_
  refine Cal.intro Tryz.func29 (by decide +kernel) rfl rfl ?_
  have hlm := rowL L
  repeat' (first
    | refine Chk.mk (by kernel_rfl) ?_
    | (apply Br.t; · (first | rfl | (simp only [*] <;> rfl)))
    | (apply Br.f; · (first | rfl | (simp only [*] <;> rfl)))
    | refine ⟨_, ⟨rfl, rfl⟩, ?_⟩
    | refine ⟨_, _, ⟨rfl, rfl⟩, rfl, ?_⟩
    | refine .inr <| .inl ⟨[], _, _, _, _, copies_c L hL hr _ ⟨rfl, rfl⟩, rfl, rfl, rfl, ?_⟩
    | refine .inr <| .inl ⟨[], _, _, _, _, tfold_s L hL hb _ ⟨rfl, rfl⟩, rfl, rfl, rfl, ?_⟩
    | refine ⟨_, Ob.mk (by decide) ⟨rfl, rfl⟩, ?_⟩
    | (refine ⟨_, Br.t ?_ ⟨rfl, rfl⟩, ?_⟩; · (first | rfl | (simp only [*] <;> rfl)))
    | (refine ⟨_, Br.f ?_ ⟨rfl, rfl⟩, ?_⟩; · (first | rfl | (simp only [*] <;> rfl)))
    | refine ⟨_, _, Ob.mk (okst rfl rfl rfl) ⟨rfl, rfl⟩, rfl, ?_⟩
    | refine Ob.mk (okst rfl rfl rfl) ?_
    | refine Ob.mk (by decide) ?_
    | refine Br.mkT (fun c => ?_) (fun c => ?_)
    | refine Br.mkF (fun c => ?_) (fun c => ?_)
    | refine Br.mk (fun c => ?_) (fun c => ?_))
  refine LoopX.fam [7, 18, 19, 20] (fun (j : Nat) => ([(7, .ref 4 0), (18, .p (rowP L)), (19, .p (ii (L.map Bt.pv).length)), (20, .p (ii (j : Nat)))], [cfC c0 c1 c2 cap, bufR L, mpC L, some (.cells [.map 2]), lcC c0 c1 c2 cap st L 1 3 (sizeS (L.take j))]))
    (fun j => j ≤ L.length) (fun j => L.length - j) 0 (Nat.zero_le _) (Trim.mk' rfl rfl rfl rfl (Nat.le_refl _)) ?_
  intro j hj
  have hj : j ≤ L.length := hj
  refine Br.mk (fun hc => ?_) (fun hc => ?_)
  · have hc : (j : Int) < ((L.map Bt.pv).length : Nat) := of_decide_eq_true hc
    have hj1 : j < L.length := by omega
    have ej : IntKind.i64.wrap ((j : Int) + 1) = ((j + 1 : Nat) : Int) := by rw [wrap_i64] <;> omega
    have hbj := hb _ (List.getElem_mem hj1)
    refine Idx.mk _ (Int.natCast_nonneg _) (getL hj1) ?_
    refine Ob.mk (okst rfl rfl rfl) ?_
    have hs : IntKind.i64.wrap (sizeS (L.take j) + sizeV L[j]) = sizeS (L.take (j + 1)) := by unfold sizeS; rw [take_succ' hj1, List.foldl_append]; rfl
    repeat' (first
      | refine Chk.mk (by kernel_rfl) ?_
      | (apply Br.t; · (first | rfl | (simp only [*] <;> rfl)))
      | (apply Br.f; · (first | rfl | (simp only [*] <;> rfl)))
      | refine ⟨_, ⟨rfl, rfl⟩, ?_⟩
      | refine ⟨_, _, ⟨rfl, rfl⟩, rfl, ?_⟩
      | refine Or.inl ⟨_, fun s' => size2_c L[j] hbj s' _ ⟨rfl, rfl⟩, rfl, ?_⟩
      | refine ⟨_, Ob.mk (by decide) ⟨rfl, rfl⟩, ?_⟩
      | (refine ⟨_, Br.t ?_ ⟨rfl, rfl⟩, ?_⟩; · (first | rfl | (simp only [*] <;> rfl)))
      | (refine ⟨_, Br.f ?_ ⟨rfl, rfl⟩, ?_⟩; · (first | rfl | (simp only [*] <;> rfl)))
      | refine ⟨_, _, Ob.mk (okst rfl rfl rfl) ⟨rfl, rfl⟩, rfl, ?_⟩
      | refine Ob.mk (okst rfl rfl rfl) ?_
      | refine Ob.mk (by decide) ?_
      | refine Br.mkT (fun c => ?_) (fun c => ?_)
      | refine Br.mkF (fun c => ?_) (fun c => ?_)
      | refine Br.mk (fun c => ?_) (fun c => ?_))
    refine ⟨j + 1, hj1, by show L.length - (j + 1) < L.length - j; omega, Nat.le_refl _, Trim.mk' ?_ ?_ rfl rfl (show 5 ≤ 6 by decide)⟩
    · refine Eq.trans (b := [_, _, _, (20, AV.p (ii (IntKind.i64.wrap ((j : Int) + 1))))]) rfl ?_
      rw [ej]; rfl
    · refine Eq.trans (b := [_, _, _, _, lcC c0 c1 c2 cap st L 1 3 (IntKind.i64.wrap (sizeS (L.take j) + sizeV L[j]))]) rfl ?_
      rw [hs]
  · have hc : ¬ (j : Int) < ((L.map Bt.pv).length : Nat) := of_decide_eq_false hc
    have : j = L.length := by omega
    subst this
    rw [List.take_length]
    exact ⟨[4, 1, 2, 3], .ref 0 0, lgS c0 c1 c2 cap st L, rfl, rfl, rfl, h⟩
theorem new_c (c0 c1 c2 cap : Int) (K : AV → Store → Prop) (h : K (.ref 0 0) (lgS c0 c1 c2 cap 0 [])) : Cal Tryz.prog 8 [.p (cfP c0 c1 c2 cap)] [] K := by
  refine Cal.mvOut ?_
  refine Cal.intro Tryz.func8 (by decide +kernel) rfl rfl ?_
  have hw : ∀ K : AV → Store → Prop, K (.ref 0 0) (lgS c0 c1 c2 cap 0 []) → Cal Tryz.prog 29 [.p (cfP c0 c1 c2 cap), .p (ii 0), .p (.sl .nil 0 [])] [] K := fun K hK =>
    Cal.argsD (args' := [.p (cfP c0 c1 c2 cap), .p (ii 0), .p (rowP [])]) (with_c c0 c1 c2 cap 0 [] (by decide) (fun b hb => by cases hb) (fun b hb => by cases hb) K hK) ⟨.inl rfl, .inl rfl, .inr ⟨_, _, rfl, rfl, .nil 0 .shr 7⟩, trivial⟩
  refine Cal.frameK [] (hw _ fun _ => ?_) rfl rfl rfl
  exact ⟨[1, 2, 3, 4], .ref 0 0, lgS c0 c1 c2 cap 0 [], rfl, rfl, rfl, h⟩
end Go.Proofs.YtjhgmaephpadpaaGreat.AW


open Go Go.Proofs.YtjhgmaephpadpaaGreat.AW Go.Proofs
namespace Go.Proofs.YtjhgmaephpadpaaGreat.AW
set_option maxRecDepth 100000
set_option linter.unusedSimpArgs false
set_option linter.unusedVariables false

/-! ### A log's End, Batches, Producers, Start -/
theorem tSet_len' (n : Int) (x : Pr) (es : List TE) : (tSet es n x).length = es.length := by
  have := congrArg List.length (tSet_st n x es)
  simpa using this
theorem tApps_len' : ∀ (L : List Bt) (q : List TE × Nat), (tApps q L).1.length ≤ q.1.length + L.length
  | [], q => Nat.le_refl _
  | b :: r, q => by
    have h1 := tApps_len' r (tApp q.1 q.2 b)
    have h2 : (tApp q.1 q.2 b).1.length ≤ q.1.length + 1 := by
      unfold tApp
      split
      · exact Nat.le_succ _
      · show (tPut q.1 q.2 b.prod _).length ≤ _
        unfold tPut
        split
        · rw [tSet_len']; exact Nat.le_succ _
        · rw [List.length_append]; exact Nat.le_refl _
    show (tApps (tApp q.1 q.2 b) r).1.length ≤ q.1.length + (r.length + 1)
    omega
theorem allP_c {L : List Bt} (hL : L.length ≤ 1000000000) (K : AV → Store → Prop) (hk : K (.p (prsC (dFold L).1)) [mpC L, some (.cells [.map 0])]) : Cal Tryz.prog 39 [.ref 1 0] [mpC L, some (.cells [.map 0])] K := by
  have hin : TInv (tApps ([], 0) L).1 (tApps ([], 0) L).2 := TInv.nil.apps
  have hlen := tApps_len' L ([], 0)
  exact tall_c _ _ hin (by simp at hlen; omega) K fun ps hps hpp => by rw [(TRel.row L).all hin hps hpp]; exact hk
theorem lend_c (c0 c1 c2 cap st : Int) (L : List Bt) (hL : L.length ≤ 1000000000) (K : AV → Store → Prop) (h : K (.p (ii (endW st L))) (lgS c0 c1 c2 cap st L)) : Cal Tryz.prog 14 [.ref 0 0] (lgS c0 c1 c2 cap st L) K := by
  refine Cal.intro Tryz.func14 (by decide +kernel) rfl rfl ?_
  repeat' (first
    | refine Chk.mk (by kernel_rfl) ?_
    | (apply Br.t; · (first | rfl | (simp only [*] <;> rfl)))
    | (apply Br.f; · (first | rfl | (simp only [*] <;> rfl)))
    | refine ⟨_, ⟨rfl, rfl⟩, ?_⟩
    | refine ⟨_, _, ⟨rfl, rfl⟩, rfl, ?_⟩
    | refine .inr <| .inr ⟨[1], _, _, _, fend_o L st (by omega) _ ⟨rfl, rfl⟩, rfl, rfl, rfl, ?_⟩
    | refine ⟨_, Ob.mk (by decide) ⟨rfl, rfl⟩, ?_⟩
    | (refine ⟨_, Br.t ?_ ⟨rfl, rfl⟩, ?_⟩; · (first | rfl | (simp only [*] <;> rfl)))
    | (refine ⟨_, Br.f ?_ ⟨rfl, rfl⟩, ?_⟩; · (first | rfl | (simp only [*] <;> rfl)))
    | refine ⟨_, _, Ob.mk (okst rfl rfl rfl) ⟨rfl, rfl⟩, rfl, ?_⟩
    | refine Ob.mk (okst rfl rfl rfl) ?_
    | refine Ob.mk (by decide) ?_
    | refine Br.mkT (fun c => ?_) (fun c => ?_)
    | refine Br.mkF (fun c => ?_) (fun c => ?_)
    | refine Br.mk (fun c => ?_) (fun c => ?_))
  exact h
theorem lprods_c (c0 c1 c2 cap st : Int) (L : List Bt) (hL : L.length ≤ 1000000000) (K : AV → Store → Prop) (h : K (.p (prsC (dFold L).1)) (lgS c0 c1 c2 cap st L)) : Cal Tryz.prog 15 [.ref 0 0] (lgS c0 c1 c2 cap st L) K := by
  refine Cal.intro Tryz.func15 (by decide +kernel) rfl rfl ?_
  refine Cal.frameK [2, 3] (allP_c hL _ fun _ => ?_) rfl rfl rfl
  exact h
theorem lstart_c (c0 c1 c2 cap st : Int) (L : List Bt) (K : AV → Store → Prop) (h : K (.p (ii st)) (lgS c0 c1 c2 cap st L)) : Cal Tryz.prog 24 [.ref 0 0] (lgS c0 c1 c2 cap st L) K := by
  refine Cal.intro Tryz.func24 (by decide +kernel) rfl rfl ?_
  exact h
theorem clip_b1 (L : List Bt) (x : Option AObj) (K : AV → Store → Prop) (h : K (.osl 1 L.length 0 L.length) [x, bufR L]) : Cal Tryz.prog 76 [.osl 1 L.length 0 L.length] [x, bufR L] K := by
  refine Cal.intro Tryz.func76 (by decide +kernel) rfl rfl ?_
  refine Ob.mk ⟨rowL L, Int.le_refl 0, Int.natCast_nonneg _, rfl, Int.le_refl _⟩ ?_
  have e : (((L.length : Nat) : Int) - 0).toNat = L.length := by omega
  show K (.osl 1 L.length (0 + (0 : Int).toNat) (((L.length : Nat) : Int) - 0).toNat) [x, bufR L]
  rw [e]; exact h
set_option maxHeartbeats 4000000 in
theorem copies_o (L : List Bt) (hL : L.length ≤ 1000000000) (hb : ∀ b, b ∈ L → b.recs.length ≤ 1000000000) (K : AV → Store → Prop) (h : K (.osl 1 L.length 0 L.length) [bufR L, bufR L]) : Cal Tryz.prog 40 [.osl 0 L.length 0 L.length] [bufR L] K := by
  refine Cal.intro Tryz.func40 (by decide +kernel) rfl rfl ?_
  have hlm := rowL L
  refine LoopX.famW [3, 6, 7, 8] (fun (j : Nat) => ([(3, .osl 1 (L.take j).length 0 (L.take j).length), (6, .osl 0 L.length 0 L.length), (7, .p (ii L.length)), (8, .p (ii (j : Nat)))], [bufR L, bufR (L.take j)]))
    (fun j => j ≤ L.length) (fun j => L.length - j) 0 (Nat.zero_le _) (by show 1 ≤ 2; decide) (Trim.wk 1 [(7, none)] rfl (by show 1 ≤ 1; decide) (.inr rfl) rfl rfl rfl rfl rfl ⟨.own 1 rfl rfl, .inl rfl, .inl rfl, .inl rfl, trivial⟩) ?_
  intro j hj
  have hj : j ≤ L.length := hj
  have hlt : (L.take j).length = j := by rw [List.length_take]; omega
  refine Br.mk (fun hc => ?_) (fun hc => ?_)
  · have hc : (j : Int) < (L.length : Nat) := of_decide_eq_true hc
    have hj1 : j < L.length := by omega
    have ej : IntKind.i64.wrap ((j : Int) + 1) = ((j + 1 : Nat) : Int) := by rw [wrap_i64] <;> omega
    refine Ob.mk ⟨hlm, Int.natCast_nonneg _, hc⟩ ?_
    have hgl : (L.map Bt.pv)[((0 + ((j : Nat) : Int).toNat : Nat) : Int).toNat]? = some L[j].pv := by rw [Nat.zero_add, Int.toNat_natCast]; exact getL hj1
    refine Ob.mk hlm ?_
    refine Idx.mk _ (Int.natCast_nonneg _) hgl ?_
    refine Ob.mk (okst rfl rfl rfl) ?_
    refine bcopy_c L[j] (hb _ (List.getElem_mem hj1)) _ _ ?_
    refine Ob.mk ⟨rowL _, rfl, rfl, ?_⟩ ?_
    · show ((L.take j).length + 1) * 72 ≤ _; omega
    have hs : L.take (j + 1) = L.take j ++ [L[j]] := take_succ' hj1
    refine ⟨j + 1, hj1, by show L.length - (j + 1) < L.length - j; omega, (by show (1 : Nat) ≤ 2; decide), Trim.mk' ?_ ?_ rfl rfl (show (2 : Nat) ≤ 3 by decide)⟩
    · refine Eq.trans (b := [(3, .osl 1 ((L.take j).map Bt.pv ++ [L[j].pv]).length 0 ((L.take j).map Bt.pv ++ [L[j].pv]).length), _, _, (8, AV.p (ii (IntKind.i64.wrap ((j : Int) + 1))))]) rfl ?_
      rw [ej, hs]
      have : ((L.take j).map Bt.pv ++ [L[j].pv]).length = (L.take j ++ [L[j]]).length := by rw [List.length_append, List.length_append, List.length_map]; rfl
      rw [this]; rfl
    · show [_, some (AObj.buf 7 ((L.take j).map Bt.pv ++ [L[j].pv]) none)] = _
      rw [hs]; unfold bufR; rw [List.map_append]; rfl
  · have hc : ¬ (j : Int) < (L.length : Nat) := of_decide_eq_false hc
    have : j = L.length := by omega
    subst this
    rw [List.take_length]
    exact clip_b1 L _ _ h
theorem lbats_c (c0 c1 c2 cap st : Int) (L : List Bt) (hL : L.length ≤ 1000000000) (hb : ∀ b, b ∈ L → b.recs.length ≤ 1000000000) (K : AV → Store → Prop) (h : K (.p (rowP L)) (lgS c0 c1 c2 cap st L)) : Cal Tryz.prog 16 [.ref 0 0] (lgS c0 c1 c2 cap st L) K := by
  refine Cal.cut ?_
  refine Cal.frz ?_
  refine Cal.intro Tryz.func16 (by decide +kernel) rfl rfl ?_
  refine Cal.frameK [1] (copies_o L hL hb _ fun _ => ?_) rfl rfl rfl
  refine Ob.mk (rowL L) ?_
  refine ⟨4, lgS c0 c1 c2 cap st L, Nat.le_refl 4, (show 4 ≤ 5 by decide), rfl, rfl, WkS.refl _, ?_⟩
  show K (.p (.sl .shr 7 (((L.map Bt.pv).drop 0).take L.length))) _
  rw [cutR]; exact h
def dataW (st : Int) (L : List Bt) (b : Bt) : Int := if (rightV (b.at (endW st L)) != 0) = true then rightV (b.at (endW st L)) else if (b.mark != 0) = true then 16 else 0
set_option maxHeartbeats 4000000 in
theorem ldata_c (c0 c1 c2 cap st : Int) (L : List Bt) (hL : L.length ≤ 1000000000) (b : Bt) (hb : b.small) (K : AV → Store → Prop) (h : K (.p (ii (dataW st L b))) (lgS c0 c1 c2 cap st L)) : Cal Tryz.prog 36 [.ref 0 0, .p b.pv] (lgS c0 c1 c2 cap st L) K := by
  refine Cal.cut ?_
  refine Cal.intro Tryz.func36 (by decide +kernel) rfl rfl ?_
  refine Cal.frameK [0, 1, 2, 3] (lend_c c0 c1 c2 cap st L hL _ fun _ => ?_) rfl rfl rfl
  unfold dataW at h
  cases k1 : (rightV (b.at (endW st L)) != 0) with
  | true =>
    simp only [k1, if_true] at h
    repeat' (first
      | (apply Br.t; · (first | rfl | (simp only [*] <;> rfl)))
      | (apply Br.f; · (first | rfl | (simp only [*] <;> rfl)))
      | refine Ob.mk (okst rfl rfl rfl) ?_
      | refine right2_c (b.at (endW st L)) (hb.at _) _ _ ?_
      | exact ⟨4, lgS c0 c1 c2 cap st L, Nat.le_refl 4, (show 4 ≤ 5 by decide), rfl, rfl, WkS.refl _, h⟩
      | refine Br.mkT (fun c => ?_) (fun c => ?_)
      | refine Br.mkF (fun c => ?_) (fun c => ?_)
      | refine Br.mk (fun c => ?_) (fun c => ?_))
  | false =>
    simp only [k1, if_false, Bool.false_eq_true] at h
    cases k2 : (b.mark != 0) with
    | true =>
      simp only [k2, if_true] at h
      repeat' (first
        | (apply Br.t; · (first | rfl | (simp only [*] <;> rfl)))
        | (apply Br.f; · (first | rfl | (simp only [*] <;> rfl)))
        | refine Ob.mk (okst rfl rfl rfl) ?_
        | refine right2_c (b.at (endW st L)) (hb.at _) _ _ ?_
        | exact ⟨4, lgS c0 c1 c2 cap st L, Nat.le_refl 4, (show 4 ≤ 5 by decide), rfl, rfl, WkS.refl _, h⟩
        | refine Br.mkT (fun c => ?_) (fun c => ?_)
        | refine Br.mkF (fun c => ?_) (fun c => ?_)
        | refine Br.mk (fun c => ?_) (fun c => ?_))
    | false =>
      simp only [k2, if_false, Bool.false_eq_true] at h
      repeat' (first
        | (apply Br.t; · (first | rfl | (simp only [*] <;> rfl)))
        | (apply Br.f; · (first | rfl | (simp only [*] <;> rfl)))
        | refine Ob.mk (okst rfl rfl rfl) ?_
        | refine right2_c (b.at (endW st L)) (hb.at _) _ _ ?_
        | exact ⟨4, lgS c0 c1 c2 cap st L, Nat.le_refl 4, (show 4 ≤ 5 by decide), rfl, rfl, WkS.refl _, h⟩
        | refine Br.mkT (fun c => ?_) (fun c => ?_)
        | refine Br.mkF (fun c => ?_) (fun c => ?_)
        | refine Br.mk (fun c => ?_) (fun c => ?_))
end Go.Proofs.YtjhgmaephpadpaaGreat.AW


open Go Go.Proofs.YtjhgmaephpadpaaGreat.AW Go.Proofs
namespace Go.Proofs.YtjhgmaephpadpaaGreat.AW
set_option maxRecDepth 100000
set_option linter.unusedSimpArgs false
set_option linter.unusedVariables false

/-! ### May, Append, add, Produce, Mark of a log -/
def mayR (c : Int × Int) (sz cap e cn : Int) : Int × Bool × Int :=
  if (c.2 != 0) = true then (-1, false, c.2) else if (c.1 != -1) = true then (c.1, true, 0)
  else if decide (sz > cap) = true then (-1, false, 17) else if decide (cn > 1099511627776) = true then (-1, false, 18) else (e, false, 0)
def mayV (cap st : Int) (L : List Bt) (b : Bt) : Int × Bool × Int :=
  mayR (tChk (tGet (tApps ([], 0) L).1 b.prod) (b.at (endW st L))) (IntKind.i64.wrap (sizeS L + sizeV (b.at (endW st L)))) cap (endW st L) (IntKind.i64.wrap (endW st L + cntV (b.at (endW st L))))
def i4 (q : Int × Bool × Int) (b : Bt) : AV := .tup [.p (ii q.1), .p (.bool q.2.1), .p b.pv, .p (ii q.2.2)]
set_option maxHeartbeats 16000000 in
theorem lmay_c (c0 c1 c2 cap st : Int) (L : List Bt) (hL : L.length ≤ 1000000000) (b : Bt) (hb : b.small) (K : AV → Store → Prop) (h : K (i4 (mayV cap st L b) (b.at (endW st L))) (lgS c0 c1 c2 cap st L)) : Cal Tryz.prog 62 [.ref 0 0, .p b.pv] (lgS c0 c1 c2 cap st L) K := by
  refine Cal.cut ?_
  refine Cal.intro Tryz.func62 (by decide +kernel) rfl rfl ?_
  refine Cal.frameK [0, 1, 2, 3] (lend_c c0 c1 c2 cap st L hL _ fun _ => ?_) rfl rfl rfl
  have hin : TInv (tApps ([], 0) L).1 (tApps ([], 0) L).2 := TInv.nil.apps
  have hck : ∀ K, K (i2 (tChk (tGet (tApps ([], 0) L).1 b.prod) (b.at (endW st L)))) [mpC L, some (.cells [.map 0])] → Cal Tryz.prog 93 [.ref 1 0, .p (b.at (endW st L)).pv] [mpC L, some (.cells [.map 0])] K := fun K hK =>
    tcheck_c _ _ hin.ok (b.at (endW st L)) (hb.at _) K hK
  unfold mayV at h
  generalize tChk (tGet (tApps ([], 0) L).1 b.prod) (b.at (endW st L)) = c at h hck
  obtain ⟨c1', c2'⟩ := c
  obtain ⟨e, he⟩ : ∃ e, e = endW st L := ⟨_, rfl⟩
  have hsz := fun s' K => size2_c (b.at (endW st L)) (hb.at _) s' K
  have hcn := fun s' K => count2_c (b.at (endW st L)) s' K
  rw [← he] at h hck hsz hcn ⊢
  clear hin he
  unfold mayR at h
  refine Ob.mk (okst rfl rfl rfl) ?_
  cases k1 : (c2' != 0) with
  | true =>
    simp only [k1, if_true] at h
    repeat' (first
      | refine Chk.mk (by kernel_rfl) ?_
      | (apply Br.t; · (first | rfl | (simp only [*] <;> rfl)))
      | (apply Br.f; · (first | rfl | (simp only [*] <;> rfl)))
      | refine ⟨_, ⟨rfl, rfl⟩, ?_⟩
      | refine ⟨_, _, ⟨rfl, rfl⟩, rfl, ?_⟩
      | refine .inr <| .inr ⟨[2, 3], _, _, _, hck _ ⟨rfl, rfl⟩, rfl, rfl, rfl, ?_⟩
      | refine Or.inl ⟨_, fun s' => hsz s' _ ⟨rfl, rfl⟩, rfl, ?_⟩
      | refine Or.inl ⟨_, fun s' => hcn s' _ ⟨rfl, rfl⟩, rfl, ?_⟩
      | exact ⟨4, lgS c0 c1 c2 cap st L, Nat.le_refl 4, (show 4 ≤ 6 by decide), rfl, rfl, WkS.refl _, h⟩
      | refine ⟨_, Ob.mk (by decide) ⟨rfl, rfl⟩, ?_⟩
      | (refine ⟨_, Br.t ?_ ⟨rfl, rfl⟩, ?_⟩; · (first | rfl | (simp only [*] <;> rfl)))
      | (refine ⟨_, Br.f ?_ ⟨rfl, rfl⟩, ?_⟩; · (first | rfl | (simp only [*] <;> rfl)))
      | refine ⟨_, _, Ob.mk (okst rfl rfl rfl) ⟨rfl, rfl⟩, rfl, ?_⟩
      | refine Ob.mk (okst rfl rfl rfl) ?_
      | refine Ob.mk (by decide) ?_
      | refine Br.mkT (fun c => ?_) (fun c => ?_)
      | refine Br.mkF (fun c => ?_) (fun c => ?_)
      | refine Br.mk (fun c => ?_) (fun c => ?_))
  | false =>
    simp only [k1, if_false, Bool.false_eq_true] at h
    cases k2 : (c1' != -1) with
    | true =>
      simp only [k2, if_true] at h
      repeat' (first
        | refine Chk.mk (by kernel_rfl) ?_
        | (apply Br.t; · (first | rfl | (simp only [*] <;> rfl)))
        | (apply Br.f; · (first | rfl | (simp only [*] <;> rfl)))
        | refine ⟨_, ⟨rfl, rfl⟩, ?_⟩
        | refine ⟨_, _, ⟨rfl, rfl⟩, rfl, ?_⟩
        | refine .inr <| .inr ⟨[2, 3], _, _, _, hck _ ⟨rfl, rfl⟩, rfl, rfl, rfl, ?_⟩
        | refine Or.inl ⟨_, fun s' => hsz s' _ ⟨rfl, rfl⟩, rfl, ?_⟩
        | refine Or.inl ⟨_, fun s' => hcn s' _ ⟨rfl, rfl⟩, rfl, ?_⟩
        | exact ⟨4, lgS c0 c1 c2 cap st L, Nat.le_refl 4, (show 4 ≤ 6 by decide), rfl, rfl, WkS.refl _, h⟩
        | refine ⟨_, Ob.mk (by decide) ⟨rfl, rfl⟩, ?_⟩
        | (refine ⟨_, Br.t ?_ ⟨rfl, rfl⟩, ?_⟩; · (first | rfl | (simp only [*] <;> rfl)))
        | (refine ⟨_, Br.f ?_ ⟨rfl, rfl⟩, ?_⟩; · (first | rfl | (simp only [*] <;> rfl)))
        | refine ⟨_, _, Ob.mk (okst rfl rfl rfl) ⟨rfl, rfl⟩, rfl, ?_⟩
        | refine Ob.mk (okst rfl rfl rfl) ?_
        | refine Ob.mk (by decide) ?_
        | refine Br.mkT (fun c => ?_) (fun c => ?_)
        | refine Br.mkF (fun c => ?_) (fun c => ?_)
        | refine Br.mk (fun c => ?_) (fun c => ?_))
    | false =>
      simp only [k2, if_false, Bool.false_eq_true] at h
      cases k3 : decide (IntKind.i64.wrap (sizeS L + sizeV (b.at e)) > cap) with
      | true =>
        simp only [k3, if_true] at h
        repeat' (first
          | refine Chk.mk (by kernel_rfl) ?_
          | (apply Br.t; · (first | rfl | (simp only [*] <;> rfl)))
          | (apply Br.f; · (first | rfl | (simp only [*] <;> rfl)))
          | refine ⟨_, ⟨rfl, rfl⟩, ?_⟩
          | refine ⟨_, _, ⟨rfl, rfl⟩, rfl, ?_⟩
          | refine .inr <| .inr ⟨[2, 3], _, _, _, hck _ ⟨rfl, rfl⟩, rfl, rfl, rfl, ?_⟩
          | refine Or.inl ⟨_, fun s' => hsz s' _ ⟨rfl, rfl⟩, rfl, ?_⟩
          | refine Or.inl ⟨_, fun s' => hcn s' _ ⟨rfl, rfl⟩, rfl, ?_⟩
          | exact ⟨4, lgS c0 c1 c2 cap st L, Nat.le_refl 4, (show 4 ≤ 6 by decide), rfl, rfl, WkS.refl _, h⟩
          | refine ⟨_, Ob.mk (by decide) ⟨rfl, rfl⟩, ?_⟩
          | (refine ⟨_, Br.t ?_ ⟨rfl, rfl⟩, ?_⟩; · (first | rfl | (simp only [*] <;> rfl)))
          | (refine ⟨_, Br.f ?_ ⟨rfl, rfl⟩, ?_⟩; · (first | rfl | (simp only [*] <;> rfl)))
          | refine ⟨_, _, Ob.mk (okst rfl rfl rfl) ⟨rfl, rfl⟩, rfl, ?_⟩
          | refine Ob.mk (okst rfl rfl rfl) ?_
          | refine Ob.mk (by decide) ?_
          | refine Br.mkT (fun c => ?_) (fun c => ?_)
          | refine Br.mkF (fun c => ?_) (fun c => ?_)
          | refine Br.mk (fun c => ?_) (fun c => ?_))
      | false =>
        simp only [k3, if_false, Bool.false_eq_true] at h
        cases k4 : decide (IntKind.i64.wrap (e + cntV (b.at e)) > 1099511627776) with
        | true =>
          simp only [k4, if_true] at h
          repeat' (first
            | refine Chk.mk (by kernel_rfl) ?_
            | (apply Br.t; · (first | rfl | (simp only [*] <;> rfl)))
            | (apply Br.f; · (first | rfl | (simp only [*] <;> rfl)))
            | refine ⟨_, ⟨rfl, rfl⟩, ?_⟩
            | refine ⟨_, _, ⟨rfl, rfl⟩, rfl, ?_⟩
            | refine .inr <| .inr ⟨[2, 3], _, _, _, hck _ ⟨rfl, rfl⟩, rfl, rfl, rfl, ?_⟩
            | refine Or.inl ⟨_, fun s' => hsz s' _ ⟨rfl, rfl⟩, rfl, ?_⟩
            | refine Or.inl ⟨_, fun s' => hcn s' _ ⟨rfl, rfl⟩, rfl, ?_⟩
            | exact ⟨4, lgS c0 c1 c2 cap st L, Nat.le_refl 4, (show 4 ≤ 6 by decide), rfl, rfl, WkS.refl _, h⟩
            | refine ⟨_, Ob.mk (by decide) ⟨rfl, rfl⟩, ?_⟩
            | (refine ⟨_, Br.t ?_ ⟨rfl, rfl⟩, ?_⟩; · (first | rfl | (simp only [*] <;> rfl)))
            | (refine ⟨_, Br.f ?_ ⟨rfl, rfl⟩, ?_⟩; · (first | rfl | (simp only [*] <;> rfl)))
            | refine ⟨_, _, Ob.mk (okst rfl rfl rfl) ⟨rfl, rfl⟩, rfl, ?_⟩
            | refine Ob.mk (okst rfl rfl rfl) ?_
            | refine Ob.mk (by decide) ?_
            | refine Br.mkT (fun c => ?_) (fun c => ?_)
            | refine Br.mkF (fun c => ?_) (fun c => ?_)
            | refine Br.mk (fun c => ?_) (fun c => ?_))
        | false =>
          simp only [k4, if_false, Bool.false_eq_true] at h
          repeat' (first
            | refine Chk.mk (by kernel_rfl) ?_
            | (apply Br.t; · (first | rfl | (simp only [*] <;> rfl)))
            | (apply Br.f; · (first | rfl | (simp only [*] <;> rfl)))
            | refine ⟨_, ⟨rfl, rfl⟩, ?_⟩
            | refine ⟨_, _, ⟨rfl, rfl⟩, rfl, ?_⟩
            | refine .inr <| .inr ⟨[2, 3], _, _, _, hck _ ⟨rfl, rfl⟩, rfl, rfl, rfl, ?_⟩
            | refine Or.inl ⟨_, fun s' => hsz s' _ ⟨rfl, rfl⟩, rfl, ?_⟩
            | refine Or.inl ⟨_, fun s' => hcn s' _ ⟨rfl, rfl⟩, rfl, ?_⟩
            | exact ⟨4, lgS c0 c1 c2 cap st L, Nat.le_refl 4, (show 4 ≤ 6 by decide), rfl, rfl, WkS.refl _, h⟩
            | refine ⟨_, Ob.mk (by decide) ⟨rfl, rfl⟩, ?_⟩
            | (refine ⟨_, Br.t ?_ ⟨rfl, rfl⟩, ?_⟩; · (first | rfl | (simp only [*] <;> rfl)))
            | (refine ⟨_, Br.f ?_ ⟨rfl, rfl⟩, ?_⟩; · (first | rfl | (simp only [*] <;> rfl)))
            | refine ⟨_, _, Ob.mk (okst rfl rfl rfl) ⟨rfl, rfl⟩, rfl, ?_⟩
            | refine Ob.mk (okst rfl rfl rfl) ?_
            | refine Ob.mk (by decide) ?_
            | refine Br.mkT (fun c => ?_) (fun c => ?_)
            | refine Br.mkF (fun c => ?_) (fun c => ?_)
            | refine Br.mk (fun c => ?_) (fun c => ?_))
set_option maxHeartbeats 16000000 in
theorem lapp_c (c0 c1 c2 cap st : Int) (L : List Bt) (hL : L.length + 1 ≤ 1000000000) (b : Bt) (hb : b.small) (hr : b.recs.length ≤ 1000000000) (K : AV → Store → Prop) (h : K (.tup []) (lgS c0 c1 c2 cap st (L ++ [b]))) : Cal Tryz.prog 63 [.ref 0 0, .p b.pv] (lgS c0 c1 c2 cap st L) K := by
  refine Cal.cut ?_
  refine Cal.intro Tryz.func63 (by decide +kernel) rfl rfl ?_
  have hlm := rowL L
  have hin : TInv (tApps ([], 0) L).1 (tApps ([], 0) L).2 := TInv.nil.apps
  have hsz := fun s' K => size2_c b hb s' K
  have hcp := fun s' K => bcopy_c b hr s' K
  have hap : ∀ K, K (db (tDrop (tGet (tApps ([], 0) L).1 b.prod) b)) [mpC (L ++ [b]), some (.cells [.map 0])] → Cal Tryz.prog 88 [.ref 1 0, .p b.pv] [mpC L, some (.cells [.map 0])] K := fun K hK =>
    tapply_c _ _ hin.ok b hb K (by unfold mpC at hK; rw [tApps_snoc] at hK; exact hK)
  have l1 : (L.length + 1) * 72 ≤ 140737488355328 := by omega
  have el : (L.map Bt.pv ++ [b.pv]).length = (L ++ [b]).length := by rw [List.length_append, List.length_append, List.length_map]; rfl
  have es : IntKind.i64.wrap (sizeS L + sizeV b) = sizeS (L ++ [b]) := by unfold sizeS; rw [List.foldl_append]; rfl
  have hw : WkS [some (.cells [.p (ii c0), .p (ii c1), .p (ii c2), .p (ii cap), .p (ii st), .osl 1 (L.map Bt.pv ++ [b.pv]).length 0 (L.map Bt.pv ++ [b.pv]).length, .ref 3 0, .p (ii (IntKind.i64.wrap (sizeS L + sizeV b)))]), some (.buf 7 (L.map Bt.pv ++ [b.pv])), mpC (L ++ [b]), some (.cells [.map 2])] (lgS c0 c1 c2 cap st (L ++ [b])) := by
    rw [el, es]
    unfold lgS bufR
    rw [List.map_append]; exact WkS.refl _
  clear hin el es
  repeat' (first
    | refine Chk.mk (by kernel_rfl) ?_
    | (apply Br.t; · (first | rfl | (simp only [*] <;> rfl)))
    | (apply Br.f; · (first | rfl | (simp only [*] <;> rfl)))
    | refine ⟨_, ⟨rfl, rfl⟩, ?_⟩
    | refine ⟨_, _, ⟨rfl, rfl⟩, rfl, ?_⟩
    | refine Or.inl ⟨_, fun s' => hcp s' _ ⟨rfl, rfl⟩, rfl, ?_⟩
    | refine ⟨_, _, Ob.mk ⟨hlm, rfl, rfl, l1⟩ ⟨rfl, rfl⟩, rfl, ?_⟩
    | refine .inr <| .inl ⟨[2, 3], _, _, _, _, hap _ ⟨rfl, rfl⟩, rfl, rfl, rfl, ?_⟩
    | refine Or.inl ⟨_, fun s' => hsz s' _ ⟨rfl, rfl⟩, rfl, ?_⟩
    | refine ⟨_, Ob.mk (by decide) ⟨rfl, rfl⟩, ?_⟩
    | (refine ⟨_, Br.t ?_ ⟨rfl, rfl⟩, ?_⟩; · (first | rfl | (simp only [*] <;> rfl)))
    | (refine ⟨_, Br.f ?_ ⟨rfl, rfl⟩, ?_⟩; · (first | rfl | (simp only [*] <;> rfl)))
    | refine ⟨_, _, Ob.mk (okst rfl rfl rfl) ⟨rfl, rfl⟩, rfl, ?_⟩
    | refine Ob.mk (okst rfl rfl rfl) ?_
    | refine Ob.mk (by decide) ?_
    | refine Br.mkT (fun c => ?_) (fun c => ?_)
    | refine Br.mkF (fun c => ?_) (fun c => ?_)
    | refine Br.mk (fun c => ?_) (fun c => ?_))
  exact ⟨4, lgS c0 c1 c2 cap st (L ++ [b]), Nat.le_refl 4, (show 4 ≤ 5 by decide), rfl, rfl, hw, h⟩
theorem last_base {st : Int} {L : List Bt} (h : RowC st L) : ∀ p, p ∈ (dFold L).1 → ∀ y, y ∈ p.last → ∃ b, b ∈ L ∧ b.base = y.2.2 := by
  induction h with
  | nil => intro p hp; cases hp
  | snoc L b h h1 h2 h3 ih =>
    intro p hp y hy
    have hp0 := hp
    have mono : (∃ c, c ∈ L ∧ c.base = y.2.2) → ∃ c, c ∈ L ++ [b] ∧ c.base = y.2.2 := fun ⟨c, hc, e⟩ => ⟨c, List.mem_append_left _ hc, e⟩
    rw [dFold_snoc] at hp
    have hp : p ∈ dApp (dFold L).1 b := hp
    by_cases hn : b.prod = -1
    · unfold dApp at hp
      rw [if_pos (by rw [hn]; simp)] at hp
      exact mono (ih p hp y hy)
    unfold dApp at hp
    rw [if_neg (by rw [h2]; simpa using hn)] at hp
    rcases dPut_mem hp with hid | hold
    rotate_left 1
    · exact mono (ih p hold y hy)
    have hg := (dGet_mem (sorted_fold (L ++ [b])) p).2 hp0
    rw [hid, dget_dapp h2 hn] at hg
    have hp : p = putP (dGet (dFold L).1 b.prod) b := by cases hg; rfl
    have hold : ∀ z, z ∈ (if ((dGet (dFold L).1 b.prod).isSome && (b.epoch == ((dGet (dFold L).1 b.prod).getD pr0).epoch)) = true then ((dGet (dFold L).1 b.prod).getD pr0).last else []) → ∃ c, c ∈ L ∧ c.base = z.2.2 := fun z hz => by
      split at hz
      · rename_i he
        cases hq : dGet (dFold L).1 b.prod with
        | none => rw [hq] at he; exact absurd he (by simp)
        | some q =>
          rw [hq] at hz
          have hqi : q.id = b.prod := by
            unfold dGet at hq
            split at hq
            · split at hq
              · rename_i hh; cases hq; simpa using hh
              · cases hq
            · cases hq
          exact ih q ((dGet_mem (sorted_fold L) q).1 (by rw [hqi]; exact hq)) z hz
      · cases hz
    rw [hp] at hy
    unfold putP applyV behV at hy
    split at hy
    · exact mono (hold y hy)
    · rcases appL_sub hy with hy | hy
      · exact mono (hold y hy)
      · subst hy; exact ⟨b, by simp, rfl⟩
theorem last_pos {st : Int} {L : List Bt} (h : RowC st L) (h0 : 0 ≤ st) : ∀ p, p ∈ (dFold L).1 → ∀ y, y ∈ p.last → 0 ≤ y.2.2 := fun p hp y hy => by
  obtain ⟨b, hb, e⟩ := last_base h p hp y hy
  have := (h.le b hb).1
  omega
theorem chk_neg {st : Int} {L : List Bt} (hC : RowC st L) (h0 : 0 ≤ st) (b : Bt) : tChk (tGet (tApps ([], 0) L).1 b.prod) b = tChk (dGet (dFold L).1 b.prod) b ∧ ((tChk (dGet (dFold L).1 b.prod) b).1 = -1 ∨ 0 ≤ (tChk (dGet (dFold L).1 b.prod) b).1) := by
  rw [(TRel.row L).get]
  refine ⟨rfl, ?_⟩
  unfold tChk
  split
  · exact .inl rfl
  · split
    · exact .inl rfl
    · unfold checkV
      split
      · exact .inl rfl
      · split
        · exact .inl rfl
        · split
          · exact .inl rfl
          · split
            · exact .inl rfl
            · split
              · rename_i hk _ _ hd
                right
                cases hg : dGet (dFold L).1 b.prod with
                | none => rw [hg] at hk; exact absurd (by rfl) hk
                | some p =>
                  rw [hg] at hd
                  have hp : p ∈ (dFold L).1 := (dGet_mem (sorted_fold L) p).1 (by
                    have hqi : p.id = b.prod := by
                      have hg2 := hg
                      unfold dGet at hg2
                      split at hg2
                      · split at hg2
                        · rename_i hh; cases hg2; simpa using hh
                        · cases hg2
                      · cases hg2
                    rw [hqi]; exact hg)
                  show 0 ≤ (dupV p b).1
                  have hd : (dupV p b).2 = true := hd
                  unfold dupV at hd ⊢
                  cases hf : p.last.find? (dupP p b) with
                  | none => rw [hf] at hd; cases hd
                  | some x => exact last_pos hC h0 p hp x (List.mem_of_find?_eq_some hf)
              · split
                · exact .inl rfl
                · split <;> exact .inl rfl
end Go.Proofs.YtjhgmaephpadpaaGreat.AW


open Go Go.Proofs.YtjhgmaephpadpaaGreat.AW Go.Proofs
namespace Go.Proofs.YtjhgmaephpadpaaGreat.AW
set_option maxRecDepth 100000
set_option linter.unusedSimpArgs false
set_option linter.unusedVariables false

theorem tChk_recs {o : Option Pr} {b : Bt} (h : (tChk o b).2 = 0) : b.recs.length ≤ 1000000000 := by have := (tChk_shrt h).1; omega
set_option maxHeartbeats 16000000 in
theorem ladd_c (c0 c1 c2 cap st : Int) (L : List Bt) (hL : L.length + 1 ≤ 1000000000) (hC : RowC st L) (h0 : 0 ≤ st) (b : Bt) (hb : b.small) (K : AV → Store → Prop) (h : K (i2 (putV cap st L (b.at (endW st L))).1) (lgS c0 c1 c2 cap st (putV cap st L (b.at (endW st L))).2)) : Cal Tryz.prog 33 [.ref 0 0, .p b.pv] (lgS c0 c1 c2 cap st L) K := by
  refine Cal.cut ?_
  refine Cal.intro Tryz.func33 (by decide +kernel) rfl rfl ?_
  refine Cal.frameK [0, 1, 2, 3] (lmay_c c0 c1 c2 cap st L (by omega) b hb _ fun _ => ?_) rfl rfl rfl
  have hap := fun hr K => lapp_c c0 c1 c2 cap st L hL (b.at (endW st L)) (hb.at _) hr K
  have hrc := fun h => tChk_recs (o := dGet (dFold L).1 b.prod) (b := b.at (endW st L)) h
  obtain ⟨e1, e2⟩ := chk_neg hC h0 (b.at (endW st L))
  rw [show (b.at (endW st L)).prod = b.prod from rfl] at e1 e2
  unfold putV at h
  rw [show (b.at (endW st L)).prod = b.prod from rfl, show (b.at (endW st L)).base = endW st L from rfl] at h
  unfold mayV
  rw [e1]
  clear e1
  generalize tChk (dGet (dFold L).1 b.prod) (b.at (endW st L)) = c at h e2 hrc ⊢
  obtain ⟨c1', c2'⟩ := c
  obtain ⟨e, he⟩ : ∃ e, e = endW st L := ⟨_, rfl⟩
  rw [← he] at h hap ⊢
  clear he
  unfold mayR
  have e2 : c1' = -1 ∨ 0 ≤ c1' := e2
  have hrc : c2' = 0 → b.recs.length ≤ 1000000000 := hrc
  cases k1 : (c2' != 0) with
  | true =>
    simp only [k1, if_true] at h ⊢
    have k1' : (c2' == 0) = false := by simpa using k1
    clear e2 hrc hap
    repeat' (first
      | (apply Br.t; · (first | rfl | (simp only [*] <;> rfl)))
      | (apply Br.f; · (first | rfl | (simp only [*] <;> rfl)))
      | refine Ob.mk (okst rfl rfl rfl) ?_
      | exact ⟨4, lgS c0 c1 c2 cap st L, Nat.le_refl 4, (show 4 ≤ 5 by decide), rfl, rfl, WkS.refl _, h⟩
      | refine Br.mkT (fun c => ?_) (fun c => ?_)
      | refine Br.mkF (fun c => ?_) (fun c => ?_)
      | refine Br.mk (fun c => ?_) (fun c => ?_))
  | false =>
    simp only [k1, if_false, Bool.false_eq_true] at h ⊢
    have hap := hap (hrc (by simpa using k1))
    cases k2 : (c1' != -1) with
    | true =>
      have k2' : decide (c1' ≥ 0) = true := by
        rcases e2 with e2 | e2
        · rw [e2] at k2; exact absurd k2 (by decide)
        · exact decide_eq_true e2
      simp only [k2, k2', if_true] at h ⊢
      clear e2 hrc hap k1 k2 k2'
      repeat' (first
        | (apply Br.t; · (first | rfl | (simp only [*] <;> rfl)))
        | (apply Br.f; · (first | rfl | (simp only [*] <;> rfl)))
        | refine Ob.mk (okst rfl rfl rfl) ?_
        | exact ⟨4, lgS c0 c1 c2 cap st L, Nat.le_refl 4, (show 4 ≤ 5 by decide), rfl, rfl, WkS.refl _, h⟩
        | refine Br.mkT (fun c => ?_) (fun c => ?_)
        | refine Br.mkF (fun c => ?_) (fun c => ?_)
        | refine Br.mk (fun c => ?_) (fun c => ?_))
    | false =>
      have k2' : decide (c1' ≥ 0) = false := by
        have : c1' = -1 := by simpa using k2
        rw [this]; rfl
      simp only [k2, k2', if_false, Bool.false_eq_true] at h ⊢
      clear k1 k2 k2' e2 hrc
      cases k3 : decide (IntKind.i64.wrap (sizeS L + sizeV (b.at e)) > cap) with
      | true =>
        simp only [k3, if_true] at h ⊢
        clear hap k3
        repeat' (first
          | (apply Br.t; · (first | rfl | (simp only [*] <;> rfl)))
          | (apply Br.f; · (first | rfl | (simp only [*] <;> rfl)))
          | refine Ob.mk (okst rfl rfl rfl) ?_
          | exact ⟨4, lgS c0 c1 c2 cap st L, Nat.le_refl 4, (show 4 ≤ 5 by decide), rfl, rfl, WkS.refl _, h⟩
          | refine Br.mkT (fun c => ?_) (fun c => ?_)
          | refine Br.mkF (fun c => ?_) (fun c => ?_)
          | refine Br.mk (fun c => ?_) (fun c => ?_))
      | false =>
        simp only [k3, if_false, Bool.false_eq_true] at h ⊢
        clear k3
        cases k4 : decide (IntKind.i64.wrap (e + cntV (b.at e)) > 1099511627776) with
        | true =>
          simp only [k4, if_true] at h ⊢
          clear hap k4
          repeat' (first
            | (apply Br.t; · (first | rfl | (simp only [*] <;> rfl)))
            | (apply Br.f; · (first | rfl | (simp only [*] <;> rfl)))
            | refine Ob.mk (okst rfl rfl rfl) ?_
            | exact ⟨4, lgS c0 c1 c2 cap st L, Nat.le_refl 4, (show 4 ≤ 5 by decide), rfl, rfl, WkS.refl _, h⟩
            | refine Br.mkT (fun c => ?_) (fun c => ?_)
            | refine Br.mkF (fun c => ?_) (fun c => ?_)
            | refine Br.mk (fun c => ?_) (fun c => ?_))
        | false =>
          simp only [k4, if_false, Bool.false_eq_true] at h ⊢
          clear k4
          repeat' (first
            | (apply Br.t; · (first | rfl | (simp only [*] <;> rfl)))
            | (apply Br.f; · (first | rfl | (simp only [*] <;> rfl)))
            | refine Ob.mk (okst rfl rfl rfl) ?_
            | refine Cal.frameK [0, 1, 2, 3] (hap _ fun _ => ?_) rfl rfl rfl
            | exact ⟨4, lgS c0 c1 c2 cap st (L ++ [b.at e]), Nat.le_refl 4, (show 4 ≤ 5 by decide), rfl, rfl, WkS.refl _, h⟩
            | refine Br.mkT (fun c => ?_) (fun c => ?_)
            | refine Br.mkF (fun c => ?_) (fun c => ?_)
            | refine Br.mk (fun c => ?_) (fun c => ?_))
set_option maxHeartbeats 8000000 in
theorem lprod_c (c0 c1 c2 cap st : Int) (L : List Bt) (hL : L.length + 1 ≤ 1000000000) (hC : RowC st L) (h0 : 0 ≤ st) (b : Bt) (hb : b.small) (K : AV → Store → Prop) (h : K (i2 (prodV cap st L b).1) (lgS c0 c1 c2 cap st (prodV cap st L b).2)) : Cal Tryz.prog 12 [.ref 0 0, .p b.pv] (lgS c0 c1 c2 cap st L) K := by
  refine Cal.cut ?_
  refine Cal.intro Tryz.func12 (by decide +kernel) rfl rfl ?_
  refine Cal.frameK [0, 1, 2, 3] (ldata_c c0 c1 c2 cap st L (by omega) b hb _ fun _ => ?_) rfl rfl rfl
  have had := fun K => ladd_c c0 c1 c2 cap st L hL hC h0 b hb K
  unfold prodV at h
  unfold dataW
  generalize putV cap st L (b.at (endW st L)) = r at h had
  generalize rightV (b.at (endW st L)) = v at h ⊢
  obtain ⟨r1, L'⟩ := r
  cases k1 : (v != 0) with
  | true =>
    simp only [k1, if_true] at h ⊢
    clear had
    repeat' (first
      | (apply Br.t; · (first | rfl | (simp only [*] <;> rfl)))
      | (apply Br.f; · (first | rfl | (simp only [*] <;> rfl)))
      | refine Ob.mk (okst rfl rfl rfl) ?_
      | exact ⟨4, lgS c0 c1 c2 cap st L, Nat.le_refl 4, (show 4 ≤ 5 by decide), rfl, rfl, WkS.refl _, h⟩
      | refine Br.mkT (fun c => ?_) (fun c => ?_)
      | refine Br.mkF (fun c => ?_) (fun c => ?_)
      | refine Br.mk (fun c => ?_) (fun c => ?_))
  | false =>
    simp only [k1, if_false, Bool.false_eq_true] at h ⊢
    clear k1
    cases k2 : (b.mark != 0) with
    | true =>
      simp only [k2, if_true] at h ⊢
      clear had k2
      repeat' (first
        | (apply Br.t; · (first | rfl | (simp only [*] <;> rfl)))
        | (apply Br.f; · (first | rfl | (simp only [*] <;> rfl)))
        | refine Ob.mk (okst rfl rfl rfl) ?_
        | exact ⟨4, lgS c0 c1 c2 cap st L, Nat.le_refl 4, (show 4 ≤ 5 by decide), rfl, rfl, WkS.refl _, h⟩
        | refine Br.mkT (fun c => ?_) (fun c => ?_)
        | refine Br.mkF (fun c => ?_) (fun c => ?_)
        | refine Br.mk (fun c => ?_) (fun c => ?_))
    | false =>
      simp only [k2, if_false, Bool.false_eq_true] at h ⊢
      clear k2
      repeat' (first
        | (apply Br.t; · (first | rfl | (simp only [*] <;> rfl)))
        | (apply Br.f; · (first | rfl | (simp only [*] <;> rfl)))
        | refine Ob.mk (okst rfl rfl rfl) ?_
        | refine Cal.frameK [0, 1, 2, 3] (had _ fun _ => ?_) rfl rfl rfl
        | exact ⟨4, lgS c0 c1 c2 cap st L', Nat.le_refl 4, (show 4 ≤ 5 by decide), rfl, rfl, WkS.refl _, h⟩
        | refine Br.mkT (fun c => ?_) (fun c => ?_)
        | refine Br.mkF (fun c => ?_) (fun c => ?_)
        | refine Br.mk (fun c => ?_) (fun c => ?_))
def mkN (n prod epoch mark : Int) : PV := .agg [ii n, ii prod, ii epoch, ii (-1), .bool true, ii mark, .sl .nil 0 []]
theorem wk_mkN (n prod epoch mark : Int) : WkD (mkN n prod epoch mark) (mkB n prod epoch mark).pv := .agg _ _ (.cons _ _ _ _ (.refl _) (.cons _ _ _ _ (.refl _) (.cons _ _ _ _ (.refl _) (.cons _ _ _ _ (.refl _) (.cons _ _ _ _ (.refl _) (.cons _ _ _ _ (.refl _) (.cons _ _ _ _ (.nil 0 .shr 2) .nil)))))))
theorem mkB_small (n prod epoch mark : Int) : (mkB n prod epoch mark).small := ⟨Nat.zero_le _, fun q hq => by cases hq⟩
theorem mkB_len (n prod epoch mark : Int) : (wrB (mkB n prod epoch mark)).length = 36 := by
  rw [wrB_len]; rfl
theorem mkB_right (n prod epoch mark : Int) (h0 : 0 ≤ n) (h1 : n ≤ 1099511627776) (hm : (mark == 0) = false) : rightV (mkB n prod epoch mark) = 0 ∨ rightV (mkB n prod epoch mark) = 12 := by
  have e1 : (decide ((mkB n prod epoch mark).base < 0) || decide ((mkB n prod epoch mark).base > 1099511627776)) = false := by show (decide (n < 0) || decide (n > 1099511627776)) = false; simp; omega
  have e2 : ((mkB n prod epoch mark).mark != 0) = true := by show (mark != 0) = true; unfold bne; rw [hm]; rfl
  have hl : (bytesP (wrB (mkB n prod epoch mark))).length = 36 := by unfold bytesP; rw [List.length_map, mkB_len]
  unfold rightV plainV
  rw [e1, e2, hl]
  simp only [Bool.false_eq_true, if_false, if_true]
  split
  · split
    · exact .inr rfl
    · exact .inl rfl
  · exact .inl rfl
def mrkV (e prod epoch mark : Int) : Int := if (mark == 0) = true then 12 else if (rightV (mkB e prod epoch mark) != 0) = true then 12 else 0
set_option maxHeartbeats 8000000 in
theorem lmarker_c (c0 c1 c2 cap st : Int) (L : List Bt) (hL : L.length ≤ 1000000000) (prod epoch mark : Int) (K : AV → Store → Prop) (h : K (.tup [.p (mkN (endW st L) prod epoch mark), .p (ii (mrkV (endW st L) prod epoch mark))]) (lgS c0 c1 c2 cap st L)) : Cal Tryz.prog 32 [.ref 0 0, .p (ii prod), .p (ii epoch), .p (ii mark)] (lgS c0 c1 c2 cap st L) K := by
  refine Cal.cut ?_
  refine Cal.intro Tryz.func32 (by decide +kernel) rfl rfl ?_
  refine Cal.frameK [0, 1, 2, 3] (lend_c c0 c1 c2 cap st L hL _ fun _ => ?_) rfl rfl rfl
  generalize endW st L = e at h ⊢
  unfold mrkV at h
  have hr : ∀ s K, K (.p (ii (rightV (mkB e prod epoch mark)))) s → Cal Tryz.prog 61 [.p (mkN e prod epoch mark)] s K := fun s K hK =>
    Cal.argsD (args' := [.p (mkB e prod epoch mark).pv]) (right2_c _ (mkB_small ..) s K hK) ⟨.inr ⟨_, _, rfl, rfl, wk_mkN ..⟩, trivial⟩
  generalize rightV (mkB e prod epoch mark) = v at h hr
  cases k1 : (mark == 0) with
  | true =>
    simp only [k1, if_true] at h
    clear hr
    repeat' (first
      | (apply Br.t; · (first | rfl | (simp only [*] <;> rfl)))
      | (apply Br.f; · (first | rfl | (simp only [*] <;> rfl)))
      | refine Ob.mk (okst rfl rfl rfl) ?_
      | exact ⟨4, lgS c0 c1 c2 cap st L, Nat.le_refl 4, (show 4 ≤ 6 by decide), rfl, rfl, WkS.refl _, h⟩
      | refine Br.mkT (fun c => ?_) (fun c => ?_)
      | refine Br.mkF (fun c => ?_) (fun c => ?_)
      | refine Br.mk (fun c => ?_) (fun c => ?_))
  | false =>
    simp only [k1, if_false, Bool.false_eq_true] at h
    cases k2 : (v != 0) with
    | true =>
      simp only [k2, if_true] at h
      repeat' (first
        | (apply Br.t; · (first | rfl | (simp only [*] <;> rfl)))
        | (apply Br.f; · (first | rfl | (simp only [*] <;> rfl)))
        | refine Ob.mk (okst rfl rfl rfl) ?_
        | refine hr _ _ ?_
        | exact ⟨4, lgS c0 c1 c2 cap st L, Nat.le_refl 4, (show 4 ≤ 6 by decide), rfl, rfl, WkS.refl _, h⟩
        | refine Br.mkT (fun c => ?_) (fun c => ?_)
        | refine Br.mkF (fun c => ?_) (fun c => ?_)
        | refine Br.mk (fun c => ?_) (fun c => ?_))
    | false =>
      simp only [k2, if_false, Bool.false_eq_true] at h
      repeat' (first
        | (apply Br.t; · (first | rfl | (simp only [*] <;> rfl)))
        | (apply Br.f; · (first | rfl | (simp only [*] <;> rfl)))
        | refine Ob.mk (okst rfl rfl rfl) ?_
        | refine hr _ _ ?_
        | exact ⟨4, lgS c0 c1 c2 cap st L, Nat.le_refl 4, (show 4 ≤ 6 by decide), rfl, rfl, WkS.refl _, h⟩
        | refine Br.mkT (fun c => ?_) (fun c => ?_)
        | refine Br.mkF (fun c => ?_) (fun c => ?_)
        | refine Br.mk (fun c => ?_) (fun c => ?_))
end Go.Proofs.YtjhgmaephpadpaaGreat.AW


open Go Go.Proofs.YtjhgmaephpadpaaGreat.AW Go.Proofs
namespace Go.Proofs.YtjhgmaephpadpaaGreat.AW
set_option maxRecDepth 100000
set_option linter.unusedSimpArgs false
set_option linter.unusedVariables false

/-! ### Mark; what is stable, by both -/
theorem addN_c (c0 c1 c2 cap st : Int) (L : List Bt) (hL : L.length + 1 ≤ 1000000000) (hC : RowC st L) (h0 : 0 ≤ st) (e prod epoch mark : Int) (K : AV → Store → Prop) (h : K (i2 (putV cap st L (mkB (endW st L) prod epoch mark)).1) (lgS c0 c1 c2 cap st (putV cap st L (mkB (endW st L) prod epoch mark)).2)) : Cal Tryz.prog 33 [.ref 0 0, .p (mkN e prod epoch mark)] (lgS c0 c1 c2 cap st L) K :=
  Cal.argsD (args' := [.ref 0 0, .p (mkB e prod epoch mark).pv]) (ladd_c c0 c1 c2 cap st L hL hC h0 (mkB e prod epoch mark) (mkB_small ..) K h) ⟨.inl rfl, .inr ⟨_, _, rfl, rfl, wk_mkN ..⟩, trivial⟩
theorem put_bad {cap st : Int} {L : List Bt} {b : Bt} {v : Int} (h : rightV b = v) (hv : v ≠ 0) : putV cap st L b = ((-1, v), L) := by
  have hc : tChk (dGet (dFold L).1 b.prod) b = (-1, v) := by
    unfold tChk; rw [h, if_pos (by simpa using hv)]
  unfold putV
  rw [hc, if_pos (by simpa using hv)]
set_option maxHeartbeats 8000000 in
theorem lmark_c (c0 c1 c2 cap st : Int) (L : List Bt) (hL : L.length + 1 ≤ 1000000000) (hC : RowC st L) (h0 : 0 ≤ st) (h1 : st ≤ 1099511627776) (prod epoch mark : Int) (K : AV → Store → Prop) (h : K (i2 (markV cap st L prod epoch mark).1) (lgS c0 c1 c2 cap st (markV cap st L prod epoch mark).2)) : Cal Tryz.prog 10 [.ref 0 0, .p (ii prod), .p (ii epoch), .p (ii mark)] (lgS c0 c1 c2 cap st L) K := by
  refine Cal.cut ?_
  refine Cal.intro Tryz.func10 (by decide +kernel) rfl rfl ?_
  refine Cal.frameK [0, 1, 2, 3] (lmarker_c c0 c1 c2 cap st L (by omega) prod epoch mark _ fun _ => ?_) rfl rfl rfl
  have had := fun K => addN_c c0 c1 c2 cap st L hL hC h0 (endW st L) prod epoch mark K
  obtain ⟨he0, he1⟩ := end_in hC h0 h1
  have hbad : ∀ v, rightV (mkB (endW st L) prod epoch mark) = v → (v != 0) = true → putV cap st L (mkB (endW st L) prod epoch mark) = ((-1, v), L) := fun v e hv => put_bad e (by simpa using hv)
  have hrt : (mark == 0) = false → rightV (mkB (endW st L) prod epoch mark) = 0 ∨ rightV (mkB (endW st L) prod epoch mark) = 12 := fun hm => mkB_right _ _ _ _ he0 he1 hm
  unfold markV at h
  unfold mrkV
  generalize putV cap st L (mkB (endW st L) prod epoch mark) = r at h had hbad
  generalize rightV (mkB (endW st L) prod epoch mark) = v at hbad hrt ⊢
  generalize endW st L = e at had ⊢
  clear he0 he1
  obtain ⟨r1, L'⟩ := r
  cases k1 : (mark == 0) with
  | true =>
    simp only [k1, if_true] at h ⊢
    clear had hbad hrt
    repeat' (first
      | (apply Br.t; · (first | rfl | (simp only [*] <;> rfl)))
      | (apply Br.f; · (first | rfl | (simp only [*] <;> rfl)))
      | refine Ob.mk (okst rfl rfl rfl) ?_
      | exact ⟨4, lgS c0 c1 c2 cap st L, Nat.le_refl 4, (show 4 ≤ 5 by decide), rfl, rfl, WkS.refl _, h⟩
      | refine Br.mkT (fun c => ?_) (fun c => ?_)
      | refine Br.mkF (fun c => ?_) (fun c => ?_)
      | refine Br.mk (fun c => ?_) (fun c => ?_))
  | false =>
    simp only [k1, if_false, Bool.false_eq_true] at h ⊢
    cases k2 : (v != 0) with
    | true =>
      have hv : v = 12 := by
        rcases hrt k1 with q | q
        · rw [q] at k2; exact absurd k2 (by decide)
        · exact q
      have := hbad v rfl k2
      cases this
      subst hv
      clear had hbad hrt k1 k2
      simp only [if_true]
      repeat' (first
        | (apply Br.t; · (first | rfl | (simp only [*] <;> rfl)))
        | (apply Br.f; · (first | rfl | (simp only [*] <;> rfl)))
        | refine Ob.mk (okst rfl rfl rfl) ?_
        | exact ⟨4, lgS c0 c1 c2 cap st L, Nat.le_refl 4, (show 4 ≤ 5 by decide), rfl, rfl, WkS.refl _, h⟩
        | refine Br.mkT (fun c => ?_) (fun c => ?_)
        | refine Br.mkF (fun c => ?_) (fun c => ?_)
        | refine Br.mk (fun c => ?_) (fun c => ?_))
    | false =>
      clear hbad hrt k1 k2
      simp only [if_false, Bool.false_eq_true]
      repeat' (first
        | (apply Br.t; · (first | rfl | (simp only [*] <;> rfl)))
        | (apply Br.f; · (first | rfl | (simp only [*] <;> rfl)))
        | refine Ob.mk (okst rfl rfl rfl) ?_
        | refine Cal.frameK [0, 1, 2, 3] (had _ fun _ => ?_) rfl rfl rfl
        | exact ⟨4, lgS c0 c1 c2 cap st L', Nat.le_refl 4, (show 4 ≤ 5 by decide), rfl, rfl, WkS.refl _, h⟩
        | refine Br.mkT (fun c => ?_) (fun c => ?_)
        | refine Br.mkF (fun c => ?_) (fun c => ?_)
        | refine Br.mk (fun c => ?_) (fun c => ?_))
theorem topen_s (L : List Bt) (K : AV → Store → Prop) (h : K (ib (leastV ((dFold L).1.map Pr.op))) [mpC L, some (.cells [.map 0])]) : Cal Tryz.prog 112 [.ref 1 0] [mpC L, some (.cells [.map 0])] K := by
  have hin : TInv (tApps ([], 0) L).1 (tApps ([], 0) L).2 := TInv.nil.apps
  refine topen_c _ _ hin K fun r hr => ?_
  rw [(TRel.row L).open hin hr (leastV_is _)]; exact h
set_option maxHeartbeats 4000000 in
theorem fstab_c (L : List Bt) (hL : L.length ≤ 1000000000) (hb : ∀ b, b ∈ L → b.small) (st : Int) (s : Store) (K : AV → Store → Prop) (h : K (.p (ii (stbW st L))) s) : Cal Tryz.prog 81 [.p (ii st), .p (rowP L)] s K := by
  refine Cal.pure (args := [ii st, rowP L]) ?_
  refine Cal.intro Tryz.func81 (by decide +kernel) rfl rfl ?_
  refine Cal.frameK [] (tfold_s L hL hb _ fun _ => ?_) rfl rfl rfl
  refine Cal.frameK [0, 1] (topen_s L _ fun _ => ?_) rfl rfl rfl
  have hen := fun s K => fend_c L st (by omega) s K
  unfold stbW at h
  generalize leastV ((dFold L).1.map Pr.op) = r at h ⊢
  obtain ⟨x, q⟩ := r
  unfold ib
  cases q with
  | true =>
    rw [if_pos rfl] at h
    repeat' (first
      | (apply Br.t; · (first | rfl | (simp only [*] <;> rfl)))
      | (apply Br.f; · (first | rfl | (simp only [*] <;> rfl)))
      | refine Ob.mk (okst rfl rfl rfl) ?_
      | refine Br.mkT (fun c => ?_) (fun c => ?_)
      | refine Br.mkF (fun c => ?_) (fun c => ?_)
      | refine Br.mk (fun c => ?_) (fun c => ?_)
      | exact h
      | (simp only [*, Bool.true_and, Bool.false_and, Bool.true_or, Bool.false_or, Bool.and_true, Bool.and_false, Bool.or_true, Bool.or_false, Bool.not_true, Bool.not_false, if_true, if_false, reduceIte, Bool.false_eq_true] at h; exact h))
  | false =>
    rw [if_neg (by simp)] at h
    repeat' (first
      | (apply Br.t; · (first | rfl | (simp only [*] <;> rfl)))
      | (apply Br.f; · (first | rfl | (simp only [*] <;> rfl)))
      | refine Ob.mk (okst rfl rfl rfl) ?_
      | refine hen _ _ ?_
      | refine Br.mkT (fun c => ?_) (fun c => ?_)
      | refine Br.mkF (fun c => ?_) (fun c => ?_)
      | refine Br.mk (fun c => ?_) (fun c => ?_)
      | exact h
      | (simp only [*, Bool.true_and, Bool.false_and, Bool.true_or, Bool.false_or, Bool.and_true, Bool.and_false, Bool.or_true, Bool.or_false, Bool.not_true, Bool.not_false, if_true, if_false, reduceIte, Bool.false_eq_true] at h; exact h))
theorem fstab_o (L : List Bt) (hL : L.length ≤ 1000000000) (hb : ∀ b, b ∈ L → b.small) (st : Int) (K : AV → Store → Prop) (h : K (.p (ii (stbW st L))) [bufR L]) : Cal Tryz.prog 81 [.p (ii st), .osl 0 L.length 0 L.length] [bufR L] K :=
  Cal.lend (ps := [ii st, rowP L]) (Ob.mk (rowL L) (by show [ii st, PV.sl .shr 7 (((L.map Bt.pv).drop 0).take L.length)] = _; rw [cutR]; rfl)) (fstab_c L hL hb st _ _ rfl) rfl h
set_option maxHeartbeats 4000000 in
theorem mstab_c (L : List Bt) (hL : L.length ≤ 1000000) (hb : ∀ b, b ∈ L → b.small) (st : Int) (s : Store) (K : AV → Store → Prop) (h : K (.p (ii (stbW st L))) s) : Cal Tryz.prog 26 [.p (ii st), .p (rowP L)] s K := by
  refine Cal.pure (args := [ii st, rowP L]) ?_
  refine Cal.intro Tryz.func26 (by decide +kernel) rfl rfl ?_
  obtain ⟨hi1, hi2, hi3⟩ := dFold_inv L
  have hen := fun s K => end1_c L st (by omega) s K
  refine Cal.frameK [] (dfold_c L (by omega) hb _ fun _ => ?_) rfl rfl rfl
  refine dopen_c (dFold L).1 (by omega) _ fun r hr => ?_
  have er := hr.eq (leastV_is _)
  unfold stbW at h
  rw [← er] at h
  clear er hr
  obtain ⟨x, q⟩ := r
  unfold ib
  cases q with
  | true =>
    rw [if_pos rfl] at h
    repeat' (first
      | (apply Br.t; · (first | rfl | (simp only [*] <;> rfl)))
      | (apply Br.f; · (first | rfl | (simp only [*] <;> rfl)))
      | refine Ob.mk (okst rfl rfl rfl) ?_
      | refine Br.mkT (fun c => ?_) (fun c => ?_)
      | refine Br.mkF (fun c => ?_) (fun c => ?_)
      | refine Br.mk (fun c => ?_) (fun c => ?_)
      | exact h
      | (simp only [*, Bool.true_and, Bool.false_and, Bool.true_or, Bool.false_or, Bool.and_true, Bool.and_false, Bool.or_true, Bool.or_false, Bool.not_true, Bool.not_false, if_true, if_false, reduceIte, Bool.false_eq_true] at h; exact h))
  | false =>
    rw [if_neg (by simp)] at h
    repeat' (first
      | (apply Br.t; · (first | rfl | (simp only [*] <;> rfl)))
      | (apply Br.f; · (first | rfl | (simp only [*] <;> rfl)))
      | refine Ob.mk (okst rfl rfl rfl) ?_
      | refine hen _ _ ?_
      | refine Br.mkT (fun c => ?_) (fun c => ?_)
      | refine Br.mkF (fun c => ?_) (fun c => ?_)
      | refine Br.mk (fun c => ?_) (fun c => ?_)
      | exact h
      | (simp only [*, Bool.true_and, Bool.false_and, Bool.true_or, Bool.false_or, Bool.and_true, Bool.and_false, Bool.or_true, Bool.or_false, Bool.not_true, Bool.not_false, if_true, if_false, reduceIte, Bool.false_eq_true] at h; exact h))
end Go.Proofs.YtjhgmaephpadpaaGreat.AW


open Go Go.Proofs.YtjhgmaephpadpaaGreat.AW Go.Proofs
namespace Go.Proofs.YtjhgmaephpadpaaGreat.AW
set_option maxRecDepth 100000
set_option linter.unusedSimpArgs false
set_option linter.unusedVariables false

/-! ### Bytes compared -/
end Go.Proofs.YtjhgmaephpadpaaGreat.AW


open Go Go.Proofs.YtjhgmaephpadpaaGreat.AW Go.Proofs
namespace Go.Proofs.YtjhgmaephpadpaaGreat.AW
set_option maxRecDepth 100000
set_option linter.unusedSimpArgs false
set_option linter.unusedVariables false

/-! ### varint.Back, ref1.Back -/
def bkS (v : Int) (c : UInt8) : Int := bits .or .u64 (IntKind.u64.wrap (v * 2 ^ min (8 : Int).toNat IntKind.u64.bits)) (IntKind.u64.wrap (c.toNat : Int))
def bkV (a : List UInt8) : Int := a.foldl bkS 0
end Go.Proofs.YtjhgmaephpadpaaGreat.AW


open Go Go.Proofs.YtjhgmaephpadpaaGreat.AW Go.Proofs
namespace Go.Proofs.YtjhgmaephpadpaaGreat.AW
set_option maxRecDepth 100000
set_option linter.unusedSimpArgs false
set_option linter.unusedVariables false

/-! ### varint.Get -/
def vgZ (v : Int) : Int := bits .xor .i64 (IntKind.i64.wrap (v.fdiv (2 ^ min (1 : Int).toNat IntKind.u64.bits))) (IntKind.i64.wrap (0 - IntKind.i64.wrap (bits .and .u64 v 1)))
end Go.Proofs.YtjhgmaephpadpaaGreat.AW


open Go Go.Proofs.YtjhgmaephpadpaaGreat.AW Go.Proofs
namespace Go.Proofs.YtjhgmaephpadpaaGreat.AW
set_option maxRecDepth 100000
set_option linter.unusedSimpArgs false
set_option linter.unusedVariables false

/-! ### varint.Cut -/
end Go.Proofs.YtjhgmaephpadpaaGreat.AW


open Go Go.Proofs.YtjhgmaephpadpaaGreat.AW Go.Proofs
namespace Go.Proofs.YtjhgmaephpadpaaGreat.AW
set_option maxRecDepth 100000
set_option linter.unusedSimpArgs false
set_option linter.unusedVariables false

/-! ### crc.Check -/
end Go.Proofs.YtjhgmaephpadpaaGreat.AW


open Go Go.Proofs.YtjhgmaephpadpaaGreat.AW Go.Proofs
namespace Go.Proofs.YtjhgmaephpadpaaGreat.AW
set_option maxRecDepth 100000
set_option linter.unusedSimpArgs false
set_option linter.unusedVariables false

/-! ### batch.long -/
def loS (v : Int) (c : UInt8) : Int := bits .or .i64 (IntKind.i64.wrap (v * 2 ^ min (8 : Int).toNat IntKind.i64.bits)) (IntKind.i64.wrap (c.toNat : Int))
def loV (a : List UInt8) : Int := a.foldl loS 0
set_option maxHeartbeats 4000000 in
theorem longR_c (a : List UInt8) (s : Store) (K : AV → Store → Prop) (h : K (.p (ii (if a.length < 12 then 0 else IntKind.i64.wrap (12 + loV ((a.take 12).drop 8))))) s) : Cal Tryz.prog 142 [.p (bsl a)] s K := by
  refine Cal.pure (args := [bsl a]) ?_
  refine Cal.intro Tryz.func142 (by decide +kernel) rfl rfl ?_
  have hla := bytesP_len a
  by_cases h8 : a.length < 12
  · have c1 : decide ((((bytesP a).length : Nat) : Int) < 12) = true := decide_eq_true (by omega)
    rw [if_pos h8] at h
    refine Br.t c1 ?_
    exact h
  · have c1 : decide ((((bytesP a).length : Nat) : Int) < 12) = false := decide_eq_false (by omega)
    rw [if_neg h8] at h
    refine Br.f c1 ?_
    have o1 : 0 ≤ (8 : Int) ∧ (8 : Int) ≤ 12 ∧ (12 : Int) ≤ (((bytesP a).length : Nat) : Int) := by omega
    refine Ob.mk o1 ?_
    have hT : (((bytesP a).take (12 : Int).toNat).drop (8 : Int).toNat) = bytesP ((a.take 12).drop 8) := by unfold bytesP; rw [List.map_drop, List.map_take]; rfl
    have hTl : (((bytesP a).take (12 : Int).toNat).drop (8 : Int).toNat).length = 4 := by rw [hT, bytesP_len, List.length_drop, List.length_take]; omega
    have ha8 : ((a.take 12).drop 8).length = 4 := by rw [List.length_drop, List.length_take]; omega
    generalize (a.take 12).drop 8 = b at h hT ha8
    refine LoopX.fam [3, 10, 11, 12] (fun (j : Nat) => ([(3, .p (ii (loV (b.take j)))), (10, .p (.sl .shr 1 (((bytesP a).take (12 : Int).toNat).drop (8 : Int).toNat))), (11, .p (ii (((bytesP a).take (12 : Int).toNat).drop (8 : Int).toNat).length)), (12, .p (ii (j : Nat)))], []))
      (fun j => j ≤ 4) (fun j => 4 - j) 0 (Nat.zero_le _) (Trim.mk' rfl rfl rfl rfl (Nat.le_refl _)) ?_
    intro j hj
    replace hj : j ≤ 4 := hj
    refine Br.mk (fun hc => ?_) (fun hc => ?_)
    · replace hc : (j : Int) < ((((bytesP a).take (12 : Int).toNat).drop (8 : Int).toNat).length : Nat) := of_decide_eq_true hc
      have hj1 : j < b.length := by omega
      have ej : IntKind.i64.wrap ((j : Int) + 1) = ((j + 1 : Nat) : Int) := by rw [wrap_i64] <;> omega
      have hg : (((bytesP a).take (12 : Int).toNat).drop (8 : Int).toNat)[((j : Nat) : Int).toNat]? = some (.int .u8 ((b[j]).toNat : Int)) := by rw [hT]; exact getB hj1
      have hs : loV (b.take (j + 1)) = bits .or .i64 (IntKind.i64.wrap (loV (b.take j) * 2 ^ min (8 : Int).toNat IntKind.i64.bits)) (IntKind.i64.wrap ((b[j]).toNat : Int)) := by
        unfold loV; rw [take_succ' hj1, List.foldl_append]; rfl
      refine Idx.mk (.int .u8 ((b[j]).toNat : Int)) (Int.natCast_nonneg _) hg ?_
      refine Ob.mk (by decide) ?_
      refine ⟨j + 1, by show j + 1 ≤ 4; omega, by show 4 - (j + 1) < 4 - j; omega, Nat.le_refl _, Trim.mk' ?_ rfl rfl rfl (Nat.le_refl _)⟩
      refine Eq.trans (b := [(3, .p (ii (bits .or .i64 (IntKind.i64.wrap (loV (b.take j) * 2 ^ min (8 : Int).toNat IntKind.i64.bits)) (IntKind.i64.wrap ((b[j]).toNat : Int))))), _, _, (12, AV.p (ii (IntKind.i64.wrap ((j : Int) + 1))))]) rfl ?_
      rw [ej, ← hs]; rfl
    · replace hc : j = 4 := by
        have := of_decide_eq_false hc
        have : ¬ (j : Int) < ((((bytesP a).take (12 : Int).toNat).drop (8 : Int).toNat).length : Nat) := this
        omega
      subst hc
      rw [← ha8, List.take_length]
      exact h
end Go.Proofs.YtjhgmaephpadpaaGreat.AW


open Go Go.Proofs.YtjhgmaephpadpaaGreat.AW Go.Proofs
namespace Go.Proofs.YtjhgmaephpadpaaGreat.AW
set_option maxRecDepth 100000
set_option linter.unusedSimpArgs false
set_option linter.unusedVariables false

/-! ### Next, Keep of a log; Raw of no bytes -/
theorem nxtF_take {top st : Int} {L : List Bt} {j : Nat} (hj : j < L.length) : nxtF top st (L.take (j + 1)) = if L[j].base ≤ top then L[j].base else nxtF top st (L.take j) := by rw [take_succ' hj, nxtF_snoc]
set_option maxHeartbeats 8000000 in
theorem lnext_c (c0 c1 c2 cap st : Int) (L : List Bt) (hL : L.length ≤ 1000000000) (hb : ∀ b, b ∈ L → b.small) (f : Int) (K : AV → Store → Prop) (h : K (.p (ii (kpS st L f))) (lgS c0 c1 c2 cap st L)) : Cal Tryz.prog 47 [.ref 0 0, .p (ii f)] (lgS c0 c1 c2 cap st L) K := by
  refine Cal.cut ?_
  refine Cal.intro Tryz.func47 (by decide +kernel) rfl rfl ?_
  have hlm := rowL L
  have hst := fun K => fstab_o L hL hb st K
  have hen := fun K => lend_c c0 c1 c2 cap st L hL K
  unfold kpS nxtV at h
  generalize stbW st L = sb at h hst
  generalize endW st L = e at h hen
  repeat' (first
    | refine Chk.mk (by kernel_rfl) ?_
    | (apply Br.t; · (first | rfl | (simp only [*] <;> rfl)))
    | (apply Br.f; · (first | rfl | (simp only [*] <;> rfl)))
    | refine ⟨_, ⟨rfl, rfl⟩, ?_⟩
    | refine ⟨_, _, ⟨rfl, rfl⟩, rfl, ?_⟩
    | refine .inr <| .inr ⟨[1], _, _, _, hst _ ⟨rfl, rfl⟩, rfl, rfl, rfl, ?_⟩
    | refine ⟨_, Ob.mk (by decide) ⟨rfl, rfl⟩, ?_⟩
    | (refine ⟨_, Br.t ?_ ⟨rfl, rfl⟩, ?_⟩; · (first | rfl | (simp only [*] <;> rfl)))
    | (refine ⟨_, Br.f ?_ ⟨rfl, rfl⟩, ?_⟩; · (first | rfl | (simp only [*] <;> rfl)))
    | refine ⟨_, _, Ob.mk (okst rfl rfl rfl) ⟨rfl, rfl⟩, rfl, ?_⟩
    | refine Ob.mk (okst rfl rfl rfl) ?_
    | refine Ob.mk (by decide) ?_
    | refine Br.mkT (fun c => ?_) (fun c => ?_)
    | refine Br.mkF (fun c => ?_) (fun c => ?_)
    | refine Br.mk (fun c => ?_) (fun c => ?_))
  obtain ⟨top, ht⟩ : ∃ top, top = (if sb < f then sb else f) := ⟨_, rfl⟩
  refine LoopX.fam [0, 5, 6, 27, 28, 29] (fun (j : Nat) => ([(0, .ref 0 0), (5, .p (ii top)), (6, .p (ii (nxtF top st (L.take j)))), (27, .osl 1 L.length 0 L.length), (28, .p (ii L.length)), (29, .p (ii (j : Nat)))], lgS c0 c1 c2 cap st L))
    (fun j => j ≤ L.length) (fun j => L.length - j) 0 (Nat.zero_le _) (Trim.mk' (by rw [ht]; rfl) rfl rfl rfl (Nat.le_refl _)) ?_
  rw [← ht] at h
  clear ht hst
  intro j hj
  have hj : j ≤ L.length := hj
  refine Br.mk (fun hc => ?_) (fun hc => ?_)
  · have hc : (j : Int) < (L.length : Nat) := of_decide_eq_true hc
    have hj1 : j < L.length := by omega
    have ej : IntKind.i64.wrap ((j : Int) + 1) = ((j + 1 : Nat) : Int) := by rw [wrap_i64] <;> omega
    refine Ob.mk ⟨hlm, Int.natCast_nonneg _, hc⟩ ?_
    have hgl : (L.map Bt.pv)[((0 + ((j : Nat) : Int).toNat : Nat) : Int).toNat]? = some L[j].pv := by rw [Nat.zero_add, Int.toNat_natCast]; exact getL hj1
    refine Ob.mk hlm ?_
    refine Idx.mk _ (Int.natCast_nonneg _) hgl ?_
    refine Ob.mk (okst rfl rfl rfl) ?_
    have hn := nxtF_take (top := top) (st := st) hj1
    refine Br.mk (fun hp => ?_) (fun hp => ?_)
    · rw [if_pos (of_decide_eq_true hp)] at hn
      refine ⟨j + 1, hj1, by show L.length - (j + 1) < L.length - j; omega, Nat.le_refl _, Trim.mk' ?_ rfl rfl rfl (show 4 ≤ 5 by decide)⟩
      refine Eq.trans (b := [_, _, (6, AV.p (ii L[j].base)), _, _, (29, AV.p (ii (IntKind.i64.wrap ((j : Int) + 1))))]) rfl ?_
      rw [ej, ← hn]; rfl
    · rw [if_neg (of_decide_eq_false hp)] at hn
      refine ⟨j + 1, hj1, by show L.length - (j + 1) < L.length - j; omega, Nat.le_refl _, Trim.mk' ?_ rfl rfl rfl (show 4 ≤ 5 by decide)⟩
      refine Eq.trans (b := [_, _, (6, AV.p (ii (nxtF top st (L.take j)))), _, _, (29, AV.p (ii (IntKind.i64.wrap ((j : Int) + 1))))]) rfl ?_
      rw [ej, ← hn]; rfl
  · have hc : ¬ (j : Int) < (L.length : Nat) := of_decide_eq_false hc
    have : j = L.length := by omega
    subst this
    rw [List.take_length]
    clear hc hj
    refine Cal.frameK [0, 1, 2, 3] (hen _ fun _ => ?_) rfl rfl rfl
    refine Br.mk (fun hp => ?_) (fun hp => ?_)
    · rw [if_pos (of_decide_eq_true hp)] at h
      refine Cal.frameK [0, 1, 2, 3] (hen _ fun _ => ?_) rfl rfl rfl
      exact ⟨4, lgS c0 c1 c2 cap st L, Nat.le_refl 4, (show 4 ≤ 4 by decide), rfl, rfl, WkS.refl _, h⟩
    · rw [if_neg (of_decide_eq_false hp)] at h
      exact ⟨4, lgS c0 c1 c2 cap st L, Nat.le_refl 4, (show 4 ≤ 4 by decide), rfl, rfl, WkS.refl _, h⟩
def lgK (c0 c1 c2 cap n : Int) (L M : List Bt) : Store := [lcC c0 c1 c2 cap n M 4 6 (sizeS M), none, mpC L, some (.cells [.map 2]), bufR M, mpC M, some (.cells [.map 5])]
theorem kep_step {n : Int} {L : List Bt} {k : Nat} (hk : k < L.length) : kepL n (L.drop k) = if L[k].base < n then kepL n (L.drop (k + 1)) else L.drop k := by
  rw [List.drop_eq_getElem_cons hk]
  unfold kepL
  rw [List.dropWhile_cons]
  by_cases h : L[k].base < n
  · rw [if_pos (by simpa using h), if_pos h]
  · rw [if_neg (by simpa using h), if_neg h]
set_option maxHeartbeats 8000000 in
theorem lkeep_c (c0 c1 c2 cap st : Int) (L : List Bt) (hL : L.length ≤ 1000000000) (hb : ∀ b, b ∈ L → b.small) (hr : ∀ b, b ∈ L → b.recs.length ≤ 1000000000) (f : Int) (K : AV → Store → Prop) (h : K (.p (ii (kpS st L f))) (lgK c0 c1 c2 cap (kpS st L f) L (kepL (kpS st L f) L))) : Cal Tryz.prog 25 [.ref 0 0, .p (ii f)] (lgS c0 c1 c2 cap st L) K := by
  refine Cal.mvOut ?_
  refine Cal.intro Tryz.func25 (by decide +kernel) rfl rfl ?_
  have hlm := rowL L
  refine Cal.frameK [0, 1, 2, 3] (lnext_c c0 c1 c2 cap st L hL hb f _ fun _ => ?_) rfl rfl rfl
  generalize kpS st L f = n at h ⊢
  refine LoopX.fam [0, 5, 6] (fun (k : Nat) => ([(0, .ref 0 0), (5, .p (ii n)), (6, .osl 1 L.length k (L.length - k))], lgS c0 c1 c2 cap st L))
    (fun k => k ≤ L.length ∧ kepL n L = kepL n (L.drop k)) (fun k => L.length - k) 0 ⟨Nat.zero_le _, rfl⟩ (Trim.mk' rfl rfl rfl rfl (Nat.le_refl _)) ?_
  rintro k ⟨hk, hkl⟩
  have hk : k ≤ L.length := hk
  have hkl : kepL n L = kepL n (L.drop k) := hkl
  have hfin : kepL n (L.drop k) = L.drop k → K (.p (ii n)) (lgK c0 c1 c2 cap n L (L.drop k)) := fun e => by
    rw [hkl, e] at h; exact h
  clear h
  have hcut : ((L.map Bt.pv).drop k).take (L.length - k) = (L.drop k).map Bt.pv := by
    rw [← List.map_drop]
    exact List.take_of_length_le (by rw [List.length_map, List.length_drop]; exact Nat.le_refl _)
  have hd : (L.drop k).length = L.length - k := List.length_drop ..
  have hw := fun K => with_c c0 c1 c2 cap n (L.drop k) (by omega) (fun b hm => hb b (List.mem_of_mem_drop hm)) (fun b hm => hr b (List.mem_of_mem_drop hm)) K
  have hmo : kepL n (L.drop k) = L.drop k → ∃ is v2 s2, (nodupLt is 8 && fixed 4 is) = true ∧ is.map (getO [lcC c0 c1 c2 cap n (L.drop k) 5 7 (sizeS (L.drop k)), none, mpC L, some (.cells [.map 2]), lcC c0 c1 c2 cap n (L.drop k) 5 7 (sizeS (L.drop k)), bufR (L.drop k), mpC (L.drop k), some (.cells [.map 6])]) = s2.map (renO (place is 8)) ∧ AV.p (ii n) = v2.ren (place is 8) ∧ K v2 s2 := fun e =>
    ⟨[0, 1, 2, 3, 5, 6, 7], .p (ii n), lgK c0 c1 c2 cap n L (L.drop k), by decide, rfl, rfl, hfin e⟩
  clear hfin
  cases k1 : decide ((((L.length - k : Nat) : Nat) : Int) > 0) with
  | false =>
    have hk0 : L.drop k = [] := List.eq_nil_of_length_eq_zero (by have := of_decide_eq_false k1; omega)
    have he : kepL n (L.drop k) = L.drop k := by rw [hk0]; rfl
    clear hd hk0 hkl hb hr hL
    repeat' (first
      | (apply Br.t; · (first | rfl | (simp only [*] <;> rfl)))
      | (apply Br.f; · (first | rfl | (simp only [*] <;> rfl)))
      | refine Ob.mk (okst rfl rfl rfl) ?_
      | refine Br.mkT (fun c => ?_) (fun c => ?_)
      | refine Br.mkF (fun c => ?_) (fun c => ?_)
      | refine Br.mk (fun c => ?_) (fun c => ?_))
    refine Cal.freeze ?_ ⟨_, Tryz.func29, rfl, rfl⟩
    refine Ob.mk hlm ?_
    show Cal _ _ [_, _, .p (.sl .shr 7 (((L.map Bt.pv).drop k).take (L.length - k)))] _ _
    rw [hcut]
    refine Cal.frameK [] (hw _ fun _ => ?_) rfl rfl rfl
    refine Ob.mk (okst rfl rfl rfl) ?_
    exact hmo he
  | true =>
    have hk1 : k < L.length := by have := of_decide_eq_true k1; omega
    have hgl : (L.map Bt.pv)[((k + (0 : Int).toNat : Nat) : Int).toNat]? = some L[k].pv := by
      have e : ((k + (0 : Int).toNat : Nat) : Int).toNat = ((k : Nat) : Int).toNat := by simp
      rw [e]; exact getL hk1
    have hstep := kep_step (n := n) hk1
    have hlt : (0 : Int) < ((L.length - k : Nat) : Int) := of_decide_eq_true k1
    have hle : (1 : Int) ≤ ((L.length - k : Nat) : Int) := by omega
    have e1 : (((L.length - k : Nat) : Int) - 1).toNat = L.length - (k + 1) := by omega
    cases k2 : decide (L[k].base < n) with
    | false =>
      rw [if_neg (of_decide_eq_false k2)] at hstep
      clear hd hkl hb hr hL e1 hle
      repeat' (first
        | (apply Br.t; · (first | rfl | (simp only [*] <;> rfl)))
        | (apply Br.f; · (first | rfl | (simp only [*] <;> rfl)))
        | refine Ob.mk (okst rfl rfl rfl) ?_
        | refine Ob.mk ⟨hlm, Int.le_refl 0, hlt⟩ ?_
        | refine Ob.mk hlm ?_
        | refine Idx.mk _ (Int.natCast_nonneg _) hgl ?_
        | refine Br.mkT (fun c => ?_) (fun c => ?_)
        | refine Br.mkF (fun c => ?_) (fun c => ?_)
        | refine Br.mk (fun c => ?_) (fun c => ?_))
      refine Cal.freeze ?_ ⟨_, Tryz.func29, rfl, rfl⟩
      refine Ob.mk hlm ?_
      show Cal _ _ [_, _, .p (.sl .shr 7 (((L.map Bt.pv).drop k).take (L.length - k)))] _ _
      rw [hcut]
      refine Cal.frameK [] (hw _ fun _ => ?_) rfl rfl rfl
      refine Ob.mk (okst rfl rfl rfl) ?_
      exact hmo hstep
    | true =>
      rw [if_pos (of_decide_eq_true k2)] at hstep
      clear hd hb hr hL
      repeat' (first
        | (apply Br.t; · (first | rfl | (simp only [*] <;> rfl)))
        | (apply Br.f; · (first | rfl | (simp only [*] <;> rfl)))
        | refine Ob.mk (okst rfl rfl rfl) ?_
        | refine Ob.mk ⟨hlm, Int.le_refl 0, hlt⟩ ?_
        | refine Ob.mk hlm ?_
        | refine Idx.mk _ (Int.natCast_nonneg _) hgl ?_
        | refine Ob.mk ⟨hlm, (by decide), hle, Int.le_refl _⟩ ?_
        | refine Br.mkT (fun c => ?_) (fun c => ?_)
        | refine Br.mkF (fun c => ?_) (fun c => ?_)
        | refine Br.mk (fun c => ?_) (fun c => ?_))
      refine ⟨k + 1, ⟨hk1, by rw [hkl]; exact hstep⟩, by show L.length - (k + 1) < L.length - k; omega, Nat.le_refl _, Trim.mk' ?_ rfl rfl rfl (show 4 ≤ 4 by decide)⟩
      refine Eq.trans (b := [_, _, (6, AV.osl 1 L.length (k + (1 : Int).toNat) (((L.length - k : Nat) : Int) - 1).toNat)]) rfl ?_
      rw [e1]; rfl
def bZv : PV := .agg [ii 0, ii 0, ii 0, ii 0, .bool false, ii 0, .sl .nil 0 []]
theorem read0_c (s : Store) (K : AV → Store → Prop) (h : K (.tup [.p bZv, .p (ii 0), .p (ii 12)]) s) : Cal Tryz.prog 110 [.p (.sl .nil 0 [])] s K := by
  refine Cal.pure (args := [.sl .nil 0 []]) ?_
  refine Cal.intro Tryz.func110 (by decide +kernel) rfl rfl ?_
  have hl : ∀ s K, K (.p (ii 0)) s → Cal Tryz.prog 142 [.p (.sl .nil 0 [])] s K := fun s K hK =>
    Cal.argsD (args' := [.p (bsl [])]) (longR_c [] s K hK) ⟨.inr ⟨_, _, rfl, rfl, .nil 0 .shr 1⟩, trivial⟩
  refine hl _ _ ?_
  repeat' (first
    | (apply Br.t; · (first | rfl | (simp only [*] <;> rfl)))
    | (apply Br.f; · (first | rfl | (simp only [*] <;> rfl)))
    | refine Ob.mk (okst rfl rfl rfl) ?_
    | refine Br.mkT (fun c => ?_) (fun c => ?_)
    | refine Br.mkF (fun c => ?_) (fun c => ?_)
    | refine Br.mk (fun c => ?_) (fun c => ?_)
    | exact h
    | (simp only [*, Bool.true_and, Bool.false_and, Bool.true_or, Bool.false_or, Bool.and_true, Bool.and_false, Bool.or_true, Bool.or_false, Bool.not_true, Bool.not_false, if_true, if_false, reduceIte, Bool.false_eq_true] at h; exact h))
theorem whole0_c (s : Store) (K : AV → Store → Prop) (h : K (.tup [.p bZv, .p (ii 12)]) s) : Cal Tryz.prog 77 [.p (.sl .nil 0 [])] s K := by
  refine Cal.pure (args := [.sl .nil 0 []]) ?_
  refine Cal.intro Tryz.func77 (by decide +kernel) rfl rfl ?_
  refine read0_c _ _ ?_
  repeat' (first
    | (apply Br.t; · (first | rfl | (simp only [*] <;> rfl)))
    | (apply Br.f; · (first | rfl | (simp only [*] <;> rfl)))
    | refine Ob.mk (okst rfl rfl rfl) ?_
    | refine Br.mkT (fun c => ?_) (fun c => ?_)
    | refine Br.mkF (fun c => ?_) (fun c => ?_)
    | refine Br.mk (fun c => ?_) (fun c => ?_)
    | exact h
    | (simp only [*, Bool.true_and, Bool.false_and, Bool.true_or, Bool.false_or, Bool.and_true, Bool.and_false, Bool.or_true, Bool.or_false, Bool.not_true, Bool.not_false, if_true, if_false, reduceIte, Bool.false_eq_true] at h; exact h))
theorem lraw0_c (c0 c1 c2 cap st : Int) (L : List Bt) (K : AV → Store → Prop) (h : K (i2 (-1, 12)) (lgS c0 c1 c2 cap st L)) : Cal Tryz.prog 41 [.ref 0 0, .p (.sl .nil 0 [])] (lgS c0 c1 c2 cap st L) K := by
  refine Cal.cut ?_
  refine Cal.intro Tryz.func41 (by decide +kernel) rfl rfl ?_
  refine whole0_c _ _ ?_
  repeat' (first
    | (apply Br.t; · (first | rfl | (simp only [*] <;> rfl)))
    | (apply Br.f; · (first | rfl | (simp only [*] <;> rfl)))
    | refine Ob.mk (okst rfl rfl rfl) ?_
    | exact ⟨4, lgS c0 c1 c2 cap st L, Nat.le_refl 4, (show 4 ≤ 5 by decide), rfl, rfl, WkS.refl _, h⟩
    | refine Br.mkT (fun c => ?_) (fun c => ?_)
    | refine Br.mkF (fun c => ?_) (fun c => ?_)
    | refine Br.mk (fun c => ?_) (fun c => ?_))
end Go.Proofs.YtjhgmaephpadpaaGreat.AW
