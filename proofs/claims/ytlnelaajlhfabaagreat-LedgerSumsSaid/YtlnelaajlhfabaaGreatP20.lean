/- A part of the proof: LG/G50, LG/G51, LG/G52, LG/G53, LG/B11, LG/G54, LG/G55, LG/B12. -/
import Derived.Test.YtlnelaajlhfabaaGreatP19
import Derived.Test.YtlnelaajlhfabaaGreatP18
open Go Go.Proofs.YtlnelaajlhfabaaGreat.AW Go.Proofs
namespace Go.Proofs.YtlnelaajlhfabaaGreat.AW
set_option maxRecDepth 100000
set_option linter.unusedSimpArgs false
set_option linter.unusedVariables false

/-! ### .. by the document -/
theorem txpL (l : List Tx) : (l.map PV.str).length = l.length := List.length_map ..
end Go.Proofs.YtlnelaajlhfabaaGreat.AW

open Go Go.Proofs.YtlnelaajlhfabaaGreat.AW Go.Proofs
namespace Go.Proofs.YtlnelaajlhfabaaGreat.AW
set_option maxRecDepth 100000
set_option linter.unusedSimpArgs false
set_option linter.unusedVariables false

/-! ### ledger.Last -/
theorem at_get {gs : List Gt} {i : Nat} (h : i < gs.length) : at' gs i = gs[i] := getD_G h
def lsS (q : List (SE Int) × Nat) : Option AObj := some (.map .str (q.1.map (sent ii)) q.2)
theorem lst_map (gs : List Gt) (j : Nat) : some (AObj.map .str (mPut ((lstN gs j).1.map (sent ii)) (lstN gs j).2 (.str (at' gs j).key) (ii (j : Nat))) (mClock ((lstN gs j).1.map (sent ii)) (lstN gs j).2 (.str (at' gs j).key))) = lsS (aPut (lstN gs j).1 (lstN gs j).2 (at' gs j).key (j : Nat), aCl (lstN gs j).1 (lstN gs j).2 (at' gs j).key) := by
  rw [put_sent ii, clk_sent ii]; rfl
set_option maxHeartbeats 16000000 in
theorem lastG2_c (gs : List Gt) (hg : gs.length ≤ 1000000000) (h20 : (bests gs gs.length).length ≤ 20) (s : Store) (K : AV → Store → Prop) (h : K (.p (gsC (isort (bests gs gs.length)))) s) : Cal Tryz.prog 36 [.p (gsP gs)] s K := by
  refine Cal.pure (args := [gsP gs]) ?_
  refine Cal.intro Tryz.func36 (by decide +kernel) rfl rfl ?_
  have hlm := gsL gs
  refine LoopX.fam [0, 3, 12, 13, 14] (fun (j : Nat) => ([(0, .p (gsP gs)), (3, .map 0), (12, .p (gsP gs)), (13, .p (ii (gs.map Gt.pv).length)), (14, .p (ii (j : Nat)))], [lsS (lstN gs j)]))
    (fun j => j ≤ gs.length) (fun j => gs.length - j) 0 (Nat.zero_le _) (Trim.mk' rfl rfl rfl rfl (Nat.le_refl _)) ?_
  intro j hj
  have hj : j ≤ gs.length := hj
  refine Br.mk (fun hc => ?_) (fun hc => ?_)
  · have hc : (j : Int) < ((gs.map Gt.pv).length : Nat) := of_decide_eq_true hc
    have hj1 : j < gs.length := by omega
    have ej : IntKind.i64.wrap ((j : Int) + 1) = ((j + 1 : Nat) : Int) := by rw [wrap_i64] <;> omega
    have hat := at_get hj1
    have hget := get_sent ii gs[j].key (lstN gs j).1
    have hinv := lstN_get gs j gs[j].key
    have hmp := lst_map gs j
    have hst : lstN gs (j + 1) = lstA gs (lstN gs j) j := rfl
    unfold lstA at hst
    rw [hat] at hmp hst
    refine Idx.mk _ (Int.natCast_nonneg _) (getG hj1) ?_
    refine Ob.mk (okst rfl rfl rfl) ?_
    cases hn : aGet (lstN gs j).1 gs[j].key with
    | none =>
      rw [hn] at hget hst
      refine Opt.n hget ?_
      repeat' (first
        | refine Chk.mk (by kernel_rfl) ?_
        | (apply Br.t; · (first | rfl | (simp only [*] <;> rfl)))
        | (apply Br.f; · (first | rfl | (simp only [*] <;> rfl)))
        | refine ⟨_, ⟨rfl, rfl⟩, ?_⟩
        | refine ⟨_, _, ⟨rfl, rfl⟩, rfl, ?_⟩
        | refine ⟨_, Ob.mk (by decide) ⟨rfl, rfl⟩, ?_⟩
        | (refine ⟨_, Br.t ?_ ⟨rfl, rfl⟩, ?_⟩; · (first | rfl | (simp only [*] <;> rfl)))
        | (refine ⟨_, Br.f ?_ ⟨rfl, rfl⟩, ?_⟩; · (first | rfl | (simp only [*] <;> rfl)))
        | refine ⟨_, _, Ob.mk (okst rfl rfl rfl) ⟨rfl, rfl⟩, rfl, ?_⟩
        | refine Ob.mk (okst rfl rfl rfl) ?_
        | refine Ob.mk (by decide) ?_
        | refine Br.mkT (fun c => ?_) (fun c => ?_)
        | refine Br.mkF (fun c => ?_) (fun c => ?_)
        | refine Br.mk (fun c => ?_) (fun c => ?_))
      refine ⟨j + 1, hj1, by show gs.length - (j + 1) < gs.length - j; omega, (show 1 ≤ 1 by decide), Trim.mk' ?_ ?_ rfl rfl (by show (1 : Nat) ≤ 2; decide)⟩
      · refine Eq.trans (b := [_, _, _, _, (14, AV.p (ii (IntKind.i64.wrap ((j : Int) + 1))))]) rfl ?_
        rw [ej]; rfl
      · show [some (AObj.map .str (mPut ((lstN gs j).1.map (sent ii)) (lstN gs j).2 (.str gs[j].key) (ii (j : Nat))) (mClock ((lstN gs j).1.map (sent ii)) (lstN gs j).2 (.str gs[j].key)))] = [lsS (lstN gs (j + 1))]
        rw [hmp, hst]
    | some w =>
      rw [hn] at hget hst hinv
      obtain ⟨w0, wj, _, _⟩ := hinv
      have hwl : w.toNat < gs.length := by omega
      have g1 : (gs.map Gt.pv)[w.toNat]? = some gs[w.toNat].pv := by rw [List.getElem?_map, List.getElem?_eq_getElem hwl]; rfl
      dsimp only at hst
      rw [at_get hwl] at hst
      refine Opt.s hget ?_
      cases hge : decide (gs[j].off ≥ gs[w.toNat].off) with
      | true =>
        have hst2 : lstN gs (j + 1) = (aPut (lstN gs j).1 (lstN gs j).2 gs[j].key (j : Nat), aCl (lstN gs j).1 (lstN gs j).2 gs[j].key) := by rw [hst, hge, if_pos rfl]
        clear hst hget hn hlm hat
        repeat' (first
          | refine Chk.mk (by kernel_rfl) ?_
          | (apply Br.t; · (first | rfl | (simp only [*] <;> rfl)))
          | (apply Br.f; · (first | rfl | (simp only [*] <;> rfl)))
          | refine ⟨_, ⟨rfl, rfl⟩, ?_⟩
          | refine ⟨_, _, ⟨rfl, rfl⟩, rfl, ?_⟩
          | refine ⟨_, Idx.mk _ w0 g1 ⟨rfl, rfl⟩, ?_⟩
          | apply Br.t hge
          | refine ⟨_, Ob.mk (by decide) ⟨rfl, rfl⟩, ?_⟩
          | (refine ⟨_, Br.t ?_ ⟨rfl, rfl⟩, ?_⟩; · (first | rfl | (simp only [*] <;> rfl)))
          | (refine ⟨_, Br.f ?_ ⟨rfl, rfl⟩, ?_⟩; · (first | rfl | (simp only [*] <;> rfl)))
          | refine ⟨_, _, Ob.mk (okst rfl rfl rfl) ⟨rfl, rfl⟩, rfl, ?_⟩
          | refine Ob.mk (okst rfl rfl rfl) ?_
          | refine Ob.mk (by decide) ?_
          | refine Br.mkT (fun c => ?_) (fun c => ?_)
          | refine Br.mkF (fun c => ?_) (fun c => ?_)
          | refine Br.mk (fun c => ?_) (fun c => ?_))
        refine ⟨j + 1, hj1, by show gs.length - (j + 1) < gs.length - j; omega, (show 1 ≤ 1 by decide), Trim.mk' ?_ ?_ rfl rfl (by show (1 : Nat) ≤ 2; decide)⟩
        · refine Eq.trans (b := [_, _, _, _, (14, AV.p (ii (IntKind.i64.wrap ((j : Int) + 1))))]) rfl ?_
          rw [ej]; rfl
        · show [some (AObj.map .str (mPut ((lstN gs j).1.map (sent ii)) (lstN gs j).2 (.str gs[j].key) (ii (j : Nat))) (mClock ((lstN gs j).1.map (sent ii)) (lstN gs j).2 (.str gs[j].key)))] = [lsS (lstN gs (j + 1))]
          rw [hmp, hst2]
      | false =>
        have hst2 : lstN gs (j + 1) = lstN gs j := by rw [hst, hge]; rfl
        clear hst hget hn hlm hat hmp
        repeat' (first
          | refine Chk.mk (by kernel_rfl) ?_
          | (apply Br.t; · (first | rfl | (simp only [*] <;> rfl)))
          | (apply Br.f; · (first | rfl | (simp only [*] <;> rfl)))
          | refine ⟨_, ⟨rfl, rfl⟩, ?_⟩
          | refine ⟨_, _, ⟨rfl, rfl⟩, rfl, ?_⟩
          | refine ⟨_, Idx.mk _ w0 g1 ⟨rfl, rfl⟩, ?_⟩
          | apply Br.f hge
          | refine ⟨_, Ob.mk (by decide) ⟨rfl, rfl⟩, ?_⟩
          | (refine ⟨_, Br.t ?_ ⟨rfl, rfl⟩, ?_⟩; · (first | rfl | (simp only [*] <;> rfl)))
          | (refine ⟨_, Br.f ?_ ⟨rfl, rfl⟩, ?_⟩; · (first | rfl | (simp only [*] <;> rfl)))
          | refine ⟨_, _, Ob.mk (okst rfl rfl rfl) ⟨rfl, rfl⟩, rfl, ?_⟩
          | refine Ob.mk (okst rfl rfl rfl) ?_
          | refine Ob.mk (by decide) ?_
          | refine Br.mkT (fun c => ?_) (fun c => ?_)
          | refine Br.mkF (fun c => ?_) (fun c => ?_)
          | refine Br.mk (fun c => ?_) (fun c => ?_))
        refine ⟨j + 1, hj1, by show gs.length - (j + 1) < gs.length - j; omega, (show 1 ≤ 1 by decide), Trim.mk' ?_ ?_ rfl rfl (by show (1 : Nat) ≤ 2; decide)⟩
        · refine Eq.trans (b := [_, _, _, _, (14, AV.p (ii (IntKind.i64.wrap ((j : Int) + 1))))]) rfl ?_
          rw [ej]; rfl
        · show [lsS (lstN gs j)] = [lsS (lstN gs (j + 1))]
          rw [hst2]
  · have hc : ¬ (j : Int) < ((gs.map Gt.pv).length : Nat) := of_decide_eq_false hc
    have : j = gs.length := by omega
    subst this
    obtain ⟨q, hq⟩ : ∃ q, q = lstN gs gs.length := ⟨_, rfl⟩
    have hbest := fun i (hi : i < gs.length) => best_iff gs hi
    rw [← hq] at hbest ⊢
    clear hq
    refine LoopX.famW [3, 8, 45, 46, 47] (fun (j : Nat) => ([(3, .map 0), (8, .osl 1 ((bests gs j).map Gt.pv).length 0 ((bests gs j).map Gt.pv).length), (45, .p (gsP gs)), (46, .p (ii (gs.map Gt.pv).length)), (47, .p (ii (j : Nat)))], [lsS q, some (.buf 4 ((bests gs j).map Gt.pv))]))
      (fun j => j ≤ gs.length) (fun j => gs.length - j) 0 (Nat.zero_le _) (by show 1 ≤ 2; decide) (Trim.wk 1 [(4, none)] rfl (by show 1 ≤ 1; decide) (.inr rfl) rfl rfl rfl rfl rfl ⟨.inl rfl, .own 1 rfl rfl, .inl rfl, .inl rfl, .inl rfl, trivial⟩) ?_
    intro j hj
    have hj : j ≤ gs.length := hj
    refine Br.mk (fun hc => ?_) (fun hc => ?_)
    · have hc : (j : Int) < ((gs.map Gt.pv).length : Nat) := of_decide_eq_true hc
      have hj1 : j < gs.length := by omega
      have ej : IntKind.i64.wrap ((j : Int) + 1) = ((j + 1 : Nat) : Int) := by rw [wrap_i64] <;> omega
      have hat := at_get hj1
      obtain ⟨w, hw1, hw2⟩ := hbest j hj1
      rw [hat] at hw1
      have hget := get_sent ii gs[j].key q.1
      rw [hw1] at hget
      have hsn := bests_succ gs j
      rw [hat] at hsn
      have hbl := bests_le gs j
      refine Idx.mk _ (Int.natCast_nonneg _) (getG hj1) ?_
      refine Ob.mk (okst rfl rfl rfl) ?_
      refine Opt.s hget ?_
      refine Br.mk (fun hd => ?_) (fun hd => ?_)
      · have hd : w = (j : Nat) := by simpa using hd
        rw [decide_eq_true hd] at hw2
        rw [if_pos hw2.symm] at hsn
        refine Ob.mk ⟨rfl, rfl, rfl, (show (((bests gs j).map Gt.pv).length + 1) * 48 ≤ 140737488355328 by rw [List.length_map]; omega)⟩ ?_
        refine ⟨j + 1, hj1, by show gs.length - (j + 1) < gs.length - j; omega, (show 1 ≤ 2 by decide), Trim.mk' ?_ ?_ rfl rfl (by show (2 : Nat) ≤ 3; decide)⟩
        · refine Eq.trans (b := [_, (8, .osl 1 ((bests gs j).map Gt.pv ++ [gs[j].pv]).length 0 ((bests gs j).map Gt.pv ++ [gs[j].pv]).length), _, _, (47, AV.p (ii (IntKind.i64.wrap ((j : Int) + 1))))]) rfl ?_
          rw [ej, hsn, List.map_append]; rfl
        · show [_, some (AObj.buf 4 ((bests gs j).map Gt.pv ++ [gs[j].pv]) none)] = [_, some (AObj.buf 4 ((bests gs (j + 1)).map Gt.pv) none)]
          rw [hsn, List.map_append]; rfl
      · have hd : ¬ w = (j : Nat) := by simpa using hd
        rw [decide_eq_false hd] at hw2
        rw [if_neg (by rw [← hw2]; decide), List.append_nil] at hsn
        refine ⟨j + 1, hj1, by show gs.length - (j + 1) < gs.length - j; omega, (show 1 ≤ 2 by decide), Trim.mk' ?_ ?_ rfl rfl (by show (2 : Nat) ≤ 3; decide)⟩
        · refine Eq.trans (b := [_, (8, .osl 1 ((bests gs j).map Gt.pv).length 0 ((bests gs j).map Gt.pv).length), _, _, (47, AV.p (ii (IntKind.i64.wrap ((j : Int) + 1))))]) rfl ?_
          rw [ej, hsn]; rfl
        · show [_, some (AObj.buf 4 ((bests gs j).map Gt.pv) none)] = [_, some (AObj.buf 4 ((bests gs (j + 1)).map Gt.pv) none)]
          rw [hsn]
    · have hc : ¬ (j : Int) < ((gs.map Gt.pv).length : Nat) := of_decide_eq_false hc
      have : j = gs.length := by omega
      subst this
      have hbl := gsL (bests gs gs.length)
      have hil : ((isort (bests gs gs.length)).map Gt.pv).length = (bests gs gs.length).length := by rw [List.length_map, isort_len]
      rw [hbl]
      refine Cal.frameK [1] (stab_c (bests gs gs.length) h20 _ fun _ => ?_) rfl rfl rfl
      refine Cal.freeze ?_ ⟨_, Tryz.func89, rfl, rfl⟩
      refine Ob.mk hil ?_
      show Cal _ _ [.p (.sl .shr 4 ((((isort (bests gs gs.length)).map Gt.pv).drop 0).take (bests gs gs.length).length))] _ _
      rw [← hil, cut_all]
      exact clip_got _ _ _ h
end Go.Proofs.YtlnelaajlhfabaaGreat.AW

open Go Go.Proofs.YtlnelaajlhfabaaGreat.AW Go.Proofs
namespace Go.Proofs.YtlnelaajlhfabaaGreat.AW
set_option maxRecDepth 100000
set_option linter.unusedSimpArgs false
set_option linter.unusedVariables false

/-! ### .. by the document -/
end Go.Proofs.YtlnelaajlhfabaaGreat.AW

open Go Go.Proofs.YtlnelaajlhfabaaGreat.AW Go.Proofs
namespace Go.Proofs.YtlnelaajlhfabaaGreat.AW
set_option maxRecDepth 100000
set_option linter.unusedSimpArgs false
set_option linter.unusedVariables false

/-! ### The two tell the same -/
theorem sameS_c (r : List Tx) (hr : r.length ≤ 1000000000) (s : Store) (K : AV → Store → Prop) (h : K (.p (.bool true)) s) : Cal Tryz.prog 79 [.p (txP r), .p (txP r)] s K := by
  refine Cal.pure (args := [txP r, txP r]) ?_
  refine Cal.intro Tryz.func79 (by decide +kernel) rfl rfl ?_
  have q1 := bne_s
  repeat' (first
    | (apply Br.t; · (first | rfl | (simp only [*] <;> rfl)))
    | (apply Br.f; · (first | rfl | (simp only [*] <;> rfl)))
    | refine Ob.mk (okst rfl rfl rfl) ?_
    | refine Br.mkT (fun c => ?_) (fun c => ?_)
    | refine Br.mkF (fun c => ?_) (fun c => ?_)
    | refine Br.mk (fun c => ?_) (fun c => ?_))
  have hl := txpL r
  refine LoopX.fam [0, 1, 5] (fun (j : Nat) => ([(0, .p (txP r)), (1, .p (txP r)), (5, .p (ii (j : Nat)))], []))
    (fun j => j ≤ r.length) (fun j => r.length - j) 0 (Nat.zero_le _) (Trim.mk' rfl rfl rfl rfl (Nat.le_refl _)) ?_
  intro j hj
  have hj : j ≤ r.length := hj
  refine Br.mk (fun hc => ?_) (fun hc => ?_)
  · have hc : (j : Int) < ((r.map PV.str).length : Nat) := of_decide_eq_true hc
    have hj1 : j < r.length := by omega
    have ej : IntKind.i64.wrap ((j : Int) + 1) = ((j + 1 : Nat) : Int) := by rw [wrap_i64] <;> omega
    have q2 : ∀ x : List UInt8, (x == x) = true := fun x => by simp
    have hg : (r.map PV.str)[((j : Nat) : Int).toNat]? = some (.str r[j]) := by rw [Int.toNat_natCast]; simp [hj1]
    repeat' (first
      | refine Chk.mk (by kernel_rfl) ?_
      | (apply Br.t; · (first | rfl | (simp only [*] <;> rfl)))
      | (apply Br.f; · (first | rfl | (simp only [*] <;> rfl)))
      | refine ⟨_, ⟨rfl, rfl⟩, ?_⟩
      | refine ⟨_, _, ⟨rfl, rfl⟩, rfl, ?_⟩
      | refine ⟨_, Idx.mk (.str r[j]) (Int.natCast_nonneg _) hg ⟨rfl, rfl⟩, ?_⟩
      | refine ⟨_, Ob.mk (by decide) ⟨rfl, rfl⟩, ?_⟩
      | (refine ⟨_, Br.t ?_ ⟨rfl, rfl⟩, ?_⟩; · (first | rfl | (simp only [*] <;> rfl)))
      | (refine ⟨_, Br.f ?_ ⟨rfl, rfl⟩, ?_⟩; · (first | rfl | (simp only [*] <;> rfl)))
      | refine ⟨_, _, Ob.mk (okst rfl rfl rfl) ⟨rfl, rfl⟩, rfl, ?_⟩
      | refine Ob.mk (okst rfl rfl rfl) ?_
      | refine Ob.mk (by decide) ?_
      | refine Br.mkT (fun c => ?_) (fun c => ?_)
      | refine Br.mkF (fun c => ?_) (fun c => ?_)
      | refine Br.mk (fun c => ?_) (fun c => ?_))
    refine ⟨j + 1, by show j + 1 ≤ r.length; omega, by show r.length - (j + 1) < r.length - j; omega, Nat.le_refl _, Trim.mk' ?_ rfl rfl rfl (Nat.le_refl _)⟩
    refine Eq.trans (b := [_, _, (5, AV.p (ii (IntKind.i64.wrap ((j : Int) + 1))))]) rfl ?_
    rw [ej]; rfl
  · exact h
/-- What is asked of records: few last ones, keys told apart by their runes. -/
structure SameOk (gs : List Gt) : Prop where
  len : gs.length ≤ 1000000000
  few : (bests gs gs.length).length ≤ 20
  good : GoodK (gs.map Gt.key)
  short : ∀ g, g ∈ gs → g.key.length < 1099511627776
end Go.Proofs.YtlnelaajlhfabaaGreat.AW

open Go Go.Proofs.YtlnelaajlhfabaaGreat.AW Go.Proofs
namespace Go.Proofs.YtlnelaajlhfabaaGreat.AW
set_option linter.unusedSimpArgs false
set_option linter.unusedVariables false

/-! ### Records of a tape's row: few keys -/
end Go.Proofs.YtlnelaajlhfabaaGreat.AW

open Go Go.Proofs.YtlnelaajlhfabaaGreat.AW Go.Proofs
namespace Go.Proofs.YtlnelaajlhfabaaGreat.AW
set_option maxRecDepth 100000
set_option linter.unusedSimpArgs false
set_option linter.unusedVariables false

/-! ### Tapes, runs of chapter 25 -/
def n1 : Gt := ⟨4, 1, [98], []⟩
def n2 : Gt := ⟨2, 1, [97], []⟩
def n3 : Gt := ⟨9, 0, [98], [120]⟩
theorem n_ok : SameOk [n1, n2, n3] := ⟨by decide, by decide +kernel, by unfold GoodK; decide +kernel, by decide⟩
theorem n_last : isort (bests [n1, n2, n3] [n1, n2, n3].length) = [n2, n3] := by decide +kernel
theorem n_by : byL [n1, n2, n3] = [(0, 1), (1, 2)] := by decide +kernel
theorem n_keys : keysL [n1, n2, n3] = [[97], [98]] := by decide +kernel
theorem of0_c (s : Store) (K : AV → Store → Prop) (h : K (.p (tlP 0 0 0 0 0 0 0)) s) : Cal Tryz.prog 26 [.p (ii 0), .p (.sl .nil 0 [])] s K :=
  Cal.argsD (args' := [.p (ii 0), .p (rowP [])]) (of_c (st := 0) [] (by decide) .nil s K h) ⟨.inl rfl, .inr ⟨_, _, rfl, rfl, .nil 0 .shr 7⟩, trivial⟩
theorem wk_n : WkD (.sl .clip 4 [n1.pv, n2.pv, n3.pv]) (gsP [n1, n2, n3]) := .sl _ _ _ _ rfl (fun y hy => by
  simp only [List.mem_cons, List.map_cons, List.map_nil, List.not_mem_nil, or_false] at hy
  rcases hy with rfl | rfl | rfl <;> exact ⟨rfl, rfl⟩) (wkds_refl _)
set_option maxHeartbeats 8000000 in
theorem known25_c (s : Store) (K : AV → Store → Prop) (h : K (.p (.bool true)) s) : Cal Tryz.prog 29 [] s K := by
  refine Cal.pure (args := []) ?_
  refine Cal.intro Tryz.func29 (by decide +kernel) rfl rfl ?_
  have hl := fun s K => lastG2_c [n1, n2, n3] n_ok.len n_ok.few s K
  have hb := fun s K => by2_c [n1, n2, n3] n_ok.len s K
  have hk := fun s K => keys2_c [n1, n2, n3] n_ok.len n_ok.good n_ok.short s K
  rw [n_last] at hl
  rw [n_by] at hb
  rw [n_keys] at hk
  have wk : WkL [.p (.sl .clip 4 [n1.pv, n2.pv, n3.pv])] [.p (gsP [n1, n2, n3])] := ⟨.inr ⟨_, _, rfl, rfl, wk_n⟩, trivial⟩
  try refine Or.inl ?_
  refine Cal.argsD (args' := [.p (gsP [n1, n2, n3])]) (hl _ _ ?_) wk
  refine Cal.argsD (args' := [.p (gsP [n1, n2, n3])]) (hb _ _ ?_) wk
  refine of0_c _ _ ?_
  refine Ob.mk ⟨by decide +kernel, by decide +kernel⟩ ?_
  have ws : WkL [.p (txP [[97], [98]]), .p (.sl .clip 1 [.str [97], .str [98]])] [.p (txP [[97], [98]]), .p (txP [[97], [98]])] := ⟨.inl rfl, .inr ⟨_, _, rfl, rfl, .sl _ _ _ _ rfl (fun y hy => by
    simp only [List.mem_cons, List.map_cons, List.map_nil, List.not_mem_nil, or_false] at hy
    rcases hy with rfl | rfl <;> exact ⟨rfl, rfl⟩) (wkds_refl _)⟩, trivial⟩
  repeat' (first
    | (apply Br.t; · (first | rfl | (simp only [*] <;> rfl)))
    | (apply Br.f; · (first | rfl | (simp only [*] <;> rfl)))
    | refine Ob.mk (okst rfl rfl rfl) ?_
    | refine Cal.argsD (args' := [.p (gsP [n1, n2, n3])]) (hk _ _ ?_) wk
    | refine Or.inl ?_
    | refine Cal.argsD (args' := [.p (txP [[97], [98]]), .p (txP [[97], [98]])]) (sameS_c _ (by decide) _ _ ?_) ws
    | refine Idx.mk _ (by decide) rfl ?_
    | refine Ob.mk (by decide +kernel) ?_
    | refine Br.mkT (fun c => ?_) (fun c => ?_)
    | refine Br.mkF (fun c => ?_) (fun c => ?_)
    | refine Br.mk (fun c => ?_) (fun c => ?_))
  exact h
end Go.Proofs.YtlnelaajlhfabaaGreat.AW

open Go Go.Proofs.YtlnelaajlhfabaaGreat.AW Go.Proofs
namespace Go.Proofs.YtlnelaajlhfabaaGreat.AW
set_option maxRecDepth 100000
set_option linter.unusedSimpArgs false
set_option linter.unusedVariables false

/-! ### LedgerNumbers, LedgerTells -/
theorem row_len {st fr to : Int} {L : List Bt} (h : RowOk st L) : (gts fr to L).length ≤ L.length * 4 := gts_le fun b hb => (h.tiny b hb).1
def upG (g : Gt) : Gt := ⟨g.off, g.prod, upper g.key, g.val⟩
end Go.Proofs.YtlnelaajlhfabaaGreat.AW

open Go Go.Proofs.YtlnelaajlhfabaaGreat.AW Go.Proofs
namespace Go.Proofs.YtlnelaajlhfabaaGreat.AW
set_option maxRecDepth 100000
set_option linter.unusedSimpArgs false
set_option linter.unusedVariables false

/-! ### The counts of a row's beginning -/
structure BegN (A L : List Bt) : Prop where
  a : mkN 0 A ≤ mkN 0 L
  b : recN A ≤ recN L
  c : szN A ≤ szN L
  d : mkN 1 A ≤ mkN 1 L
  e : mkN 2 A ≤ mkN 2 L
  f : (gts 0 (endW 0 A) A).countP (bad (dFold A).2) ≤ (gts 0 (endW 0 L) L).countP (bad (dFold L).2)
end Go.Proofs.YtlnelaajlhfabaaGreat.AW
