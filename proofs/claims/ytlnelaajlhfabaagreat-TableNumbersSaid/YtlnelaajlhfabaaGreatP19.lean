/- A part of the proof: LG/G34, LG/G35, LG/G36. -/
import Derived.Test.YtlnelaajlhfabaaGreatP17
import Derived.Test.YtlnelaajlhfabaaGreatP18
open Go Go.Proofs.YtlnelaajlhfabaaGreat.AW Go.Proofs
namespace Go.Proofs.YtlnelaajlhfabaaGreat.AW
set_option maxRecDepth 100000
set_option linter.unusedSimpArgs false
set_option linter.unusedVariables false
open Go.Shelf

/-! ### table.Copy -/
def cloneM_ren : Go.Shelf.Ren := ⟨fun | 5 => 130 | 7 => 182 | n => n, fun | 23 => 105 | 25 => 2 | 3 => 32 | 4 => 4 | 20 => 20 | n => n, fun | n => n⟩
theorem cloneM : SlLaysW.n5 Tryz.prog cloneM_ren where
  mixed := by kernel_rfl
  f5 := ⟨Tryz.f130.name, by decide +kernel, Tryz.func130.trans (congrArg some (by kernel_rfl))⟩
  f7 := Tryz.func182.trans (congrArg some (by kernel_rfl))
  t4 := Tryz.underlying4
  a4 := Tryz.isAgg4
  z4 := Tryz.sizeOf4
  v4 := Tryz.zeroValue4
  t20 := Tryz.underlying20
  a20 := Tryz.isAgg20
  z20 := Tryz.sizeOf20
  v20 := Tryz.zeroValue20
  t23 := Tryz.underlying105
  a23 := Tryz.isAgg105
  z23 := Tryz.sizeOf105
  v23 := Tryz.zeroValue105
theorem tcopy_c (es : List TE) (cl : Nat) (K : AV → Store → Prop) (h : K (.ref 3 0) (tbS es cl ++ [some (.map (.int .i64) (es.map tent) cl), some (.cells [.map 2])])) : Cal Tryz.prog 70 [.ref 1 0] (tbS es cl) K := by
  refine Cal.intro Tryz.func70 (by decide +kernel) rfl rfl ?_
  show Cal Tryz.prog 130 [.map 0] (tbS es cl) _
  refine Cal.mapClone (id := 0) (kk := .int .i64) (es := es.map tent) (cl := cl) cloneM rfl ⟨_, Tryz.func130, by decide +kernel, rfl⟩ ?_ ?_
  · rfl
  · exact h
end Go.Proofs.YtlnelaajlhfabaaGreat.AW

open Go Go.Proofs.YtlnelaajlhfabaaGreat.AW Go.Proofs
namespace Go.Proofs.YtlnelaajlhfabaaGreat.AW
set_option maxRecDepth 100000
set_option linter.unusedSimpArgs false
set_option linter.unusedVariables false

/-! ### play: the two tables, batch by batch -/
theorem apps_take {L : List Bt} {j : Nat} (hj : j < L.length) : tApps ([], 0) (L.take (j + 1)) = tApp (tApps ([], 0) (L.take j)).1 (tApps ([], 0) (L.take j)).2 L[j] := by rw [take_succ' hj, tApps_snoc]
theorem dfold_take {L : List Bt} {j : Nat} (hj : j < L.length) : (dFold (L.take (j + 1))).1 = dApp (dFold (L.take j)).1 L[j] := by rw [take_succ' hj, dFold_snoc]; rfl
theorem TRel.apps : ∀ (L : List Bt), TRel (tApps ([], 0) L).1 (dFold L).1 := by
  intro L
  have : ∀ n, n ≤ L.length → TRel (tApps ([], 0) (L.take n)).1 (dFold (L.take n)).1 := by
    intro n
    induction n with
    | zero => intro _; exact TRel.nil
    | succ n ih =>
      intro hn
      rw [apps_take (by omega), dfold_take (by omega)]
      exact (ih (by omega)).app _ _
  have := this L.length (Nat.le_refl _)
  rwa [List.take_length] at this
theorem tSet_len (n : Int) (x : Pr) (es : List TE) : (tSet es n x).length = es.length := by
  have := congrArg List.length (tSet_st n x es)
  simpa using this
theorem tApps_len : ∀ (L : List Bt) (q : List TE × Nat), (tApps q L).1.length ≤ q.1.length + L.length
  | [], q => Nat.le_refl _
  | b :: r, q => by
    have h1 := tApps_len r (tApp q.1 q.2 b)
    have h2 : (tApp q.1 q.2 b).1.length ≤ q.1.length + 1 := by
      unfold tApp
      split
      · exact Nat.le_succ _
      · show (tPut q.1 q.2 b.prod _).length ≤ _
        unfold tPut
        split
        · rw [tSet_len]; exact Nat.le_succ _
        · rw [List.length_append]; exact Nat.le_refl _
    show (tApps (tApp q.1 q.2 b) r).1.length ≤ q.1.length + (r.length + 1)
    omega
theorem wk_prsC (L : List Pr) : WkD (prsC L) (prsP L) := .sl _ _ _ _ rfl pr_el (wkds_refl _)
theorem allC_c (L : List Pr) (hL : L.length ≤ 1000000000) (hb : POk L) (s : Store) (K : AV → Store → Prop) (h : K (.p (.bool true)) s) : Cal Tryz.prog 49 [.p (prsC L), .p (prsP L)] s K :=
  Cal.argsD (args' := [.p (prsP L), .p (prsP L)]) (all_c L hL hb s K h) ⟨.inr ⟨_, _, rfl, rfl, wk_prsC L⟩, .inl rfl, trivial⟩
theorem allT_c {L : List Bt} (hL : L.length ≤ 1000000000) (K : AV → Store → Prop) (hk : K (.p (prsC (dFold L).1)) (tbS (tApps ([], 0) L).1 (tApps ([], 0) L).2)) : Cal Tryz.prog 18 [.ref 1 0] (tbS (tApps ([], 0) L).1 (tApps ([], 0) L).2) K := by
  have hin : TInv (tApps ([], 0) L).1 (tApps ([], 0) L).2 := TInv.nil.apps
  have hlen := tApps_len L ([], 0)
  exact tall_c _ _ hin (by simp at hlen; omega) K fun ps hps hpp => by rw [(TRel.apps L).all hin hps hpp]; exact hk
def k9 : Bt := ⟨9, 77, 0, 0, true, 0, [([], [])]⟩
theorem sm_k9 : k9.small := ⟨by decide, by decide⟩
theorem allD_c (j : Nat) (D : List Pr) (h0 : j = 0 → D = []) (hL : D.length ≤ 1000000000) (hb : POk D) (s : Store) (K : AV → Store → Prop) (h : K (.p (.bool true)) s) : Cal Tryz.prog 49 [.p (prsC D), .p (dv j D)] s K := by
  cases j with
  | zero =>
    have := h0 rfl
    subst this
    exact Cal.argsD (args' := [.p (prsP []), .p (prsP [])]) (all_c [] hL hb s K h) ⟨.inr ⟨_, _, rfl, rfl, wk_prsC []⟩, .inr ⟨_, _, rfl, rfl, .nil 0 .shr 4⟩, trivial⟩
  | succ j => exact allC_c D hL hb s K h
set_option maxHeartbeats 16000000 in
theorem play_c (L : List Bt) (hL : L.length ≤ 1000000) (hb : ∀ b, b ∈ L → b.small) (s : Store) (K : AV → Store → Prop) (h : K (.p (.bool true)) s) : Cal Tryz.prog 21 [.p (rowP L)] s K := by
  refine Cal.pure (args := [rowP L]) ?_
  refine Cal.intro Tryz.func21 (by decide +kernel) rfl rfl ?_
  refine Cal.frameK [] (tnew_c _ fun _ => ?_) rfl rfl rfl
  have hlm := rowL L
  try refine Ob.mk (okst rfl rfl rfl) ?_
  refine LoopX.fam [0, 3, 4, 5] (fun (j : Nat) => ([(0, .p (rowP L)), (3, .ref 1 0), (4, .ref 2 0), (5, .p (ii (j : Nat)))], tbS (tApps ([], 0) (L.take j)).1 (tApps ([], 0) (L.take j)).2 ++ [dC j (dFold (L.take j)).1]))
    (fun j => j ≤ L.length ∧ j ≤ 80) (fun j => L.length - j) 0 ⟨Nat.zero_le _, Nat.zero_le _⟩ (Trim.mk' rfl rfl rfl rfl (Nat.le_refl _)) ?_
  rintro j ⟨hj, hj8⟩
  have hj : j ≤ L.length := hj
  have hin : TInv (tApps ([], 0) (L.take j)).1 (tApps ([], 0) (L.take j)).2 := TInv.nil.apps
  have hrel := TRel.apps (L.take j)
  obtain ⟨hd1, hd2, _⟩ := dFold_inv (L.take j)
  have hdl : (dFold (L.take j)).1.length ≤ 1000000000 := by rw [List.length_take] at hd2; omega
  cases k1 : decide ((j : Int) < ((L.map Bt.pv).length : Nat)) with
  | false =>
    have f1 := of_decide_eq_false k1
    have hmn : (if (80 : Int) < ((L.map Bt.pv).length : Nat) then (80 : Int) else ((L.map Bt.pv).length : Nat)) = (j : Int) := by (split <;> omega)
    have hcut : ((L.map Bt.pv).take (if (80 : Int) < ((L.map Bt.pv).length : Nat) then (80 : Int) else ((L.map Bt.pv).length : Nat)).toNat).drop (0 : Int).toNat = (L.take j).map Bt.pv := by
      rw [hmn, Int.toNat_natCast, List.map_take]; rfl
    have hbd : (0 : Int) ≤ 0 ∧ (0 : Int) ≤ (if (80 : Int) < ((L.map Bt.pv).length : Nat) then (80 : Int) else ((L.map Bt.pv).length : Nat)) ∧ (if (80 : Int) < ((L.map Bt.pv).length : Nat) then (80 : Int) else ((L.map Bt.pv).length : Nat)) ≤ ((L.map Bt.pv).length : Nat) := by rw [hmn]; omega
    have htl : (L.take j).length ≤ 1000000000 := by rw [List.length_take]; omega
    have hbt : ∀ b, b ∈ L.take j → b.small := fun b hm => hb b (List.mem_of_mem_take hm)
    have c5 := allT_c htl
    have c6 := allD_c j _ (fun e => by subst e; rfl) hdl hd1
    have c7 := tfold_c _ htl hbt
    have c8 : ∀ K, K (db (tDrop (tGet (tApps ([], 0) (L.take j)).1 k9.prod) k9)) (tbS (tApp (tApps ([], 0) (L.take j)).1 (tApps ([], 0) (L.take j)).2 k9).1 (tApp (tApps ([], 0) (L.take j)).1 (tApps ([], 0) (L.take j)).2 k9).2) → Cal Tryz.prog 57 [.ref 1 0, .p (kN k9 r1)] (tbS (tApps ([], 0) (L.take j)).1 (tApps ([], 0) (L.take j)).2) K := fun K hk =>
      Cal.argsD (args' := [.ref 1 0, .p k9.pv]) (tapply_c _ _ hin.ok k9 sm_k9 K hk) ⟨.inl rfl, .inr ⟨_, _, rfl, rfl, wk_kN wk_1⟩, trivial⟩
    have c9 := tcopy_c (tApps ([], 0) (L.take j)).1 (tApps ([], 0) (L.take j)).2
    clear hrel hin hb hlm hmn
    try clear f1
    try clear f2
    repeat' (first
      | (apply Br.t; · (first | rfl | (simp only [*] <;> rfl)))
      | (apply Br.f; · (first | rfl | (simp only [*] <;> rfl)))
      | refine Ob.mk (okst rfl rfl rfl) ?_
      | refine Br.mkT (fun c => ?_) (fun c => ?_)
      | refine Br.mkF (fun c => ?_) (fun c => ?_)
      | refine Br.mk (fun c => ?_) (fun c => ?_))
    refine Cal.frameK [0, 1] (c9 _ fun _ => ?_) rfl rfl rfl
    repeat' (first
      | refine Chk.mk (by kernel_rfl) ?_
      | (apply Br.t; · (first | rfl | (simp only [*] <;> rfl)))
      | (apply Br.f; · (first | rfl | (simp only [*] <;> rfl)))
      | refine ⟨_, ⟨rfl, rfl⟩, ?_⟩
      | refine ⟨_, _, ⟨rfl, rfl⟩, rfl, ?_⟩
      | refine Or.inr (Or.inr ⟨[3, 4], _, _, _, c5 _ ⟨rfl, rfl⟩, rfl, rfl, rfl, ?_⟩)
      | refine Or.inl ⟨_, fun s' => c6 s' _ ⟨rfl, rfl⟩, rfl, ?_⟩
      | refine ⟨_, Ob.mk (by decide) ⟨rfl, rfl⟩, ?_⟩
      | (refine ⟨_, Br.t ?_ ⟨rfl, rfl⟩, ?_⟩; · (first | rfl | (simp only [*] <;> rfl)))
      | (refine ⟨_, Br.f ?_ ⟨rfl, rfl⟩, ?_⟩; · (first | rfl | (simp only [*] <;> rfl)))
      | refine ⟨_, _, Ob.mk (okst rfl rfl rfl) ⟨rfl, rfl⟩, rfl, ?_⟩
      | refine Ob.mk (okst rfl rfl rfl) ?_
      | refine Ob.mk (by decide) ?_
      | refine Br.mkT (fun c => ?_) (fun c => ?_)
      | refine Br.mkF (fun c => ?_) (fun c => ?_)
      | refine Br.mk (fun c => ?_) (fun c => ?_))
    refine Cal.frameK [3, 4] (c8 _ fun _ => ?_) rfl rfl rfl
    refine Ob.mk hbd ?_
    refine Cal.frameK [] (c7 _ fun _ => ?_) (by show [AV.p (.sl .shr 7 (((L.map Bt.pv).take (if (80 : Int) < ((L.map Bt.pv).length : Nat) then (80 : Int) else ((L.map Bt.pv).length : Nat)).toNat).drop (0 : Int).toNat))] = _; rw [hcut]; rfl) rfl rfl
    repeat' (first
      | refine Chk.mk (by kernel_rfl) ?_
      | (apply Br.t; · (first | rfl | (simp only [*] <;> rfl)))
      | (apply Br.f; · (first | rfl | (simp only [*] <;> rfl)))
      | refine ⟨_, ⟨rfl, rfl⟩, ?_⟩
      | refine ⟨_, _, ⟨rfl, rfl⟩, rfl, ?_⟩
      | refine Or.inr (Or.inr ⟨[5, 6], _, _, _, c5 _ ⟨rfl, rfl⟩, rfl, rfl, rfl, ?_⟩)
      | refine Or.inr (Or.inr ⟨[0, 1], _, _, _, c5 _ ⟨rfl, rfl⟩, rfl, rfl, rfl, ?_⟩)
      | refine Or.inl ⟨_, fun s' => c6 s' _ ⟨rfl, rfl⟩, rfl, ?_⟩
      | refine ⟨_, Ob.mk (by decide) ⟨rfl, rfl⟩, ?_⟩
      | (refine ⟨_, Br.t ?_ ⟨rfl, rfl⟩, ?_⟩; · (first | rfl | (simp only [*] <;> rfl)))
      | (refine ⟨_, Br.f ?_ ⟨rfl, rfl⟩, ?_⟩; · (first | rfl | (simp only [*] <;> rfl)))
      | refine ⟨_, _, Ob.mk (okst rfl rfl rfl) ⟨rfl, rfl⟩, rfl, ?_⟩
      | refine Ob.mk (okst rfl rfl rfl) ?_
      | refine Ob.mk (by decide) ?_
      | refine Br.mkT (fun c => ?_) (fun c => ?_)
      | refine Br.mkF (fun c => ?_) (fun c => ?_)
      | refine Br.mk (fun c => ?_) (fun c => ?_))
    exact h
  | true =>
    have hj1 : j < L.length := by have := of_decide_eq_true k1; omega
    cases k2 : decide ((j : Int) < 80) with
    | false =>
      have f1 := of_decide_eq_false k2
      have f2 := of_decide_eq_true k1
      have hmn : (if (80 : Int) < ((L.map Bt.pv).length : Nat) then (80 : Int) else ((L.map Bt.pv).length : Nat)) = (j : Int) := by (split <;> omega)
      have hcut : ((L.map Bt.pv).take (if (80 : Int) < ((L.map Bt.pv).length : Nat) then (80 : Int) else ((L.map Bt.pv).length : Nat)).toNat).drop (0 : Int).toNat = (L.take j).map Bt.pv := by
        rw [hmn, Int.toNat_natCast, List.map_take]; rfl
      have hbd : (0 : Int) ≤ 0 ∧ (0 : Int) ≤ (if (80 : Int) < ((L.map Bt.pv).length : Nat) then (80 : Int) else ((L.map Bt.pv).length : Nat)) ∧ (if (80 : Int) < ((L.map Bt.pv).length : Nat) then (80 : Int) else ((L.map Bt.pv).length : Nat)) ≤ ((L.map Bt.pv).length : Nat) := by rw [hmn]; omega
      have htl : (L.take j).length ≤ 1000000000 := by rw [List.length_take]; omega
      have hbt : ∀ b, b ∈ L.take j → b.small := fun b hm => hb b (List.mem_of_mem_take hm)
      have c5 := allT_c htl
      have c6 := allD_c j _ (fun e => by subst e; rfl) hdl hd1
      have c7 := tfold_c _ htl hbt
      have c8 : ∀ K, K (db (tDrop (tGet (tApps ([], 0) (L.take j)).1 k9.prod) k9)) (tbS (tApp (tApps ([], 0) (L.take j)).1 (tApps ([], 0) (L.take j)).2 k9).1 (tApp (tApps ([], 0) (L.take j)).1 (tApps ([], 0) (L.take j)).2 k9).2) → Cal Tryz.prog 57 [.ref 1 0, .p (kN k9 r1)] (tbS (tApps ([], 0) (L.take j)).1 (tApps ([], 0) (L.take j)).2) K := fun K hk =>
        Cal.argsD (args' := [.ref 1 0, .p k9.pv]) (tapply_c _ _ hin.ok k9 sm_k9 K hk) ⟨.inl rfl, .inr ⟨_, _, rfl, rfl, wk_kN wk_1⟩, trivial⟩
      have c9 := tcopy_c (tApps ([], 0) (L.take j)).1 (tApps ([], 0) (L.take j)).2
      clear hrel hin hb hlm hmn
      try clear f1
      try clear f2
      repeat' (first
        | (apply Br.t; · (first | rfl | (simp only [*] <;> rfl)))
        | (apply Br.f; · (first | rfl | (simp only [*] <;> rfl)))
        | refine Ob.mk (okst rfl rfl rfl) ?_
        | refine Br.mkT (fun c => ?_) (fun c => ?_)
        | refine Br.mkF (fun c => ?_) (fun c => ?_)
        | refine Br.mk (fun c => ?_) (fun c => ?_))
      refine Cal.frameK [0, 1] (c9 _ fun _ => ?_) rfl rfl rfl
      repeat' (first
        | refine Chk.mk (by kernel_rfl) ?_
        | (apply Br.t; · (first | rfl | (simp only [*] <;> rfl)))
        | (apply Br.f; · (first | rfl | (simp only [*] <;> rfl)))
        | refine ⟨_, ⟨rfl, rfl⟩, ?_⟩
        | refine ⟨_, _, ⟨rfl, rfl⟩, rfl, ?_⟩
        | refine Or.inr (Or.inr ⟨[3, 4], _, _, _, c5 _ ⟨rfl, rfl⟩, rfl, rfl, rfl, ?_⟩)
        | refine Or.inl ⟨_, fun s' => c6 s' _ ⟨rfl, rfl⟩, rfl, ?_⟩
        | refine ⟨_, Ob.mk (by decide) ⟨rfl, rfl⟩, ?_⟩
        | (refine ⟨_, Br.t ?_ ⟨rfl, rfl⟩, ?_⟩; · (first | rfl | (simp only [*] <;> rfl)))
        | (refine ⟨_, Br.f ?_ ⟨rfl, rfl⟩, ?_⟩; · (first | rfl | (simp only [*] <;> rfl)))
        | refine ⟨_, _, Ob.mk (okst rfl rfl rfl) ⟨rfl, rfl⟩, rfl, ?_⟩
        | refine Ob.mk (okst rfl rfl rfl) ?_
        | refine Ob.mk (by decide) ?_
        | refine Br.mkT (fun c => ?_) (fun c => ?_)
        | refine Br.mkF (fun c => ?_) (fun c => ?_)
        | refine Br.mk (fun c => ?_) (fun c => ?_))
      refine Cal.frameK [3, 4] (c8 _ fun _ => ?_) rfl rfl rfl
      refine Ob.mk hbd ?_
      refine Cal.frameK [] (c7 _ fun _ => ?_) (by show [AV.p (.sl .shr 7 (((L.map Bt.pv).take (if (80 : Int) < ((L.map Bt.pv).length : Nat) then (80 : Int) else ((L.map Bt.pv).length : Nat)).toNat).drop (0 : Int).toNat))] = _; rw [hcut]; rfl) rfl rfl
      repeat' (first
        | refine Chk.mk (by kernel_rfl) ?_
        | (apply Br.t; · (first | rfl | (simp only [*] <;> rfl)))
        | (apply Br.f; · (first | rfl | (simp only [*] <;> rfl)))
        | refine ⟨_, ⟨rfl, rfl⟩, ?_⟩
        | refine ⟨_, _, ⟨rfl, rfl⟩, rfl, ?_⟩
        | refine Or.inr (Or.inr ⟨[5, 6], _, _, _, c5 _ ⟨rfl, rfl⟩, rfl, rfl, rfl, ?_⟩)
        | refine Or.inr (Or.inr ⟨[0, 1], _, _, _, c5 _ ⟨rfl, rfl⟩, rfl, rfl, rfl, ?_⟩)
        | refine Or.inl ⟨_, fun s' => c6 s' _ ⟨rfl, rfl⟩, rfl, ?_⟩
        | refine ⟨_, Ob.mk (by decide) ⟨rfl, rfl⟩, ?_⟩
        | (refine ⟨_, Br.t ?_ ⟨rfl, rfl⟩, ?_⟩; · (first | rfl | (simp only [*] <;> rfl)))
        | (refine ⟨_, Br.f ?_ ⟨rfl, rfl⟩, ?_⟩; · (first | rfl | (simp only [*] <;> rfl)))
        | refine ⟨_, _, Ob.mk (okst rfl rfl rfl) ⟨rfl, rfl⟩, rfl, ?_⟩
        | refine Ob.mk (okst rfl rfl rfl) ?_
        | refine Ob.mk (by decide) ?_
        | refine Br.mkT (fun c => ?_) (fun c => ?_)
        | refine Br.mkF (fun c => ?_) (fun c => ?_)
        | refine Br.mk (fun c => ?_) (fun c => ?_))
      exact h
    | true =>
      have hj2 : j < 80 := by have := of_decide_eq_true k2; omega
      have ej : IntKind.i64.wrap ((j : Int) + 1) = ((j + 1 : Nat) : Int) := by rw [wrap_i64] <;> omega
      have hbj := hb _ (List.getElem_mem hj1)
      have hg := getL hj1
      have eT := apps_take hj1
      have eD := dfold_take hj1
      have hin2 : TInv (tApps ([], 0) (L.take (j + 1))).1 (tApps ([], 0) (L.take (j + 1))).2 := TInv.nil.apps
      have hrel2 := TRel.apps (L.take (j + 1))
      obtain ⟨hp1, hp2, _⟩ := dFold_inv (L.take (j + 1))
      have hpl : (dFold (L.take (j + 1))).1.length ≤ 1000000000 := by rw [List.length_take] at hp2; omega
      obtain ⟨es, hes⟩ : ∃ es, es = (tApps ([], 0) (L.take j)).1 := ⟨_, rfl⟩
      obtain ⟨cl, hcl⟩ : ∃ cl, cl = (tApps ([], 0) (L.take j)).2 := ⟨_, rfl⟩
      obtain ⟨D, hD⟩ : ∃ D, D = (dFold (L.take j)).1 := ⟨_, rfl⟩
      have c1 : ∀ K, K (i2 (tChk (dGet D L[j].prod) L[j])) (tbS es cl) → Cal Tryz.prog 65 [.ref 1 0, .p L[j].pv] (tbS es cl) K := fun K hk => by
        subst hes hcl hD
        exact tcheck_c _ _ hin.ok L[j] hbj K (by rw [hrel.get]; exact hk)
      have c2 : ∀ K, K (i2 (tChk (dGet D L[j].prod) L[j])) (dS D) → Cal Tryz.prog 66 [.ref 0 0, .p L[j].pv] [dC j D] K := fun K hk => by
        subst hD
        cases j with
        | zero => exact Cal.tellIn 0 rfl wkNil (dcheck_c [] (by decide) (fun p hp => by cases hp) L[0] hbj K hk)
        | succ j => exact dcheck_c _ hdl hd1 L[j + 1] hbj K hk
      have c3 : ∀ K, K (db (tDrop (dGet D L[j].prod) L[j])) (tbS (tApps ([], 0) (L.take (j + 1))).1 (tApps ([], 0) (L.take (j + 1))).2) → Cal Tryz.prog 57 [.ref 1 0, .p L[j].pv] (tbS es cl) K := fun K hk => by
        subst hes hcl hD
        exact tapply_c _ _ hin.ok L[j] hbj K (by rw [hrel.get, ← eT]; exact hk)
      have c4 : ∀ K, K (db (tDrop (dGet D L[j].prod) L[j])) (dS (dFold (L.take (j + 1))).1) → Cal Tryz.prog 67 [.ref 0 0, .p L[j].pv] (dS D) K := fun K hk => by
        subst hD
        exact dapply_c _ hdl hd1 L[j] hbj K (by rw [← eD]; exact hk)
      rw [← hes, ← hcl, ← hD]
      generalize tChk (dGet D L[j].prod) L[j] = vc at c1 c2
      generalize tDrop (dGet D L[j].prod) L[j] = vd at c3 c4
      obtain ⟨va, vb⟩ := vc
      obtain ⟨⟨vx, vy, vz⟩, vw⟩ := vd
      have htl : (L.take (j + 1)).length ≤ 1000000000 := by rw [List.length_take]; omega
      have c5 := allT_c htl
      have c6 := allC_c _ hpl hp1
      have c8 : ∀ K, K (gtC (dGet (dFold (L.take (j + 1))).1 L[j].prod)) (tbS (tApps ([], 0) (L.take (j + 1))).1 (tApps ([], 0) (L.take (j + 1))).2) → Cal Tryz.prog 16 [.ref 1 0, .p (ii L[j].prod)] (tbS (tApps ([], 0) (L.take (j + 1))).1 (tApps ([], 0) (L.take (j + 1))).2) K := fun K hk => tget_c _ _ hin2.ok _ K (by rw [hrel2.get]; exact hk)
      have c9 := dget_c _ hpl L[j].prod
      have q1 := bne_s
      have q3 := beq_s
      have q4 := beq_b
      have q2 : ∀ x : Bool, (x != x) = false := by intro x; cases x <;> rfl
      clear hlm hb hes hcl hD eT eD hrel hin hd1 hd2 hdl hp2 hj
      repeat' (first
        | (apply Br.t; · (first | rfl | (simp only [*] <;> rfl)))
        | (apply Br.f; · (first | rfl | (simp only [*] <;> rfl)))
        | refine Ob.mk (okst rfl rfl rfl) ?_
        | refine Idx.mk _ (Int.natCast_nonneg _) hg ?_
        | refine Br.mkT (fun c => ?_) (fun c => ?_)
        | refine Br.mkF (fun c => ?_) (fun c => ?_)
        | refine Br.mk (fun c => ?_) (fun c => ?_))
      refine Cal.frameK [0, 1] (c1 _ fun _ => ?_) rfl rfl rfl
      refine Cal.frameK [2] (c2 _ fun _ => ?_) rfl rfl rfl
      refine Cal.frameK [0, 1] (c3 _ fun _ => ?_) rfl rfl rfl
      refine Ob.mk (okst rfl rfl rfl) ?_
      refine Cal.frameK [2] (c4 _ fun _ => ?_) rfl rfl rfl
      refine Ob.mk (okst rfl rfl rfl) ?_
      repeat' (first
        | refine Chk.mk (by kernel_rfl) ?_
        | (apply Br.t; · (first | rfl | (simp only [*] <;> rfl)))
        | (apply Br.f; · (first | rfl | (simp only [*] <;> rfl)))
        | refine ⟨_, ⟨rfl, rfl⟩, ?_⟩
        | refine ⟨_, _, ⟨rfl, rfl⟩, rfl, ?_⟩
        | refine Or.inr (Or.inr ⟨[0, 1], _, _, _, c5 _ ⟨rfl, rfl⟩, rfl, rfl, rfl, ?_⟩)
        | refine Or.inl ⟨_, fun s' => c6 s' _ ⟨rfl, rfl⟩, rfl, ?_⟩
        | refine ⟨_, Ob.mk ⟨by decide +kernel, by decide +kernel⟩ ⟨rfl, rfl⟩, ?_⟩
        | refine ⟨_, Ob.mk (by decide) ⟨rfl, rfl⟩, ?_⟩
        | (refine ⟨_, Br.t ?_ ⟨rfl, rfl⟩, ?_⟩; · (first | rfl | (simp only [*] <;> rfl)))
        | (refine ⟨_, Br.f ?_ ⟨rfl, rfl⟩, ?_⟩; · (first | rfl | (simp only [*] <;> rfl)))
        | refine ⟨_, _, Ob.mk (okst rfl rfl rfl) ⟨rfl, rfl⟩, rfl, ?_⟩
        | refine Ob.mk (okst rfl rfl rfl) ?_
        | refine Ob.mk (by decide) ?_
        | refine Br.mkT (fun c => ?_) (fun c => ?_)
        | refine Br.mkF (fun c => ?_) (fun c => ?_)
        | refine Br.mk (fun c => ?_) (fun c => ?_))
      refine Cal.frameK [0, 1] (topen_c _ _ hin2 _ fun r hr _ => ?_) rfl rfl rfl
      refine Cal.frameK [2] (dopen_c _ hpl _ fun r2 hr2 _ => ?_) rfl rfl rfl
      have er : r2 = r := (hrel2.open hin2 hr hr2).symm
      subst er
      clear hr hr2
      obtain ⟨ra, rb⟩ := r2
      refine Cal.frameK [0, 1] (c8 _ fun _ => ?_) rfl rfl rfl
      refine Ob.mk (okst rfl rfl rfl) ?_
      cases ho : dGet (dFold (L.take (j + 1))).1 L[j].prod with
      | none =>
        rw [ho] at c9
        refine Cal.frameK [2] (c9 _ fun _ => ?_) rfl rfl rfl
        refine Ob.mk (okst rfl rfl rfl) ?_
        have hs0 : ∀ (s' : Store) (K : AV → Store → Prop), K (.p (.bool true)) s' → Cal Tryz.prog 17 [.p pr0.pv, .p pr0N] s' K := fun s' K hk => Cal.argsD (args' := [.p pr0.pv, .p pr0.pv]) (psame_c pr0 pr0_len s' K hk) ⟨.inl rfl, .inr ⟨_, _, rfl, rfl, wk_pr0⟩, trivial⟩
        clear ho hrel2 hin2 hp1
        repeat' (first
          | (apply Br.t; · (first | rfl | (simp only [*] <;> rfl)))
          | (apply Br.f; · (first | rfl | (simp only [*] <;> rfl)))
          | refine Ob.mk (okst rfl rfl rfl) ?_
          | refine hs0 _ _ ?_
          | refine Br.mkT (fun c => ?_) (fun c => ?_)
          | refine Br.mkF (fun c => ?_) (fun c => ?_)
          | refine Br.mk (fun c => ?_) (fun c => ?_))
        refine ⟨j + 1, ⟨hj1, by omega⟩, by show L.length - (j + 1) < L.length - j; omega, (by show (3 : Nat) ≤ 3; decide), Trim.mk' ?_ rfl rfl rfl (by show (3 : Nat) ≤ 8; decide)⟩
        refine Eq.trans (b := [_, _, _, (5, AV.p (ii (IntKind.i64.wrap ((j : Int) + 1))))]) rfl ?_
        rw [ej]; rfl
      | some p =>
        rw [ho] at c9
        have hpp : p.last.length ≤ 1000000000 := hp1.get ho
        refine Cal.frameK [2] (c9 _ fun _ => ?_) rfl rfl rfl
        refine Ob.mk (okst rfl rfl rfl) ?_
        clear ho hrel2 hin2 hp1
        repeat' (first
          | (apply Br.t; · (first | rfl | (simp only [*] <;> rfl)))
          | (apply Br.f; · (first | rfl | (simp only [*] <;> rfl)))
          | refine Ob.mk (okst rfl rfl rfl) ?_
          | refine psame_c p hpp _ _ ?_
          | refine Br.mkT (fun c => ?_) (fun c => ?_)
          | refine Br.mkF (fun c => ?_) (fun c => ?_)
          | refine Br.mk (fun c => ?_) (fun c => ?_))
        refine ⟨j + 1, ⟨hj1, by omega⟩, by show L.length - (j + 1) < L.length - j; omega, (by show (3 : Nat) ≤ 3; decide), Trim.mk' ?_ rfl rfl rfl (by show (3 : Nat) ≤ 8; decide)⟩
        refine Eq.trans (b := [_, _, _, (5, AV.p (ii (IntKind.i64.wrap ((j : Int) + 1))))]) rfl ?_
        rw [ej]; rfl
end Go.Proofs.YtlnelaajlhfabaaGreat.AW

open Go Go.Proofs.YtlnelaajlhfabaaGreat.AW Go.Proofs
namespace Go.Proofs.YtlnelaajlhfabaaGreat.AW
set_option maxRecDepth 100000
set_option linter.unusedSimpArgs false
set_option linter.unusedVariables false

/-! ### TableNumbers -/
theorem tape_c (n : Int) (s : Store) (K : AV → Store → Prop) (h : ∀ t : List Int, t.length ≤ 400 → K (.p (kl t)) s) : Cal Tryz.prog 22 [.p (ii n)] s K := by
  refine Cal.pure (args := [ii n]) ?_
  refine Cal.intro Tryz.func22 (by decide +kernel) rfl rfl ?_
  refine LoopX.famW [0, 3, 4] (fun (q : List Int × Nat) => ([(0, .p (ii n)), (3, .osl 0 (q.1.map ii).length 0 (q.1.map ii).length), (4, .p (ii (q.2 : Nat)))], [some (.buf 1 (q.1.map ii))]))
    (fun q => q.1.length ≤ q.2 ∧ q.2 ≤ 400) (fun q => 400 - q.2) ([], 0) ⟨Nat.le_refl _, Nat.zero_le _⟩ (by show 0 ≤ 1; decide) (Trim.wk 0 [(1, none)] rfl (by show 0 ≤ 0; decide) (.inr rfl) rfl rfl rfl rfl rfl ⟨.inl rfl, .own 0 rfl rfl, .inl rfl, trivial⟩) ?_
  rintro ⟨l, i⟩ ⟨hl, hi⟩
  have hl : l.length ≤ i := hl
  have hi : i ≤ 400 := hi
  refine Br.mk (fun hc => ?_) (fun hc => ?_)
  · have hc : (i : Int) < 400 := of_decide_eq_true hc
    have ei : IntKind.i64.wrap ((i : Int) + 1) = ((i + 1 : Nat) : Int) := by rw [wrap_i64] <;> omega
    refine Ob.mk (by decide) ?_
    refine Ob.mk ⟨rfl, rfl, rfl, ?_⟩ ?_
    · show ((l.map ii).length + 1) * 8 ≤ _
      rw [List.length_map]; omega
    · refine ⟨(l ++ [(Int.tmod (IntKind.i64.wrap (IntKind.i64.wrap (IntKind.i64.wrap (IntKind.i64.wrap ((i : Int) * (i : Int)) * 7) + IntKind.i64.wrap (n * 37)) + IntKind.i64.wrap ((i : Int) * n))) 211)], i + 1), ⟨by show (l ++ [(Int.tmod (IntKind.i64.wrap (IntKind.i64.wrap (IntKind.i64.wrap (IntKind.i64.wrap ((i : Int) * (i : Int)) * 7) + IntKind.i64.wrap (n * 37)) + IntKind.i64.wrap ((i : Int) * n))) 211)]).length ≤ i + 1; rw [List.length_append]; show l.length + 1 ≤ _; omega, by show i + 1 ≤ 400; omega⟩, by show 400 - (i + 1) < 400 - i; omega, (by show (0 : Nat) ≤ 1; decide), Trim.mk' ?_ ?_ rfl rfl (by show (1 : Nat) ≤ 1; decide)⟩
      · refine Eq.trans (b := [_, (3, AV.osl 0 ((l.map ii) ++ [ii (Int.tmod (IntKind.i64.wrap (IntKind.i64.wrap (IntKind.i64.wrap (IntKind.i64.wrap ((i : Int) * (i : Int)) * 7) + IntKind.i64.wrap (n * 37)) + IntKind.i64.wrap ((i : Int) * n))) 211)]).length 0 ((l.map ii) ++ [ii (Int.tmod (IntKind.i64.wrap (IntKind.i64.wrap (IntKind.i64.wrap (IntKind.i64.wrap ((i : Int) * (i : Int)) * 7) + IntKind.i64.wrap (n * 37)) + IntKind.i64.wrap ((i : Int) * n))) 211)]).length), (4, AV.p (ii (IntKind.i64.wrap ((i : Int) + 1))))]) rfl ?_
        rw [ei, List.map_append]; rfl
      · show [some (AObj.buf 1 ((l.map ii) ++ [ii (Int.tmod (IntKind.i64.wrap (IntKind.i64.wrap (IntKind.i64.wrap (IntKind.i64.wrap ((i : Int) * (i : Int)) * 7) + IntKind.i64.wrap (n * 37)) + IntKind.i64.wrap ((i : Int) * n))) 211)]) none)] = _
        rw [List.map_append]; rfl
  · refine Ob.mk rfl ?_
    have := h l (by omega)
    show K (.p (.sl .shr 1 (((l.map ii).drop 0).take (l.map ii).length))) s
    rw [List.drop_zero, List.take_length]; exact this
theorem any1_c (l : List Int) (hl : l.length ≤ 400) (s : Store) (K : AV → Store → Prop) (h : ∀ L : List Bt, L.length ≤ 40 → (∀ b, b ∈ L → tinyR b.recs) → K (.p (rowP L)) s) : Cal Tryz.prog 23 [.p (kl l), .p (ii 40)] s K := by
  refine Cal.pure (args := [kl l, ii 40]) ?_
  refine Cal.intro Tryz.func23 (by decide +kernel) rfl rfl ?_
  have hll : (l.map ii).length = l.length := List.length_map ..
  try refine Ob.mk (okst rfl rfl rfl) ?_
  refine LoopX.famW [0, 1, 5, 6, 7] (fun (q : List Bt × Nat × Nat) => ([(0, .p (kl l)), (1, .p (ii 40)), (5, .ref 0 0), (6, .osl 1 (q.1.map Bt.pv).length 0 (q.1.map Bt.pv).length), (7, .p (ii (q.2.2 : Nat)))], [tp l q.2.1, some (.buf 7 (q.1.map Bt.pv))]))
    (fun q => q.1.length ≤ q.2.2 ∧ q.2.2 ≤ 40 ∧ q.2.1 ≤ l.length ∧ ∀ b, b ∈ q.1 → tinyR b.recs) (fun q => 40 - q.2.2) ([], 0, 0) ⟨Nat.le_refl _, Nat.zero_le _, Nat.zero_le _, fun b hb => by cases hb⟩ (by show 1 ≤ 2; decide) (Trim.wk 1 [(7, none)] rfl (by show 1 ≤ 1; decide) (.inr rfl) rfl rfl rfl rfl rfl ⟨.inl rfl, .inl rfl, .inl rfl, .own 1 rfl rfl, .inl rfl, trivial⟩) ?_
  rintro ⟨L, a, i⟩ ⟨hL, hi, ha, ht⟩
  have hL : L.length ≤ i := hL
  have hi : i ≤ 40 := hi
  have ha : a ≤ l.length := ha
  have ht : ∀ b, b ∈ L → tinyR b.recs := ht
  have hfin : K (.p (.sl .shr 7 (((L.map Bt.pv).drop 0).take (L.map Bt.pv).length))) s := by
    rw [List.drop_zero, List.take_length]; exact h L (by omega) ht
  cases k1 : decide ((i : Int) < 40) with
  | false =>
    clear hll
    repeat' (first
      | (apply Br.t; · (first | rfl | (simp only [*] <;> rfl)))
      | (apply Br.f; · (first | rfl | (simp only [*] <;> rfl)))
      | refine Ob.mk (okst rfl rfl rfl) ?_
      | refine Br.mkT (fun c => ?_) (fun c => ?_)
      | refine Br.mkF (fun c => ?_) (fun c => ?_)
      | refine Br.mk (fun c => ?_) (fun c => ?_))
    exact Ob.mk rfl hfin
  | true =>
    have hi1 : i < 40 := by have := of_decide_eq_true k1; omega
    cases k2 : decide ((a : Int) < ((l.map ii).length : Nat)) with
    | false =>
      clear hll
      repeat' (first
        | (apply Br.t; · (first | rfl | (simp only [*] <;> rfl)))
        | (apply Br.f; · (first | rfl | (simp only [*] <;> rfl)))
        | refine Ob.mk (okst rfl rfl rfl) ?_
        | refine Br.mkT (fun c => ?_) (fun c => ?_)
        | refine Br.mkF (fun c => ?_) (fun c => ?_)
        | refine Br.mk (fun c => ?_) (fun c => ?_))
      exact Ob.mk rfl hfin
    | true =>
      have ei : IntKind.i64.wrap ((i : Int) + 1) = ((i + 1 : Nat) : Int) := by rw [wrap_i64] <;> omega
      have hbc := batch_c l a (IntKind.i64.wrap ((i : Int) * 20)) (by omega) ha
      have hbt := btR_tiny l a (IntKind.i64.wrap ((i : Int) * 20))
      have hbl := btR_le l a (IntKind.i64.wrap ((i : Int) * 20)) ha
      generalize btR l a (IntKind.i64.wrap ((i : Int) * 20)) = r at hbc hbt hbl
      obtain ⟨b, a2⟩ := r
      clear hll h hfin
      repeat' (first
        | (apply Br.t; · (first | rfl | (simp only [*] <;> rfl)))
        | (apply Br.f; · (first | rfl | (simp only [*] <;> rfl)))
        | refine Ob.mk (okst rfl rfl rfl) ?_
        | refine Br.mkT (fun c => ?_) (fun c => ?_)
        | refine Br.mkF (fun c => ?_) (fun c => ?_)
        | refine Br.mk (fun c => ?_) (fun c => ?_))
      refine Cal.frameK [0] (hbc _ fun _ => ?_) rfl rfl rfl
      refine Ob.mk ⟨rfl, rfl, rfl, ?_⟩ ?_
      · show ((L.map Bt.pv).length + 1) * 72 ≤ _
        rw [List.length_map]; omega
      · refine ⟨(L ++ [b], a2, i + 1), ⟨by show (L ++ [b]).length ≤ i + 1; rw [List.length_append]; show L.length + 1 ≤ _; omega, hi1, hbl, fun c hc => ?_⟩, by show 40 - (i + 1) < 40 - i; omega, (by show (1 : Nat) ≤ 2; decide), Trim.mk' ?_ ?_ rfl rfl (by show (2 : Nat) ≤ 2; decide)⟩
        · rcases List.mem_append.1 hc with hc | hc
          · exact ht c hc
          · rw [List.mem_singleton.1 hc]; exact hbt
        · refine Eq.trans (b := [_, _, _, (6, AV.osl 1 ((L.map Bt.pv) ++ [b.pv]).length 0 ((L.map Bt.pv) ++ [b.pv]).length), (7, AV.p (ii (IntKind.i64.wrap ((i : Int) + 1))))]) rfl ?_
          rw [ei, List.map_append]; rfl
        · show [_, some (AObj.buf 7 ((L.map Bt.pv) ++ [b.pv]) none)] = [_, some (AObj.buf 7 ((L ++ [b]).map Bt.pv) none)]
          rw [List.map_append]; rfl
def e1 : Bt := ⟨0, 0, 0, 0, false, 0, []⟩
def e2 : Bt := ⟨0, 5, 0, 0, false, 0, []⟩
def e3 : Bt := ⟨0, 0, 0, 0, false, 9, []⟩
theorem wk_e : WkD (.sl .clip 7 [kN e1 (.sl .nil 0 []), kN e2 (.sl .nil 0 []), kN e3 (.sl .nil 0 [])]) (rowP [e1, e2, e3]) := by
  refine .sl _ _ _ _ rfl (fun y hy => ?_) ?_
  · simp only [List.mem_cons, List.map_cons, List.map_nil, List.not_mem_nil, or_false] at hy
    rcases hy with rfl | rfl | rfl <;> exact ⟨rfl, rfl⟩
  · have w : ∀ (b : Bt), b.recs = [] → WkDs (flat [kN b (.sl .nil 0 [])]) (flat [b.pv]) := fun b hb => by
      show WkDs [_, _, _, _, _, _, _] [_, _, _, _, _, _, _]
      refine .cons _ _ _ _ (.refl _) (.cons _ _ _ _ (.refl _) (.cons _ _ _ _ (.refl _) (.cons _ _ _ _ (.refl _) (.cons _ _ _ _ (.refl _) (.cons _ _ _ _ (.refl _) (.cons _ _ _ _ ?_ .nil))))))
      rw [hb]; exact wk_0
    have ap : ∀ {a b c d : List PV}, WkDs a b → WkDs c d → WkDs (a ++ c) (b ++ d) := by
      intro a b c d h1 h2
      induction a generalizing b with
      | nil => cases h1; exact h2
      | cons x r ih => cases h1 with | cons _ _ _ _ hx hr => exact .cons _ _ _ _ hx (ih hr)
    exact ap (w e1 rfl) (ap (w e2 rfl) (w e3 rfl))
theorem playE_c (s : Store) (K : AV → Store → Prop) (h : K (.p (.bool true)) s) : Cal Tryz.prog 21 [.p (.sl .clip 7 [kN e1 (.sl .nil 0 []), kN e2 (.sl .nil 0 []), kN e3 (.sl .nil 0 [])])] s K :=
  Cal.argsD (args' := [.p (rowP [e1, e2, e3])]) (play_c [e1, e2, e3] (by decide) (fun b hb => by
    simp only [List.mem_cons, List.not_mem_nil, or_false] at hb
    rcases hb with rfl | rfl | rfl <;> exact ⟨Nat.zero_le _, fun q hq => by cases hq⟩) s K h) ⟨.inr ⟨_, _, rfl, rfl, wk_e⟩, trivial⟩
theorem numbers_c (s : Store) (K : AV → Store → Prop) (h : K (.p (.bool true)) s) : Cal Tryz.prog 4 [] s K := by
  refine Cal.pure (args := []) ?_
  refine Cal.intro Tryz.func4 (by decide +kernel) rfl rfl ?_
  refine LoopX.fam [1] (fun (k : Nat) => ([(1, .p (ii (k : Nat)))], [])) (fun k => k ≤ 40) (fun k => 40 - k) 0 (Nat.zero_le _) (Trim.mk' rfl rfl rfl rfl (Nat.le_refl _)) ?_
  intro k hk
  have hk : k ≤ 40 := hk
  refine Br.mk (fun hc => ?_) (fun hc => ?_)
  · have hc : (k : Int) < 40 := of_decide_eq_true hc
    have ek : IntKind.i64.wrap ((k : Int) + 1) = ((k + 1 : Nat) : Int) := by rw [wrap_i64] <;> omega
    refine tape_c _ _ _ fun t ht => ?_
    refine row_c t 0 30 (by omega) (by decide) _ _ fun L hL hlen => ?_
    refine play_c L (by omega) (fun b hb => (hL.tiny b hb).small) _ _ ?_
    repeat' (first
      | (apply Br.t; · (first | rfl | (simp only [*] <;> rfl)))
      | (apply Br.f; · (first | rfl | (simp only [*] <;> rfl)))
      | refine Ob.mk (okst rfl rfl rfl) ?_
      | refine tape_c _ _ _ fun t2 ht2 => ?_
      | refine Br.mkT (fun c => ?_) (fun c => ?_)
      | refine Br.mkF (fun c => ?_) (fun c => ?_)
      | refine Br.mk (fun c => ?_) (fun c => ?_))
    refine any1_c t2 ht2 _ _ fun L2 hL2 ht3 => ?_
    repeat' (first
      | (apply Br.t; · (first | rfl | (simp only [*] <;> rfl)))
      | (apply Br.f; · (first | rfl | (simp only [*] <;> rfl)))
      | refine Ob.mk (okst rfl rfl rfl) ?_
      | refine Br.mkT (fun c => ?_) (fun c => ?_)
      | refine Br.mkF (fun c => ?_) (fun c => ?_)
      | refine Br.mk (fun c => ?_) (fun c => ?_))
    refine play_c L2 (by omega) (fun b hb => (ht3 b hb).small) _ _ ?_
    repeat' (first
      | (apply Br.t; · (first | rfl | (simp only [*] <;> rfl)))
      | (apply Br.f; · (first | rfl | (simp only [*] <;> rfl)))
      | refine Ob.mk (okst rfl rfl rfl) ?_
      | refine Br.mkT (fun c => ?_) (fun c => ?_)
      | refine Br.mkF (fun c => ?_) (fun c => ?_)
      | refine Br.mk (fun c => ?_) (fun c => ?_))
    refine ⟨k + 1, by show k + 1 ≤ 40; omega, by show 40 - (k + 1) < 40 - k; omega, Nat.le_refl _, Trim.mk' ?_ rfl rfl rfl (Nat.le_refl _)⟩
    refine Eq.trans (b := [(1, AV.p (ii (IntKind.i64.wrap ((k : Int) + 1))))]) rfl ?_
    rw [ek]
  · refine playE_c _ _ ?_
    repeat' (first
      | (apply Br.t; · (first | rfl | (simp only [*] <;> rfl)))
      | (apply Br.f; · (first | rfl | (simp only [*] <;> rfl)))
      | refine Ob.mk (okst rfl rfl rfl) ?_
      | refine known_c _ _ ?_
      | refine Br.mkT (fun c => ?_) (fun c => ?_)
      | refine Br.mkF (fun c => ?_) (fun c => ?_)
      | refine Br.mk (fun c => ?_) (fun c => ?_)
      | exact h
      | (simp only [*, Bool.true_and, Bool.false_and, Bool.true_or, Bool.false_or, Bool.and_true, Bool.and_false, Bool.or_true, Bool.or_false, Bool.not_true, Bool.not_false, if_true, if_false, reduceIte, Bool.false_eq_true] at h; exact h))
end Go.Proofs.YtlnelaajlhfabaaGreat.AW
