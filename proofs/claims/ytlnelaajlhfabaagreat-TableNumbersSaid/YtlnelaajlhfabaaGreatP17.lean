/- A part of the proof: LG/G32, LG/B4. -/
import Derived.Test.YtlnelaajlhfabaaGreatP15
import Derived.Test.YtlnelaajlhfabaaGreatP16
open Go Go.Proofs.YtlnelaajlhfabaaGreat.AW Go.Proofs
namespace Go.Proofs.YtlnelaajlhfabaaGreat.AW
set_option maxRecDepth 100000
set_option linter.unusedSimpArgs false
set_option linter.unusedVariables false

/-! ### TableApart -/
theorem and3 (n : Int) : bits .and .i64 n 3 ≠ -1 := by
  have e : bits .and .i64 n 3 = IntKind.i64.wrap (((BitVec.ofInt 64 n &&& BitVec.ofInt 64 3).toNat : Nat) : Int) := rfl
  have h : (BitVec.ofInt 64 n &&& BitVec.ofInt 64 3).toNat ≤ 3 := by
    rw [BitVec.toNat_and]
    exact Nat.le_trans Nat.and_le_right (by decide)
  rw [e, wrap_i64] <;> omega
theorem ownL_snoc (L : List Bt) (m : Int) {j : Nat} (hj : j < L.length) : ownL (L.take (j + 1)) m = ownL (L.take j) m ++ (if (L[j].prod == m) = true then [L[j]] else []) := by
  unfold ownL
  rw [take_succ' hj, List.filter_append]
  by_cases h : (L[j].prod == m) = true
  · rw [if_pos h, List.filter_cons_of_pos (p := fun b : Bt => b.prod == m) h]; rfl
  · rw [if_neg h, List.filter_cons_of_neg (p := fun b : Bt => b.prod == m) h]; rfl
theorem ownL_le (L : List Bt) (m : Int) : (ownL L m).length ≤ L.length := List.length_filter_le ..
set_option maxHeartbeats 16000000 in
theorem apart_c (t : List Int) (ht : t.length ≤ 9223372036854775807) (n : Int) (s : Store) (K : AV → Store → Prop) (h : K (.p (.bool true)) s) : Cal Tryz.prog 3 [.p (kl t), .p (ii n)] s K := by
  refine Cal.pure (args := [kl t, ii n]) ?_
  refine Cal.intro Tryz.func3 (by decide +kernel) rfl rfl ?_
  have hm := and3 n
  refine row_c t 0 30 ht (by decide) _ _ fun L hL hlen => ?_
  obtain ⟨m, hmm⟩ : ∃ m, m = bits .and .i64 n 3 := ⟨_, rfl⟩
  rw [← hmm] at hm
  have hlm := rowL L
  refine LoopX.famW [5, 6, 7, 20, 21, 22] (fun (j : Nat) => ([(5, .p (rowP L)), (6, .p (ii m)), (7, .osl 0 ((ownL (L.take j) m).map Bt.pv).length 0 ((ownL (L.take j) m).map Bt.pv).length), (20, .p (rowP L)), (21, .p (ii (L.map Bt.pv).length)), (22, .p (ii (j : Nat)))], [some (.buf 7 ((ownL (L.take j) m).map Bt.pv))]))
    (fun j => j ≤ L.length) (fun j => L.length - j) 0 (Nat.zero_le _) (by show 0 ≤ 1; decide) (Trim.wk 0 [(7, none)] rfl (by show 0 ≤ 0; decide) (.inr rfl) rfl rfl rfl rfl rfl ⟨.inl rfl, .inl (by rw [hmm]; rfl), .own 0 rfl rfl, .inl rfl, .inl rfl, .inl rfl, trivial⟩) ?_
  intro j hj
  have hj : j ≤ L.length := hj
  refine Br.mk (fun hc => ?_) (fun hc => ?_)
  · have hc : (j : Int) < ((L.map Bt.pv).length : Nat) := of_decide_eq_true hc
    have hj1 : j < L.length := by omega
    have ej : IntKind.i64.wrap ((j : Int) + 1) = ((j + 1 : Nat) : Int) := by rw [wrap_i64] <;> omega
    refine Idx.mk _ (Int.natCast_nonneg _) (getL hj1) ?_
    refine Ob.mk (okst rfl rfl rfl) ?_
    have hs := ownL_snoc L m hj1
    have hol := ownL_le (L.take j) m
    rw [List.length_take] at hol
    refine Br.mk (fun hp => ?_) (fun hp => ?_)
    · have hp : L[j].prod = m := of_decide_eq_true hp
      rw [if_pos (by simpa using hp)] at hs
      refine Ob.mk ?_ ?_
      · refine ⟨rfl, rfl, rfl, ?_⟩
        show (((ownL (L.take j) m).map Bt.pv).length + 1) * 72 ≤ _
        rw [List.length_map]; omega
      · refine ⟨j + 1, hj1, by show L.length - (j + 1) < L.length - j; omega, (by show (0 : Nat) ≤ 1; decide), Trim.mk' ?_ ?_ rfl rfl (show (1 : Nat) ≤ 2 by decide)⟩
        · refine Eq.trans (b := [_, _, (7, .osl 0 (((ownL (L.take j) m).map Bt.pv) ++ [L[j].pv]).length 0 (((ownL (L.take j) m).map Bt.pv) ++ [L[j].pv]).length), _, _, (22, AV.p (ii (IntKind.i64.wrap ((j : Int) + 1))))]) rfl ?_
          rw [ej, hs, List.map_append]; rfl
        · show [some (AObj.buf 7 (((ownL (L.take j) m).map Bt.pv) ++ [L[j].pv]) none)] = _
          rw [hs, List.map_append]; rfl
    · have hp : ¬ L[j].prod = m := of_decide_eq_false hp
      rw [if_neg (by simpa using hp), List.append_nil] at hs
      refine ⟨j + 1, hj1, by show L.length - (j + 1) < L.length - j; omega, (by show (0 : Nat) ≤ 1; decide), Trim.mk' ?_ ?_ rfl rfl (show (1 : Nat) ≤ 2 by decide)⟩
      · refine Eq.trans (b := [_, _, (7, .osl 0 ((ownL (L.take j) m).map Bt.pv).length 0 ((ownL (L.take j) m).map Bt.pv).length), _, _, (22, AV.p (ii (IntKind.i64.wrap ((j : Int) + 1))))]) rfl ?_
        rw [ej, hs]; rfl
      · show [some (AObj.buf 7 ((ownL (L.take j) m).map Bt.pv) none)] = _
        rw [hs]
  · have hc : ¬ (j : Int) < ((L.map Bt.pv).length : Nat) := of_decide_eq_false hc
    have : j = L.length := by omega
    subst this
    rw [List.take_length]
    have hsm : ∀ b, b ∈ L → b.small := fun b hb => (hL.tiny b hb).small
    have hso : ∀ b, b ∈ ownL L m → b.small := fun b hb => hsm b (List.mem_filter.1 hb).1
    have hol := ownL_le L m
    have hin : TInv (tApps ([], 0) L).1 (tApps ([], 0) L).2 := TInv.nil.apps
    have hio : TInv (tApps ([], 0) (ownL L m)).1 (tApps ([], 0) (ownL L m)).2 := TInv.nil.apps
    have hget := tGet_own L m
    have hsome := tGet_some (L := L) hm hL.right
    have hown := own_len (L := L) hm hL.right
    have hfo := tfold_o (ownL L m) (by omega) hso
    have hlo : ((ownL L m).map Bt.pv).length = (ownL L m).length := List.length_map ..
    rw [hlo] at hsome ⊢
    refine Cal.frameK [] (tfold_c L (by omega) hsm _ fun _ => ?_) rfl rfl rfl
    refine Cal.frameK [0] (hfo _ fun _ => ?_) rfl rfl rfl
    repeat' (first
      | (apply Br.t; · (first | rfl | (simp only [*] <;> rfl)))
      | (apply Br.f; · (first | rfl | (simp only [*] <;> rfl)))
      | refine Ob.mk (okst rfl rfl rfl) ?_
      | refine Br.mkT (fun c => ?_) (fun c => ?_)
      | refine Br.mkF (fun c => ?_) (fun c => ?_)
      | refine Br.mk (fun c => ?_) (fun c => ?_))
    refine Cal.frameK [1, 2] (tget_c _ _ hin.ok m _ fun _ => ?_) rfl rfl rfl
    refine Ob.mk (okst rfl rfl rfl) ?_
    refine Cal.frameK [3, 4] (tget_c _ _ hio.ok m _ fun _ => ?_) rfl rfl rfl
    rw [← hget]
    rw [← hget] at hsome
    refine Ob.mk (okst rfl rfl rfl) ?_
    have hpl : ((tGet (tApps ([], 0) L).1 m).getD pr0).last.length ≤ 1000000000 := by
      cases ho : tGet (tApps ([], 0) L).1 m with
      | none => exact pr0_len
      | some p => exact hin.ok.get ho
    generalize tGet (tApps ([], 0) L).1 m = o at hsome hpl ⊢
    have hkL : L.length ≤ 1000000000 := by omega
    have hkO : (ownL L m).length ≤ 1000000000 := by omega
    have hkR : ∀ b, b ∈ ownL L m → b.recs.length ≤ 1000000000 := fun b hb => by have := (hso b hb).1; omega
    have hkE : (tApps ([], 0) (ownL L m)).1.length ≤ 1000000000 := by omega
    have hb0 : (o.isSome == o.isSome) = true := by simp
    have hb1 : (decide ((((ownL L m).length : Nat) : Int) > 0) == o.isSome) = true := by rw [hsome]; simp
    clear hsome hget
    have g0 : ((o.isSome == o.isSome) == true) = true := congrArg (· == true) hb0
    have g1 : ((decide ((((ownL L m).length : Nat) : Int) > 0) == o.isSome) == true) = true := congrArg (· == true) hb1
    refine Br.t g0 ?_
    refine Br.t g0 ?_
    refine Br.t g0 ?_
    refine psame_c _ hpl _ _ ?_
    refine Br.t hb0 ?_
    repeat refine Br.t rfl ?_
    repeat (first | refine Br.t g1 ?_ | refine Br.t hb1 ?_)
    refine Cal.frameK [3, 4] (tall_c _ _ hio hkE _ fun ps hps hpp _ => ?_) rfl rfl rfl
    have hmin : ∀ x : Int, x = min (((ownL L m).length : Nat) : Int) 1 → (decide ((((ps.map Pr.pv).length : Nat) : Int) = x)) = true := fun x hx => by
      have hl := hps.length_eq
      rw [List.length_map] at hl
      rw [hx, List.length_map, hl, hown]
      apply decide_eq_true
      omega
    have hmi := hmin (if (1 : Int) < (((ownL L m).length : Nat) : Int) then 1 else (((ownL L m).length : Nat) : Int)) (by split <;> omega)
    have g2 := congrArg (· == true) hmi
    repeat (first | refine Br.t g1 ?_ | refine Br.t hb1 ?_)
    repeat (first | refine Br.t g2 ?_ | refine Br.t hmi ?_)
    have hcut : [PV.sl .shr 7 ((((ownL L m).map Bt.pv).drop 0).take (ownL L m).length)] = [rowP (ownL L m)] := by
      rw [List.drop_zero, ← hlo, List.take_length]; rfl
    refine Cal.lend2 (p := rowP (ownL L m)) ⟨_, Ob.mk hlo ⟨hcut, rfl⟩⟩ (rows_c _ hkO hkR _ _ rfl) rfl ?_
    repeat (first | refine Br.t g2 ?_ | refine Br.t hmi ?_)
    repeat refine Br.t rfl ?_
    refine known_c _ _ ?_
    repeat refine Br.t rfl ?_
    exact h
end Go.Proofs.YtlnelaajlhfabaaGreat.AW

open Go Go.Proofs.YtlnelaajlhfabaaGreat.AW Go.Proofs
namespace Go.Proofs.YtlnelaajlhfabaaGreat.AW
set_option linter.unusedSimpArgs false
set_option linter.unusedVariables false

/-! ### The code's table and the document's: the same -/
theorem dGet_nil (n : Int) : dGet [] n = none := rfl
theorem dGet_cons (p : Pr) (r : List Pr) (n : Int) : dGet (p :: r) n = if p.id < n then dGet r n else if p.id = n then some p else none := by
  unfold dGet
  by_cases h : p.id < n
  · have e : dAt (p :: r) n = dAt r n + 1 := by simp only [dAt, if_pos h]
    rw [e, if_pos h, List.getElem?_cons_succ]
  · have e : dAt (p :: r) n = 0 := by simp only [dAt, if_neg h]
    rw [e, if_neg h, List.getElem?_cons_zero]
    by_cases h2 : p.id = n <;> simp [h2]
theorem dPut_nil (b : Bt) : dPut [] b = [applyV pr0 false b] := rfl
theorem dPut_cons (p : Pr) (r : List Pr) (b : Bt) : dPut (p :: r) b = if p.id < b.prod then p :: dPut r b else if p.id = b.prod then applyV p true b :: r else applyV pr0 false b :: p :: r := by
  unfold dPut
  rw [dGet_cons]
  by_cases h : p.id < b.prod
  · have e : dAt (p :: r) b.prod = dAt r b.prod + 1 := by simp only [dAt, if_pos h]
    rw [e, if_pos h, if_pos h]
    cases dGet r b.prod with
    | none => simp only [List.take_succ_cons, List.drop_succ_cons, List.cons_append]
    | some q => simp only [List.set_cons_succ]
  · have e : dAt (p :: r) b.prod = 0 := by simp only [dAt, if_neg h]
    rw [e, if_neg h, if_neg h]
    by_cases h2 : p.id = b.prod
    · rw [if_pos h2, if_pos h2]; rfl
    · rw [if_neg h2, if_neg h2]; rfl
def putP (o : Option Pr) (b : Bt) : Pr := applyV (o.getD pr0) o.isSome b
theorem putP_id (o : Option Pr) (b : Bt) : (putP o b).id = b.prod := applyV_id ..
theorem dGet_dPut (b : Bt) (m : Int) : ∀ L : List Pr, dGet (dPut L b) m = if m = b.prod then some (putP (dGet L b.prod) b) else dGet L m
  | [] => by
    rw [dPut_nil, dGet_cons, applyV_id, dGet_nil, dGet_nil]
    by_cases h : m = b.prod
    · subst h; rw [if_neg (Int.lt_irrefl _), if_pos rfl, if_pos rfl]; rfl
    · rw [if_neg h]; split
      · rfl
      · rw [if_neg fun e => h e.symm]
  | p :: r => by
    rw [dPut_cons]
    by_cases h1 : p.id < b.prod
    · rw [if_pos h1, dGet_cons, dGet_dPut b m r, dGet_cons, dGet_cons, if_pos h1]
      by_cases h : m = b.prod
      · subst h; rw [if_pos h1, if_pos rfl, if_pos rfl]
      · rw [if_neg h, if_neg h]
    · rw [if_neg h1]
      by_cases h2 : p.id = b.prod
      · rw [if_pos h2, dGet_cons, applyV_id, dGet_cons, dGet_cons, if_neg h1, if_pos h2]
        by_cases h : m = b.prod
        · subst h; rw [if_neg (Int.lt_irrefl _), if_pos rfl, if_pos rfl]; rfl
        · rw [if_neg h, h2]
          split
          · rfl
          · rw [if_neg fun e => h e.symm, if_neg fun e => h e.symm]
      · rw [if_neg h2, dGet_cons, applyV_id, dGet_cons p r b.prod, if_neg h1, if_neg h2]
        by_cases h : m = b.prod
        · subst h; rw [if_neg (Int.lt_irrefl _), if_pos rfl, if_pos rfl]; rfl
        · rw [if_neg h]
          by_cases h3 : b.prod < m
          · rw [if_pos h3]
          · rw [if_neg h3, if_neg fun e => h e.symm, dGet_cons, if_neg (by omega), if_neg (by omega)]
def SortedP (L : List Pr) : Prop := L.Pairwise fun a c => a.id < c.id
theorem dPut_mem {b : Bt} {x : Pr} : ∀ {L : List Pr}, x ∈ dPut L b → x.id = b.prod ∨ x ∈ L
  | [], h => by rw [dPut_nil, List.mem_singleton] at h; rw [h]; exact .inl (applyV_id ..)
  | p :: r, h => by
    rw [dPut_cons] at h
    split at h
    · rcases List.mem_cons.1 h with h | h
      · exact .inr (by rw [h]; exact List.mem_cons_self ..)
      · exact (dPut_mem h).imp id fun q => List.mem_cons_of_mem _ q
    · split at h
      · rcases List.mem_cons.1 h with h | h
        · rw [h]; exact .inl (applyV_id ..)
        · exact .inr (List.mem_cons_of_mem _ h)
      · rcases List.mem_cons.1 h with h | h
        · rw [h]; exact .inl (applyV_id ..)
        · exact .inr h
theorem SortedP.put (b : Bt) : ∀ {L : List Pr}, SortedP L → SortedP (dPut L b)
  | [], _ => by rw [dPut_nil]; exact List.pairwise_singleton ..
  | p :: r, h => by
    obtain ⟨h1, h2⟩ := List.pairwise_cons.1 h
    rw [dPut_cons]
    split
    · rename_i hlt
      refine List.pairwise_cons.2 ⟨fun x hx => ?_, SortedP.put b h2⟩
      rcases dPut_mem hx with q | q
      · rw [q]; exact hlt
      · exact h1 x q
    · rename_i hge
      split
      · rename_i he
        refine List.pairwise_cons.2 ⟨fun x hx => ?_, h2⟩
        rw [applyV_id, ← he]; exact h1 x hx
      · rename_i hne
        refine List.pairwise_cons.2 ⟨fun x hx => ?_, h⟩
        rw [applyV_id]
        rcases List.mem_cons.1 hx with q | q
        · rw [q]; omega
        · have := h1 x q; omega
theorem dGet_mem {L : List Pr} (h : SortedP L) (p : Pr) : dGet L p.id = some p ↔ p ∈ L := by
  induction L with
  | nil => simp [dGet_nil]
  | cons q r ih =>
    obtain ⟨h1, h2⟩ := List.pairwise_cons.1 h
    rw [dGet_cons, List.mem_cons]
    by_cases hlt : q.id < p.id
    · rw [if_pos hlt, ih h2]
      exact ⟨.inr, fun k => k.resolve_left fun e => by rw [e] at hlt; omega⟩
    · rw [if_neg hlt]
      by_cases he : q.id = p.id
      · rw [if_pos he]
        constructor
        · intro e; cases e; exact .inl rfl
        · rintro (e | e)
          · rw [e]
          · have := h1 p e; omega
      · rw [if_neg he]
        constructor
        · intro e; cases e
        · rintro (e | e)
          · exact absurd (by rw [e]) he
          · have := h1 p e; omega
theorem sorted_eq : ∀ {L M : List Pr}, SortedP L → SortedP M → (∀ p, p ∈ L ↔ p ∈ M) → L = M
  | [], [], _, _, _ => rfl
  | [], q :: t, _, _, h => absurd ((h q).2 (List.mem_cons_self ..)) (by simp)
  | p :: r, [], _, _, h => absurd ((h p).1 (List.mem_cons_self ..)) (by simp)
  | p :: r, q :: t, hL, hM, h => by
    obtain ⟨h1, h2⟩ := List.pairwise_cons.1 hL
    obtain ⟨h3, h4⟩ := List.pairwise_cons.1 hM
    have e : p = q := by
      rcases List.mem_cons.1 ((h p).1 (List.mem_cons_self ..)) with e | e
      · exact e
      · rcases List.mem_cons.1 ((h q).2 (List.mem_cons_self ..)) with e2 | e2
        · exact e2.symm
        · have := h3 p e; have := h1 q e2; omega
    subst e
    congr 1
    refine sorted_eq h2 h4 fun x => ⟨fun hx => ?_, fun hx => ?_⟩
    · rcases List.mem_cons.1 ((h x).1 (List.mem_cons_of_mem _ hx)) with e | e
      · have := h1 x hx; rw [e] at this; omega
      · exact e
    · rcases List.mem_cons.1 ((h x).2 (List.mem_cons_of_mem _ hx)) with e | e
      · have := h3 x hx; rw [e] at this; omega
      · exact e
/-- The two tables tell the same. -/
structure TRel (es : List TE) (L : List Pr) : Prop where
  get : ∀ n, tGet es n = dGet L n
  sorted : SortedP L
theorem TRel.nil : TRel [] [] := ⟨fun n => rfl, .nil⟩
theorem TRel.app {es : List TE} {L : List Pr} (h : TRel es L) (cl : Nat) (b : Bt) : TRel (tApp es cl b).1 (dApp L b) := by
  unfold tApp dApp
  split
  · exact h
  · refine ⟨fun n => ?_, h.sorted.put b⟩
    rw [tGet_tPut, dGet_dPut, ← h.get b.prod, ← h.get n]; rfl
theorem tGet_of {es : List TE} (hk : (es.map (·.2.1)).Nodup) {q : TE} (hq : q ∈ es) : tGet es q.2.1 = some q.2.2 := by
  induction es with
  | nil => cases hq
  | cons x t ih =>
    rw [List.map_cons, List.nodup_cons] at hk
    obtain ⟨s, k, p⟩ := x
    rcases List.mem_cons.1 hq with rfl | hq
    · unfold tGet; rw [if_pos rfl]
    · unfold tGet
      rw [if_neg (fun e => hk.1 (List.mem_map.2 ⟨q, hq, e⟩))]
      exact ih hk.2 hq
/-- All, by id: the document's list. -/
theorem TRel.all {es : List TE} {cl : Nat} {L : List Pr} (h : TRel es L) (hi : TInv es cl) {ps : List Pr} (hp : ps.Perm (es.map fun q => q.2.2)) (hs : ps.Pairwise (fun a c => ¬ c.id < a.id)) : ps = L := by
  have hid : ps.map (·.id) |>.Nodup := by
    have e : (es.map fun q => q.2.2).map (·.id) = es.map (·.2.1) := by
      rw [List.map_map]
      exact List.map_congr_left fun q hq => hi.self q hq
    exact (hp.map (·.id)).nodup_iff.2 (by rw [e]; exact hi.keys)
  have hss : SortedP ps := by
    clear hp
    induction ps with
    | nil => exact .nil
    | cons a r ih =>
      obtain ⟨h1, h2⟩ := List.pairwise_cons.1 hs
      rw [List.map_cons, List.nodup_cons] at hid
      refine List.pairwise_cons.2 ⟨fun x hx => ?_, ih h2 hid.2⟩
      have h3 := h1 x hx
      have h4 : a.id ≠ x.id := fun e => hid.1 (by rw [e]; exact List.mem_map_of_mem hx)
      omega
  refine sorted_eq hss h.sorted fun p => ?_
  rw [← dGet_mem h.sorted p, ← h.get, hp.mem_iff]
  constructor
  · intro hm
    obtain ⟨q, hq, rfl⟩ := List.mem_map.1 hm
    have := tGet_of hi.keys hq
    rw [hi.self q hq]; exact this
  · intro hg
    obtain ⟨t, ht⟩ := tGet_mem hg
    exact List.mem_map.2 ⟨_, ht, rfl⟩
/-- Open, of both. -/
theorem TRel.open {es : List TE} {cl : Nat} {L : List Pr} (h : TRel es L) (hi : TInv es cl) {r t : Int × Bool} (hr : IsLeast (es.map fun q => q.2.2.op) r) (ht : IsLeast (L.map Pr.op) t) : r = t := by
  refine hr.eq ?_
  have hm : ∀ x, x ∈ L.map Pr.op ↔ x ∈ es.map fun q => q.2.2.op := fun x => by
    constructor
    · intro hx
      obtain ⟨p, hp, rfl⟩ := List.mem_map.1 hx
      have := (dGet_mem h.sorted p).2 hp
      rw [← h.get] at this
      obtain ⟨t, ht⟩ := tGet_mem this
      exact List.mem_map.2 ⟨_, ht, rfl⟩
    · intro hx
      obtain ⟨q, hq, rfl⟩ := List.mem_map.1 hx
      have h1 := tGet_of hi.keys hq
      rw [h.get, ← hi.self q hq] at h1
      exact List.mem_map.2 ⟨_, (dGet_mem h.sorted _).1 h1, rfl⟩
  rcases ht with ⟨h1, h2, h3⟩ | ⟨h1, h2, h3, h4⟩
  · exact .inl ⟨h1, h2, fun x hx => h3 x ((hm x).2 hx)⟩
  · exact .inr ⟨h1, h2, (hm _).1 h3, fun x hx => h4 x ((hm x).2 hx)⟩
end Go.Proofs.YtlnelaajlhfabaaGreat.AW
