/- A part of the proof: LG/G27, LG/G28. -/
import Derived.Test.YtjhgmaephpadpaaGreatP12

open Go Go.Proofs.YtjhgmaephpadpaaGreat.AW Go.Proofs
namespace Go.Proofs.YtjhgmaephpadpaaGreat.AW
set_option maxRecDepth 100000
set_option linter.unusedSimpArgs false
set_option linter.unusedVariables false

/-! ### What a tape asks -/
def tinyR (r : List KV) : Prop := r.length ≤ 4 ∧ ∀ q, q ∈ r → q.1.length ≤ 9 ∧ q.2.length ≤ 9 ∧ q.1 ∈ txL
theorem txV_mem (l : List Int) (a : Nat) : txV l a ∈ txL := by
  obtain ⟨h1, h2⟩ := nxV_in (l := l) (a := a) (n := 9) (by decide)
  unfold txV
  have : (nxV l a 9).toNat < txL.length := by show _ < 9; omega
  rw [List.getD_eq_getElem?_getD, List.getElem?_eq_getElem this]
  exact List.getElem_mem _
theorem rcs_key {l : List Int} : ∀ {k a : Nat}, ∀ q, q ∈ (rcs l k a).1 → q.1 ∈ txL
  | 0, _, q, h => by cases h
  | k + 1, a, q, h => by
    rcases List.mem_cons.1 h with rfl | h
    · exact txV_mem _ _
    · exact rcs_key q h
theorem rcsV_tiny (l : List Int) (a : Nat) : tinyR (rcsV l a 4) := by
  obtain ⟨h1, h2⟩ := nxV_in (l := l) (a := a) (n := 4) (by decide)
  refine ⟨?_, fun q hq => ⟨(rcs_short q hq).1, (rcs_short q hq).2, rcs_key q hq⟩⟩
  unfold rcsV
  rw [rcs_len]; omega
theorem btR_tiny (l : List Int) (a : Nat) (base : Int) : tinyR (btR l a base).1.recs := by
  unfold btR
  split
  · exact rcsV_tiny ..
  · split
    · exact ⟨Nat.zero_le _, fun q hq => by cases hq⟩
    · dsimp only
      split <;> exact rcsV_tiny ..
theorem btR_le (l : List Int) (a : Nat) (base : Int) (h : a ≤ l.length) : (btR l a base).2 ≤ l.length := by
  unfold btR
  split
  · exact rcsA_le (nxA_le h)
  · split
    · exact nxA_le (nxA_le (nxA_le (nxA_le h)))
    · dsimp only
      split
      · exact nxA_le (nxA_le (rcsA_le (nxA_le (nxA_le (nxA_le (nxA_le (nxA_le h)))))))
      · exact nxA_le (rcsA_le (nxA_le (nxA_le (nxA_le (nxA_le (nxA_le h))))))
theorem tinyR.small {b : Bt} (h : tinyR b.recs) : b.small := ⟨by have := h.1; omega, fun _ _ => trivial⟩
theorem getP2 {L : List Pr} {j : Nat} (h : j < L.length) {i : Int} (hi : i = (j : Int)) : 0 ≤ i ∧ (L.map Pr.pv)[i.toNat]? = some L[j].pv := by
  subst hi; exact ⟨Int.natCast_nonneg _, getP h⟩
def bZ : Option AObj := some (.cells [.p (ii 0), .p (ii 0), .p (ii 0), .p (ii 0), .p (.bool false), .p (ii 0), .p (.sl .nil 0 [])])
attribute [local irreducible] nxV nxA btR in
set_option maxHeartbeats 16000000 in
theorem ask_c (l : List Int) (a : Nat) (hl : l.length ≤ 9223372036854775807) (ha : a ≤ l.length) (cap st : Int) (L : List Bt) (hL : L.length ≤ 1000000000) (hb : ∀ b, b ∈ L → b.small) (K : AV → Store → Prop)
    (h : ∀ (b : Bt) (a' : Nat), tinyR b.recs → a' ≤ l.length → K (.p b.pv) [tp l a', mC cap st L]) : Cal Tryz.prog 9 [.ref 0 0, .ref 1 0] [tp l a, mC cap st L] K := by
  refine Cal.cut ?_
  refine Cal.intro Tryz.func9 (by decide +kernel) rfl rfl ?_
  refine Cal.frameK [0] (batch_c l a 0 hl ha _ fun _ => ?_) rfl rfl rfl
  have ht := btR_tiny l a 0
  have ha1 := btR_le l a 0 ha
  generalize btR l a 0 = q at ht ha1 ⊢
  obtain ⟨b, a1⟩ := q
  have ht : tinyR b.recs := ht
  have ha1 : a1 ≤ l.length := ha1
  have hfin : ∀ (b : Bt) (a' : Nat), tinyR b.recs → a' ≤ l.length → K (.p b.pv) [tp l a', mC cap st L] := h
  clear h
  obtain ⟨f1, f2, f3⟩ := dFold_inv L
  obtain ⟨Lp, hLp⟩ : ∃ Lp, Lp = (dFold L).1 := ⟨_, rfl⟩
  rw [← hLp] at f1 f2
  have hplen : ∀ p, p ∈ Lp → p.last.length ≤ 1000000000 := f1
  have a2 := nxA_le (n := 8) ha1
  refine Ob.mk (okst rfl rfl rfl) ?_
  cases k1 : decide (b.prod < 0) with
  | true =>
    repeat' (first
      | (apply Br.t; · (first | rfl | (simp only [*] <;> rfl)))
      | (apply Br.f; · (first | rfl | (simp only [*] <;> rfl)))
      | refine Ob.mk (okst rfl rfl rfl) ?_
      | exact ⟨2, [tp l a1, mC cap st L], Nat.le_refl 2, (show 2 ≤ 4 by decide), rfl, rfl, WkS.refl _, hfin b a1 ht ha1⟩
      | refine Br.mkT (fun c => ?_) (fun c => ?_)
      | refine Br.mkF (fun c => ?_) (fun c => ?_)
      | refine Br.mk (fun c => ?_) (fun c => ?_))
  | false =>
    repeat' (first
      | (apply Br.t; · (first | rfl | (simp only [*] <;> rfl)))
      | (apply Br.f; · (first | rfl | (simp only [*] <;> rfl)))
      | refine Ob.mk (okst rfl rfl rfl) ?_
      | refine Cal.frameK [0] (next_c l a1 8 hl ha1 _ fun _ => ?_) rfl rfl rfl
      | exact ⟨2, [tp l (nxA l a1 8), mC cap st L], Nat.le_refl 2, (show 2 ≤ 4 by decide), rfl, rfl, WkS.refl _, hfin b _ ht a2⟩
      | refine Br.mkT (fun c => ?_) (fun c => ?_)
      | refine Br.mkF (fun c => ?_) (fun c => ?_)
      | refine Br.mk (fun c => ?_) (fun c => ?_))
    refine Cal.frameK [1] (mprods_c cap st L hL hb _ fun _ => ?_) rfl rfl rfl
    rw [← hLp]
    clear hLp k1
    refine LoopX.fam [0, 4, 5, 22, 23, 24] (fun (q : Bt × Nat × Int) => ([(0, .ref 0 0), (4, .ref 2 0), (5, .ref 3 0), (22, .p (prsP Lp)), (23, .p (ii (Lp.map Pr.pv).length)), (24, .p (ii q.2.2))], [tp l q.2.1, mC cap st L, bZ, bCells q.1]))
      (fun q => 0 ≤ q.2.2 ∧ q.2.2 ≤ Lp.length ∧ tinyR q.1.recs ∧ q.2.1 ≤ l.length) (fun q => (Lp.length - q.2.2).toNat) (b, nxA l a1 8, 0) ⟨Int.le_refl _, Int.natCast_nonneg _, ht, a2⟩ (Trim.mk' rfl rfl rfl rfl (Nat.le_refl _)) ?_
    rintro ⟨b, a, j⟩ ⟨hj0, hj, ht, ha⟩
    have hj0 : 0 ≤ j := hj0
    have hj : j ≤ Lp.length := hj
    have ht : tinyR b.recs := ht
    have ha : a ≤ l.length := ha
    have hlm : (Lp.map Pr.pv).length = Lp.length := List.length_map ..
    refine Br.mk (fun hc => ?_) (fun hc => ?_)
    · have hc : j < ((Lp.map Pr.pv).length : Nat) := of_decide_eq_true hc
      obtain ⟨n, hn⟩ : ∃ n : Nat, j = (n : Int) := ⟨j.toNat, by omega⟩
      have hn1 : n < Lp.length := by omega
      have ej : IntKind.i64.wrap (j + 1) = j + 1 := by rw [wrap_i64] <;> omega
      have hok : 0 ≤ IntKind.i64.wrap (j + 1) ∧ IntKind.i64.wrap (j + 1) ≤ Lp.length := by rw [ej]; omega
      have hm : (Lp.length - IntKind.i64.wrap (j + 1)).toNat < (Lp.length - j).toNat := by rw [ej]; omega
      obtain ⟨g1, g2⟩ := getP2 hn1 hn
      have hpl := hplen _ (List.getElem_mem hn1)
      generalize Lp[n] = p at g2 hpl
      refine Idx.mk p.pv g1 g2 ?_
      refine Ob.mk (okst rfl rfl rfl) ?_
      clear hlm hc hn hn1 ej hj hj0
      have fin0 : ∀ y : Bt × Nat × Int, y.2.2 = IntKind.i64.wrap (j + 1) → tinyR y.1.recs → y.2.1 ≤ l.length → (0 ≤ y.2.2 ∧ y.2.2 ≤ Lp.length ∧ tinyR y.1.recs ∧ y.2.1 ≤ l.length) ∧ (Lp.length - y.2.2).toNat < (Lp.length - j).toNat := fun y h1 h2 h3 => ⟨⟨by rw [h1]; exact hok.1, by rw [h1]; exact hok.2, h2, h3⟩, by rw [h1]; exact hm⟩
      cases k2 : (p.id != b.prod) with
      | true =>
        repeat' (first
          | (apply Br.t; · (first | rfl | (simp only [*] <;> rfl)))
          | (apply Br.f; · (first | rfl | (simp only [*] <;> rfl)))
          | refine Ob.mk (okst rfl rfl rfl) ?_
          | refine Br.mkT (fun c => ?_) (fun c => ?_)
          | refine Br.mkF (fun c => ?_) (fun c => ?_)
          | refine Br.mk (fun c => ?_) (fun c => ?_))
        exact ⟨(b, a, IntKind.i64.wrap (j + 1)), ⟨hok.1, hok.2, ht, ha⟩, hm, Nat.le_refl _, Trim.mk' rfl rfl rfl rfl (show 4 ≤ 5 by decide)⟩
      | false =>
        cases k3 : (b.mark == 0) with
        | false =>
          repeat' (first
            | (apply Br.t; · (first | rfl | (simp only [*] <;> rfl)))
            | (apply Br.f; · (first | rfl | (simp only [*] <;> rfl)))
            | refine Ob.mk (okst rfl rfl rfl) ?_
            | refine Br.mkT (fun c => ?_) (fun c => ?_)
            | refine Br.mkF (fun c => ?_) (fun c => ?_)
            | refine Br.mk (fun c => ?_) (fun c => ?_))
          exact ⟨(⟨b.base, b.prod, p.epoch, b.seq, b.txn, b.mark, b.recs⟩, a, IntKind.i64.wrap (j + 1)), ⟨hok.1, hok.2, ht, ha⟩, hm, Nat.le_refl _, Trim.mk' rfl rfl rfl rfl (show 4 ≤ 5 by decide)⟩
        | true =>
          cases hg : p.last.getLast? with
          | none =>
            have h0 := no_last hg
            clear fin0
            repeat' (first
              | (apply Br.t; · (first | rfl | (simp only [*] <;> rfl)))
              | (apply Br.f; · (first | rfl | (simp only [*] <;> rfl)))
              | refine Ob.mk (okst rfl rfl rfl) ?_
              | refine Br.mkT (fun c => ?_) (fun c => ?_)
              | refine Br.mkF (fun c => ?_) (fun c => ?_)
              | refine Br.mk (fun c => ?_) (fun c => ?_))
            all_goals
              exact ⟨(⟨b.base, b.prod, p.epoch, 0, _, b.mark, b.recs⟩, a, IntKind.i64.wrap (j + 1)), ⟨hok.1, hok.2, ht, ha⟩, hm, Nat.le_refl _, Trim.mk' rfl rfl rfl rfl (show 4 ≤ 5 by decide)⟩
          | some x =>
            obtain ⟨q1, q2, q3⟩ := last_get hg hpl
            have a3 := nxA_le (n := ((p.last.map tri).length : Nat)) (nxA_le (n := 7) ha)
            have hn1 : 1 ≤ (((p.last.map tri).length : Nat) : Int) := by have := of_decide_eq_true q3; omega
            obtain ⟨v1, v2⟩ := nxV_in (l := l) (a := nxA l a 7) hn1
            have hgy : ∃ y, (p.last.map tri)[(nxV l (nxA l a 7) (((p.last.map tri).length : Nat) : Int)).toNat]? = some (tri y) := by
              have hlt : (nxV l (nxA l a 7) (((p.last.map tri).length : Nat) : Int)).toNat < p.last.length := by
                rw [lsL] at v1 v2 ⊢; omega
              exact ⟨p.last[(nxV l (nxA l a 7) (((p.last.map tri).length : Nat) : Int)).toNat], by rw [List.getElem?_map, List.getElem?_eq_getElem hlt]; rfl⟩
            obtain ⟨y, hgy⟩ := hgy
            clear fin0
            repeat' (first
              | (apply Br.t; · (first | rfl | (simp only [*] <;> rfl)))
              | (apply Br.f; · (first | rfl | (simp only [*] <;> rfl)))
              | refine Ob.mk (okst rfl rfl rfl) ?_
              | refine Idx.mk (tri x) q1 q2 ?_
              | refine Ob.mk (by decide) ?_
              | refine Cal.frameK [0] (next_c l a 7 hl ha _ fun _ => ?_) rfl rfl rfl
              | refine Br.mkT (fun c => ?_) (fun c => ?_)
              | refine Br.mkF (fun c => ?_) (fun c => ?_)
              | refine Br.mk (fun c => ?_) (fun c => ?_))
            all_goals
              first
              | exact ⟨(⟨b.base, b.prod, p.epoch, _, _, b.mark, b.recs⟩, nxA l a 7, IntKind.i64.wrap (j + 1)), ⟨hok.1, hok.2, ht, nxA_le ha⟩, hm, Nat.le_refl _, Trim.mk' rfl rfl rfl rfl (show 4 ≤ 5 by decide)⟩
              | skip
                repeat' (first
                  | refine Chk.mk (by kernel_rfl) ?_
                  | (apply Br.t; · (first | rfl | (simp only [*] <;> rfl)))
                  | (apply Br.f; · (first | rfl | (simp only [*] <;> rfl)))
                  | refine ⟨_, ⟨rfl, rfl⟩, ?_⟩
                  | refine ⟨_, _, ⟨rfl, rfl⟩, rfl, ?_⟩
                  | refine .inr <| .inl ⟨[0], _, _, _, _, next_c l (nxA l a 7) _ hl (nxA_le ha) _ ⟨rfl, rfl⟩, rfl, rfl, rfl, ?_⟩
                  | refine ⟨_, Idx.mk (tri y) v1 hgy ⟨rfl, rfl⟩, ?_⟩
                  | refine ⟨_, Ob.mk (by decide) ⟨rfl, rfl⟩, ?_⟩
                  | (refine ⟨_, Br.t ?_ ⟨rfl, rfl⟩, ?_⟩; · (first | rfl | (simp only [*] <;> rfl)))
                  | (refine ⟨_, Br.f ?_ ⟨rfl, rfl⟩, ?_⟩; · (first | rfl | (simp only [*] <;> rfl)))
                  | refine ⟨_, _, Ob.mk (okst rfl rfl rfl) ⟨rfl, rfl⟩, rfl, ?_⟩
                  | refine Ob.mk (okst rfl rfl rfl) ?_
                  | refine Ob.mk (by decide) ?_
                  | refine Br.mkT (fun c => ?_) (fun c => ?_)
                  | refine Br.mkF (fun c => ?_) (fun c => ?_)
                  | refine Br.mk (fun c => ?_) (fun c => ?_))
                exact ⟨(⟨b.base, b.prod, p.epoch, _, _, b.mark, b.recs⟩, nxA l (nxA l a 7) (((p.last.map tri).length : Nat) : Int), IntKind.i64.wrap (j + 1)), ⟨hok.1, hok.2, ht, a3⟩, hm, Nat.le_refl _, Trim.mk' rfl rfl rfl rfl (show 4 ≤ 5 by decide)⟩
    · refine Ob.mk (okst rfl rfl rfl) ?_
      exact ⟨2, [tp l a, mC cap st L], Nat.le_refl 2, (show 2 ≤ 4 by decide), rfl, rfl, WkS.refl _, hfin b a ht ha⟩
end Go.Proofs.YtjhgmaephpadpaaGreat.AW


open Go Go.Proofs.YtjhgmaephpadpaaGreat.AW Go.Proofs
namespace Go.Proofs.YtjhgmaephpadpaaGreat.AW
set_option maxRecDepth 100000
set_option linter.unusedSimpArgs false
set_option linter.unusedVariables false

/-! ### A row of a tape -/
inductive RowOk (st : Int) : List Bt → Prop
  | nil : RowOk st []
  | snoc (L : List Bt) (b : Bt) (h : RowOk st L) (h1 : b.base = endW st L) (h2 : (tChk (dGet (dFold L).1 b.prod) b).2 = 0) (h3 : (tChk (dGet (dFold L).1 b.prod) b).1 < 0) (h4 : tinyR b.recs) (h5 : IntKind.i64.wrap (endW st L + cntV b) ≤ 1099511627776) : RowOk st (L ++ [b])
theorem RowOk.tiny {st : Int} {L : List Bt} (h : RowOk st L) : ∀ b, b ∈ L → tinyR b.recs := by
  induction h with
  | nil => intro b hb; cases hb
  | snoc L b h h1 h2 h3 h4 h5 ih =>
    intro c hc
    rcases List.mem_append.1 hc with hc | hc
    · exact ih c hc
    · rw [List.mem_singleton.1 hc]; exact h4
theorem RowOk.put {cap st : Int} {L : List Bt} (h : RowOk st L) {b : Bt} (h1 : b.base = endW st L) (h4 : tinyR b.recs) : RowOk st (putV cap st L b).2 ∧ (putV cap st L b).2.length ≤ L.length + 1 := by
  unfold putV
  split
  · exact ⟨h, by show L.length ≤ _; omega⟩
  · rename_i k1
    split
    · exact ⟨h, by show L.length ≤ _; omega⟩
    · rename_i k2
      split
      · exact ⟨h, by show L.length ≤ _; omega⟩
      · split
        · exact ⟨h, by show L.length ≤ _; omega⟩
        · rename_i k4
          refine ⟨.snoc L b h h1 (by simpa using k1) (by simpa using k2) h4 (by simpa using k4), ?_⟩
          rw [List.length_append]; exact Nat.le_refl _
theorem RowOk.prod {cap st : Int} {L : List Bt} (h : RowOk st L) {b : Bt} (h4 : tinyR b.recs) : RowOk st (prodV cap st L b).2 ∧ (prodV cap st L b).2.length ≤ L.length + 1 := by
  unfold prodV
  split
  · exact ⟨h, by show L.length ≤ _; omega⟩
  · split
    · exact ⟨h, by show L.length ≤ _; omega⟩
    · exact h.put rfl h4
theorem RowOk.mark {cap st : Int} {L : List Bt} (h : RowOk st L) (p e m : Int) : RowOk st (markV cap st L p e m).2 ∧ (markV cap st L p e m).2.length ≤ L.length + 1 := by
  unfold markV
  split
  · exact ⟨h, by show L.length ≤ _; omega⟩
  · exact h.put rfl ⟨Nat.zero_le _, fun q hq => by cases hq⟩
def rv (i : Nat) (L : List Bt) : PV := match i with | 0 => .sl .nil 0 [] | _ + 1 => rowP L
def mcv (i : Nat) (cap st : Int) (L : List Bt) : Option AObj := some (.cells [.p (ii cap), .p (ii st), .p (rv i L)])
theorem wk_rv (i : Nat) (L : List Bt) (h : i = 0 → L = []) : WkD (rv i L) (rowP L) := by
  cases i with
  | zero => rw [h rfl]; exact .nil 0 .shr 7
  | succ i => exact .refl _
end Go.Proofs.YtjhgmaephpadpaaGreat.AW
