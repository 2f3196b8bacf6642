/- A part of the proof: LG/G17. -/
import Derived.Test.YtjhgmaephpadpaaGreatP9

open Go Go.Proofs.YtjhgmaephpadpaaGreat.AW Go.Proofs
namespace Go.Proofs.YtjhgmaephpadpaaGreat.AW
set_option maxRecDepth 100000
set_option linter.unusedSimpArgs false
set_option linter.unusedVariables false

/-! ### What is compared with itself is the same -/
theorem bne_s (x : Int) : (x != x) = false := by simp
theorem beq_s (x : Int) : (x == x) = true := by simp
theorem beq_b (x : Bool) : (x == x) = true := by simp
set_option maxHeartbeats 4000000 in
theorem rsame_c (r : List KV) (hr : r.length ≤ 1000000000) (s : Store) (K : AV → Store → Prop) (h : K (.p (.bool true)) s) : Cal Tryz.prog 79 [.p (rcP r), .p (rcP r)] s K := by
  refine Cal.pure (args := [rcP r, rcP r]) ?_
  refine Cal.intro Tryz.func79 (by decide +kernel) rfl rfl ?_
  have q1 := bne_s
  repeat' (first
    | (apply Br.t; · (first | rfl | (simp only [*] <;> rfl)))
    | (apply Br.f; · (first | rfl | (simp only [*] <;> rfl)))
    | refine Ob.mk (okst rfl rfl rfl) ?_
    | refine Br.mkT (fun c => ?_) (fun c => ?_)
    | refine Br.mkF (fun c => ?_) (fun c => ?_)
    | refine Br.mk (fun c => ?_) (fun c => ?_))
  have hl : (r.map rec2).length = r.length := List.length_map ..
  refine LoopX.fam [0, 1, 12, 13] (fun (j : Nat) => ([(0, .p (rcP r)), (1, .p (rcP r)), (12, .p (ii (r.map rec2).length)), (13, .p (ii (j : Nat)))], []))
    (fun j => j ≤ r.length) (fun j => r.length - j) 0 (Nat.zero_le _) (Trim.mk' rfl rfl rfl rfl (Nat.le_refl _)) ?_
  intro j hj
  have hj : j ≤ r.length := hj
  refine Br.mk (fun hc => ?_) (fun hc => ?_)
  · have hc : (j : Int) < ((r.map rec2).length : Nat) := of_decide_eq_true hc
    have hj1 : j < r.length := by omega
    have ej : IntKind.i64.wrap ((j : Int) + 1) = ((j + 1 : Nat) : Int) := by rw [wrap_i64] <;> omega
    have q2 : ∀ x : List UInt8, (x == x) = true := fun x => by simp
    have hg : (r.map rec2)[((j : Nat) : Int).toNat]? = some (rec2 r[j]) := by rw [Int.toNat_natCast]; simp [hj1]
    repeat' (first
      | refine Chk.mk (by kernel_rfl) ?_
      | (apply Br.t; · (first | rfl | (simp only [*] <;> rfl)))
      | (apply Br.f; · (first | rfl | (simp only [*] <;> rfl)))
      | refine ⟨_, ⟨rfl, rfl⟩, ?_⟩
      | refine ⟨_, _, ⟨rfl, rfl⟩, rfl, ?_⟩
      | refine ⟨_, Idx.mk (rec2 r[j]) (Int.natCast_nonneg _) hg ⟨rfl, rfl⟩, ?_⟩
      | refine ⟨_, Ob.mk ⟨by decide +kernel, by decide +kernel⟩ ⟨rfl, rfl⟩, ?_⟩
      | refine ⟨_, Ob.mk (by decide) ⟨rfl, rfl⟩, ?_⟩
      | (refine ⟨_, Br.t ?_ ⟨rfl, rfl⟩, ?_⟩; · (first | rfl | (simp only [*] <;> rfl)))
      | (refine ⟨_, Br.f ?_ ⟨rfl, rfl⟩, ?_⟩; · (first | rfl | (simp only [*] <;> rfl)))
      | refine ⟨_, _, Ob.mk (okst rfl rfl rfl) ⟨rfl, rfl⟩, rfl, ?_⟩
      | refine Ob.mk (okst rfl rfl rfl) ?_
      | refine Ob.mk (by decide) ?_
      | refine Br.mkT (fun c => ?_) (fun c => ?_)
      | refine Br.mkF (fun c => ?_) (fun c => ?_)
      | refine Br.mk (fun c => ?_) (fun c => ?_))
    refine ⟨j + 1, by show j + 1 ≤ r.length; omega, by show r.length - (j + 1) < r.length - j; omega, Nat.le_refl _, Trim.mk' ?_ rfl rfl rfl (Nat.le_refl _)⟩
    refine Eq.trans (b := [_, _, _, (13, AV.p (ii (IntKind.i64.wrap ((j : Int) + 1))))]) rfl ?_
    rw [ej]; rfl
  · exact h
set_option maxHeartbeats 4000000 in
theorem bsame_c (b : Bt) (hb : b.recs.length ≤ 1000000000) (s : Store) (K : AV → Store → Prop) (h : K (.p (.bool true)) s) : Cal Tryz.prog 43 [.p b.pv, .p b.pv] s K := by
  refine Cal.pure (args := [b.pv, b.pv]) ?_
  refine Cal.intro Tryz.func43 (by decide +kernel) rfl rfl ?_
  have q1 := beq_s
  have q2 := beq_b
  repeat' (first
    | (apply Br.t; · (first | rfl | (simp only [*] <;> rfl)))
    | (apply Br.f; · (first | rfl | (simp only [*] <;> rfl)))
    | refine Ob.mk (okst rfl rfl rfl) ?_
    | refine rsame_c b.recs hb _ _ ?_
    | refine Br.mkT (fun c => ?_) (fun c => ?_)
    | refine Br.mkF (fun c => ?_) (fun c => ?_)
    | refine Br.mk (fun c => ?_) (fun c => ?_)
    | exact h
    | (simp only [*, Bool.true_and, Bool.false_and, Bool.true_or, Bool.false_or, Bool.and_true, Bool.and_false, Bool.or_true, Bool.or_false, Bool.not_true, Bool.not_false, if_true, if_false, reduceIte, Bool.false_eq_true] at h; exact h))
set_option maxHeartbeats 4000000 in
theorem rows_c (L : List Bt) (hL : L.length ≤ 1000000000) (hb : ∀ b, b ∈ L → b.recs.length ≤ 1000000000) (s : Store) (K : AV → Store → Prop) (h : K (.p (.bool true)) s) : Cal Tryz.prog 20 [.p (rowP L), .p (rowP L)] s K := by
  refine Cal.pure (args := [rowP L, rowP L]) ?_
  refine Cal.intro Tryz.func20 (by decide +kernel) rfl rfl ?_
  have q1 := bne_s
  repeat' (first
    | (apply Br.t; · (first | rfl | (simp only [*] <;> rfl)))
    | (apply Br.f; · (first | rfl | (simp only [*] <;> rfl)))
    | refine Ob.mk (okst rfl rfl rfl) ?_
    | refine Br.mkT (fun c => ?_) (fun c => ?_)
    | refine Br.mkF (fun c => ?_) (fun c => ?_)
    | refine Br.mk (fun c => ?_) (fun c => ?_))
  have hl := rowL L
  refine LoopX.fam [0, 1, 12, 13] (fun (j : Nat) => ([(0, .p (rowP L)), (1, .p (rowP L)), (12, .p (ii (L.map Bt.pv).length)), (13, .p (ii (j : Nat)))], []))
    (fun j => j ≤ L.length) (fun j => L.length - j) 0 (Nat.zero_le _) (Trim.mk' rfl rfl rfl rfl (Nat.le_refl _)) ?_
  intro j hj
  have hj : j ≤ L.length := hj
  refine Br.mk (fun hc => ?_) (fun hc => ?_)
  · have hc : (j : Int) < ((L.map Bt.pv).length : Nat) := of_decide_eq_true hc
    have hj1 : j < L.length := by omega
    have ej : IntKind.i64.wrap ((j : Int) + 1) = ((j + 1 : Nat) : Int) := by rw [wrap_i64] <;> omega
    have hg := getL hj1
    have hbj := hb _ (List.getElem_mem hj1)
    repeat' (first
      | refine Chk.mk (by kernel_rfl) ?_
      | (apply Br.t; · (first | rfl | (simp only [*] <;> rfl)))
      | (apply Br.f; · (first | rfl | (simp only [*] <;> rfl)))
      | refine ⟨_, ⟨rfl, rfl⟩, ?_⟩
      | refine ⟨_, _, ⟨rfl, rfl⟩, rfl, ?_⟩
      | refine ⟨_, Idx.mk L[j].pv (Int.natCast_nonneg _) hg ⟨rfl, rfl⟩, ?_⟩
      | refine Or.inl ⟨_, fun s' => bsame_c L[j] hbj s' _ ⟨rfl, rfl⟩, rfl, ?_⟩
      | refine ⟨_, Ob.mk (by decide) ⟨rfl, rfl⟩, ?_⟩
      | (refine ⟨_, Br.t ?_ ⟨rfl, rfl⟩, ?_⟩; · (first | rfl | (simp only [*] <;> rfl)))
      | (refine ⟨_, Br.f ?_ ⟨rfl, rfl⟩, ?_⟩; · (first | rfl | (simp only [*] <;> rfl)))
      | refine ⟨_, _, Ob.mk (okst rfl rfl rfl) ⟨rfl, rfl⟩, rfl, ?_⟩
      | refine Ob.mk (okst rfl rfl rfl) ?_
      | refine Ob.mk (by decide) ?_
      | refine Br.mkT (fun c => ?_) (fun c => ?_)
      | refine Br.mkF (fun c => ?_) (fun c => ?_)
      | refine Br.mk (fun c => ?_) (fun c => ?_))
    refine ⟨j + 1, by show j + 1 ≤ L.length; omega, by show L.length - (j + 1) < L.length - j; omega, Nat.le_refl _, Trim.mk' ?_ rfl rfl rfl (Nat.le_refl _)⟩
    refine Eq.trans (b := [_, _, _, (13, AV.p (ii (IntKind.i64.wrap ((j : Int) + 1))))]) rfl ?_
    rw [ej]; rfl
  · exact h
def prsP (L : List Pr) : PV := .sl .shr 4 (L.map Pr.pv)
theorem prsL (L : List Pr) : (L.map Pr.pv).length = L.length := List.length_map ..
theorem getP {L : List Pr} {j : Nat} (h : j < L.length) : (L.map Pr.pv)[((j : Nat) : Int).toNat]? = some L[j].pv := by
  rw [Int.toNat_natCast]; simp [h]
end Go.Proofs.YtjhgmaephpadpaaGreat.AW
