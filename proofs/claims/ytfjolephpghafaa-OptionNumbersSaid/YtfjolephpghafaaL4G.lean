import Derived.Test.YtfjolephpghafaaL4F
namespace Go.Proofs.Ytfjolephpghafaa.AW
open Go.Proofs
set_option maxRecDepth 100000

def clamp (n : Int) : Int := max (min n 1099511627776) (-1)
def setOf (c : C4) (l : List UInt8) (n : Int) : C4 × Bool := match fieldOf (upper l) with
  | some k => (c.set k (clamp n), true)
  | none => (c, false)
def cb (r : C4 × Bool) : AV := .tup [.p r.1.pv, .p (.bool r.2)]

theorem set_c (c : C4) (l : List UInt8) (hl : l.length < 1099511627776) (n : Int) (s : Store) (K : AV → Store → Prop) (h : K (cb (setOf c l n)) s) : Cal Try.prog 17 [.p c.pv, .p (.str l), .p (ii n)] s K := by
  refine Cal.pure (args := [c.pv, .str l, ii n]) ?_
  refine Cal.intro Try.func17 (by decide +kernel) rfl rfl ?_
  refine upper2_c l hl _ _ ?_
  have hm : clamp n = (if (-1 : Int) > (if (1099511627776 : Int) < n then 1099511627776 else n) then -1 else (if (1099511627776 : Int) < n then 1099511627776 else n)) := by
    unfold clamp; omega
  unfold setOf fieldOf at h
  rw [hm] at h
  cases h1 : (upper l == SEG) with
  | true => rw [h1] at h; exact Br.t h1 (Ob.mk (okst rfl rfl rfl) (Ob.mk (okst rfl rfl rfl) h))
  | false =>
    cases h2 : (upper l == IND) with
    | true => rw [h1, h2] at h; exact Br.f h1 (Br.t h2 (Ob.mk (okst rfl rfl rfl) (Ob.mk (okst rfl rfl rfl) h)))
    | false =>
      cases h3 : (upper l == SNA) with
      | true => rw [h1, h2, h3] at h; exact Br.f h1 (Br.f h2 (Br.t h3 (Ob.mk (okst rfl rfl rfl) (Ob.mk (okst rfl rfl rfl) h))))
      | false =>
        cases h4 : (upper l == CAP) with
        | true => rw [h1, h2, h3, h4] at h; exact Br.f h1 (Br.f h2 (Br.f h3 (Br.t h4 (Ob.mk (okst rfl rfl rfl) (Ob.mk (okst rfl rfl rfl) h)))))
        | false => rw [h1, h2, h3, h4] at h; exact Br.f h1 (Br.f h2 (Br.f h3 (Br.f h4 (Ob.mk (okst rfl rfl rfl) h))))
theorem fits_c (a b c d : Int) (s : Store) (K : AV → Store → Prop) (h : K (.p (.bool (right [a, b, c, d]))) s) : Cal Try.prog 18 [.p (cfg a b c d)] s K := by
  refine Cal.pure (args := [cfg a b c d]) ?_
  refine Cal.intro Try.func18 (by decide +kernel) rfl rfl ?_
  refine LoopX.fam [13, 14, 15, 2] (fun (i : Nat) => ([(13, .p (.sl .clip 1 [ii a, ii b, ii c, ii d])), (14, .p (ii 4)), (15, .p (ii i)), (2, .p (.bool false))], [some (.cells [.p (ii a), .p (ii b), .p (ii c), .p (ii d)])]))
    (fun i => i ≤ 4 ∧ right (([a, b, c, d] : List Int).take i) = true) (fun i => 4 - i) 0 (by simp [right]) (Trim.mk' rfl rfl rfl rfl (by simp)) ?_
  rintro i ⟨hi, hr⟩
  refine Br.mk (fun hlt => ?_) (fun hge => ?_)
  · have hlt : i < 4 := by have : (i : Int) < 4 := by simpa using hlt
                           omega
    have hg : ∃ n, ([a, b, c, d] : List Int)[i]? = some n ∧ ([ii a, ii b, ii c, ii d] : List PV)[(i : Int).toNat]? = some (ii n) := by
      match i, hlt with
      | 0, _ => exact ⟨a, rfl, rfl⟩
      | 1, _ => exact ⟨b, rfl, rfl⟩
      | 2, _ => exact ⟨c, rfl, rfl⟩
      | 3, _ => exact ⟨d, rfl, rfl⟩
    obtain ⟨n, hn, hp⟩ := hg
    refine Idx.mk (ii n) (by omega) hp ?_
    by_cases h1 : n < 1
    · refine Br.f (by simp [h1]) (Br.f (by simp [h1]) (Br.t (by simp [h1]) (Br.t rfl ?_)))
      have : right [a, b, c, d] = false := by
        rw [Bool.eq_false_iff]; intro hh
        have := List.all_eq_true.1 hh n (List.mem_of_getElem? hn)
        simp [rightN] at this; omega
      rw [this] at h; exact h
    · refine Br.t (by simp [h1]) (Br.t (by simp [h1]) (Br.f (by simp [h1]) ?_))
      refine Br.mk (fun h2 => ?_) (fun h2 => ?_)
      · have : right [a, b, c, d] = false := by
          rw [Bool.eq_false_iff]; intro hh
          have := List.all_eq_true.1 hh n (List.mem_of_getElem? hn)
          have h2 : n > 1073741824 := by simpa using h2
          simp [rightN] at this; omega
        rw [this] at h; exact h
      · have h2 : ¬ n > 1073741824 := by simpa using h2
        refine ⟨i + 1, ⟨by omega, ?_⟩, by omega, by simp, Trim.mk' ?_ rfl rfl rfl (by simp)⟩
        · rw [List.take_add_one, hn]
          unfold right at hr ⊢
          simp [hr, rightN]; omega
        · have : IntKind.i64.wrap ((i : Int) + 1) = ((i + 1 : Nat) : Int) := by rw [wrap_i64] <;> omega
          show [_, _, _, _] = [_, _, _, _]
          rw [← this]
          rfl
  · have hge : ¬ i < 4 := by have : ¬ (i : Int) < 4 := by simpa using hge
                             omega
    have : i = 4 := by omega
    subst this
    have : right [a, b, c, d] = true := hr
    rw [this] at h; exact h
theorem count2_c (l : List UInt8) (hl : l.length < 9223372036854775807) (s : Store) (K : AV → Store → Prop) (h : K (.p (.int .i64 (rns l).length)) s) : Cal Try.prog 15 [.p (.str l)] s K := by
  refine Cal.pure (args := [.str l]) ?_
  refine Cal.intro Try.func15 (by decide +kernel) rfl rfl ?_
  refine LoopX.fam [3, 5] (fun (q : Nat × List UInt8 × Nat) => ([(3, .p (.int .i64 q.1)), (5, .it 0)], [some (.iterS q.2.1 q.2.2)]))
    (fun q => q.1 + (rns q.2.1).length = (rns l).length) (fun q => q.2.1.length) (0, l, 0) (by simp) (Trim.mk' rfl rfl rfl rfl (by simp)) ?_
  rintro ⟨n, rest, pos⟩ hq
  have hq : n + (rns rest).length = (rns l).length := hq
  refine BrL.mk (fun (he : rest = []) => ?_) (fun (hne : rest ≠ []) => ?_)
  · refine Br.f rfl ?_
    show K (.p (.int .i64 (n : Int))) s
    subst he
    have : n = (rns l).length := by simpa [rns_nil] using hq
    rw [this]; exact h
  · refine Br.t rfl ?_
    have h1 := rns_step hne
    have h2 := rns_le l
    have h3 := decode_pos rest
    have h4 : 0 < rest.length := List.length_pos_iff.2 hne
    refine ⟨(n + 1, rest.drop (decode rest).2, pos + (decode rest).2), ?_, ?_, by simp, Trim.mk' ?_ rfl rfl rfl (by simp)⟩
    · show n + 1 + (rns (rest.drop (decode rest).2)).length = _
      rw [h1] at hq; simp at hq; omega
    · show (rest.drop (decode rest).2).length < rest.length
      simp; omega
    · have : IntKind.i64.wrap ((n : Int) + 1) = ((n + 1 : Nat) : Int) := by rw [wrap_i64] <;> omega
      rw [← this]
      rfl

end Go.Proofs.Ytfjolephpghafaa.AW
