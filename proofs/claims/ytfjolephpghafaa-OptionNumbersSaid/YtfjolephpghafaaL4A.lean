import Derived.Test.YtfjolephpghafaaAwStr
import Derived.Test.YtfjolephpghafaaProg
namespace Go.Proofs.Ytfjolephpghafaa.AW
open Go.Proofs
set_option maxRecDepth 100000

theorem count_c (l : List UInt8) (hl : l.length < 9223372036854775807) (s : Store) (K : AV → Store → Prop) (h : K (.p (.int .i64 (rns l).length)) s) : Cal Try.prog 23 [.p (.str l)] s K := by
  refine Cal.pure (args := [.str l]) ?_
  refine Cal.intro Try.func23 (by decide +kernel) rfl rfl ?_
  refine LoopX.fam [3, 5] (fun (q : Nat × List UInt8 × Nat) => ([(3, .p (.int .i64 q.1)), (5, .it 0)], [some (.iterS q.2.1 q.2.2)]))
    (fun q => q.1 + (rns q.2.1).length = (rns l).length) (fun q => q.2.1.length) (0, l, 0) (by simp) (Trim.mk' rfl rfl rfl rfl (by simp)) ?_
  rintro ⟨n, rest, pos⟩ hq
  have hq : n + (rns rest).length = (rns l).length := hq
  refine BrL.mk (fun (he : rest = []) => ?_) (fun (hne : rest ≠ []) => ?_)
  · refine Br.f rfl ?_
    show K (.p (.int .i64 (n : Int))) s
    subst he
    have : n = (rns l).length := by simpa [rns_nil] using hq
    rw [this]; exact h
  · refine Br.t rfl ?_
    have h1 := rns_step hne
    have h2 := rns_le l
    have h3 := decode_pos rest
    have h4 : 0 < rest.length := List.length_pos_iff.2 hne
    refine ⟨(n + 1, rest.drop (decode rest).2, pos + (decode rest).2), ?_, ?_, by simp, Trim.mk' ?_ rfl rfl rfl (by simp)⟩
    · show n + 1 + (rns (rest.drop (decode rest).2)).length = _
      rw [h1] at hq; simp at hq; omega
    · show (rest.drop (decode rest).2).length < rest.length
      simp; omega
    · have : IntKind.i64.wrap ((n : Int) + 1) = ((n + 1 : Nat) : Int) := by rw [wrap_i64] <;> omega
      rw [← this]
      rfl

def i64b (n : Int) (b : Bool) : AV := .tup [.p (.int .i64 n), .p (.bool b)]

theorem int_int (n : Int) (s : Store) (K : AV → Store → Prop) (h : K (i64b n true) s) : Cal Try.prog 11 [.p (.iface 3 (.int .i64 n))] s K := by
  refine Cal.pure (args := [.iface 3 (.int .i64 n)]) ?_
  refine Cal.intro Try.func11 (by decide +kernel) rfl rfl ?_
  refine Br.t rfl ?_
  exact h
theorem int_i64 (n : Int) (s : Store) (K : AV → Store → Prop) (h : K (i64b n true) s) : Cal Try.prog 11 [.p (.iface 2 (.int .i64 n))] s K := by
  refine Cal.pure (args := [.iface 2 (.int .i64 n)]) ?_
  refine Cal.intro Try.func11 (by decide +kernel) rfl rfl ?_
  refine Br.f rfl (Br.t rfl ?_)
  exact h
theorem int_i32 (n : Int) (s : Store) (K : AV → Store → Prop) (h : K (i64b (IntKind.i64.wrap n) true) s) : Cal Try.prog 11 [.p (.iface 21 (.int .i32 n))] s K := by
  refine Cal.pure (args := [.iface 21 (.int .i32 n)]) ?_
  refine Cal.intro Try.func11 (by decide +kernel) rfl rfl ?_
  refine Br.f rfl (Br.f rfl (Br.t rfl ?_))
  exact h
theorem int_str (l : List UInt8) (hl : l.length < 9223372036854775807) (s : Store) (K : AV → Store → Prop) (h : K (i64b (rns l).length true) s) : Cal Try.prog 11 [.p (.iface 9 (.str l))] s K := by
  refine Cal.pure (args := [.iface 9 (.str l)]) ?_
  refine Cal.intro Try.func11 (by decide +kernel) rfl rfl ?_
  refine Br.f rfl (Br.f rfl (Br.f rfl (Br.t rfl ?_)))
  exact count_c l hl _ _ h
theorem int_not (t : Nat) (ht : t ∈ [41, 43, 44, 33, 45, 46, 29, 4, 27, 48]) (v : PV) (s : Store) (K : AV → Store → Prop) (h : K (i64b 0 false) s) : Cal Try.prog 11 [.p (.iface t v)] s K := by
  refine Cal.pure (args := [.iface t v]) ?_
  refine Cal.intro Try.func11 (by decide +kernel) rfl rfl ?_
  simp only [List.mem_cons, List.not_mem_nil, or_false] at ht
  rcases ht with rfl | rfl | rfl | rfl | rfl | rfl | rfl | rfl | rfl | rfl <;> exact Br.f rfl (Br.f rfl (Br.f rfl (Br.f rfl h)))
theorem int_nil (s : Store) (K : AV → Store → Prop) (h : K (i64b 0 false) s) : Cal Try.prog 11 [.p (.lit .nilIface)] s K := by
  refine Cal.pure (args := [.lit .nilIface]) ?_
  refine Cal.intro Try.func11 (by decide +kernel) rfl rfl ?_
  exact Br.f rfl (Br.f rfl (Br.f rfl (Br.f rfl h)))

def bb (a b : Bool) : AV := .tup [.p (.bool a), .p (.bool b)]
theorem flag_bool (b : Bool) (s : Store) (K : AV → Store → Prop) (h : K (bb b true) s) : Cal Try.prog 12 [.p (.iface 4 (.bool b))] s K := by
  refine Cal.pure (args := [.iface 4 (.bool b)]) ?_
  refine Cal.intro Try.func12 (by decide +kernel) rfl rfl ?_
  exact Br.t rfl h
theorem flag_int (n : Int) (s : Store) (K : AV → Store → Prop) (h : K (bb (n != 0) true) s) : Cal Try.prog 12 [.p (.iface 3 (.int .i64 n))] s K := by
  refine Cal.pure (args := [.iface 3 (.int .i64 n)]) ?_
  refine Cal.intro Try.func12 (by decide +kernel) rfl rfl ?_
  exact Br.f rfl h
theorem flag_not (t : Nat) (ht : t ∈ [41, 43, 44, 33, 45, 46, 29, 27, 48, 2, 21, 9]) (v : PV) (s : Store) (K : AV → Store → Prop) (h : K (bb false false) s) : Cal Try.prog 12 [.p (.iface t v)] s K := by
  refine Cal.pure (args := [.iface t v]) ?_
  refine Cal.intro Try.func12 (by decide +kernel) rfl rfl ?_
  simp only [List.mem_cons, List.not_mem_nil, or_false] at ht
  rcases ht with rfl | rfl | rfl | rfl | rfl | rfl | rfl | rfl | rfl | rfl | rfl | rfl <;> exact Br.f rfl h
theorem flag_nil (s : Store) (K : AV → Store → Prop) (h : K (bb false false) s) : Cal Try.prog 12 [.p (.lit .nilIface)] s K := by
  refine Cal.pure (args := [.lit .nilIface]) ?_
  refine Cal.intro Try.func12 (by decide +kernel) rfl rfl ?_
  exact Br.f rfl h
theorem must_c (n : Int) (s : Store) (K : AV → Store → Prop) (h : K (.p (.int .i64 n)) s) : Cal Try.prog 16 [.p (.iface 2 (.int .i64 n))] s K := by
  refine Cal.pure (args := [.iface 2 (.int .i64 n)]) ?_
  refine Cal.intro Try.func16 (by decide +kernel) rfl rfl ?_
  exact h
def ii (n : Int) : PV := .int .i64 n
def cfg (a b c d : Int) : PV := .agg [ii a, ii b, ii c, ii d]
theorem default_c (s : Store) (K : AV → Store → Prop) (h : K (.p (cfg 1024 128 4 1048576)) s) : Cal Try.prog 19 [] s K := by
  refine Cal.pure (args := []) ?_
  refine Cal.intro Try.func19 (by decide +kernel) rfl rfl ?_
  refine Ob.mk ⟨rfl, Nat.le_of_ble_eq_true rfl, rfl⟩ ?_
  exact h
def clip (n : Int) : Int := max 0 (min n 1073741825)
theorem clip_c (n : Int) (s : Store) (K : AV → Store → Prop) (h : K (.p (ii (clip n))) s) : Cal Try.prog 21 [.p (ii n)] s K := by
  refine Cal.pure (args := [ii n]) ?_
  refine Cal.intro Try.func21 (by decide +kernel) rfl rfl ?_
  have : clip n = (if (if (1073741825 : Int) < n then 1073741825 else n) > 0 then (if (1073741825 : Int) < n then 1073741825 else n) else 0) := by
    unfold clip; omega
  rw [this] at h
  exact h

def rightN (n : Int) : Bool := decide (1 ≤ n ∧ n ≤ 1073741824)
def right (l : List Int) : Bool := l.all rightN

theorem right_c (a b c d : Int) (s : Store) (K : AV → Store → Prop) (h : K (.p (.bool (right [a, b, c, d]))) s) : Cal Try.prog 22 [.p (cfg a b c d)] s K := by
  refine Cal.pure (args := [cfg a b c d]) ?_
  refine Cal.intro Try.func22 (by decide +kernel) rfl rfl ?_
  refine LoopX.fam [13, 14, 15, 2] (fun (i : Nat) => ([(13, .p (.sl .clip 1 [ii a, ii b, ii c, ii d])), (14, .p (ii 4)), (15, .p (ii i)), (2, .p (.bool false))], [some (.cells [.p (ii a), .p (ii b), .p (ii c), .p (ii d)])]))
    (fun i => i ≤ 4 ∧ right (([a, b, c, d] : List Int).take i) = true) (fun i => 4 - i) 0 (by simp [right]) (Trim.mk' rfl rfl rfl rfl (by simp)) ?_
  rintro i ⟨hi, hr⟩
  refine Br.mk (fun hlt => ?_) (fun hge => ?_)
  · have hlt : i < 4 := by have : (i : Int) < 4 := by simpa using hlt
                           omega
    have hg : ∃ n, ([a, b, c, d] : List Int)[i]? = some n ∧ ([ii a, ii b, ii c, ii d] : List PV)[(i : Int).toNat]? = some (ii n) := by
      match i, hlt with
      | 0, _ => exact ⟨a, rfl, rfl⟩
      | 1, _ => exact ⟨b, rfl, rfl⟩
      | 2, _ => exact ⟨c, rfl, rfl⟩
      | 3, _ => exact ⟨d, rfl, rfl⟩
    obtain ⟨n, hn, hp⟩ := hg
    refine Idx.mk (ii n) (by omega) hp ?_
    by_cases h1 : n < 1
    · refine Br.f (by simp [h1]) (Br.f (by simp [h1]) (Br.t (by simp [h1]) (Br.t rfl ?_)))
      have : right [a, b, c, d] = false := by
        rw [Bool.eq_false_iff]; intro hh
        have := List.all_eq_true.1 hh n (List.mem_of_getElem? hn)
        simp [rightN] at this; omega
      rw [this] at h; exact h
    · refine Br.t (by simp [h1]) (Br.t (by simp [h1]) (Br.f (by simp [h1]) ?_))
      refine Br.mk (fun h2 => ?_) (fun h2 => ?_)
      · have : right [a, b, c, d] = false := by
          rw [Bool.eq_false_iff]; intro hh
          have := List.all_eq_true.1 hh n (List.mem_of_getElem? hn)
          have h2 : n > 1073741824 := by simpa using h2
          simp [rightN] at this; omega
        rw [this] at h; exact h
      · have h2 : ¬ n > 1073741824 := by simpa using h2
        refine ⟨i + 1, ⟨by omega, ?_⟩, by omega, by simp, Trim.mk' ?_ rfl rfl rfl (by simp)⟩
        · rw [List.take_add_one, hn]
          unfold right at hr ⊢
          simp [hr, rightN]; omega
        · have : IntKind.i64.wrap ((i : Int) + 1) = ((i + 1 : Nat) : Int) := by rw [wrap_i64] <;> omega
          show [_, _, _, _] = [_, _, _, _]
          rw [← this]
          rfl
  · have hge : ¬ i < 4 := by have : ¬ (i : Int) < 4 := by simpa using hge
                             omega
    have : i = 4 := by omega
    subst this
    have : right [a, b, c, d] = true := hr
    rw [this] at h; exact h
end Go.Proofs.Ytfjolephpghafaa.AW
