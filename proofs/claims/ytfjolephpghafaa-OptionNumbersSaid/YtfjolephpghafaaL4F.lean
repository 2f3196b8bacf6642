import Derived.Test.YtfjolephpghafaaL4E
namespace Go.Proofs.Ytfjolephpghafaa.AW
open Go.Proofs
set_option maxRecDepth 100000

theorem ints_c (v : PV) (n : Int) (ok : Bool) (hv : ∀ s K, K (i64b n ok) s → Cal Try.prog 11 [.p v] s K) (s : Store) (K : AV → Store → Prop) (h : K (.p (.bool true)) s) : Cal Try.prog 13 [.p v, .p (ii n), .p (.bool ok)] s K := by
  refine Cal.pure (args := [v, ii n, .bool ok]) ?_
  refine Cal.intro Try.func13 (by decide +kernel) rfl rfl ?_
  refine hv _ _ ?_
  have e : (ok == ok) = true := by simp
  refine Br.t (by simp) (Br.t (by simp) (Br.t (by simp) (Br.t (by simp) ?_)))
  show K (.p (.bool (ok == ok))) s
  rw [e]; exact h

theorem flags_c (v : PV) (b ok : Bool) (hv : ∀ s K, K (bb b ok) s → Cal Try.prog 12 [.p v] s K) (s : Store) (K : AV → Store → Prop) (h : K (.p (.bool true)) s) : Cal Try.prog 14 [.p v, .p (.bool b), .p (.bool ok)] s K := by
  refine Cal.pure (args := [v, .bool b, .bool ok]) ?_
  refine Cal.intro Try.func14 (by decide +kernel) rfl rfl ?_
  refine hv _ _ ?_
  have e : (ok == ok) = true := by simp
  refine Br.t (by simp) (Br.t (by simp) (Br.t (by simp) (Br.t (by simp) ?_)))
  show K (.p (.bool (ok == ok))) s
  rw [e]; exact h
end Go.Proofs.Ytfjolephpghafaa.AW
