/- A part of the proof: L22/N. -/
import Derived.Test.YtnopnmlpibdioaaDoorP6
open Go Go.Proofs.YtnopnmlpibdioaaDoor.AW Go.Proofs
namespace Go.Proofs.YtnopnmlpibdioaaDoor.AW
set_option maxRecDepth 100000
set_option linter.unusedSimpArgs false
set_option linter.unusedVariables false

def isLong (a b : List UInt8) : Bool := decide (64 < a.length) || decide (64 < b.length)
theorem long_c (a b : List UInt8) (s : Store) (K : AV → Store → Prop) (h : K (.p (.bool (isLong a b))) s) : Cal Tryd.prog 22 [.p (rec2 a b)] s K := by
  refine Cal.pure (args := [rec2 a b]) ?_
  refine Cal.intro Tryd.func22 (by decide +kernel) rfl rfl ?_
  unfold isLong at h
  cases hx : decide ((a.length : Int) > 64) with
  | false =>
    have c2 : ¬ 64 < a.length := by simp at hx; omega
    have c1 : (decide ((a.length : Int) > 64) == false) = true := by rw [hx]; rfl
    repeat (first | refine Br.t c1 ?_ | refine Br.f hx ?_)
    rw [show decide (64 < a.length) = false by simp [c2], Bool.false_or] at h
    have e : decide ((b.length : Int) > 64) = decide (64 < b.length) := by simp; omega
    rw [← e] at h
    exact h
  | true =>
    have c2 : 64 < a.length := by simp at hx; omega
    have c1 : (decide ((a.length : Int) > 64) == false) = false := by rw [hx]; rfl
    repeat (first | refine Br.f c1 ?_ | refine Br.t hx ?_)
    rw [show decide (64 < a.length) = true by simp [c2], Bool.true_or] at h
    exact h

theorem mustRec_v (v : PV) (t : Nat) (ht : t = 26) {a b : List UInt8} (hv : v = rec2 a b) (s : Store) (K : AV → Store → Prop) (h : K (.p v) s) : Cal Tryd.prog 16 [.p (.iface t v)] s K := by
  subst hv; subst ht
  refine Cal.pure (args := [.iface 26 (rec2 a b)]) ?_
  refine Cal.intro Tryd.func16 (by decide +kernel) rfl rfl ?_
  refine Ob.mk (okst rfl rfl rfl) ?_
  exact h

def recQ (a b : List UInt8) (oa ob : Bool) : List UInt8 × List UInt8 := if oa && ob then (if isLong a b then ([], []) else (a, b)) else ([], [])
def recA (a b : List UInt8) (oa ob : Bool) : PV := rec2 (recQ a b oa ob).1 (recQ a b oa ob).2
def recE (a b : List UInt8) (oa ob : Bool) : Int := if oa && ob then (if isLong a b then 13 else 0) else 1

theorem rec_c {u v : PV} {a b : List UInt8} {oa ob : Bool} (hu : Any u a oa) (hv : Any v b ob) (s : Store) (K : AV → Store → Prop) (h : K (.tup [.p (recA a b oa ob), .p (ii (recE a b oa ob))]) s) : Cal Tryd.prog 15 [.p u, .p v] s K := by
  refine Cal.pure (args := [u, v]) ?_
  refine Cal.intro Tryd.func15 (by decide +kernel) rfl rfl ?_
  refine text_any hu _ _ ?_
  refine text_any hv _ _ ?_
  refine Ob.mk (okst rfl rfl rfl) ?_
  unfold recA recQ recE at h
  cases oa with
  | false =>
    repeat (first | refine Br.t rfl ?_ | refine Br.f rfl ?_)
    refine Ob.mk (okst rfl rfl rfl) ?_
    exact h
  | true =>
    cases ob with
    | false =>
      repeat (first | refine Br.t rfl ?_ | refine Br.f rfl ?_)
      refine Ob.mk (okst rfl rfl rfl) ?_
      exact h
    | true =>
      repeat (first | refine Br.t rfl ?_ | refine Br.f rfl ?_)
      refine long_c a b _ _ ?_
      refine Br.mk (fun c => ?_) (fun c => ?_)
      · have c : isLong a b = true := c
        rw [c] at h
        refine Ob.mk (okst rfl rfl rfl) ?_
        exact h
      · have c : isLong a b = false := c
        rw [c] at h
        refine Ob.mk (okst rfl rfl rfl) ?_
        exact h

theorem textEq_c {v : PV} {l : List UInt8} {b : Bool} (hv : Any v l b) (m : List UInt8) (c : Bool) (s : Store) (K : AV → Store → Prop) (h : K (.p (.bool (l == m && b == c))) s) : Cal Tryd.prog 17 [.p v, .p (.str m), .p (.bool c)] s K := by
  refine Cal.pure (args := [v, .str m, .bool c]) ?_
  refine Cal.intro Tryd.func17 (by decide +kernel) rfl rfl ?_
  refine text_any hv _ _ ?_
  cases d : l == m with
  | true =>
    have d1 : ((l == m) == true) = true := by rw [d]; rfl
    repeat (first | refine Br.t d1 ?_ | refine Br.t d ?_)
    rw [d, Bool.true_and] at h
    exact h
  | false =>
    have d1 : ((l == m) == true) = false := by rw [d]; rfl
    repeat (first | refine Br.f d1 ?_ | refine Br.f d ?_)
    rw [d, Bool.false_and] at h
    exact h
theorem textYes_c {v : PV} {l : List UInt8} {b : Bool} (hv : Any v l b) {m : List UInt8} {c : Bool} (hm : l = m) (hc : b = c) (s : Store) (K : AV → Store → Prop) (h : K (.p (.bool true)) s) : Cal Tryd.prog 17 [.p v, .p (.str m), .p (.bool c)] s K := by
  subst hm; subst hc
  refine textEq_c hv _ _ _ _ ?_
  simpa using h
end Go.Proofs.YtnopnmlpibdioaaDoor.AW
