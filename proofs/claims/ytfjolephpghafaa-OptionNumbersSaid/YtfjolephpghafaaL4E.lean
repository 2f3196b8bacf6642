import Derived.Test.YtfjolephpghafaaL4D
namespace Go.Proofs.Ytfjolephpghafaa.AW
open Go.Proofs
set_option maxRecDepth 100000

theorem config_v {r : C4 × Int} (k : SK) (items : List Item) (hr : config items = r) (hok : ∀ v, v ∈ items → v.ok) (s : Store) (K : AV → Store → Prop) (h : K (res r) s) : Cal Try.prog 9 [.p (.sl k 1 (items.map Item.pv))] s K :=
  config_c k items hok s K (by rw [hr]; exact h)

def nseg : List UInt8 := [115, 101, 103, 109, 101, 110, 116]
def nind : List UInt8 := [105, 110, 100, 101, 120]
def nsna : List UInt8 := [115, 110, 97, 112, 115, 104, 111, 116]
def ncap : List UInt8 := [99, 97, 112]
theorem useg : upper nseg = SEG := by kernel_rfl
theorem uind : upper nind = IND := by kernel_rfl
theorem usna : upper nsna = SNA := by kernel_rfl
theorem ucap : upper ncap = CAP := by kernel_rfl
theorem fseg : fieldOf (upper nseg) = some 0 := by rw [useg]; kernel_rfl
theorem find : fieldOf (upper nind) = some 1 := by rw [uind]; kernel_rfl
theorem fsna : fieldOf (upper nsna) = some 2 := by rw [usna]; kernel_rfl
theorem fcap : fieldOf (upper ncap) = some 3 := by rw [ucap]; kernel_rfl
theorem known1 : config [.tx nseg, .i 64] = (⟨64, 128, 4, 1048576⟩, 0) := by unfold config run; rw [fseg]; rfl
theorem known2 : config [.i 7] = (zero4, 1) := rfl
theorem known3 : config [.tx ncap] = (zero4, 1) := rfl
theorem known4 : config [.tx nind, .i 0] = (zero4, 3) := by unfold config run; rw [find]; rfl
theorem known5 : (rns [228, 184, 150, 97]).length = 2 := by kernel_rfl

abbrev okst {a b : Nat} {c : Bool} {x y : Nat} (h1 : a = b) (h2 : Nat.ble x y = true) (h3 : c = true) : a = b ∧ x ≤ y ∧ c = true := ⟨h1, Nat.le_of_ble_eq_true h2, h3⟩

theorem known_c (s : Store) (K : AV → Store → Prop) (h : K (.p (.bool true)) s) : Cal Try.prog 10 [] s K := by
  refine Cal.pure (args := []) ?_
  refine Cal.intro Try.func10 (by decide +kernel) rfl rfl ?_
  refine config_v (r := (⟨64, 128, 4, 1048576⟩, 0)) .clip [.tx nseg, .i 64] known1 (by simp [Item.ok, nseg]) _ _ ?_
  refine Ob.mk (okst rfl rfl rfl) ?_
  refine config_v (r := (zero4, 1)) .clip [.i 7] known2 (by simp [Item.ok]) _ _ ?_
  refine Ob.mk (okst rfl rfl rfl) ?_
  refine config_v (r := (zero4, 1)) .clip [.tx ncap] known3 (by simp [Item.ok, ncap]) _ _ ?_
  refine Ob.mk (okst rfl rfl rfl) ?_
  refine config_v (r := (zero4, 3)) .clip [.tx nind, .i 0] known4 (by simp [Item.ok, nind]) _ _ ?_
  refine Ob.mk (okst rfl rfl rfl) ?_
  refine int_str [228, 184, 150, 97] (by simp) _ _ ?_
  rw [known5]
  refine int_not 41 (by simp) _ _ _ ?_
  refine flag_int 5 _ _ ?_
  refine Br.t rfl (Br.t rfl (Br.t rfl (Br.t rfl ?_)))
  refine Br.t rfl (Br.t rfl (Br.t rfl (Br.t rfl ?_)))
  refine Br.t rfl (Br.t rfl (Br.t rfl ?_))
  refine Br.t rfl (Br.t rfl (Br.t rfl ?_))
  refine Br.t rfl (Br.t rfl (Br.t rfl ?_))
  refine Br.t rfl (Br.t rfl (Br.t rfl ?_))
  refine Br.t rfl (Br.t rfl ?_)
  refine Br.t rfl (Br.t rfl (Br.t rfl ?_))
  refine Br.t rfl (Br.t rfl ?_)
  refine Br.t rfl (Br.t rfl ?_)
  refine Br.t rfl (Br.t rfl ?_)
  refine must_c 9 _ _ ?_
  refine Br.t rfl (Br.t rfl (Br.t rfl ?_))
  refine default_c _ _ ?_
  refine Br.t rfl (Br.t rfl (Br.t rfl ?_))
  exact h
end Go.Proofs.Ytfjolephpghafaa.AW
