import Derived.Test.YtfjolephpghafaaL4G
namespace Go.Proofs.Ytfjolephpghafaa.AW
open Go.Proofs
set_option maxRecDepth 100000

def noInts (b : Bool) : List PV := [.lit .nilIface, .iface 41 (.lit (.float .f64 4609434218613702656)), .iface 43 (.agg [.int .i64 2]), .iface 44 (.pto [.int .i64 0]), .iface 33 (.sl .clip 1 [.int .i64 1]), .iface 45 (.int .u64 3), .iface 46 (.sl .clip 1 [.iface 3 (.int .i64 1)]), .iface 29 (.int .i64 1), .iface 4 (.bool b)]
def noFlags (n r : Int) (l : List UInt8) : List PV := [.lit .nilIface, .iface 41 (.lit (.float .f64 4609434218613702656)), .iface 43 (.agg [.int .i64 2]), .iface 2 (.int .i64 n), .iface 21 (.int .i32 r), .iface 9 (.str l), .iface 9 (.str [116, 114, 117, 101]), .iface 48 (.sl .clip 1 [.bool true])]

theorem noInts_c (b : Bool) {i : Nat} (hi : i < 9) : ∃ v, (noInts b)[(i : Int).toNat]? = some v ∧ (∀ s K, K (i64b 0 false) s → Cal Try.prog 11 [.p v] s K) ∧ (v = .lit .nilIface ∨ ∃ t x, v = .iface t x) := by
  match i, hi with
  | 0, _ => exact ⟨_, rfl, int_nil, .inl rfl⟩
  | 1, _ => exact ⟨_, rfl, int_not 41 (by simp) _, .inr ⟨_, _, rfl⟩⟩
  | 2, _ => exact ⟨_, rfl, int_not 43 (by simp) _, .inr ⟨_, _, rfl⟩⟩
  | 3, _ => exact ⟨_, rfl, int_not 44 (by simp) _, .inr ⟨_, _, rfl⟩⟩
  | 4, _ => exact ⟨_, rfl, int_not 33 (by simp) _, .inr ⟨_, _, rfl⟩⟩
  | 5, _ => exact ⟨_, rfl, int_not 45 (by simp) _, .inr ⟨_, _, rfl⟩⟩
  | 6, _ => exact ⟨_, rfl, int_not 46 (by simp) _, .inr ⟨_, _, rfl⟩⟩
  | 7, _ => exact ⟨_, rfl, int_not 29 (by simp) _, .inr ⟨_, _, rfl⟩⟩
  | 8, _ => exact ⟨_, rfl, int_not 4 (by simp) _, .inr ⟨_, _, rfl⟩⟩
theorem noFlags_c (n r : Int) (l : List UInt8) {i : Nat} (hi : i < 8) : ∃ v, (noFlags n r l)[(i : Int).toNat]? = some v ∧ (∀ s K, K (bb false false) s → Cal Try.prog 12 [.p v] s K) ∧ (v = .lit .nilIface ∨ ∃ t x, v = .iface t x) := by
  match i, hi with
  | 0, _ => exact ⟨_, rfl, flag_nil, .inl rfl⟩
  | 1, _ => exact ⟨_, rfl, flag_not 41 (by simp) _, .inr ⟨_, _, rfl⟩⟩
  | 2, _ => exact ⟨_, rfl, flag_not 43 (by simp) _, .inr ⟨_, _, rfl⟩⟩
  | 3, _ => exact ⟨_, rfl, flag_not 2 (by simp) _, .inr ⟨_, _, rfl⟩⟩
  | 4, _ => exact ⟨_, rfl, flag_not 21 (by simp) _, .inr ⟨_, _, rfl⟩⟩
  | 5, _ => exact ⟨_, rfl, flag_not 9 (by simp) _, .inr ⟨_, _, rfl⟩⟩
  | 6, _ => exact ⟨_, rfl, flag_not 9 (by simp) _, .inr ⟨_, _, rfl⟩⟩
  | 7, _ => exact ⟨_, rfl, flag_not 48 (by simp) _, .inr ⟨_, _, rfl⟩⟩

theorem wrap_succ {i : Nat} (h : i < 1000000) : IntKind.i64.wrap ((i : Int) + 1) = ((i + 1 : Nat) : Int) := by rw [wrap_i64] <;> omega

theorem values_c (n r : Int) (l : List UInt8) (b : Bool) (hl : l.length < 9223372036854775807) (s : Store) (K : AV → Store → Prop) (h : K (.p (.bool true)) s) : Cal Try.prog 7 [.p (ii n), .p (.int .i32 r), .p (.str l), .p (.bool b)] s K := by
  refine Cal.pure (args := [ii n, .int .i32 r, .str l, .bool b]) ?_
  refine Cal.intro Try.func7 (by decide +kernel) rfl rfl ?_
  refine LoopX.fam [0, 1, 2, 3, 8, 28, 29, 30] (fun (i : Nat) => ([(0, .p (ii n)), (1, .p (.int .i32 r)), (2, .p (.str l)), (3, .p (.bool b)), (8, .p (.bool false)), (28, .p (.sl .clip 1 (noInts b))), (29, .p (ii 9)), (30, .p (ii i))], [none])) (fun i => i ≤ 9) (fun i => 9 - i) 0 (by simp) (Trim.mk' rfl rfl rfl rfl (by simp)) ?_
  intro i hi
  have hi : i ≤ 9 := hi
  refine Br.mk (fun hlt => ?_) (fun hge => ?_)
  · have hlt : i < 9 := by have : (i : Int) < 9 := by simpa using hlt
                           omega
    obtain ⟨v, hv, hc, hs⟩ := noInts_c b hlt
    rcases hs with rfl | ⟨t, x, rfl⟩
    · refine Idx.mk (.lit .nilIface) (by omega) hv ?_
      refine ints_c (.lit .nilIface) 0 false hc _ _ ?_
      refine Br.f rfl ?_
      exact ⟨i + 1, by show i + 1 ≤ 9; omega, by omega, by simp, Trim.mk' (by rw [← wrap_succ (by omega)]; rfl) rfl rfl rfl (by simp)⟩
    · refine Idx.mk (.iface t x) (by omega) hv ?_
      refine ints_c (.iface t x) 0 false hc _ _ ?_
      refine Br.f rfl ?_
      exact ⟨i + 1, by show i + 1 ≤ 9; omega, by omega, by simp, Trim.mk' (by rw [← wrap_succ (by omega)]; rfl) rfl rfl rfl (by simp)⟩
  · refine LoopX.fam [0, 1, 2, 3, 8, 50, 51, 52] (fun (i : Nat) => ([(0, .p (ii n)), (1, .p (.int .i32 r)), (2, .p (.str l)), (3, .p (.bool b)), (8, .p (.bool false)), (50, .p (.sl .clip 1 (noFlags n r l))), (51, .p (ii 8)), (52, .p (ii i))], [none])) (fun i => i ≤ 8) (fun i => 8 - i) 0 (by simp) (Trim.mk' rfl rfl rfl rfl (by simp)) ?_
    intro j hj
    have hj : j ≤ 8 := hj
    refine Br.mk (fun hlt => ?_) (fun hge => ?_)
    · have hlt : j < 8 := by have : (j : Int) < 8 := by simpa using hlt
                             omega
      obtain ⟨v, hv, hc, hs⟩ := noFlags_c n r l hlt
      rcases hs with rfl | ⟨t, x, rfl⟩
      · refine Idx.mk (.lit .nilIface) (by omega) hv ?_
        refine flags_c (.lit .nilIface) false false hc _ _ ?_
        refine Br.f rfl ?_
        exact ⟨j + 1, by show j + 1 ≤ 8; omega, by omega, by simp, Trim.mk' (by rw [← wrap_succ (by omega)]; rfl) rfl rfl rfl (by simp)⟩
      · refine Idx.mk (.iface t x) (by omega) hv ?_
        refine flags_c (.iface t x) false false hc _ _ ?_
        refine Br.f rfl ?_
        exact ⟨j + 1, by show j + 1 ≤ 8; omega, by omega, by simp, Trim.mk' (by rw [← wrap_succ (by omega)]; rfl) rfl rfl rfl (by simp)⟩
    · refine ints_c _ n true (int_i64 n) _ _ ?_
      repeat refine Br.t rfl ?_
      refine ints_c _ n true (int_int n) _ _ ?_
      repeat refine Br.t rfl ?_
      refine ints_c _ (IntKind.i64.wrap r) true (int_i32 r) _ _ ?_
      repeat refine Br.t rfl ?_
      refine count2_c l hl _ _ ?_
      repeat refine Br.t rfl ?_
      refine ints_c _ (rns l).length true (int_str l hl) _ _ ?_
      repeat refine Br.t rfl ?_
      refine flags_c _ b true (flag_bool b) _ _ ?_
      repeat refine Br.t rfl ?_
      refine flags_c _ (n != 0) true (flag_int n) _ _ ?_
      repeat refine Br.t rfl ?_
      refine must_c n _ _ ?_
      repeat refine Br.t rfl ?_
      have : (n == n) = true := by simp
      rw [← this] at h
      exact h
end Go.Proofs.Ytfjolephpghafaa.AW
