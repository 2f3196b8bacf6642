import Derived.Test.YtfjolephpghafaaL4G
namespace Go.Proofs.Ytfjolephpghafaa.AW
open Go.Proofs
set_option maxRecDepth 100000

theorem and_ffff (a : Int) : 0 ≤ bits .and .i64 a 65535 ∧ bits .and .i64 a 65535 ≤ 65535 := by
  have h1 : (BitVec.ofInt 64 a &&& BitVec.ofInt 64 65535).toNat ≤ 65535 := by
    rw [BitVec.toNat_and]
    exact Nat.le_trans Nat.and_le_right (by decide)
  have h2 : bits .and .i64 a 65535 = IntKind.i64.wrap ((BitVec.ofInt 64 a &&& BitVec.ofInt 64 65535).toNat : Int) := rfl
  rw [h2, wrap_i64 (by omega) (by omega)]
  omega

def few (a : Int) : Int := IntKind.i64.wrap (1 + bits .and .i64 a 65535)
theorem few_in (a : Int) : 1 ≤ few a ∧ few a ≤ 65536 := by
  have := and_ffff a
  unfold few
  rw [wrap_i64 (by omega) (by omega)]; omega

def nm : Nat → List UInt8 | 0 => nseg | 1 => nind | 2 => nsna | _ => ncap
theorem fnm (k : Nat) (hk : k < 4) : fieldOf (upper (nm k)) = some k := by
  match k, hk with
  | 0, _ => exact fseg
  | 1, _ => exact find
  | 2, _ => exact fsna
  | 3, _ => exact fcap

theorem clip_few (a : Int) : clip (few a) = few a := by
  have := few_in a
  unfold clip; omega

theorem config3 (k j : Nat) (hk : k < 4) (hj : j < 4) (a b c : Int) (h : right (((dflt.set k (few a)).set j (few b)).set k (few c)).l = true) :
    config [.tx (nm k), .i64 (few a), .tx (nm j), .i64 (few b), .tx (nm k), .i64 (few c)] = (((dflt.set k (few a)).set j (few b)).set k (few c), 0) := by
  simp only [config, run, fnm k hk, fnm j hj, Item.val, clip_few, h, if_true]
theorem config2 (k j : Nat) (hk : k < 4) (hj : j < 4) (b c : Int) (h : right ((dflt.set j (few b)).set k (few c)).l = true) :
    config [.tx (nm j), .i64 (few b), .tx (nm k), .i64 (few c)] = ((dflt.set j (few b)).set k (few c), 0) := by
  simp only [config, run, fnm k hk, fnm j hj, Item.val, clip_few, h, if_true]
theorem config1 (c : C4) (h : right c.l = true) : config [.cf c.a c.b c.c c.d] = (c, 0) := by
  have h : right (C4.mk c.a c.b c.c c.d).l = true := h
  simp only [config, run, h, if_true]

theorem kth (w : Int) : (IntKind.i64.wrap (w.tmod 4 + 4)).tmod 4 = 0 ∨ (IntKind.i64.wrap (w.tmod 4 + 4)).tmod 4 = 1 ∨ (IntKind.i64.wrap (w.tmod 4 + 4)).tmod 4 = 2 ∨ (IntKind.i64.wrap (w.tmod 4 + 4)).tmod 4 = 3 := by
  have h1 : -4 < w.tmod 4 := by have := Int.lt_tmod_of_pos w (by decide : (0 : Int) < 4); omega
  have h2 : w.tmod 4 < 4 := Int.tmod_lt_of_pos w (by decide)
  rw [wrap_i64 (by omega) (by omega), Int.tmod_eq_emod_of_nonneg (by omega)]
  omega
end Go.Proofs.Ytfjolephpghafaa.AW
