/- A part of the proof: LA/A, LA/B, LA/C, LA/D, LA/E, LA/F, LA/G, LA/H, LA/I, LA/J. -/
import Derived.Test.YtkokaflanlcojaaDoorProg
import Derived.Test.YtkokaflanlcojaaDoorP5
open Go Go.Proofs.YtkokaflanlcojaaDoor.AW Go.Proofs
namespace Go.Proofs.YtkokaflanlcojaaDoor.AW
set_option maxRecDepth 100000
set_option linter.unusedVariables false

def ii (n : Int) : PV := .int .i64 n
def uu (n : Nat) : PV := .int .u64 (n : Int)

def lenTab : List UInt8 := ((([0, 1, 2, 2, 3, 3, 3, 3, 4, 4, 4, 4, 4, 4, 4, 4, 5, 5, 5, 5, 5, 5, 5, 5, 5, 5, 5, 5, 5, 5, 5, 5, 6, 6, 6, 6, 6, 6, 6, 6, 6, 6, 6, 6, 6, 6, 6, 6, 6, 6, 6, 6, 6, 6, 6, 6, 6, 6, 6, 6, 6, 6, 6, 6] : List UInt8).append [7, 7, 7, 7, 7, 7, 7, 7, 7, 7, 7, 7, 7, 7, 7, 7, 7, 7, 7, 7, 7, 7, 7, 7, 7, 7, 7, 7, 7, 7, 7, 7, 7, 7, 7, 7, 7, 7, 7, 7, 7, 7, 7, 7, 7, 7, 7, 7, 7, 7, 7, 7, 7, 7, 7, 7, 7, 7, 7, 7, 7, 7, 7, 7]).append (([8, 8, 8, 8, 8, 8, 8, 8, 8, 8, 8, 8, 8, 8, 8, 8, 8, 8, 8, 8, 8, 8, 8, 8, 8, 8, 8, 8, 8, 8, 8, 8, 8, 8, 8, 8, 8, 8, 8, 8, 8, 8, 8, 8, 8, 8, 8, 8, 8, 8, 8, 8, 8, 8, 8, 8, 8, 8, 8, 8, 8, 8, 8, 8] : List UInt8).append [8, 8, 8, 8, 8, 8, 8, 8, 8, 8, 8, 8, 8, 8, 8, 8, 8, 8, 8, 8, 8, 8, 8, 8, 8, 8, 8, 8, 8, 8, 8, 8, 8, 8, 8, 8, 8, 8, 8, 8, 8, 8, 8, 8, 8, 8, 8, 8, 8, 8, 8, 8, 8, 8, 8, 8, 8, 8, 8, 8, 8, 8, 8, 8]))
theorem lenTab_ok : ∀ x, x < 256 → ∃ m, m ≤ 8 ∧ lenTab[x]? = some (UInt8.ofNat m) ∧ x < 2 ^ m ∧ (x = 0 ∨ 2 ^ (m - 1) ≤ x) := by decide +kernel
theorem fd (x k : Nat) (y : Int) (j : Nat) (hy : y = (j : Int)) (hj : j ≤ 64) : Int.fdiv (x : Int) (2 ^ min y.toNat IntKind.u64.bits) = ((x / 2 ^ j : Nat) : Int) := by
  subst hy
  have e : min (Int.toNat (j : Int)) IntKind.u64.bits = j := by simp [IntKind.bits]; omega
  rw [e, Int.fdiv_eq_ediv_of_nonneg _ (by exact_mod_cast Nat.zero_le _)]
  norm_cast
theorem len_fin {x n m : Nat} (h1 : x / 2 ^ n < 2 ^ m) (h2 : x / 2 ^ n = 0 ∨ 2 ^ (m - 1) ≤ x / 2 ^ n) (hn : n = 0 ∨ 1 ≤ x / 2 ^ n) : x < 2 ^ (n + m) ∧ (x = 0 ∨ 2 ^ (n + m - 1) ≤ x) := by
  have hp : 0 < 2 ^ n := Nat.two_pow_pos n
  constructor
  · rw [Nat.pow_add, Nat.mul_comm]; exact (Nat.div_lt_iff_lt_mul hp).1 h1
  · rcases h2 with h2 | h2
    · rcases hn with rfl | hn
      · left; simpa using h2
      · omega
    · cases m with
      | zero =>
        have e1 : (2 : Nat) ^ (0 - 1) = 1 := rfl
        have e2 : (2 : Nat) ^ 0 = 1 := rfl
        omega
      | succ m =>
        right
        have : 2 ^ m * 2 ^ n ≤ x := (Nat.le_div_iff_mul_le hp).1 h2
        rw [show n + (m + 1) - 1 = m + n by omega, Nat.pow_add]; exact this

theorem len_sum0 {m : Nat} (hm : m ≤ 8) : IntKind.i64.wrap (0 + IntKind.i64.wrap ((UInt8.ofNat m).toNat : Int)) = ((0 + m : Nat) : Int) := by
  have : (UInt8.ofNat m).toNat = m := by simp; omega
  rw [this]; simp only [IntKind.wrap_i64]; omega
theorem len_sum8 {m : Nat} (hm : m ≤ 8) : IntKind.i64.wrap (IntKind.i64.wrap (0 + 8) + IntKind.i64.wrap ((UInt8.ofNat m).toNat : Int)) = ((8 + m : Nat) : Int) := by
  have : (UInt8.ofNat m).toNat = m := by simp; omega
  rw [this]; simp only [IntKind.wrap_i64]; omega
theorem len_sum16 {m : Nat} (hm : m ≤ 8) : IntKind.i64.wrap (IntKind.i64.wrap (0 + 16) + IntKind.i64.wrap ((UInt8.ofNat m).toNat : Int)) = ((16 + m : Nat) : Int) := by
  have : (UInt8.ofNat m).toNat = m := by simp; omega
  rw [this]; simp only [IntKind.wrap_i64]; omega
theorem len_sum24 {m : Nat} (hm : m ≤ 8) : IntKind.i64.wrap (IntKind.i64.wrap (IntKind.i64.wrap (0 + 16) + 8) + IntKind.i64.wrap ((UInt8.ofNat m).toNat : Int)) = ((24 + m : Nat) : Int) := by
  have : (UInt8.ofNat m).toNat = m := by simp; omega
  rw [this]; simp only [IntKind.wrap_i64]; omega
theorem len_sum32 {m : Nat} (hm : m ≤ 8) : IntKind.i64.wrap (32 + IntKind.i64.wrap ((UInt8.ofNat m).toNat : Int)) = ((32 + m : Nat) : Int) := by
  have : (UInt8.ofNat m).toNat = m := by simp; omega
  rw [this]; simp only [IntKind.wrap_i64]; omega
theorem len_sum40 {m : Nat} (hm : m ≤ 8) : IntKind.i64.wrap (IntKind.i64.wrap (32 + 8) + IntKind.i64.wrap ((UInt8.ofNat m).toNat : Int)) = ((40 + m : Nat) : Int) := by
  have : (UInt8.ofNat m).toNat = m := by simp; omega
  rw [this]; simp only [IntKind.wrap_i64]; omega
theorem len_sum48 {m : Nat} (hm : m ≤ 8) : IntKind.i64.wrap (IntKind.i64.wrap (32 + 16) + IntKind.i64.wrap ((UInt8.ofNat m).toNat : Int)) = ((48 + m : Nat) : Int) := by
  have : (UInt8.ofNat m).toNat = m := by simp; omega
  rw [this]; simp only [IntKind.wrap_i64]; omega
theorem len_sum56 {m : Nat} (hm : m ≤ 8) : IntKind.i64.wrap (IntKind.i64.wrap (IntKind.i64.wrap (32 + 16) + 8) + IntKind.i64.wrap ((UInt8.ofNat m).toNat : Int)) = ((56 + m : Nat) : Int) := by
  have : (UInt8.ofNat m).toNat = m := by simp; omega
  rw [this]; simp only [IntKind.wrap_i64]; omega
theorem len64_c (x : Nat) (hx : x < 18446744073709551616) (s : Store) (K : AV → Store → Prop) (h : ∀ L : Nat, L ≤ 64 → x < 2 ^ L → (x = 0 ∨ 2 ^ (L - 1) ≤ x) → K (.p (ii L)) s) : Cal Tryd.prog 92 [.p (uu x)] s K := by
  refine Cal.pure (args := [uu x]) ?_
  refine Cal.intro Tryd.func92 (by decide +kernel) rfl rfl ?_
  refine Br.mk (fun c0 => Ob.mk (by decide) ?_) (fun c0 => ?_)
  · have c0 : 4294967296 ≤ x := by simp at c0; omega
    refine Br.mk (fun c1 => Ob.mk (by decide) ?_) (fun c1 => ?_)
    · have c1 : 65536 ≤ (x) / 2 ^ 32 := by rw [fd (x) 0 32 32 rfl (by omega)] at c1; simp at c1; omega
      refine Br.mk (fun c2 => Ob.mk (by decide) ?_) (fun c2 => ?_)
      · have c2 : 256 ≤ ((x) / 2 ^ 32) / 2 ^ 16 := by rw [fd (x) 0 32 32 rfl (by omega), fd ((x) / 2 ^ 32) 0 16 16 rfl (by omega)] at c2; simp at c2; omega
        have hlt : (((x) / 2 ^ 32) / 2 ^ 16) / 2 ^ 8 < 256 := by omega
        obtain ⟨m, hm, hg, h1, h2⟩ := lenTab_ok ((((x) / 2 ^ 32) / 2 ^ 16) / 2 ^ 8) hlt
        have hw8 : IntKind.u8.wrap (((((x) / 2 ^ 32) / 2 ^ 16) / 2 ^ 8 : Nat) : Int) = (((((x) / 2 ^ 32) / 2 ^ 16) / 2 ^ 8 : Nat) : Int) := by rw [IntKind.wrap_u8]; omega
        refine IdxB.mk (UInt8.ofNat m) (by rw [fd (x) 0 32 32 rfl (by omega), fd ((x) / 2 ^ 32) 0 16 16 rfl (by omega), fd (((x) / 2 ^ 32) / 2 ^ 16) 0 8 8 rfl (by omega), hw8]; omega) (by rw [fd (x) 0 32 32 rfl (by omega), fd ((x) / 2 ^ 32) 0 16 16 rfl (by omega), fd (((x) / 2 ^ 32) / 2 ^ 16) 0 8 8 rfl (by omega), hw8]; exact hg) ?_
        have hf := len_fin (x := x) (n := 56) (m := m) (by simpa [Nat.div_div_eq_div_mul] using h1) (by simpa [Nat.div_div_eq_div_mul] using h2) (by omega)
        have := h (56 + m) (by omega) hf.1 hf.2
        rw [← len_sum56 hm] at this
        exact this
      · have c2 : ((x) / 2 ^ 32) / 2 ^ 16 < 256 := by rw [fd (x) 0 32 32 rfl (by omega), fd ((x) / 2 ^ 32) 0 16 16 rfl (by omega)] at c2; simp at c2; omega
        have hlt : ((x) / 2 ^ 32) / 2 ^ 16 < 256 := by omega
        obtain ⟨m, hm, hg, h1, h2⟩ := lenTab_ok (((x) / 2 ^ 32) / 2 ^ 16) hlt
        have hw8 : IntKind.u8.wrap ((((x) / 2 ^ 32) / 2 ^ 16 : Nat) : Int) = ((((x) / 2 ^ 32) / 2 ^ 16 : Nat) : Int) := by rw [IntKind.wrap_u8]; omega
        refine IdxB.mk (UInt8.ofNat m) (by rw [fd (x) 0 32 32 rfl (by omega), fd ((x) / 2 ^ 32) 0 16 16 rfl (by omega), hw8]; omega) (by rw [fd (x) 0 32 32 rfl (by omega), fd ((x) / 2 ^ 32) 0 16 16 rfl (by omega), hw8]; exact hg) ?_
        have hf := len_fin (x := x) (n := 48) (m := m) (by simpa [Nat.div_div_eq_div_mul] using h1) (by simpa [Nat.div_div_eq_div_mul] using h2) (by omega)
        have := h (48 + m) (by omega) hf.1 hf.2
        rw [← len_sum48 hm] at this
        exact this
    · have c1 : (x) / 2 ^ 32 < 65536 := by rw [fd (x) 0 32 32 rfl (by omega)] at c1; simp at c1; omega
      refine Br.mk (fun c2 => Ob.mk (by decide) ?_) (fun c2 => ?_)
      · have c2 : 256 ≤ (x) / 2 ^ 32 := by rw [fd (x) 0 32 32 rfl (by omega)] at c2; simp at c2; omega
        have hlt : ((x) / 2 ^ 32) / 2 ^ 8 < 256 := by omega
        obtain ⟨m, hm, hg, h1, h2⟩ := lenTab_ok (((x) / 2 ^ 32) / 2 ^ 8) hlt
        have hw8 : IntKind.u8.wrap ((((x) / 2 ^ 32) / 2 ^ 8 : Nat) : Int) = ((((x) / 2 ^ 32) / 2 ^ 8 : Nat) : Int) := by rw [IntKind.wrap_u8]; omega
        refine IdxB.mk (UInt8.ofNat m) (by rw [fd (x) 0 32 32 rfl (by omega), fd ((x) / 2 ^ 32) 0 8 8 rfl (by omega), hw8]; omega) (by rw [fd (x) 0 32 32 rfl (by omega), fd ((x) / 2 ^ 32) 0 8 8 rfl (by omega), hw8]; exact hg) ?_
        have hf := len_fin (x := x) (n := 40) (m := m) (by simpa [Nat.div_div_eq_div_mul] using h1) (by simpa [Nat.div_div_eq_div_mul] using h2) (by omega)
        have := h (40 + m) (by omega) hf.1 hf.2
        rw [← len_sum40 hm] at this
        exact this
      · have c2 : (x) / 2 ^ 32 < 256 := by rw [fd (x) 0 32 32 rfl (by omega)] at c2; simp at c2; omega
        have hlt : (x) / 2 ^ 32 < 256 := by omega
        obtain ⟨m, hm, hg, h1, h2⟩ := lenTab_ok ((x) / 2 ^ 32) hlt
        have hw8 : IntKind.u8.wrap (((x) / 2 ^ 32 : Nat) : Int) = (((x) / 2 ^ 32 : Nat) : Int) := by rw [IntKind.wrap_u8]; omega
        refine IdxB.mk (UInt8.ofNat m) (by rw [fd (x) 0 32 32 rfl (by omega), hw8]; omega) (by rw [fd (x) 0 32 32 rfl (by omega), hw8]; exact hg) ?_
        have hf := len_fin (x := x) (n := 32) (m := m) (by simpa [Nat.div_div_eq_div_mul] using h1) (by simpa [Nat.div_div_eq_div_mul] using h2) (by omega)
        have := h (32 + m) (by omega) hf.1 hf.2
        rw [← len_sum32 hm] at this
        exact this
  · have c0 : x < 4294967296 := by simp at c0; omega
    refine Br.mk (fun c1 => Ob.mk (by decide) ?_) (fun c1 => ?_)
    · have c1 : 65536 ≤ x := by simp at c1; omega
      refine Br.mk (fun c2 => Ob.mk (by decide) ?_) (fun c2 => ?_)
      · have c2 : 256 ≤ (x) / 2 ^ 16 := by rw [fd (x) 0 16 16 rfl (by omega)] at c2; simp at c2; omega
        have hlt : ((x) / 2 ^ 16) / 2 ^ 8 < 256 := by omega
        obtain ⟨m, hm, hg, h1, h2⟩ := lenTab_ok (((x) / 2 ^ 16) / 2 ^ 8) hlt
        have hw8 : IntKind.u8.wrap ((((x) / 2 ^ 16) / 2 ^ 8 : Nat) : Int) = ((((x) / 2 ^ 16) / 2 ^ 8 : Nat) : Int) := by rw [IntKind.wrap_u8]; omega
        refine IdxB.mk (UInt8.ofNat m) (by rw [fd (x) 0 16 16 rfl (by omega), fd ((x) / 2 ^ 16) 0 8 8 rfl (by omega), hw8]; omega) (by rw [fd (x) 0 16 16 rfl (by omega), fd ((x) / 2 ^ 16) 0 8 8 rfl (by omega), hw8]; exact hg) ?_
        have hf := len_fin (x := x) (n := 24) (m := m) (by simpa [Nat.div_div_eq_div_mul] using h1) (by simpa [Nat.div_div_eq_div_mul] using h2) (by omega)
        have := h (24 + m) (by omega) hf.1 hf.2
        rw [← len_sum24 hm] at this
        exact this
      · have c2 : (x) / 2 ^ 16 < 256 := by rw [fd (x) 0 16 16 rfl (by omega)] at c2; simp at c2; omega
        have hlt : (x) / 2 ^ 16 < 256 := by omega
        obtain ⟨m, hm, hg, h1, h2⟩ := lenTab_ok ((x) / 2 ^ 16) hlt
        have hw8 : IntKind.u8.wrap (((x) / 2 ^ 16 : Nat) : Int) = (((x) / 2 ^ 16 : Nat) : Int) := by rw [IntKind.wrap_u8]; omega
        refine IdxB.mk (UInt8.ofNat m) (by rw [fd (x) 0 16 16 rfl (by omega), hw8]; omega) (by rw [fd (x) 0 16 16 rfl (by omega), hw8]; exact hg) ?_
        have hf := len_fin (x := x) (n := 16) (m := m) (by simpa [Nat.div_div_eq_div_mul] using h1) (by simpa [Nat.div_div_eq_div_mul] using h2) (by omega)
        have := h (16 + m) (by omega) hf.1 hf.2
        rw [← len_sum16 hm] at this
        exact this
    · have c1 : x < 65536 := by simp at c1; omega
      refine Br.mk (fun c2 => Ob.mk (by decide) ?_) (fun c2 => ?_)
      · have c2 : 256 ≤ x := by simp at c2; omega
        have hlt : (x) / 2 ^ 8 < 256 := by omega
        obtain ⟨m, hm, hg, h1, h2⟩ := lenTab_ok ((x) / 2 ^ 8) hlt
        have hw8 : IntKind.u8.wrap (((x) / 2 ^ 8 : Nat) : Int) = (((x) / 2 ^ 8 : Nat) : Int) := by rw [IntKind.wrap_u8]; omega
        refine IdxB.mk (UInt8.ofNat m) (by rw [fd (x) 0 8 8 rfl (by omega), hw8]; omega) (by rw [fd (x) 0 8 8 rfl (by omega), hw8]; exact hg) ?_
        have hf := len_fin (x := x) (n := 8) (m := m) (by simpa [Nat.div_div_eq_div_mul] using h1) (by simpa [Nat.div_div_eq_div_mul] using h2) (by omega)
        have := h (8 + m) (by omega) hf.1 hf.2
        rw [← len_sum8 hm] at this
        exact this
      · have c2 : x < 256 := by simp at c2; omega
        have hlt : x < 256 := by omega
        obtain ⟨m, hm, hg, h1, h2⟩ := lenTab_ok (x) hlt
        have hw8 : IntKind.u8.wrap ((x : Nat) : Int) = ((x : Nat) : Int) := by rw [IntKind.wrap_u8]; omega
        refine IdxB.mk (UInt8.ofNat m) (by rw [hw8]; omega) (by rw [hw8]; exact hg) ?_
        have hf := len_fin (x := x) (n := 0) (m := m) (by simpa [Nat.div_div_eq_div_mul] using h1) (by simpa [Nat.div_div_eq_div_mul] using h2) (by omega)
        have := h (0 + m) (by omega) hf.1 hf.2
        rw [← len_sum0 hm] at this
        exact this
end Go.Proofs.YtkokaflanlcojaaDoor.AW

open Go Go.Proofs.YtkokaflanlcojaaDoor.AW Go.Proofs
namespace Go.Proofs.YtkokaflanlcojaaDoor.AW
set_option maxRecDepth 100000

def pow10 : List PV := (List.range 20).map fun i => .int .u64 ((10 : Int) ^ i)
theorem gl0 : glob Tryd.prog 1 = some pow10 := by kernel_rfl

theorem pow_get {t : Nat} (h : t < 20) : pow10[(t : Int).toNat]? = some (.int .u64 ((10 ^ t : Nat) : Int)) := by
  unfold pow10
  simp [h]
theorem pow_fits : ∀ L, L ≤ 64 → L * 78913 / 262144 < 20 ∧ 2 ^ L ≤ 10 ^ (L * 78913 / 262144 + 1) ∧ (L * 78913 / 262144 = 0 ∨ 10 ^ (L * 78913 / 262144 - 1) ≤ 2 ^ (L - 1)) := by decide +kernel

theorem log10_c (L : Nat) (hL : L ≤ 64) (s : Store) (K : AV → Store → Prop) (h : K (.p (ii (L * 78913 / 262144 : Nat))) s) : Cal Tryd.prog 91 [.p (ii L)] s K := by
  refine Cal.pure (args := [ii L]) ?_
  refine Cal.intro Tryd.func91 (by decide +kernel) rfl rfl ?_
  refine Ob.mk (by decide) ?_
  have e : Int.fdiv (IntKind.i64.wrap ((L : Int) * 78913)) (2 ^ min (18 : Int).toNat IntKind.i64.bits) = ((L * 78913 / 262144 : Nat) : Int) := by
    rw [wrap_i64 (by omega) (by omega)]
    have e2 : (2 : Int) ^ min (18 : Int).toNat IntKind.i64.bits = 262144 := by decide
    rw [e2, Int.fdiv_eq_ediv_of_nonneg _ (by omega)]
    omega
  rw [← e] at h
  exact h

theorem bool2_c (b : Bool) (s : Store) (K : AV → Store → Prop) (h : K (.p (ii (if b then 1 else 0))) s) : Cal Tryd.prog 93 [.p (.bool b)] s K := by
  refine Cal.pure (args := [.bool b]) ?_
  refine Cal.intro Tryd.func93 (by decide +kernel) rfl rfl ?_
  cases b with
  | true => exact Br.t rfl h
  | false => exact Br.f rfl h

theorem digit_count {u L t : Nat} (hu : u < 18446744073709551616) (h1 : 1 ≤ u) (hlt : u < 2 ^ L) (hge : u = 0 ∨ 2 ^ (L - 1) ≤ u) (p2 : 2 ^ L ≤ 10 ^ (t + 1)) (p3 : t = 0 ∨ 10 ^ (t - 1) ≤ 2 ^ (L - 1)) :
    (10 ^ t ≤ u → u < 10 ^ (t + 1) ∧ 10 ^ t ≤ u) ∧ (u < 10 ^ t → 1 ≤ t ∧ (t = 1 ∨ 10 ^ (t - 1) ≤ u)) := by
  refine ⟨fun h => ⟨by omega, h⟩, fun h => ?_⟩
  have ht : 1 ≤ t := by
    rcases Nat.eq_zero_or_pos t with rfl | h
    · simp at h; omega
    · exact h
  refine ⟨ht, .inr ?_⟩
  rcases p3 with p3 | p3
  · omega
  · omega
theorem numDigits_c (u : Nat) (hu : u < 18446744073709551616) (h1 : 1 ≤ u) (s : Store) (K : AV → Store → Prop) (h : ∀ nd : Nat, 1 ≤ nd → nd ≤ 20 → u < 10 ^ nd → (nd = 1 ∨ 10 ^ (nd - 1) ≤ u) → K (.p (ii nd)) s) : Cal Tryd.prog 76 [.p (uu u)] s K := by
  refine Cal.pure (args := [uu u]) ?_
  refine Cal.intro Tryd.func76 (by decide +kernel) rfl rfl ?_
  refine len64_c u hu _ _ fun L hL hlt hge => ?_
  refine log10_c L hL _ _ ?_
  obtain ⟨p1, p2, p3⟩ := pow_fits L hL
  have hc := digit_count hu h1 hlt hge p2 p3
  refine ⟨pow10, gl0, Ob.mk (by omega) (Idx.mk _ (by omega) (pow_get p1) ?_)⟩
  refine bool2_c _ _ _ ?_
  by_cases hd : 10 ^ (L * 78913 / 262144) ≤ u
  · obtain ⟨q1, q2⟩ := hc.1 hd
    have e0 : decide ((u : Int) ≥ ((10 ^ (L * 78913 / 262144) : Nat) : Int)) = true := by simp; exact_mod_cast hd
    have e : IntKind.i64.wrap (((L * 78913 / 262144 : Nat) : Int) + (if decide ((u : Int) ≥ ((10 ^ (L * 78913 / 262144) : Nat) : Int)) = true then 1 else 0)) = ((L * 78913 / 262144 + 1 : Nat) : Int) := by
      rw [if_pos e0, wrap_i64 (by omega) (by omega)]; omega
    have := h (L * 78913 / 262144 + 1) (by omega) (by omega) q1 (.inr (by simpa using q2))
    rw [← e] at this
    exact this
  · have hd' : u < 10 ^ (L * 78913 / 262144) := by omega
    obtain ⟨q1, q2⟩ := hc.2 hd'
    have e0 : ¬ decide ((u : Int) ≥ ((10 ^ (L * 78913 / 262144) : Nat) : Int)) = true := by
      rw [decide_eq_true_eq]
      intro hh
      have : 10 ^ (L * 78913 / 262144) ≤ u := by exact_mod_cast hh
      omega
    have e : IntKind.i64.wrap (((L * 78913 / 262144 : Nat) : Int) + (if decide ((u : Int) ≥ ((10 ^ (L * 78913 / 262144) : Nat) : Int)) = true then 1 else 0)) = ((L * 78913 / 262144 : Nat) : Int) := by
      rw [if_neg e0, wrap_i64 (by omega) (by omega)]; omega
    have := h (L * 78913 / 262144) q1 (by omega) hd' q2
    rw [← e] at this
    exact this
end Go.Proofs.YtkokaflanlcojaaDoor.AW

open Go Go.Proofs.YtkokaflanlcojaaDoor.AW Go.Proofs
namespace Go.Proofs.YtkokaflanlcojaaDoor.AW
set_option maxRecDepth 100000
set_option linter.unusedVariables false
set_option linter.unusedSimpArgs false

def twoTab : List UInt8 := ((([48, 48, 48, 49, 48, 50, 48, 51, 48, 52, 48, 53, 48, 54, 48, 55, 48, 56, 48, 57, 49, 48, 49, 49, 49, 50, 49, 51, 49, 52, 49, 53, 49, 54, 49, 55, 49, 56, 49, 57, 50, 48, 50, 49, 50, 50, 50, 51, 50, 52] : List UInt8).append [50, 53, 50, 54, 50, 55, 50, 56, 50, 57, 51, 48, 51, 49, 51, 50, 51, 51, 51, 52, 51, 53, 51, 54, 51, 55, 51, 56, 51, 57, 52, 48, 52, 49, 52, 50, 52, 51, 52, 52, 52, 53, 52, 54, 52, 55, 52, 56, 52, 57]).append (([53, 48, 53, 49, 53, 50, 53, 51, 53, 52, 53, 53, 53, 54, 53, 55, 53, 56, 53, 57, 54, 48, 54, 49, 54, 50, 54, 51, 54, 52, 54, 53, 54, 54, 54, 55, 54, 56, 54, 57, 55, 48, 55, 49, 55, 50, 55, 51, 55, 52] : List UInt8).append [55, 53, 55, 54, 55, 55, 55, 56, 55, 57, 56, 48, 56, 49, 56, 50, 56, 51, 56, 52, 56, 53, 56, 54, 56, 55, 56, 56, 56, 57, 57, 48, 57, 49, 57, 50, 57, 51, 57, 52, 57, 53, 57, 54, 57, 55, 57, 56, 57, 57]))
theorem two_even : ∀ k, k < 100 → twoTab[k * 2]? = some (UInt8.ofNat (48 + k / 10)) := by decide +kernel
theorem two_odd : ∀ k, k < 100 → twoTab[k * 2 + 1]? = some (UInt8.ofNat (48 + k % 10)) := by decide +kernel

/-- The k-th digit of a number. -/
def dg (U k : Nat) : PV := .int .u8 ((UInt8.ofNat (48 + U / 10 ^ k % 10)).toNat : Int)

theorem q8 {a : Nat} (h : a < 18446744073709551616) : IntKind.u64.wrap (Int.tdiv (a : Int) 100000000) = ((a / 100000000 : Nat) : Int) := by
  rw [Int.tdiv_eq_ediv_of_nonneg (by omega), IntKind.wrap_u64]; omega
theorem r8 (a : Nat) : Int.tmod (a : Int) 100000000 = ((a % 100000000 : Nat) : Int) := by rw [Int.tmod_eq_emod_of_nonneg (by omega)]; omega
theorem q4 {a : Nat} (h : a < 4294967296) : IntKind.u32.wrap (Int.tdiv (a : Int) 10000) = ((a / 10000 : Nat) : Int) := by
  rw [Int.tdiv_eq_ediv_of_nonneg (by omega), IntKind.wrap_u32]; omega
theorem r4 (a : Nat) : Int.tmod (a : Int) 10000 = ((a % 10000 : Nat) : Int) := by rw [Int.tmod_eq_emod_of_nonneg (by omega)]; omega
theorem q2 {a : Nat} (h : a < 4294967296) : IntKind.u32.wrap (Int.tdiv (a : Int) 100) = ((a / 100 : Nat) : Int) := by
  rw [Int.tdiv_eq_ediv_of_nonneg (by omega), IntKind.wrap_u32]; omega
theorem r2 (a : Nat) : Int.tmod (a : Int) 100 = ((a % 100 : Nat) : Int) := by rw [Int.tmod_eq_emod_of_nonneg (by omega)]; omega
theorem m2 {a : Nat} (h : a < 2147483648) : IntKind.u32.wrap ((a : Int) * 2) = ((a * 2 : Nat) : Int) := by rw [IntKind.wrap_u32]; omega
theorem a1 {a : Nat} (h : a < 4294967295) : IntKind.u32.wrap ((a : Int) + 1) = ((a + 1 : Nat) : Int) := by rw [IntKind.wrap_u32]; omega
theorem c32 {a : Nat} (h : a < 4294967296) : IntKind.u32.wrap (a : Int) = ((a : Nat) : Int) := by rw [IntKind.wrap_u32]; omega
theorem s64 {a k : Nat} {j : Int} (hj : j = (k : Int)) (h : k ≤ a) (h2 : a < 1000000) : IntKind.i64.wrap ((a : Int) - j) = ((a - k : Nat) : Int) := by subst hj; rw [wrap_i64] <;> omega

def bt (n : Nat) : PV := .int .u8 ((UInt8.ofNat (48 + n)).toNat : Int)
/-- Two digits, written at nd - 1 and nd - 2 (behind the first place). -/
def put2 (B : List PV) (i k : Nat) : List PV := (B.set (1 + i) (bt (k % 10))).set (1 + (i - 1)) (bt (k / 10))
theorem put2_len (B : List PV) (i k : Nat) : (put2 B i k).length = B.length := by simp [put2]
theorem put2_get {B : List PV} {i k j : Nat} (hi : 1 ≤ i) (hl : 1 + i < B.length) : (put2 B i k)[j]? = if j = 1 + i then some (bt (k % 10)) else if j = i then some (bt (k / 10)) else B[j]? := by
  unfold put2
  rw [List.getElem?_set, List.getElem?_set]
  by_cases h1 : j = 1 + i
  · subst h1; rw [if_neg (by omega), if_pos rfl, if_pos hl, if_pos rfl]
  · by_cases h2 : j = i
    · subst h2; rw [if_pos (by omega), if_neg h1, if_pos rfl, if_pos (by rw [List.length_set]; omega)]
    · rw [if_neg (by omega), if_neg (by omega), if_neg h1, if_neg h2]

/-- What is written so far: of len digits the last ones, but for nd. -/
structure Wr (xs : List PV) (U len nd u : Nat) (B : List PV) : Prop where
  le : nd ≤ len
  u : u = U / 10 ^ (len - nd)
  len24 : B.length = 24
  done : ∀ i, nd < i → i ≤ len → B[i]? = some (dg U (len - i))
  rest : ∀ i, i = 0 ∨ len < i → B[i]? = xs[i]?

theorem dg_of {U len nd u i r : Nat} (hu : u = U / 10 ^ (len - nd)) (hl : nd ≤ len) (hi : i + r = nd) : dg U (len - i) = bt (u / 10 ^ r % 10) := by
  unfold dg bt
  subst hu
  rw [Nat.div_div_eq_div_mul, ← Nat.pow_add, show len - nd + r = len - i by omega]

theorem Wr.step2 {xs : List PV} {U len nd u : Nat} {B : List PV} (h : Wr xs U len nd u B) (hlen : len ≤ 20) (h2 : 2 ≤ nd) : Wr xs U len (nd - 2) (u / 100) (put2 B (nd - 1) (u % 100)) := by
  have hl := h.le
  refine ⟨by omega, ?_, by rw [put2_len]; exact h.len24, fun i h3 h4 => ?_, fun i h3 => ?_⟩
  · rw [h.u, Nat.div_div_eq_div_mul, show (100 : Nat) = 10 ^ 2 from rfl, ← Nat.pow_add, show len - nd + 2 = len - (nd - 2) by omega]
  · rw [put2_get (by omega) (by rw [h.len24]; omega)]
    by_cases e1 : i = nd
    · rw [if_pos (by omega), dg_of (i := i) (r := 0) h.u hl (by omega)]
      congr 2; simp
    · by_cases e2 : i = nd - 1
      · rw [if_neg (by omega), if_pos e2, dg_of (i := i) (r := 1) h.u hl (by omega)]
        congr 2; simp; omega
      · rw [if_neg (by omega), if_neg e2]; exact h.done i (by omega) h4
  · rw [put2_get (by omega) (by rw [h.len24]; omega), if_neg (by omega), if_neg (by omega)]; exact h.rest i h3

theorem Wr.step1 {xs : List PV} {U len u : Nat} {B : List PV} (h : Wr xs U len 1 u B) (hlen : len ≤ 20) (hu : u < 10) : Wr xs U len 0 0 (B.set 1 (bt u)) := by
  have hl := h.le
  refine ⟨by omega, ?_, by simp [h.len24], fun i h3 h4 => ?_, fun i h3 => ?_⟩
  · have := h.u
    have e : 10 ^ (len - 0) = 10 ^ (len - 1) * 10 := by rw [← Nat.pow_succ]; congr 1; omega
    rw [e, ← Nat.div_div_eq_div_mul, ← this]; omega
  · by_cases e1 : i = 1
    · subst e1
      rw [List.getElem?_set_self (by rw [h.len24]; omega), dg_of (i := 1) (r := 0) h.u hl (by omega)]
      congr 2; simp; omega
    · rw [List.getElem?_set_ne (by omega)]; exact h.done i (by omega) h4
  · rw [List.getElem?_set_ne (by omega)]; exact h.rest i h3

theorem base10_c (xs : List PV) (hxs : xs.length = 24) (U len : Nat) (hU : U < 10 ^ len) (hlen : len ≤ 20) (hU64 : U < 18446744073709551616) (K : AV → Store → Prop)
    (h : ∀ B : List PV, B.length = 24 → (∀ i, 0 < i → i ≤ len → B[i]? = some (dg U (len - i))) → (∀ i, i = 0 ∨ len < i → B[i]? = xs[i]?) → K (.tup []) [some (.buf 1 B)]) :
    Cal Tryd.prog 77 [.osl 0 24 1 len, .p (uu U)] [some (.buf 1 xs)] K := by
  refine Cal.intro Tryd.func77 (by decide +kernel) rfl rfl ?_
  refine LoopX.fam [0, 1, 4] (fun (q : Nat × Nat × List PV) => ([(0, .osl 0 24 1 len), (1, .p (uu q.2.1)), (4, .p (ii q.1))], [some (.buf 1 q.2.2)]))
    (fun q => Wr xs U len q.1 q.2.1 q.2.2 ∧ q.2.1 < 10 ^ q.1) (fun q => q.1) (len, U, xs) ⟨⟨Nat.le_refl _, by simp, hxs, fun i h1 h2 => by omega, fun _ _ => rfl⟩, hU⟩ (Trim.mk' rfl rfl rfl rfl (Nat.le_refl _)) ?_
  rintro ⟨nd, u, B⟩ ⟨hw, hu⟩
  have hw : Wr xs U len nd u B := hw
  have hu : u < 10 ^ nd := hu
  have hB := hw.len24
  have hle := hw.le
  have hu64 : u < 18446744073709551616 := by rw [hw.u]; exact Nat.lt_of_le_of_lt (Nat.div_le_self _ _) hU64
  refine Br.mk (fun c => ?_) (fun c => ?_)
  · have c : 8 ≤ nd := by simp at c; omega
    iterate 8 refine Ob.mk (by decide) ?_
    iterate 8 refine ⟨_, ⟨rfl, rfl⟩, ?_⟩
    refine ⟨_, IdxB.mk (UInt8.ofNat (48 + (u % 100000000 % 10000 % 100) % 10)) (by simp (disch := omega) only [q8, r8, c32, q4, r4, q2, r2, m2, a1]; omega) (by simp (disch := omega) only [q8, r8, c32, q4, r4, q2, r2, m2, a1]; exact two_odd (u % 100000000 % 10000 % 100) (by omega)) ⟨rfl, rfl⟩, ?_⟩
    refine ⟨_, ⟨rfl, rfl⟩, ?_⟩
    refine ⟨_, IdxB.mk (UInt8.ofNat (48 + (u % 100000000 % 10000 % 100) / 10)) (by simp (disch := omega) only [q8, r8, c32, q4, r4, q2, r2, m2, a1]; omega) (by simp (disch := omega) only [q8, r8, c32, q4, r4, q2, r2, m2, a1]; exact two_even (u % 100000000 % 10000 % 100) (by omega)) ⟨rfl, rfl⟩, ?_⟩
    refine ⟨_, Ob.mk ⟨by simp only [List.length_set]; exact hB, by rw [wrap_i64] <;> omega, by rw [wrap_i64] <;> omega⟩ ⟨rfl, rfl⟩, ?_⟩
    refine ⟨_, _, Ob.mk ⟨by simp only [List.length_set]; exact hB, by rw [wrap_i64] <;> omega⟩ ⟨rfl, rfl⟩, rfl, ?_⟩
    refine ⟨_, Ob.mk ⟨by simp only [List.length_set]; exact hB, by rw [wrap_i64] <;> omega, by rw [wrap_i64] <;> omega⟩ ⟨rfl, rfl⟩, ?_⟩
    refine ⟨_, _, Ob.mk ⟨by simp only [List.length_set]; exact hB, by rw [wrap_i64] <;> omega⟩ ⟨rfl, rfl⟩, rfl, ?_⟩
    refine Chk.mk (by kernel_rfl) ?_
    iterate 8 refine ⟨_, ⟨rfl, rfl⟩, ?_⟩
    refine ⟨_, IdxB.mk (UInt8.ofNat (48 + (u % 100000000 % 10000 / 100) % 10)) (by simp (disch := omega) only [q8, r8, c32, q4, r4, q2, r2, m2, a1]; omega) (by simp (disch := omega) only [q8, r8, c32, q4, r4, q2, r2, m2, a1]; exact two_odd (u % 100000000 % 10000 / 100) (by omega)) ⟨rfl, rfl⟩, ?_⟩
    refine ⟨_, ⟨rfl, rfl⟩, ?_⟩
    refine ⟨_, IdxB.mk (UInt8.ofNat (48 + (u % 100000000 % 10000 / 100) / 10)) (by simp (disch := omega) only [q8, r8, c32, q4, r4, q2, r2, m2, a1]; omega) (by simp (disch := omega) only [q8, r8, c32, q4, r4, q2, r2, m2, a1]; exact two_even (u % 100000000 % 10000 / 100) (by omega)) ⟨rfl, rfl⟩, ?_⟩
    refine ⟨_, Ob.mk ⟨by simp only [List.length_set]; exact hB, by rw [wrap_i64] <;> omega, by rw [wrap_i64] <;> omega⟩ ⟨rfl, rfl⟩, ?_⟩
    refine ⟨_, _, Ob.mk ⟨by simp only [List.length_set]; exact hB, by rw [wrap_i64] <;> omega⟩ ⟨rfl, rfl⟩, rfl, ?_⟩
    refine ⟨_, Ob.mk ⟨by simp only [List.length_set]; exact hB, by rw [wrap_i64] <;> omega, by rw [wrap_i64] <;> omega⟩ ⟨rfl, rfl⟩, ?_⟩
    refine ⟨_, _, Ob.mk ⟨by simp only [List.length_set]; exact hB, by rw [wrap_i64] <;> omega⟩ ⟨rfl, rfl⟩, rfl, ?_⟩
    refine Chk.mk (by kernel_rfl) ?_
    iterate 8 refine ⟨_, ⟨rfl, rfl⟩, ?_⟩
    refine ⟨_, IdxB.mk (UInt8.ofNat (48 + (u % 100000000 / 10000 % 100) % 10)) (by simp (disch := omega) only [q8, r8, c32, q4, r4, q2, r2, m2, a1]; omega) (by simp (disch := omega) only [q8, r8, c32, q4, r4, q2, r2, m2, a1]; exact two_odd (u % 100000000 / 10000 % 100) (by omega)) ⟨rfl, rfl⟩, ?_⟩
    refine ⟨_, ⟨rfl, rfl⟩, ?_⟩
    refine ⟨_, IdxB.mk (UInt8.ofNat (48 + (u % 100000000 / 10000 % 100) / 10)) (by simp (disch := omega) only [q8, r8, c32, q4, r4, q2, r2, m2, a1]; omega) (by simp (disch := omega) only [q8, r8, c32, q4, r4, q2, r2, m2, a1]; exact two_even (u % 100000000 / 10000 % 100) (by omega)) ⟨rfl, rfl⟩, ?_⟩
    refine ⟨_, Ob.mk ⟨by simp only [List.length_set]; exact hB, by rw [wrap_i64] <;> omega, by rw [wrap_i64] <;> omega⟩ ⟨rfl, rfl⟩, ?_⟩
    refine ⟨_, _, Ob.mk ⟨by simp only [List.length_set]; exact hB, by rw [wrap_i64] <;> omega⟩ ⟨rfl, rfl⟩, rfl, ?_⟩
    refine ⟨_, Ob.mk ⟨by simp only [List.length_set]; exact hB, by rw [wrap_i64] <;> omega, by rw [wrap_i64] <;> omega⟩ ⟨rfl, rfl⟩, ?_⟩
    refine ⟨_, _, Ob.mk ⟨by simp only [List.length_set]; exact hB, by rw [wrap_i64] <;> omega⟩ ⟨rfl, rfl⟩, rfl, ?_⟩
    refine Chk.mk (by kernel_rfl) ?_
    iterate 8 refine ⟨_, ⟨rfl, rfl⟩, ?_⟩
    refine ⟨_, IdxB.mk (UInt8.ofNat (48 + (u % 100000000 / 10000 / 100) % 10)) (by simp (disch := omega) only [q8, r8, c32, q4, r4, q2, r2, m2, a1]; omega) (by simp (disch := omega) only [q8, r8, c32, q4, r4, q2, r2, m2, a1]; exact two_odd (u % 100000000 / 10000 / 100) (by omega)) ⟨rfl, rfl⟩, ?_⟩
    refine ⟨_, ⟨rfl, rfl⟩, ?_⟩
    refine ⟨_, IdxB.mk (UInt8.ofNat (48 + (u % 100000000 / 10000 / 100) / 10)) (by simp (disch := omega) only [q8, r8, c32, q4, r4, q2, r2, m2, a1]; omega) (by simp (disch := omega) only [q8, r8, c32, q4, r4, q2, r2, m2, a1]; exact two_even (u % 100000000 / 10000 / 100) (by omega)) ⟨rfl, rfl⟩, ?_⟩
    refine ⟨_, Ob.mk ⟨by simp only [List.length_set]; exact hB, by rw [wrap_i64] <;> omega, by rw [wrap_i64] <;> omega⟩ ⟨rfl, rfl⟩, ?_⟩
    refine ⟨_, _, Ob.mk ⟨by simp only [List.length_set]; exact hB, by rw [wrap_i64] <;> omega⟩ ⟨rfl, rfl⟩, rfl, ?_⟩
    refine ⟨_, Ob.mk ⟨by simp only [List.length_set]; exact hB, by rw [wrap_i64] <;> omega, by rw [wrap_i64] <;> omega⟩ ⟨rfl, rfl⟩, ?_⟩
    refine ⟨_, _, Ob.mk ⟨by simp only [List.length_set]; exact hB, by rw [wrap_i64] <;> omega⟩ ⟨rfl, rfl⟩, rfl, ?_⟩
    refine Chk.mk (by kernel_rfl) ?_
    have hw1 := hw.step2 hlen (by omega)
    have hw2 := hw1.step2 hlen (by omega)
    have hw3 := hw2.step2 hlen (by omega)
    have hw4 := hw3.step2 hlen (by omega)
    have E1 : IntKind.u64.wrap (Int.tdiv (u : Int) 100000000) = ((u / 100 / 100 / 100 / 100 : Nat) : Int) := by rw [q8 hu64]; omega
    have E2 : IntKind.i64.wrap ((nd : Int) - 8) = ((nd - 2 - 2 - 2 - 2 : Nat) : Int) := by rw [wrap_i64] <;> omega
    have e1 : (IntKind.i64.wrap ((nd : Int) - 1)).toNat = nd - 1 := by rw [wrap_i64] <;> omega
    have e2 : (IntKind.i64.wrap ((nd : Int) - 2)).toNat = nd - 1 - 1 := by rw [wrap_i64] <;> omega
    have e3 : (IntKind.i64.wrap ((nd : Int) - 3)).toNat = nd - 2 - 1 := by rw [wrap_i64] <;> omega
    have e4 : (IntKind.i64.wrap ((nd : Int) - 4)).toNat = nd - 2 - 1 - 1 := by rw [wrap_i64] <;> omega
    have e5 : (IntKind.i64.wrap ((nd : Int) - 5)).toNat = nd - 2 - 2 - 1 := by rw [wrap_i64] <;> omega
    have e6 : (IntKind.i64.wrap ((nd : Int) - 6)).toNat = nd - 2 - 2 - 1 - 1 := by rw [wrap_i64] <;> omega
    have e7 : (IntKind.i64.wrap ((nd : Int) - 7)).toNat = nd - 2 - 2 - 2 - 1 := by rw [wrap_i64] <;> omega
    have e8 : (IntKind.i64.wrap ((nd : Int) - 8)).toNat = nd - 2 - 2 - 2 - 1 - 1 := by rw [wrap_i64] <;> omega
    have k0 : u % 100000000 % 10000 % 100 = u % 100 := by omega
    have k1 : u % 100000000 % 10000 / 100 = u / 100 % 100 := by omega
    have k2 : u % 100000000 / 10000 % 100 = u / 100 / 100 % 100 := by omega
    have k3 : u % 100000000 / 10000 / 100 = u / 100 / 100 / 100 % 100 := by omega
    refine ⟨(nd - 2 - 2 - 2 - 2, u / 100 / 100 / 100 / 100, _), ⟨hw4, ?_⟩, by show nd - 2 - 2 - 2 - 2 < nd; omega, Nat.le_refl _, Trim.mk' ?_ ?_ rfl rfl (Nat.le_refl _)⟩
    · show u / 100 / 100 / 100 / 100 < 10 ^ (nd - 2 - 2 - 2 - 2)
      have : 10 ^ nd = 10 ^ (nd - 2 - 2 - 2 - 2) * 100000000 := by rw [show (100000000 : Nat) = 10 ^ 8 from rfl, ← Nat.pow_add]; congr 1; omega
      rw [this] at hu
      omega
    · show [(0, AV.osl 0 24 1 len), (1, AV.p (.int .u64 (IntKind.u64.wrap (Int.tdiv (u : Int) 100000000)))), (4, AV.p (.int .i64 (IntKind.i64.wrap ((nd : Int) - 8))))] = _
      rw [E1, E2]; rfl
    · show [some (AObj.buf 1 (((((((((B).set (1 + (IntKind.i64.wrap ((nd : Int) - 1)).toNat) (.int .u8 ((UInt8.ofNat (48 + (u % 100000000 % 10000 % 100) % 10)).toNat : Int))).set (1 + (IntKind.i64.wrap ((nd : Int) - 2)).toNat) (.int .u8 ((UInt8.ofNat (48 + (u % 100000000 % 10000 % 100) / 10)).toNat : Int))).set (1 + (IntKind.i64.wrap ((nd : Int) - 3)).toNat) (.int .u8 ((UInt8.ofNat (48 + (u % 100000000 % 10000 / 100) % 10)).toNat : Int))).set (1 + (IntKind.i64.wrap ((nd : Int) - 4)).toNat) (.int .u8 ((UInt8.ofNat (48 + (u % 100000000 % 10000 / 100) / 10)).toNat : Int))).set (1 + (IntKind.i64.wrap ((nd : Int) - 5)).toNat) (.int .u8 ((UInt8.ofNat (48 + (u % 100000000 / 10000 % 100) % 10)).toNat : Int))).set (1 + (IntKind.i64.wrap ((nd : Int) - 6)).toNat) (.int .u8 ((UInt8.ofNat (48 + (u % 100000000 / 10000 % 100) / 10)).toNat : Int))).set (1 + (IntKind.i64.wrap ((nd : Int) - 7)).toNat) (.int .u8 ((UInt8.ofNat (48 + (u % 100000000 / 10000 / 100) % 10)).toNat : Int))).set (1 + (IntKind.i64.wrap ((nd : Int) - 8)).toNat) (.int .u8 ((UInt8.ofNat (48 + (u % 100000000 / 10000 / 100) / 10)).toNat : Int))))] = _
      rw [e1, e2, e3, e4, e5, e6, e7, e8, k0, k1, k2, k3]; rfl
  · have c : nd < 8 := by simp at c; omega
    have hv : nd = 0 ∨ nd = 1 ∨ nd = 2 ∨ nd = 3 ∨ nd = 4 ∨ nd = 5 ∨ nd = 6 ∨ nd = 7 := by omega
    rcases hv with rfl | rfl | rfl | rfl | rfl | rfl | rfl | rfl
    · have hu' : u < 1 := hu
      refine Br.f rfl ?_
      refine Br.f rfl ?_
      refine Br.f rfl ?_
      have fin := h _ hw.len24 hw.done hw.rest
      exact fin
    · have hu' : u < 10 := hu
      refine Br.f rfl ?_
      refine Br.f rfl ?_
      refine Br.t rfl ?_
      refine Ob.mk ⟨by simp only [List.length_set]; exact hB, by omega, by omega⟩ ?_
      refine Ob.mk ⟨by simp only [List.length_set]; exact hB, by decide⟩ ?_
      have wf := hw.step1 hlen (by omega)
      have fin := h _ wf.len24 wf.done wf.rest
      have hX : IntKind.u32.wrap (u : Int) = ((u : Nat) : Int) := by simp (disch := omega) only [c32, q4, q2]
      have hd : IntKind.u8.wrap (IntKind.u32.wrap (48 + IntKind.u32.wrap (u : Int))) = ((UInt8.ofNat (48 + u)).toNat : Int) := by
        have : (UInt8.ofNat (48 + u)).toNat = 48 + u := by simp; omega
        rw [this, hX, IntKind.wrap_u32, IntKind.wrap_u8]; omega
      unfold bt at fin
      rw [← hd] at fin
      exact fin
    · have hu' : u < 100 := hu
      refine Br.f rfl ?_
      refine Br.t rfl ?_
      iterate 2 refine Ob.mk (by decide) ?_
      iterate 8 refine ⟨_, ⟨rfl, rfl⟩, ?_⟩
      refine ⟨_, IdxB.mk (UInt8.ofNat (48 + (u % 100) % 10)) (by simp (disch := omega) only [q8, r8, c32, q4, r4, q2, r2, m2, a1]; omega) (by simp (disch := omega) only [q8, r8, c32, q4, r4, q2, r2, m2, a1]; exact two_odd (u % 100) (by omega)) ⟨rfl, rfl⟩, ?_⟩
      refine ⟨_, ⟨rfl, rfl⟩, ?_⟩
      refine ⟨_, IdxB.mk (UInt8.ofNat (48 + (u % 100) / 10)) (by simp (disch := omega) only [q8, r8, c32, q4, r4, q2, r2, m2, a1]; omega) (by simp (disch := omega) only [q8, r8, c32, q4, r4, q2, r2, m2, a1]; exact two_even (u % 100) (by omega)) ⟨rfl, rfl⟩, ?_⟩
      refine ⟨_, Ob.mk ⟨by simp only [List.length_set]; exact hB, by simp only [IntKind.wrap_i64]; omega, by simp only [IntKind.wrap_i64]; omega⟩ ⟨rfl, rfl⟩, ?_⟩
      refine ⟨_, _, Ob.mk ⟨by simp only [List.length_set]; exact hB, by simp only [IntKind.wrap_i64]; omega⟩ ⟨rfl, rfl⟩, rfl, ?_⟩
      refine ⟨_, Ob.mk ⟨by simp only [List.length_set]; exact hB, by simp only [IntKind.wrap_i64]; omega, by simp only [IntKind.wrap_i64]; omega⟩ ⟨rfl, rfl⟩, ?_⟩
      refine ⟨_, _, Ob.mk ⟨by simp only [List.length_set]; exact hB, by simp only [IntKind.wrap_i64]; omega⟩ ⟨rfl, rfl⟩, rfl, ?_⟩
      refine Chk.mk (by kernel_rfl) ?_
      have w3 : Wr xs U len 0 (u / 100) (put2 B (2 - 1) (u % 100)) := hw.step2 hlen (by omega)
      refine Br.f rfl ?_
      have fin := h _ w3.len24 w3.done w3.rest
      exact fin
    · have hu' : u < 1000 := hu
      refine Br.f rfl ?_
      refine Br.t rfl ?_
      iterate 2 refine Ob.mk (by decide) ?_
      iterate 8 refine ⟨_, ⟨rfl, rfl⟩, ?_⟩
      refine ⟨_, IdxB.mk (UInt8.ofNat (48 + (u % 100) % 10)) (by simp (disch := omega) only [q8, r8, c32, q4, r4, q2, r2, m2, a1]; omega) (by simp (disch := omega) only [q8, r8, c32, q4, r4, q2, r2, m2, a1]; exact two_odd (u % 100) (by omega)) ⟨rfl, rfl⟩, ?_⟩
      refine ⟨_, ⟨rfl, rfl⟩, ?_⟩
      refine ⟨_, IdxB.mk (UInt8.ofNat (48 + (u % 100) / 10)) (by simp (disch := omega) only [q8, r8, c32, q4, r4, q2, r2, m2, a1]; omega) (by simp (disch := omega) only [q8, r8, c32, q4, r4, q2, r2, m2, a1]; exact two_even (u % 100) (by omega)) ⟨rfl, rfl⟩, ?_⟩
      refine ⟨_, Ob.mk ⟨by simp only [List.length_set]; exact hB, by simp only [IntKind.wrap_i64]; omega, by simp only [IntKind.wrap_i64]; omega⟩ ⟨rfl, rfl⟩, ?_⟩
      refine ⟨_, _, Ob.mk ⟨by simp only [List.length_set]; exact hB, by simp only [IntKind.wrap_i64]; omega⟩ ⟨rfl, rfl⟩, rfl, ?_⟩
      refine ⟨_, Ob.mk ⟨by simp only [List.length_set]; exact hB, by simp only [IntKind.wrap_i64]; omega, by simp only [IntKind.wrap_i64]; omega⟩ ⟨rfl, rfl⟩, ?_⟩
      refine ⟨_, _, Ob.mk ⟨by simp only [List.length_set]; exact hB, by simp only [IntKind.wrap_i64]; omega⟩ ⟨rfl, rfl⟩, rfl, ?_⟩
      refine Chk.mk (by kernel_rfl) ?_
      have w3 : Wr xs U len 1 (u / 100) (put2 B (3 - 1) (u % 100)) := hw.step2 hlen (by omega)
      refine Br.t rfl ?_
      refine Ob.mk ⟨by simp only [List.length_set]; exact hB, by omega, by omega⟩ ?_
      refine Ob.mk ⟨by simp only [List.length_set]; exact hB, by decide⟩ ?_
      have wf := w3.step1 hlen (by omega)
      have fin := h _ wf.len24 wf.done wf.rest
      have hX : IntKind.u32.wrap (Int.tdiv (IntKind.u32.wrap (u : Int)) 100) = (((u / 100) : Nat) : Int) := by simp (disch := omega) only [c32, q4, q2]
      have hd : IntKind.u8.wrap (IntKind.u32.wrap (48 + IntKind.u32.wrap (Int.tdiv (IntKind.u32.wrap (u : Int)) 100))) = ((UInt8.ofNat (48 + (u / 100))).toNat : Int) := by
        have : (UInt8.ofNat (48 + (u / 100))).toNat = 48 + (u / 100) := by simp; omega
        rw [this, hX, IntKind.wrap_u32, IntKind.wrap_u8]; omega
      unfold bt at fin
      rw [← hd] at fin
      exact fin
    · have hu' : u < 10000 := hu
      refine Br.t rfl ?_
      iterate 4 refine Ob.mk (by decide) ?_
      iterate 8 refine ⟨_, ⟨rfl, rfl⟩, ?_⟩
      refine ⟨_, IdxB.mk (UInt8.ofNat (48 + (u % 10000 % 100) % 10)) (by simp (disch := omega) only [q8, r8, c32, q4, r4, q2, r2, m2, a1]; omega) (by simp (disch := omega) only [q8, r8, c32, q4, r4, q2, r2, m2, a1]; exact two_odd (u % 10000 % 100) (by omega)) ⟨rfl, rfl⟩, ?_⟩
      refine ⟨_, ⟨rfl, rfl⟩, ?_⟩
      refine ⟨_, IdxB.mk (UInt8.ofNat (48 + (u % 10000 % 100) / 10)) (by simp (disch := omega) only [q8, r8, c32, q4, r4, q2, r2, m2, a1]; omega) (by simp (disch := omega) only [q8, r8, c32, q4, r4, q2, r2, m2, a1]; exact two_even (u % 10000 % 100) (by omega)) ⟨rfl, rfl⟩, ?_⟩
      refine ⟨_, Ob.mk ⟨by simp only [List.length_set]; exact hB, by simp only [IntKind.wrap_i64]; omega, by simp only [IntKind.wrap_i64]; omega⟩ ⟨rfl, rfl⟩, ?_⟩
      refine ⟨_, _, Ob.mk ⟨by simp only [List.length_set]; exact hB, by simp only [IntKind.wrap_i64]; omega⟩ ⟨rfl, rfl⟩, rfl, ?_⟩
      refine ⟨_, Ob.mk ⟨by simp only [List.length_set]; exact hB, by simp only [IntKind.wrap_i64]; omega, by simp only [IntKind.wrap_i64]; omega⟩ ⟨rfl, rfl⟩, ?_⟩
      refine ⟨_, _, Ob.mk ⟨by simp only [List.length_set]; exact hB, by simp only [IntKind.wrap_i64]; omega⟩ ⟨rfl, rfl⟩, rfl, ?_⟩
      refine Chk.mk (by kernel_rfl) ?_
      iterate 8 refine ⟨_, ⟨rfl, rfl⟩, ?_⟩
      refine ⟨_, IdxB.mk (UInt8.ofNat (48 + (u % 10000 / 100) % 10)) (by simp (disch := omega) only [q8, r8, c32, q4, r4, q2, r2, m2, a1]; omega) (by simp (disch := omega) only [q8, r8, c32, q4, r4, q2, r2, m2, a1]; exact two_odd (u % 10000 / 100) (by omega)) ⟨rfl, rfl⟩, ?_⟩
      refine ⟨_, ⟨rfl, rfl⟩, ?_⟩
      refine ⟨_, IdxB.mk (UInt8.ofNat (48 + (u % 10000 / 100) / 10)) (by simp (disch := omega) only [q8, r8, c32, q4, r4, q2, r2, m2, a1]; omega) (by simp (disch := omega) only [q8, r8, c32, q4, r4, q2, r2, m2, a1]; exact two_even (u % 10000 / 100) (by omega)) ⟨rfl, rfl⟩, ?_⟩
      refine ⟨_, Ob.mk ⟨by simp only [List.length_set]; exact hB, by simp only [IntKind.wrap_i64]; omega, by simp only [IntKind.wrap_i64]; omega⟩ ⟨rfl, rfl⟩, ?_⟩
      refine ⟨_, _, Ob.mk ⟨by simp only [List.length_set]; exact hB, by simp only [IntKind.wrap_i64]; omega⟩ ⟨rfl, rfl⟩, rfl, ?_⟩
      refine ⟨_, Ob.mk ⟨by simp only [List.length_set]; exact hB, by simp only [IntKind.wrap_i64]; omega, by simp only [IntKind.wrap_i64]; omega⟩ ⟨rfl, rfl⟩, ?_⟩
      refine ⟨_, _, Ob.mk ⟨by simp only [List.length_set]; exact hB, by simp only [IntKind.wrap_i64]; omega⟩ ⟨rfl, rfl⟩, rfl, ?_⟩
      refine Chk.mk (by kernel_rfl) ?_
      have w1 : Wr xs U len (4 - 2) (u / 100) (put2 B (4 - 1) (u % 10000 % 100)) := by rw [show u % 10000 % 100 = u % 100 by omega]; exact hw.step2 hlen (by omega)
      have w2 : Wr xs U len (4 - 2 - 2) (u / 100 / 100) (put2 (put2 B (4 - 1) (u % 10000 % 100)) (4 - 2 - 1) (u % 10000 / 100)) := by rw [show u % 10000 / 100 = u / 100 % 100 by omega]; exact w1.step2 hlen (by omega)
      have w2 : Wr xs U len 0 (u / 10000) (put2 (put2 B (4 - 1) (u % 10000 % 100)) (4 - 2 - 1) (u % 10000 / 100)) := by rw [show u / 10000 = u / 100 / 100 by omega]; exact w2
      refine Br.f rfl ?_
      refine Br.f rfl ?_
      have fin := h _ w2.len24 w2.done w2.rest
      exact fin
    · have hu' : u < 100000 := hu
      refine Br.t rfl ?_
      iterate 4 refine Ob.mk (by decide) ?_
      iterate 8 refine ⟨_, ⟨rfl, rfl⟩, ?_⟩
      refine ⟨_, IdxB.mk (UInt8.ofNat (48 + (u % 10000 % 100) % 10)) (by simp (disch := omega) only [q8, r8, c32, q4, r4, q2, r2, m2, a1]; omega) (by simp (disch := omega) only [q8, r8, c32, q4, r4, q2, r2, m2, a1]; exact two_odd (u % 10000 % 100) (by omega)) ⟨rfl, rfl⟩, ?_⟩
      refine ⟨_, ⟨rfl, rfl⟩, ?_⟩
      refine ⟨_, IdxB.mk (UInt8.ofNat (48 + (u % 10000 % 100) / 10)) (by simp (disch := omega) only [q8, r8, c32, q4, r4, q2, r2, m2, a1]; omega) (by simp (disch := omega) only [q8, r8, c32, q4, r4, q2, r2, m2, a1]; exact two_even (u % 10000 % 100) (by omega)) ⟨rfl, rfl⟩, ?_⟩
      refine ⟨_, Ob.mk ⟨by simp only [List.length_set]; exact hB, by simp only [IntKind.wrap_i64]; omega, by simp only [IntKind.wrap_i64]; omega⟩ ⟨rfl, rfl⟩, ?_⟩
      refine ⟨_, _, Ob.mk ⟨by simp only [List.length_set]; exact hB, by simp only [IntKind.wrap_i64]; omega⟩ ⟨rfl, rfl⟩, rfl, ?_⟩
      refine ⟨_, Ob.mk ⟨by simp only [List.length_set]; exact hB, by simp only [IntKind.wrap_i64]; omega, by simp only [IntKind.wrap_i64]; omega⟩ ⟨rfl, rfl⟩, ?_⟩
      refine ⟨_, _, Ob.mk ⟨by simp only [List.length_set]; exact hB, by simp only [IntKind.wrap_i64]; omega⟩ ⟨rfl, rfl⟩, rfl, ?_⟩
      refine Chk.mk (by kernel_rfl) ?_
      iterate 8 refine ⟨_, ⟨rfl, rfl⟩, ?_⟩
      refine ⟨_, IdxB.mk (UInt8.ofNat (48 + (u % 10000 / 100) % 10)) (by simp (disch := omega) only [q8, r8, c32, q4, r4, q2, r2, m2, a1]; omega) (by simp (disch := omega) only [q8, r8, c32, q4, r4, q2, r2, m2, a1]; exact two_odd (u % 10000 / 100) (by omega)) ⟨rfl, rfl⟩, ?_⟩
      refine ⟨_, ⟨rfl, rfl⟩, ?_⟩
      refine ⟨_, IdxB.mk (UInt8.ofNat (48 + (u % 10000 / 100) / 10)) (by simp (disch := omega) only [q8, r8, c32, q4, r4, q2, r2, m2, a1]; omega) (by simp (disch := omega) only [q8, r8, c32, q4, r4, q2, r2, m2, a1]; exact two_even (u % 10000 / 100) (by omega)) ⟨rfl, rfl⟩, ?_⟩
      refine ⟨_, Ob.mk ⟨by simp only [List.length_set]; exact hB, by simp only [IntKind.wrap_i64]; omega, by simp only [IntKind.wrap_i64]; omega⟩ ⟨rfl, rfl⟩, ?_⟩
      refine ⟨_, _, Ob.mk ⟨by simp only [List.length_set]; exact hB, by simp only [IntKind.wrap_i64]; omega⟩ ⟨rfl, rfl⟩, rfl, ?_⟩
      refine ⟨_, Ob.mk ⟨by simp only [List.length_set]; exact hB, by simp only [IntKind.wrap_i64]; omega, by simp only [IntKind.wrap_i64]; omega⟩ ⟨rfl, rfl⟩, ?_⟩
      refine ⟨_, _, Ob.mk ⟨by simp only [List.length_set]; exact hB, by simp only [IntKind.wrap_i64]; omega⟩ ⟨rfl, rfl⟩, rfl, ?_⟩
      refine Chk.mk (by kernel_rfl) ?_
      have w1 : Wr xs U len (5 - 2) (u / 100) (put2 B (5 - 1) (u % 10000 % 100)) := by rw [show u % 10000 % 100 = u % 100 by omega]; exact hw.step2 hlen (by omega)
      have w2 : Wr xs U len (5 - 2 - 2) (u / 100 / 100) (put2 (put2 B (5 - 1) (u % 10000 % 100)) (5 - 2 - 1) (u % 10000 / 100)) := by rw [show u % 10000 / 100 = u / 100 % 100 by omega]; exact w1.step2 hlen (by omega)
      have w2 : Wr xs U len 1 (u / 10000) (put2 (put2 B (5 - 1) (u % 10000 % 100)) (5 - 2 - 1) (u % 10000 / 100)) := by rw [show u / 10000 = u / 100 / 100 by omega]; exact w2
      refine Br.f rfl ?_
      refine Br.t rfl ?_
      refine Ob.mk ⟨by simp only [List.length_set]; exact hB, by omega, by omega⟩ ?_
      refine Ob.mk ⟨by simp only [List.length_set]; exact hB, by decide⟩ ?_
      have wf := w2.step1 hlen (by omega)
      have fin := h _ wf.len24 wf.done wf.rest
      have hX : IntKind.u32.wrap (Int.tdiv (IntKind.u32.wrap (u : Int)) 10000) = (((u / 10000) : Nat) : Int) := by simp (disch := omega) only [c32, q4, q2]
      have hd : IntKind.u8.wrap (IntKind.u32.wrap (48 + IntKind.u32.wrap (Int.tdiv (IntKind.u32.wrap (u : Int)) 10000))) = ((UInt8.ofNat (48 + (u / 10000))).toNat : Int) := by
        have : (UInt8.ofNat (48 + (u / 10000))).toNat = 48 + (u / 10000) := by simp; omega
        rw [this, hX, IntKind.wrap_u32, IntKind.wrap_u8]; omega
      unfold bt at fin
      rw [← hd] at fin
      exact fin
    · have hu' : u < 1000000 := hu
      refine Br.t rfl ?_
      iterate 4 refine Ob.mk (by decide) ?_
      iterate 8 refine ⟨_, ⟨rfl, rfl⟩, ?_⟩
      refine ⟨_, IdxB.mk (UInt8.ofNat (48 + (u % 10000 % 100) % 10)) (by simp (disch := omega) only [q8, r8, c32, q4, r4, q2, r2, m2, a1]; omega) (by simp (disch := omega) only [q8, r8, c32, q4, r4, q2, r2, m2, a1]; exact two_odd (u % 10000 % 100) (by omega)) ⟨rfl, rfl⟩, ?_⟩
      refine ⟨_, ⟨rfl, rfl⟩, ?_⟩
      refine ⟨_, IdxB.mk (UInt8.ofNat (48 + (u % 10000 % 100) / 10)) (by simp (disch := omega) only [q8, r8, c32, q4, r4, q2, r2, m2, a1]; omega) (by simp (disch := omega) only [q8, r8, c32, q4, r4, q2, r2, m2, a1]; exact two_even (u % 10000 % 100) (by omega)) ⟨rfl, rfl⟩, ?_⟩
      refine ⟨_, Ob.mk ⟨by simp only [List.length_set]; exact hB, by simp only [IntKind.wrap_i64]; omega, by simp only [IntKind.wrap_i64]; omega⟩ ⟨rfl, rfl⟩, ?_⟩
      refine ⟨_, _, Ob.mk ⟨by simp only [List.length_set]; exact hB, by simp only [IntKind.wrap_i64]; omega⟩ ⟨rfl, rfl⟩, rfl, ?_⟩
      refine ⟨_, Ob.mk ⟨by simp only [List.length_set]; exact hB, by simp only [IntKind.wrap_i64]; omega, by simp only [IntKind.wrap_i64]; omega⟩ ⟨rfl, rfl⟩, ?_⟩
      refine ⟨_, _, Ob.mk ⟨by simp only [List.length_set]; exact hB, by simp only [IntKind.wrap_i64]; omega⟩ ⟨rfl, rfl⟩, rfl, ?_⟩
      refine Chk.mk (by kernel_rfl) ?_
      iterate 8 refine ⟨_, ⟨rfl, rfl⟩, ?_⟩
      refine ⟨_, IdxB.mk (UInt8.ofNat (48 + (u % 10000 / 100) % 10)) (by simp (disch := omega) only [q8, r8, c32, q4, r4, q2, r2, m2, a1]; omega) (by simp (disch := omega) only [q8, r8, c32, q4, r4, q2, r2, m2, a1]; exact two_odd (u % 10000 / 100) (by omega)) ⟨rfl, rfl⟩, ?_⟩
      refine ⟨_, ⟨rfl, rfl⟩, ?_⟩
      refine ⟨_, IdxB.mk (UInt8.ofNat (48 + (u % 10000 / 100) / 10)) (by simp (disch := omega) only [q8, r8, c32, q4, r4, q2, r2, m2, a1]; omega) (by simp (disch := omega) only [q8, r8, c32, q4, r4, q2, r2, m2, a1]; exact two_even (u % 10000 / 100) (by omega)) ⟨rfl, rfl⟩, ?_⟩
      refine ⟨_, Ob.mk ⟨by simp only [List.length_set]; exact hB, by simp only [IntKind.wrap_i64]; omega, by simp only [IntKind.wrap_i64]; omega⟩ ⟨rfl, rfl⟩, ?_⟩
      refine ⟨_, _, Ob.mk ⟨by simp only [List.length_set]; exact hB, by simp only [IntKind.wrap_i64]; omega⟩ ⟨rfl, rfl⟩, rfl, ?_⟩
      refine ⟨_, Ob.mk ⟨by simp only [List.length_set]; exact hB, by simp only [IntKind.wrap_i64]; omega, by simp only [IntKind.wrap_i64]; omega⟩ ⟨rfl, rfl⟩, ?_⟩
      refine ⟨_, _, Ob.mk ⟨by simp only [List.length_set]; exact hB, by simp only [IntKind.wrap_i64]; omega⟩ ⟨rfl, rfl⟩, rfl, ?_⟩
      refine Chk.mk (by kernel_rfl) ?_
      have w1 : Wr xs U len (6 - 2) (u / 100) (put2 B (6 - 1) (u % 10000 % 100)) := by rw [show u % 10000 % 100 = u % 100 by omega]; exact hw.step2 hlen (by omega)
      have w2 : Wr xs U len (6 - 2 - 2) (u / 100 / 100) (put2 (put2 B (6 - 1) (u % 10000 % 100)) (6 - 2 - 1) (u % 10000 / 100)) := by rw [show u % 10000 / 100 = u / 100 % 100 by omega]; exact w1.step2 hlen (by omega)
      have w2 : Wr xs U len 2 (u / 10000) (put2 (put2 B (6 - 1) (u % 10000 % 100)) (6 - 2 - 1) (u % 10000 / 100)) := by rw [show u / 10000 = u / 100 / 100 by omega]; exact w2
      refine Br.t rfl ?_
      iterate 2 refine Ob.mk (by decide) ?_
      iterate 8 refine ⟨_, ⟨rfl, rfl⟩, ?_⟩
      refine ⟨_, IdxB.mk (UInt8.ofNat (48 + ((u / 10000) % 100) % 10)) (by simp (disch := omega) only [q8, r8, c32, q4, r4, q2, r2, m2, a1]; omega) (by simp (disch := omega) only [q8, r8, c32, q4, r4, q2, r2, m2, a1]; exact two_odd ((u / 10000) % 100) (by omega)) ⟨rfl, rfl⟩, ?_⟩
      refine ⟨_, ⟨rfl, rfl⟩, ?_⟩
      refine ⟨_, IdxB.mk (UInt8.ofNat (48 + ((u / 10000) % 100) / 10)) (by simp (disch := omega) only [q8, r8, c32, q4, r4, q2, r2, m2, a1]; omega) (by simp (disch := omega) only [q8, r8, c32, q4, r4, q2, r2, m2, a1]; exact two_even ((u / 10000) % 100) (by omega)) ⟨rfl, rfl⟩, ?_⟩
      refine ⟨_, Ob.mk ⟨by simp only [List.length_set]; exact hB, by simp only [IntKind.wrap_i64]; omega, by simp only [IntKind.wrap_i64]; omega⟩ ⟨rfl, rfl⟩, ?_⟩
      refine ⟨_, _, Ob.mk ⟨by simp only [List.length_set]; exact hB, by simp only [IntKind.wrap_i64]; omega⟩ ⟨rfl, rfl⟩, rfl, ?_⟩
      refine ⟨_, Ob.mk ⟨by simp only [List.length_set]; exact hB, by simp only [IntKind.wrap_i64]; omega, by simp only [IntKind.wrap_i64]; omega⟩ ⟨rfl, rfl⟩, ?_⟩
      refine ⟨_, _, Ob.mk ⟨by simp only [List.length_set]; exact hB, by simp only [IntKind.wrap_i64]; omega⟩ ⟨rfl, rfl⟩, rfl, ?_⟩
      refine Chk.mk (by kernel_rfl) ?_
      have w3 : Wr xs U len 0 ((u / 10000) / 100) (put2 (put2 (put2 B (6 - 1) (u % 10000 % 100)) (6 - 2 - 1) (u % 10000 / 100)) (2 - 1) ((u / 10000) % 100)) := w2.step2 hlen (by omega)
      refine Br.f rfl ?_
      have fin := h _ w3.len24 w3.done w3.rest
      exact fin
    · have hu' : u < 10000000 := hu
      refine Br.t rfl ?_
      iterate 4 refine Ob.mk (by decide) ?_
      iterate 8 refine ⟨_, ⟨rfl, rfl⟩, ?_⟩
      refine ⟨_, IdxB.mk (UInt8.ofNat (48 + (u % 10000 % 100) % 10)) (by simp (disch := omega) only [q8, r8, c32, q4, r4, q2, r2, m2, a1]; omega) (by simp (disch := omega) only [q8, r8, c32, q4, r4, q2, r2, m2, a1]; exact two_odd (u % 10000 % 100) (by omega)) ⟨rfl, rfl⟩, ?_⟩
      refine ⟨_, ⟨rfl, rfl⟩, ?_⟩
      refine ⟨_, IdxB.mk (UInt8.ofNat (48 + (u % 10000 % 100) / 10)) (by simp (disch := omega) only [q8, r8, c32, q4, r4, q2, r2, m2, a1]; omega) (by simp (disch := omega) only [q8, r8, c32, q4, r4, q2, r2, m2, a1]; exact two_even (u % 10000 % 100) (by omega)) ⟨rfl, rfl⟩, ?_⟩
      refine ⟨_, Ob.mk ⟨by simp only [List.length_set]; exact hB, by simp only [IntKind.wrap_i64]; omega, by simp only [IntKind.wrap_i64]; omega⟩ ⟨rfl, rfl⟩, ?_⟩
      refine ⟨_, _, Ob.mk ⟨by simp only [List.length_set]; exact hB, by simp only [IntKind.wrap_i64]; omega⟩ ⟨rfl, rfl⟩, rfl, ?_⟩
      refine ⟨_, Ob.mk ⟨by simp only [List.length_set]; exact hB, by simp only [IntKind.wrap_i64]; omega, by simp only [IntKind.wrap_i64]; omega⟩ ⟨rfl, rfl⟩, ?_⟩
      refine ⟨_, _, Ob.mk ⟨by simp only [List.length_set]; exact hB, by simp only [IntKind.wrap_i64]; omega⟩ ⟨rfl, rfl⟩, rfl, ?_⟩
      refine Chk.mk (by kernel_rfl) ?_
      iterate 8 refine ⟨_, ⟨rfl, rfl⟩, ?_⟩
      refine ⟨_, IdxB.mk (UInt8.ofNat (48 + (u % 10000 / 100) % 10)) (by simp (disch := omega) only [q8, r8, c32, q4, r4, q2, r2, m2, a1]; omega) (by simp (disch := omega) only [q8, r8, c32, q4, r4, q2, r2, m2, a1]; exact two_odd (u % 10000 / 100) (by omega)) ⟨rfl, rfl⟩, ?_⟩
      refine ⟨_, ⟨rfl, rfl⟩, ?_⟩
      refine ⟨_, IdxB.mk (UInt8.ofNat (48 + (u % 10000 / 100) / 10)) (by simp (disch := omega) only [q8, r8, c32, q4, r4, q2, r2, m2, a1]; omega) (by simp (disch := omega) only [q8, r8, c32, q4, r4, q2, r2, m2, a1]; exact two_even (u % 10000 / 100) (by omega)) ⟨rfl, rfl⟩, ?_⟩
      refine ⟨_, Ob.mk ⟨by simp only [List.length_set]; exact hB, by simp only [IntKind.wrap_i64]; omega, by simp only [IntKind.wrap_i64]; omega⟩ ⟨rfl, rfl⟩, ?_⟩
      refine ⟨_, _, Ob.mk ⟨by simp only [List.length_set]; exact hB, by simp only [IntKind.wrap_i64]; omega⟩ ⟨rfl, rfl⟩, rfl, ?_⟩
      refine ⟨_, Ob.mk ⟨by simp only [List.length_set]; exact hB, by simp only [IntKind.wrap_i64]; omega, by simp only [IntKind.wrap_i64]; omega⟩ ⟨rfl, rfl⟩, ?_⟩
      refine ⟨_, _, Ob.mk ⟨by simp only [List.length_set]; exact hB, by simp only [IntKind.wrap_i64]; omega⟩ ⟨rfl, rfl⟩, rfl, ?_⟩
      refine Chk.mk (by kernel_rfl) ?_
      have w1 : Wr xs U len (7 - 2) (u / 100) (put2 B (7 - 1) (u % 10000 % 100)) := by rw [show u % 10000 % 100 = u % 100 by omega]; exact hw.step2 hlen (by omega)
      have w2 : Wr xs U len (7 - 2 - 2) (u / 100 / 100) (put2 (put2 B (7 - 1) (u % 10000 % 100)) (7 - 2 - 1) (u % 10000 / 100)) := by rw [show u % 10000 / 100 = u / 100 % 100 by omega]; exact w1.step2 hlen (by omega)
      have w2 : Wr xs U len 3 (u / 10000) (put2 (put2 B (7 - 1) (u % 10000 % 100)) (7 - 2 - 1) (u % 10000 / 100)) := by rw [show u / 10000 = u / 100 / 100 by omega]; exact w2
      refine Br.t rfl ?_
      iterate 2 refine Ob.mk (by decide) ?_
      iterate 8 refine ⟨_, ⟨rfl, rfl⟩, ?_⟩
      refine ⟨_, IdxB.mk (UInt8.ofNat (48 + ((u / 10000) % 100) % 10)) (by simp (disch := omega) only [q8, r8, c32, q4, r4, q2, r2, m2, a1]; omega) (by simp (disch := omega) only [q8, r8, c32, q4, r4, q2, r2, m2, a1]; exact two_odd ((u / 10000) % 100) (by omega)) ⟨rfl, rfl⟩, ?_⟩
      refine ⟨_, ⟨rfl, rfl⟩, ?_⟩
      refine ⟨_, IdxB.mk (UInt8.ofNat (48 + ((u / 10000) % 100) / 10)) (by simp (disch := omega) only [q8, r8, c32, q4, r4, q2, r2, m2, a1]; omega) (by simp (disch := omega) only [q8, r8, c32, q4, r4, q2, r2, m2, a1]; exact two_even ((u / 10000) % 100) (by omega)) ⟨rfl, rfl⟩, ?_⟩
      refine ⟨_, Ob.mk ⟨by simp only [List.length_set]; exact hB, by simp only [IntKind.wrap_i64]; omega, by simp only [IntKind.wrap_i64]; omega⟩ ⟨rfl, rfl⟩, ?_⟩
      refine ⟨_, _, Ob.mk ⟨by simp only [List.length_set]; exact hB, by simp only [IntKind.wrap_i64]; omega⟩ ⟨rfl, rfl⟩, rfl, ?_⟩
      refine ⟨_, Ob.mk ⟨by simp only [List.length_set]; exact hB, by simp only [IntKind.wrap_i64]; omega, by simp only [IntKind.wrap_i64]; omega⟩ ⟨rfl, rfl⟩, ?_⟩
      refine ⟨_, _, Ob.mk ⟨by simp only [List.length_set]; exact hB, by simp only [IntKind.wrap_i64]; omega⟩ ⟨rfl, rfl⟩, rfl, ?_⟩
      refine Chk.mk (by kernel_rfl) ?_
      have w3 : Wr xs U len 1 ((u / 10000) / 100) (put2 (put2 (put2 B (7 - 1) (u % 10000 % 100)) (7 - 2 - 1) (u % 10000 / 100)) (3 - 1) ((u / 10000) % 100)) := w2.step2 hlen (by omega)
      refine Br.t rfl ?_
      refine Ob.mk ⟨by simp only [List.length_set]; exact hB, by omega, by omega⟩ ?_
      refine Ob.mk ⟨by simp only [List.length_set]; exact hB, by decide⟩ ?_
      have wf := w3.step1 hlen (by omega)
      have fin := h _ wf.len24 wf.done wf.rest
      have hX : IntKind.u32.wrap (Int.tdiv (IntKind.u32.wrap (Int.tdiv (IntKind.u32.wrap (u : Int)) 10000)) 100) = ((((u / 10000) / 100) : Nat) : Int) := by simp (disch := omega) only [c32, q4, q2]
      have hd : IntKind.u8.wrap (IntKind.u32.wrap (48 + IntKind.u32.wrap (Int.tdiv (IntKind.u32.wrap (Int.tdiv (IntKind.u32.wrap (u : Int)) 10000)) 100))) = ((UInt8.ofNat (48 + ((u / 10000) / 100))).toNat : Int) := by
        have : (UInt8.ofNat (48 + ((u / 10000) / 100))).toNat = 48 + ((u / 10000) / 100) := by simp; omega
        rw [this, hX, IntKind.wrap_u32, IntKind.wrap_u8]; omega
      unfold bt at fin
      rw [← hd] at fin
      exact fin
end Go.Proofs.YtkokaflanlcojaaDoor.AW

open Go Go.Proofs.YtkokaflanlcojaaDoor.AW Go.Proofs
namespace Go.Proofs.YtkokaflanlcojaaDoor.AW
set_option maxRecDepth 100000

def d1 (n : Nat) : UInt8 := UInt8.ofNat (48 + n)
/-- A number in decimal digits. -/
def dec : Nat → Nat → List UInt8
  | 0, u => [d1 (u % 10)]
  | f + 1, u => if u < 10 then [d1 u] else dec f (u / 10) ++ [d1 (u % 10)]
def decS (u : Nat) : List UInt8 := dec 20 u
def fmtS (n : Int) : List UInt8 := if n < 0 then 45 :: decS n.natAbs else decS n.natAbs

def dtxt (U : Nat) : Nat → List UInt8
  | 0 => []
  | n + 1 => dtxt (U / 10) n ++ [d1 (U % 10)]
theorem dtxt_len : ∀ (n U : Nat), (dtxt U n).length = n
  | 0, _ => rfl
  | n + 1, U => by simp [dtxt, dtxt_len n]
theorem dtxt_get : ∀ (n U i : Nat), i < n → (dtxt U n)[i]? = some (d1 (U / 10 ^ (n - 1 - i) % 10))
  | n + 1, U, i, h => by
    unfold dtxt
    by_cases hi : i < n
    · rw [List.getElem?_append_left (by rw [dtxt_len]; exact hi), dtxt_get n (U / 10) i hi, Nat.div_div_eq_div_mul]
      rw [show n + 1 - 1 - i = n - 1 - i + 1 by omega, Nat.pow_succ, Nat.mul_comm]
    · have : i = n := by omega
      subst this
      rw [List.getElem?_append_right (by rw [dtxt_len]; omega), dtxt_len]
      simp
theorem dec_dtxt : ∀ (f n U : Nat), 1 ≤ n → n ≤ f + 1 → U < 10 ^ n → (n = 1 ∨ 10 ^ (n - 1) ≤ U) → dec f U = dtxt U n
  | f, 1, U, _, _, h3, _ => by
    have : U < 10 := by simpa using h3
    cases f with
    | zero => simp [dec, dtxt]
    | succ f => simp [dec, dtxt, this, Nat.mod_eq_of_lt this]
  | f + 1, n + 2, U, _, h2, h3, h4 => by
    have h5 : 10 ^ (n + 1) ≤ U := by rcases h4 with h4 | h4; · omega
                                     · exact h4
    have h6 : ¬ U < 10 := by
      have : 10 ≤ 10 ^ (n + 1) := by rw [Nat.pow_succ]; have : 0 < 10 ^ n := Nat.pow_pos (by omega); omega
      omega
    have ih := dec_dtxt f (n + 1) (U / 10) (by omega) (by omega) (by rw [Nat.pow_succ] at h3; omega) (.inr (by
      rw [Nat.pow_succ] at h5; simp; omega))
    rw [dec, if_neg h6, ih]
    rfl
  | 0, n + 2, _, _, h2, _, _ => by omega

def tab36 : List UInt8 := [48, 49, 50, 51, 52, 53, 54, 55, 56, 57, 97, 98, 99, 100, 101, 102, 103, 104, 105, 106, 107, 108, 109, 110, 111, 112, 113, 114, 115, 116, 117, 118, 119, 120, 121, 122]
theorem small_a : ∀ i, i < 10 → (tab36.take (i + 1)).drop i = decS i := by decide +kernel
theorem small_b : ∀ i, i < 100 → 10 ≤ i → (twoTab.take (i * 2 + 2)).drop (i * 2) = decS i := by decide +kernel

theorem small_c (i : Nat) (hi : i < 100) (s : Store) (K : AV → Store → Prop) (h : K (.p (.str (decS i))) s) : Cal Tryd.prog 75 [.p (ii i)] s K := by
  refine Cal.pure (args := [ii i]) ?_
  refine Cal.intro Tryd.func75 (by decide +kernel) rfl rfl ?_
  refine Br.mk (fun c => ?_) (fun c => ?_)
  · have c : i < 10 := by simp at c; omega
    have e1 : (IntKind.i64.wrap ((i : Int) + 1)).toNat = i + 1 := by rw [wrap_i64] <;> omega
    have e := small_a i c
    rw [← e, ← e1, ← Int.toNat_natCast i] at h
    refine Ob.mk ⟨by omega, by rw [wrap_i64] <;> omega, by rw [wrap_i64 (by omega) (by omega)]; show (i : Int) + 1 ≤ 36; omega⟩ ?_
    simp only [Int.toNat_natCast] at h
    exact h
  · have c : 10 ≤ i := by simp at c; omega
    have e1 : (IntKind.i64.wrap (IntKind.i64.wrap ((i : Int) * 2) + 2)).toNat = i * 2 + 2 := by simp only [IntKind.wrap_i64]; omega
    have e2 : (IntKind.i64.wrap ((i : Int) * 2)).toNat = i * 2 := by simp only [IntKind.wrap_i64]; omega
    have e := small_b i hi c
    rw [← e, ← e1, ← e2] at h
    refine Ob.mk ⟨by simp only [IntKind.wrap_i64]; omega, by simp only [IntKind.wrap_i64]; omega, by
      have : IntKind.i64.wrap (IntKind.i64.wrap ((i : Int) * 2) + 2) ≤ 200 := by simp only [IntKind.wrap_i64]; omega
      exact this⟩ ?_
    exact h
end Go.Proofs.YtkokaflanlcojaaDoor.AW

open Go Go.Proofs.YtkokaflanlcojaaDoor.AW Go.Proofs
namespace Go.Proofs.YtkokaflanlcojaaDoor.AW
set_option maxRecDepth 100000

def z24 : List PV := List.replicate 24 (.int .u8 0)
theorem base10_v (U len : Nat) (hU : U < 10 ^ len) (hlen : len ≤ 20) (hU64 : U < 18446744073709551616) {off l : Nat} {v : Int} (ho : off = 1) (hl : l = len) (hv : v = (U : Int)) (K : AV → Store → Prop)
    (h : ∀ B : List PV, B.length = 24 → (∀ i, 0 < i → i ≤ len → B[i]? = some (dg U (len - i))) → (∀ i, i = 0 ∨ len < i → B[i]? = z24[i]?) → K (.tup []) [some (.buf 1 B)]) :
    Cal Tryd.prog 77 [.osl 0 24 off l, .p (.int .u64 v)] [some (.buf 1 z24)] K := by
  subst ho; subst hl; subst hv
  exact base10_c z24 (by decide) U _ hU hlen hU64 K h

theorem body_bytes {B : List PV} {U nd : Nat} (_hB : B.length = 24) (_hnd : nd ≤ 20) (hd : ∀ i, 0 < i → i ≤ nd → B[i]? = some (dg U (nd - i))) : (B.drop 1).take nd = bytesP (dtxt U nd) := by
  refine List.ext_getElem? fun j => ?_
  unfold bytesP
  rw [List.getElem?_take, List.getElem?_map]
  by_cases hj : j < nd
  · rw [if_pos hj, List.getElem?_drop, hd (1 + j) (by omega) (by omega), dtxt_get nd U j hj]
    simp only [Option.map_some, dg, d1]
    rw [show nd - 1 - j = nd - (1 + j) by omega]
  · rw [if_neg hj, List.getElem?_eq_none (by rw [dtxt_len]; omega)]; rfl
theorem neg_bytes {B : List PV} {U nd : Nat} (hB : B.length = 24) (hnd : nd ≤ 20) (hd : ∀ i, 0 < i → i ≤ nd → B[i]? = some (dg U (nd - i))) : ((B.set 0 (.int .u8 45)).drop 0).take (1 + nd) = bytesP (45 :: dtxt U nd) := by
  cases B with
  | nil => simp at hB
  | cons b r =>
    have := body_bytes hB hnd hd
    simp only [List.drop_succ_cons, List.drop_zero] at this
    rw [List.drop_zero, List.set_cons_zero, Nat.add_comm, List.take_succ_cons, this]
    rfl

theorem numDigits_v (u : Nat) {v : Int} (hv : v = (u : Int)) (hu : u < 18446744073709551616) (h1 : 1 ≤ u) (s : Store) (K : AV → Store → Prop) (h : ∀ nd : Nat, 1 ≤ nd → nd ≤ 20 → u < 10 ^ nd → (nd = 1 ∨ 10 ^ (nd - 1) ≤ u) → K (.p (ii nd)) s) : Cal Tryd.prog 76 [.p (.int .u64 v)] s K := by
  subst hv; exact numDigits_c u hu h1 s K h

theorem formatInt_c (n : Int) (h1 : -9223372036854775808 ≤ n) (h2 : n < 9223372036854775808) (s : Store) (K : AV → Store → Prop) (h : K (.p (.str (fmtS n))) s) : Cal Tryd.prog 62 [.p (ii n), .p (ii 10)] s K := by
  refine Cal.pure (args := [ii n, ii 10]) ?_
  refine Cal.intro Tryd.func62 (by decide +kernel) rfl rfl ?_
  refine Br.t rfl ?_
  by_cases hs : 0 ≤ n ∧ n < 100
  · obtain ⟨i, rfl⟩ := Int.eq_ofNat_of_zero_le hs.1
    have hi : i < 100 := by omega
    refine Br.t (by simp) (Br.t (by simp) ?_)
    refine Br.t (by simp) ?_
    refine Br.t (by simp; omega) ?_
    refine small_c i hi _ _ ?_
    have e : fmtS (i : Int) = decS i := by unfold fmtS; rw [if_neg (by omega)]; rfl
    rw [e] at h; exact h
  · by_cases hn : n < 0
    · repeat first | refine Br.t (by first | rfl | (simp; omega)) ?_ | refine Br.f (by first | rfl | (simp; omega)) ?_
      refine Or.inr ?_
      refine Br.t (by simp; omega) ?_
      have hU : IntKind.u64.wrap (0 - IntKind.u64.wrap n) = ((n.natAbs : Nat) : Int) := by simp only [IntKind.wrap_u64]; omega
      refine numDigits_v n.natAbs hU (by omega) (by omega) _ _ fun nd hnd1 hnd2 hnd3 hnd4 => ?_
      have hf : decS n.natAbs = dtxt n.natAbs nd := dec_dtxt 20 nd n.natAbs hnd1 (by omega) hnd3 hnd4
      have hw1 : IntKind.i64.wrap (1 + (nd : Int)) = ((1 + nd : Nat) : Int) := by rw [wrap_i64 (by omega) (by omega)]; omega
      refine Ob.mk ⟨rfl, rfl, by omega, by rw [hw1]; omega, by rw [hw1]; omega⟩ ?_
      refine base10_v n.natAbs nd hnd3 hnd2 (by omega) rfl (by rw [hw1]; omega) hU _ fun B hB1 hB2 hB3 => ?_
      refine Br.t (by simp; omega) ?_
      refine Ob.mk ⟨hB1, by omega, by omega⟩ ?_
      refine Ob.mk ⟨hB1, by decide⟩ ?_
      have hl : (B.set 0 (.int .u8 45)).length = 24 := by simp [hB1]
      refine Ob.mk ⟨hl, rfl, by omega, by rw [hw1]; omega, by rw [hw1]; omega⟩ ?_
      refine Ob.mk hl ?_
      have hb := neg_bytes hB1 hnd2 hB2
      have e0 : (IntKind.i64.wrap (1 + (nd : Int)) - 0).toNat = 1 + nd := by rw [hw1]; omega
      rw [← e0] at hb
      refine Ob.mk (.inr rfl) ⟨_, hb, ?_⟩
      have e : fmtS n = 45 :: dtxt n.natAbs nd := by unfold fmtS; rw [if_pos hn, hf]
      rw [e] at h; exact h
    · repeat first | refine Br.t (by first | rfl | (simp; omega)) ?_ | refine Br.f (by first | rfl | (simp; omega)) ?_
      refine Or.inr ?_
      refine Br.f (by simp; omega) ?_
      have hU : IntKind.u64.wrap n = ((n.natAbs : Nat) : Int) := by simp only [IntKind.wrap_u64]; omega
      refine numDigits_v n.natAbs hU (by omega) (by omega) _ _ fun nd hnd1 hnd2 hnd3 hnd4 => ?_
      have hf : decS n.natAbs = dtxt n.natAbs nd := dec_dtxt 20 nd n.natAbs hnd1 (by omega) hnd3 hnd4
      have hw1 : IntKind.i64.wrap (1 + (nd : Int)) = ((1 + nd : Nat) : Int) := by rw [wrap_i64 (by omega) (by omega)]; omega
      refine Ob.mk ⟨rfl, rfl, by omega, by rw [hw1]; omega, by rw [hw1]; omega⟩ ?_
      refine base10_v n.natAbs nd hnd3 hnd2 (by omega) rfl (by rw [hw1]; omega) hU _ fun B hB1 hB2 hB3 => ?_
      refine Br.f (by simp; omega) ?_
      refine Ob.mk ⟨hB1, rfl, by omega, by rw [hw1]; omega, by rw [hw1]; omega⟩ ?_
      refine Ob.mk hB1 ?_
      have hb := body_bytes hB1 hnd2 hB2
      have e0 : (IntKind.i64.wrap (1 + (nd : Int)) - 1).toNat = nd := by rw [hw1]; omega
      rw [← e0] at hb
      refine Ob.mk (.inr rfl) ⟨_, hb, ?_⟩
      have e : fmtS n = dtxt n.natAbs nd := by unfold fmtS; rw [if_neg hn, hf]
      rw [e, ← e0] at h; exact h
end Go.Proofs.YtkokaflanlcojaaDoor.AW

open Go Go.Proofs.YtkokaflanlcojaaDoor.AW Go.Proofs
namespace Go.Proofs.YtkokaflanlcojaaDoor.AW
set_option maxRecDepth 100000

abbrev okst {a b : Nat} {c : Bool} {x y : Nat} (h1 : a = b) (h2 : Nat.ble x y = true) (h3 : c = true) : a = b ∧ x ≤ y ∧ c = true := ⟨h1, Nat.le_of_ble_eq_true h2, h3⟩

theorem formatInt2_c (n : Int) (h1 : -9223372036854775808 ≤ n) (h2 : n < 9223372036854775808) (s : Store) (K : AV → Store → Prop) (h : K (.p (.str (fmtS n))) s) : Cal Tryd.prog 47 [.p (ii n), .p (ii 10)] s K := by
  refine Cal.pure (args := [ii n, ii 10]) ?_
  refine Cal.intro Tryd.func47 (by decide +kernel) rfl rfl ?_
  exact formatInt_c n h1 h2 _ _ h
theorem itoa1_c (n : Int) (h1 : -9223372036854775808 ≤ n) (h2 : n < 9223372036854775808) (s : Store) (K : AV → Store → Prop) (h : K (.p (.str (fmtS n))) s) : Cal Tryd.prog 106 [.p (ii n)] s K := by
  refine Cal.pure (args := [ii n]) ?_
  refine Cal.intro Tryd.func106 (by decide +kernel) rfl rfl ?_
  exact formatInt_c n h1 h2 _ _ h
theorem itoa_c (n : Int) (h1 : -9223372036854775808 ≤ n) (h2 : n < 9223372036854775808) (s : Store) (K : AV → Store → Prop) (h : K (.p (.str (fmtS n))) s) : Cal Tryd.prog 102 [.p (ii n)] s K := by
  refine Cal.pure (args := [ii n]) ?_
  refine Cal.intro Tryd.func102 (by decide +kernel) rfl rfl ?_
  exact itoa1_c n h1 h2 _ _ h
def boolS (b : Bool) : List UInt8 := if b then [116, 114, 117, 101] else [102, 97, 108, 115, 101]
theorem noEsc_c (v : AV) (s : Store) (K : AV → Store → Prop) (hk : K v s) : Cal Tryd.prog 71 [v] s K := Cal.noEscape Tryd.func71 (by decide +kernel) rfl (by kernel_rfl) (by kernel_rfl) v s K hk

/-- A Builder beside an iterator. -/
def bSt (bs : List UInt8) (it : Option AObj) : Store := match bs with
  | [] => [some (.cells [.p (.lit (.pointer none)), .p (.sl .nil 0 [])] (some 65)), it]
  | b :: r => [some (.cells [.ref 0 0, .osl 2 (bytesP (b :: r)).length 0 (bytesP (b :: r)).length] (some 65)), it, some (.buf 1 (bytesP (b :: r)) (some 5))]
/-- The same behind the library's check. -/
def bSt1 (bs : List UInt8) (it : Option AObj) : Store := match bs with
  | [] => [some (.cells [.ref 0 0, .p (.sl .nil 0 [])] (some 65)), it]
  | b :: r => bSt (b :: r) it

theorem copyCheck_c (bs : List UInt8) (it : Option AObj) (K : AV → Store → Prop) (h : K (.tup []) (bSt1 bs it)) : Cal Tryd.prog 53 [.ref 0 0] (bSt bs it) K := by
  refine Cal.intro Tryd.func53 (by decide +kernel) rfl rfl ?_
  cases bs with
  | nil =>
    refine Br.t rfl ?_
    refine noEsc_c _ _ _ ?_
    refine Ob.mk (by kernel_rfl) ?_
    refine Ob.mk (okst rfl rfl rfl) ?_
    exact h
  | cons b r =>
    refine Br.f rfl (Br.f rfl ?_)
    exact h
end Go.Proofs.YtkokaflanlcojaaDoor.AW

open Go Go.Proofs.YtkokaflanlcojaaDoor.AW Go.Proofs
namespace Go.Proofs.YtkokaflanlcojaaDoor.AW
set_option maxRecDepth 100000

def enc (r : Nat) : List UInt8 := (Utf8.encode (r : Int)).data.toList
def bufv (bs : List UInt8) : AV := match bs with
  | [] => .p (.sl .nil 0 [])
  | b :: r => .osl 2 (bytesP (b :: r)).length 0 (bytesP (b :: r)).length
/-- The Builder, its new bytes not yet its own. -/
def aSt (bs nw : List UInt8) (it : Option AObj) : Store := [some (.cells [.ref 0 0, bufv bs] (some 65)), it, some (.buf 1 (bytesP (bs ++ nw)) (some 5))]

theorem bytesP_app (a b : List UInt8) : bytesP (a ++ b) = bytesP a ++ bytesP b := by simp [bytesP]
theorem or192 : ∀ x : Nat, x < 32 → bits .or .u8 192 (x : Int) = ((192 + x : Nat) : Int) := by decide +kernel
theorem or224 : ∀ x : Nat, x < 16 → bits .or .u8 224 (x : Int) = ((224 + x : Nat) : Int) := by decide +kernel
theorem or240 : ∀ x : Nat, x < 8 → bits .or .u8 240 (x : Int) = ((240 + x : Nat) : Int) := by decide +kernel
theorem or128 : ∀ x : Nat, x < 64 → bits .or .u8 128 (x : Int) = ((128 + x : Nat) : Int) := by decide +kernel
theorem and63 : ∀ x : Nat, x < 256 → bits .and .u8 (x : Int) 63 = ((x % 64 : Nat) : Int) := by decide +kernel
theorem wu8 (x : Nat) : IntKind.u8.wrap (x : Int) = ((x % 256 : Nat) : Int) := by rw [IntKind.wrap_u8]; omega
theorem fd32 (x k : Nat) (y : Int) (hy : y = (k : Int)) (hk : k ≤ 32) : Int.fdiv (x : Int) (2 ^ min y.toNat IntKind.i32.bits) = ((x / 2 ^ k : Nat) : Int) := by
  subst hy
  have e : min (Int.toNat (k : Int)) IntKind.i32.bits = k := by simp [IntKind.bits]; omega
  rw [e, Int.fdiv_eq_ediv_of_nonneg _ (by exact_mod_cast Nat.zero_le _)]
  norm_cast

/-- Something is appended to the bytes. -/
theorem app_any (bs nw : List UInt8) (ys : List PV) (it : Option AObj) (hy : ys = bytesP nw) (hne : ys ≠ []) (hb : bs.length < 70368744177664) (hn : nw.length ≤ 4) (K : AV → Store → Prop) (h : K (bufv (bs ++ nw)) (aSt bs nw it)) :
    appA Tryd.prog 63 (bufv bs) 1 ys (bSt1 bs it) K := by
  subst hy
  cases nw with
  | nil => exact absurd rfl hne
  | cons n ns =>
    cases bs with
    | nil =>
      refine BrL.c (Ob.mk ?_ h)
      have hby : Tryd.prog.types[5].bytes = 1 := rfl
      show (bytesP (n :: ns)).length * Tryd.prog.types[5].bytes ≤ 140737488355328
      rw [hby]; simp [bytesP] at hn ⊢; omega
    | cons b r =>
      have hby : Tryd.prog.types[5].bytes = 1 := rfl
      have e : bytesP (b :: r) ++ bytesP (n :: ns) = bytesP ((b :: r) ++ (n :: ns)) := (bytesP_app _ _).symm
      refine Ob.mk ⟨rfl, rfl, rfl, ?_⟩ ?_
      · show ((bytesP (b :: r)).length + (bytesP (n :: ns)).length) * Tryd.prog.types[5].bytes ≤ 140737488355328
        rw [hby]; simp [bytesP] at hb hn ⊢; omega
      · have h2 : K (.osl 2 (bytesP ((b :: r) ++ (n :: ns))).length 0 (bytesP ((b :: r) ++ (n :: ns))).length) [some (.cells [.ref 0 0, bufv (b :: r)] (some 65)), it, some (.buf 1 (bytesP ((b :: r) ++ (n :: ns))) (some 5))] := h
        rw [← e] at h2
        exact h2
end Go.Proofs.YtkokaflanlcojaaDoor.AW

open Go Go.Proofs.YtkokaflanlcojaaDoor.AW Go.Proofs
namespace Go.Proofs.YtkokaflanlcojaaDoor.AW
set_option maxRecDepth 100000

theorem enc_2 {r : Nat} (h1 : 128 ≤ r) (h2 : r < 2048) : enc r = [UInt8.ofNat (192 + r / 64), UInt8.ofNat (128 + r % 64)] := by
  unfold enc Utf8.encode Utf8.valid
  have e : ((decide ((0 : Int) ≤ (r : Int)) && decide ((r : Int) < 55296)) || (decide ((57344 : Int) ≤ (r : Int)) && decide ((r : Int) ≤ 1114111))) = true := by simp; omega
  simp only [e, if_true, Int.toNat_natCast]
  rw [if_neg (by omega), if_pos h2]
theorem enc_3 {r : Nat} (h1 : 2048 ≤ r) (h2 : r < 65536) (h3 : ¬ (55296 ≤ r ∧ r < 57344)) : enc r = [UInt8.ofNat (224 + r / 4096), UInt8.ofNat (128 + r / 64 % 64), UInt8.ofNat (128 + r % 64)] := by
  unfold enc Utf8.encode Utf8.valid
  have e : ((decide ((0 : Int) ≤ (r : Int)) && decide ((r : Int) < 55296)) || (decide ((57344 : Int) ≤ (r : Int)) && decide ((r : Int) ≤ 1114111))) = true := by simp; omega
  simp only [e, if_true, Int.toNat_natCast]
  rw [if_neg (by omega), if_neg (by omega), if_pos h2]
theorem enc_4 {r : Nat} (h1 : 65536 ≤ r) (h2 : r ≤ 1114111) : enc r = [UInt8.ofNat (240 + r / 262144), UInt8.ofNat (128 + r / 4096 % 64), UInt8.ofNat (128 + r / 64 % 64), UInt8.ofNat (128 + r % 64)] := by
  unfold enc Utf8.encode Utf8.valid
  have e : ((decide ((0 : Int) ≤ (r : Int)) && decide ((r : Int) < 55296)) || (decide ((57344 : Int) ≤ (r : Int)) && decide ((r : Int) ≤ 1114111))) = true := by simp; omega
  simp only [e, if_true, Int.toNat_natCast]
  rw [if_neg (by omega), if_neg (by omega), if_neg (by omega)]
theorem enc_1 {r : Nat} (h : r < 128) : enc r = [UInt8.ofNat r] := by
  unfold enc Utf8.encode Utf8.valid
  have e : ((decide ((0 : Int) ≤ (r : Int)) && decide ((r : Int) < 55296)) || (decide ((57344 : Int) ≤ (r : Int)) && decide ((r : Int) ≤ 1114111))) = true := by simp; omega
  simp only [e, if_true, Int.toNat_natCast]
  rw [if_pos h]

theorem ofn {n : Nat} (h : n < 256) : ((UInt8.ofNat n).toNat : Int) = (n : Int) := by simp; omega

theorem nonASCII_c (bs : List UInt8) (it : Option AObj) (r : Nat) (h1 : 128 ≤ r) (h2 : r ≤ 1114111) (h3 : ¬ (55296 ≤ r ∧ r < 57344)) (hb : bs.length < 70368744177664) (K : AV → Store → Prop) (h : K (bufv (bs ++ enc r)) (aSt bs (enc r) it)) :
    Cal Tryd.prog 72 [bufv bs, .p (.int .i32 r)] (bSt1 bs it) K := by
  refine Cal.intro Tryd.func72 (by decide +kernel) rfl rfl ?_
  have hw : IntKind.u32.wrap (r : Int) = (r : Int) := by rw [IntKind.wrap_u32]; omega
  have f6 := fd32 r 6 6 rfl (by omega)
  have f12 := fd32 r 12 12 rfl (by omega)
  have f18 := fd32 r 18 18 rfl (by omega)
  by_cases c2 : r < 2048
  · have he := enc_2 h1 c2
    rw [he] at h
    have v0 : bits .or .u8 192 (IntKind.u8.wrap (Int.fdiv (r : Int) (2 ^ min (6 : Int).toNat IntKind.i32.bits))) = ((UInt8.ofNat (192 + r / 64)).toNat : Int) := by
      rw [f6, wu8, or192 _ (by omega), ofn (by omega)]; omega
    have v1 : bits .or .u8 128 (bits .and .u8 (IntKind.u8.wrap (r : Int)) 63) = ((UInt8.ofNat (128 + r % 64)).toNat : Int) := by
      rw [wu8, and63 _ (by omega), or128 _ (by omega), ofn (by omega)]; omega
    cases bs
    all_goals
      refine Br.t (by rw [hw]; simp; omega) ?_
      refine Ob.mk (by decide) ?_
      refine .inl (app_any _ _ _ it ?_ (by simp) hb (by simp) _ h)
      show [PV.int .u8 (bits .or .u8 192 (IntKind.u8.wrap (Int.fdiv (r : Int) (2 ^ min (6 : Int).toNat IntKind.i32.bits)))), PV.int .u8 (bits .or .u8 128 (bits .and .u8 (IntKind.u8.wrap (r : Int)) 63))] = _
      rw [v0, v1]; rfl
  · by_cases c3 : r < 65536
    · by_cases c4 : r < 55296
      · have he := enc_3 (by omega) c3 h3
        rw [he] at h
        have v0 : bits .or .u8 224 (IntKind.u8.wrap (Int.fdiv (r : Int) (2 ^ min (12 : Int).toNat IntKind.i32.bits))) = ((UInt8.ofNat (224 + r / 4096)).toNat : Int) := by
          rw [f12, wu8, or224 _ (by omega), ofn (by omega)]; omega
        have v1 : bits .or .u8 128 (bits .and .u8 (IntKind.u8.wrap (Int.fdiv (r : Int) (2 ^ min (6 : Int).toNat IntKind.i32.bits))) 63) = ((UInt8.ofNat (128 + r / 64 % 64)).toNat : Int) := by
          rw [f6, wu8, and63 _ (by omega), or128 _ (by omega), ofn (by omega)]; omega
        have v2 : bits .or .u8 128 (bits .and .u8 (IntKind.u8.wrap (r : Int)) 63) = ((UInt8.ofNat (128 + r % 64)).toNat : Int) := by
          rw [wu8, and63 _ (by omega), or128 _ (by omega), ofn (by omega)]; omega
        cases bs
        all_goals
          refine Br.f (by rw [hw]; simp; omega) ?_
          refine Br.t (by rw [hw]; simp; omega) ?_
          refine Br.t (by rw [hw]; simp; omega) ?_
          iterate 2 refine Ob.mk (by decide) ?_
          refine .inl (app_any _ _ _ it ?_ (by simp) hb (by simp) _ h)
          show [PV.int .u8 (bits .or .u8 224 (IntKind.u8.wrap (Int.fdiv (r : Int) (2 ^ min (12 : Int).toNat IntKind.i32.bits)))), PV.int .u8 (bits .or .u8 128 (bits .and .u8 (IntKind.u8.wrap (Int.fdiv (r : Int) (2 ^ min (6 : Int).toNat IntKind.i32.bits))) 63)), PV.int .u8 (bits .or .u8 128 (bits .and .u8 (IntKind.u8.wrap (r : Int)) 63))] = _
          rw [v0, v1, v2]; rfl
      · have he := enc_3 (by omega) c3 h3
        rw [he] at h
        have v0 : bits .or .u8 224 (IntKind.u8.wrap (Int.fdiv (r : Int) (2 ^ min (12 : Int).toNat IntKind.i32.bits))) = ((UInt8.ofNat (224 + r / 4096)).toNat : Int) := by
          rw [f12, wu8, or224 _ (by omega), ofn (by omega)]; omega
        have v1 : bits .or .u8 128 (bits .and .u8 (IntKind.u8.wrap (Int.fdiv (r : Int) (2 ^ min (6 : Int).toNat IntKind.i32.bits))) 63) = ((UInt8.ofNat (128 + r / 64 % 64)).toNat : Int) := by
          rw [f6, wu8, and63 _ (by omega), or128 _ (by omega), ofn (by omega)]; omega
        have v2 : bits .or .u8 128 (bits .and .u8 (IntKind.u8.wrap (r : Int)) 63) = ((UInt8.ofNat (128 + r % 64)).toNat : Int) := by
          rw [wu8, and63 _ (by omega), or128 _ (by omega), ofn (by omega)]; omega
        cases bs
        all_goals
          refine Br.f (by rw [hw]; simp; omega) ?_
          refine Br.f (by rw [hw]; simp; omega) ?_
          repeat refine Br.t (by first | rfl | (rw [hw]; simp; omega)) ?_
          iterate 2 refine Ob.mk (by decide) ?_
          refine .inl (app_any _ _ _ it ?_ (by simp) hb (by simp) _ h)
          show [PV.int .u8 (bits .or .u8 224 (IntKind.u8.wrap (Int.fdiv (r : Int) (2 ^ min (12 : Int).toNat IntKind.i32.bits)))), PV.int .u8 (bits .or .u8 128 (bits .and .u8 (IntKind.u8.wrap (Int.fdiv (r : Int) (2 ^ min (6 : Int).toNat IntKind.i32.bits))) 63)), PV.int .u8 (bits .or .u8 128 (bits .and .u8 (IntKind.u8.wrap (r : Int)) 63))] = _
          rw [v0, v1, v2]; rfl
    · have he := enc_4 (by omega) h2
      rw [he] at h
      have v0 : bits .or .u8 240 (IntKind.u8.wrap (Int.fdiv (r : Int) (2 ^ min (18 : Int).toNat IntKind.i32.bits))) = ((UInt8.ofNat (240 + r / 262144)).toNat : Int) := by
        rw [f18, wu8, or240 _ (by omega), ofn (by omega)]; omega
      have v1 : bits .or .u8 128 (bits .and .u8 (IntKind.u8.wrap (Int.fdiv (r : Int) (2 ^ min (12 : Int).toNat IntKind.i32.bits))) 63) = ((UInt8.ofNat (128 + r / 4096 % 64)).toNat : Int) := by
        rw [f12, wu8, and63 _ (by omega), or128 _ (by omega), ofn (by omega)]; omega
      have v2 : bits .or .u8 128 (bits .and .u8 (IntKind.u8.wrap (Int.fdiv (r : Int) (2 ^ min (6 : Int).toNat IntKind.i32.bits))) 63) = ((UInt8.ofNat (128 + r / 64 % 64)).toNat : Int) := by
        rw [f6, wu8, and63 _ (by omega), or128 _ (by omega), ofn (by omega)]; omega
      have v3 : bits .or .u8 128 (bits .and .u8 (IntKind.u8.wrap (r : Int)) 63) = ((UInt8.ofNat (128 + r % 64)).toNat : Int) := by
        rw [wu8, and63 _ (by omega), or128 _ (by omega), ofn (by omega)]; omega
      cases bs
      all_goals
        refine Br.f (by rw [hw]; simp; omega) ?_
        refine Br.f (by rw [hw]; simp; omega) ?_
        repeat first | refine Br.t (by first | rfl | (rw [hw]; simp; omega)) ?_ | refine Br.f (by first | rfl | (rw [hw]; simp; omega)) ?_
        iterate 3 refine Ob.mk (by decide) ?_
        refine .inl (app_any _ _ _ it ?_ (by simp) hb (by simp) _ h)
        show [PV.int .u8 (bits .or .u8 240 (IntKind.u8.wrap (Int.fdiv (r : Int) (2 ^ min (18 : Int).toNat IntKind.i32.bits)))), PV.int .u8 (bits .or .u8 128 (bits .and .u8 (IntKind.u8.wrap (Int.fdiv (r : Int) (2 ^ min (12 : Int).toNat IntKind.i32.bits))) 63)), PV.int .u8 (bits .or .u8 128 (bits .and .u8 (IntKind.u8.wrap (Int.fdiv (r : Int) (2 ^ min (6 : Int).toNat IntKind.i32.bits))) 63)), PV.int .u8 (bits .or .u8 128 (bits .and .u8 (IntKind.u8.wrap (r : Int)) 63))] = _
        rw [v0, v1, v2, v3]; rfl
end Go.Proofs.YtkokaflanlcojaaDoor.AW

open Go Go.Proofs.YtkokaflanlcojaaDoor.AW Go.Proofs
namespace Go.Proofs.YtkokaflanlcojaaDoor.AW
set_option maxRecDepth 100000

/-- A rune that a text may hold. -/
def okR (r : Nat) : Prop := r ≤ 1114111 ∧ ¬ (55296 ≤ r ∧ r < 57344)
theorem enc_ne {r : Nat} (h : okR r) : ∃ e es, enc r = e :: es ∧ es.length ≤ 3 := by
  obtain ⟨h2, h3⟩ := h
  by_cases c1 : r < 128
  · exact ⟨_, _, enc_1 c1, by simp⟩
  · by_cases c2 : r < 2048
    · exact ⟨_, _, enc_2 (by omega) c2, by simp⟩
    · by_cases c3 : r < 65536
      · exact ⟨_, _, enc_3 (by omega) c3 h3, by simp⟩
      · exact ⟨_, _, enc_4 (by omega) h2, by simp⟩

theorem appendRune_c (bs : List UInt8) (it : Option AObj) (r : Nat) (hr : okR r) (hb : bs.length < 70368744177664) (K : AV → Store → Prop) (h : K (bufv (bs ++ enc r)) (aSt bs (enc r) it)) :
    Cal Tryd.prog 54 [bufv bs, .p (.int .i32 r)] (bSt1 bs it) K := by
  have hr2 := hr.1
  refine Cal.intro Tryd.func54 (by decide +kernel) rfl rfl ?_
  have hw : IntKind.u32.wrap (r : Int) = (r : Int) := by rw [IntKind.wrap_u32]; omega
  by_cases c1 : r < 128
  · have he := enc_1 c1
    rw [he] at h
    have v0 : IntKind.u8.wrap (r : Int) = ((UInt8.ofNat r).toNat : Int) := by rw [wu8, ofn (by omega)]; omega
    cases bs
    all_goals
      refine Br.t (by rw [hw]; simp; omega) ?_
      refine .inl (app_any _ _ _ it ?_ (by simp) hb (by simp) _ h)
      show [PV.int .u8 (IntKind.u8.wrap (r : Int))] = _
      rw [v0]; rfl
  · cases bs with
    | nil =>
      refine Br.f (by rw [hw]; simp; omega) ?_
      obtain ⟨e, es, he, _⟩ := enc_ne hr
      have hc := fun K h => nonASCII_c [] it r (by omega) hr.1 hr.2 hb K h
      rw [he] at hc h
      refine hc _ ?_
      exact h
    | cons b rs =>
      refine Br.f (by rw [hw]; simp; omega) ?_
      obtain ⟨e, es, he, _⟩ := enc_ne hr
      have hc := fun K h => nonASCII_c (b :: rs) it r (by omega) hr.1 hr.2 hb K h
      rw [he] at hc h
      refine hc _ ?_
      exact h

theorem writeRune_c (bs : List UInt8) (it : Option AObj) (r : Nat) (hr : okR r) (hb : bs.length < 70368744177664) (K : AV → Store → Prop) (h : ∀ v, K v (bSt (bs ++ enc r) it)) : Cal Tryd.prog 36 [.ref 0 0, .p (.int .i32 r)] (bSt bs it) K := by
  refine Cal.intro Tryd.func36 (by decide +kernel) rfl rfl ?_
  refine copyCheck_c bs it _ ?_
  obtain ⟨e, es, he, _⟩ := enc_ne hr
  have hc := fun K h => appendRune_c bs it r hr hb K h
  rw [he] at hc h
  cases bs with
  | nil =>
    refine hc _ ?_
    refine Ob.mk (okst rfl rfl rfl) ?_
    exact h _
  | cons b rs =>
    refine hc _ ?_
    refine Ob.mk (okst rfl rfl rfl) ?_
    exact h _

theorem writeByte_c (bs : List UInt8) (it : Option AObj) (c : UInt8) (hb : bs.length < 70368744177664) (K : AV → Store → Prop) (h : ∀ v, K v (bSt (bs ++ [c]) it)) : Cal Tryd.prog 37 [.ref 0 0, .p (.int .u8 c.toNat)] (bSt bs it) K := by
  refine Cal.intro Tryd.func37 (by decide +kernel) rfl rfl ?_
  refine copyCheck_c bs it _ ?_
  have hby : Tryd.prog.types[5].bytes = 1 := rfl
  cases bs with
  | nil =>
    refine .inl (BrL.c (Ob.mk (by rw [hby]; simp) ?_))
    refine Ob.mk (okst rfl rfl rfl) ?_
    exact h _
  | cons b rs =>
    have e : bytesP (b :: rs) ++ bytesP [c] = bytesP (b :: (rs ++ [c])) := (bytesP_app (b :: rs) [c]).symm
    have h2 : ∀ v, K v [some (.cells [.ref 0 0, .osl 2 (bytesP (b :: (rs ++ [c]))).length 0 (bytesP (b :: (rs ++ [c]))).length] (some 65)), it, some (.buf 1 (bytesP (b :: (rs ++ [c]))) (some 5))] := h
    rw [← e] at h2
    refine .inl (Ob.mk ⟨rfl, rfl, rfl, ?_⟩ ?_)
    · show ((bytesP (b :: rs)).length + 1) * Tryd.prog.types[5].bytes ≤ 140737488355328
      rw [hby]; simp [bytesP] at hb ⊢; omega
    refine Ob.mk (okst rfl rfl rfl) ?_
    exact h2 _

theorem bString_c (bs : List UInt8) (it : Option AObj) (hb : bs.length < 70368744177664) (K : AV → Store → Prop) (h : ∀ s', K (.p (.str bs)) s') : Cal Tryd.prog 38 [.ref 0 0] (bSt bs it) K := by
  refine Cal.intro Tryd.func38 (by decide +kernel) rfl rfl ?_
  cases bs with
  | nil =>
    iterate 10 refine ⟨_, ⟨rfl, rfl⟩, ?_⟩
    refine ⟨_, _, Ob.mk rfl ⟨rfl, rfl⟩, rfl, ?_⟩
    refine ⟨_, ⟨rfl, rfl⟩, ?_⟩
    refine Chk.mk (by kernel_rfl) ?_
    exact h _
  | cons b r =>
    have hl : (bytesP (b :: r)).length = r.length + 1 := by simp [bytesP]
    iterate 4 refine ⟨_, ⟨rfl, rfl⟩, ?_⟩
    refine ⟨_, Ob.mk ⟨rfl, by rw [hl]; omega⟩ ⟨rfl, rfl⟩, ?_⟩
    iterate 5 refine ⟨_, ⟨rfl, rfl⟩, ?_⟩
    refine ⟨_, _, Ob.mk ⟨rfl, by rw [hl]; omega, Int.le_refl _, by rw [hl]; simp at hb; omega⟩ ⟨b :: r, by rw [Int.toNat_natCast, List.take_length], ⟨rfl, rfl⟩⟩, rfl, ?_⟩
    refine ⟨_, ⟨rfl, rfl⟩, ?_⟩
    refine Chk.mk (by kernel_rfl) ?_
    exact h _
end Go.Proofs.YtkokaflanlcojaaDoor.AW

open Go Go.Proofs.YtkokaflanlcojaaDoor.AW Go.Proofs
namespace Go.Proofs.YtkokaflanlcojaaDoor.AW
set_option maxRecDepth 100000

def isPl (r : Nat) : Bool := (decide (97 ≤ r) && decide (r ≤ 122)) || ((decide (65 ≤ r) && decide (r ≤ 90)) || ((decide (48 ≤ r) && decide (r ≤ 57)) || (decide (255 < r) && (r != 65533))))
def hxTab : List UInt8 := [48, 49, 50, 51, 52, 53, 54, 55, 56, 57, 97, 98, 99, 100, 101, 102]
def hx (n : Nat) : UInt8 := hxTab.getD n 0
def hexR (r : Nat) : List UInt8 := [hx (r / 4096 % 16), hx (r / 256 % 16), hx (r / 16 % 16), hx (r % 16)]
def plR (r : Nat) : List UInt8 := if isPl r then enc r else 92 :: hexR r
def plS (l : List UInt8) : List UInt8 := (rns l).flatMap fun r => plR r.toNat

theorem decode_okR (l : List UInt8) : okR (decode l).1 := by
  unfold okR decode Utf8.decode Utf8.valid
  simp only []
  repeat' split
  all_goals first
    | (simp [Utf8.runeError]; done)
    | (simp_all; omega)

theorem and15 (x : Nat) : bits .and .i32 (x : Int) 15 = ((x % 16 : Nat) : Int) := by
  have e : (BitVec.ofInt 32 (x : Int) &&& BitVec.ofInt 32 15).toNat = x % 16 := by
    rw [BitVec.toNat_and, BitVec.toNat_ofInt]
    have e1 : (BitVec.ofInt 32 15).toNat = 2 ^ 4 - 1 := by decide
    rw [e1, Nat.and_two_pow_sub_one_eq_mod]
    omega
  unfold bits
  show IntKind.i32.wrap (((BitVec.ofInt 32 (x : Int) &&& BitVec.ofInt 32 15).toNat : Nat) : Int) = _
  rw [e, IntKind.wrap_i32]; omega

theorem plain_c (r : Nat) (s : Store) (K : AV → Store → Prop) (h : K (.p (.bool (isPl r))) s) : Cal Tryd.prog 35 [.p (.int .i32 r)] s K := by
  refine Cal.pure (args := [.int .i32 r]) ?_
  refine Cal.intro Tryd.func35 (by decide +kernel) rfl rfl ?_
  have fin : ∀ b, b = isPl r → K (.p (.bool b)) s := fun b hb => by rw [hb]; exact h
  by_cases a1 : 97 ≤ r <;> by_cases a2 : r ≤ 122 <;> by_cases a3 : 65 ≤ r <;> by_cases a4 : r ≤ 90 <;> by_cases a5 : 48 ≤ r <;> by_cases a6 : r ≤ 57 <;> by_cases a7 : 255 < r <;> by_cases a8 : r = 65533
  all_goals first
    | omega
    | skip
  all_goals
    repeat first | refine Br.t (by first | rfl | (simp; done) | (simp; omega)) ?_ | refine Br.f (by first | rfl | (simp; done) | (simp; omega)) ?_
    refine fin _ ?_
    rw [Bool.eq_iff_iff]
    unfold isPl
    simp
    try omega
end Go.Proofs.YtkokaflanlcojaaDoor.AW
