/- A part of the proof: LG/G17. -/
import Derived.Test.YtjhgmaephpadpaaGreatP9

open Go Go.Proofs.YtjhgmaephpadpaaGreat.AW Go.Proofs
namespace Go.Proofs.YtjhgmaephpadpaaGreat.AW
set_option maxRecDepth 100000
set_option linter.unusedSimpArgs false
set_option linter.unusedVariables false

/-! ### What is compared with itself is the same -/
def prsP (L : List Pr) : PV := .sl .shr 4 (L.map Pr.pv)
theorem prsL (L : List Pr) : (L.map Pr.pv).length = L.length := List.length_map ..
theorem getP {L : List Pr} {j : Nat} (h : j < L.length) : (L.map Pr.pv)[((j : Nat) : Int).toNat]? = some L[j].pv := by
  rw [Int.toNat_natCast]; simp [h]
end Go.Proofs.YtjhgmaephpadpaaGreat.AW
