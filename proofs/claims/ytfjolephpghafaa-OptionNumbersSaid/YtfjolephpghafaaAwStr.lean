import Derived.Test.YtfjolephpghafaaAwPure
namespace Go.Proofs.Ytfjolephpghafaa.AW

theorem decode_pos (l : List UInt8) : 1 ≤ (decode l).2 := by
  unfold decode Utf8.decode
  simp only []
  repeat' split
  all_goals simp

theorem decode_le {l : List UInt8} (h : l ≠ []) : (decode l).2 ≤ l.length := by
  have hs : (⟨l.toArray⟩ : ByteArray).size = l.length := by simp [ByteArray.size]
  have hpos : 0 < l.length := List.length_pos_iff.2 h
  unfold decode Utf8.decode
  simp only [hs]
  repeat' split
  all_goals simp_all
  all_goals omega

theorem runes_fuel : ∀ (n : Nat) (l : List UInt8), l.length ≤ n → runes n l = runes l.length l := by
  intro n
  induction n using Nat.strongRecOn with
  | _ n ih =>
    intro l hl
    cases l with
    | nil => cases n <;> rfl
    | cons b r =>
      cases n with
      | zero => simp at hl
      | succ n =>
        simp only [runes, List.length_cons]
        have h1 := decode_pos (b :: r)
        have hlen : ((b :: r).drop (decode (b :: r)).2).length ≤ r.length := by simp; omega
        simp only [List.length_cons] at hl
        rw [ih n (by omega) _ (by omega)]
        by_cases hn : r.length < n + 1
        · rw [ih r.length hn _ hlen]
        · have : n = r.length := by omega
          subst this
          rw [ih r.length (by omega) _ hlen]

/-- The runes of a text. -/
def rns (l : List UInt8) : List Int := runes l.length l

theorem rns_nil : rns [] = [] := rfl
theorem rns_step {l : List UInt8} (h : l ≠ []) : rns l = ((decode l).1 : Int) :: rns (l.drop (decode l).2) := by
  unfold rns
  cases l with
  | nil => exact absurd rfl h
  | cons b r =>
    rw [List.length_cons, runes]
    rw [runes_fuel r.length _ (by have := decode_pos (b :: r); simp; omega)]

theorem rns_len : ∀ (n : Nat) (l : List UInt8), l.length = n → (rns l).length ≤ n := by
  intro n
  induction n using Nat.strongRecOn with
  | _ n ih =>
    intro l hl
    cases l with
    | nil => simp [rns_nil]
    | cons b r =>
      have hne : b :: r ≠ [] := by simp
      rw [rns_step hne]
      have h1 := decode_pos (b :: r)
      have h2 := decode_le hne
      have := ih ((b :: r).drop (decode (b :: r)).2).length (by simp at hl ⊢; omega) _ rfl
      simp only [List.length_cons, List.length_drop] at this hl h2 ⊢
      omega
theorem rns_le (l : List UInt8) : (rns l).length ≤ l.length := rns_len _ l rfl

theorem wrap_i64 {n : Int} (h1 : -9223372036854775808 ≤ n) (h2 : n < 9223372036854775808) : IntKind.i64.wrap n = n := by
  rw [IntKind.wrap_i64]; omega
end Go.Proofs.Ytfjolephpghafaa.AW
