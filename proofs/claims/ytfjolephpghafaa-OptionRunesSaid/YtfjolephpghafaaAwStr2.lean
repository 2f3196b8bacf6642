import Derived.Test.YtfjolephpghafaaAwStr
namespace Go.Proofs.Ytfjolephpghafaa.AW

/-- A byte at which a rune may begin. -/
def begins (c : UInt8) : Prop := ¬ c.toNat / 64 = 2

theorem decode_edge {x : List UInt8} (hx : x ≠ []) {c : UInt8} (hc : begins c) (y : List UInt8) : decode (x ++ c :: y) = decode x := by
  unfold begins at hc
  unfold decode Utf8.decode
  match x, hx with
  | [a], _ => simp [ByteArray.get!, ByteArray.size, hc]
  | [a, b], _ => simp [ByteArray.get!, ByteArray.size, hc]
  | [a, b, d], _ => simp [ByteArray.get!, ByteArray.size, hc]
  | a :: b :: d :: e :: r, _ =>
    have h2 : 2 < r.length + 1 + 1 + 1 + 1 := by omega
    have h3 : 3 < r.length + 1 + 1 + 1 + 1 := by omega
    have h4 : 2 < r.length + (y.length + 1) + 1 + 1 + 1 + 1 := by omega
    have h5 : 3 < r.length + (y.length + 1) + 1 + 1 + 1 + 1 := by omega
    simp [ByteArray.get!, ByteArray.size, h2, h3, h4, h5]

theorem rns_edge : ∀ (n : Nat) (x : List UInt8), x.length = n → ∀ {c : UInt8}, begins c → ∀ y, rns (x ++ c :: y) = rns x ++ rns (c :: y) := by
  intro n
  induction n using Nat.strongRecOn with
  | _ n ih =>
    intro x hl c hc y
    cases x with
    | nil => rfl
    | cons a r =>
      have hne : a :: r ≠ [] := by simp
      have hne2 : a :: r ++ c :: y ≠ [] := by simp
      have h1 := decode_pos (a :: r)
      have h2 := decode_le hne
      have h3 : ((a :: r).drop (decode (a :: r)).2).length < n := by rw [List.length_drop]; simp only [List.length_cons] at *; omega
      rw [rns_step hne2, rns_step hne, decode_edge hne hc, List.drop_append_of_le_length h2, ih _ h3 _ rfl hc]
      rfl

theorem decode_ascii {c : UInt8} (hc : c.toNat < 128) (y : List UInt8) : decode (c :: y) = (c.toNat, 1) := by
  unfold decode Utf8.decode
  simp [ByteArray.get!, hc]

theorem rns_ascii {c : UInt8} (hc : c.toNat < 128) (y : List UInt8) : rns (c :: y) = (c.toNat : Int) :: rns y := by
  rw [rns_step (by simp), decode_ascii hc]; rfl

theorem rns_blank (x y : List UInt8) : (rns (x ++ [32] ++ y)).length = (rns x).length + (rns y).length + 1 := by
  have : x ++ [32] ++ y = x ++ 32 :: y := by simp
  rw [this, rns_edge _ x rfl (by unfold begins; decide) y, rns_ascii (by decide) y]
  simp; omega
end Go.Proofs.Ytfjolephpghafaa.AW
