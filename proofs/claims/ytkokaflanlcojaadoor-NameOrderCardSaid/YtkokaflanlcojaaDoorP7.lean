/- A part of the proof: LB/U1. -/
import Derived.Test.YtkokaflanlcojaaDoorP6
open Go Go.Proofs.YtkokaflanlcojaaDoor.AW Go.Proofs
namespace Go.Proofs.YtkokaflanlcojaaDoor.AW
set_option maxRecDepth 100000
set_option linter.unusedSimpArgs false
set_option linter.unusedVariables false

theorem ofn' {n : Nat} (h : n < 256) : (UInt8.ofNat n).toNat = n := by simp; omega

theorem dec2 (a b : UInt8) (t : List UInt8) (h0 : ¬ a.toNat < 128) (h1 : a.toNat / 32 = 6) (h2 : b.toNat / 64 = 2) (h3 : 128 ≤ a.toNat % 32 * 64 + b.toNat % 64) : decode (a :: b :: t) = (a.toNat % 32 * 64 + b.toNat % 64, 2) := by
  unfold decode Utf8.decode
  simp [ByteArray.get!, ByteArray.size, h0, h1, h2, h3]
theorem dec3 (a b c : UInt8) (t : List UInt8) (h0 : ¬ a.toNat < 128) (h1 : ¬ a.toNat / 32 = 6) (h1' : a.toNat / 16 = 14) (h2 : b.toNat / 64 = 2) (h2' : c.toNat / 64 = 2)
    (h3 : 2048 ≤ a.toNat % 16 * 4096 + b.toNat % 64 * 64 + c.toNat % 64) (h4 : Utf8.valid ((a.toNat % 16 * 4096 + b.toNat % 64 * 64 + c.toNat % 64 : Nat) : Int) = true) : decode (a :: b :: c :: t) = (a.toNat % 16 * 4096 + b.toNat % 64 * 64 + c.toNat % 64, 3) := by
  have hl : 2 < t.length + 1 + 1 + 1 := by omega
  have h4 : Utf8.valid ((a.toNat : Int) % 16 * 4096 + (b.toNat : Int) % 64 * 64 + (c.toNat : Int) % 64) = true := by simpa using h4
  unfold decode Utf8.decode
  simp [ByteArray.get!, ByteArray.size, h0, h1, h1', h2, h2', h3, h4, hl]
theorem dec4 (a b c d : UInt8) (t : List UInt8) (h0 : ¬ a.toNat < 128) (h1 : ¬ a.toNat / 32 = 6) (h1' : ¬ a.toNat / 16 = 14) (h1'' : a.toNat / 8 = 30) (h2 : b.toNat / 64 = 2) (h2' : c.toNat / 64 = 2) (h2'' : d.toNat / 64 = 2)
    (h3 : 65536 ≤ a.toNat % 8 * 262144 + b.toNat % 64 * 4096 + c.toNat % 64 * 64 + d.toNat % 64) (h4 : Utf8.valid ((a.toNat % 8 * 262144 + b.toNat % 64 * 4096 + c.toNat % 64 * 64 + d.toNat % 64 : Nat) : Int) = true) :
    decode (a :: b :: c :: d :: t) = (a.toNat % 8 * 262144 + b.toNat % 64 * 4096 + c.toNat % 64 * 64 + d.toNat % 64, 4) := by
  have hl : 2 < t.length + 1 + 1 + 1 + 1 := by omega
  have hl3 : 3 < t.length + 1 + 1 + 1 + 1 := by omega
  have h4 : Utf8.valid ((a.toNat : Int) % 8 * 262144 + (b.toNat : Int) % 64 * 4096 + (c.toNat : Int) % 64 * 64 + (d.toNat : Int) % 64) = true := by simpa using h4
  unfold decode Utf8.decode
  simp [ByteArray.get!, ByteArray.size, h0, h1, h1', h1'', h2, h2', h2'', h3, h4, hl, hl3]
theorem decode_enc (r : Nat) (h : okR r) (t : List UInt8) : decode (enc r ++ t) = (r, (enc r).length) := by
  obtain ⟨h1, h2⟩ := h
  by_cases c1 : r < 128
  · rw [enc_1 c1]
    have := decode_ascii (c := UInt8.ofNat r) (by rw [ofn' (by omega)]; exact c1) t
    rw [ofn' (by omega)] at this
    simpa using this
  · by_cases c2 : r < 2048
    · rw [enc_2 (by omega) c2]
      have e0 : (UInt8.ofNat (192 + r / 64)).toNat = 192 + r / 64 := ofn' (by omega)
      have e1 : (UInt8.ofNat (128 + r % 64)).toNat = 128 + r % 64 := ofn' (by omega)
      have := dec2 (UInt8.ofNat (192 + r / 64)) (UInt8.ofNat (128 + r % 64)) t (by omega) (by omega) (by omega) (by omega)
      rw [e0, e1] at this
      rw [show (192 + r / 64) % 32 * 64 + (128 + r % 64) % 64 = r by omega] at this
      exact this
    · by_cases c3 : r < 65536
      · rw [enc_3 (by omega) c3 h2]
        have e0 : (UInt8.ofNat (224 + r / 4096)).toNat = 224 + r / 4096 := ofn' (by omega)
        have e1 : (UInt8.ofNat (128 + r / 64 % 64)).toNat = 128 + r / 64 % 64 := ofn' (by omega)
        have e2 : (UInt8.ofNat (128 + r % 64)).toNat = 128 + r % 64 := ofn' (by omega)
        have f3 : (224 + r / 4096) % 16 * 4096 + (128 + r / 64 % 64) % 64 * 64 + (128 + r % 64) % 64 = r := by omega
        have := dec3 (UInt8.ofNat (224 + r / 4096)) (UInt8.ofNat (128 + r / 64 % 64)) (UInt8.ofNat (128 + r % 64)) t (by omega) (by omega) (by omega) (by omega) (by omega) (by rw [e0, e1, e2]; omega)
          (by rw [e0, e1, e2, f3]; unfold Utf8.valid; simp; omega)
        rw [e0, e1, e2, f3] at this
        exact this
      · rw [enc_4 (by omega) h1]
        have e0 : (UInt8.ofNat (240 + r / 262144)).toNat = 240 + r / 262144 := ofn' (by omega)
        have e1 : (UInt8.ofNat (128 + r / 4096 % 64)).toNat = 128 + r / 4096 % 64 := ofn' (by omega)
        have e2 : (UInt8.ofNat (128 + r / 64 % 64)).toNat = 128 + r / 64 % 64 := ofn' (by omega)
        have e3 : (UInt8.ofNat (128 + r % 64)).toNat = 128 + r % 64 := ofn' (by omega)
        have f3 : (240 + r / 262144) % 8 * 262144 + (128 + r / 4096 % 64) % 64 * 4096 + (128 + r / 64 % 64) % 64 * 64 + (128 + r % 64) % 64 = r := by omega
        have := dec4 (UInt8.ofNat (240 + r / 262144)) (UInt8.ofNat (128 + r / 4096 % 64)) (UInt8.ofNat (128 + r / 64 % 64)) (UInt8.ofNat (128 + r % 64)) t (by omega) (by omega) (by omega) (by omega) (by omega) (by omega) (by omega) (by rw [e0, e1, e2, e3]; omega)
          (by rw [e0, e1, e2, e3, f3]; unfold Utf8.valid; simp; omega)
        rw [e0, e1, e2, e3, f3] at this
        exact this

theorem enc_nil (r : Nat) (h : okR r) : enc r ≠ [] := by
  obtain ⟨e, es, h1, _⟩ := enc_ne h
  rw [h1]; simp
theorem rns_enc (r : Nat) (h : okR r) (t : List UInt8) : rns (enc r ++ t) = (r : Int) :: rns t := by
  have hne : enc r ++ t ≠ [] := by simp [enc_nil r h]
  rw [rns_step hne, decode_enc r h t]
  simp
/-- Runes that may be. -/
def okL (l : List Int) : Prop := ∀ x, x ∈ l → ∃ r : Nat, x = (r : Int) ∧ okR r
theorem rns_ok : ∀ (n : Nat) (l : List UInt8), l.length = n → okL (rns l) := by
  intro n
  induction n using Nat.strongRecOn with
  | _ n ih =>
    intro l hl x hx
    cases l with
    | nil => simp [rns_nil] at hx
    | cons b r =>
      have hne : b :: r ≠ [] := by simp
      rw [rns_step hne] at hx
      rcases List.mem_cons.1 hx with rfl | hx
      · exact ⟨_, rfl, decode_okR _⟩
      · have h1 := decode_pos (b :: r)
        have h2 := decode_le hne
        exact ih _ (by rw [List.length_drop]; simp only [List.length_cons] at *; omega) _ rfl x hx
theorem okL_rns (l : List UInt8) : okL (rns l) := rns_ok _ l rfl
theorem encs_cons (r : Nat) (l : List Int) : encs ((r : Int) :: l) = enc r ++ encs l := rfl
theorem rns_encs : ∀ (l : List Int), okL l → rns (encs l) = l
  | [], _ => rfl
  | x :: l, h => by
    obtain ⟨r, rfl, hr⟩ := h x (by simp)
    rw [encs_cons, rns_enc r hr, rns_encs l fun y hy => h y (by simp [hy])]
/-- A text, its broken bytes made whole. -/
def clean (l : List UInt8) : List UInt8 := encs (rns l)
theorem rns_clean (l : List UInt8) : rns (clean l) = rns l := rns_encs _ (okL_rns l)
theorem clean_clean (l : List UInt8) : clean (clean l) = clean l := by unfold clean; rw [rns_encs _ (okL_rns l)]
theorem plS_clean (l : List UInt8) : plS (clean l) = plS l := by unfold plS; rw [rns_clean]
end Go.Proofs.YtkokaflanlcojaaDoor.AW
