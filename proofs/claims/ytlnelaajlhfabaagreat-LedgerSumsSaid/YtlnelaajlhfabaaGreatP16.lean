/- A part of the proof: LG/B9, LG/G30, LG/G37, LG/G38. -/
import Derived.Test.YtlnelaajlhfabaaGreatP15
import Derived.Test.YtlnelaajlhfabaaGreatP7
open Go Go.Proofs.YtlnelaajlhfabaaGreat.AW Go.Proofs
namespace Go.Proofs.YtlnelaajlhfabaaGreat.AW
set_option maxRecDepth 100000
set_option linter.unusedSimpArgs false
set_option linter.unusedVariables false
/-! ### Runes of texts -/
def enc (r : Nat) : List UInt8 := (Utf8.encode (r : Int)).data.toList
theorem enc_2 {r : Nat} (h1 : 128 ≤ r) (h2 : r < 2048) : enc r = [UInt8.ofNat (192 + r / 64), UInt8.ofNat (128 + r % 64)] := by
  unfold enc Utf8.encode Utf8.valid
  have e : ((decide ((0 : Int) ≤ (r : Int)) && decide ((r : Int) < 55296)) || (decide ((57344 : Int) ≤ (r : Int)) && decide ((r : Int) ≤ 1114111))) = true := by simp; omega
  simp only [e, if_true, Int.toNat_natCast]
  rw [if_neg (by omega), if_pos h2]
theorem enc_3 {r : Nat} (h1 : 2048 ≤ r) (h2 : r < 65536) (h3 : ¬ (55296 ≤ r ∧ r < 57344)) : enc r = [UInt8.ofNat (224 + r / 4096), UInt8.ofNat (128 + r / 64 % 64), UInt8.ofNat (128 + r % 64)] := by
  unfold enc Utf8.encode Utf8.valid
  have e : ((decide ((0 : Int) ≤ (r : Int)) && decide ((r : Int) < 55296)) || (decide ((57344 : Int) ≤ (r : Int)) && decide ((r : Int) ≤ 1114111))) = true := by simp; omega
  simp only [e, if_true, Int.toNat_natCast]
  rw [if_neg (by omega), if_neg (by omega), if_pos h2]
theorem enc_4 {r : Nat} (h1 : 65536 ≤ r) (h2 : r ≤ 1114111) : enc r = [UInt8.ofNat (240 + r / 262144), UInt8.ofNat (128 + r / 4096 % 64), UInt8.ofNat (128 + r / 64 % 64), UInt8.ofNat (128 + r % 64)] := by
  unfold enc Utf8.encode Utf8.valid
  have e : ((decide ((0 : Int) ≤ (r : Int)) && decide ((r : Int) < 55296)) || (decide ((57344 : Int) ≤ (r : Int)) && decide ((r : Int) ≤ 1114111))) = true := by simp; omega
  simp only [e, if_true, Int.toNat_natCast]
  rw [if_neg (by omega), if_neg (by omega), if_neg (by omega)]
theorem enc_1 {r : Nat} (h : r < 128) : enc r = [UInt8.ofNat r] := by
  unfold enc Utf8.encode Utf8.valid
  have e : ((decide ((0 : Int) ≤ (r : Int)) && decide ((r : Int) < 55296)) || (decide ((57344 : Int) ≤ (r : Int)) && decide ((r : Int) ≤ 1114111))) = true := by simp; omega
  simp only [e, if_true, Int.toNat_natCast]
  rw [if_pos h]
/-- A rune that a text may hold. -/
def okR (r : Nat) : Prop := r ≤ 1114111 ∧ ¬ (55296 ≤ r ∧ r < 57344)
theorem enc_ne {r : Nat} (h : okR r) : ∃ e es, enc r = e :: es ∧ es.length ≤ 3 := by
  obtain ⟨h2, h3⟩ := h
  by_cases c1 : r < 128
  · exact ⟨_, _, enc_1 c1, by simp⟩
  · by_cases c2 : r < 2048
    · exact ⟨_, _, enc_2 (by omega) c2, by simp⟩
    · by_cases c3 : r < 65536
      · exact ⟨_, _, enc_3 (by omega) c3 h3, by simp⟩
      · exact ⟨_, _, enc_4 (by omega) h2, by simp⟩
theorem decode_okR (l : List UInt8) : okR (decode l).1 := by
  unfold okR decode Utf8.decode Utf8.valid
  simp only []
  repeat' split
  all_goals first
    | (simp [Utf8.runeError]; done)
    | (simp_all; omega)
theorem ofn' {n : Nat} (h : n < 256) : (UInt8.ofNat n).toNat = n := by simp; omega
theorem dec2 (a b : UInt8) (t : List UInt8) (h0 : ¬ a.toNat < 128) (h1 : a.toNat / 32 = 6) (h2 : b.toNat / 64 = 2) (h3 : 128 ≤ a.toNat % 32 * 64 + b.toNat % 64) : decode (a :: b :: t) = (a.toNat % 32 * 64 + b.toNat % 64, 2) := by
  unfold decode Utf8.decode
  simp [ByteArray.get!, ByteArray.size, h0, h1, h2, h3]
theorem dec3 (a b c : UInt8) (t : List UInt8) (h0 : ¬ a.toNat < 128) (h1 : ¬ a.toNat / 32 = 6) (h1' : a.toNat / 16 = 14) (h2 : b.toNat / 64 = 2) (h2' : c.toNat / 64 = 2)
    (h3 : 2048 ≤ a.toNat % 16 * 4096 + b.toNat % 64 * 64 + c.toNat % 64) (h4 : Utf8.valid ((a.toNat % 16 * 4096 + b.toNat % 64 * 64 + c.toNat % 64 : Nat) : Int) = true) : decode (a :: b :: c :: t) = (a.toNat % 16 * 4096 + b.toNat % 64 * 64 + c.toNat % 64, 3) := by
  have hl : 2 < t.length + 1 + 1 + 1 := by omega
  have h4 : Utf8.valid ((a.toNat : Int) % 16 * 4096 + (b.toNat : Int) % 64 * 64 + (c.toNat : Int) % 64) = true := by simpa using h4
  unfold decode Utf8.decode
  simp [ByteArray.get!, ByteArray.size, h0, h1, h1', h2, h2', h3, h4, hl]
theorem dec4 (a b c d : UInt8) (t : List UInt8) (h0 : ¬ a.toNat < 128) (h1 : ¬ a.toNat / 32 = 6) (h1' : ¬ a.toNat / 16 = 14) (h1'' : a.toNat / 8 = 30) (h2 : b.toNat / 64 = 2) (h2' : c.toNat / 64 = 2) (h2'' : d.toNat / 64 = 2)
    (h3 : 65536 ≤ a.toNat % 8 * 262144 + b.toNat % 64 * 4096 + c.toNat % 64 * 64 + d.toNat % 64) (h4 : Utf8.valid ((a.toNat % 8 * 262144 + b.toNat % 64 * 4096 + c.toNat % 64 * 64 + d.toNat % 64 : Nat) : Int) = true) :
    decode (a :: b :: c :: d :: t) = (a.toNat % 8 * 262144 + b.toNat % 64 * 4096 + c.toNat % 64 * 64 + d.toNat % 64, 4) := by
  have hl : 2 < t.length + 1 + 1 + 1 + 1 := by omega
  have hl3 : 3 < t.length + 1 + 1 + 1 + 1 := by omega
  have h4 : Utf8.valid ((a.toNat : Int) % 8 * 262144 + (b.toNat : Int) % 64 * 4096 + (c.toNat : Int) % 64 * 64 + (d.toNat : Int) % 64) = true := by simpa using h4
  unfold decode Utf8.decode
  simp [ByteArray.get!, ByteArray.size, h0, h1, h1', h1'', h2, h2', h2'', h3, h4, hl, hl3]
theorem decode_enc (r : Nat) (h : okR r) (t : List UInt8) : decode (enc r ++ t) = (r, (enc r).length) := by
  obtain ⟨h1, h2⟩ := h
  by_cases c1 : r < 128
  · rw [enc_1 c1]
    have := decode_ascii (c := UInt8.ofNat r) (by rw [ofn' (by omega)]; exact c1) t
    rw [ofn' (by omega)] at this
    simpa using this
  · by_cases c2 : r < 2048
    · rw [enc_2 (by omega) c2]
      have e0 : (UInt8.ofNat (192 + r / 64)).toNat = 192 + r / 64 := ofn' (by omega)
      have e1 : (UInt8.ofNat (128 + r % 64)).toNat = 128 + r % 64 := ofn' (by omega)
      have := dec2 (UInt8.ofNat (192 + r / 64)) (UInt8.ofNat (128 + r % 64)) t (by omega) (by omega) (by omega) (by omega)
      rw [e0, e1] at this
      rw [show (192 + r / 64) % 32 * 64 + (128 + r % 64) % 64 = r by omega] at this
      exact this
    · by_cases c3 : r < 65536
      · rw [enc_3 (by omega) c3 h2]
        have e0 : (UInt8.ofNat (224 + r / 4096)).toNat = 224 + r / 4096 := ofn' (by omega)
        have e1 : (UInt8.ofNat (128 + r / 64 % 64)).toNat = 128 + r / 64 % 64 := ofn' (by omega)
        have e2 : (UInt8.ofNat (128 + r % 64)).toNat = 128 + r % 64 := ofn' (by omega)
        have f3 : (224 + r / 4096) % 16 * 4096 + (128 + r / 64 % 64) % 64 * 64 + (128 + r % 64) % 64 = r := by omega
        have := dec3 (UInt8.ofNat (224 + r / 4096)) (UInt8.ofNat (128 + r / 64 % 64)) (UInt8.ofNat (128 + r % 64)) t (by omega) (by omega) (by omega) (by omega) (by omega) (by rw [e0, e1, e2]; omega)
          (by rw [e0, e1, e2, f3]; unfold Utf8.valid; simp; omega)
        rw [e0, e1, e2, f3] at this
        exact this
      · rw [enc_4 (by omega) h1]
        have e0 : (UInt8.ofNat (240 + r / 262144)).toNat = 240 + r / 262144 := ofn' (by omega)
        have e1 : (UInt8.ofNat (128 + r / 4096 % 64)).toNat = 128 + r / 4096 % 64 := ofn' (by omega)
        have e2 : (UInt8.ofNat (128 + r / 64 % 64)).toNat = 128 + r / 64 % 64 := ofn' (by omega)
        have e3 : (UInt8.ofNat (128 + r % 64)).toNat = 128 + r % 64 := ofn' (by omega)
        have f3 : (240 + r / 262144) % 8 * 262144 + (128 + r / 4096 % 64) % 64 * 4096 + (128 + r / 64 % 64) % 64 * 64 + (128 + r % 64) % 64 = r := by omega
        have := dec4 (UInt8.ofNat (240 + r / 262144)) (UInt8.ofNat (128 + r / 4096 % 64)) (UInt8.ofNat (128 + r / 64 % 64)) (UInt8.ofNat (128 + r % 64)) t (by omega) (by omega) (by omega) (by omega) (by omega) (by omega) (by omega) (by rw [e0, e1, e2, e3]; omega)
          (by rw [e0, e1, e2, e3, f3]; unfold Utf8.valid; simp; omega)
        rw [e0, e1, e2, e3, f3] at this
        exact this
theorem enc_nil (r : Nat) (h : okR r) : enc r ≠ [] := by
  obtain ⟨e, es, h1, _⟩ := enc_ne h
  rw [h1]; simp
theorem rns_enc (r : Nat) (h : okR r) (t : List UInt8) : rns (enc r ++ t) = (r : Int) :: rns t := by
  have hne : enc r ++ t ≠ [] := by simp [enc_nil r h]
  rw [rns_step hne, decode_enc r h t]
  simp
/-- Runes that may be. -/
def okL (l : List Int) : Prop := ∀ x, x ∈ l → ∃ r : Nat, x = (r : Int) ∧ okR r
theorem rns_ok : ∀ (n : Nat) (l : List UInt8), l.length = n → okL (rns l) := by
  intro n
  induction n using Nat.strongRecOn with
  | _ n ih =>
    intro l hl x hx
    cases l with
    | nil => simp [rns_nil] at hx
    | cons b r =>
      have hne : b :: r ≠ [] := by simp
      rw [rns_step hne] at hx
      rcases List.mem_cons.1 hx with rfl | hx
      · exact ⟨_, rfl, decode_okR _⟩
      · have h1 := decode_pos (b :: r)
        have h2 := decode_le hne
        exact ih _ (by rw [List.length_drop]; simp only [List.length_cons] at *; omega) _ rfl x hx
theorem okL_rns (l : List UInt8) : okL (rns l) := rns_ok _ l rfl
theorem encs_cons (r : Nat) (l : List Int) : encs ((r : Int) :: l) = enc r ++ encs l := rfl
theorem rns_encs : ∀ (l : List Int), okL l → rns (encs l) = l
  | [], _ => rfl
  | x :: l, h => by
    obtain ⟨r, rfl, hr⟩ := h x (by simp)
    rw [encs_cons, rns_enc r hr, rns_encs l fun y hy => h y (by simp [hy])]
def encI (n : Int) : List UInt8 := (Utf8.encode n).data.toList
theorem encI_def (n : Int) : encI n = (Utf8.encode n).data.toList := by unfold encI; rfl
def intsR (l : List Int) : List PV := l.map (.int .i32)
theorem intsR_len (l : List Int) : (intsR l).length = l.length := by simp [intsR]
theorem intsR_get {l : List Int} {j : Nat} (h : j < l.length) : (intsR l)[j]? = some (.int .i32 l[j]) := by simp [intsR, h]
theorem intsR_app (a b : List Int) : intsR (a ++ b) = intsR a ++ intsR b := by simp [intsR]
theorem encs_len : ∀ l : List Int, (encs l).length ≤ 4 * l.length
  | [] => by simp [encs]
  | x :: l => by
    have ih := encs_len l
    have hx : (encI x).length ≤ 4 := by
      rw [encI_def]; unfold Utf8.encode
      simp only []
      repeat' split
      all_goals simp
    have e : encs (x :: l) = encI x ++ encs l := by unfold encs; rw [List.flatMap_cons, encI_def]
    rw [e, List.length_append, List.length_cons]; omega
def up (r : Int) : Int := if 97 ≤ r ∧ r ≤ 122 then r - 32 else r
def upper (l : List UInt8) : List UInt8 := encs ((rns l).map up)
theorem up_le {r : Int} (h : ¬ (97 ≤ r ∧ r ≤ 122)) : up r = r := by unfold up; rw [if_neg h]
theorem up_b {r : Int} (h : decide (r ≤ 122) = false) : r = up r := (up_le (by simp at h; omega)).symm
theorem encode_len (n : Int) : (Utf8.encode n).data.toList.length ≤ 4 := by
  have : (Utf8.encode n).size ≤ 4 := by
    unfold Utf8.encode
    simp only []
    repeat' split
    all_goals first
      | decide
      | simp [ByteArray.size]
      | skip
  rw [Array.length_toList]; exact this
theorem encs_snoc (l : List Int) (x : Int) : encs (l ++ [x]) = encs l ++ (Utf8.encode x).data.toList := by simp [encs]
theorem up_gt2 {r : Int} (h : 97 ≤ r ∧ r ≤ 122) : IntKind.i32.wrap (IntKind.i32.wrap (r - 97) + 65) = up r := by unfold up; rw [if_pos h, IntKind.wrap_i32, IntKind.wrap_i32]; omega
def cmp1 (x y : Int) : Int := if x < y then -1 else if y < x then 1 else 0
/-- Which of two rows of runes comes first? -/
def cmpR : List Int → List Int → Int
  | [], [] => 0
  | [], _ :: _ => -1
  | _ :: _, [] => 1
  | x :: a, y :: b => if cmp1 x y ≠ 0 then cmp1 x y else cmpR a b
theorem cmpR_drop {a b : List Int} {j : Nat} (h1 : j < a.length) (h2 : j < b.length) : cmpR (a.drop j) (b.drop j) = if cmp1 a[j] b[j] ≠ 0 then cmp1 a[j] b[j] else cmpR (a.drop (j + 1)) (b.drop (j + 1)) := by
  rw [List.drop_eq_getElem_cons h1, List.drop_eq_getElem_cons h2, cmpR]
theorem cmpR_nil {a b : List Int} {j : Nat} (h1 : a.length ≤ j) : cmpR (a.drop j) (b.drop j) = if j < b.length then -1 else 0 := by
  rw [List.drop_eq_nil_of_le h1]
  split
  · rename_i h
    rw [List.drop_eq_getElem_cons h]; rfl
  · rename_i h
    rw [List.drop_eq_nil_of_le (by omega)]; rfl
theorem cmpR_long {a b : List Int} {j : Nat} (h1 : j < a.length) (h2 : b.length ≤ j) : cmpR (a.drop j) (b.drop j) = 1 := by
  rw [List.drop_eq_nil_of_le h2, List.drop_eq_getElem_cons h1]; rfl
/-- Less, by runes. -/
def lessR (a b : List UInt8) : Bool := decide (cmpR (rns a) (rns b) < 0)
theorem okL_up {l : List Int} (h : okL l) : okL (l.map up) := by
  intro x hx
  obtain ⟨y, hy, rfl⟩ := List.mem_map.1 hx
  obtain ⟨r, rfl, hr⟩ := h y hy
  unfold up
  split
  · rename_i hc
    refine ⟨r - 32, by omega, ?_⟩
    unfold okR at *; omega
  · exact ⟨r, rfl, hr⟩
theorem rns_upper (l : List UInt8) : rns (upper l) = (rns l).map up := rns_encs _ (okL_up (okL_rns l))
theorem cmpR_lt {x y : Int} (h : x < y) (a b : List Int) : cmpR (x :: a) (y :: b) = -1 := by
  have : cmp1 x y = -1 := by unfold cmp1; rw [if_pos h]
  rw [cmpR, this]; rfl
theorem cmpR_gt {x y : Int} (h : y < x) (a b : List Int) : cmpR (x :: a) (y :: b) = 1 := by
  have : cmp1 x y = 1 := by unfold cmp1; rw [if_neg (by omega), if_pos h]
  rw [cmpR, this]; rfl
theorem cmpR_eq (x : Int) (a b : List Int) : cmpR (x :: a) (x :: b) = cmpR a b := by
  have : cmp1 x x = 0 := by unfold cmp1; rw [if_neg (by omega), if_neg (by omega)]
  rw [cmpR, this]; rfl
theorem cmpR_self : ∀ a : List Int, cmpR a a = 0
  | [] => rfl
  | x :: a => by rw [cmpR_eq, cmpR_self a]
theorem cmpR_tot : ∀ a b : List Int, cmpR a b < 0 ∨ a = b ∨ cmpR b a < 0
  | [], [] => .inr (.inl rfl)
  | [], _ :: _ => .inl (by simp [cmpR])
  | _ :: _, [] => .inr (.inr (by simp [cmpR]))
  | x :: a, y :: b => by
    rcases Int.lt_trichotomy x y with h | h | h
    · exact .inl (by rw [cmpR_lt h]; omega)
    · subst h
      rw [cmpR_eq, cmpR_eq]
      rcases cmpR_tot a b with k | k | k
      · exact .inl k
      · exact .inr (.inl (by rw [k]))
      · exact .inr (.inr k)
    · exact .inr (.inr (by rw [cmpR_lt h]; omega))
theorem cmpR_trans : ∀ a b c : List Int, cmpR a b < 0 → cmpR b c < 0 → cmpR a c < 0
  | [], [], c, h, _ => by simp [cmpR] at h
  | [], _ :: _, [], _, k => by simp [cmpR] at k
  | [], _ :: _, _ :: _, _, _ => by simp [cmpR]
  | _ :: _, [], _, h, _ => by simp [cmpR] at h
  | _ :: _, _ :: _, [], _, k => by simp [cmpR] at k
  | x :: a, y :: b, z :: c, h, k => by
    rcases Int.lt_trichotomy x y with hxy | hxy | hxy
    · rcases Int.lt_trichotomy y z with hyz | hyz | hyz
      · rw [cmpR_lt (by omega)]; omega
      · subst hyz; rw [cmpR_lt hxy]; omega
      · rw [cmpR_gt hyz] at k; omega
    · subst hxy
      rcases Int.lt_trichotomy x z with hyz | hyz | hyz
      · rw [cmpR_lt hyz]; omega
      · subst hyz
        rw [cmpR_eq] at h k ⊢
        exact cmpR_trans a b c h k
      · rw [cmpR_gt hyz] at k; omega
    · rw [cmpR_gt hxy] at h; omega
theorem less_iff {a b : List UInt8} : lessR a b = true ↔ cmpR (rns a) (rns b) < 0 := by unfold lessR; exact decide_eq_true_iff
theorem less_self (a : List UInt8) : ¬ lessR a a = true := by rw [less_iff, cmpR_self]; omega
theorem less_trans {a b c : List UInt8} (h : lessR a b = true) (k : lessR b c = true) : lessR a c = true := by
  rw [less_iff] at *; exact cmpR_trans _ _ _ h k
theorem less_ntrans {a b c : List UInt8} (h : ¬ lessR a b = true) (k : ¬ lessR b c = true) : ¬ lessR a c = true := by
  rw [less_iff] at *
  intro q
  rcases cmpR_tot (rns a) (rns b) with x | x | x
  · exact h x
  · rw [x] at q; exact k q
  · exact k (cmpR_trans _ _ _ x q)
end Go.Proofs.YtlnelaajlhfabaaGreat.AW

open Go Go.Proofs.YtlnelaajlhfabaaGreat.AW Go.Proofs
namespace Go.Proofs.YtlnelaajlhfabaaGreat.AW
set_option maxRecDepth 100000
set_option linter.unusedSimpArgs false
set_option linter.unusedVariables false

/-! ### Get, and Fold of an owned row -/
def gtC (o : Option Pr) : AV := .tup [.p (o.getD pr0).pv, .p (.bool o.isSome)]
end Go.Proofs.YtlnelaajlhfabaaGreat.AW

open Go Go.Proofs.YtlnelaajlhfabaaGreat.AW Go.Proofs
namespace Go.Proofs.YtlnelaajlhfabaaGreat.AW
set_option maxRecDepth 100000
set_option linter.unusedSimpArgs false
set_option linter.unusedVariables false

/-! ### The records of a row, by the code and by the document -/
def gsP (l : List Gt) : PV := .sl .shr 4 (l.map Gt.pv)
def gsC (l : List Gt) : PV := .sl .clip 4 (l.map Gt.pv)
theorem gsL (l : List Gt) : (l.map Gt.pv).length = l.length := List.length_map ..
theorem getG {l : List Gt} {j : Nat} (h : j < l.length) : (l.map Gt.pv)[((j : Nat) : Int).toNat]? = some l[j].pv := by
  rw [Int.toNat_natCast, List.getElem?_map, List.getElem?_eq_getElem h]; rfl
theorem gtAt_get {b : Bt} {i : Nat} (h : i < b.recs.length) : (gtAt b i).pv = .agg [ii (IntKind.i64.wrap (b.base + (i : Nat))), ii b.prod, .str b.recs[i].1, .str b.recs[i].2] := by
  unfold gtAt Gt.pv
  have : b.recs.getD i ([], []) = b.recs[i] := by rw [List.getD_eq_getElem?_getD, List.getElem?_eq_getElem h]; rfl
  rw [this]
theorem gts_take {L : List Bt} {fr to : Int} {j : Nat} (hj : j < L.length) : gts fr to (L.take (j + 1)) = gts fr to (L.take j) ++ gtsB fr to L[j] := by rw [take_succ' hj, gts_snoc]
/-- What is laid so far: all of the rows ahead, some of this one's. -/
def gtsA (fr to : Int) (L : List Bt) (j i : Nat) : List Gt := gts fr to (L.take j) ++ gtsN fr to (L.getD j ⟨0, 0, 0, 0, false, 0, []⟩) i
theorem gtsA_0 (fr to : Int) (L : List Bt) (j : Nat) : gtsA fr to L j 0 = gts fr to (L.take j) := by unfold gtsA; rw [show gtsN fr to _ 0 = [] from rfl, List.append_nil]
theorem getD_at {L : List Bt} {j : Nat} (hj : j < L.length) : L.getD j ⟨0, 0, 0, 0, false, 0, []⟩ = L[j] := by rw [List.getD_eq_getElem?_getD, List.getElem?_eq_getElem hj]; rfl
theorem gtsA_end {fr to : Int} {L : List Bt} {j : Nat} (hj : j < L.length) : gtsA fr to L j L[j].recs.length = gts fr to (L.take (j + 1)) := by rw [gts_take hj]; unfold gtsA gtsB; rw [getD_at hj]
theorem gtsA_le {fr to : Int} {L : List Bt} (hL : L.length ≤ 1000000) (hb : ∀ b, b ∈ L → b.recs.length ≤ 300) {j i : Nat} (hj : j < L.length) (hi : i ≤ 300) : (gtsA fr to L j i).length ≤ 300000300 := by
  unfold gtsA
  rw [List.length_append]
  have h1 := gts_le (fr := fr) (to := to) (M := 300) (L := L.take j) (fun b hm => hb b (List.mem_of_mem_take hm))
  have h2 := gtsN_le fr to (L.getD j ⟨0, 0, 0, 0, false, 0, []⟩) i
  rw [List.length_take] at h1
  have : min j L.length * 300 ≤ 1000000 * 300 := Nat.mul_le_mul_right _ (by omega)
  omega
set_option maxHeartbeats 16000000 in
theorem frecs_c (st fr to : Int) (L : List Bt) (hL : L.length ≤ 1000000) (hb : ∀ b, b ∈ L → b.recs.length ≤ 300) (s : Store) (K : AV → Store → Prop) (h : K (.p (gsC (gts fr to L))) s) : Cal Tryz.prog 73 [.p (ii st), .p (rowP L), .p (ii fr), .p (ii to)] s K := by
  refine Cal.pure (args := [ii st, rowP L, ii fr, ii to]) ?_
  refine Cal.intro Tryz.func73 (by decide +kernel) rfl rfl ?_
  have hlm := rowL L
  refine LoopX.famW [2, 3, 9, 15, 16, 17] (fun (j : Nat) => ([(2, .p (ii fr)), (3, .p (ii to)), (9, .osl 0 ((gts fr to (L.take j)).map Gt.pv).length 0 ((gts fr to (L.take j)).map Gt.pv).length), (15, .p (rowP L)), (16, .p (ii (L.map Bt.pv).length)), (17, .p (ii (j : Nat)))], [some (.buf 4 ((gts fr to (L.take j)).map Gt.pv))]))
    (fun j => j ≤ L.length) (fun j => L.length - j) 0 (Nat.zero_le _) (by show 0 ≤ 1; decide) (Trim.wk 0 [(4, none)] rfl (by show 0 ≤ 0; decide) (.inr rfl) rfl rfl rfl rfl rfl ⟨.inl rfl, .inl rfl, .own 0 rfl rfl, .inl rfl, .inl rfl, .inl rfl, trivial⟩) ?_
  intro j hj
  have hj : j ≤ L.length := hj
  refine Br.mk (fun hc => ?_) (fun hc => ?_)
  · have hc : (j : Int) < ((L.map Bt.pv).length : Nat) := of_decide_eq_true hc
    have hj1 : j < L.length := by omega
    have ej : IntKind.i64.wrap ((j : Int) + 1) = ((j + 1 : Nat) : Int) := by rw [wrap_i64] <;> omega
    refine Idx.mk _ (Int.natCast_nonneg _) (getL hj1) ?_
    refine Ob.mk (okst rfl rfl rfl) ?_
    refine Br.mk (fun hm => ?_) (fun hm => ?_)
    · have hm : L[j].mark ≠ 0 := by simpa using hm
      have eg : gts fr to (L.take (j + 1)) = gts fr to (L.take j) := by rw [gts_take hj1]; unfold gtsB; rw [gtsN_mark hm, List.append_nil]
      refine ⟨j + 1, hj1, by show L.length - (j + 1) < L.length - j; omega, (by show (0 : Nat) ≤ 1; decide), Trim.mk' ?_ ?_ rfl rfl (by show (1 : Nat) ≤ 2; decide)⟩
      · refine Eq.trans (b := [_, _, (9, .osl 0 ((gts fr to (L.take j)).map Gt.pv).length 0 ((gts fr to (L.take j)).map Gt.pv).length), _, _, (17, AV.p (ii (IntKind.i64.wrap ((j : Int) + 1))))]) rfl ?_
        rw [ej, eg]; rfl
      · show [some (AObj.buf 4 ((gts fr to (L.take j)).map Gt.pv) none)] = _
        rw [eg]
    · have hm : L[j].mark = 0 := by simpa using hm
      have hbj := hb _ (List.getElem_mem hj1)
      have hlr := rcP_len L[j].recs
      rw [← gtsA_0 fr to L j]
      refine LoopX.fam [2, 3, 9, 11, 15, 16, 17, 25, 26, 27] (fun (i : Nat) => ([(2, .p (ii fr)), (3, .p (ii to)), (9, .osl 0 ((gtsA fr to L j i).map Gt.pv).length 0 ((gtsA fr to L j i).map Gt.pv).length), (11, .ref 1 0), (15, .p (rowP L)), (16, .p (ii (L.map Bt.pv).length)), (17, .p (ii (j : Nat))), (25, .p (rcP L[j].recs)), (26, .p (ii (L[j].recs.map rec2).length)), (27, .p (ii (i : Nat)))], [some (.buf 4 ((gtsA fr to L j i).map Gt.pv)), bCells L[j]]))
        (fun i => i ≤ L[j].recs.length) (fun i => L[j].recs.length - i) 0 (Nat.zero_le _) (Trim.mk' rfl rfl rfl rfl (Nat.le_refl _)) ?_
      intro i hi
      have hi : i ≤ L[j].recs.length := hi
      refine Br.mk (fun hc2 => ?_) (fun hc2 => ?_)
      · have hc2 : (i : Int) < ((L[j].recs.map rec2).length : Nat) := of_decide_eq_true hc2
        have hi1 : i < L[j].recs.length := by omega
        have ei : IntKind.i64.wrap ((i : Int) + 1) = ((i + 1 : Nat) : Int) := by rw [wrap_i64] <;> omega
        have hlen := gtsA_le (fr := fr) (to := to) hL hb hj1 (Nat.le_trans hi hbj)
        refine Idx.mk _ (Int.natCast_nonneg _) (getR hi1) ?_
        refine Ob.mk (okst rfl rfl rfl) ?_
        have hno : (gtAt L[j] i).off = IntKind.i64.wrap (L[j].base + (i : Nat)) := rfl
        have gok : gtOk fr to L[j] i = (decide (IntKind.i64.wrap (L[j].base + (i : Nat)) ≥ fr) && decide (IntKind.i64.wrap (L[j].base + (i : Nat)) < to)) := by
          unfold gtOk; rw [hno, hm]; rfl
        have hA : (gtsA fr to L j (i + 1)) = gtsA fr to L j i ++ (if gtOk fr to L[j] i = true then [gtAt L[j] i] else []) := by
          unfold gtsA; rw [getD_at hj1, List.append_assoc]; rfl
        have hpv := gtAt_get hi1
        cases k1 : decide (IntKind.i64.wrap (L[j].base + (i : Nat)) ≥ fr) with
        | false =>
          rw [k1] at gok
          rw [gok, if_neg (by simp), List.append_nil] at hA
          repeat' (first
            | (apply Br.t; · (first | rfl | (simp only [*] <;> rfl)))
            | (apply Br.f; · (first | rfl | (simp only [*] <;> rfl)))
            | refine Ob.mk (okst rfl rfl rfl) ?_
            | refine Ob.mk (by decide) ?_
            | refine Br.mkT (fun c => ?_) (fun c => ?_)
            | refine Br.mkF (fun c => ?_) (fun c => ?_)
            | refine Br.mk (fun c => ?_) (fun c => ?_))
          refine ⟨i + 1, hi1, by show L[j].recs.length - (i + 1) < L[j].recs.length - i; omega, (by show (2 : Nat) ≤ 2; decide), Trim.mk' ?_ ?_ rfl rfl (by show (2 : Nat) ≤ 3; decide)⟩
          · refine Eq.trans (b := [_, _, (9, .osl 0 ((gtsA fr to L j i).map Gt.pv).length 0 ((gtsA fr to L j i).map Gt.pv).length), _, _, _, _, _, _, (27, AV.p (ii (IntKind.i64.wrap ((i : Int) + 1))))]) rfl ?_
            rw [ei, hA]; rfl
          · show [some (AObj.buf 4 ((gtsA fr to L j i).map Gt.pv) none), _] = _
            rw [hA]
        | true =>
          cases k2 : decide (IntKind.i64.wrap (L[j].base + (i : Nat)) < to) with
          | false =>
            rw [k1, k2] at gok
            rw [gok, if_neg (by simp), List.append_nil] at hA
            repeat' (first
              | (apply Br.t; · (first | rfl | (simp only [*] <;> rfl)))
              | (apply Br.f; · (first | rfl | (simp only [*] <;> rfl)))
              | refine Ob.mk (okst rfl rfl rfl) ?_
              | refine Ob.mk (by decide) ?_
              | refine Br.mkT (fun c => ?_) (fun c => ?_)
              | refine Br.mkF (fun c => ?_) (fun c => ?_)
              | refine Br.mk (fun c => ?_) (fun c => ?_))
            refine ⟨i + 1, hi1, by show L[j].recs.length - (i + 1) < L[j].recs.length - i; omega, (by show (2 : Nat) ≤ 2; decide), Trim.mk' ?_ ?_ rfl rfl (by show (2 : Nat) ≤ 3; decide)⟩
            · refine Eq.trans (b := [_, _, (9, .osl 0 ((gtsA fr to L j i).map Gt.pv).length 0 ((gtsA fr to L j i).map Gt.pv).length), _, _, _, _, _, _, (27, AV.p (ii (IntKind.i64.wrap ((i : Int) + 1))))]) rfl ?_
              rw [ei, hA]; rfl
            · show [some (AObj.buf 4 ((gtsA fr to L j i).map Gt.pv) none), _] = _
              rw [hA]
          | true =>
            rw [k1, k2] at gok
            rw [gok, if_pos (by decide)] at hA
            have hob : (((gtsA fr to L j i).map Gt.pv).length + 1) * 48 ≤ 140737488355328 := by rw [List.length_map]; omega
            repeat' (first
              | (apply Br.t; · (first | rfl | (simp only [*] <;> rfl)))
              | (apply Br.f; · (first | rfl | (simp only [*] <;> rfl)))
              | refine Ob.mk (okst rfl rfl rfl) ?_
              | refine Ob.mk ⟨rfl, rfl, rfl, hob⟩ ?_
              | refine Br.mkT (fun c => ?_) (fun c => ?_)
              | refine Br.mkF (fun c => ?_) (fun c => ?_)
              | refine Br.mk (fun c => ?_) (fun c => ?_))
            refine ⟨i + 1, hi1, by show L[j].recs.length - (i + 1) < L[j].recs.length - i; omega, (by show (2 : Nat) ≤ 2; decide), Trim.mk' ?_ ?_ rfl rfl (by show (2 : Nat) ≤ 3; decide)⟩
            · refine Eq.trans (b := [_, _, (9, .osl 0 ((gtsA fr to L j i).map Gt.pv ++ [PV.agg [ii (IntKind.i64.wrap (L[j].base + (i : Nat))), ii L[j].prod, .str L[j].recs[i].1, .str L[j].recs[i].2]]).length 0 ((gtsA fr to L j i).map Gt.pv ++ [PV.agg [ii (IntKind.i64.wrap (L[j].base + (i : Nat))), ii L[j].prod, .str L[j].recs[i].1, .str L[j].recs[i].2]]).length), _, _, _, _, _, _, (27, AV.p (ii (IntKind.i64.wrap ((i : Int) + 1))))]) rfl ?_
              rw [ei, hA, List.map_append, ← hpv]; rfl
            · show [some (AObj.buf 4 ((gtsA fr to L j i).map Gt.pv ++ [PV.agg [ii (IntKind.i64.wrap (L[j].base + (i : Nat))), ii L[j].prod, .str L[j].recs[i].1, .str L[j].recs[i].2]]) none), _] = _
              rw [hA, List.map_append, ← hpv]; rfl
      · have hc2 : ¬ (i : Int) < ((L[j].recs.map rec2).length : Nat) := of_decide_eq_false hc2
        have : i = L[j].recs.length := by omega
        subst this
        have eA := gtsA_end (fr := fr) (to := to) hj1
        refine ⟨j + 1, hj1, by show L.length - (j + 1) < L.length - j; omega, (by show (0 : Nat) ≤ 1; decide), Trim.mk' ?_ ?_ rfl rfl (by show (1 : Nat) ≤ 2; decide)⟩
        · refine Eq.trans (b := [_, _, (9, .osl 0 ((gtsA fr to L j L[j].recs.length).map Gt.pv).length 0 ((gtsA fr to L j L[j].recs.length).map Gt.pv).length), _, _, (17, AV.p (ii (IntKind.i64.wrap ((j : Int) + 1))))]) rfl ?_
          rw [ej, eA]; rfl
        · show [some (AObj.buf 4 ((gtsA fr to L j L[j].recs.length).map Gt.pv) none)] = _
          rw [eA]
  · have hc : ¬ (j : Int) < ((L.map Bt.pv).length : Nat) := of_decide_eq_false hc
    have : j = L.length := by omega
    subst this
    rw [List.take_length]
    refine Cal.freeze ?_ ⟨_, Tryz.func89, rfl, rfl⟩
    refine Ob.mk rfl ?_
    show Cal _ _ [.p (.sl .shr 4 ((((gts fr to L).map Gt.pv).drop 0).take ((gts fr to L).map Gt.pv).length))] _ _
    rw [cut_all]
    exact clip_got _ _ _ h
end Go.Proofs.YtlnelaajlhfabaaGreat.AW

open Go Go.Proofs.YtlnelaajlhfabaaGreat.AW Go.Proofs
namespace Go.Proofs.YtlnelaajlhfabaaGreat.AW
set_option maxRecDepth 100000
set_option linter.unusedSimpArgs false
set_option linter.unusedVariables false

/-! ### .. by the document -/
set_option maxHeartbeats 16000000 in
theorem drecs_c (fr to : Int) (L : List Bt) (hL : L.length ≤ 1000000) (hb : ∀ b, b ∈ L → b.recs.length ≤ 300) (s : Store) (K : AV → Store → Prop) (h : K (.p (gsP (gts fr to L))) s) : Cal Tryz.prog 25 [.p (rowP L), .p (ii fr), .p (ii to)] s K := by
  refine Cal.pure (args := [rowP L, ii fr, ii to]) ?_
  refine Cal.intro Tryz.func25 (by decide +kernel) rfl rfl ?_
  have hlm := rowL L
  refine LoopX.famW [1, 2, 7, 13, 14, 15] (fun (j : Nat) => ([(1, .p (ii fr)), (2, .p (ii to)), (7, .osl 0 ((gts fr to (L.take j)).map Gt.pv).length 0 ((gts fr to (L.take j)).map Gt.pv).length), (13, .p (rowP L)), (14, .p (ii (L.map Bt.pv).length)), (15, .p (ii (j : Nat)))], [some (.buf 4 ((gts fr to (L.take j)).map Gt.pv))]))
    (fun j => j ≤ L.length) (fun j => L.length - j) 0 (Nat.zero_le _) (by show 0 ≤ 1; decide) (Trim.wk 0 [(4, none)] rfl (by show 0 ≤ 0; decide) (.inr rfl) rfl rfl rfl rfl rfl ⟨.inl rfl, .inl rfl, .own 0 rfl rfl, .inl rfl, .inl rfl, .inl rfl, trivial⟩) ?_
  intro j hj
  have hj : j ≤ L.length := hj
  refine Br.mk (fun hc => ?_) (fun hc => ?_)
  · have hc : (j : Int) < ((L.map Bt.pv).length : Nat) := of_decide_eq_true hc
    have hj1 : j < L.length := by omega
    have ej : IntKind.i64.wrap ((j : Int) + 1) = ((j + 1 : Nat) : Int) := by rw [wrap_i64] <;> omega
    refine Idx.mk _ (Int.natCast_nonneg _) (getL hj1) ?_
    refine Ob.mk (okst rfl rfl rfl) ?_
    · skip
      have hbj := hb _ (List.getElem_mem hj1)
      have hlr := rcP_len L[j].recs
      rw [← gtsA_0 fr to L j]
      refine LoopX.fam [1, 2, 7, 9, 13, 14, 15, 20, 21, 22] (fun (i : Nat) => ([(1, .p (ii fr)), (2, .p (ii to)), (7, .osl 0 ((gtsA fr to L j i).map Gt.pv).length 0 ((gtsA fr to L j i).map Gt.pv).length), (9, .ref 1 0), (13, .p (rowP L)), (14, .p (ii (L.map Bt.pv).length)), (15, .p (ii (j : Nat))), (20, .p (rcP L[j].recs)), (21, .p (ii (L[j].recs.map rec2).length)), (22, .p (ii (i : Nat)))], [some (.buf 4 ((gtsA fr to L j i).map Gt.pv)), bCells L[j]]))
        (fun i => i ≤ L[j].recs.length) (fun i => L[j].recs.length - i) 0 (Nat.zero_le _) (Trim.mk' rfl rfl rfl rfl (Nat.le_refl _)) ?_
      intro i hi
      have hi : i ≤ L[j].recs.length := hi
      refine Br.mk (fun hc2 => ?_) (fun hc2 => ?_)
      · have hc2 : (i : Int) < ((L[j].recs.map rec2).length : Nat) := of_decide_eq_true hc2
        have hi1 : i < L[j].recs.length := by omega
        have ei : IntKind.i64.wrap ((i : Int) + 1) = ((i + 1 : Nat) : Int) := by rw [wrap_i64] <;> omega
        have hlen := gtsA_le (fr := fr) (to := to) hL hb hj1 (Nat.le_trans hi hbj)
        refine Idx.mk _ (Int.natCast_nonneg _) (getR hi1) ?_
        refine Ob.mk (okst rfl rfl rfl) ?_
        have hno : (gtAt L[j] i).off = IntKind.i64.wrap (L[j].base + (i : Nat)) := rfl
        have gok : gtOk fr to L[j] i = ((L[j].mark == 0) && (decide (IntKind.i64.wrap (L[j].base + (i : Nat)) ≥ fr) && decide (IntKind.i64.wrap (L[j].base + (i : Nat)) < to))) := by
          unfold gtOk; rw [hno]
        have hA : (gtsA fr to L j (i + 1)) = gtsA fr to L j i ++ (if gtOk fr to L[j] i = true then [gtAt L[j] i] else []) := by
          unfold gtsA; rw [getD_at hj1, List.append_assoc]; rfl
        have hpv := gtAt_get hi1
        cases k0 : (L[j].mark == 0) with
        | false =>
          rw [k0] at gok
          rw [gok, if_neg (by simp), List.append_nil] at hA
          repeat' (first
            | (apply Br.t; · (first | rfl | (simp only [*] <;> rfl)))
            | (apply Br.f; · (first | rfl | (simp only [*] <;> rfl)))
            | refine Ob.mk (okst rfl rfl rfl) ?_
            | refine Ob.mk (by decide) ?_
            | refine Br.mkT (fun c => ?_) (fun c => ?_)
            | refine Br.mkF (fun c => ?_) (fun c => ?_)
            | refine Br.mk (fun c => ?_) (fun c => ?_))
          refine ⟨i + 1, hi1, by show L[j].recs.length - (i + 1) < L[j].recs.length - i; omega, (by show (2 : Nat) ≤ 2; decide), Trim.mk' ?_ ?_ rfl rfl (by show (2 : Nat) ≤ 3; decide)⟩
          · refine Eq.trans (b := [_, _, (7, .osl 0 ((gtsA fr to L j i).map Gt.pv).length 0 ((gtsA fr to L j i).map Gt.pv).length), _, _, _, _, _, _, (22, AV.p (ii (IntKind.i64.wrap ((i : Int) + 1))))]) rfl ?_
            rw [ei, hA]; rfl
          · show [some (AObj.buf 4 ((gtsA fr to L j i).map Gt.pv) none), _] = _
            rw [hA]
        | true =>
            cases k1 : decide (IntKind.i64.wrap (L[j].base + (i : Nat)) ≥ fr) with
            | false =>
              rw [k0, k1] at gok
              rw [gok, if_neg (by simp), List.append_nil] at hA
              repeat' (first
                | (apply Br.t; · (first | rfl | (simp only [*] <;> rfl)))
                | (apply Br.f; · (first | rfl | (simp only [*] <;> rfl)))
                | refine Ob.mk (okst rfl rfl rfl) ?_
                | refine Ob.mk (by decide) ?_
                | refine Br.mkT (fun c => ?_) (fun c => ?_)
                | refine Br.mkF (fun c => ?_) (fun c => ?_)
                | refine Br.mk (fun c => ?_) (fun c => ?_))
              refine ⟨i + 1, hi1, by show L[j].recs.length - (i + 1) < L[j].recs.length - i; omega, (by show (2 : Nat) ≤ 2; decide), Trim.mk' ?_ ?_ rfl rfl (by show (2 : Nat) ≤ 3; decide)⟩
              · refine Eq.trans (b := [_, _, (7, .osl 0 ((gtsA fr to L j i).map Gt.pv).length 0 ((gtsA fr to L j i).map Gt.pv).length), _, _, _, _, _, _, (22, AV.p (ii (IntKind.i64.wrap ((i : Int) + 1))))]) rfl ?_
                rw [ei, hA]; rfl
              · show [some (AObj.buf 4 ((gtsA fr to L j i).map Gt.pv) none), _] = _
                rw [hA]
            | true =>
              cases k2 : decide (IntKind.i64.wrap (L[j].base + (i : Nat)) < to) with
              | false =>
                rw [k0, k1, k2] at gok
                rw [gok, if_neg (by simp), List.append_nil] at hA
                repeat' (first
                  | (apply Br.t; · (first | rfl | (simp only [*] <;> rfl)))
                  | (apply Br.f; · (first | rfl | (simp only [*] <;> rfl)))
                  | refine Ob.mk (okst rfl rfl rfl) ?_
                  | refine Ob.mk (by decide) ?_
                  | refine Br.mkT (fun c => ?_) (fun c => ?_)
                  | refine Br.mkF (fun c => ?_) (fun c => ?_)
                  | refine Br.mk (fun c => ?_) (fun c => ?_))
                refine ⟨i + 1, hi1, by show L[j].recs.length - (i + 1) < L[j].recs.length - i; omega, (by show (2 : Nat) ≤ 2; decide), Trim.mk' ?_ ?_ rfl rfl (by show (2 : Nat) ≤ 3; decide)⟩
                · refine Eq.trans (b := [_, _, (7, .osl 0 ((gtsA fr to L j i).map Gt.pv).length 0 ((gtsA fr to L j i).map Gt.pv).length), _, _, _, _, _, _, (22, AV.p (ii (IntKind.i64.wrap ((i : Int) + 1))))]) rfl ?_
                  rw [ei, hA]; rfl
                · show [some (AObj.buf 4 ((gtsA fr to L j i).map Gt.pv) none), _] = _
                  rw [hA]
              | true =>
                rw [k0, k1, k2] at gok
                rw [gok, if_pos (by decide)] at hA
                have hob : (((gtsA fr to L j i).map Gt.pv).length + 1) * 48 ≤ 140737488355328 := by rw [List.length_map]; omega
                repeat' (first
                  | (apply Br.t; · (first | rfl | (simp only [*] <;> rfl)))
                  | (apply Br.f; · (first | rfl | (simp only [*] <;> rfl)))
                  | refine Ob.mk (okst rfl rfl rfl) ?_
                  | refine Ob.mk ⟨rfl, rfl, rfl, hob⟩ ?_
                  | refine Br.mkT (fun c => ?_) (fun c => ?_)
                  | refine Br.mkF (fun c => ?_) (fun c => ?_)
                  | refine Br.mk (fun c => ?_) (fun c => ?_))
                refine ⟨i + 1, hi1, by show L[j].recs.length - (i + 1) < L[j].recs.length - i; omega, (by show (2 : Nat) ≤ 2; decide), Trim.mk' ?_ ?_ rfl rfl (by show (2 : Nat) ≤ 3; decide)⟩
                · refine Eq.trans (b := [_, _, (7, .osl 0 ((gtsA fr to L j i).map Gt.pv ++ [PV.agg [ii (IntKind.i64.wrap (L[j].base + (i : Nat))), ii L[j].prod, .str L[j].recs[i].1, .str L[j].recs[i].2]]).length 0 ((gtsA fr to L j i).map Gt.pv ++ [PV.agg [ii (IntKind.i64.wrap (L[j].base + (i : Nat))), ii L[j].prod, .str L[j].recs[i].1, .str L[j].recs[i].2]]).length), _, _, _, _, _, _, (22, AV.p (ii (IntKind.i64.wrap ((i : Int) + 1))))]) rfl ?_
                  rw [ei, hA, List.map_append, ← hpv]; rfl
                · show [some (AObj.buf 4 ((gtsA fr to L j i).map Gt.pv ++ [PV.agg [ii (IntKind.i64.wrap (L[j].base + (i : Nat))), ii L[j].prod, .str L[j].recs[i].1, .str L[j].recs[i].2]]) none), _] = _
                  rw [hA, List.map_append, ← hpv]; rfl
      · have hc2 : ¬ (i : Int) < ((L[j].recs.map rec2).length : Nat) := of_decide_eq_false hc2
        have : i = L[j].recs.length := by omega
        subst this
        have eA := gtsA_end (fr := fr) (to := to) hj1
        refine ⟨j + 1, hj1, by show L.length - (j + 1) < L.length - j; omega, (by show (0 : Nat) ≤ 1; decide), Trim.mk' ?_ ?_ rfl rfl (by show (1 : Nat) ≤ 2; decide)⟩
        · refine Eq.trans (b := [_, _, (7, .osl 0 ((gtsA fr to L j L[j].recs.length).map Gt.pv).length 0 ((gtsA fr to L j L[j].recs.length).map Gt.pv).length), _, _, (15, AV.p (ii (IntKind.i64.wrap ((j : Int) + 1))))]) rfl ?_
          rw [ej, eA]; rfl
        · show [some (AObj.buf 4 ((gtsA fr to L j L[j].recs.length).map Gt.pv) none)] = _
          rw [eA]
  · have hc : ¬ (j : Int) < ((L.map Bt.pv).length : Nat) := of_decide_eq_false hc
    have : j = L.length := by omega
    subst this
    rw [List.take_length]
    refine Ob.mk rfl ?_
    show K (.p (.sl .shr 4 ((((gts fr to L).map Gt.pv).drop 0).take ((gts fr to L).map Gt.pv).length))) s
    rw [cut_all]; exact h
end Go.Proofs.YtlnelaajlhfabaaGreat.AW
