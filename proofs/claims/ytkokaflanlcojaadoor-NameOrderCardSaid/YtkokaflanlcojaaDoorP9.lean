/- A part of the proof: LB/U2. -/
import Derived.Test.YtkokaflanlcojaaDoorP7
import Derived.Test.YtkokaflanlcojaaDoorP8
open Go Go.Proofs.YtkokaflanlcojaaDoor.AW Go.Proofs
namespace Go.Proofs.YtkokaflanlcojaaDoor.AW
set_option maxRecDepth 100000
set_option linter.unusedSimpArgs false
set_option linter.unusedVariables false

/-- A hexadecimal digit's number; -1: it is none. -/
def hexV (d : Int) : Int := if 48 ≤ d ∧ d ≤ 57 then d - 48 else if 97 ≤ d ∧ d ≤ 102 then d - 87 else -1
def hexStep (r d : Int) : Int := IntKind.i32.wrap (IntKind.i32.wrap (r * 16) + hexV d)
def dU : Nat → List Int → List Int
  | 0, _ => []
  | _ + 1, [] => []
  | f + 1, r :: l => if r = 92 ∧ 4 ≤ l.length then (l.take 4).foldl hexStep 0 :: dU f (l.drop 4) else r :: dU f l
theorem dU_fuel : ∀ (f : Nat) (l : List Int), l.length ≤ f → dU f l = dU l.length l := by
  intro f
  induction f using Nat.strongRecOn with
  | _ f ih =>
    intro l hl
    cases l with
    | nil => cases f <;> rfl
    | cons r l =>
      cases f with
      | zero => simp at hl
      | succ f =>
        have hl : l.length ≤ f := by simpa using hl
        simp only [dU, List.length_cons]
        split
        · rename_i h
          have e : (l.drop 4).length ≤ l.length := by simp
          rw [ih f (by omega) _ (by omega)]
          by_cases hh : l.length < f + 1
          · rw [ih l.length hh _ e]
          · omega
        · rw [ih f (by omega) l hl]
def dUL (l : List Int) : List Int := dU l.length l
theorem dUL_nil : dUL [] = [] := rfl
theorem dUL_esc {l : List Int} (h : 4 ≤ l.length) : dUL (92 :: l) = (l.take 4).foldl hexStep 0 :: dUL (l.drop 4) := by
  unfold dUL
  show dU (l.length + 1) (92 :: l) = _
  rw [dU, if_pos ⟨rfl, h⟩, dU_fuel l.length (l.drop 4) (by simp)]
theorem dUL_one {r : Int} {l : List Int} (h : ¬ (r = 92 ∧ 4 ≤ l.length)) : dUL (r :: l) = r :: dUL l := by
  unfold dUL
  show dU (l.length + 1) (r :: l) = _
  rw [dU, if_neg h]
theorem dUL_len : ∀ (n : Nat) (l : List Int), l.length = n → (dUL l).length ≤ n := by
  intro n
  induction n using Nat.strongRecOn with
  | _ n ih =>
    intro l hl
    cases l with
    | nil => simp [dUL_nil]
    | cons r l =>
      by_cases h : r = 92 ∧ 4 ≤ l.length
      · obtain ⟨rfl, h⟩ := h
        rw [dUL_esc h]
        have := ih (l.drop 4).length (by simp at hl ⊢; omega) _ rfl
        simp at hl this ⊢; omega
      · rw [dUL_one h]
        have := ih l.length (by simp at hl; omega) _ rfl
        simp at hl ⊢; omega

def plL (l : List Int) : List UInt8 := l.flatMap fun r => plR r.toNat
theorem plS_eq (l : List UInt8) : plS l = plL (rns l) := rfl
def hexI (r : Nat) : List Int := (hexR r).map fun b => (b.toNat : Int)
def plI (r : Nat) : List Int := if isPl r then [(r : Int)] else 92 :: hexI r
theorem hx_lt : ∀ n, n < 16 → (hx n).toNat < 128 := by decide
theorem hx_v : ∀ n, n < 16 → hexV ((hx n).toNat : Int) = (n : Int) := by decide
theorem hx_ne : ∀ n, n < 16 → (hx n).toNat ≠ 92 := by decide
theorem rns_hex (r : Nat) (t : List UInt8) : rns (hexR r ++ t) = hexI r ++ rns t := by
  show rns (hx _ :: hx _ :: hx _ :: hx _ :: t) = _
  rw [rns_ascii (hx_lt _ (by omega)), rns_ascii (hx_lt _ (by omega)), rns_ascii (hx_lt _ (by omega)), rns_ascii (hx_lt _ (by omega))]
  rfl
theorem rns_plR (r : Nat) (h : okR r) (t : List UInt8) : rns (plR r ++ t) = plI r ++ rns t := by
  unfold plR plI
  split
  · rw [rns_enc r h]; rfl
  · rw [List.cons_append, rns_ascii (by decide), rns_hex]; rfl
theorem rns_plL : ∀ (l : List Int), okL l → rns (plL l) = l.flatMap fun r => plI r.toNat
  | [], _ => rfl
  | x :: l, h => by
    obtain ⟨r, rfl, hr⟩ := h x (by simp)
    show rns (plR (r : Int).toNat ++ plL l) = plI (r : Int).toNat ++ _
    rw [Int.toNat_natCast, rns_plR r hr, rns_plL l fun y hy => h y (by simp [hy])]
    rfl
theorem isPl_small {r : Nat} (h : okR r) (hp : isPl r = false) : r < 65536 := by
  obtain ⟨h1, h2⟩ := h
  unfold isPl at hp
  simp at hp
  omega
theorem isPl_ne {r : Nat} (hp : isPl r = true) : r ≠ 92 := by
  rintro rfl; exact absurd hp (by decide)
theorem wrap_small {n : Int} (h1 : 0 ≤ n) (h2 : n < 2147483648) : IntKind.i32.wrap n = n := by rw [IntKind.wrap_i32]; omega
theorem hexI_val (r : Nat) (h : r < 65536) : (hexI r).foldl hexStep 0 = (r : Int) := by
  show hexStep (hexStep (hexStep (hexStep 0 ((hx (r / 4096 % 16)).toNat : Int)) ((hx (r / 256 % 16)).toNat : Int)) ((hx (r / 16 % 16)).toNat : Int)) ((hx (r % 16)).toNat : Int) = _
  unfold hexStep
  rw [hx_v _ (by omega), hx_v _ (by omega), hx_v _ (by omega), hx_v _ (by omega)]
  have w : ∀ n : Int, 0 ≤ n → n < 2147483648 → IntKind.i32.wrap n = n := fun n a b => wrap_small a b
  rw [w (0 * 16) (by omega) (by omega), w (0 * 16 + ((r / 4096 % 16 : Nat) : Int)) (by omega) (by omega), w ((0 * 16 + ((r / 4096 % 16 : Nat) : Int)) * 16) (by omega) (by omega),
    w ((0 * 16 + ((r / 4096 % 16 : Nat) : Int)) * 16 + ((r / 256 % 16 : Nat) : Int)) (by omega) (by omega), w (((0 * 16 + ((r / 4096 % 16 : Nat) : Int)) * 16 + ((r / 256 % 16 : Nat) : Int)) * 16) (by omega) (by omega),
    w (((0 * 16 + ((r / 4096 % 16 : Nat) : Int)) * 16 + ((r / 256 % 16 : Nat) : Int)) * 16 + ((r / 16 % 16 : Nat) : Int)) (by omega) (by omega),
    w ((((0 * 16 + ((r / 4096 % 16 : Nat) : Int)) * 16 + ((r / 256 % 16 : Nat) : Int)) * 16 + ((r / 16 % 16 : Nat) : Int)) * 16) (by omega) (by omega)]
  rw [w _ (by omega) (by omega)]
  omega
theorem dUL_plI : ∀ (l : List Int), okL l → dUL (l.flatMap fun r => plI r.toNat) = l
  | [], _ => rfl
  | x :: l, h => by
    obtain ⟨r, rfl, hr⟩ := h x (by simp)
    have ih := dUL_plI l fun y hy => h y (by simp [hy])
    rw [List.flatMap_cons, Int.toNat_natCast]
    cases hp : isPl r with
    | true =>
      have e : plI r = [(r : Int)] := by unfold plI; rw [hp, if_pos rfl]
      rw [e, List.singleton_append, dUL_one (fun q => isPl_ne hp (by have := q.1; omega)), ih]
    | false =>
      have e : plI r = 92 :: hexI r := by unfold plI; rw [hp, if_neg (by decide)]
      rw [e, List.cons_append]
      have hl : (hexI r).length = 4 := rfl
      rw [dUL_esc (by rw [List.length_append, hl]; omega), List.take_left' hl, List.drop_left' hl, hexI_val r (isPl_small hr hp), ih]

/-- What tell.Unplain answers. -/
def unS (s : List UInt8) : List UInt8 × Bool := if plS (encs (dUL (rns s))) = s then (encs (dUL (rns s)), true) else ([], false)
theorem dec_plS (y : List UInt8) : encs (dUL (rns (plS y))) = clean y := by
  rw [plS_eq, rns_plL _ (okL_rns y), dUL_plI _ (okL_rns y)]; rfl

/-! ### The law's own reading, byte by byte -/
def encI (n : Int) : List UInt8 := (Utf8.encode n).data.toList
def hexB : List Int → Int → Option Int
  | [], n => some n
  | c :: r, n => if 48 ≤ c ∧ c ≤ 57 then hexB r (IntKind.i32.wrap (IntKind.i32.wrap (IntKind.i32.wrap (n * 16) + c) - 48))
    else if 97 ≤ c ∧ c ≤ 102 then hexB r (IntKind.i32.wrap (IntKind.i32.wrap (IntKind.i32.wrap (IntKind.i32.wrap (n * 16) + c) - 97) + 10)) else none
def stepK (l : List UInt8) : Nat := min (encI ((decode l).1 : Int)).length l.length
def uB : Nat → List UInt8 → Option (List UInt8)
  | 0, _ => some []
  | _ + 1, [] => some []
  | f + 1, b :: t => if b = 92 ∧ 4 ≤ t.length then (match hexB (rns (t.take 4)) 0 with
      | none => none
      | some n => (uB f (t.drop 4)).map (encI n ++ ·))
    else (uB f ((b :: t).drop (stepK (b :: t)))).map ((b :: t).take (stepK (b :: t)) ++ ·)
theorem enc_encI (r : Nat) : encI (r : Int) = enc r := by unfold encI enc; rfl
theorem encI_pos (n : Int) : 1 ≤ (encI n).length := by
  unfold encI Utf8.encode
  simp only []
  repeat' split
  all_goals simp
theorem stepK_pos (b : UInt8) (t : List UInt8) : 1 ≤ stepK (b :: t) := by
  have := encI_pos ((decode (b :: t)).1 : Int)
  unfold stepK; simp; omega
theorem uB_fuel : ∀ (f : Nat) (l : List UInt8), l.length ≤ f → uB f l = uB l.length l := by
  intro f
  induction f using Nat.strongRecOn with
  | _ f ih =>
    intro l hl
    cases l with
    | nil => cases f <;> rfl
    | cons b t =>
      cases f with
      | zero => simp at hl
      | succ f =>
        have hl : t.length ≤ f := by simpa using hl
        have hk := stepK_pos b t
        have e1 : (t.drop 4).length ≤ t.length := by simp
        have e2 : ((b :: t).drop (stepK (b :: t))).length ≤ t.length := by simp; omega
        simp only [uB, List.length_cons]
        rw [ih f (by omega) _ (Nat.le_trans e1 hl), ih f (by omega) _ (Nat.le_trans e2 hl)]
        rw [ih t.length (by omega) _ e1, ih t.length (by omega) _ e2]
def uBL (l : List UInt8) : Option (List UInt8) := uB l.length l
theorem uBL_nil : uBL [] = some [] := rfl
theorem uBL_esc {t : List UInt8} (h : 4 ≤ t.length) : uBL (92 :: t) = (match hexB (rns (t.take 4)) 0 with
      | none => none
      | some n => (uBL (t.drop 4)).map (encI n ++ ·)) := by
  unfold uBL
  show uB (t.length + 1) (92 :: t) = _
  rw [uB, if_pos ⟨rfl, h⟩, uB_fuel t.length (t.drop 4) (by simp)]
theorem uBL_one {b : UInt8} {t : List UInt8} (h : ¬ (b = 92 ∧ 4 ≤ t.length)) : uBL (b :: t) = (uBL ((b :: t).drop (stepK (b :: t)))).map ((b :: t).take (stepK (b :: t)) ++ ·) := by
  unfold uBL
  show uB (t.length + 1) (b :: t) = _
  have := stepK_pos b t
  rw [uB, if_neg h, uB_fuel t.length _ (by simp; omega)]

theorem hexB_I (r : Nat) (h : r < 65536) : hexB (hexI r) 0 = some (r : Int) := by
  have one : ∀ (k n : Nat) (l : List Int), k < 16 → n < 65536 → hexB (((hx k).toNat : Int) :: l) (n : Int) = hexB l ((n * 16 + k : Nat) : Int) := by
    intro k n l hk hn
    have w : ∀ n : Int, 0 ≤ n → n < 2147483648 → IntKind.i32.wrap n = n := fun n a b => wrap_small a b
    have hv : ∀ k, k < 16 → (k < 10 ∧ (hx k).toNat = 48 + k) ∨ (10 ≤ k ∧ (hx k).toNat = 87 + k) := by decide
    rw [hexB]
    rcases hv k hk with ⟨h1, h2⟩ | ⟨h1, h2⟩
    · rw [if_pos (by omega), h2]
      rw [w ((n : Int) * 16) (by omega) (by omega), w ((n : Int) * 16 + ((48 + k : Nat) : Int)) (by omega) (by omega), w _ (by omega) (by omega)]
      congr 1; omega
    · rw [if_neg (by omega), if_pos (by omega), h2]
      rw [w ((n : Int) * 16) (by omega) (by omega), w ((n : Int) * 16 + ((87 + k : Nat) : Int)) (by omega) (by omega), w ((n : Int) * 16 + ((87 + k : Nat) : Int) - 97) (by omega) (by omega), w _ (by omega) (by omega)]
      congr 1; omega
  show hexB [((hx (r / 4096 % 16)).toNat : Int), ((hx (r / 256 % 16)).toNat : Int), ((hx (r / 16 % 16)).toNat : Int), ((hx (r % 16)).toNat : Int)] ((0 : Nat) : Int) = _
  rw [one _ _ _ (by omega) (by omega), one _ _ _ (by omega) (by omega), one _ _ _ (by omega) (by omega), one _ _ _ (by omega) (by omega)]
  show some _ = some _
  congr 1; omega
theorem enc_head_ne {r : Nat} (h : okR r) (hp : isPl r = true) : ∃ b t, enc r = b :: t ∧ b ≠ 92 := by
  obtain ⟨b, t, hb, _⟩ := enc_ne h
  refine ⟨b, t, hb, ?_⟩
  rintro rfl
  have := decode_enc r h []
  rw [hb, List.append_nil, decode_ascii (by decide)] at this
  have := congrArg Prod.fst this
  exact isPl_ne hp this.symm
theorem uBL_plL : ∀ (l : List Int), okL l → uBL (plL l) = some (encs l)
  | [], _ => rfl
  | x :: l, h => by
    obtain ⟨r, rfl, hr⟩ := h x (by simp)
    have ih := uBL_plL l fun y hy => h y (by simp [hy])
    show uBL (plR (r : Int).toNat ++ plL l) = _
    rw [Int.toNat_natCast, encs_cons]
    unfold plR
    cases hp : isPl r with
    | true =>
      rw [if_pos rfl]
      obtain ⟨b, t, hb, hne⟩ := enc_head_ne hr hp
      have hd := decode_enc r hr (plL l)
      have hk : stepK (enc r ++ plL l) = (enc r).length := by
        unfold stepK
        rw [hd]
        simp only [enc_encI, List.length_append]; omega
      rw [hb, List.cons_append] at hk ⊢
      rw [uBL_one (fun q => hne q.1), hk, ← List.cons_append, List.take_left' rfl, List.drop_left' rfl, ih]
      rfl
    | false =>
      rw [if_neg (by decide), List.cons_append]
      have hl : (hexR r).length = 4 := rfl
      rw [uBL_esc (by rw [List.length_append, hl]; omega), List.take_left' hl, List.drop_left' hl]
      have e := rns_hex r []
      rw [List.append_nil, rns_nil, List.append_nil] at e
      rw [e, hexB_I r (isPl_small hr hp), ih]
      rfl
def unR (s : List UInt8) : List UInt8 × Bool := match uBL s with
  | none => ([], false)
  | some out => if plS out = s then (out, true) else ([], false)
/-- Both readings are the same. -/
theorem un_same (s : List UInt8) : unR s = unS s := by
  have k2 : ∀ y, uBL (plS y) = some (clean y) := fun y => uBL_plL _ (okL_rns y)
  unfold unR unS
  by_cases h : plS (encs (dUL (rns s))) = s
  · rw [if_pos h]
    have hx : encs (dUL (rns s)) = clean (encs (dUL (rns s))) := by
      have := dec_plS (encs (dUL (rns s)))
      rw [h] at this; exact this
    have hu := k2 (encs (dUL (rns s)))
    rw [h, ← hx] at hu
    rw [hu]
    simp only
    rw [if_pos h]
  · rw [if_neg h]
    cases hu : uBL s with
    | none => rfl
    | some out =>
      simp only
      split
      · rename_i ho
        exfalso
        have h1 := k2 out
        rw [ho, hu] at h1
        have h2 := dec_plS out
        rw [ho] at h2
        have h3 : out = clean out := Option.some.inj h1
        rw [h2, ← h3] at h
        exact h ho
      · rfl
theorem unS_plain (y : List UInt8) : unS (plS y) = (clean y, true) := by
  unfold unS
  rw [dec_plS, if_pos (plS_clean y)]
end Go.Proofs.YtkokaflanlcojaaDoor.AW
