/- A part of the proof: LA/K, LA/L, LA/M. -/
import Derived.Test.YtkokaflanlcojaaDoorP6
open Go Go.Proofs.YtkokaflanlcojaaDoor.AW Go.Proofs
namespace Go.Proofs.YtkokaflanlcojaaDoor.AW
set_option maxRecDepth 100000

theorem bSt_len (bs : List UInt8) (it : Option AObj) : 2 ≤ (bSt bs it).length := by cases bs <;> exact Nat.le_of_ble_eq_true rfl
theorem bSt_trim {bs : List UInt8} {rest : List UInt8} {pos : Nat} : unders (bSt bs (some (.iterS rest pos))).length [.ref 0 0, .it 1] = true ∧ (bSt bs (some (.iterS rest pos))).all (objUnder (bSt bs (some (.iterS rest pos))).length) = true := by
  cases bs <;> exact ⟨rfl, rfl⟩
theorem plR_len (r : Nat) (h : okR r) : (plR r).length ≤ 5 := by
  unfold plR
  split
  · obtain ⟨e, es, he, hl⟩ := enc_ne h
    rw [he]; simp; omega
  · simp [hexR]
theorem plS_nil : plS [] = [] := rfl
theorem plS_step {l : List UInt8} (h : l ≠ []) : plS l = plR (decode l).1 ++ plS (l.drop (decode l).2) := by
  unfold plS; rw [rns_step h]; simp
theorem plS_len : ∀ (n : Nat) (l : List UInt8), l.length = n → (plS l).length ≤ 5 * n := by
  intro n
  induction n using Nat.strongRecOn with
  | _ n ih =>
    intro l hl
    cases l with
    | nil => simp [plS_nil]
    | cons b r =>
      have hne : b :: r ≠ [] := by simp
      rw [plS_step hne, List.length_append]
      have h1 := decode_pos (b :: r)
      have h2 := decode_le hne
      have h3 := plR_len _ (decode_okR (b :: r))
      have := ih ((b :: r).drop (decode (b :: r)).2).length (by simp at hl ⊢; omega) _ rfl
      simp only [List.length_cons, List.length_drop] at this hl h2 ⊢
      omega
theorem hx_get {n : Nat} (h : n < 16) : hxTab[n]? = some (hx n) := by
  unfold hx
  rw [List.getD_eq_getElem?_getD, List.getElem?_eq_getElem (by simpa [hxTab] using h)]
  rfl
theorem writeByte_v (bs : List UInt8) (it : Option AObj) (c : UInt8) {v : Int} (hv : v = (c.toNat : Int)) (hb : bs.length < 70368744177664) (K : AV → Store → Prop) (h : ∀ v, K v (bSt (bs ++ [c]) it)) : Cal Tryd.prog 37 [.ref 0 0, .p (.int .u8 v)] (bSt bs it) K := by
  subst hv; exact writeByte_c bs it c hb K h

theorem hex_idx (r j : Nat) (hj : j < 4) : bits .and .i32 (Int.fdiv (r : Int) (2 ^ min (IntKind.i64.wrap (4 * ((3 : Int) - (j : Int)))).toNat IntKind.i32.bits)) 15 = ((r / 2 ^ (4 * (3 - j)) % 16 : Nat) : Int) := by
  rw [fd32 r (4 * (3 - j)) _ (by rw [wrap_i64 (by omega) (by omega)]; omega) (by omega), and15]
theorem hexR_get (r j : Nat) (hj : j < 4) : (hexR r).take (j + 1) = (hexR r).take j ++ [hx (r / 2 ^ (4 * (3 - j)) % 16)] := by
  match j, hj with
  | 0, _ => rfl
  | 1, _ => rfl
  | 2, _ => rfl
  | 3, _ => simp [hexR]

theorem plain_text (l : List UInt8) (hl : l.length < 1099511627776) (s : Store) (K : AV → Store → Prop) (h : K (.p (.str (plS l))) s) : Cal Tryd.prog 17 [.p (.str l)] s K := by
  refine Cal.pure (args := [.str l]) ?_
  refine Cal.intro Tryd.func17 (by decide +kernel) rfl rfl ?_
  have hpl := plS_len _ l rfl
  refine LoopX.fam [3, 8] (fun (q : List UInt8 × List UInt8 × Nat) => ([(3, .ref 0 0), (8, .it 1)], bSt q.1 (some (.iterS q.2.1 q.2.2))))
    (fun q => q.1 ++ plS q.2.1 = plS l) (fun q => q.2.1.length) ([], l, 0) rfl (Trim.mk' rfl rfl rfl rfl (Nat.le_refl _)) ?_
  rintro ⟨bs, rest, pos⟩ hq
  have hq : bs ++ plS rest = plS l := hq
  have hbl : bs.length ≤ 5 * l.length := by
    have := congrArg List.length hq
    rw [List.length_append] at this; omega
  cases bs with
  | nil =>
    have hb0 : ([] : List UInt8).length < 35184372088832 := by omega
    refine BrL.mk (fun (he : rest = []) => ?_) (fun (hne : rest ≠ []) => ?_)
    · refine Br.f rfl ?_
      have e : plS l = [] := by rw [← hq, he, plS_nil, List.append_nil]
      rw [e] at h
      refine bString_c [] _ (by omega) _ fun s' => ?_
      exact h
    · refine Br.t rfl ?_
      have hstep := plS_step hne
      have hd : (rest.drop (decode rest).2).length < rest.length := by
        have h3 := decode_pos rest
        have h4 : 0 < rest.length := List.length_pos_iff.2 hne
        simp; omega
      refine plain_c _ _ _ ?_
      refine Br.mk (fun hp => ?_) (fun hp => ?_)
      · have hp : isPl (decode rest).1 = true := hp
        have hinv : ([] ++ enc (decode rest).1) ++ plS (rest.drop (decode rest).2) = plS l := by
          rw [← hq, hstep]
          unfold plR
          rw [if_pos hp, List.append_assoc]
        refine writeRune_c [] _ (decode rest).1 (decode_okR rest) (by omega) _ fun v => ?_
        generalize [] ++ enc (decode rest).1 = X at hinv ⊢
        have ht := bSt_trim (bs := X) (rest := rest.drop (decode rest).2) (pos := pos + (decode rest).2)
        exact ⟨(X, rest.drop (decode rest).2, pos + (decode rest).2), hinv, hd, bSt_len X _, Trim.mk' rfl List.take_length ht.1 ht.2 (Nat.le_refl _)⟩
      · have hp : isPl (decode rest).1 = false := hp
        refine writeByte_v [] _ 92 rfl (by omega) _ fun v => ?_
        refine LoopX.fam [3, 5, 6, 8] (fun (j : Nat) => ([(3, .ref 0 0), (5, .p (.int .i32 (decode rest).1)), (6, .p (ii ((3 : Int) - (j : Int)))), (8, .it 1)], bSt ([] ++ [92] ++ (hexR (decode rest).1).take j) (some (.iterS (rest.drop (decode rest).2) (pos + (decode rest).2)))))
          (fun j => j ≤ 4) (fun j => 4 - j) 0 (Nat.zero_le _) (Trim.mk' rfl ?_ rfl rfl (Nat.le_refl _)) ?_
        · show List.take _ (bSt ([] ++ [92]) _) = bSt ([] ++ [92] ++ (hexR (decode rest).1).take 0) _
          rw [List.take_zero, List.append_nil]; exact List.take_length
        intro j hj
        have hj : j ≤ 4 := hj
        refine Br.mk (fun c => ?_) (fun c => ?_)
        · have c : j < 4 := by simp at c; omega
          have hi := hex_idx (decode rest).1 j c
          refine Ob.mk (by rw [wrap_i64] <;> omega) ?_
          refine IdxB.mk (hx ((decode rest).1 / 2 ^ (4 * (3 - j)) % 16)) (by rw [hi]; omega) (by rw [hi, Int.toNat_natCast]; exact hx_get (Nat.mod_lt _ (by omega))) ?_
          have hlen : ([] ++ [92] ++ (hexR (decode rest).1).take j).length < 70368744177664 := by
            simp only [List.length_append, List.length_take, hexR, List.length_cons, List.length_nil] at hb0 ⊢; omega
          refine writeByte_v ([] ++ [92] ++ (hexR (decode rest).1).take j) _ (hx ((decode rest).1 / 2 ^ (4 * (3 - j)) % 16)) rfl hlen _ fun v => ?_
          have hn : [] ++ [92] ++ (hexR (decode rest).1).take (j + 1) = [] ++ [92] ++ (hexR (decode rest).1).take j ++ [hx ((decode rest).1 / 2 ^ (4 * (3 - j)) % 16)] := by
            rw [hexR_get _ j c]; simp only [List.append_assoc]
          have e6 : IntKind.i64.wrap ((3 : Int) - (j : Int) - 1) = (3 : Int) - ((j + 1 : Nat) : Int) := by rw [wrap_i64] <;> omega
          refine ⟨j + 1, c, by omega, ?_, Trim.mk' ?_ ?_ ?_ ?_ (Nat.le_refl _)⟩
          · exact Nat.le_of_ble_eq_true rfl
          · rw [← e6]; rfl
          · rw [hn]; exact List.take_length
          · rw [hn]; rfl
          · rw [hn]; rfl
        · have c : j = 4 := by simp at c; omega
          subst c
          have ht := bSt_trim (bs := [] ++ [92] ++ hexR (decode rest).1) (rest := rest.drop (decode rest).2) (pos := pos + (decode rest).2)
          refine ⟨([] ++ [92] ++ hexR (decode rest).1, rest.drop (decode rest).2, pos + (decode rest).2), ?_, hd, bSt_len ([] ++ [92] ++ hexR (decode rest).1) _, Trim.mk' rfl ?_ ht.1 ht.2 (Nat.le_refl _)⟩
          · show ([] ++ [92] ++ hexR (decode rest).1) ++ plS (rest.drop (decode rest).2) = plS l
            rw [← hq, hstep]
            unfold plR
            rw [hp]
            simp
          · exact List.take_length
  | cons b r =>
    have hb0 : ((b :: r) : List UInt8).length < 35184372088832 := by omega
    refine BrL.mk (fun (he : rest = []) => ?_) (fun (hne : rest ≠ []) => ?_)
    · refine Br.f rfl ?_
      have e : plS l = (b :: r) := by rw [← hq, he, plS_nil, List.append_nil]
      rw [e] at h
      refine bString_c (b :: r) _ (by omega) _ fun s' => ?_
      exact h
    · refine Br.t rfl ?_
      have hstep := plS_step hne
      have hd : (rest.drop (decode rest).2).length < rest.length := by
        have h3 := decode_pos rest
        have h4 : 0 < rest.length := List.length_pos_iff.2 hne
        simp; omega
      refine plain_c _ _ _ ?_
      refine Br.mk (fun hp => ?_) (fun hp => ?_)
      · have hp : isPl (decode rest).1 = true := hp
        have hinv : ((b :: r) ++ enc (decode rest).1) ++ plS (rest.drop (decode rest).2) = plS l := by
          rw [← hq, hstep]
          unfold plR
          rw [if_pos hp, List.append_assoc]
        refine writeRune_c (b :: r) _ (decode rest).1 (decode_okR rest) (by omega) _ fun v => ?_
        generalize (b :: r) ++ enc (decode rest).1 = X at hinv ⊢
        have ht := bSt_trim (bs := X) (rest := rest.drop (decode rest).2) (pos := pos + (decode rest).2)
        exact ⟨(X, rest.drop (decode rest).2, pos + (decode rest).2), hinv, hd, bSt_len X _, Trim.mk' rfl List.take_length ht.1 ht.2 (Nat.le_refl _)⟩
      · have hp : isPl (decode rest).1 = false := hp
        refine writeByte_v (b :: r) _ 92 rfl (by omega) _ fun v => ?_
        refine LoopX.fam [3, 5, 6, 8] (fun (j : Nat) => ([(3, .ref 0 0), (5, .p (.int .i32 (decode rest).1)), (6, .p (ii ((3 : Int) - (j : Int)))), (8, .it 1)], bSt ((b :: r) ++ [92] ++ (hexR (decode rest).1).take j) (some (.iterS (rest.drop (decode rest).2) (pos + (decode rest).2)))))
          (fun j => j ≤ 4) (fun j => 4 - j) 0 (Nat.zero_le _) (Trim.mk' rfl ?_ rfl rfl (Nat.le_refl _)) ?_
        · show List.take _ (bSt ((b :: r) ++ [92]) _) = bSt ((b :: r) ++ [92] ++ (hexR (decode rest).1).take 0) _
          rw [List.take_zero, List.append_nil]; exact List.take_length
        intro j hj
        have hj : j ≤ 4 := hj
        refine Br.mk (fun c => ?_) (fun c => ?_)
        · have c : j < 4 := by simp at c; omega
          have hi := hex_idx (decode rest).1 j c
          refine Ob.mk (by rw [wrap_i64] <;> omega) ?_
          refine IdxB.mk (hx ((decode rest).1 / 2 ^ (4 * (3 - j)) % 16)) (by rw [hi]; omega) (by rw [hi, Int.toNat_natCast]; exact hx_get (Nat.mod_lt _ (by omega))) ?_
          have hlen : ((b :: r) ++ [92] ++ (hexR (decode rest).1).take j).length < 70368744177664 := by
            simp only [List.length_append, List.length_take, hexR, List.length_cons, List.length_nil] at hb0 ⊢; omega
          refine writeByte_v ((b :: r) ++ [92] ++ (hexR (decode rest).1).take j) _ (hx ((decode rest).1 / 2 ^ (4 * (3 - j)) % 16)) rfl hlen _ fun v => ?_
          have hn : (b :: r) ++ [92] ++ (hexR (decode rest).1).take (j + 1) = (b :: r) ++ [92] ++ (hexR (decode rest).1).take j ++ [hx ((decode rest).1 / 2 ^ (4 * (3 - j)) % 16)] := by
            rw [hexR_get _ j c]; simp only [List.append_assoc]
          have e6 : IntKind.i64.wrap ((3 : Int) - (j : Int) - 1) = (3 : Int) - ((j + 1 : Nat) : Int) := by rw [wrap_i64] <;> omega
          refine ⟨j + 1, c, by omega, ?_, Trim.mk' ?_ ?_ ?_ ?_ (Nat.le_refl _)⟩
          · exact Nat.le_of_ble_eq_true rfl
          · rw [← e6]; rfl
          · rw [hn]; exact List.take_length
          · rw [hn]; rfl
          · rw [hn]; rfl
        · have c : j = 4 := by simp at c; omega
          subst c
          have ht := bSt_trim (bs := (b :: r) ++ [92] ++ hexR (decode rest).1) (rest := rest.drop (decode rest).2) (pos := pos + (decode rest).2)
          refine ⟨((b :: r) ++ [92] ++ hexR (decode rest).1, rest.drop (decode rest).2, pos + (decode rest).2), ?_, hd, bSt_len ((b :: r) ++ [92] ++ hexR (decode rest).1) _, Trim.mk' rfl ?_ ht.1 ht.2 (Nat.le_refl _)⟩
          · show ((b :: r) ++ [92] ++ hexR (decode rest).1) ++ plS (rest.drop (decode rest).2) = plS l
            rw [← hq, hstep]
            unfold plR
            rw [hp]
            simp
          · exact List.take_length
end Go.Proofs.YtkokaflanlcojaaDoor.AW

open Go Go.Proofs.YtkokaflanlcojaaDoor.AW Go.Proofs
namespace Go.Proofs.YtkokaflanlcojaaDoor.AW
set_option maxRecDepth 100000
set_option linter.unusedSimpArgs false
set_option linter.unusedVariables false

theorem dtxt_cons : ∀ (j U : Nat), dtxt U (j + 1) = d1 (U / 10 ^ j % 10) :: dtxt U j
  | 0, U => by simp [dtxt]
  | j + 1, U => by
    have ih := dtxt_cons j (U / 10)
    rw [show dtxt U (j + 1 + 1) = dtxt (U / 10) (j + 1) ++ [d1 (U % 10)] from rfl, ih, show dtxt U (j + 1) = dtxt (U / 10) j ++ [d1 (U % 10)] from rfl, Nat.div_div_eq_div_mul, Nat.pow_succ, Nat.mul_comm 10]
    rfl

def sg (b : Bool) (x : Nat) : Int := if b then -(x : Int) else x
theorem sg_div (b : Bool) (x : Nat) : (sg b x).tdiv 10 = sg b (x / 10) := by
  cases b
  · exact (Int.ofNat_tdiv x 10).symm
  · show (-(x : Int)).tdiv 10 = -((x / 10 : Nat) : Int)
    rw [Int.neg_tdiv]; congr 1
theorem sg_mod (b : Bool) (x : Nat) : (sg b x).tmod 10 = sg b (x % 10) := by
  cases b
  · exact (Int.ofNat_tmod x 10).symm
  · show (-(x : Int)).tmod 10 = -((x % 10 : Nat) : Int)
    rw [Int.neg_tmod]; congr 1
theorem sg_zero {b : Bool} {x : Nat} : sg b x = 0 ↔ x = 0 := by cases b <;> simp [sg]
theorem sg_lo (b : Bool) (x : Nat) (h : x < 9223372036854775808) : -9223372036854775808 ≤ sg b x ∧ sg b x < 9223372036854775808 := by cases b <;> simp [sg] <;> omega

theorem dig_enc : ∀ d, d < 10 → (Utf8.encode (IntKind.i32.wrap (IntKind.i64.wrap (48 + ((d : Nat) : Int))))).data.toList = [d1 d] := by decide +kernel

theorem number_c (n : Int) (h1 : -9223372036854775808 ≤ n) (h2 : n < 9223372036854775808) (s : Store) (K : AV → Store → Prop) (h : K (.p (.str (fmtS n))) s) : Cal Tryd.prog 34 [.p (ii n)] s K := by
  refine Cal.pure (args := [ii n]) ?_
  refine Cal.intro Tryd.func34 (by decide +kernel) rfl rfl ?_
  refine Br.mk (fun c => ?_) (fun c => ?_)
  · have c : n = 0 := by simpa using c
    subst c
    exact h
  have c : n ≠ 0 := by simpa using c
  obtain ⟨U, hU⟩ : ∃ U, U = n.natAbs := ⟨_, rfl⟩
  obtain ⟨b, hb⟩ : ∃ b : Bool, b = decide (n < 0) := ⟨_, rfl⟩
  have hn : n = sg b U := by rw [hb, hU, sg]; by_cases hc : n < 0 <;> simp [hc] <;> omega
  have hUp : 1 ≤ U := by omega
  have hUm : U ≤ 9223372036854775808 := by omega
  refine LoopX.fam [0, 3, 4] (fun (j : Nat) => ([(0, .p (ii n)), (3, .p (.str (dtxt U j))), (4, .p (ii (sg b (U / 10 ^ j))))], []))
    (fun j => j ≤ 20 ∧ (j = 0 ∨ 10 ^ (j - 1) ≤ U)) (fun j => U / 10 ^ j) 0 ⟨by omega, .inl rfl⟩ (Trim.mk' ?_ rfl rfl rfl (Nat.le_refl _)) ?_
  · show [_, _, _] = [_, _, _]
    rw [Nat.pow_zero, Nat.div_one, ← hn]; rfl
  intro j hj
  refine Br.mk (fun hc => ?_) (fun hc => ?_)
  · have hc : U / 10 ^ j ≠ 0 := fun e => by rw [e] at hc; cases b <;> exact absurd hc (by decide)
    obtain ⟨x, hx⟩ : ∃ x, x = U / 10 ^ j := ⟨_, rfl⟩
    have hx2 : x ≤ U := by rw [hx]; exact Nat.div_le_self _ _
    have hle : 10 ^ j ≤ U := by
      by_cases hh : 10 ^ j ≤ U
      · exact hh
      · exact absurd (Nat.div_eq_of_lt (by omega)) hc
    have hj2 : j < 20 := by
      by_cases hh : j < 20
      · exact hh
      · have : j = 20 := by omega
        subst this
        omega
    have hd : dtxt U (j + 1) = d1 (x % 10) :: dtxt U j := by rw [dtxt_cons, hx]
    have hxn : U / 10 ^ (j + 1) = x / 10 := by rw [Nat.pow_succ, ← Nat.div_div_eq_div_mul, hx]
    rw [← hx] at hc
    have hlen := dtxt_len j U
    have hx9 : x ≤ 922337203685477580 ∨ j = 0 := by
      rcases Nat.eq_zero_or_pos j with h0 | h0
      · exact .inr h0
      · have : 10 ^ 1 ≤ 10 ^ j := Nat.pow_le_pow_right (by omega) h0
        left
        have : x ≤ U / 10 := by rw [hx]; exact Nat.div_le_div_left this (by omega)
        omega
    have hm : (sg b x).tmod 10 = sg b (x % 10) := sg_mod b x
    have hdv : IntKind.i64.wrap ((sg b x).tdiv 10) = sg b (x / 10) := by rw [sg_div, wrap_i64] <;> cases b <;> simp [sg] <;> omega
    have he := dig_enc (x % 10) (Nat.mod_lt _ (by omega))
    have fin : ∀ Z : List UInt8, Z = [d1 (x % 10)] → [((0 : Nat), AV.p (ii n)), (3, .p (.str (Z ++ dtxt U j))), (4, .p (ii (IntKind.i64.wrap ((sg b x).tdiv 10))))] = [(0, .p (ii n)), (3, .p (.str (dtxt U (j + 1)))), (4, .p (ii (sg b (U / 10 ^ (j + 1)))))] := by
      intro Z hZ
      rw [hZ, hdv, hd, hxn]; rfl
    rw [hx] at hm fin
    refine Ob.mk (by decide) ?_
    refine Br.mk (fun hc2 => ?_) (fun hc2 => ?_)
    · have hneg : (sg b (U / 10 ^ j)).tmod 10 < 0 := by simpa using hc2
      have hbt : b = true := by
        cases b
        · rw [hm] at hneg; simp [sg] at hneg; omega
        · rfl
      have hw : IntKind.i64.wrap (0 - (sg b (U / 10 ^ j)).tmod 10) = ((x % 10 : Nat) : Int) := by
        rw [hm, hbt, ← hx, wrap_i64] <;> simp [sg] <;> omega
      rw [← hw] at he
      refine Ob.mk (by rw [he, hlen]; simp; omega) ?_
      refine Ob.mk (by decide) ?_
      refine ⟨j + 1, ⟨hj2, .inr hle⟩, ?_, Nat.le_refl _, Trim.mk' (fin _ (he.trans (by rw [hx]))) rfl rfl rfl (Nat.le_refl _)⟩
      rw [hxn, ← hx]; omega
    · have hneg : ¬ (sg b (U / 10 ^ j)).tmod 10 < 0 := by simpa using hc2
      have hw : (sg b (U / 10 ^ j)).tmod 10 = ((x % 10 : Nat) : Int) := by
        rw [hm, ← hx]; rw [hm, ← hx] at hneg
        cases b <;> simp [sg] at hneg ⊢ <;> omega
      rw [← hw] at he
      refine Ob.mk (by rw [he, hlen]; simp; omega) ?_
      refine Ob.mk (by decide) ?_
      refine ⟨j + 1, ⟨hj2, .inr hle⟩, ?_, Nat.le_refl _, Trim.mk' (fin _ (he.trans (by rw [hx]))) rfl rfl rfl (Nat.le_refl _)⟩
      rw [hxn, ← hx]; omega
  · have hc : U / 10 ^ j = 0 := by
      have : sg b (U / 10 ^ j) = 0 := by simpa using hc
      exact sg_zero.1 this
    have hlt : U < 10 ^ j := by
      rcases Nat.lt_or_ge U (10 ^ j) with hh | hh
      · exact hh
      · exact absurd hc (Nat.ne_of_gt (Nat.div_pos hh (Nat.pow_pos (by omega))))
    have hj0 : 1 ≤ j := by
      rcases Nat.eq_zero_or_pos j with h0 | h0
      · subst h0; simp at hlt; omega
      · exact h0
    have hdec : decS U = dtxt U j := dec_dtxt 20 j U hj0 (by omega) hlt (by rcases hj.2 with h0 | h0; · omega
                                                                            · exact .inr h0)
    unfold fmtS at h
    refine Br.mk (fun hs => ?_) (fun hs => ?_)
    · have hs : n < 0 := by simpa using hs
      rw [if_pos hs, ← hU, hdec] at h
      refine Ob.mk (by rw [dtxt_len]; simp; omega) ?_
      exact h
    · have hs : ¬ n < 0 := by simpa using hs
      rw [if_neg hs, ← hU, hdec] at h
      exact h
end Go.Proofs.YtkokaflanlcojaaDoor.AW

open Go Go.Proofs.YtkokaflanlcojaaDoor.AW Go.Proofs
namespace Go.Proofs.YtkokaflanlcojaaDoor.AW
set_option maxRecDepth 100000
set_option linter.unusedSimpArgs false
set_option linter.unusedVariables false

def rec2 (a b : List UInt8) : PV := .agg [.str a, .str b]
def recS (a b : List UInt8) : List UInt8 := plS a ++ [61] ++ plS b
theorem tellRec_c (a b : List UInt8) (ha : a.length < 1099511627776) (hb : b.length < 1099511627776) (s : Store) (K : AV → Store → Prop) (h : K (.p (.str (recS a b))) s) : Cal Tryd.prog 21 [.p (rec2 a b)] s K := by
  refine Cal.pure (args := [rec2 a b]) ?_
  refine Cal.intro Tryd.func21 (by decide +kernel) rfl rfl ?_
  have la := plS_len a.length a rfl
  have lb := plS_len b.length b rfl
  iterate 2 refine ⟨_, ⟨rfl, rfl⟩, ?_⟩
  refine ⟨_, fun s' => plain_text a ha s' _ ⟨rfl, rfl⟩, rfl, ?_⟩
  refine ⟨_, Ob.mk (by simp; omega) ⟨rfl, rfl⟩, ?_⟩
  iterate 2 refine ⟨_, ⟨rfl, rfl⟩, ?_⟩
  refine ⟨_, fun s' => plain_text b hb s' _ ⟨rfl, rfl⟩, rfl, ?_⟩
  refine ⟨_, Ob.mk (by simp; omega) ⟨rfl, rfl⟩, ?_⟩
  refine ⟨_, ⟨rfl, rfl⟩, ?_⟩
  refine Chk.mk (by kernel_rfl) ?_
  exact h

theorem formatInt2_v (n : Int) (h1 : -9223372036854775808 ≤ n) (h2 : n < 9223372036854775808) {v : Int} (hv : v = n) (s : Store) (K : AV → Store → Prop) (h : K (.p (.str (fmtS n))) s) : Cal Tryd.prog 47 [.p (ii v), .p (ii 10)] s K := by
  subst hv; exact formatInt2_c v h1 h2 s K h

/-- What a value says, if it says something. -/
inductive Any : PV → List UInt8 → Bool → Prop
  | str (l : List UInt8) : Any (.iface 9 (.str l)) l true
  | by (k : SK) (l : List UInt8) (sz : Nat) (h : l = [] ∨ sz = 1) : Any (.iface 63 (.sl k sz (bytesP l))) l true
  | i32 (n : Int) (h1 : -2147483648 ≤ n) (h2 : n < 2147483648) : Any (.iface 21 (.int .i32 n)) (fmtS n) true
  | int (n : Int) (h1 : -9223372036854775808 ≤ n) (h2 : n < 9223372036854775808) : Any (.iface 3 (ii n)) (fmtS n) true
  | i64 (n : Int) (h1 : -9223372036854775808 ≤ n) (h2 : n < 9223372036854775808) : Any (.iface 2 (ii n)) (fmtS n) true
  | bool (b : Bool) : Any (.iface 4 (.bool b)) (boolS b) true
  | rc (a b : List UInt8) (h1 : a.length < 1099511627776) (h2 : b.length < 1099511627776) : Any (.iface 30 (rec2 a b)) (recS a b) true
  | nil : Any (.lit .nilIface) [] false
  | oth (t : Nat) (v : PV) (h : t ∈ [52, 33, 53, 36, 5, 43, 29, 22, 28]) : Any (.iface t v) [] false

end Go.Proofs.YtkokaflanlcojaaDoor.AW
