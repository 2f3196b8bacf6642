/- A part of the proof: L22/Z1, L22/Z2, L22/Z3. -/
import Derived.Test.YtnopnmlpibdioaaDoorP9
open Go Go.Proofs.YtnopnmlpibdioaaDoor.AW Go.Proofs
namespace Go.Proofs.YtnopnmlpibdioaaDoor.AW
set_option maxRecDepth 100000
set_option linter.unusedSimpArgs false
set_option linter.unusedVariables false

theorem whole_recs (l : RL) : ((recsP l).drop 0).take (recsP l).length = recsP l := by rw [List.drop_zero, List.take_length]

theorem tapeRecs_f {pre : Store} (sh : Sh pre []) (k : SK) (l : List Int) (a : Nat) (most : Int) (hm : 1 ≤ most) (hm2 : most ≤ 16) (hk : k = .nil → l = []) (hl : l.length < 9223372036854775808) (ha : a ≤ l.length) (K : AV → Store → Prop)
    (h : ∀ (z : List UInt8 × List UInt8) (zs : RL) (a' : Nat), a' ≤ l.length → ((z :: zs).length : Int) ≤ most → shortR (z :: zs) → K (.p (.sl .shr 2 (recsP (z :: zs)))) (pre ++ [tp k l a', none])) :
    Cal Tryd.prog 12 [.ref pre.length 0, .p (ii most)] (pre ++ [tp k l a]) K := by
  refine Cal.frz (tapeRecs_c sh k l a most hm hm2 hk hl ha _ fun z zs a' h1 h2 h3 => ?_)
  have h := h z zs a' h1 h2 h3
  rw [← whole_recs] at h
  cases sh with
  | a => exact Ob.mk rfl h
  | c k2 l2 a2 xs2 => exact Ob.mk rfl h

theorem short_any {S : RL} (h : shortR S) : S.any lng = false := by
  rw [List.any_eq_false]
  intro x hx
  have := h x hx
  unfold lng isLong
  simp; omega

def pairE (S : RL) : List Elt := S.flatMap fun r => [.v (.iface 9 (.str r.1)) r.1 true, .v (.iface 9 (.str r.2)) r.2 true]
def pairP (S : RL) : List PV := S.flatMap fun r => [.iface 9 (.str r.1), .iface 9 (.str r.2)]
theorem pair_map (S : RL) : (pairE S).map Elt.pv = pairP S := by
  unfold pairE pairP
  induction S with
  | nil => rfl
  | cons a S ih => simp only [List.flatMap_cons, List.map_append, ih]; rfl
theorem pair_len (S : RL) : (pairE S).length = 2 * S.length := by
  unfold pairE
  induction S with
  | nil => rfl
  | cons a S ih => simp only [List.flatMap_cons, List.length_append, ih, List.length_cons, List.length_nil]; omega
theorem pairP_len (S : RL) : (pairP S).length = 2 * S.length := by rw [← pair_map, List.length_map, pair_len]
theorem pair_wf (S : RL) : ∀ x, x ∈ pairE S → x.Wf := by
  intro x hx
  unfold pairE at hx
  obtain ⟨r, _, hx⟩ := List.mem_flatMap.1 hx
  simp only [List.mem_cons, List.not_mem_nil, or_false] at hx
  rcases hx with rfl | rfl
  · exact .v _ _ _ (.str _) (by simp) (by simp)
  · exact .v _ _ _ (.str _) (by simp) (by simp)
theorem goR_pair : ∀ (S acc : RL), shortR S → (acc ++ S).length ≤ 16 → goR (pairE S) acc = (acc ++ S, 0)
  | [], acc, _, hl => by
    show goR [] acc = _
    rw [goR, if_neg (by simp at hl; omega)]; simp
  | r :: S, acc, hs, hl => by
    have h1 := hs r (by simp)
    have hn : isLong r.1 r.2 = false := by unfold isLong; simp; omega
    show goR (.v (.iface 9 (.str r.1)) r.1 true :: .v (.iface 9 (.str r.2)) r.2 true :: pairE S) acc = _
    rw [goR_v]
    have e1 : recE r.1 (Elt.v (.iface 9 (.str r.2)) r.2 true).txt true (Elt.v (.iface 9 (.str r.2)) r.2 true).ok = 0 := by unfold recE; simp [Elt.txt, Elt.ok, hn]
    have e2 : recQ r.1 (Elt.v (.iface 9 (.str r.2)) r.2 true).txt true (Elt.v (.iface 9 (.str r.2)) r.2 true).ok = r := by unfold recQ; simp [Elt.txt, Elt.ok, hn]
    rw [if_pos e1, e2, goR_pair S (acc ++ [r]) (fun x hx => hs x (by simp [hx])) (by simp at hl ⊢; omega)]
    simp
theorem goR_rs1 (k : SK) (A : RL) (hA : shortR A) (hl : A.length ≤ 16) : goR [.rs k 2 A] [] = (A, 0) := by
  rw [goR, if_neg (by rw [short_any hA]; decide), goR, if_neg (by simp; omega)]; simp
theorem goR_rs2 (k k2 : SK) (A B : RL) (hA : shortR A) (hB : shortR B) (hl : (A ++ B).length ≤ 16) : goR [.rs k 2 A, .rs k2 2 B] [] = (A ++ B, 0) := by
  rw [goR, if_neg (by rw [short_any hA]; decide), goR, if_neg (by rw [short_any hB]; decide), goR, if_neg (by simp at hl ⊢; omega)]; simp
theorem pairP_succ {S : RL} {j : Nat} (h : j < S.length) : pairP (S.take (j + 1)) = pairP (S.take j) ++ [.iface 9 (.str S[j].1), .iface 9 (.str S[j].2)] := by
  unfold pairP
  rw [List.take_add_one, List.flatMap_append, List.getElem?_eq_getElem h]; rfl

def ptSt (S : RL) (X : List PV) (o0 o1 o2 o3 : Option AObj) : Nat → List (Nat × AV) × Store
  | 0 => ([], [])
  | j + 1 => ([], [])
end Go.Proofs.YtnopnmlpibdioaaDoor.AW

open Go Go.Proofs.YtnopnmlpibdioaaDoor.AW Go.Proofs
namespace Go.Proofs.YtnopnmlpibdioaaDoor.AW
set_option maxRecDepth 100000
set_option linter.unusedSimpArgs false
set_option linter.unusedVariables false

theorem by20 : Tryd.prog.types[20].bytes = 16 := rfl

theorem parts_c (k k' : SK) (t u : List Int) (hk : k = .nil → t = []) (hk' : k' = .nil → u = []) (ht : t.length < 9223372036854775808) (hu : u.length < 9223372036854775808) (st : Store) (K : AV → Store → Prop) (h : K (.p (.bool true)) st) : Cal Tryd.prog 5 [.p (.sl k 1 (intsP t)), .p (.sl k' 1 (intsP u))] st K := by
  refine Cal.pure (args := [.sl k 1 (intsP t), .sl k' 1 (intsP u)]) ?_
  refine Cal.intro Tryd.func5 (by decide +kernel) rfl rfl ?_
  refine tapeRecs_f .a k t 0 7 (by decide) (by decide) hk ht (Nat.zero_le _) _ fun z zs a' ha1 hz1 hz2 => ?_
  refine tapeRecs_f (.c k t a' []) k' u 0 7 (by decide) (by decide) hk' hu (Nat.zero_le _) _ fun y ys b' hb1 hy1 hy2 => ?_
  have hl1 : ((z :: zs) ++ (y :: ys)).length ≤ 16 := by simp at hz1 hy1 ⊢; omega
  have hSs : shortR ((z :: zs) ++ (y :: ys)) := fun x hx => by
    rcases List.mem_append.1 hx with hx | hx
    · exact hz2 x hx
    · exact hy2 x hx
  refine recs_v .clip (by decide) [.rs .shr 2 (z :: zs), .rs .shr 2 (y :: ys)] ?_ (by simp) _ (goR_rs2 .shr .shr (z :: zs) (y :: ys) hz2 hy2 hl1) _ _ ?_
  · intro x hx
    simp only [List.mem_cons, List.not_mem_nil, or_false] at hx
    rcases hx with rfl | rfl
    · exact .rs _ _ _ (.inr ⟨by decide, rfl⟩) (by simp at hz1 ⊢; omega)
    · exact .rs _ _ _ (.inr ⟨by decide, rfl⟩) (by simp at hy1 ⊢; omega)
  refine recs_v .clip (by decide) [.rs .shr 2 (z :: zs)] ?_ (by simp) _ (goR_rs1 .shr (z :: zs) hz2 (by simp at hz1 ⊢; omega)) _ _ ?_
  · intro x hx
    simp only [List.mem_cons, List.not_mem_nil, or_false] at hx
    subst hx
    exact .rs _ _ _ (.inr ⟨by decide, rfl⟩) (by simp at hz1 ⊢; omega)
  refine BrL.c (Ob.mk (by rw [by26, recsP_len]; simp at hz1 ⊢; omega) ?_)
  refine Ob.mk ⟨rfl, rfl, rfl, by rw [by26, recsP_len, List.nil_append, recsP_len]; simp at hz1 hy1 ⊢; omega⟩ ?_
  have hX : [] ++ recsP (z :: zs) ++ recsP (y :: ys) = recsP ((z :: zs) ++ (y :: ys)) := by rw [List.nil_append]; exact (recsP_app _ _).symm
  have hXl : ([] ++ recsP (z :: zs) ++ recsP (y :: ys)).length = ((z :: zs) ++ (y :: ys)).length := by rw [hX, recsP_len]
  have hGet : ∀ j, (hj : j < ((z :: zs) ++ (y :: ys)).length) → ([] ++ recsP (z :: zs) ++ recsP (y :: ys))[j]? = some (rec2 (((z :: zs) ++ (y :: ys))[j]).1 (((z :: zs) ++ (y :: ys))[j]).2) := fun j hj => by rw [hX]; exact recsP_get hj
  refine LoopX.fam [5, 6, 7, 8, 9, 10, 11, 44, 45, 46] (fun (j : Nat) => match j with
    | 0 => ([(5, .p (.sl .shr 2 (recsP (z :: zs)))), (6, .p (.sl .shr 2 (recsP (y :: ys)))), (7, .p (.sl .clip 2 (recsP (z :: zs ++ y :: ys)))), (8, .p (ii 0)), (9, .p (.sl .clip 2 (recsP (z :: zs)))), (10, .p (ii 0)), (11, .p (.sl .nil 0 [])), (44, .osl 4 ([] ++ recsP (z :: zs) ++ recsP (y :: ys)).length 0 ([] ++ recsP (z :: zs) ++ recsP (y :: ys)).length), (45, .p (ii ([] ++ recsP (z :: zs) ++ recsP (y :: ys)).length)), (46, .p (ii 0))], _)
    | j + 1 => ([(5, .p (.sl .shr 2 (recsP (z :: zs)))), (6, .p (.sl .shr 2 (recsP (y :: ys)))), (7, .p (.sl .clip 2 (recsP (z :: zs ++ y :: ys)))), (8, .p (ii 0)), (9, .p (.sl .clip 2 (recsP (z :: zs)))), (10, .p (ii 0)), (11, .osl 6 (pairP ((z :: zs ++ y :: ys).take (j + 1))).length 0 (pairP ((z :: zs ++ y :: ys).take (j + 1))).length), (44, .osl 4 ([] ++ recsP (z :: zs) ++ recsP (y :: ys)).length 0 ([] ++ recsP (z :: zs) ++ recsP (y :: ys)).length), (45, .p (ii ([] ++ recsP (z :: zs) ++ recsP (y :: ys)).length)), (46, .p (ii ((j + 1 : Nat) : Int)))],
        [tp k t a', none, tp k' u b', none, some (.buf 2 ([] ++ recsP (z :: zs) ++ recsP (y :: ys))), some (.cells [.p (.str z.1), .p (.str z.2)]), some (.buf 1 (pairP ((z :: zs ++ y :: ys).take (j + 1))))]))
    (fun j => j ≤ (z :: zs ++ y :: ys).length) (fun j => (z :: zs ++ y :: ys).length - j) 0 (Nat.zero_le _) (Trim.mk' rfl rfl rfl rfl (Nat.le_refl _)) ?_
  intro j hj
  have hj : j ≤ (z :: zs ++ y :: ys).length := hj
  cases j with
  | zero =>
    refine Br.t (by simp [recsP]; omega) ?_
    refine Ob.mk ⟨rfl, by omega, by rw [hXl]; simp; omega⟩ ?_
    refine Ob.mk rfl ?_
    refine Idx.mk (rec2 z.1 z.2) (by decide) rfl ?_
    refine Ob.mk (okst rfl rfl rfl) ?_
    refine BrL.c (Ob.mk (by rw [by20]; simp) ?_)
    refine ⟨1, by simp, Nat.sub_lt (by simp) Nat.one_pos, Nat.le_of_ble_eq_true rfl, Trim.mk' rfl rfl rfl rfl (Nat.le_refl _)⟩
  | succ j =>
    refine Br.mk (fun hc => ?_) (fun hc => ?_)
    · have hj1 : j + 1 < (z :: zs ++ y :: ys).length := by simp only [hXl] at hc; simp at hc ⊢; omega
      have ej : IntKind.i64.wrap (((j + 1 : Nat) : Int) + 1) = ((j + 1 + 1 : Nat) : Int) := by rw [wrap_i64] <;> omega
      refine Ob.mk ⟨rfl, by omega, by rw [hXl]; omega⟩ ?_
      refine Ob.mk rfl ?_
      refine Idx.mk (rec2 ((z :: zs ++ y :: ys)[j + 1]).1 ((z :: zs ++ y :: ys)[j + 1]).2) (by omega) (by rw [← hGet (j + 1) hj1]; congr 1; simp) ?_
      refine Ob.mk (okst rfl rfl rfl) ?_
      have hps := pairP_succ hj1
      refine Ob.mk ⟨rfl, rfl, rfl, by rw [by20, pairP_len]; simp at hl1 ⊢; omega⟩ ?_
      refine ⟨j + 2, hj1, by omega, Nat.le_of_ble_eq_true rfl, Trim.mk' ?_ ?_ rfl rfl (Nat.le_of_ble_eq_true rfl)⟩
      · show _ = [_, _, _, _, _, _, (11, AV.osl 6 (pairP ((z :: zs ++ y :: ys).take (j + 1 + 1))).length 0 (pairP ((z :: zs ++ y :: ys).take (j + 1 + 1))).length), _, _, (46, .p (ii ((j + 1 + 1 : Nat) : Int)))]
        rw [hps, ← ej]; rfl
      · show _ = [_, _, _, _, _, _, some (AObj.buf 1 (pairP ((z :: zs ++ y :: ys).take (j + 1 + 1))))]
        rw [hps]; rfl
    · have hj2 : j + 1 = (z :: zs ++ y :: ys).length := by simp only [hXl] at hc; simp at hc hj ⊢; omega
      have hP : ((pairP ((z :: zs ++ y :: ys).take (j + 1))).drop 0).take (pairP ((z :: zs ++ y :: ys).take (j + 1))).length = (pairE (z :: zs ++ y :: ys)).map Elt.pv := by
        rw [List.drop_zero, List.take_length, hj2, List.take_length, pair_map]
      refine Cal.freeze ?_ ⟨_, rfl, rfl, rfl⟩
      refine Ob.mk rfl ?_
      rw [hP]
      refine recs_v .shr (by decide) (pairE (z :: zs ++ y :: ys)) (pair_wf _) (by rw [pair_len]; omega) _ (goR_pair _ [] hSs hl1) _ _ ?_
      have hS1 : (z :: zs ++ y :: ys).length < 4611686018427387904 := by omega
      have hA1 : (z :: zs).length < 4611686018427387904 := by simp at hz1 ⊢; omega
      have hlen : ((((recsP (z :: zs ++ y :: ys)).length : Nat) : Int) == IntKind.i64.wrap (((recsP (z :: zs)).length : Int) + ((recsP (y :: ys)).length : Int))) = true := by
        rw [recsP_len, recsP_len, recsP_len, wrap_i64 (by omega) (by simp at hl1 ⊢; omega)]; simp; omega
      repeat (first | refine Br.t rfl ?_ | refine sameRecs_c .clip .clip 2 2 (z :: zs ++ y :: ys) (.inr ⟨rfl, rfl⟩) hS1 _ _ ?_ | refine sameRecs_c .clip .shr 2 2 (z :: zs) (.inr ⟨rfl, rfl⟩) hA1 _ _ ?_ | refine Br.t (congrArg (· == true) hlen) ?_ | refine Br.t hlen ?_ | refine known_c _ _ ?_)
      exact h
end Go.Proofs.YtnopnmlpibdioaaDoor.AW

open Go Go.Proofs.YtnopnmlpibdioaaDoor.AW Go.Proofs
namespace Go.Proofs.YtnopnmlpibdioaaDoor.AW
set_option maxRecDepth 100000
set_option linter.unusedSimpArgs false
set_option linter.unusedVariables false

theorem recs8_x (key value : List UInt8) (n : Int) (k : SK) (sz : Nat) (l : RL) (xs : List PV) (hx : xs = recsP l) (hn1 : -9223372036854775808 ≤ n) (hn2 : n < 9223372036854775808) (hv : value.length < 1099511627776)
    (hk : (k = .nil ∧ l = []) ∨ (k ≠ .nil ∧ sz = 2)) (hl : l.length < 1048000) (s : Store) (K : AV → Store → Prop) (h : K (.p (.bool true)) s) :
    Cal Tryd.prog 8 [.p (.str key), .p (.str value), .p (ii n), .p (.sl k sz xs)] s K := by
  subst hx; exact recs8_c key value n k sz l hn1 hn2 hv hk hl s K h

theorem tells_c (kt : SK) (t : List Int) (s v : List UInt8) (n r : Int) (b : Bool) (k : SK) (sz : Nat) (l : RL) (hkt : kt = .nil → t = []) (ht : t.length < 9223372036854775808) (hs : s.length < 1099511627776) (hv : v.length < 1099511627776)
    (hn1 : -9223372036854775808 ≤ n) (hn2 : n < 9223372036854775808) (hr1 : -2147483648 ≤ r) (hr2 : r < 2147483648) (hk : (k = .nil ∧ l = []) ∨ (k ≠ .nil ∧ sz = 2)) (st : Store) (K : AV → Store → Prop) (h : K (.p (.bool true)) st) :
    Cal Tryd.prog 4 [.p (.sl kt 1 (intsP t)), .p (.str s), .p (.str v), .p (ii n), .p (.int .i32 r), .p (.bool b), .p (.sl k sz (recsP l))] st K := by
  refine Cal.pure (args := [.sl kt 1 (intsP t), .str s, .str v, ii n, .int .i32 r, .bool b, .sl k sz (recsP l)]) ?_
  refine Cal.intro Tryd.func4 (by decide +kernel) rfl rfl ?_
  have hlen := recsP_len l
  have hcut : ((recsP l).take (20 : Int).toNat).drop (0 : Int).toNat = recsP (l.take 20) := by
    show ((recsP l).take 20).drop 0 = _
    rw [List.drop_zero]; simp [recsP, List.map_take]
  refine Br.mk (fun hc => ?_) (fun hc => ?_)
  · refine Ob.mk ⟨by decide, by decide, by simp at hc; omega⟩ ?_
    refine Br.mk (fun hd => ?_) (fun hd => ?_)
    · have hd : 20 < l.length := by simp only [hlen] at hd; simp at hd; omega
      rcases hk with ⟨_, rfl⟩ | ⟨hkn, rfl⟩
      · simp at hd
      cases k with
      | nil => exact absurd rfl hkn
      | shr =>
        refine Ob.mk ⟨by decide, by decide, by rw [hlen]; omega⟩ ?_
        refine texts_c ((s.take (100 : Int).toNat).drop (0 : Int).toNat) n r b ((s.take (100 : Int).toNat).drop (0 : Int).toNat) v hn1 hn2 hr1 hr2 (by first | omega | (simp; omega)) hv _ _ ?_
        repeat refine Br.t rfl ?_
        refine recs8_x ((s.take (100 : Int).toNat).drop (0 : Int).toNat) v n .shr 2 (l.take 20) _ hcut hn1 hn2 hv (.inr ⟨by decide, rfl⟩) (by simp; omega) _ _ ?_
        repeat (first | refine Br.t rfl ?_)
        refine text_c11 .a kt t 0 hkt ht (Nat.zero_le _) _ ?_
        repeat refine Br.t rfl ?_
        refine text_c11 .a kt t _ hkt ht (nxA_le t 0 9 (Nat.zero_le _)) _ ?_
        repeat (first | refine Br.t rfl ?_)
        refine tapeRecs_f .a kt t _ 16 (by decide) (by decide) hkt ht (nxA_le t _ 9 (nxA_le t 0 9 (Nat.zero_le _))) _ fun z zs a' ha1 hz1 hz2 => ?_
        have hz3 : (z :: zs).length < 1048000 := by simp at hz1 ⊢; omega
        have htx := txtV_len t (nxA t 0 9)
        repeat refine Br.t rfl ?_
        refine recs8_x _ _ n .shr 2 (z :: zs) _ rfl hn1 hn2 (by omega) (.inr ⟨by decide, rfl⟩) hz3 _ _ ?_
        repeat (first | refine Br.t rfl ?_ | refine known_c _ _ ?_)
        exact h
      | clip =>
        refine Ob.mk ⟨by decide, by decide, by rw [hlen]; omega⟩ ?_
        refine texts_c ((s.take (100 : Int).toNat).drop (0 : Int).toNat) n r b ((s.take (100 : Int).toNat).drop (0 : Int).toNat) v hn1 hn2 hr1 hr2 (by first | omega | (simp; omega)) hv _ _ ?_
        repeat refine Br.t rfl ?_
        refine recs8_x ((s.take (100 : Int).toNat).drop (0 : Int).toNat) v n .shr 2 (l.take 20) _ hcut hn1 hn2 hv (.inr ⟨by decide, rfl⟩) (by simp; omega) _ _ ?_
        repeat (first | refine Br.t rfl ?_)
        refine text_c11 .a kt t 0 hkt ht (Nat.zero_le _) _ ?_
        repeat refine Br.t rfl ?_
        refine text_c11 .a kt t _ hkt ht (nxA_le t 0 9 (Nat.zero_le _)) _ ?_
        repeat (first | refine Br.t rfl ?_)
        refine tapeRecs_f .a kt t _ 16 (by decide) (by decide) hkt ht (nxA_le t _ 9 (nxA_le t 0 9 (Nat.zero_le _))) _ fun z zs a' ha1 hz1 hz2 => ?_
        have hz3 : (z :: zs).length < 1048000 := by simp at hz1 ⊢; omega
        have htx := txtV_len t (nxA t 0 9)
        repeat refine Br.t rfl ?_
        refine recs8_x _ _ n .shr 2 (z :: zs) _ rfl hn1 hn2 (by omega) (.inr ⟨by decide, rfl⟩) hz3 _ _ ?_
        repeat (first | refine Br.t rfl ?_ | refine known_c _ _ ?_)
        exact h
    · have hd : l.length ≤ 20 := by simp only [hlen] at hd; simp at hd; omega
      refine texts_c ((s.take (100 : Int).toNat).drop (0 : Int).toNat) n r b ((s.take (100 : Int).toNat).drop (0 : Int).toNat) v hn1 hn2 hr1 hr2 (by first | omega | (simp; omega)) hv _ _ ?_
      repeat refine Br.t rfl ?_
      refine recs8_x ((s.take (100 : Int).toNat).drop (0 : Int).toNat) v n k sz l _ rfl hn1 hn2 hv hk (by omega) _ _ ?_
      repeat (first | refine Br.t rfl ?_)
      refine text_c11 .a kt t 0 hkt ht (Nat.zero_le _) _ ?_
      repeat refine Br.t rfl ?_
      refine text_c11 .a kt t _ hkt ht (nxA_le t 0 9 (Nat.zero_le _)) _ ?_
      repeat (first | refine Br.t rfl ?_)
      refine tapeRecs_f .a kt t _ 16 (by decide) (by decide) hkt ht (nxA_le t _ 9 (nxA_le t 0 9 (Nat.zero_le _))) _ fun z zs a' ha1 hz1 hz2 => ?_
      have hz3 : (z :: zs).length < 1048000 := by simp at hz1 ⊢; omega
      have htx := txtV_len t (nxA t 0 9)
      repeat refine Br.t rfl ?_
      refine recs8_x _ _ n .shr 2 (z :: zs) _ rfl hn1 hn2 (by omega) (.inr ⟨by decide, rfl⟩) hz3 _ _ ?_
      repeat (first | refine Br.t rfl ?_ | refine known_c _ _ ?_)
      exact h
  · skip
    refine Br.mk (fun hd => ?_) (fun hd => ?_)
    · have hd : 20 < l.length := by simp only [hlen] at hd; simp at hd; omega
      rcases hk with ⟨_, rfl⟩ | ⟨hkn, rfl⟩
      · simp at hd
      cases k with
      | nil => exact absurd rfl hkn
      | shr =>
        refine Ob.mk ⟨by decide, by decide, by rw [hlen]; omega⟩ ?_
        refine texts_c s n r b s v hn1 hn2 hr1 hr2 (by first | omega | (simp; omega)) hv _ _ ?_
        repeat refine Br.t rfl ?_
        refine recs8_x s v n .shr 2 (l.take 20) _ hcut hn1 hn2 hv (.inr ⟨by decide, rfl⟩) (by simp; omega) _ _ ?_
        repeat (first | refine Br.t rfl ?_)
        refine text_c11 .a kt t 0 hkt ht (Nat.zero_le _) _ ?_
        repeat refine Br.t rfl ?_
        refine text_c11 .a kt t _ hkt ht (nxA_le t 0 9 (Nat.zero_le _)) _ ?_
        repeat (first | refine Br.t rfl ?_)
        refine tapeRecs_f .a kt t _ 16 (by decide) (by decide) hkt ht (nxA_le t _ 9 (nxA_le t 0 9 (Nat.zero_le _))) _ fun z zs a' ha1 hz1 hz2 => ?_
        have hz3 : (z :: zs).length < 1048000 := by simp at hz1 ⊢; omega
        have htx := txtV_len t (nxA t 0 9)
        repeat refine Br.t rfl ?_
        refine recs8_x _ _ n .shr 2 (z :: zs) _ rfl hn1 hn2 (by omega) (.inr ⟨by decide, rfl⟩) hz3 _ _ ?_
        repeat (first | refine Br.t rfl ?_ | refine known_c _ _ ?_)
        exact h
      | clip =>
        refine Ob.mk ⟨by decide, by decide, by rw [hlen]; omega⟩ ?_
        refine texts_c s n r b s v hn1 hn2 hr1 hr2 (by first | omega | (simp; omega)) hv _ _ ?_
        repeat refine Br.t rfl ?_
        refine recs8_x s v n .shr 2 (l.take 20) _ hcut hn1 hn2 hv (.inr ⟨by decide, rfl⟩) (by simp; omega) _ _ ?_
        repeat (first | refine Br.t rfl ?_)
        refine text_c11 .a kt t 0 hkt ht (Nat.zero_le _) _ ?_
        repeat refine Br.t rfl ?_
        refine text_c11 .a kt t _ hkt ht (nxA_le t 0 9 (Nat.zero_le _)) _ ?_
        repeat (first | refine Br.t rfl ?_)
        refine tapeRecs_f .a kt t _ 16 (by decide) (by decide) hkt ht (nxA_le t _ 9 (nxA_le t 0 9 (Nat.zero_le _))) _ fun z zs a' ha1 hz1 hz2 => ?_
        have hz3 : (z :: zs).length < 1048000 := by simp at hz1 ⊢; omega
        have htx := txtV_len t (nxA t 0 9)
        repeat refine Br.t rfl ?_
        refine recs8_x _ _ n .shr 2 (z :: zs) _ rfl hn1 hn2 (by omega) (.inr ⟨by decide, rfl⟩) hz3 _ _ ?_
        repeat (first | refine Br.t rfl ?_ | refine known_c _ _ ?_)
        exact h
    · have hd : l.length ≤ 20 := by simp only [hlen] at hd; simp at hd; omega
      refine texts_c s n r b s v hn1 hn2 hr1 hr2 (by first | omega | (simp; omega)) hv _ _ ?_
      repeat refine Br.t rfl ?_
      refine recs8_x s v n k sz l _ rfl hn1 hn2 hv hk (by omega) _ _ ?_
      repeat (first | refine Br.t rfl ?_)
      refine text_c11 .a kt t 0 hkt ht (Nat.zero_le _) _ ?_
      repeat refine Br.t rfl ?_
      refine text_c11 .a kt t _ hkt ht (nxA_le t 0 9 (Nat.zero_le _)) _ ?_
      repeat (first | refine Br.t rfl ?_)
      refine tapeRecs_f .a kt t _ 16 (by decide) (by decide) hkt ht (nxA_le t _ 9 (nxA_le t 0 9 (Nat.zero_le _))) _ fun z zs a' ha1 hz1 hz2 => ?_
      have hz3 : (z :: zs).length < 1048000 := by simp at hz1 ⊢; omega
      have htx := txtV_len t (nxA t 0 9)
      repeat refine Br.t rfl ?_
      refine recs8_x _ _ n .shr 2 (z :: zs) _ rfl hn1 hn2 (by omega) (.inr ⟨by decide, rfl⟩) hz3 _ _ ?_
      repeat (first | refine Br.t rfl ?_ | refine known_c _ _ ?_)
      exact h
end Go.Proofs.YtnopnmlpibdioaaDoor.AW
