/- A part of the proof: LB/W1, LB/W2, LB/W3, LB/W4, LB/W5. -/
import Derived.Test.YtkokaflanlcojaaDoorP9
import Derived.Test.YtkokaflanlcojaaDoorP10
import Derived.Test.YtkokaflanlcojaaDoorP5
open Go Go.Proofs.YtkokaflanlcojaaDoor.AW Go.Proofs
namespace Go.Proofs.YtkokaflanlcojaaDoor.AW
set_option maxRecDepth 100000
set_option linter.unusedSimpArgs false
set_option linter.unusedVariables false

/-- Where a byte is first; -1: nowhere. -/
def idxB (l : List UInt8) (c : UInt8) : Int := match (List.range l.length).find? fun i => l.getD i 0 == c with | some i => (i : Int) | none => -1
theorem Cal.indexByte {P : Program} {f : Nat} {fn : Func} (hf : P.funcs[f]? = some fn) (hn : (fn.name == "runtime.NumGoroutine") = false) (hb : fn.body = none) (h1 : Extern.findNext fn = none) (h2 : Extern.find fn = some Extern.BytealgIndexByte.indexByte) (l : List UInt8) (c : UInt8) (s : Store) (K : AV → Store → Prop) (hk : K (.p (.int .i64 (idxB l c))) s) :
    Cal P f [.p (.str l), .p (.int .u8 c.toNat)] s K := by
  unfold Cal
  intro w g vs hinv hG hfresh hargs
  cases hargs with
  | cons _ x _ xs hx hs =>
    cases hs with
    | cons _ y _ ys hy ht =>
      cases ht
      obtain ⟨b, rfl, hbl⟩ := hx.inv_str
      have hy := hy.inv_int
      subst hy
      have hr : (Extern.BytealgIndexByte.indexByte #[.string b, .int .u8 c.toNat]).run P w = .ok (.int .i64 (idxB l c)) w := by
        have e1 : ((c.toNat : Int).toNat).toUInt8 = c := by simp
        have e2 : (List.range b.size).find? (fun i => b[i]! == c) = (List.range l.length).find? fun i => l.getD i 0 == c := by
          have hbs : b.size = l.length := by rw [← hbl]; simp
          rw [hbs]
          have : ∀ (R : List Nat), (∀ i, i ∈ R → i < l.length) → R.find? (fun i => b[i]! == c) = R.find? fun i => l.getD i 0 == c := by
            intro R hR
            induction R with
            | nil => rfl
            | cons i R ih =>
              have hi : i < b.size := by rw [hbs]; exact hR i (by simp)
              have e3 : b[i]! = l.getD i 0 := by
                rw [getElem!_pos b i hi]
                subst hbl
                simp [List.getD, ByteArray.getElem_eq_getElem_data, hi]
              simp only [List.find?_cons, e3]
              rw [ih fun j hj => hR j (by simp [hj])]
          exact this _ fun i hi => by simpa using hi
        show ((match (List.range b.size).find? fun i => b[i]! == ((c.toNat : Int).toNat).toUInt8 with | some i => Pure.pure (goInt i) | none => Pure.pure (goInt (-1)) : Sem Value)).run P w = _
        rw [e1, e2]
        unfold idxB
        cases (List.range l.length).find? fun i => l.getD i 0 == c <;> rfl
      refine .inr ⟨_, w, ?_, _, _, s, g, rfl, hk, Nat.le_refl _, .mkInt _ _, hinv, .refl _ _ _, fun id h => .inl h⟩
      unfold callFunc
      have hn' : ¬ fn.name = "runtime.NumGoroutine" := by simpa using hn
      simp [hf, hn', hb, h1, h2, hr]

theorem idxByte_c (l : List UInt8) (c : UInt8) {v : Int} (hv : v = (c.toNat : Int)) (s : Store) (K : AV → Store → Prop) (h : K (.p (ii (idxB l c))) s) : Cal Tryd.prog 55 [.p (.str l), .p (.int .u8 v)] s K := by
  subst hv
  refine Cal.pure (args := [.str l, .int .u8 c.toNat]) ?_
  refine Cal.intro Tryd.func55 (by decide +kernel) rfl rfl ?_
  refine Cal.pure (args := [.str l, .int .u8 c.toNat]) ?_
  refine Cal.intro Tryd.func73 (by decide +kernel) rfl rfl ?_
  refine Cal.indexByte Tryd.func90 (by decide +kernel) rfl (by kernel_rfl) (by kernel_rfl) l c _ _ ?_
  exact h

theorem stays_c (r : Nat) (s : Store) (K : AV → Store → Prop) (h : K (.p (.bool (isPl r))) s) : Cal Tryd.prog 19 [.p (.int .i32 r)] s K := by
  refine Cal.pure (args := [.int .i32 r]) ?_
  refine Cal.intro Tryd.func19 (by decide +kernel) rfl rfl ?_
  have fin : ∀ b, b = isPl r → K (.p (.bool b)) s := fun b hb => by rw [hb]; exact h
  by_cases a1 : 97 ≤ r <;> by_cases a2 : r ≤ 122 <;> by_cases a3 : 65 ≤ r <;> by_cases a4 : r ≤ 90 <;> by_cases a5 : 48 ≤ r <;> by_cases a6 : r ≤ 57 <;> by_cases a7 : 255 < r <;> by_cases a8 : r = 65533
  all_goals first
    | omega
    | skip
  all_goals
    repeat first | refine Br.t (by first | rfl | (simp; done) | (simp; omega)) ?_ | refine Br.f (by first | rfl | (simp; done) | (simp; omega)) ?_
    refine fin _ ?_
    rw [Bool.eq_iff_iff]
    unfold isPl
    simp
    try omega

theorem count_c (l : List UInt8) (hl : l.length < 9223372036854775808) (s : Store) (K : AV → Store → Prop) (h : K (.p (ii (rns l).length)) s) : Cal Tryd.prog 20 [.p (.str l)] s K := by
  refine Cal.pure (args := [.str l]) ?_
  refine Cal.intro Tryd.func20 (by decide +kernel) rfl rfl ?_
  have hle := rns_le l
  refine LoopX.fam [3, 5] (fun (q : Nat × List UInt8 × Nat) => ([(3, .p (ii q.1)), (5, .it 0)], [some (.iterS q.2.1 q.2.2)])) (fun q => q.1 + (rns q.2.1).length = (rns l).length) (fun q => q.2.1.length) (0, l, 0) (by simp) (Trim.mk' rfl rfl rfl rfl (Nat.le_refl _)) ?_
  rintro ⟨n, rest, pos⟩ hq
  have hq : n + (rns rest).length = (rns l).length := hq
  refine BrL.mk (fun (he : rest = []) => ?_) (fun (hne : rest ≠ []) => ?_)
  · refine Br.f rfl ?_
    rw [he, rns_nil] at hq
    have : n = (rns l).length := by simpa using hq
    rw [← this] at h
    exact h
  · refine Br.t rfl ?_
    rw [rns_step hne] at hq
    simp only [List.length_cons] at hq
    have h3 := decode_pos rest
    have h4 : 0 < rest.length := List.length_pos_iff.2 hne
    refine ⟨(n + 1, rest.drop (decode rest).2, pos + (decode rest).2), by simp only; omega, by simp; omega, Nat.le_refl _, Trim.mk' ?_ rfl rfl rfl (Nat.le_refl _)⟩
    have e : IntKind.i64.wrap ((n : Int) + 1) = ((n + 1 : Nat) : Int) := by rw [wrap_i64] <;> omega
    rw [← e]; rfl

def hexD (r j : Nat) : List UInt8 := (hexR r).drop (4 - j)
theorem hx_enc : ∀ n : Nat, n < 16 → (n < 10 → encI (IntKind.i32.wrap (48 + (n : Int))) = [hx n]) ∧ (¬ n < 10 → encI (IntKind.i32.wrap (IntKind.i32.wrap (97 + (n : Int)) - 10)) = [hx n]) := by decide +kernel
theorem hexD_succ (r j : Nat) (h : j < 4) : hexD r (j + 1) = hx (r / 2 ^ (4 * j) % 16) :: hexD r j := by
  match j, h with
  | 0, _ => simp [hexD, hexR]
  | 1, _ => rfl
  | 2, _ => rfl
  | 3, _ => rfl
theorem hex_c (r : Nat) (hr : r < 2147483648) (s : Store) (K : AV → Store → Prop) (h : K (.p (.str (hexR r))) s) : Cal Tryd.prog 13 [.p (.int .i32 r)] s K := by
  refine Cal.pure (args := [.int .i32 r]) ?_
  refine Cal.intro Tryd.func13 (by decide +kernel) rfl rfl ?_
  refine LoopX.fam [0, 3, 4] (fun (j : Nat) => ([(0, .p (.int .i32 r)), (3, .p (.str (hexD r j))), (4, .p (ii j))], [])) (fun j => j ≤ 4) (fun j => 4 - j) 0 (Nat.zero_le _) (Trim.mk' rfl rfl rfl rfl (Nat.le_refl _)) ?_
  intro j hj
  have hj : j ≤ 4 := hj
  refine Br.mk (fun c => ?_) (fun c => ?_)
  · have c : j < 4 := by simp at c; omega
    have e0 : IntKind.u64.wrap (IntKind.i64.wrap (4 * (j : Int))) = ((4 * j : Nat) : Int) := by rw [wrap_i64 (by omega) (by omega), IntKind.wrap_u64]; omega
    have hv : bits .and .i32 (Int.fdiv (r : Int) (2 ^ min (IntKind.u64.wrap (IntKind.i64.wrap (4 * (j : Int)))).toNat IntKind.i32.bits)) 15 = ((r / 2 ^ (4 * j) % 16 : Nat) : Int) := by
      rw [fd32 r (4 * j) _ (by rw [e0]) (by omega), and15]
    have hlt : r / 2 ^ (4 * j) % 16 < 16 := Nat.mod_lt _ (by omega)
    obtain ⟨h1, h2⟩ := hx_enc _ hlt
    have hlen : (hexD r j).length ≤ 4 := by simp [hexD, hexR]
    have ej : IntKind.i64.wrap ((j : Int) + 1) = ((j + 1 : Nat) : Int) := by rw [wrap_i64] <;> omega
    refine Ob.mk (by rw [e0]; omega) ?_
    generalize hd : r / 2 ^ (4 * j) % 16 = d at *
    refine Br.mk (fun c2 => ?_) (fun c2 => ?_)
    · have c2 : d < 10 := by rw [hv] at c2; simp at c2; omega
      have h1 := h1 c2
      rw [← hv] at h1
      refine Ob.mk (by show ((encI _).length + _ < _); rw [h1]; simp; omega) ?_
      refine ⟨j + 1, c, by omega, Nat.le_refl _, Trim.mk' ?_ rfl rfl rfl (Nat.le_refl _)⟩
      have e3 : hexD r (j + 1) = encI (IntKind.i32.wrap (48 + bits .and .i32 (Int.fdiv (r : Int) (2 ^ min (IntKind.u64.wrap (IntKind.i64.wrap (4 * (j : Int)))).toNat IntKind.i32.bits)) 15)) ++ hexD r j := by
        rw [hexD_succ r j c, hd, h1]; rfl
      rw [e3, ← ej]; rfl
    · have c2 : ¬ d < 10 := by rw [hv] at c2; simp at c2; omega
      have h2 := h2 c2
      rw [← hv] at h2
      refine Ob.mk (by show ((encI _).length + _ < _); rw [h2]; simp; omega) ?_
      refine ⟨j + 1, c, by omega, Nat.le_refl _, Trim.mk' ?_ rfl rfl rfl (Nat.le_refl _)⟩
      have e3 : hexD r (j + 1) = encI (IntKind.i32.wrap (IntKind.i32.wrap (97 + bits .and .i32 (Int.fdiv (r : Int) (2 ^ min (IntKind.u64.wrap (IntKind.i64.wrap (4 * (j : Int)))).toNat IntKind.i32.bits)) 15) - 10)) ++ hexD r j := by
        rw [hexD_succ r j c, hd, h2]; rfl
      rw [e3, ← ej]; rfl
  · have c : j = 4 := by simp at c; omega
    subst c
    exact h
end Go.Proofs.YtkokaflanlcojaaDoor.AW

open Go Go.Proofs.YtkokaflanlcojaaDoor.AW Go.Proofs
namespace Go.Proofs.YtkokaflanlcojaaDoor.AW
set_option maxRecDepth 100000
set_option linter.unusedSimpArgs false
set_option linter.unusedVariables false

theorem valid_c (r : Nat) (hr : okR r) (s : Store) (K : AV → Store → Prop) (h : K (.p (.bool true)) s) : Cal Tryd.prog 56 [.p (.int .i32 r)] s K := by
  refine Cal.pure (args := [.int .i32 r]) ?_
  refine Cal.intro Tryd.func56 (by decide +kernel) rfl rfl ?_
  obtain ⟨h1, h2⟩ := hr
  by_cases a1 : r < 55296 <;> by_cases a2 : 57343 < r
  all_goals first
    | omega
    | skip
  all_goals
    repeat first | refine Br.t (by first | (simp; done) | (simp; omega)) ?_ | refine Br.f (by first | (simp; done) | (simp; omega)) ?_
    exact h

theorem hex_low : ∀ n : Nat, n < 128 → idxB hxTab (UInt8.ofNat n) = hexV n := by decide +kernel
theorem hex_dec : ∀ p, p < 16 → decode (hxTab.drop p) = ((hxTab.getD p 0).toNat, 1) ∧ hxTab.drop p ≠ [] ∧ (hxTab.getD p 0).toNat ≠ 65533 := by decide +kernel
theorem hex_not (p : Nat) (hp : p < 4) (n : Nat) (h1 : 128 ≤ n) (h2 : n < 256) : idxB ((hxTab.take 16).drop (p + 1)) (UInt8.ofNat n) = -1 := by
  have : ∀ p, p < 4 → ∀ n, n < 256 → 128 ≤ n → idxB ((hxTab.take 16).drop (p + 1)) (UInt8.ofNat n) = -1 := by decide +kernel
  exact this p hp n h2 h1
theorem hexV_big {d : Nat} (h : 128 ≤ d) : hexV d = -1 := by unfold hexV; rw [if_neg (by omega), if_neg (by omega)]

theorem indexRune_c (d : Nat) (hd : okR d) (s : Store) (K : AV → Store → Prop) (h : K (.p (ii (hexV d))) s) : Cal Tryd.prog 39 [.p (.str hxTab), .p (.int .i32 d)] s K := by
  refine Cal.pure (args := [.str hxTab, .int .i32 d]) ?_
  refine Cal.intro Tryd.func39 (by decide +kernel) rfl rfl ?_
  have c0 : decide ((0 : Int) ≤ (d : Int)) = true := by simp
  by_cases c1 : d < 128
  · have c1' : decide ((d : Int) < 128) = true := by simp; omega
    repeat (first | refine Br.t rfl ?_ | refine Br.t c0 ?_ | refine Br.t c1' ?_ | refine Br.t (congrArg (· == true) c0) ?_)
    refine idxByte_c hxTab (UInt8.ofNat d) (by rw [ofn (by omega)]; rw [IntKind.wrap_u8]; omega) _ _ ?_
    rw [hex_low d c1]
    exact h
  · have c1' : decide ((d : Int) < 128) = false := by simp; omega
    repeat (first | refine Br.t rfl ?_ | refine Br.t c0 ?_ | refine Br.f c1' ?_ | refine Br.t (congrArg (· == true) c0) ?_)
    rw [hexV_big (by omega)] at h
    by_cases c2 : d = 65533
    · subst c2
      refine Br.t rfl ?_
      refine LoopX.fam [175] (fun (p : Nat) => ([(175, .it 0)], [some (.iterS (hxTab.drop p) p)])) (fun p => p ≤ 16) (fun p => 16 - p) 0 (Nat.zero_le _) (Trim.mk' rfl rfl rfl rfl (Nat.le_refl _)) ?_
      intro p hp
      have hp : p ≤ 16 := hp
      refine BrL.mk (fun (he : hxTab.drop p = []) => ?_) (fun (hne : hxTab.drop p ≠ []) => ?_)
      · refine Br.f rfl ?_
        exact h
      · have hp16 : p < 16 := by
          refine Nat.lt_of_le_of_ne hp fun e => hne ?_
          subst e; rfl
        obtain ⟨e1, _, e2⟩ := hex_dec p hp16
        refine Br.t rfl ?_
        refine Br.f ?_ ?_
        · rw [e1]; exact beq_false_of_ne (by show ((hxTab.getD p 0).toNat : Int) ≠ 65533; omega)
        · refine ⟨p + 1, hp16, by omega, Nat.le_refl _, Trim.mk' rfl ?_ rfl rfl (Nat.le_refl _)⟩
          have e3 : hxTab.drop (p + 1) = (hxTab.drop p).drop (decode (hxTab.drop p)).2 := by rw [e1, List.drop_drop]
          have e4 : p + 1 = p + (decode (hxTab.drop p)).2 := by rw [e1]
          show _ = [some (AObj.iterS (hxTab.drop (p + 1)) (p + 1))]
          rw [e3]
          conv => rhs; rw [e4]
          rfl
    · refine Br.f (by simp; omega) ?_
      refine valid_c d hd _ _ ?_
      refine Br.f rfl ?_
      by_cases c3 : d < 2048
      · skip
        have hE : (Utf8.encode (d : Int)).data.toList = [UInt8.ofNat (192 + d / 64), UInt8.ofNat (128 + d % 64)] := enc_2 (by omega) c3
        refine LoopX.fam [0, 7, 8, 9] (fun (_ : Unit) => ([(0, .p (.str hxTab)), (7, .p (.str (Utf8.encode (d : Int)).data.toList)), (8, .p (ii 1)), (9, .p (ii 1))], [])) (fun _ => True) (fun _ => 0) () trivial (Trim.mk' ?_ rfl rfl rfl (Nat.le_refl _)) ?_
        · have e : IntKind.i64.wrap (((Utf8.encode (d : Int)).data.toList.length : Int) - 1) = 1 := by rw [hE]; rfl
          exact congrArg (fun z : Int => [(0, AV.p (PV.str hxTab)), (7, AV.p (PV.str (Utf8.encode (d : Int)).data.toList)), (8, AV.p (ii z)), (9, AV.p (ii z))]) e
        intro _ _
        refine Br.t rfl ?_
        iterate 2 refine ⟨_, ⟨rfl, rfl⟩, ?_⟩
        refine ⟨_, IdxB.mk 49 (by decide) rfl ⟨rfl, rfl⟩, ?_⟩
        iterate 2 refine ⟨_, ⟨rfl, rfl⟩, ?_⟩
        refine ⟨_, IdxB.mk (UInt8.ofNat (128 + d % 64)) (by decide) (by rw [hE]; rfl) ⟨rfl, rfl⟩, ?_⟩
        refine ⟨_, ⟨rfl, rfl⟩, ?_⟩
        refine Chk.mk (by kernel_rfl) ?_
        refine Br.t ?_ ?_
        · rw [ofn (show 128 + d % 64 < 256 by omega)]; simp; omega
        iterate 3 refine ⟨_, ⟨rfl, rfl⟩, ?_⟩
        refine ⟨_, Ob.mk ⟨by decide, by decide, by decide⟩ ⟨rfl, rfl⟩, ?_⟩
        iterate 2 refine ⟨_, ⟨rfl, rfl⟩, ?_⟩
        refine ⟨_, IdxB.mk (UInt8.ofNat (128 + d % 64)) (by decide) (by rw [hE]; rfl) ⟨rfl, rfl⟩, ?_⟩
        refine ⟨_, fun s' => idxByte_c _ _ rfl s' _ ⟨rfl, rfl⟩, rfl, ?_⟩
        refine ⟨_, ⟨rfl, rfl⟩, ?_⟩
        refine Chk.mk (by kernel_rfl) ?_
        refine Br.t ?_ ?_
        · have := hex_not 1 (by decide) (128 + d % 64) (by omega) (by omega)
          have e2 : idxB ((hxTab.take ((hxTab.length : Nat) : Int).toNat).drop (IntKind.i64.wrap ((1 : Int) + 1)).toNat) (UInt8.ofNat (128 + d % 64)) = -1 := this
          rw [e2]; rfl
        exact h
      by_cases c4 : d < 65536
      · skip
        have hE : (Utf8.encode (d : Int)).data.toList = [UInt8.ofNat (224 + d / 4096), UInt8.ofNat (128 + d / 64 % 64), UInt8.ofNat (128 + d % 64)] := enc_3 (by omega) c4 hd.2
        refine LoopX.fam [0, 7, 8, 9] (fun (_ : Unit) => ([(0, .p (.str hxTab)), (7, .p (.str (Utf8.encode (d : Int)).data.toList)), (8, .p (ii 2)), (9, .p (ii 2))], [])) (fun _ => True) (fun _ => 0) () trivial (Trim.mk' ?_ rfl rfl rfl (Nat.le_refl _)) ?_
        · have e : IntKind.i64.wrap (((Utf8.encode (d : Int)).data.toList.length : Int) - 1) = 2 := by rw [hE]; rfl
          exact congrArg (fun z : Int => [(0, AV.p (PV.str hxTab)), (7, AV.p (PV.str (Utf8.encode (d : Int)).data.toList)), (8, AV.p (ii z)), (9, AV.p (ii z))]) e
        intro _ _
        refine Br.t rfl ?_
        iterate 2 refine ⟨_, ⟨rfl, rfl⟩, ?_⟩
        refine ⟨_, IdxB.mk 50 (by decide) rfl ⟨rfl, rfl⟩, ?_⟩
        iterate 2 refine ⟨_, ⟨rfl, rfl⟩, ?_⟩
        refine ⟨_, IdxB.mk (UInt8.ofNat (128 + d % 64)) (by decide) (by rw [hE]; rfl) ⟨rfl, rfl⟩, ?_⟩
        refine ⟨_, ⟨rfl, rfl⟩, ?_⟩
        refine Chk.mk (by kernel_rfl) ?_
        refine Br.t ?_ ?_
        · rw [ofn (show 128 + d % 64 < 256 by omega)]; simp; omega
        iterate 3 refine ⟨_, ⟨rfl, rfl⟩, ?_⟩
        refine ⟨_, Ob.mk ⟨by decide, by decide, by decide⟩ ⟨rfl, rfl⟩, ?_⟩
        iterate 2 refine ⟨_, ⟨rfl, rfl⟩, ?_⟩
        refine ⟨_, IdxB.mk (UInt8.ofNat (128 + d % 64)) (by decide) (by rw [hE]; rfl) ⟨rfl, rfl⟩, ?_⟩
        refine ⟨_, fun s' => idxByte_c _ _ rfl s' _ ⟨rfl, rfl⟩, rfl, ?_⟩
        refine ⟨_, ⟨rfl, rfl⟩, ?_⟩
        refine Chk.mk (by kernel_rfl) ?_
        refine Br.t ?_ ?_
        · have := hex_not 2 (by decide) (128 + d % 64) (by omega) (by omega)
          have e2 : idxB ((hxTab.take ((hxTab.length : Nat) : Int).toNat).drop (IntKind.i64.wrap ((2 : Int) + 1)).toNat) (UInt8.ofNat (128 + d % 64)) = -1 := this
          rw [e2]; rfl
        exact h
      · skip
        have hE : (Utf8.encode (d : Int)).data.toList = [UInt8.ofNat (240 + d / 262144), UInt8.ofNat (128 + d / 4096 % 64), UInt8.ofNat (128 + d / 64 % 64), UInt8.ofNat (128 + d % 64)] := enc_4 (by omega) hd.1
        refine LoopX.fam [0, 7, 8, 9] (fun (_ : Unit) => ([(0, .p (.str hxTab)), (7, .p (.str (Utf8.encode (d : Int)).data.toList)), (8, .p (ii 3)), (9, .p (ii 3))], [])) (fun _ => True) (fun _ => 0) () trivial (Trim.mk' ?_ rfl rfl rfl (Nat.le_refl _)) ?_
        · have e : IntKind.i64.wrap (((Utf8.encode (d : Int)).data.toList.length : Int) - 1) = 3 := by rw [hE]; rfl
          exact congrArg (fun z : Int => [(0, AV.p (PV.str hxTab)), (7, AV.p (PV.str (Utf8.encode (d : Int)).data.toList)), (8, AV.p (ii z)), (9, AV.p (ii z))]) e
        intro _ _
        refine Br.t rfl ?_
        iterate 2 refine ⟨_, ⟨rfl, rfl⟩, ?_⟩
        refine ⟨_, IdxB.mk 51 (by decide) rfl ⟨rfl, rfl⟩, ?_⟩
        iterate 2 refine ⟨_, ⟨rfl, rfl⟩, ?_⟩
        refine ⟨_, IdxB.mk (UInt8.ofNat (128 + d % 64)) (by decide) (by rw [hE]; rfl) ⟨rfl, rfl⟩, ?_⟩
        refine ⟨_, ⟨rfl, rfl⟩, ?_⟩
        refine Chk.mk (by kernel_rfl) ?_
        refine Br.t ?_ ?_
        · rw [ofn (show 128 + d % 64 < 256 by omega)]; simp; omega
        iterate 3 refine ⟨_, ⟨rfl, rfl⟩, ?_⟩
        refine ⟨_, Ob.mk ⟨by decide, by decide, by decide⟩ ⟨rfl, rfl⟩, ?_⟩
        iterate 2 refine ⟨_, ⟨rfl, rfl⟩, ?_⟩
        refine ⟨_, IdxB.mk (UInt8.ofNat (128 + d % 64)) (by decide) (by rw [hE]; rfl) ⟨rfl, rfl⟩, ?_⟩
        refine ⟨_, fun s' => idxByte_c _ _ rfl s' _ ⟨rfl, rfl⟩, rfl, ?_⟩
        refine ⟨_, ⟨rfl, rfl⟩, ?_⟩
        refine Chk.mk (by kernel_rfl) ?_
        refine Br.t ?_ ?_
        · have := hex_not 3 (by decide) (128 + d % 64) (by omega) (by omega)
          have e2 : idxB ((hxTab.take ((hxTab.length : Nat) : Int).toNat).drop (IntKind.i64.wrap ((3 : Int) + 1)).toNat) (UInt8.ofNat (128 + d % 64)) = -1 := this
          rw [e2]; rfl
        exact h
end Go.Proofs.YtkokaflanlcojaaDoor.AW

open Go Go.Proofs.YtkokaflanlcojaaDoor.AW Go.Proofs
namespace Go.Proofs.YtkokaflanlcojaaDoor.AW
set_option maxRecDepth 100000
set_option linter.unusedSimpArgs false
set_option linter.unusedVariables false

theorem encI_def (n : Int) : encI n = (Utf8.encode n).data.toList := by unfold encI; rfl
theorem lawPlain_c (l : List UInt8) (hl : l.length < 1099511627776) (s : Store) (K : AV → Store → Prop) (h : K (.p (.str (plS l))) s) : Cal Tryd.prog 12 [.p (.str l)] s K := by
  refine Cal.pure (args := [.str l]) ?_
  refine Cal.intro Tryd.func12 (by decide +kernel) rfl rfl ?_
  have hpl := plS_len _ l rfl
  refine LoopX.fam [3, 7] (fun (q : List UInt8 × List UInt8 × Nat) => ([(3, .p (.str q.1)), (7, .it 0)], [some (.iterS q.2.1 q.2.2)])) (fun q => q.1 ++ plS q.2.1 = plS l) (fun q => q.2.1.length) ([], l, 0) rfl (Trim.mk' rfl rfl rfl rfl (Nat.le_refl _)) ?_
  rintro ⟨out, rest, pos⟩ hq
  have hq : out ++ plS rest = plS l := hq
  have hbl : out.length ≤ 5 * l.length := by
    have := congrArg List.length hq
    rw [List.length_append] at this; omega
  refine BrL.mk (fun (he : rest = []) => ?_) (fun (hne : rest ≠ []) => ?_)
  · refine Br.f rfl ?_
    have e : plS l = out := by rw [← hq, he, plS_nil, List.append_nil]
    rw [e] at h
    exact h
  · refine Br.t rfl ?_
    have hstep := plS_step hne
    have hd : (rest.drop (decode rest).2).length < rest.length := by
      have h3 := decode_pos rest
      have h4 : 0 < rest.length := List.length_pos_iff.2 hne
      simp; omega
    have hok := decode_okR rest
    refine stays_c _ _ _ ?_
    refine Br.mk (fun hp => ?_) (fun hp => ?_)
    · have hp : isPl (decode rest).1 = true := hp
      obtain ⟨b, t, hb, hbl2⟩ := enc_ne hok
      have hlen : (encI ((decode rest).1 : Int)).length ≤ 4 := by rw [enc_encI, hb]; simp; omega
      refine Ob.mk (by rw [← encI_def]; show out.length + (encI ((decode rest).1 : Int)).length < _; omega) ?_
      refine ⟨(_, rest.drop (decode rest).2, pos + (decode rest).2), ?_, hd, Nat.le_refl _, Trim.mk' rfl rfl rfl rfl (Nat.le_refl _)⟩
      rw [← encI_def]
      show (out ++ encI ((decode rest).1 : Int)) ++ plS _ = plS l
      rw [enc_encI]
      rw [← hq, hstep]
      unfold plR
      rw [if_pos hp, List.append_assoc]
    · have hp : isPl (decode rest).1 = false := hp
      refine hex_c _ (by have := hok.1; dsimp only; omega) _ _ ?_
      refine Ob.mk (by show 1 + 4 < 9223372036854775808; decide) ?_
      refine Ob.mk (by show out.length + 5 < _; omega) ?_
      refine ⟨(out ++ (92 :: hexR (decode rest).1), rest.drop (decode rest).2, pos + (decode rest).2), ?_, hd, Nat.le_refl _, Trim.mk' rfl rfl rfl rfl (Nat.le_refl _)⟩
      show (out ++ (92 :: hexR (decode rest).1)) ++ plS _ = plS l
      rw [← hq, hstep]
      unfold plR
      rw [hp]
      simp

def intsR (l : List Int) : List PV := l.map (.int .i32)
theorem intsR_len (l : List Int) : (intsR l).length = l.length := by simp [intsR]
theorem by21 : Tryd.prog.types[21].bytes = 4 := rfl
theorem intsR_get {l : List Int} {j : Nat} (h : j < l.length) : (intsR l)[j]? = some (.int .i32 l[j]) := by simp [intsR, h]
theorem hexV_in (d : Int) : IntKind.i32.wrap (hexV d) = hexV d := by
  have : -1 ≤ hexV d ∧ hexV d ≤ 15 := by unfold hexV; split <;> (try split) <;> omega
  rw [IntKind.wrap_i32]; omega
theorem foldl_hex {l : List Int} {j : Nat} (h : j < l.length) : (l.take (j + 1)).foldl hexStep 0 = hexStep ((l.take j).foldl hexStep 0) l[j] := by
  rw [List.take_add_one, List.foldl_append, List.getElem?_eq_getElem h]; rfl
theorem intsR_app (a b : List Int) : intsR (a ++ b) = intsR a ++ intsR b := by simp [intsR]

theorem encs_len : ∀ l : List Int, (encs l).length ≤ 4 * l.length
  | [] => by simp [encs]
  | x :: l => by
    have ih := encs_len l
    have hx : (encI x).length ≤ 4 := by
      rw [encI_def]; unfold Utf8.encode
      simp only []
      repeat' split
      all_goals simp
    have e : encs (x :: l) = encI x ++ encs l := by unfold encs; rw [List.flatMap_cons, encI_def]
    rw [e, List.length_append, List.length_cons]; omega
theorem unplain_c (l : List UInt8) (hl : l.length < 1073741824) (s : Store) (K : AV → Store → Prop) (h : K (.tup [.p (.str (unS l).1), .p (.bool (unS l).2)]) s) : Cal Tryd.prog 18 [.p (.str l)] s K := by
  refine Cal.pure (args := [.str l]) ?_
  refine Cal.intro Tryd.func18 (by decide +kernel) rfl rfl ?_
  have hrl := rns_le l
  have hdl := dUL_len _ (rns l) rfl
  refine LoopX.famW [0, 2, 3, 4, 5] (fun (q : List Int × List Int) => ([(0, .p (.str l)), (2, .p (.str [])), (3, .p (.bool false)), (4, .osl 0 (intsR q.1).length 0 (intsR q.1).length), (5, .p (.sl .shr 1 (intsR q.2)))], [some (.buf 1 (intsR q.1))]))
    (fun q => q.1 ++ dUL q.2 = dUL (rns l) ∧ okL q.2) (fun q => q.2.length) ([], rns l) ⟨rfl, okL_rns l⟩ (Nat.zero_le _) (Trim.wk 0 [(1, none)] rfl (Nat.le_refl _) (.inr rfl) rfl rfl rfl rfl rfl ⟨.inl rfl, .inl rfl, .inl rfl, .own 0 rfl rfl, .inl rfl, trivial⟩) ?_
  rintro ⟨out, rest⟩ ⟨hq, hok⟩
  change out ++ dUL rest = dUL (rns l) at hq
  change okL rest at hok
  have hol : out.length ≤ l.length := by
    have := congrArg List.length hq
    rw [List.length_append] at this; omega
  cases rest with
  | nil =>
    refine Br.f rfl ?_
    have e : ((intsR out).drop 0).take (intsR out).length = intsR out := by rw [List.drop_zero, List.take_length]
    refine Ob.mk rfl (Ob.mk (.inr rfl) ⟨out, e, ?_⟩)
    rw [dUL_nil, List.append_nil] at hq
    have hel : (encs out).length ≤ 4 * out.length := encs_len out
    have hu : unS l = if plS (encs out) = l then (encs out, true) else ([], false) := by rw [hq]; rfl
    refine plain_text (encs out) (by omega) _ _ ?_
    refine Br.mk (fun hc => ?_) (fun hc => ?_)
    · have hc : plS (encs out) = l := by simpa using hc
      rw [if_pos hc] at hu
      rw [hu] at h
      exact h
    · have hc : ¬ plS (encs out) = l := by simpa using hc
      rw [if_neg hc] at hu
      rw [hu] at h
      exact h
  | cons r rest =>
    refine Br.t (by simp [intsR]) ?_
    refine Idx.mk (.int .i32 r) (by decide) rfl ?_
    refine Ob.mk ⟨by decide, by simp [intsR]; omega⟩ ?_
    have hrest : okL rest := fun x hx => hok x (by simp [hx])
    have happ : ∀ z : Int, intsR out ++ [.int .i32 z] = intsR (out ++ [z]) := fun z => (intsR_app out [z]).symm
    have hroom : ∀ z : Int, ((intsR out).length + [PV.int .i32 z].length) * Tryd.prog.types[21].bytes ≤ 140737488355328 := fun z => by rw [by21, intsR_len]; simp; omega
    by_cases hr : r = 92
    · subst hr
      refine Br.t rfl ?_
      refine Br.t rfl ?_
      refine Br.t rfl ?_
      refine Br.t rfl ?_
      by_cases h4 : 4 ≤ rest.length
      · rw [dUL_esc h4] at hq
        refine Br.t (by simp [intsR]; omega) ?_
        refine Ob.mk ⟨by decide, by decide, by simp [intsR]; omega⟩ ?_
        have e4 : (((intsR (92 :: rest)).drop (1 : Int).toNat).take (4 : Int).toNat).drop (0 : Int).toNat = intsR (rest.take 4) := by
          show ((intsR rest).take 4).drop 0 = _
          rw [List.drop_zero]; simp [intsR, List.map_take]
        have e4l : (intsR (rest.take 4)).length = 4 := by rw [intsR_len, List.length_take]; omega
        refine LoopX.fam [0, 2, 3, 4, 5, 6, 28, 29, 30] (fun (j : Nat) => ([(0, .p (.str l)), (2, .p (.str [])), (3, .p (.bool false)), (4, .osl 0 (intsR out).length 0 (intsR out).length), (5, .p (.sl .shr 1 (intsR rest))), (6, .p (.int .i32 ((rest.take j).foldl hexStep 0))),
          (28, .p (.sl .shr 1 ((((intsR (92 :: rest)).drop (1 : Int).toNat).take (4 : Int).toNat).drop (0 : Int).toNat))), (29, .p (ii ((((intsR (92 :: rest)).drop (1 : Int).toNat).take (4 : Int).toNat).drop (0 : Int).toNat).length)), (30, .p (ii j))], [some (.buf 1 (intsR out))])) (fun j => j ≤ 4) (fun j => 4 - j) 0 (Nat.zero_le _) (Trim.mk' rfl rfl rfl rfl (Nat.le_refl _)) ?_
        intro j hj
        have hj : j ≤ 4 := hj
        refine Br.mk (fun c => ?_) (fun c => ?_)
        · have c : j < 4 := by simp at c; omega
          have hc2 : j < (rest.take 4).length := by rw [List.length_take]; omega
          have hj1 : j < rest.length := by omega
          obtain ⟨d, hd, hdok⟩ := hrest _ (List.getElem_mem hj1)
          have hg : ((((intsR (92 :: rest)).drop (1 : Int).toNat).take (4 : Int).toNat).drop (0 : Int).toNat)[j]? = some (.int .i32 (d : Int)) := by
            rw [e4, intsR_get hc2, List.getElem_take, hd]
          have ef := foldl_hex hj1
          rw [hd] at ef
          have e6 : (rest.take (j + 1)).foldl hexStep 0 = IntKind.i32.wrap (IntKind.i32.wrap ((rest.take j).foldl hexStep 0 * 2 ^ (min (4 : Int).toNat IntKind.i32.bits)) + IntKind.i32.wrap (hexV (d : Int))) := by
            rw [ef, hexV_in]; rfl
          have ej : IntKind.i64.wrap ((j : Int) + 1) = ((j + 1 : Nat) : Int) := by rw [wrap_i64] <;> omega
          refine Idx.mk (.int .i32 (d : Int)) (by omega) (by rw [Int.toNat_natCast]; exact hg) ?_
          refine Ob.mk (by decide) ?_
          refine indexRune_c d hdok _ _ ?_
          refine ⟨j + 1, c, by omega, Nat.le_refl _, Trim.mk' ?_ rfl rfl rfl (Nat.le_refl _)⟩
          show _ = [_, _, _, _, _, (6, AV.p (.int .i32 ((rest.take (j + 1)).foldl hexStep 0))), _, _, (30, AV.p (ii ((j + 1 : Nat) : Int)))]
          rw [e6, ← ej]; rfl
        · have c : j = 4 := by rw [e4, e4l] at c; simp at c; omega
          subst c
          refine Ob.mk ⟨by decide, by simp [intsR]; omega⟩ ?_
          refine Ob.mk ⟨rfl, rfl, rfl, hroom _⟩ ?_
          have hdr : (intsR rest).drop (4 : Int).toNat = intsR (rest.drop 4) := by simp [intsR, List.map_drop]
          refine ⟨(out ++ [(rest.take 4).foldl hexStep 0], rest.drop 4), ⟨by dsimp only; rw [← hq]; simp, fun x hx => hrest x (List.mem_of_mem_drop hx)⟩, by simp; omega, Nat.zero_le _, Trim.mk' ?_ ?_ rfl ?_ (Nat.le_refl _)⟩
          · show _ = [_, _, _, (4, AV.osl 0 (intsR (out ++ [_])).length 0 (intsR (out ++ [_])).length), (5, AV.p (.sl .shr 1 (intsR (rest.drop 4))))]
            rw [← happ, ← hdr]; rfl
          · show _ = [some (AObj.buf 1 (intsR (out ++ [_])))]
            rw [← happ]; rfl
          · rfl
      · rw [dUL_one (fun q => h4 q.2)] at hq
        refine Br.f (by simp [intsR]; omega) ?_
        refine Ob.mk ⟨rfl, rfl, rfl, hroom _⟩ ?_
        refine ⟨(out ++ [92], rest), ⟨by dsimp only; rw [← hq]; simp, hrest⟩, by simp, Nat.zero_le _, Trim.mk' ?_ ?_ rfl ?_ (Nat.le_refl _)⟩
        · show _ = [_, _, _, (4, AV.osl 0 (intsR (out ++ [92])).length 0 (intsR (out ++ [92])).length), (5, AV.p (.sl .shr 1 (intsR rest)))]
          rw [← happ]; rfl
        · show _ = [some (AObj.buf 1 (intsR (out ++ [92])))]
          rw [← happ]; rfl
        · rfl
    · rw [dUL_one (fun q => hr q.1)] at hq
      have hb : (r == 92) = false := by simpa using hr
      repeat (first | refine Br.f rfl ?_ | refine Br.f hb ?_ | refine Br.f (congrArg (· == true) hb) ?_)
      refine Ob.mk ⟨rfl, rfl, rfl, hroom _⟩ ?_
      refine ⟨(out ++ [r], rest), ⟨by dsimp only; rw [← hq]; simp, hrest⟩, by simp, Nat.zero_le _, Trim.mk' ?_ ?_ rfl ?_ (Nat.le_refl _)⟩
      · show _ = [_, _, _, (4, AV.osl 0 (intsR (out ++ [r])).length 0 (intsR (out ++ [r])).length), (5, AV.p (.sl .shr 1 (intsR rest)))]
        rw [← happ]; rfl
      · show _ = [some (AObj.buf 1 (intsR (out ++ [r])))]
        rw [← happ]; rfl
      · rfl
end Go.Proofs.YtkokaflanlcojaaDoor.AW

open Go Go.Proofs.YtkokaflanlcojaaDoor.AW Go.Proofs
namespace Go.Proofs.YtkokaflanlcojaaDoor.AW
set_option maxRecDepth 100000
set_option linter.unusedSimpArgs false
set_option linter.unusedVariables false
attribute [local irreducible] Utf8.encode

theorem w4_facts (l : List UInt8) (i E S : Nat) (b : UInt8) (t : List UInt8) (o : Nat) (hrem : l.drop i = b :: t) (hc : i < l.length) (hl : l.length < 1073741824) (hol : o ≤ i) (h1 : 1 ≤ E) (h4 : E ≤ 4) (hS : S = min E (l.length - i)) :
    IntKind.i64.wrap ((i : Int) + (E : Int)) = ((i + E : Nat) : Int)
    ∧ (l.take (if (l.length : Int) < IntKind.i64.wrap ((i : Int) + (E : Int)) then (l.length : Int) else IntKind.i64.wrap ((i : Int) + (E : Int))).toNat).drop (i : Int).toNat = (b :: t).take S
    ∧ l.drop (i + E) = (b :: t).drop S
    ∧ (i : Int) ≤ (if (l.length : Int) < IntKind.i64.wrap ((i : Int) + (E : Int)) then (l.length : Int) else IntKind.i64.wrap ((i : Int) + (E : Int)))
    ∧ (if (l.length : Int) < IntKind.i64.wrap ((i : Int) + (E : Int)) then (l.length : Int) else IntKind.i64.wrap ((i : Int) + (E : Int))) ≤ (l.length : Int)
    ∧ ((l.take (if (l.length : Int) < IntKind.i64.wrap ((i : Int) + (E : Int)) then (l.length : Int) else IntKind.i64.wrap ((i : Int) + (E : Int))).toNat).drop (i : Int).toNat).length ≤ 4
    ∧ i + E ≤ l.length + 3
    ∧ o + ((l.take (if (l.length : Int) < IntKind.i64.wrap ((i : Int) + (E : Int)) then (l.length : Int) else IntKind.i64.wrap ((i : Int) + (E : Int))).toNat).drop (i : Int).toNat).length ≤ i + E
    ∧ l.length + 4 - (i + E) < l.length + 4 - i := by
  have eik : IntKind.i64.wrap ((i : Int) + (E : Int)) = ((i + E : Nat) : Int) := by rw [wrap_i64] <;> omega
  have em : (if (l.length : Int) < IntKind.i64.wrap ((i : Int) + (E : Int)) then (l.length : Int) else IntKind.i64.wrap ((i : Int) + (E : Int))) = ((i + S : Nat) : Int) := by
    rw [eik, hS]; split <;> omega
  have ecut : (l.take (if (l.length : Int) < IntKind.i64.wrap ((i : Int) + (E : Int)) then (l.length : Int) else IntKind.i64.wrap ((i : Int) + (E : Int))).toNat).drop (i : Int).toNat = (b :: t).take S := by
    rw [em, Int.toNat_natCast, Int.toNat_natCast, List.drop_take, hrem]; congr 1; omega
  refine ⟨eik, ecut, ?_, ?_, ?_, ?_, by omega, ?_, by omega⟩
  · rw [← hrem, List.drop_drop]
    by_cases hh : E ≤ l.length - i
    · rw [hS, Nat.min_eq_left hh]
    · rw [hS, Nat.min_eq_right (by omega), List.drop_eq_nil_of_le (by omega), List.drop_eq_nil_of_le (by omega)]
  · rw [em]; omega
  · rw [em]; omega
  · rw [ecut, List.length_take]; omega
  · rw [ecut, List.length_take]; omega

theorem lawUnplain_c (l : List UInt8) (hl : l.length < 1073741824) (s : Store) (K : AV → Store → Prop) (h : K (.tup [.p (.str (unR l).1), .p (.bool (unR l).2)]) s) : Cal Tryd.prog 32 [.p (.str l)] s K := by
  refine Cal.pure (args := [.str l]) ?_
  refine Cal.intro Tryd.func32 (by decide +kernel) rfl rfl ?_
  refine LoopX.fam [0, 2, 3, 4, 5] (fun (q : List UInt8 × Nat) => ([(0, .p (.str l)), (2, .p (.str [])), (3, .p (.bool false)), (4, .p (.str q.1)), (5, .p (ii q.2))], []))
    (fun q => (uBL (l.drop q.2)).map (q.1 ++ ·) = uBL l ∧ q.2 ≤ l.length + 3 ∧ q.1.length ≤ q.2) (fun q => l.length + 4 - q.2) ([], 0) ⟨by simp, by simp, by simp⟩ (Trim.mk' rfl rfl rfl rfl (Nat.le_refl _)) ?_
  rintro ⟨out, i⟩ ⟨hq, hi, hol⟩
  change (uBL (l.drop i)).map (out ++ ·) = uBL l at hq
  change i ≤ l.length + 3 at hi
  change out.length ≤ i at hol
  refine Br.mk (fun hc => ?_) (fun hc => ?_)
  · have hc : i < l.length := by simp at hc; omega
    obtain ⟨b, hb⟩ : ∃ b, b = l[i] := ⟨_, rfl⟩
    have hrem : l.drop i = b :: l.drop (i + 1) := by rw [hb]; exact List.drop_eq_getElem_cons hc
    have htl : (l.drop (i + 1)).length = l.length - (i + 1) := by simp
    rw [hrem] at hq
    refine IdxB.mk b (by omega) (by rw [Int.toNat_natCast, List.getElem?_eq_getElem hc, hb]) ?_
    have e5 : IntKind.i64.wrap ((i : Int) + 5) = ((i + 5 : Nat) : Int) := by rw [wrap_i64] <;> omega
    have e1 : IntKind.i64.wrap ((i : Int) + 1) = ((i + 1 : Nat) : Int) := by rw [wrap_i64] <;> omega
    -- what is done where there is no escape
    by_cases hesc : b = 92 ∧ 4 ≤ (l.drop (i + 1)).length
    · obtain ⟨rfl, h4⟩ := hesc
      rw [uBL_esc h4] at hq
      rw [htl] at h4
      repeat (first | refine Br.t rfl ?_ | refine Br.t (show decide (IntKind.i64.wrap ((i : Int) + 5) ≤ (l.length : Int)) = true by rw [e5]; simp; omega) ?_)
      refine Ob.mk ⟨by rw [e1]; omega, by rw [e1, e5]; omega, by rw [e5]; omega⟩ ?_
      have e4 : (l.take (IntKind.i64.wrap ((i : Int) + 5)).toNat).drop (IntKind.i64.wrap ((i : Int) + 1)).toNat = (l.drop (i + 1)).take 4 := by
        rw [e5, e1, Int.toNat_natCast, Int.toNat_natCast, List.drop_take]
        congr 1; omega
      refine LoopX.fam [0, 2, 3, 4, 5, 6, 33] (fun (q : Int × List UInt8 × Nat) => ([(0, .p (.str l)), (2, .p (.str [])), (3, .p (.bool false)), (4, .p (.str out)), (5, .p (ii i)), (6, .p (.int .i32 q.1)), (33, .it 0)], [some (.iterS q.2.1 q.2.2)]))
        (fun q => hexB (rns q.2.1) q.1 = hexB (rns ((l.drop (i + 1)).take 4)) 0) (fun q => q.2.1.length) (0, _, 0) (by dsimp only; rw [e4]) (Trim.mk' rfl rfl rfl rfl (Nat.le_refl _)) ?_
      rintro ⟨n, rest, pos⟩ hh
      change hexB (rns rest) n = _ at hh
      rw [← hh] at hq
      refine BrL.mk (fun (he : rest = []) => ?_) (fun (hne : rest ≠ []) => ?_)
      · refine Br.f rfl ?_
        rw [he, rns_nil] at hq
        have hlen : (encI n).length ≤ 4 := by
          rw [encI_def]; unfold Utf8.encode
          simp only []
          repeat' split
          all_goals simp
        refine Ob.mk (by rw [← encI_def]; show out.length + (encI n).length < _; omega) ?_
        refine ⟨(out ++ (Utf8.encode n).data.toList, i + 5), ⟨?_, by dsimp only; omega, ?_⟩, by dsimp only; omega, Nat.zero_le _, Trim.mk' ?_ rfl rfl rfl (Nat.zero_le _)⟩
        rotate_left 2
        · show _ = [_, _, _, (4, AV.p (.str (out ++ (Utf8.encode n).data.toList))), (5, AV.p (ii ((i + 5 : Nat) : Int)))]
          rw [← e5]; rfl
        · dsimp only
          rw [← hq, ← encI_def]
          show (uBL _).map _ = _
          simp only [hexB, Option.map_map, List.drop_drop]
          rw [show i + 1 + 4 = i + 5 by omega]
          congr 1
          funext z; simp
        · dsimp only
          rw [← encI_def, List.length_append]; omega
      · refine Br.t rfl ?_
        have hd : (rest.drop (decode rest).2).length < rest.length := by
          have h3 := decode_pos rest
          have h4 : 0 < rest.length := List.length_pos_iff.2 hne
          simp; omega
        rw [rns_step hne] at hh
        rw [hexB] at hh
        have bad : ¬ (48 ≤ (((decode rest).1 : Nat) : Int) ∧ (((decode rest).1 : Nat) : Int) ≤ 57) → ¬ (97 ≤ (((decode rest).1 : Nat) : Int) ∧ (((decode rest).1 : Nat) : Int) ≤ 102) → K (.tup [.p (.str []), .p (.bool false)]) s := by
          intro a b
          rw [if_neg a, if_neg b] at hh
          have hu : unR l = ([], false) := by
            have e : uBL l = none := by rw [← hq, rns_step hne, hexB, if_neg a, if_neg b]; rfl
            unfold unR; rw [e]
          rw [hu] at h; exact h
        by_cases a1 : 48 ≤ (((decode rest).1 : Nat) : Int)
        · by_cases a2 : (((decode rest).1 : Nat) : Int) ≤ 57
          · rw [if_pos ⟨a1, a2⟩] at hh
            have c1 : decide ((((decode (n, rest, pos).2.1).1 : Nat) : Int) ≥ 48) = true := by simpa using a1
            have c2 : decide ((((decode (n, rest, pos).2.1).1 : Nat) : Int) ≤ 57) = true := by simpa using a2
            repeat (first | refine Br.t c1 ?_ | refine Br.t (congrArg (· == true) c1) ?_ | refine Br.t c2 ?_)
            exact ⟨(_, rest.drop (decode rest).2, pos + (decode rest).2), hh, hd, Nat.le_refl _, Trim.mk' rfl rfl rfl rfl (Nat.le_refl _)⟩
          · rw [if_neg (fun q => a2 q.2)] at hh
            have c1 : decide ((((decode (n, rest, pos).2.1).1 : Nat) : Int) ≥ 48) = true := by simpa using a1
            have c2 : decide ((((decode (n, rest, pos).2.1).1 : Nat) : Int) ≤ 57) = false := by simpa using a2
            repeat (first | refine Br.t c1 ?_ | refine Br.t (congrArg (· == true) c1) ?_ | refine Br.f c2 ?_)
            by_cases a3 : 97 ≤ (((decode rest).1 : Nat) : Int)
            · by_cases a4 : (((decode rest).1 : Nat) : Int) ≤ 102
              · rw [if_pos ⟨a3, a4⟩] at hh
                have c3 : decide ((((decode (n, rest, pos).2.1).1 : Nat) : Int) ≥ 97) = true := by simpa using a3
                have c4 : decide ((((decode (n, rest, pos).2.1).1 : Nat) : Int) ≤ 102) = true := by simpa using a4
                repeat (first | refine Br.t c3 ?_ | refine Br.t (congrArg (· == true) c3) ?_ | refine Br.t c4 ?_)
                exact ⟨(_, rest.drop (decode rest).2, pos + (decode rest).2), hh, hd, Nat.le_refl _, Trim.mk' rfl rfl rfl rfl (Nat.le_refl _)⟩
              · have c3 : decide ((((decode (n, rest, pos).2.1).1 : Nat) : Int) ≥ 97) = true := by simpa using a3
                have c4 : decide ((((decode (n, rest, pos).2.1).1 : Nat) : Int) ≤ 102) = false := by simpa using a4
                repeat (first | refine Br.t c3 ?_ | refine Br.t (congrArg (· == true) c3) ?_ | refine Br.f c4 ?_)
                exact bad (fun q => a2 q.2) (fun q => a4 q.2)
            · have c3 : decide ((((decode (n, rest, pos).2.1).1 : Nat) : Int) ≥ 97) = false := by simpa using a3
              repeat (first | refine Br.f c3 ?_ | refine Br.f (congrArg (· == true) c3) ?_ | refine Br.f rfl ?_)
              exact bad (fun q => a2 q.2) (fun q => a3 q.1)
        · have c1 : decide ((((decode (n, rest, pos).2.1).1 : Nat) : Int) ≥ 48) = false := by simpa using a1
          have c3 : decide ((((decode (n, rest, pos).2.1).1 : Nat) : Int) ≥ 97) = false := by
            have : ¬ 97 ≤ (((decode rest).1 : Nat) : Int) := by omega
            simpa using this
          repeat (first | refine Br.f c1 ?_ | refine Br.f (congrArg (· == true) c1) ?_ | refine Br.f c3 ?_ | refine Br.f (congrArg (· == true) c3) ?_ | refine Br.f rfl ?_)
          exact bad (fun q => a1 q.1) (fun q => by omega)
    · have hst := stepK_pos b (l.drop (i + 1))
      have hdec : decode (l.drop i) = decode (b :: l.drop (i + 1)) := by rw [hrem]
      rw [uBL_one hesc] at hq
      have key : ∀ (rest : List UInt8), rest = l.drop i → (encI ((decode rest).1 : Int)).length ≤ 4 := by
        intro rest _
        rw [encI_def]; unfold Utf8.encode
        simp only []
        repeat' split
        all_goals simp
      by_cases h92 : b = 92
      · have c1 : ((b.toNat : Int) == 92) = true := by rw [h92]; rfl
        have c2 : decide (IntKind.i64.wrap ((i : Int) + 5) ≤ (l.length : Int)) = false := by
          rw [e5, decide_eq_false_iff_not]; rw [htl] at hesc
          intro q; exact hesc ⟨h92, by omega⟩
        repeat (first | refine Br.t c1 ?_ | refine Br.t (congrArg (· == true) c1) ?_ | refine Br.f c2 ?_)
        refine Ob.mk (show (0 : Int) ≤ (i : Int) ∧ (i : Int) ≤ (l.length : Int) ∧ (l.length : Int) ≤ (l.length : Int) from ⟨by omega, by omega, by omega⟩) ?_
        refine LoopX.fam [0, 2, 3, 4, 5, 9, 71] (fun (q : List UInt8 × Nat) => ([(0, .p (.str l)), (2, .p (.str [])), (3, .p (.bool false)), (4, .p (.str out)), (5, .p (ii i)), (9, .p (ii 1)), (71, .it 0)], [some (.iterS q.1 q.2)]))
          (fun q => q.1 = l.drop i) (fun q => 0) (_, 0) (by dsimp only; rw [Int.toNat_natCast, Int.toNat_natCast, List.take_of_length_le (Nat.le_refl _)]) (Trim.mk' rfl rfl rfl rfl (Nat.le_refl _)) ?_
        rintro ⟨rest, pos⟩ hr
        change rest = l.drop i at hr
        have hk4 := key rest hr
        rw [encI_def] at hk4
        refine BrL.mk (fun (he : rest = []) => ?_) (fun (hne : rest ≠ []) => ?_)
        · rw [hr, hrem] at he; cases he
        have hsk : stepK (b :: l.drop (i + 1)) = min (Utf8.encode ((decode rest).1 : Int)).data.toList.length (l.length - i) := by
          rw [← hrem, ← hr]; unfold stepK; rw [encI_def, hr, List.length_drop]
        obtain ⟨eik, ecut, e6, emi, eml, ecl, elt, ecl2, emz⟩ := w4_facts l i (Utf8.encode ((decode rest).1 : Int)).data.toList.length (stepK (b :: l.drop (i + 1))) b (l.drop (i + 1)) out.length hrem hc hl hol (by rw [← encI_def]; exact encI_pos _) hk4 hsk
        refine Br.t rfl ?_
        refine Ob.mk ?_ ?_
        · dsimp only; exact ⟨Int.natCast_nonneg i, emi, eml⟩
        refine Ob.mk ?_ ?_
        · dsimp only; exact Nat.lt_of_le_of_lt (Nat.add_le_add hol ecl) (by omega)
        refine ⟨(out ++ (l.take (if (l.length : Int) < IntKind.i64.wrap ((i : Int) + ((Utf8.encode ((decode rest).1 : Int)).data.toList.length : Int)) then (l.length : Int) else IntKind.i64.wrap ((i : Int) + ((Utf8.encode ((decode rest).1 : Int)).data.toList.length : Int))).toNat).drop (i : Int).toNat, i + (Utf8.encode ((decode rest).1 : Int)).data.toList.length), ⟨?_, elt, ?_⟩, ?_, Nat.zero_le _, Trim.mk' ?_ rfl rfl rfl (Nat.zero_le _)⟩
        rotate_left 3
        · refine Eq.trans (b := [_, _, _, _, (5, AV.p (ii (IntKind.i64.wrap ((i : Int) + ((Utf8.encode ((decode rest).1 : Int)).data.toList.length : Int)))))]) rfl ?_
          dsimp only
          rw [eik]; rfl
        · dsimp only
          rw [ecut, ← hq, Option.map_map]
          rw [e6]
          exact congrArg (fun f => Option.map f _) (funext fun z => List.append_assoc _ _ _)
        · dsimp only
          rw [List.length_append]; exact ecl2
        · exact emz
      · have c1 : ((b.toNat : Int) == 92) = false := by
          rw [beq_eq_false_iff_ne]
          intro q
          exact h92 (UInt8.toNat_inj.1 (by show b.toNat = 92; omega))
        repeat (first | refine Br.f c1 ?_ | refine Br.f (congrArg (· == true) c1) ?_ | refine Br.f rfl ?_)
        refine Ob.mk (show (0 : Int) ≤ (i : Int) ∧ (i : Int) ≤ (l.length : Int) ∧ (l.length : Int) ≤ (l.length : Int) from ⟨by omega, by omega, by omega⟩) ?_
        refine LoopX.fam [0, 2, 3, 4, 5, 9, 71] (fun (q : List UInt8 × Nat) => ([(0, .p (.str l)), (2, .p (.str [])), (3, .p (.bool false)), (4, .p (.str out)), (5, .p (ii i)), (9, .p (ii 1)), (71, .it 0)], [some (.iterS q.1 q.2)]))
          (fun q => q.1 = l.drop i) (fun q => 0) (_, 0) (by dsimp only; rw [Int.toNat_natCast, Int.toNat_natCast, List.take_of_length_le (Nat.le_refl _)]) (Trim.mk' rfl rfl rfl rfl (Nat.le_refl _)) ?_
        rintro ⟨rest, pos⟩ hr
        change rest = l.drop i at hr
        have hk4 := key rest hr
        rw [encI_def] at hk4
        refine BrL.mk (fun (he : rest = []) => ?_) (fun (hne : rest ≠ []) => ?_)
        · rw [hr, hrem] at he; cases he
        have hsk : stepK (b :: l.drop (i + 1)) = min (Utf8.encode ((decode rest).1 : Int)).data.toList.length (l.length - i) := by
          rw [← hrem, ← hr]; unfold stepK; rw [encI_def, hr, List.length_drop]
        obtain ⟨eik, ecut, e6, emi, eml, ecl, elt, ecl2, emz⟩ := w4_facts l i (Utf8.encode ((decode rest).1 : Int)).data.toList.length (stepK (b :: l.drop (i + 1))) b (l.drop (i + 1)) out.length hrem hc hl hol (by rw [← encI_def]; exact encI_pos _) hk4 hsk
        refine Br.t rfl ?_
        refine Ob.mk ?_ ?_
        · dsimp only; exact ⟨Int.natCast_nonneg i, emi, eml⟩
        refine Ob.mk ?_ ?_
        · dsimp only; exact Nat.lt_of_le_of_lt (Nat.add_le_add hol ecl) (by omega)
        refine ⟨(out ++ (l.take (if (l.length : Int) < IntKind.i64.wrap ((i : Int) + ((Utf8.encode ((decode rest).1 : Int)).data.toList.length : Int)) then (l.length : Int) else IntKind.i64.wrap ((i : Int) + ((Utf8.encode ((decode rest).1 : Int)).data.toList.length : Int))).toNat).drop (i : Int).toNat, i + (Utf8.encode ((decode rest).1 : Int)).data.toList.length), ⟨?_, elt, ?_⟩, ?_, Nat.zero_le _, Trim.mk' ?_ rfl rfl rfl (Nat.zero_le _)⟩
        rotate_left 3
        · refine Eq.trans (b := [_, _, _, _, (5, AV.p (ii (IntKind.i64.wrap ((i : Int) + ((Utf8.encode ((decode rest).1 : Int)).data.toList.length : Int)))))]) rfl ?_
          dsimp only
          rw [eik]; rfl
        · dsimp only
          rw [ecut, ← hq, Option.map_map]
          rw [e6]
          exact congrArg (fun f => Option.map f _) (funext fun z => List.append_assoc _ _ _)
        · dsimp only
          rw [List.length_append]; exact ecl2
        · exact emz
  · have hc : l.length ≤ i := by simp at hc; omega
    rw [List.drop_eq_nil_of_le hc, uBL_nil, Option.map_some, List.append_nil] at hq
    refine lawPlain_c out (by omega) _ _ ?_
    have hu : unR l = if plS out = l then (out, true) else ([], false) := by unfold unR; rw [← hq]
    rw [hu] at h
    by_cases hs : plS out = l
    · rw [if_pos hs] at h
      refine Br.f (by simp [hs]) ?_
      exact h
    · rw [if_neg hs] at h
      refine Br.t (by simp [hs]) ?_
      exact h
end Go.Proofs.YtkokaflanlcojaaDoor.AW

open Go Go.Proofs.YtkokaflanlcojaaDoor.AW Go.Proofs
namespace Go.Proofs.YtkokaflanlcojaaDoor.AW
set_option maxRecDepth 100000
set_option linter.unusedSimpArgs false
set_option linter.unusedVariables false

theorem same_c (l : List UInt8) (hl : l.length < 1073741824) (s : Store) (K : AV → Store → Prop) (h : K (.p (.bool true)) s) : Cal Tryd.prog 11 [.p (.str l)] s K := by
  refine Cal.pure (args := [.str l]) ?_
  refine Cal.intro Tryd.func11 (by decide +kernel) rfl rfl ?_
  refine unplain_c l hl _ _ ?_
  refine lawUnplain_c l hl _ _ ?_
  rw [un_same]
  refine plain_text l (by omega) _ _ ?_
  refine lawPlain_c l (by omega) _ _ ?_
  have e1 : (plS l == plS l) = true := by simp
  have e2 : ((unS l).1 == (unS l).1) = true := by simp
  have e3 : ((unS l).2 == (unS l).2) = true := by simp
  repeat (first | refine Br.t e1 ?_ | refine Br.t (congrArg (· == true) e1) ?_ | refine Br.t e2 ?_ | refine Br.t (congrArg (· == true) e2) ?_)
  rw [← e3] at h
  exact h

theorem tnumber_c (n : Int) (h1 : -9223372036854775808 ≤ n) (h2 : n < 9223372036854775808) (s : Store) (K : AV → Store → Prop) (h : K (.p (.str (fmtS n))) s) : Cal Tryd.prog 33 [.p (ii n)] s K := by
  refine Cal.pure (args := [ii n]) ?_
  refine Cal.intro Tryd.func33 (by decide +kernel) rfl rfl ?_
  exact formatInt2_c n h1 h2 _ _ h

theorem dec_len : ∀ f u, (dec f u).length ≤ f + 1
  | 0, u => by simp [dec]
  | f + 1, u => by
    have := dec_len f (u / 10)
    unfold dec
    split <;> simp <;> omega
theorem fmtS_len (n : Int) : (fmtS n).length ≤ 22 := by
  have := dec_len 20 n.natAbs
  unfold fmtS decS
  split <;> simp <;> omega

/-- A line told from outside: what was kept, what was lost. -/
def GotOk (g : Int × Int × List UInt8 × List UInt8) : Prop := (-9223372036854775808 ≤ g.1 ∧ g.1 < 9223372036854775808) ∧ g.2.2.1.length < 1048576 ∧ g.2.2.2.length < 1048576
def gotP (g : Int × Int × List UInt8 × List UInt8) : PV := .agg [ii g.1, ii g.2.1, .str g.2.2.1, .str g.2.2.2]
def dropP (d : Int × Int × Int) : PV := .agg [ii d.1, ii d.2.1, ii d.2.2]
def I64 (n : Int) : Prop := -9223372036854775808 ≤ n ∧ n < 9223372036854775808
def DropOk (d : Int × Int × Int) : Prop := I64 d.1 ∧ I64 d.2.1 ∧ I64 d.2.2
def gotS (g : Int × Int × List UInt8 × List UInt8) : List UInt8 := [32] ++ fmtS g.1 ++ [58] ++ recS g.2.2.1 g.2.2.2
def dropS (d : Int × Int × Int) : List UInt8 := [32, 33] ++ fmtS d.1 ++ [58] ++ fmtS d.2.1 ++ [45] ++ fmtS d.2.2
structure Ev where
  why : Int
  base : Int
  recs : List (Int × Int × List UInt8 × List UInt8)
  lost : List (Int × Int × Int)
  next : Int
  stable : Int
def evP (e : Ev) : PV := .agg [ii e.why, ii e.base, .sl .shr 4 (e.recs.map gotP), .sl .shr 3 (e.lost.map dropP), ii e.next, ii e.stable]
structure EvOk (e : Ev) : Prop where
  why : I64 e.why
  base : I64 e.base
  next : I64 e.next
  stable : I64 e.stable
  recs : ∀ g ∈ e.recs, GotOk g
  lost : ∀ d ∈ e.lost, DropOk d
  nr : e.recs.length < 1024
  nl : e.lost.length < 1024
def headS (e : Ev) : List UInt8 := [101] ++ fmtS e.why ++ [32] ++ fmtS e.base
def evS (e : Ev) : List UInt8 := if e.recs = [] ∧ e.lost = [] ∧ e.next = 0 ∧ e.stable = 0 then headS e
  else headS e ++ e.recs.flatMap gotS ++ e.lost.flatMap dropS ++ [32, 62] ++ fmtS e.next ++ [32] ++ fmtS e.stable

theorem got_nth {l : List (Int × Int × List UInt8 × List UInt8)} {j : Nat} (h : j < l.length) : (l.map gotP)[((j : Int)).toNat]? = some (gotP l[j]) := by simp [h]
theorem drop_nth {l : List (Int × Int × Int)} {j : Nat} (h : j < l.length) : (l.map dropP)[((j : Int)).toNat]? = some (dropP l[j]) := by simp [h]
theorem flat_succ {α β : Type} (f : α → List β) {l : List α} {j : Nat} (h : j < l.length) : (l.take (j + 1)).flatMap f = (l.take j).flatMap f ++ f l[j] := by
  rw [List.take_succ_eq_append_getElem h, List.flatMap_append, List.flatMap_cons, List.flatMap_nil, List.append_nil]
theorem flatB_len {α : Type} (f : α → List UInt8) (B : Nat) : ∀ (l : List α), (∀ x ∈ l, (f x).length ≤ B) → (l.flatMap f).length ≤ l.length * B
  | [], _ => by simp
  | x :: l, h => by
    have h1 := h x (by simp)
    have h2 := flatB_len f B l fun y hy => h y (by simp [hy])
    rw [List.flatMap_cons, List.length_append, List.length_cons, Nat.succ_mul]; omega
theorem gotS_len {g : Int × Int × List UInt8 × List UInt8} (h : GotOk g) : (gotS g).length ≤ 10485800 := by
  have h1 := fmtS_len g.1
  have h2 := plS_len _ g.2.2.1 rfl
  have h3 := plS_len _ g.2.2.2 rfl
  have h4 := h.2.1
  have h5 := h.2.2
  unfold gotS recS
  simp only [List.length_append, List.length_cons, List.length_nil]
  omega
theorem dropS_len {d : Int × Int × Int} : (dropS d).length ≤ 80 := by
  have h1 := fmtS_len d.1
  have h2 := fmtS_len d.2.1
  have h3 := fmtS_len d.2.2
  unfold dropS
  simp only [List.length_append, List.length_cons, List.length_nil]
  omega
theorem headS_len (e : Ev) : (headS e).length ≤ 60 := by
  have h1 := fmtS_len e.why
  have h2 := fmtS_len e.base
  unfold headS
  simp only [List.length_append, List.length_cons, List.length_nil]
  omega

theorem event_c (e : Ev) (he : EvOk e) (s : Store) (K : AV → Store → Prop) (h : K (.p (.str (evS e))) s) : Cal Tryd.prog 14 [.p (evP e)] s K := by
  refine Cal.pure (args := [evP e]) ?_
  refine Cal.intro Tryd.func14 (by decide +kernel) rfl rfl ?_
  have l1 := fmtS_len e.why
  have l2 := fmtS_len e.base
  have lh := headS_len e
  have nb : ∀ b : Int, I64 b → ∀ (s : Store) (K : AV → Store → Prop), K (.p (.str (fmtS b))) s → Cal Tryd.prog 33 [.p (ii b)] s K := fun b hb s K h => tnumber_c b hb.1 hb.2 s K h
  have lr : (e.recs.map gotP).length = e.recs.length := List.length_map ..
  have ll : (e.lost.map dropP).length = e.lost.length := List.length_map ..
  repeat (first
    | refine ⟨_, ⟨rfl, rfl⟩, ?_⟩
    | refine ⟨_, fun s' => nb e.why he.why s' _ ⟨rfl, rfl⟩, rfl, ?_⟩
    | refine ⟨_, fun s' => nb e.base he.base s' _ ⟨rfl, rfl⟩, rfl, ?_⟩
    | refine ⟨_, Ob.mk (by simp; omega) ⟨rfl, rfl⟩, ?_⟩)
  refine Chk.mk (by kernel_rfl) ?_
  refine Ob.mk (okst rfl rfl rfl) ?_
  by_cases hz : e.recs = [] ∧ e.lost = [] ∧ e.next = 0 ∧ e.stable = 0
  · have c1 : (((e.recs.map gotP).length : Int) == 0) = true := by rw [hz.1]; rfl
    have c2 : (((e.lost.map dropP).length : Int) == 0) = true := by rw [hz.2.1]; rfl
    have c3 : (e.next == 0) = true := by rw [hz.2.2.1]; rfl
    have c4 : (e.stable == 0) = true := by rw [hz.2.2.2]; rfl
    repeat (first | refine Br.t c1 ?_ | refine Br.t (congrArg (· == true) c1) ?_ | refine Br.t c2 ?_ | refine Br.t (congrArg (· == true) c2) ?_ | refine Br.t c3 ?_ | refine Br.t (congrArg (· == true) c3) ?_ | refine Br.t c4 ?_)
    have e1 : evS e = headS e := by unfold evS; rw [if_pos hz]
    rw [e1] at h
    exact h
  have e1 : evS e = headS e ++ e.recs.flatMap gotS ++ e.lost.flatMap dropS ++ [32, 62] ++ fmtS e.next ++ [32] ++ fmtS e.stable := by unfold evS; rw [if_neg hz]
  rw [e1] at h
  have hcase : ((((e.recs.map gotP).length : Int) == 0) = false) ∨ ((((e.recs.map gotP).length : Int) == 0) = true ∧ (((e.lost.map dropP).length : Int) == 0) = false) ∨
      ((((e.recs.map gotP).length : Int) == 0) = true ∧ (((e.lost.map dropP).length : Int) == 0) = true ∧ (e.next == 0) = false) ∨
      ((((e.recs.map gotP).length : Int) == 0) = true ∧ (((e.lost.map dropP).length : Int) == 0) = true ∧ (e.next == 0) = true ∧ (e.stable == 0) = false) := by
    rw [lr, ll]
    rcases hr : e.recs with _ | ⟨g, r⟩
    · rcases hl : e.lost with _ | ⟨d, t⟩
      · by_cases h3 : e.next = 0
        · by_cases h4 : e.stable = 0
          · exact absurd ⟨hr, hl, h3, h4⟩ hz
          · refine .inr (.inr (.inr ⟨rfl, rfl, by simpa using h3, by simpa using h4⟩))
        · exact .inr (.inr (.inl ⟨rfl, rfl, by simpa using h3⟩))
      · exact .inr (.inl ⟨rfl, by simp; omega⟩)
    · exact .inl (by simp; omega)
  rcases hcase with c1 | ⟨c1, c2⟩ | ⟨c1, c2, c3⟩ | ⟨c1, c2, c3, c4⟩
  · repeat (first | refine Br.f c1 ?_ | refine Br.f (congrArg (· == true) c1) ?_ | refine Br.f rfl ?_)
    refine LoopX.fam [3, 4, 42, 43, 44] (fun (j : Nat) => ([(3, .p (.str (headS e ++ (e.recs.take j).flatMap gotS))), (4, .ref 1 0), (42, .p (.sl .shr 4 (e.recs.map gotP))), (43, .p (ii (e.recs.map gotP).length)), (44, .p (ii j))],
        [some (.cells [.p (ii e.why), .p (ii e.base), .p (.sl .shr 4 (e.recs.map gotP)), .p (.sl .shr 3 (e.lost.map dropP)), .p (ii e.next), .p (ii e.stable)]), some (.cells [.p (.sl .shr 4 (e.recs.map gotP)), .p (.sl .shr 3 (e.lost.map dropP)), .p (ii e.next), .p (ii e.stable)])]))
      (fun j => j ≤ e.recs.length) (fun j => e.recs.length - j) 0 (Nat.zero_le _) (Trim.mk' ?_ rfl rfl rfl (Nat.le_refl _)) ?_
    · show _ = [(3, AV.p (.str (headS e ++ []))), _, _, _, _]
      rw [List.append_nil]; rfl
    intro j hj
    have nr := he.recs
    have nrl := he.nr
    have nll := he.nl
    have lt1 := flatB_len gotS 10485800 (e.recs.take j) fun x hx => gotS_len (nr x (List.mem_of_mem_take hx))
    rw [List.length_take, Nat.min_eq_left hj] at lt1
    refine Br.mk (fun hc => ?_) (fun hc => ?_)
    · have hc : j < e.recs.length := by rw [lr] at hc; simpa using hc
      have hg := nr e.recs[j] (List.getElem_mem hc)
      obtain ⟨g, hge⟩ : ∃ g, g = e.recs[j] := ⟨_, rfl⟩
      rw [← hge] at hg
      have ej : IntKind.i64.wrap ((j : Int) + 1) = ((j + 1 : Nat) : Int) := by rw [wrap_i64] <;> omega
      have hnx : headS e ++ (e.recs.take (j + 1)).flatMap gotS = headS e ++ (e.recs.take j).flatMap gotS ++ gotS g := by rw [flat_succ gotS hc, ← hge, List.append_assoc]
      have g1 := fmtS_len g.1
      have g2 := plS_len _ g.2.2.1 rfl
      have g3 := plS_len _ g.2.2.2 rfl
      have g4 := hg.2.1
      have g5 := hg.2.2
      have g6 : (recS g.2.2.1 g.2.2.2).length ≤ 10485770 := by unfold recS; simp only [List.length_append, List.length_cons, List.length_nil]; omega
      refine Idx.mk (gotP g) (by omega) (by rw [hge]; exact got_nth hc) ?_
      refine Ob.mk (okst rfl rfl rfl) ?_
      repeat (first
        | refine ⟨_, ⟨rfl, rfl⟩, ?_⟩
        | refine ⟨_, fun s' => nb g.1 hg.1 s' _ ⟨rfl, rfl⟩, rfl, ?_⟩
        | refine ⟨_, fun s' => tellRec_c g.2.2.1 g.2.2.2 (by omega) (by omega) s' _ ⟨rfl, rfl⟩, rfl, ?_⟩
        | refine ⟨_, Ob.mk (by simp only [List.length_append, List.length_cons, List.length_nil]; omega) ⟨rfl, rfl⟩, ?_⟩)
      refine Chk.mk (by kernel_rfl) ?_
      refine ⟨j + 1, hc, by omega, (show (2 : Nat) ≤ 2 by decide), Trim.mk' ?_ rfl rfl rfl (show (2 : Nat) ≤ 3 by decide)⟩
      refine Eq.trans (b := [(3, AV.p (.str (_ ++ _))), _, _, _, (44, AV.p (ii (IntKind.i64.wrap ((j : Int) + 1))))]) rfl ?_
      rw [ej, hnx]; rfl
    · have hc : j = e.recs.length := by rw [lr] at hc; simp at hc; omega
      rw [hc, List.take_length]
      rw [hc] at lt1
      refine LoopX.fam [3, 4, 61, 62, 63] (fun (k : Nat) => ([(3, .p (.str (headS e ++ e.recs.flatMap gotS ++ (e.lost.take k).flatMap dropS))), (4, .ref 1 0), (61, .p (.sl .shr 3 (e.lost.map dropP))), (62, .p (ii (e.lost.map dropP).length)), (63, .p (ii k))],
          [some (.cells [.p (ii e.why), .p (ii e.base), .p (.sl .shr 4 (e.recs.map gotP)), .p (.sl .shr 3 (e.lost.map dropP)), .p (ii e.next), .p (ii e.stable)]), some (.cells [.p (.sl .shr 4 (e.recs.map gotP)), .p (.sl .shr 3 (e.lost.map dropP)), .p (ii e.next), .p (ii e.stable)])]))
        (fun k => k ≤ e.lost.length) (fun k => e.lost.length - k) 0 (Nat.zero_le _) (Trim.mk' ?_ rfl rfl rfl (Nat.le_refl _)) ?_
      · show _ = [(3, AV.p (.str (headS e ++ e.recs.flatMap gotS ++ []))), _, _, _, _]
        rw [List.append_nil]; rfl
      intro k hk
      have lt2 := flatB_len dropS 80 (e.lost.take k) fun x hx => dropS_len
      rw [List.length_take, Nat.min_eq_left hk] at lt2
      have lt1 := flatB_len gotS 10485800 e.recs fun x hx => gotS_len (nr x hx)
      refine Br.mk (fun hc2 => ?_) (fun hc2 => ?_)
      · have hc2 : k < e.lost.length := by rw [ll] at hc2; simpa using hc2
        have hd := he.lost e.lost[k] (List.getElem_mem hc2)
        obtain ⟨d, hde⟩ : ∃ d, d = e.lost[k] := ⟨_, rfl⟩
        rw [← hde] at hd
        have ek : IntKind.i64.wrap ((k : Int) + 1) = ((k + 1 : Nat) : Int) := by rw [wrap_i64] <;> omega
        have hnx : headS e ++ e.recs.flatMap gotS ++ (e.lost.take (k + 1)).flatMap dropS = headS e ++ e.recs.flatMap gotS ++ (e.lost.take k).flatMap dropS ++ dropS d := by rw [flat_succ dropS hc2, ← hde, List.append_assoc _ _ (dropS d)]
        have d1 := fmtS_len d.1
        have d2 := fmtS_len d.2.1
        have d3 := fmtS_len d.2.2
        refine Idx.mk (dropP d) (by omega) (by rw [hde]; exact drop_nth hc2) ?_
        refine Ob.mk (okst rfl rfl rfl) ?_
        repeat (first
          | refine ⟨_, ⟨rfl, rfl⟩, ?_⟩
          | refine ⟨_, fun s' => nb d.1 hd.1 s' _ ⟨rfl, rfl⟩, rfl, ?_⟩
          | refine ⟨_, fun s' => nb d.2.1 hd.2.1 s' _ ⟨rfl, rfl⟩, rfl, ?_⟩
          | refine ⟨_, fun s' => nb d.2.2 hd.2.2 s' _ ⟨rfl, rfl⟩, rfl, ?_⟩
          | refine ⟨_, Ob.mk (by simp only [List.length_append, List.length_cons, List.length_nil]; omega) ⟨rfl, rfl⟩, ?_⟩)
        refine Chk.mk (by kernel_rfl) ?_
        refine ⟨k + 1, hc2, by omega, (show (2 : Nat) ≤ 2 by decide), Trim.mk' ?_ rfl rfl rfl (show (2 : Nat) ≤ 3 by decide)⟩
        refine Eq.trans (b := [(3, AV.p (.str (_ ++ _))), _, _, _, (63, AV.p (ii (IntKind.i64.wrap ((k : Int) + 1))))]) rfl ?_
        rw [ek, hnx]; rfl
      · have hc2 : k = e.lost.length := by rw [ll] at hc2; simp at hc2; omega
        rw [hc2] at lt2
        have q1 := fmtS_len e.next
        have q2 := fmtS_len e.stable
        have eo : headS e ++ e.recs.flatMap gotS ++ (e.lost.take k).flatMap dropS = headS e ++ e.recs.flatMap gotS ++ e.lost.flatMap dropS := by rw [hc2, List.take_length]
        rw [← eo] at h
        have lt3 : ((e.lost.take k).flatMap dropS).length ≤ e.lost.length * 80 := by rw [hc2, List.take_length] ; exact flatB_len dropS 80 e.lost fun x hx => dropS_len
        repeat (first
          | refine ⟨_, ⟨rfl, rfl⟩, ?_⟩
          | refine ⟨_, fun s' => nb e.next he.next s' _ ⟨rfl, rfl⟩, rfl, ?_⟩
          | refine ⟨_, fun s' => nb e.stable he.stable s' _ ⟨rfl, rfl⟩, rfl, ?_⟩
          | refine ⟨_, Ob.mk (by simp only [List.length_append, List.length_cons, List.length_nil]; omega) ⟨rfl, rfl⟩, ?_⟩)
        refine Chk.mk (by kernel_rfl) ?_
        exact h
  · repeat (first | refine Br.t c1 ?_ | refine Br.t (congrArg (· == true) c1) ?_ | refine Br.f c2 ?_ | refine Br.f (congrArg (· == true) c2) ?_ | refine Br.f rfl ?_)
    refine LoopX.fam [3, 4, 42, 43, 44] (fun (j : Nat) => ([(3, .p (.str (headS e ++ (e.recs.take j).flatMap gotS))), (4, .ref 1 0), (42, .p (.sl .shr 4 (e.recs.map gotP))), (43, .p (ii (e.recs.map gotP).length)), (44, .p (ii j))],
        [some (.cells [.p (ii e.why), .p (ii e.base), .p (.sl .shr 4 (e.recs.map gotP)), .p (.sl .shr 3 (e.lost.map dropP)), .p (ii e.next), .p (ii e.stable)]), some (.cells [.p (.sl .shr 4 (e.recs.map gotP)), .p (.sl .shr 3 (e.lost.map dropP)), .p (ii e.next), .p (ii e.stable)])]))
      (fun j => j ≤ e.recs.length) (fun j => e.recs.length - j) 0 (Nat.zero_le _) (Trim.mk' ?_ rfl rfl rfl (Nat.le_refl _)) ?_
    · show _ = [(3, AV.p (.str (headS e ++ []))), _, _, _, _]
      rw [List.append_nil]; rfl
    intro j hj
    have nr := he.recs
    have nrl := he.nr
    have nll := he.nl
    have lt1 := flatB_len gotS 10485800 (e.recs.take j) fun x hx => gotS_len (nr x (List.mem_of_mem_take hx))
    rw [List.length_take, Nat.min_eq_left hj] at lt1
    refine Br.mk (fun hc => ?_) (fun hc => ?_)
    · have hc : j < e.recs.length := by rw [lr] at hc; simpa using hc
      have hg := nr e.recs[j] (List.getElem_mem hc)
      obtain ⟨g, hge⟩ : ∃ g, g = e.recs[j] := ⟨_, rfl⟩
      rw [← hge] at hg
      have ej : IntKind.i64.wrap ((j : Int) + 1) = ((j + 1 : Nat) : Int) := by rw [wrap_i64] <;> omega
      have hnx : headS e ++ (e.recs.take (j + 1)).flatMap gotS = headS e ++ (e.recs.take j).flatMap gotS ++ gotS g := by rw [flat_succ gotS hc, ← hge, List.append_assoc]
      have g1 := fmtS_len g.1
      have g2 := plS_len _ g.2.2.1 rfl
      have g3 := plS_len _ g.2.2.2 rfl
      have g4 := hg.2.1
      have g5 := hg.2.2
      have g6 : (recS g.2.2.1 g.2.2.2).length ≤ 10485770 := by unfold recS; simp only [List.length_append, List.length_cons, List.length_nil]; omega
      refine Idx.mk (gotP g) (by omega) (by rw [hge]; exact got_nth hc) ?_
      refine Ob.mk (okst rfl rfl rfl) ?_
      repeat (first
        | refine ⟨_, ⟨rfl, rfl⟩, ?_⟩
        | refine ⟨_, fun s' => nb g.1 hg.1 s' _ ⟨rfl, rfl⟩, rfl, ?_⟩
        | refine ⟨_, fun s' => tellRec_c g.2.2.1 g.2.2.2 (by omega) (by omega) s' _ ⟨rfl, rfl⟩, rfl, ?_⟩
        | refine ⟨_, Ob.mk (by simp only [List.length_append, List.length_cons, List.length_nil]; omega) ⟨rfl, rfl⟩, ?_⟩)
      refine Chk.mk (by kernel_rfl) ?_
      refine ⟨j + 1, hc, by omega, (show (2 : Nat) ≤ 2 by decide), Trim.mk' ?_ rfl rfl rfl (show (2 : Nat) ≤ 3 by decide)⟩
      refine Eq.trans (b := [(3, AV.p (.str (_ ++ _))), _, _, _, (44, AV.p (ii (IntKind.i64.wrap ((j : Int) + 1))))]) rfl ?_
      rw [ej, hnx]; rfl
    · have hc : j = e.recs.length := by rw [lr] at hc; simp at hc; omega
      rw [hc, List.take_length]
      rw [hc] at lt1
      refine LoopX.fam [3, 4, 61, 62, 63] (fun (k : Nat) => ([(3, .p (.str (headS e ++ e.recs.flatMap gotS ++ (e.lost.take k).flatMap dropS))), (4, .ref 1 0), (61, .p (.sl .shr 3 (e.lost.map dropP))), (62, .p (ii (e.lost.map dropP).length)), (63, .p (ii k))],
          [some (.cells [.p (ii e.why), .p (ii e.base), .p (.sl .shr 4 (e.recs.map gotP)), .p (.sl .shr 3 (e.lost.map dropP)), .p (ii e.next), .p (ii e.stable)]), some (.cells [.p (.sl .shr 4 (e.recs.map gotP)), .p (.sl .shr 3 (e.lost.map dropP)), .p (ii e.next), .p (ii e.stable)])]))
        (fun k => k ≤ e.lost.length) (fun k => e.lost.length - k) 0 (Nat.zero_le _) (Trim.mk' ?_ rfl rfl rfl (Nat.le_refl _)) ?_
      · show _ = [(3, AV.p (.str (headS e ++ e.recs.flatMap gotS ++ []))), _, _, _, _]
        rw [List.append_nil]; rfl
      intro k hk
      have lt2 := flatB_len dropS 80 (e.lost.take k) fun x hx => dropS_len
      rw [List.length_take, Nat.min_eq_left hk] at lt2
      have lt1 := flatB_len gotS 10485800 e.recs fun x hx => gotS_len (nr x hx)
      refine Br.mk (fun hc2 => ?_) (fun hc2 => ?_)
      · have hc2 : k < e.lost.length := by rw [ll] at hc2; simpa using hc2
        have hd := he.lost e.lost[k] (List.getElem_mem hc2)
        obtain ⟨d, hde⟩ : ∃ d, d = e.lost[k] := ⟨_, rfl⟩
        rw [← hde] at hd
        have ek : IntKind.i64.wrap ((k : Int) + 1) = ((k + 1 : Nat) : Int) := by rw [wrap_i64] <;> omega
        have hnx : headS e ++ e.recs.flatMap gotS ++ (e.lost.take (k + 1)).flatMap dropS = headS e ++ e.recs.flatMap gotS ++ (e.lost.take k).flatMap dropS ++ dropS d := by rw [flat_succ dropS hc2, ← hde, List.append_assoc _ _ (dropS d)]
        have d1 := fmtS_len d.1
        have d2 := fmtS_len d.2.1
        have d3 := fmtS_len d.2.2
        refine Idx.mk (dropP d) (by omega) (by rw [hde]; exact drop_nth hc2) ?_
        refine Ob.mk (okst rfl rfl rfl) ?_
        repeat (first
          | refine ⟨_, ⟨rfl, rfl⟩, ?_⟩
          | refine ⟨_, fun s' => nb d.1 hd.1 s' _ ⟨rfl, rfl⟩, rfl, ?_⟩
          | refine ⟨_, fun s' => nb d.2.1 hd.2.1 s' _ ⟨rfl, rfl⟩, rfl, ?_⟩
          | refine ⟨_, fun s' => nb d.2.2 hd.2.2 s' _ ⟨rfl, rfl⟩, rfl, ?_⟩
          | refine ⟨_, Ob.mk (by simp only [List.length_append, List.length_cons, List.length_nil]; omega) ⟨rfl, rfl⟩, ?_⟩)
        refine Chk.mk (by kernel_rfl) ?_
        refine ⟨k + 1, hc2, by omega, (show (2 : Nat) ≤ 2 by decide), Trim.mk' ?_ rfl rfl rfl (show (2 : Nat) ≤ 3 by decide)⟩
        refine Eq.trans (b := [(3, AV.p (.str (_ ++ _))), _, _, _, (63, AV.p (ii (IntKind.i64.wrap ((k : Int) + 1))))]) rfl ?_
        rw [ek, hnx]; rfl
      · have hc2 : k = e.lost.length := by rw [ll] at hc2; simp at hc2; omega
        rw [hc2] at lt2
        have q1 := fmtS_len e.next
        have q2 := fmtS_len e.stable
        have eo : headS e ++ e.recs.flatMap gotS ++ (e.lost.take k).flatMap dropS = headS e ++ e.recs.flatMap gotS ++ e.lost.flatMap dropS := by rw [hc2, List.take_length]
        rw [← eo] at h
        have lt3 : ((e.lost.take k).flatMap dropS).length ≤ e.lost.length * 80 := by rw [hc2, List.take_length] ; exact flatB_len dropS 80 e.lost fun x hx => dropS_len
        repeat (first
          | refine ⟨_, ⟨rfl, rfl⟩, ?_⟩
          | refine ⟨_, fun s' => nb e.next he.next s' _ ⟨rfl, rfl⟩, rfl, ?_⟩
          | refine ⟨_, fun s' => nb e.stable he.stable s' _ ⟨rfl, rfl⟩, rfl, ?_⟩
          | refine ⟨_, Ob.mk (by simp only [List.length_append, List.length_cons, List.length_nil]; omega) ⟨rfl, rfl⟩, ?_⟩)
        refine Chk.mk (by kernel_rfl) ?_
        exact h
  · repeat (first | refine Br.t c1 ?_ | refine Br.t (congrArg (· == true) c1) ?_ | refine Br.t c2 ?_ | refine Br.t (congrArg (· == true) c2) ?_ | refine Br.f c3 ?_ | refine Br.f (congrArg (· == true) c3) ?_ | refine Br.f rfl ?_)
    refine LoopX.fam [3, 4, 42, 43, 44] (fun (j : Nat) => ([(3, .p (.str (headS e ++ (e.recs.take j).flatMap gotS))), (4, .ref 1 0), (42, .p (.sl .shr 4 (e.recs.map gotP))), (43, .p (ii (e.recs.map gotP).length)), (44, .p (ii j))],
        [some (.cells [.p (ii e.why), .p (ii e.base), .p (.sl .shr 4 (e.recs.map gotP)), .p (.sl .shr 3 (e.lost.map dropP)), .p (ii e.next), .p (ii e.stable)]), some (.cells [.p (.sl .shr 4 (e.recs.map gotP)), .p (.sl .shr 3 (e.lost.map dropP)), .p (ii e.next), .p (ii e.stable)])]))
      (fun j => j ≤ e.recs.length) (fun j => e.recs.length - j) 0 (Nat.zero_le _) (Trim.mk' ?_ rfl rfl rfl (Nat.le_refl _)) ?_
    · show _ = [(3, AV.p (.str (headS e ++ []))), _, _, _, _]
      rw [List.append_nil]; rfl
    intro j hj
    have nr := he.recs
    have nrl := he.nr
    have nll := he.nl
    have lt1 := flatB_len gotS 10485800 (e.recs.take j) fun x hx => gotS_len (nr x (List.mem_of_mem_take hx))
    rw [List.length_take, Nat.min_eq_left hj] at lt1
    refine Br.mk (fun hc => ?_) (fun hc => ?_)
    · have hc : j < e.recs.length := by rw [lr] at hc; simpa using hc
      have hg := nr e.recs[j] (List.getElem_mem hc)
      obtain ⟨g, hge⟩ : ∃ g, g = e.recs[j] := ⟨_, rfl⟩
      rw [← hge] at hg
      have ej : IntKind.i64.wrap ((j : Int) + 1) = ((j + 1 : Nat) : Int) := by rw [wrap_i64] <;> omega
      have hnx : headS e ++ (e.recs.take (j + 1)).flatMap gotS = headS e ++ (e.recs.take j).flatMap gotS ++ gotS g := by rw [flat_succ gotS hc, ← hge, List.append_assoc]
      have g1 := fmtS_len g.1
      have g2 := plS_len _ g.2.2.1 rfl
      have g3 := plS_len _ g.2.2.2 rfl
      have g4 := hg.2.1
      have g5 := hg.2.2
      have g6 : (recS g.2.2.1 g.2.2.2).length ≤ 10485770 := by unfold recS; simp only [List.length_append, List.length_cons, List.length_nil]; omega
      refine Idx.mk (gotP g) (by omega) (by rw [hge]; exact got_nth hc) ?_
      refine Ob.mk (okst rfl rfl rfl) ?_
      repeat (first
        | refine ⟨_, ⟨rfl, rfl⟩, ?_⟩
        | refine ⟨_, fun s' => nb g.1 hg.1 s' _ ⟨rfl, rfl⟩, rfl, ?_⟩
        | refine ⟨_, fun s' => tellRec_c g.2.2.1 g.2.2.2 (by omega) (by omega) s' _ ⟨rfl, rfl⟩, rfl, ?_⟩
        | refine ⟨_, Ob.mk (by simp only [List.length_append, List.length_cons, List.length_nil]; omega) ⟨rfl, rfl⟩, ?_⟩)
      refine Chk.mk (by kernel_rfl) ?_
      refine ⟨j + 1, hc, by omega, (show (2 : Nat) ≤ 2 by decide), Trim.mk' ?_ rfl rfl rfl (show (2 : Nat) ≤ 3 by decide)⟩
      refine Eq.trans (b := [(3, AV.p (.str (_ ++ _))), _, _, _, (44, AV.p (ii (IntKind.i64.wrap ((j : Int) + 1))))]) rfl ?_
      rw [ej, hnx]; rfl
    · have hc : j = e.recs.length := by rw [lr] at hc; simp at hc; omega
      rw [hc, List.take_length]
      rw [hc] at lt1
      refine LoopX.fam [3, 4, 61, 62, 63] (fun (k : Nat) => ([(3, .p (.str (headS e ++ e.recs.flatMap gotS ++ (e.lost.take k).flatMap dropS))), (4, .ref 1 0), (61, .p (.sl .shr 3 (e.lost.map dropP))), (62, .p (ii (e.lost.map dropP).length)), (63, .p (ii k))],
          [some (.cells [.p (ii e.why), .p (ii e.base), .p (.sl .shr 4 (e.recs.map gotP)), .p (.sl .shr 3 (e.lost.map dropP)), .p (ii e.next), .p (ii e.stable)]), some (.cells [.p (.sl .shr 4 (e.recs.map gotP)), .p (.sl .shr 3 (e.lost.map dropP)), .p (ii e.next), .p (ii e.stable)])]))
        (fun k => k ≤ e.lost.length) (fun k => e.lost.length - k) 0 (Nat.zero_le _) (Trim.mk' ?_ rfl rfl rfl (Nat.le_refl _)) ?_
      · show _ = [(3, AV.p (.str (headS e ++ e.recs.flatMap gotS ++ []))), _, _, _, _]
        rw [List.append_nil]; rfl
      intro k hk
      have lt2 := flatB_len dropS 80 (e.lost.take k) fun x hx => dropS_len
      rw [List.length_take, Nat.min_eq_left hk] at lt2
      have lt1 := flatB_len gotS 10485800 e.recs fun x hx => gotS_len (nr x hx)
      refine Br.mk (fun hc2 => ?_) (fun hc2 => ?_)
      · have hc2 : k < e.lost.length := by rw [ll] at hc2; simpa using hc2
        have hd := he.lost e.lost[k] (List.getElem_mem hc2)
        obtain ⟨d, hde⟩ : ∃ d, d = e.lost[k] := ⟨_, rfl⟩
        rw [← hde] at hd
        have ek : IntKind.i64.wrap ((k : Int) + 1) = ((k + 1 : Nat) : Int) := by rw [wrap_i64] <;> omega
        have hnx : headS e ++ e.recs.flatMap gotS ++ (e.lost.take (k + 1)).flatMap dropS = headS e ++ e.recs.flatMap gotS ++ (e.lost.take k).flatMap dropS ++ dropS d := by rw [flat_succ dropS hc2, ← hde, List.append_assoc _ _ (dropS d)]
        have d1 := fmtS_len d.1
        have d2 := fmtS_len d.2.1
        have d3 := fmtS_len d.2.2
        refine Idx.mk (dropP d) (by omega) (by rw [hde]; exact drop_nth hc2) ?_
        refine Ob.mk (okst rfl rfl rfl) ?_
        repeat (first
          | refine ⟨_, ⟨rfl, rfl⟩, ?_⟩
          | refine ⟨_, fun s' => nb d.1 hd.1 s' _ ⟨rfl, rfl⟩, rfl, ?_⟩
          | refine ⟨_, fun s' => nb d.2.1 hd.2.1 s' _ ⟨rfl, rfl⟩, rfl, ?_⟩
          | refine ⟨_, fun s' => nb d.2.2 hd.2.2 s' _ ⟨rfl, rfl⟩, rfl, ?_⟩
          | refine ⟨_, Ob.mk (by simp only [List.length_append, List.length_cons, List.length_nil]; omega) ⟨rfl, rfl⟩, ?_⟩)
        refine Chk.mk (by kernel_rfl) ?_
        refine ⟨k + 1, hc2, by omega, (show (2 : Nat) ≤ 2 by decide), Trim.mk' ?_ rfl rfl rfl (show (2 : Nat) ≤ 3 by decide)⟩
        refine Eq.trans (b := [(3, AV.p (.str (_ ++ _))), _, _, _, (63, AV.p (ii (IntKind.i64.wrap ((k : Int) + 1))))]) rfl ?_
        rw [ek, hnx]; rfl
      · have hc2 : k = e.lost.length := by rw [ll] at hc2; simp at hc2; omega
        rw [hc2] at lt2
        have q1 := fmtS_len e.next
        have q2 := fmtS_len e.stable
        have eo : headS e ++ e.recs.flatMap gotS ++ (e.lost.take k).flatMap dropS = headS e ++ e.recs.flatMap gotS ++ e.lost.flatMap dropS := by rw [hc2, List.take_length]
        rw [← eo] at h
        have lt3 : ((e.lost.take k).flatMap dropS).length ≤ e.lost.length * 80 := by rw [hc2, List.take_length] ; exact flatB_len dropS 80 e.lost fun x hx => dropS_len
        repeat (first
          | refine ⟨_, ⟨rfl, rfl⟩, ?_⟩
          | refine ⟨_, fun s' => nb e.next he.next s' _ ⟨rfl, rfl⟩, rfl, ?_⟩
          | refine ⟨_, fun s' => nb e.stable he.stable s' _ ⟨rfl, rfl⟩, rfl, ?_⟩
          | refine ⟨_, Ob.mk (by simp only [List.length_append, List.length_cons, List.length_nil]; omega) ⟨rfl, rfl⟩, ?_⟩)
        refine Chk.mk (by kernel_rfl) ?_
        exact h
  · repeat (first | refine Br.t c1 ?_ | refine Br.t (congrArg (· == true) c1) ?_ | refine Br.t c2 ?_ | refine Br.t (congrArg (· == true) c2) ?_ | refine Br.t c3 ?_ | refine Br.t (congrArg (· == true) c3) ?_ | refine Br.f c4 ?_ | refine Br.f (congrArg (· == true) c4) ?_)
    refine LoopX.fam [3, 4, 42, 43, 44] (fun (j : Nat) => ([(3, .p (.str (headS e ++ (e.recs.take j).flatMap gotS))), (4, .ref 1 0), (42, .p (.sl .shr 4 (e.recs.map gotP))), (43, .p (ii (e.recs.map gotP).length)), (44, .p (ii j))],
        [some (.cells [.p (ii e.why), .p (ii e.base), .p (.sl .shr 4 (e.recs.map gotP)), .p (.sl .shr 3 (e.lost.map dropP)), .p (ii e.next), .p (ii e.stable)]), some (.cells [.p (.sl .shr 4 (e.recs.map gotP)), .p (.sl .shr 3 (e.lost.map dropP)), .p (ii e.next), .p (ii e.stable)])]))
      (fun j => j ≤ e.recs.length) (fun j => e.recs.length - j) 0 (Nat.zero_le _) (Trim.mk' ?_ rfl rfl rfl (Nat.le_refl _)) ?_
    · show _ = [(3, AV.p (.str (headS e ++ []))), _, _, _, _]
      rw [List.append_nil]; rfl
    intro j hj
    have nr := he.recs
    have nrl := he.nr
    have nll := he.nl
    have lt1 := flatB_len gotS 10485800 (e.recs.take j) fun x hx => gotS_len (nr x (List.mem_of_mem_take hx))
    rw [List.length_take, Nat.min_eq_left hj] at lt1
    refine Br.mk (fun hc => ?_) (fun hc => ?_)
    · have hc : j < e.recs.length := by rw [lr] at hc; simpa using hc
      have hg := nr e.recs[j] (List.getElem_mem hc)
      obtain ⟨g, hge⟩ : ∃ g, g = e.recs[j] := ⟨_, rfl⟩
      rw [← hge] at hg
      have ej : IntKind.i64.wrap ((j : Int) + 1) = ((j + 1 : Nat) : Int) := by rw [wrap_i64] <;> omega
      have hnx : headS e ++ (e.recs.take (j + 1)).flatMap gotS = headS e ++ (e.recs.take j).flatMap gotS ++ gotS g := by rw [flat_succ gotS hc, ← hge, List.append_assoc]
      have g1 := fmtS_len g.1
      have g2 := plS_len _ g.2.2.1 rfl
      have g3 := plS_len _ g.2.2.2 rfl
      have g4 := hg.2.1
      have g5 := hg.2.2
      have g6 : (recS g.2.2.1 g.2.2.2).length ≤ 10485770 := by unfold recS; simp only [List.length_append, List.length_cons, List.length_nil]; omega
      refine Idx.mk (gotP g) (by omega) (by rw [hge]; exact got_nth hc) ?_
      refine Ob.mk (okst rfl rfl rfl) ?_
      repeat (first
        | refine ⟨_, ⟨rfl, rfl⟩, ?_⟩
        | refine ⟨_, fun s' => nb g.1 hg.1 s' _ ⟨rfl, rfl⟩, rfl, ?_⟩
        | refine ⟨_, fun s' => tellRec_c g.2.2.1 g.2.2.2 (by omega) (by omega) s' _ ⟨rfl, rfl⟩, rfl, ?_⟩
        | refine ⟨_, Ob.mk (by simp only [List.length_append, List.length_cons, List.length_nil]; omega) ⟨rfl, rfl⟩, ?_⟩)
      refine Chk.mk (by kernel_rfl) ?_
      refine ⟨j + 1, hc, by omega, (show (2 : Nat) ≤ 2 by decide), Trim.mk' ?_ rfl rfl rfl (show (2 : Nat) ≤ 3 by decide)⟩
      refine Eq.trans (b := [(3, AV.p (.str (_ ++ _))), _, _, _, (44, AV.p (ii (IntKind.i64.wrap ((j : Int) + 1))))]) rfl ?_
      rw [ej, hnx]; rfl
    · have hc : j = e.recs.length := by rw [lr] at hc; simp at hc; omega
      rw [hc, List.take_length]
      rw [hc] at lt1
      refine LoopX.fam [3, 4, 61, 62, 63] (fun (k : Nat) => ([(3, .p (.str (headS e ++ e.recs.flatMap gotS ++ (e.lost.take k).flatMap dropS))), (4, .ref 1 0), (61, .p (.sl .shr 3 (e.lost.map dropP))), (62, .p (ii (e.lost.map dropP).length)), (63, .p (ii k))],
          [some (.cells [.p (ii e.why), .p (ii e.base), .p (.sl .shr 4 (e.recs.map gotP)), .p (.sl .shr 3 (e.lost.map dropP)), .p (ii e.next), .p (ii e.stable)]), some (.cells [.p (.sl .shr 4 (e.recs.map gotP)), .p (.sl .shr 3 (e.lost.map dropP)), .p (ii e.next), .p (ii e.stable)])]))
        (fun k => k ≤ e.lost.length) (fun k => e.lost.length - k) 0 (Nat.zero_le _) (Trim.mk' ?_ rfl rfl rfl (Nat.le_refl _)) ?_
      · show _ = [(3, AV.p (.str (headS e ++ e.recs.flatMap gotS ++ []))), _, _, _, _]
        rw [List.append_nil]; rfl
      intro k hk
      have lt2 := flatB_len dropS 80 (e.lost.take k) fun x hx => dropS_len
      rw [List.length_take, Nat.min_eq_left hk] at lt2
      have lt1 := flatB_len gotS 10485800 e.recs fun x hx => gotS_len (nr x hx)
      refine Br.mk (fun hc2 => ?_) (fun hc2 => ?_)
      · have hc2 : k < e.lost.length := by rw [ll] at hc2; simpa using hc2
        have hd := he.lost e.lost[k] (List.getElem_mem hc2)
        obtain ⟨d, hde⟩ : ∃ d, d = e.lost[k] := ⟨_, rfl⟩
        rw [← hde] at hd
        have ek : IntKind.i64.wrap ((k : Int) + 1) = ((k + 1 : Nat) : Int) := by rw [wrap_i64] <;> omega
        have hnx : headS e ++ e.recs.flatMap gotS ++ (e.lost.take (k + 1)).flatMap dropS = headS e ++ e.recs.flatMap gotS ++ (e.lost.take k).flatMap dropS ++ dropS d := by rw [flat_succ dropS hc2, ← hde, List.append_assoc _ _ (dropS d)]
        have d1 := fmtS_len d.1
        have d2 := fmtS_len d.2.1
        have d3 := fmtS_len d.2.2
        refine Idx.mk (dropP d) (by omega) (by rw [hde]; exact drop_nth hc2) ?_
        refine Ob.mk (okst rfl rfl rfl) ?_
        repeat (first
          | refine ⟨_, ⟨rfl, rfl⟩, ?_⟩
          | refine ⟨_, fun s' => nb d.1 hd.1 s' _ ⟨rfl, rfl⟩, rfl, ?_⟩
          | refine ⟨_, fun s' => nb d.2.1 hd.2.1 s' _ ⟨rfl, rfl⟩, rfl, ?_⟩
          | refine ⟨_, fun s' => nb d.2.2 hd.2.2 s' _ ⟨rfl, rfl⟩, rfl, ?_⟩
          | refine ⟨_, Ob.mk (by simp only [List.length_append, List.length_cons, List.length_nil]; omega) ⟨rfl, rfl⟩, ?_⟩)
        refine Chk.mk (by kernel_rfl) ?_
        refine ⟨k + 1, hc2, by omega, (show (2 : Nat) ≤ 2 by decide), Trim.mk' ?_ rfl rfl rfl (show (2 : Nat) ≤ 3 by decide)⟩
        refine Eq.trans (b := [(3, AV.p (.str (_ ++ _))), _, _, _, (63, AV.p (ii (IntKind.i64.wrap ((k : Int) + 1))))]) rfl ?_
        rw [ek, hnx]; rfl
      · have hc2 : k = e.lost.length := by rw [ll] at hc2; simp at hc2; omega
        rw [hc2] at lt2
        have q1 := fmtS_len e.next
        have q2 := fmtS_len e.stable
        have eo : headS e ++ e.recs.flatMap gotS ++ (e.lost.take k).flatMap dropS = headS e ++ e.recs.flatMap gotS ++ e.lost.flatMap dropS := by rw [hc2, List.take_length]
        rw [← eo] at h
        have lt3 : ((e.lost.take k).flatMap dropS).length ≤ e.lost.length * 80 := by rw [hc2, List.take_length] ; exact flatB_len dropS 80 e.lost fun x hx => dropS_len
        repeat (first
          | refine ⟨_, ⟨rfl, rfl⟩, ?_⟩
          | refine ⟨_, fun s' => nb e.next he.next s' _ ⟨rfl, rfl⟩, rfl, ?_⟩
          | refine ⟨_, fun s' => nb e.stable he.stable s' _ ⟨rfl, rfl⟩, rfl, ?_⟩
          | refine ⟨_, Ob.mk (by simp only [List.length_append, List.length_cons, List.length_nil]; omega) ⟨rfl, rfl⟩, ?_⟩)
        refine Chk.mk (by kernel_rfl) ?_
        exact h

end Go.Proofs.YtkokaflanlcojaaDoor.AW
