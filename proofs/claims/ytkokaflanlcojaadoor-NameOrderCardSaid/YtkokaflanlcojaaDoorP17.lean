/- A part of the proof: LC/X14, LC/X15, LC/X16, LC/X17, LC/X18, LC/X19, LC/X20. -/
import Derived.Test.YtkokaflanlcojaaDoorP15
import Derived.Test.YtkokaflanlcojaaDoorP16
import Derived.Shelf.Pu.ToError
import Derived.Shelf.Pu.ToErrorRange
open Go Go.Proofs.YtkokaflanlcojaaDoor.AW Go.Proofs
namespace Go.Proofs.YtkokaflanlcojaaDoor.AW
set_option maxRecDepth 100000
set_option linter.unusedSimpArgs false
set_option linter.unusedVariables false
open Go.Shelf

/-! ### strconv.toError: by the shelf, laid in plain words -/
def laysPu17_ren : Go.Shelf.Ren := ⟨fun | 17 => 69 | 21 => 85 | 22 => 86 | 23 => 87 | 24 => 88 | 25 => 100 | 27 => 102 | 26 => 101 | 28 => 106 | 29 => 62 | 30 => 75 | 31 => 76 | 32 => 77 | 33 => 78 | 35 => 92 | 34 => 91 | 36 => 93 | 37 => 94 | 38 => 95 | 39 => 103 | 40 => 104 | n => n, fun | 9 => 9 | 3 => 3 | 24 => 67 | 34 => 107 | 4 => 4 | 39 => 110 | 44 => 121 | 37 => 63 | 0 => 0 | 47 => 82 | 50 => 127 | 48 => 125 | 2 => 2 | 52 => 97 | 22 => 98 | 5 => 5 | 55 => 101 | 59 => 114 | 60 => 95 | 20 => 20 | 61 => 115 | 36 => 60 | 65 => 128 | 66 => 129 | 67 => 71 | n => n, fun | 0 => 2 | 1 => 3 | 2 => 1 | 3 => 4 | 4 => 5 | n => n⟩
theorem laysPu17 : LaysPu.n17 Tryd.prog laysPu17_ren where
  mixed := by kernel_rfl
  f17 := Tryd.func69.trans (congrArg some (by kernel_rfl))
  f21 := Tryd.func85.trans (congrArg some (by kernel_rfl))
  f22 := Tryd.func86.trans (congrArg some (by kernel_rfl))
  f23 := Tryd.func87.trans (congrArg some (by kernel_rfl))
  f24 := Tryd.func88.trans (congrArg some (by kernel_rfl))
  f25 := Tryd.func100.trans (congrArg some (by kernel_rfl))
  f26 := Tryd.func101.trans (congrArg some (by kernel_rfl))
  f27 := Tryd.func102.trans (congrArg some (by kernel_rfl))
  f28 := Tryd.func106.trans (congrArg some (by kernel_rfl))
  f29 := Tryd.func62.trans (congrArg some (by kernel_rfl))
  f30 := Tryd.func75.trans (congrArg some (by kernel_rfl))
  f31 := Tryd.func76.trans (congrArg some (by kernel_rfl))
  f32 := Tryd.func77.trans (congrArg some (by kernel_rfl))
  f33 := Tryd.func78.trans (congrArg some (by kernel_rfl))
  f34 := Tryd.func91.trans (congrArg some (by kernel_rfl))
  f35 := Tryd.func92.trans (congrArg some (by kernel_rfl))
  f36 := Tryd.func93.trans (congrArg some (by kernel_rfl))
  f37 := Tryd.func94.trans (congrArg some (by kernel_rfl))
  f38 := Tryd.func95.trans (congrArg some (by kernel_rfl))
  f39 := Tryd.func103.trans (congrArg some (by kernel_rfl))
  f40 := Tryd.func104.trans (congrArg some (by kernel_rfl))
  t0 := Tryd.underlying0
  a0 := Tryd.isAgg0
  z0 := Tryd.sizeOf0
  v0 := Tryd.zeroValue0
  i0 := by kernel_rfl
  t2 := Tryd.underlying2
  a2 := Tryd.isAgg2
  z2 := Tryd.sizeOf2
  v2 := Tryd.zeroValue2
  i2 := by kernel_rfl
  t3 := Tryd.underlying3
  a3 := Tryd.isAgg3
  z3 := Tryd.sizeOf3
  v3 := Tryd.zeroValue3
  i3 := by kernel_rfl
  t4 := Tryd.underlying4
  a4 := Tryd.isAgg4
  z4 := Tryd.sizeOf4
  v4 := Tryd.zeroValue4
  i4 := by kernel_rfl
  t5 := Tryd.underlying5
  a5 := Tryd.isAgg5
  z5 := Tryd.sizeOf5
  v5 := Tryd.zeroValue5
  i5 := by kernel_rfl
  t9 := Tryd.underlying9
  a9 := Tryd.isAgg9
  z9 := Tryd.sizeOf9
  v9 := Tryd.zeroValue9
  i9 := by kernel_rfl
  t20 := Tryd.underlying20
  a20 := Tryd.isAgg20
  z20 := Tryd.sizeOf20
  v20 := Tryd.zeroValue20
  i20 := by kernel_rfl
  t22 := Tryd.underlying98
  a22 := Tryd.isAgg98
  z22 := Tryd.sizeOf98
  v22 := Tryd.zeroValue98
  i22 := by kernel_rfl
  t24 := Tryd.underlying67
  a24 := Tryd.isAgg67
  z24 := Tryd.sizeOf67
  v24 := Tryd.zeroValue67
  i24 := by kernel_rfl
  t34 := Tryd.underlying107
  a34 := Tryd.isAgg107
  z34 := Tryd.sizeOf107
  v34 := Tryd.zeroValue107
  i34 := by kernel_rfl
  c34 := by kernel_rfl
  t36 := Tryd.underlying60
  a36 := Tryd.isAgg60
  z36 := Tryd.sizeOf60
  v36 := Tryd.zeroValue60
  i36 := by kernel_rfl
  t37 := Tryd.underlying63
  a37 := Tryd.isAgg63
  z37 := Tryd.sizeOf63
  v37 := Tryd.zeroValue63
  i37 := by kernel_rfl
  t39 := Tryd.underlying110
  a39 := Tryd.isAgg110
  z39 := Tryd.sizeOf110
  v39 := Tryd.zeroValue110
  i39 := by kernel_rfl
  t44 := Tryd.underlying121
  a44 := Tryd.isAgg121
  z44 := Tryd.sizeOf121
  v44 := Tryd.zeroValue121
  i44 := by kernel_rfl
  t47 := Tryd.underlying82
  a47 := Tryd.isAgg82
  z47 := Tryd.sizeOf82
  v47 := Tryd.zeroValue82
  i47 := by kernel_rfl
  t48 := Tryd.underlying125
  a48 := Tryd.isAgg125
  z48 := Tryd.sizeOf125
  v48 := Tryd.zeroValue125
  i48 := by kernel_rfl
  t50 := Tryd.underlying127
  a50 := Tryd.isAgg127
  z50 := Tryd.sizeOf127
  v50 := Tryd.zeroValue127
  i50 := by kernel_rfl
  t52 := Tryd.underlying97
  a52 := Tryd.isAgg97
  z52 := Tryd.sizeOf97
  v52 := Tryd.zeroValue97
  i52 := by kernel_rfl
  t55 := Tryd.underlying101
  a55 := Tryd.isAgg101
  z55 := Tryd.sizeOf101
  v55 := Tryd.zeroValue101
  i55 := by kernel_rfl
  t59 := Tryd.underlying114
  a59 := Tryd.isAgg114
  z59 := Tryd.sizeOf114
  v59 := Tryd.zeroValue114
  i59 := by kernel_rfl
  t60 := Tryd.underlying95
  a60 := Tryd.isAgg95
  z60 := Tryd.sizeOf95
  v60 := Tryd.zeroValue95
  i60 := by kernel_rfl
  t61 := Tryd.underlying115
  a61 := Tryd.isAgg115
  z61 := Tryd.sizeOf115
  t65 := Tryd.underlying128
  a65 := Tryd.isAgg128
  z65 := Tryd.sizeOf128
  v65 := Tryd.zeroValue128
  i65 := by kernel_rfl
  t66 := Tryd.underlying129
  a66 := Tryd.isAgg129
  z66 := Tryd.sizeOf129
  v66 := Tryd.zeroValue129
  i66 := by kernel_rfl
  t67 := Tryd.underlying71
  a67 := Tryd.isAgg71
  z67 := Tryd.sizeOf71
  v67 := Tryd.zeroValue71
  i67 := by kernel_rfl
  g0 := by kernel_rfl
  m0 := by kernel_rfl
  g1 := by kernel_rfl
  m1 := by kernel_rfl
  g2 := by kernel_rfl
  m2 := by kernel_rfl
  g3 := by kernel_rfl
  m3 := by kernel_rfl
  g4 := by kernel_rfl
  m4 := by kernel_rfl

theorem gSyn : glob Tryd.prog 2 = some [.iface 125 (.pto [])] := by kernel_rfl
theorem gRng : glob Tryd.prog 3 = some [.iface 125 (.pto [])] := by kernel_rfl

theorem repAs5 {w : World} {g : G} {σ : St} {fn t : List UInt8} {b c k : Int} {vs : List Value} (h : RepAs w g σ [.p (.str fn), .p (.str t), .p (.int .i64 b), .p (.int .i64 c), .p (.iface 107 (.int .i64 k))] vs) :
    ∃ (f' t' : ByteArray), vs = [.string f', .string t', .int .i64 b, .int .i64 c, .iface 107 (.int .i64 k)] ∧ t'.data.toList = t := by
  cases h with
  | cons _ x1 _ _ h1 h => cases h with
    | cons _ x2 _ _ h2 h => cases h with
      | cons _ x3 _ _ h3 h => cases h with
        | cons _ x4 _ _ h4 h => cases h with
          | cons _ x5 _ _ h5 h =>
            cases h
            obtain ⟨f', rfl, _⟩ := h1.inv_str
            obtain ⟨t', rfl, e⟩ := h2.inv_str
            obtain rfl := h3.inv_int
            obtain rfl := h4.inv_int
            have h6 := h5.inv_p
            cases h6 with
            | iface _ _ y hy => cases hy with
              | int _ _ => exact ⟨f', t', rfl, e⟩

theorem toError_c (fn t : List UInt8) (b c k : Int) (hk : k = 2 ∨ k = 1) (hl : t.length ≤ 281474976710656) (s : Store) (K : AV → Store → Prop) (h : K (.p (.iface 110 (.pto []))) s) :
    Cal Tryd.prog 69 [.p (.str fn), .p (.str t), .p (.int .i64 b), .p (.int .i64 c), .p (.iface 107 (.int .i64 k))] s K := by
  refine Cal.foreign (.iface 110 (.pto [])) ⟨_, Tryd.func69, by decide +kernel, rfl⟩ (fun w g vs hinv hG hargs => ?_) h
  obtain ⟨f', t', rfl, rfl⟩ := repAs5 hargs
  have hl' : t'.size ≤ 281474976710656 := hl
  rcases hk with rfl | rfl
  · obtain ⟨p, hp⟩ := hG.sent gSyn
    refine (AnyPu.strconv_toError_syntax laysPu17 f' t' b c _ w hl' hp (.inr ⟨_, _, rfl⟩)).mono fun e w' hq => ?_
    obtain ⟨N, rfl, _, _, hb⟩ := hq
    exact ⟨_, rfl, hb, .iface _ _ _ (.pto [] N 0 (fun h => absurd rfl h) (.nil _ _))⟩
  · obtain ⟨p, hp⟩ := hG.sent gRng
    refine (AnyPu.strconv_toError_range laysPu17 f' t' b c _ w hl' hp (.inr ⟨_, _, rfl⟩)).mono fun e w' hq => ?_
    obtain ⟨N, rfl, _, _, hb⟩ := hq
    exact ⟨_, rfl, hb, .iface _ _ _ (.pto [] N 0 (fun h => absurd rfl h) (.nil _ _))⟩
#print axioms toError_c
end Go.Proofs.YtkokaflanlcojaaDoor.AW

open Go Go.Proofs.YtkokaflanlcojaaDoor.AW Go.Proofs
namespace Go.Proofs.YtkokaflanlcojaaDoor.AW
set_option maxRecDepth 100000
set_option linter.unusedSimpArgs false
set_option linter.unusedVariables false
attribute [local irreducible] Utf8.encode

/-! ### strconv.ParseInt, name.Parse, what law 3 calls 'same' -/
def errN (c : Int) : PV := if c = 0 then .lit .nilIface else .iface 110 (.pto [])
theorem piF_code (neg : Bool) (p : Nat × Int) : (piF neg p).2 = 0 ∨ (piF neg p).2 = 1 ∨ (piF neg p).2 = 2 := by
  unfold piF
  repeat (first | (split; · first | exact .inr (.inr rfl) | exact .inr (.inl rfl) | exact .inl rfl) | exact .inl rfl)
theorem piS_code (l : List UInt8) : (piS l).2 = 0 ∨ (piS l).2 = 1 ∨ (piS l).2 = 2 := by
  cases l with
  | nil => exact .inr (.inr rfl)
  | cons c r =>
    rw [piS]
    by_cases h1 : c = 43
    · rw [if_pos h1]; exact piF_code _ _
    · rw [if_neg h1]
      by_cases h2 : c = 45
      · rw [if_pos h2]; exact piF_code _ _
      · rw [if_neg h2]; exact piF_code _ _
theorem parseInt_v {l : List UInt8} {n c : Int} (hp : piS l = (n, c)) (hl : l.length < 9223372036854775807) (s : Store) (K : AV → Store → Prop) (h : K (.tup [.p (ii n), .p (errP c)]) s) : Cal Tryd.prog 68 [.p (.str l), .p (ii 10), .p (ii 64)] s K := parseInt_c l hl s K (by rw [hp]; exact h)
theorem parseIntP_c (l : List UInt8) (hl : l.length ≤ 281474976710656) (s : Store) (K : AV → Store → Prop) (h : K (.tup [.p (ii (piS l).1), .p (errN (piS l).2)]) s) : Cal Tryd.prog 50 [.p (.str l), .p (ii 10), .p (ii 64)] s K := by
  refine Cal.pure (args := [.str l, ii 10, ii 64]) ?_
  refine Cal.intro Tryd.func50 (by decide +kernel) rfl rfl ?_
  have hc := piS_code l
  obtain ⟨n, c, hp⟩ : ∃ n c, piS l = (n, c) := ⟨_, _, rfl⟩
  rw [hp] at h hc
  have hl' : l.length < 9223372036854775807 := by omega
  refine parseInt_v hp hl' _ _ ?_
  rcases hc with e | e | e <;> (change c = _ at e; subst e)
  · refine Br.f rfl ?_
    exact h
  · refine Br.t rfl ?_
    refine toError_c _ l 10 64 1 (.inr rfl) hl _ _ ?_
    exact h
  · refine Br.t rfl ?_
    refine toError_c _ l 10 64 2 (.inl rfl) hl _ _ ?_
    exact h
theorem parseIntP_v {l : List UInt8} {n c : Int} (hp : piS l = (n, c)) (hl : l.length ≤ 281474976710656) (s : Store) (K : AV → Store → Prop) (h : K (.tup [.p (ii n), .p (errN c)]) s) : Cal Tryd.prog 50 [.p (.str l), .p (ii 10), .p (ii 64)] s K := parseIntP_c l hl s K (by rw [hp]; exact h)
theorem file_v {b : Int} {k t : List UInt8} {ok : Bool} (hF : fileS b k = (t, ok)) (hk : k.length < 1099511627776) (s : Store) (K : AV → Store → Prop) (h : K (.tup [.p (.str t), .p (.bool ok)]) s) : Cal Tryd.prog 26 [.p (ii b), .p (.str k)] s K := file_c b k hk s K (by rw [hF]; exact h)
theorem cut_v {l a k : List UInt8} {ok : Bool} (hF : cutB l 46 = (a, k, ok)) (hl : l.length < 9223372036854775807) (s : Store) (K : AV → Store → Prop) (h : K (.tup [.p (.str a), .p (.str k), .p (.bool ok)]) s) : Cal Tryd.prog 49 [.p (.str l), .p (.str [46])] s K := cut_c l 46 hl s K (by rw [hF]; exact h)
theorem cut_len (l : List UInt8) (c : UInt8) : (cutB l c).1.length ≤ l.length ∧ (cutB l c).2.1.length ≤ l.length := by
  unfold cutB
  split
  · simp only [List.length_take, List.length_drop]; omega
  · exact ⟨Nat.le_refl _, Nat.zero_le _⟩
theorem fileS_len (b : Int) (k : List UInt8) : (fileS b k).2 = false → (fileS b k).1 = [] := by
  unfold fileS
  split
  · intro h; cases h
  · intro _; rfl

theorem nparse_c (l : List UInt8) (hl : l.length < 1099511627776) (s : Store) (K : AV → Store → Prop) (h : K (.tup [.p (ii (parseS l).1), .p (.str (parseS l).2.1), .p (.bool (parseS l).2.2)]) s) : Cal Tryd.prog 27 [.p (.str l)] s K := by
  rw [← parse_same] at h
  refine Cal.pure (args := [.str l]) ?_
  refine Cal.intro Tryd.func27 (by decide +kernel) rfl rfl ?_
  have hlen := cut_len l 46
  obtain ⟨a, k, ok, hc⟩ : ∃ a k ok, cutB l 46 = (a, k, ok) := ⟨_, _, _, rfl⟩
  unfold parseP at h
  rw [hc] at hlen h
  obtain ⟨ha, hk⟩ := hlen
  change a.length ≤ l.length at ha
  change k.length ≤ l.length at hk
  have hl1 : l.length < 9223372036854775807 := by omega
  have ha1 : a.length ≤ 281474976710656 := by omega
  have hk1 : k.length < 1099511627776 := by omega
  obtain ⟨n, c, hp⟩ : ∃ n c, piS a = (n, c) := ⟨_, _, rfl⟩
  have hcode := piS_code a
  obtain ⟨t, ok2, hF⟩ : ∃ t ok2, fileS n k = (t, ok2) := ⟨_, _, rfl⟩
  simp only [hp, hF] at h
  rw [hp] at hcode
  change c = 0 ∨ c = 1 ∨ c = 2 at hcode
  refine cut_v hc hl1 _ _ ?_
  refine parseIntP_v hp ha1 _ _ ?_
  refine file_v hF hk1 _ _ ?_
  rcases hcode with e | e | e
  · subst e
    refine Br.t rfl ?_
    refine Br.t rfl ?_
    refine Br.f rfl ?_
    cases ok2 with
    | false =>
      have h0 : t = [] := by have := fileS_len n k; rw [hF] at this; exact this rfl
      rw [if_neg (by intro q; have := q.2; cases this)] at h
      repeat (first | refine Br.t rfl ?_ | refine Br.f rfl ?_)
      exact h
    | true =>
      by_cases ht : t = l
      · subst ht
        have c1 : (!(t == t)) = false := by simp
        rw [if_pos ⟨rfl, rfl⟩] at h
        repeat (first | refine Br.f c1 ?_ | refine Br.t rfl ?_ | refine Br.f rfl ?_)
        exact h
      · have c1 : (!(t == l)) = true := by simpa using ht
        rw [if_neg (by intro q; exact ht (congrArg Prod.fst q.2))] at h
        repeat (first | refine Br.t c1 ?_ | refine Br.t rfl ?_ | refine Br.f rfl ?_)
        exact h
  · subst e
    rw [if_neg (by intro q; exact absurd q.1 (by decide))] at h
    repeat (first | refine Br.t rfl ?_ | refine Br.f rfl ?_)
    exact h
  · subst e
    rw [if_neg (by intro q; exact absurd q.1 (by decide))] at h
    repeat (first | refine Br.t rfl ?_ | refine Br.f rfl ?_)
    exact h
end Go.Proofs.YtkokaflanlcojaaDoor.AW

open Go Go.Proofs.YtkokaflanlcojaaDoor.AW Go.Proofs
namespace Go.Proofs.YtkokaflanlcojaaDoor.AW
set_option maxRecDepth 100000
set_option linter.unusedSimpArgs false
set_option linter.unusedVariables false
attribute [local irreducible] Utf8.encode

theorem nparse_v {l k : List UInt8} {n : Int} {ok : Bool} (hp : parseS l = (n, k, ok)) (hl : l.length < 1099511627776) (s : Store) (K : AV → Store → Prop) (h : K (.tup [.p (ii n), .p (.str k), .p (.bool ok)]) s) : Cal Tryd.prog 27 [.p (.str l)] s K := nparse_c l hl s K (by rw [hp]; exact h)
theorem parse2_v {l k : List UInt8} {n : Int} {ok : Bool} (hp : parseS l = (n, k, ok)) (hl : l.length < 1099511627776) (s : Store) (K : AV → Store → Prop) (h : K (.tup [.p (ii n), .p (.str k), .p (.bool ok)]) s) : Cal Tryd.prog 41 [.p (.str l)] s K := parse2_c l hl s K (by rw [hp]; exact h)
theorem right_v {l : List UInt8} {b : Bool} (hb : isRt l = b) (hl : l.length < 1099511627776) (s : Store) (K : AV → Store → Prop) (h : K (.p (.bool b)) s) : Cal Tryd.prog 28 [.p (.str l)] s K := right_c l (by omega) s K (by rw [hb]; exact h)
theorem right2_v {l : List UInt8} {b : Bool} (hb : isRt l = b) (hl : l.length < 1099511627776) (s : Store) (K : AV → Store → Prop) (h : K (.p (.bool b)) s) : Cal Tryd.prog 42 [.p (.str l)] s K := right2_c l (by omega) s K (by rw [hb]; exact h)
theorem ncount_v {l : List UInt8} {n : Int} (hb : ((rns l).length : Int) = n) (hl : l.length < 1099511627776) (s : Store) (K : AV → Store → Prop) (h : K (.p (ii n)) s) : Cal Tryd.prog 30 [.p (.str l)] s K := ncount_c l (by omega) s K (by rw [hb]; exact h)
theorem count2_v {l : List UInt8} {n : Int} (hb : ((rns l).length : Int) = n) (hl : l.length < 1099511627776) (s : Store) (K : AV → Store → Prop) (h : K (.p (ii n)) s) : Cal Tryd.prog 20 [.p (.str l)] s K := count_c l (by omega) s K (by rw [hb]; exact h)
theorem upper_v {l t : List UInt8} (hb : upper l = t) (hl : l.length < 1099511627776) (s : Store) (K : AV → Store → Prop) (h : K (.p (.str t)) s) : Cal Tryd.prog 31 [.p (.str l)] s K := upper_c l hl s K (by rw [hb]; exact h)
theorem upper2_v {l t : List UInt8} (hb : upper l = t) (hl : l.length < 1099511627776) (s : Store) (K : AV → Store → Prop) (h : K (.p (.str t)) s) : Cal Tryd.prog 43 [.p (.str l)] s K := upper2_c l hl s K (by rw [hb]; exact h)
theorem less_v {a b : List UInt8} {r : Bool} (hb : lessR a b = r) (ha : a.length < 1099511627776) (hl : b.length < 1099511627776) (s : Store) (K : AV → Store → Prop) (h : K (.p (.bool r)) s) : Cal Tryd.prog 29 [.p (.str a), .p (.str b)] s K := less_c a b (by omega) (by omega) s K (by rw [hb]; exact h)
theorem less2_v {a b : List UInt8} {r : Bool} (hb : lessR a b = r) (ha : a.length < 1099511627776) (hl : b.length < 1099511627776) (s : Store) (K : AV → Store → Prop) (h : K (.p (.bool r)) s) : Cal Tryd.prog 44 [.p (.str a), .p (.str b)] s K := less2_c a b ha hl s K (by rw [hb]; exact h)

theorem same3_c (a b : List UInt8) (n : Int) (ha : a.length < 1099511627776) (hb : b.length < 1099511627776) (s : Store) (K : AV → Store → Prop) (h : K (.p (.bool true)) s) : Cal Tryd.prog 23 [.p (.str a), .p (.str b), .p (ii n)] s K := by
  refine Cal.pure (args := [.str a, .str b, ii n]) ?_
  refine Cal.intro Tryd.func23 (by decide +kernel) rfl rfl ?_
  obtain ⟨t, ok, hF⟩ : ∃ t ok, fileS n a = (t, ok) := ⟨_, _, rfl⟩
  obtain ⟨m, k, is, hP⟩ : ∃ m k is, parseS b = (m, k, is) := ⟨_, _, _, rfl⟩
  obtain ⟨R, hR⟩ : ∃ R, isRt a = R := ⟨_, rfl⟩
  obtain ⟨C, hC⟩ : ∃ C, ((rns a).length : Int) = C := ⟨_, rfl⟩
  obtain ⟨U, hU⟩ : ∃ U, upper a = U := ⟨_, rfl⟩
  obtain ⟨L, hL⟩ : ∃ L, lessR a b = L := ⟨_, rfl⟩
  refine file_v hF ha _ _ ?_
  refine file2_v rfl hF ha _ _ ?_
  refine nparse_v hP hb _ _ ?_
  refine parse2_v hP hb _ _ ?_
  have f1 : (t == t) = true := by simp
  have f2 : (ok == ok) = true := by simp
  have f3 : (m == m) = true := by simp
  have f4 : (k == k) = true := by simp
  have f5 : (is == is) = true := by simp
  have f6 : (R == R) = true := by simp
  have f7 : (C == C) = true := by simp
  have f8 : (U == U) = true := by simp
  have f9 : (L == L) = true := by simp
  repeat (first
    | refine right_v hR ha _ _ ?_ | refine right2_v hR ha _ _ ?_ | refine ncount_v hC ha _ _ ?_ | refine count2_v hC ha _ _ ?_ | refine upper_v hU ha _ _ ?_ | refine upper2_v hU ha _ _ ?_ | refine less_v hL ha hb _ _ ?_ | refine less2_v hL ha hb _ _ ?_
    | refine Br.t (congrArg (· == true) f1) ?_ | refine Br.t f1 ?_ | refine Br.t (congrArg (· == true) f2) ?_ | refine Br.t f2 ?_ | refine Br.t (congrArg (· == true) f3) ?_ | refine Br.t f3 ?_
    | refine Br.t (congrArg (· == true) f4) ?_ | refine Br.t f4 ?_ | refine Br.t (congrArg (· == true) f5) ?_ | refine Br.t f5 ?_ | refine Br.t (congrArg (· == true) f6) ?_ | refine Br.t f6 ?_
    | refine Br.t (congrArg (· == true) f7) ?_ | refine Br.t f7 ?_ | refine Br.t (congrArg (· == true) f8) ?_ | refine Br.t f8 ?_)
  refine (show K (.p (.bool (L == L))) _ from ?_)
  rw [f9]
  exact h
end Go.Proofs.YtkokaflanlcojaaDoor.AW

open Go Go.Proofs.YtkokaflanlcojaaDoor.AW Go.Proofs
namespace Go.Proofs.YtkokaflanlcojaaDoor.AW
set_option maxRecDepth 100000
set_option linter.unusedSimpArgs false
set_option linter.unusedVariables false
attribute [local irreducible] Utf8.encode

def seven : List UInt8 := [48, 48, 48, 48, 48, 48, 48, 48, 48, 48, 48, 48, 48, 48, 48, 48, 48, 48, 48, 55, 46, 108, 111, 103]
theorem kn1 : fileS 7 [108, 111, 103] = (seven, true) := by decide +kernel
theorem kn2 : fileS 7 [97, 46, 98] = ([], false) := by decide +kernel
theorem kn3 : parseS seven = (7, [108, 111, 103], true) := by decide +kernel
theorem kn4 : parseS [55, 46, 108, 111, 103] = (0, [], false) := by decide +kernel
theorem kn5 : isRt [65] = false := by decide +kernel
theorem kn6 : isRt [115, 116, 97, 114, 116, 46, 110, 101, 119] = true := by decide +kernel
theorem kn7 : ((rns [97, 255, 228, 184, 150]).length : Int) = 3 := by decide +kernel
theorem kn8 : upper [97, 122, 195, 169, 255] = [65, 90, 195, 169, 239, 191, 189] := by decide +kernel
theorem kn9 : lessR [97] [98] = true := by decide +kernel
theorem kn10 : lessR [97] [97] = false := by decide +kernel
theorem kn11 : lessR [122] [228, 184, 150] = true := by decide +kernel

theorem known3_c (s : Store) (K : AV → Store → Prop) (h : K (.p (.bool true)) s) : Cal Tryd.prog 25 [] s K := by
  refine Cal.pure (args := []) ?_
  refine Cal.intro Tryd.func25 (by decide +kernel) rfl rfl ?_
  refine file_v kn1 (by decide) _ _ ?_
  refine file_v kn2 (by decide) _ _ ?_
  refine nparse_v kn3 (by decide) _ _ ?_
  refine nparse_v kn4 (by decide) _ _ ?_
  repeat (first
    | refine right_v kn5 (by decide) _ _ ?_ | refine right_v kn6 (by decide) _ _ ?_ | refine ncount_v kn7 (by decide) _ _ ?_ | refine upper_v kn8 (by decide) _ _ ?_
    | refine less_v kn9 (by decide) (by decide) _ _ ?_ | refine less_v kn10 (by decide) (by decide) _ _ ?_ | refine less_v kn11 (by decide) (by decide) _ _ ?_
    | refine Br.t rfl ?_)
  exact h
end Go.Proofs.YtkokaflanlcojaaDoor.AW

open Go Go.Proofs.YtkokaflanlcojaaDoor.AW Go.Proofs
namespace Go.Proofs.YtkokaflanlcojaaDoor.AW
set_option maxRecDepth 100000
set_option linter.unusedSimpArgs false
set_option linter.unusedVariables false
attribute [local irreducible] Utf8.encode

theorem and_mask (x : Int) (m : Nat) (hm : m < 9223372036854775808) : ∃ r : Nat, bits .and .i64 x (m : Int) = (r : Int) ∧ r ≤ m := by
  have hb : (BitVec.ofInt IntKind.i64.bits x &&& BitVec.ofInt IntKind.i64.bits (m : Int)).toNat ≤ m := by
    rw [BitVec.toNat_and]
    refine Nat.le_trans Nat.and_le_right ?_
    rw [BitVec.toNat_ofInt]
    show ((m : Int) % ((2 ^ 64 : Nat) : Int)).toNat ≤ m
    omega
  refine ⟨(BitVec.ofInt IntKind.i64.bits x &&& BitVec.ofInt IntKind.i64.bits (m : Int)).toNat, ?_, hb⟩
  show IntKind.i64.wrap ((BitVec.ofInt IntKind.i64.bits x &&& BitVec.ofInt IntKind.i64.bits (m : Int)).toNat : Int) = _
  rw [wrap_i64] <;> omega
def knds : List (List UInt8) := [[108, 111, 103], [105, 110, 100, 101, 120], [115, 110, 97, 112, 115, 104, 111, 116], [97, 98, 111, 114, 116, 115]]
theorem knd_at (x : Int) : 0 ≤ bits .and .i64 x 3 ∧ ∃ k, (knds.map PV.str)[(bits .and .i64 x 3).toNat]? = some (.str k) ∧ k.length ≤ 8 := by
  obtain ⟨r, hr, hle⟩ := and_mask x 3 (by decide)
  rw [show (3 : Int) = ((3 : Nat) : Int) from rfl, hr]
  refine ⟨Int.natCast_nonneg r, ?_⟩
  rw [Int.toNat_natCast]
  match r, hle with
  | 0, _ => exact ⟨_, rfl, by decide⟩
  | 1, _ => exact ⟨_, rfl, by decide⟩
  | 2, _ => exact ⟨_, rfl, by decide⟩
  | 3, _ => exact ⟨_, rfl, by decide⟩
theorem fileS_bound (b : Int) (k : List UInt8) : (fileS b k).1.length ≤ k.length + 21 := by
  unfold fileS
  split
  · simp only [List.length_append, List.length_cons, List.length_nil, dtxt_len]; omega
  · exact Nat.zero_le _
theorem len_cut (n : Int) (l : List UInt8) (hn : 0 ≤ n) (h : decide ((l.length : Int) > n) = true) : 0 ≤ (0 : Int) ∧ (0 : Int) ≤ n ∧ n ≤ (l.length : Int) := by
  have := of_decide_eq_true h; omega
theorem cut_bound (n : Nat) (l : List UInt8) : ((l.take (n : Int).toNat).drop (0 : Int).toNat).length ≤ n := by
  simp only [List.length_drop, List.length_take]; omega
theorem no_cut {n : Nat} {l : List UInt8} (h : decide ((l.length : Int) > n) = false) : l.length ≤ n := by
  have := of_decide_eq_false h; omega
theorem sum_lt {a b : List UInt8} {n m : Nat} (ha : a.length ≤ n) (hb : b.length ≤ m) (hn : n ≤ 1000000) (hm : m ≤ 1000000) : a.length + b.length < 9223372036854775808 ∧ (a ++ b).length < 1099511627776 := by
  rw [List.length_append]; omega
theorem lt40 {a : List UInt8} {n : Nat} (ha : a.length ≤ n) (hn : n ≤ 1000000) : a.length < 1099511627776 := by omega

theorem nameTells_c (a b : List UInt8) (n k : Int) (s : Store) (K : AV → Store → Prop) (h : K (.p (.bool true)) s) : Cal Tryd.prog 7 [.p (.str a), .p (.str b), .p (ii n), .p (ii k)] s K := by
  refine Cal.pure (args := [.str a, .str b, ii n, ii k]) ?_
  refine Cal.intro Tryd.func7 (by decide +kernel) rfl rfl ?_
  obtain ⟨k0, kd, hkd, hkl⟩ := knd_at k
  obtain ⟨t, ok, hF⟩ : ∃ t ok, fileS (bits .and .i64 n 1099511627775) kd = (t, ok) := ⟨_, _, rfl⟩
  have ht : t.length ≤ 29 := by
    have := fileS_bound (bits .and .i64 n 1099511627775) kd
    rw [hF] at this
    have : t.length ≤ kd.length + 21 := this
    omega
  have hkd1 : kd.length < 1099511627776 := by omega
  refine Br.mk (fun ca => ?_) (fun ca => ?_)
  · refine Ob.mk (len_cut 90 a (by decide) ca) ?_
    refine Br.mk (fun cb => ?_) (fun cb => ?_)
    · refine Ob.mk (len_cut 90 b (by decide) cb) ?_
      have hA : ((a.take (90 : Int).toNat).drop (0 : Int).toNat).length ≤ 90 := cut_bound 90 a
      have hB : ((b.take (90 : Int).toNat).drop (0 : Int).toNat).length ≤ 90 := cut_bound 90 b
      have hA1 : ((a.take (90 : Int).toNat).drop (0 : Int).toNat).length < 1099511627776 := lt40 hA (by decide)
      have hB1 : ((b.take (90 : Int).toNat).drop (0 : Int).toNat).length < 1099511627776 := lt40 hB (by decide)
      have ht1 : t.length < 1099511627776 := lt40 ht (by decide)
      obtain ⟨q1, q2⟩ := sum_lt ht hA (by decide) (by decide)
      obtain ⟨q3, q4⟩ := sum_lt hA hB (by decide) (by decide)
      refine Idx.mk _ k0 hkd ?_
      refine file2_v rfl hF hkd1 _ _ ?_
      refine same3_c _ _ _ hA1 hB1 _ _ ?_
      repeat refine Br.t rfl ?_
      refine same3_c _ _ _ hA1 ht1 _ _ ?_
      repeat refine Br.t rfl ?_
      refine Ob.mk q1 ?_
      repeat refine Br.t rfl ?_
      refine same3_c _ _ _ (by decide) q2 _ _ ?_
      repeat refine Br.t rfl ?_
      refine Ob.mk q3 ?_
      repeat refine Br.t rfl ?_
      refine same3_c _ _ _ q4 hA1 _ _ ?_
      repeat refine Br.t rfl ?_
      refine known3_c _ _ ?_
      repeat refine Br.t rfl ?_
      exact h
    · have hA : ((a.take (90 : Int).toNat).drop (0 : Int).toNat).length ≤ 90 := cut_bound 90 a
      have hB : b.length ≤ 90 := no_cut cb
      have hA1 : ((a.take (90 : Int).toNat).drop (0 : Int).toNat).length < 1099511627776 := lt40 hA (by decide)
      have hB1 : b.length < 1099511627776 := lt40 hB (by decide)
      have ht1 : t.length < 1099511627776 := lt40 ht (by decide)
      obtain ⟨q1, q2⟩ := sum_lt ht hA (by decide) (by decide)
      obtain ⟨q3, q4⟩ := sum_lt hA hB (by decide) (by decide)
      refine Idx.mk _ k0 hkd ?_
      refine file2_v rfl hF hkd1 _ _ ?_
      refine same3_c _ _ _ hA1 hB1 _ _ ?_
      repeat refine Br.t rfl ?_
      refine same3_c _ _ _ hA1 ht1 _ _ ?_
      repeat refine Br.t rfl ?_
      refine Ob.mk q1 ?_
      repeat refine Br.t rfl ?_
      refine same3_c _ _ _ (by decide) q2 _ _ ?_
      repeat refine Br.t rfl ?_
      refine Ob.mk q3 ?_
      repeat refine Br.t rfl ?_
      refine same3_c _ _ _ q4 hA1 _ _ ?_
      repeat refine Br.t rfl ?_
      refine known3_c _ _ ?_
      repeat refine Br.t rfl ?_
      exact h
  · refine Br.mk (fun cb => ?_) (fun cb => ?_)
    · refine Ob.mk (len_cut 90 b (by decide) cb) ?_
      have hA : a.length ≤ 90 := no_cut ca
      have hB : ((b.take (90 : Int).toNat).drop (0 : Int).toNat).length ≤ 90 := cut_bound 90 b
      have hA1 : a.length < 1099511627776 := lt40 hA (by decide)
      have hB1 : ((b.take (90 : Int).toNat).drop (0 : Int).toNat).length < 1099511627776 := lt40 hB (by decide)
      have ht1 : t.length < 1099511627776 := lt40 ht (by decide)
      obtain ⟨q1, q2⟩ := sum_lt ht hA (by decide) (by decide)
      obtain ⟨q3, q4⟩ := sum_lt hA hB (by decide) (by decide)
      refine Idx.mk _ k0 hkd ?_
      refine file2_v rfl hF hkd1 _ _ ?_
      refine same3_c _ _ _ hA1 hB1 _ _ ?_
      repeat refine Br.t rfl ?_
      refine same3_c _ _ _ hA1 ht1 _ _ ?_
      repeat refine Br.t rfl ?_
      refine Ob.mk q1 ?_
      repeat refine Br.t rfl ?_
      refine same3_c _ _ _ (by decide) q2 _ _ ?_
      repeat refine Br.t rfl ?_
      refine Ob.mk q3 ?_
      repeat refine Br.t rfl ?_
      refine same3_c _ _ _ q4 hA1 _ _ ?_
      repeat refine Br.t rfl ?_
      refine known3_c _ _ ?_
      repeat refine Br.t rfl ?_
      exact h
    · have hA : a.length ≤ 90 := no_cut ca
      have hB : b.length ≤ 90 := no_cut cb
      have hA1 : a.length < 1099511627776 := lt40 hA (by decide)
      have hB1 : b.length < 1099511627776 := lt40 hB (by decide)
      have ht1 : t.length < 1099511627776 := lt40 ht (by decide)
      obtain ⟨q1, q2⟩ := sum_lt ht hA (by decide) (by decide)
      obtain ⟨q3, q4⟩ := sum_lt hA hB (by decide) (by decide)
      refine Idx.mk _ k0 hkd ?_
      refine file2_v rfl hF hkd1 _ _ ?_
      refine same3_c _ _ _ hA1 hB1 _ _ ?_
      repeat refine Br.t rfl ?_
      refine same3_c _ _ _ hA1 ht1 _ _ ?_
      repeat refine Br.t rfl ?_
      refine Ob.mk q1 ?_
      repeat refine Br.t rfl ?_
      refine same3_c _ _ _ (by decide) q2 _ _ ?_
      repeat refine Br.t rfl ?_
      refine Ob.mk q3 ?_
      repeat refine Br.t rfl ?_
      refine same3_c _ _ _ q4 hA1 _ _ ?_
      repeat refine Br.t rfl ?_
      refine known3_c _ _ ?_
      repeat refine Br.t rfl ?_
      exact h
end Go.Proofs.YtkokaflanlcojaaDoor.AW

open Go Go.Proofs.YtkokaflanlcojaaDoor.AW Go.Proofs
namespace Go.Proofs.YtkokaflanlcojaaDoor.AW
set_option maxRecDepth 100000
set_option linter.unusedSimpArgs false
set_option linter.unusedVariables false
attribute [local irreducible] Utf8.encode

/-! ### Plain law: order of names, great letters, a name put twice -/
theorem cmpR_lt {x y : Int} (h : x < y) (a b : List Int) : cmpR (x :: a) (y :: b) = -1 := by
  have : cmp1 x y = -1 := by unfold cmp1; rw [if_pos h]
  rw [cmpR, this]; rfl
theorem cmpR_gt {x y : Int} (h : y < x) (a b : List Int) : cmpR (x :: a) (y :: b) = 1 := by
  have : cmp1 x y = 1 := by unfold cmp1; rw [if_neg (by omega), if_pos h]
  rw [cmpR, this]; rfl
theorem cmpR_eq (x : Int) (a b : List Int) : cmpR (x :: a) (x :: b) = cmpR a b := by
  have : cmp1 x x = 0 := by unfold cmp1; rw [if_neg (by omega), if_neg (by omega)]
  rw [cmpR, this]; rfl
theorem cmpR_self : ∀ a : List Int, cmpR a a = 0
  | [] => rfl
  | x :: a => by rw [cmpR_eq, cmpR_self a]
theorem cmpR_anti : ∀ a b : List Int, cmpR a b < 0 → ¬ cmpR b a < 0
  | [], [], h => by simp [cmpR] at h
  | [], _ :: _, _ => by simp [cmpR]
  | _ :: _, [], h => by simp [cmpR] at h
  | x :: a, y :: b, h => by
    rcases Int.lt_trichotomy x y with hxy | hxy | hxy
    · rw [cmpR_gt hxy]; omega
    · subst hxy
      rw [cmpR_eq] at h ⊢
      exact cmpR_anti a b h
    · rw [cmpR_gt hxy] at h; omega
theorem cmpR_trans : ∀ a b c : List Int, cmpR a b < 0 → cmpR b c < 0 → cmpR a c < 0
  | [], [], c, h, _ => by simp [cmpR] at h
  | [], _ :: _, [], _, k => by simp [cmpR] at k
  | [], _ :: _, _ :: _, _, _ => by simp [cmpR]
  | _ :: _, [], _, h, _ => by simp [cmpR] at h
  | _ :: _, _ :: _, [], _, k => by simp [cmpR] at k
  | x :: a, y :: b, z :: c, h, k => by
    rcases Int.lt_trichotomy x y with hxy | hxy | hxy
    · rcases Int.lt_trichotomy y z with hyz | hyz | hyz
      · rw [cmpR_lt (by omega)]; omega
      · subst hyz; rw [cmpR_lt hxy]; omega
      · rw [cmpR_gt hyz] at k; omega
    · subst hxy
      rcases Int.lt_trichotomy x z with hyz | hyz | hyz
      · rw [cmpR_lt hyz]; omega
      · subst hyz
        rw [cmpR_eq] at h k ⊢
        exact cmpR_trans a b c h k
      · rw [cmpR_gt hyz] at k; omega
    · rw [cmpR_gt hxy] at h; omega
theorem cmpR_more (x : Int) : ∀ a : List Int, cmpR a (a ++ [x]) = -1
  | [] => rfl
  | y :: a => by rw [List.cons_append, cmpR_eq, cmpR_more x a]

theorem less_self (a : List UInt8) : lessR a a = false := by unfold lessR; rw [cmpR_self]; rfl
theorem less_anti {a b : List UInt8} (h : lessR a b = true) : lessR b a = false := by
  unfold lessR at *
  exact decide_eq_false (cmpR_anti _ _ (of_decide_eq_true h))
theorem less_trans {a b c : List UInt8} (h : lessR a b = true) (k : lessR b c = true) : lessR a c = true := by
  unfold lessR at *
  exact decide_eq_true (cmpR_trans _ _ _ (of_decide_eq_true h) (of_decide_eq_true k))
theorem rns_asc (a : List UInt8) {c : UInt8} (hc : c.toNat < 128) (y : List UInt8) : rns (a ++ c :: y) = rns a ++ (c.toNat : Int) :: rns y := by
  rw [rns_edge _ a rfl (by unfold begins; omega) y, rns_ascii hc]
theorem less_more (a : List UInt8) : lessR a (a ++ [120]) = true := by
  unfold lessR
  rw [rns_asc a (by decide) [], rns_nil, cmpR_more]; rfl

theorem up_up (r : Int) : up (up r) = up r := by
  unfold up
  by_cases h : 97 ≤ r ∧ r ≤ 122
  · rw [if_pos h, if_neg (by omega)]
  · rw [if_neg h, if_neg h]
theorem okL_up {l : List Int} (h : okL l) : okL (l.map up) := by
  intro x hx
  obtain ⟨y, hy, rfl⟩ := List.mem_map.1 hx
  obtain ⟨r, rfl, hr⟩ := h y hy
  unfold up
  split
  · rename_i hc
    refine ⟨r - 32, by omega, ?_⟩
    unfold okR at *; omega
  · exact ⟨r, rfl, hr⟩
theorem rns_upper (l : List UInt8) : rns (upper l) = (rns l).map up := rns_encs _ (okL_up (okL_rns l))
theorem upper_upper (l : List UInt8) : upper (upper l) = upper l := by
  show encs ((rns (upper l)).map up) = _
  rw [rns_upper, List.map_map]
  have : (up ∘ up) = up := funext up_up
  rw [this]; rfl
theorem upper_len (l : List UInt8) : (upper l).length ≤ 4 * l.length := by
  have h1 := encs_len ((rns l).map up)
  have h2 := rns_le l
  rw [List.length_map] at h1
  show (encs ((rns l).map up)).length ≤ _
  omega

theorem decode_mid {c : UInt8} (hc : ¬ begins c) (y : List UInt8) : decode (c :: y) = (65533, 1) := by
  have h : c.toNat / 64 = 2 := Classical.byContradiction hc
  have h0 : ¬ c.toNat < 128 := by omega
  have h1 : ¬ c.toNat / 32 = 6 := by omega
  have h2 : ¬ c.toNat / 16 = 14 := by omega
  have h3 : ¬ c.toNat / 8 = 30 := by omega
  unfold decode Utf8.decode
  simp [ByteArray.get!, h0, h1, h2, h3, Utf8.runeError]
theorem isRt_mid {c : UInt8} (hc : ¬ begins c) (y : List UInt8) : isRt (c :: y) = false := by
  unfold isRt
  rw [rns_step (by simp), decode_mid hc]
  rfl
theorem isRt_twice (l : List UInt8) : isRt (l ++ l) = (isRt l && decide (2 * ((rns l).length : Int) ≤ 40)) := by
  cases l with
  | nil => rfl
  | cons c y =>
    by_cases hc : begins c
    · unfold isRt
      rw [rns_edge _ (c :: y) rfl hc y, List.all_append, List.length_append]
      generalize (rns (c :: y)).all (fun r => isNm r.toNat) = A
      generalize (rns (c :: y)).length = n
      cases A
      · rfl
      · show (decide (1 ≤ n + n) && decide (n + n ≤ 40)) = ((decide (1 ≤ n) && decide (n ≤ 40)) && decide (2 * (n : Int) ≤ 40))
        rw [Bool.eq_iff_iff]
        simp only [Bool.and_eq_true, decide_eq_true_eq]
        omega
    · rw [isRt_mid hc, show (c :: y) ++ (c :: y) = c :: (y ++ (c :: y)) from rfl, isRt_mid hc]; rfl
theorem okL_take {l : List Int} (h : okL l) (n : Nat) : okL (l.take n) := fun x hx => h x (List.mem_of_mem_take hx)
theorem okL_drop {l : List Int} (h : okL l) (n : Nat) : okL (l.drop n) := fun x hx => h x (List.mem_of_mem_drop hx)
theorem encs_app (a b : List Int) : encs (a ++ b) = encs a ++ encs b := by unfold encs; rw [List.flatMap_append]
end Go.Proofs.YtkokaflanlcojaaDoor.AW

open Go Go.Proofs.YtkokaflanlcojaaDoor.AW Go.Proofs
namespace Go.Proofs.YtkokaflanlcojaaDoor.AW
set_option maxRecDepth 100000
set_option linter.unusedSimpArgs false
set_option linter.unusedVariables false
attribute [local irreducible] Utf8.encode

theorem kb : ((rns [32]).length : Int) = 1 := by decide +kernel
theorem sum3 {x y : List UInt8} (hx : x.length ≤ 20) (hy : y.length ≤ 20) : (IntKind.i64.wrap (IntKind.i64.wrap (((rns x).length : Int) + 1) + ((rns y).length : Int)) == ((rns (x ++ [32] ++ y)).length : Int)) = true := by
  have h1 := rns_le x
  have h2 := rns_le y
  rw [rns_blank, wrap_i64 (n := ((rns x).length : Int) + 1) (by omega) (by omega), wrap_i64 (by omega) (by omega)]
  simp only [beq_iff_eq]
  omega

set_option maxHeartbeats 4000000 in
theorem nameOrder_c (a b c : List UInt8) (s : Store) (K : AV → Store → Prop) (h : K (.p (.bool true)) s) : Cal Tryd.prog 9 [.p (.str a), .p (.str b), .p (.str c)] s K := by
  refine Cal.pure (args := [.str a, .str b, .str c]) ?_
  refine Cal.intro Tryd.func9 (by decide +kernel) rfl rfl ?_
  refine Br.mk (fun ca => ?_) (fun ca => ?_)
  · refine Ob.mk (len_cut 20 a (by decide) ca) ?_
    refine Br.mk (fun cb => ?_) (fun cb => ?_)
    · refine Ob.mk (len_cut 20 b (by decide) cb) ?_
      refine Br.mk (fun cc => ?_) (fun cc => ?_)
      · refine Ob.mk (len_cut 20 c (by decide) cc) ?_
        have hA : ((a.take (20 : Int).toNat).drop (0 : Int).toNat).length ≤ 20 := cut_bound 20 a
        have hA1 : ((a.take (20 : Int).toNat).drop (0 : Int).toNat).length < 1099511627776 := lt40 hA (by decide)
        have hB : ((b.take (20 : Int).toNat).drop (0 : Int).toNat).length ≤ 20 := cut_bound 20 b
        have hB1 : ((b.take (20 : Int).toNat).drop (0 : Int).toNat).length < 1099511627776 := lt40 hB (by decide)
        have hC : ((c.take (20 : Int).toNat).drop (0 : Int).toNat).length ≤ 20 := cut_bound 20 c
        have hC1 : ((c.take (20 : Int).toNat).drop (0 : Int).toNat).length < 1099511627776 := lt40 hC (by decide)
        obtain ⟨p, hp⟩ : ∃ p, lessR ((a.take (20 : Int).toNat).drop (0 : Int).toNat) ((b.take (20 : Int).toNat).drop (0 : Int).toNat) = p := ⟨_, rfl⟩
        obtain ⟨r, hr⟩ : ∃ p, lessR ((b.take (20 : Int).toNat).drop (0 : Int).toNat) ((c.take (20 : Int).toNat).drop (0 : Int).toNat) = p := ⟨_, rfl⟩
        have e1 := less_self ((a.take (20 : Int).toNat).drop (0 : Int).toNat)
        have e2 := less_more ((a.take (20 : Int).toNat).drop (0 : Int).toNat)
        have e3 := sum3 hA hB
        have e4 := upper_upper ((a.take (20 : Int).toNat).drop (0 : Int).toNat)
        obtain ⟨U, hU⟩ : ∃ U, upper ((a.take (20 : Int).toNat).drop (0 : Int).toNat) = U := ⟨_, rfl⟩
        rw [hU] at e4
        have hUl : U.length < 1099511627776 := by have := upper_len ((a.take (20 : Int).toNat).drop (0 : Int).toNat); rw [hU] at this; omega
        have e5 : (U == U) = true := by simp
        have hx1 : (((a.take (20 : Int).toNat).drop (0 : Int).toNat) ++ [120]).length < 1099511627776 := by rw [List.length_append]; show _ + 1 < _; omega
        have hx2 : (((a.take (20 : Int).toNat).drop (0 : Int).toNat) ++ [32] ++ ((b.take (20 : Int).toNat).drop (0 : Int).toNat)).length < 1099511627776 := by simp only [List.length_append]; show _ + 1 + _ < _; omega
        have hx3 : ((a.take (20 : Int).toNat).drop (0 : Int).toNat).length + ([120] : List UInt8).length < 9223372036854775808 := by show _ + 1 < _; omega
        have hx4 : ((a.take (20 : Int).toNat).drop (0 : Int).toNat).length + ([32] : List UInt8).length < 9223372036854775808 := by show _ + 1 < _; omega
        have hx5 : (((a.take (20 : Int).toNat).drop (0 : Int).toNat) ++ [32]).length + ((b.take (20 : Int).toNat).drop (0 : Int).toNat).length < 9223372036854775808 := by rw [List.length_append]; show _ + 1 + _ < _; omega
        refine less_v hp hA1 hB1 _ _ ?_
        cases p with
        | false =>
          repeat (first | refine Br.t rfl ?_ | refine Br.f rfl ?_)
          refine less_v e1 hA1 hA1 _ _ ?_
          repeat (first | refine Br.t rfl ?_ | refine Br.f rfl ?_)
          refine less_v hp hA1 hB1 _ _ ?_
          repeat (first | refine Br.t rfl ?_ | refine Br.f rfl ?_)
          refine Ob.mk hx3 ?_
          repeat (first | refine Br.t rfl ?_ | refine Br.f rfl ?_)
          refine less_v e2 hA1 hx1 _ _ ?_
          repeat (first | refine Br.t rfl ?_ | refine Br.f rfl ?_)
          refine ncount_v rfl hA1 _ _ ?_
          repeat (first | refine Br.t rfl ?_ | refine Br.f rfl ?_)
          refine ncount_v kb (by decide) _ _ ?_
          repeat (first | refine Br.t rfl ?_ | refine Br.f rfl ?_)
          refine ncount_v rfl hB1 _ _ ?_
          repeat (first | refine Br.t rfl ?_ | refine Br.f rfl ?_)
          refine Ob.mk hx4 ?_
          repeat (first | refine Br.t rfl ?_ | refine Br.f rfl ?_)
          refine Ob.mk hx5 ?_
          repeat (first | refine Br.t rfl ?_ | refine Br.f rfl ?_)
          refine ncount_v rfl hx2 _ _ ?_
          repeat (first | refine Br.t rfl ?_ | refine Br.f rfl ?_)
          repeat (first | refine Br.t (congrArg (· == true) e3) ?_ | refine Br.t e3 ?_)
          refine upper_v hU hA1 _ _ ?_
          repeat (first | refine Br.t (congrArg (· == true) e3) ?_ | refine Br.t e3 ?_)
          refine upper_v e4 hUl _ _ ?_
          repeat (first | refine Br.t (congrArg (· == true) e3) ?_ | refine Br.t e3 ?_)
          refine upper_v hU hA1 _ _ ?_
          repeat (first | refine Br.t (congrArg (· == true) e3) ?_ | refine Br.t e3 ?_)
          repeat (first | refine Br.t (congrArg (· == true) e5) ?_ | refine Br.t e5 ?_)
          refine known3_c _ _ ?_
          repeat (first | refine Br.t (congrArg (· == true) e5) ?_ | refine Br.t e5 ?_)
          exact h
        | true =>
          have e6 := less_anti hp
          repeat refine Br.t rfl ?_
          refine less_v e6 hB1 hA1 _ _ ?_
          cases r with
          | false =>
            repeat (first | refine Br.t rfl ?_ | refine Br.f rfl ?_)
            refine less_v e1 hA1 hA1 _ _ ?_
            repeat (first | refine Br.t rfl ?_ | refine Br.f rfl ?_)
            refine less_v hp hA1 hB1 _ _ ?_
            repeat (first | refine Br.t rfl ?_ | refine Br.f rfl ?_)
            refine less_v hr hB1 hC1 _ _ ?_
            repeat (first | refine Br.t rfl ?_ | refine Br.f rfl ?_)
            refine Ob.mk hx3 ?_
            repeat (first | refine Br.t rfl ?_ | refine Br.f rfl ?_)
            refine less_v e2 hA1 hx1 _ _ ?_
            repeat (first | refine Br.t rfl ?_ | refine Br.f rfl ?_)
            refine ncount_v rfl hA1 _ _ ?_
            repeat (first | refine Br.t rfl ?_ | refine Br.f rfl ?_)
            refine ncount_v kb (by decide) _ _ ?_
            repeat (first | refine Br.t rfl ?_ | refine Br.f rfl ?_)
            refine ncount_v rfl hB1 _ _ ?_
            repeat (first | refine Br.t rfl ?_ | refine Br.f rfl ?_)
            refine Ob.mk hx4 ?_
            repeat (first | refine Br.t rfl ?_ | refine Br.f rfl ?_)
            refine Ob.mk hx5 ?_
            repeat (first | refine Br.t rfl ?_ | refine Br.f rfl ?_)
            refine ncount_v rfl hx2 _ _ ?_
            repeat (first | refine Br.t rfl ?_ | refine Br.f rfl ?_)
            repeat (first | refine Br.t (congrArg (· == true) e3) ?_ | refine Br.t e3 ?_)
            refine upper_v hU hA1 _ _ ?_
            repeat (first | refine Br.t (congrArg (· == true) e3) ?_ | refine Br.t e3 ?_)
            refine upper_v e4 hUl _ _ ?_
            repeat (first | refine Br.t (congrArg (· == true) e3) ?_ | refine Br.t e3 ?_)
            refine upper_v hU hA1 _ _ ?_
            repeat (first | refine Br.t (congrArg (· == true) e3) ?_ | refine Br.t e3 ?_)
            repeat (first | refine Br.t (congrArg (· == true) e5) ?_ | refine Br.t e5 ?_)
            refine known3_c _ _ ?_
            repeat (first | refine Br.t (congrArg (· == true) e5) ?_ | refine Br.t e5 ?_)
            exact h
          | true =>
            have e7 := less_trans hp hr
            repeat (first | refine Br.t rfl ?_ | refine Br.f rfl ?_)
            refine less_v e1 hA1 hA1 _ _ ?_
            repeat (first | refine Br.t rfl ?_ | refine Br.f rfl ?_)
            refine less_v hp hA1 hB1 _ _ ?_
            repeat (first | refine Br.t rfl ?_ | refine Br.f rfl ?_)
            refine less_v hr hB1 hC1 _ _ ?_
            repeat (first | refine Br.t rfl ?_ | refine Br.f rfl ?_)
            refine less_v e7 hA1 hC1 _ _ ?_
            repeat (first | refine Br.t rfl ?_ | refine Br.f rfl ?_)
            refine Ob.mk hx3 ?_
            repeat (first | refine Br.t rfl ?_ | refine Br.f rfl ?_)
            refine less_v e2 hA1 hx1 _ _ ?_
            repeat (first | refine Br.t rfl ?_ | refine Br.f rfl ?_)
            refine ncount_v rfl hA1 _ _ ?_
            repeat (first | refine Br.t rfl ?_ | refine Br.f rfl ?_)
            refine ncount_v kb (by decide) _ _ ?_
            repeat (first | refine Br.t rfl ?_ | refine Br.f rfl ?_)
            refine ncount_v rfl hB1 _ _ ?_
            repeat (first | refine Br.t rfl ?_ | refine Br.f rfl ?_)
            refine Ob.mk hx4 ?_
            repeat (first | refine Br.t rfl ?_ | refine Br.f rfl ?_)
            refine Ob.mk hx5 ?_
            repeat (first | refine Br.t rfl ?_ | refine Br.f rfl ?_)
            refine ncount_v rfl hx2 _ _ ?_
            repeat (first | refine Br.t rfl ?_ | refine Br.f rfl ?_)
            repeat (first | refine Br.t (congrArg (· == true) e3) ?_ | refine Br.t e3 ?_)
            refine upper_v hU hA1 _ _ ?_
            repeat (first | refine Br.t (congrArg (· == true) e3) ?_ | refine Br.t e3 ?_)
            refine upper_v e4 hUl _ _ ?_
            repeat (first | refine Br.t (congrArg (· == true) e3) ?_ | refine Br.t e3 ?_)
            refine upper_v hU hA1 _ _ ?_
            repeat (first | refine Br.t (congrArg (· == true) e3) ?_ | refine Br.t e3 ?_)
            repeat (first | refine Br.t (congrArg (· == true) e5) ?_ | refine Br.t e5 ?_)
            refine known3_c _ _ ?_
            repeat (first | refine Br.t (congrArg (· == true) e5) ?_ | refine Br.t e5 ?_)
            exact h
      · skip
        have hA : ((a.take (20 : Int).toNat).drop (0 : Int).toNat).length ≤ 20 := cut_bound 20 a
        have hA1 : ((a.take (20 : Int).toNat).drop (0 : Int).toNat).length < 1099511627776 := lt40 hA (by decide)
        have hB : ((b.take (20 : Int).toNat).drop (0 : Int).toNat).length ≤ 20 := cut_bound 20 b
        have hB1 : ((b.take (20 : Int).toNat).drop (0 : Int).toNat).length < 1099511627776 := lt40 hB (by decide)
        have hC : c.length ≤ 20 := no_cut cc
        have hC1 : c.length < 1099511627776 := lt40 hC (by decide)
        obtain ⟨p, hp⟩ : ∃ p, lessR ((a.take (20 : Int).toNat).drop (0 : Int).toNat) ((b.take (20 : Int).toNat).drop (0 : Int).toNat) = p := ⟨_, rfl⟩
        obtain ⟨r, hr⟩ : ∃ p, lessR ((b.take (20 : Int).toNat).drop (0 : Int).toNat) c = p := ⟨_, rfl⟩
        have e1 := less_self ((a.take (20 : Int).toNat).drop (0 : Int).toNat)
        have e2 := less_more ((a.take (20 : Int).toNat).drop (0 : Int).toNat)
        have e3 := sum3 hA hB
        have e4 := upper_upper ((a.take (20 : Int).toNat).drop (0 : Int).toNat)
        obtain ⟨U, hU⟩ : ∃ U, upper ((a.take (20 : Int).toNat).drop (0 : Int).toNat) = U := ⟨_, rfl⟩
        rw [hU] at e4
        have hUl : U.length < 1099511627776 := by have := upper_len ((a.take (20 : Int).toNat).drop (0 : Int).toNat); rw [hU] at this; omega
        have e5 : (U == U) = true := by simp
        have hx1 : (((a.take (20 : Int).toNat).drop (0 : Int).toNat) ++ [120]).length < 1099511627776 := by rw [List.length_append]; show _ + 1 < _; omega
        have hx2 : (((a.take (20 : Int).toNat).drop (0 : Int).toNat) ++ [32] ++ ((b.take (20 : Int).toNat).drop (0 : Int).toNat)).length < 1099511627776 := by simp only [List.length_append]; show _ + 1 + _ < _; omega
        have hx3 : ((a.take (20 : Int).toNat).drop (0 : Int).toNat).length + ([120] : List UInt8).length < 9223372036854775808 := by show _ + 1 < _; omega
        have hx4 : ((a.take (20 : Int).toNat).drop (0 : Int).toNat).length + ([32] : List UInt8).length < 9223372036854775808 := by show _ + 1 < _; omega
        have hx5 : (((a.take (20 : Int).toNat).drop (0 : Int).toNat) ++ [32]).length + ((b.take (20 : Int).toNat).drop (0 : Int).toNat).length < 9223372036854775808 := by rw [List.length_append]; show _ + 1 + _ < _; omega
        refine less_v hp hA1 hB1 _ _ ?_
        cases p with
        | false =>
          repeat (first | refine Br.t rfl ?_ | refine Br.f rfl ?_)
          refine less_v e1 hA1 hA1 _ _ ?_
          repeat (first | refine Br.t rfl ?_ | refine Br.f rfl ?_)
          refine less_v hp hA1 hB1 _ _ ?_
          repeat (first | refine Br.t rfl ?_ | refine Br.f rfl ?_)
          refine Ob.mk hx3 ?_
          repeat (first | refine Br.t rfl ?_ | refine Br.f rfl ?_)
          refine less_v e2 hA1 hx1 _ _ ?_
          repeat (first | refine Br.t rfl ?_ | refine Br.f rfl ?_)
          refine ncount_v rfl hA1 _ _ ?_
          repeat (first | refine Br.t rfl ?_ | refine Br.f rfl ?_)
          refine ncount_v kb (by decide) _ _ ?_
          repeat (first | refine Br.t rfl ?_ | refine Br.f rfl ?_)
          refine ncount_v rfl hB1 _ _ ?_
          repeat (first | refine Br.t rfl ?_ | refine Br.f rfl ?_)
          refine Ob.mk hx4 ?_
          repeat (first | refine Br.t rfl ?_ | refine Br.f rfl ?_)
          refine Ob.mk hx5 ?_
          repeat (first | refine Br.t rfl ?_ | refine Br.f rfl ?_)
          refine ncount_v rfl hx2 _ _ ?_
          repeat (first | refine Br.t rfl ?_ | refine Br.f rfl ?_)
          repeat (first | refine Br.t (congrArg (· == true) e3) ?_ | refine Br.t e3 ?_)
          refine upper_v hU hA1 _ _ ?_
          repeat (first | refine Br.t (congrArg (· == true) e3) ?_ | refine Br.t e3 ?_)
          refine upper_v e4 hUl _ _ ?_
          repeat (first | refine Br.t (congrArg (· == true) e3) ?_ | refine Br.t e3 ?_)
          refine upper_v hU hA1 _ _ ?_
          repeat (first | refine Br.t (congrArg (· == true) e3) ?_ | refine Br.t e3 ?_)
          repeat (first | refine Br.t (congrArg (· == true) e5) ?_ | refine Br.t e5 ?_)
          refine known3_c _ _ ?_
          repeat (first | refine Br.t (congrArg (· == true) e5) ?_ | refine Br.t e5 ?_)
          exact h
        | true =>
          have e6 := less_anti hp
          repeat refine Br.t rfl ?_
          refine less_v e6 hB1 hA1 _ _ ?_
          cases r with
          | false =>
            repeat (first | refine Br.t rfl ?_ | refine Br.f rfl ?_)
            refine less_v e1 hA1 hA1 _ _ ?_
            repeat (first | refine Br.t rfl ?_ | refine Br.f rfl ?_)
            refine less_v hp hA1 hB1 _ _ ?_
            repeat (first | refine Br.t rfl ?_ | refine Br.f rfl ?_)
            refine less_v hr hB1 hC1 _ _ ?_
            repeat (first | refine Br.t rfl ?_ | refine Br.f rfl ?_)
            refine Ob.mk hx3 ?_
            repeat (first | refine Br.t rfl ?_ | refine Br.f rfl ?_)
            refine less_v e2 hA1 hx1 _ _ ?_
            repeat (first | refine Br.t rfl ?_ | refine Br.f rfl ?_)
            refine ncount_v rfl hA1 _ _ ?_
            repeat (first | refine Br.t rfl ?_ | refine Br.f rfl ?_)
            refine ncount_v kb (by decide) _ _ ?_
            repeat (first | refine Br.t rfl ?_ | refine Br.f rfl ?_)
            refine ncount_v rfl hB1 _ _ ?_
            repeat (first | refine Br.t rfl ?_ | refine Br.f rfl ?_)
            refine Ob.mk hx4 ?_
            repeat (first | refine Br.t rfl ?_ | refine Br.f rfl ?_)
            refine Ob.mk hx5 ?_
            repeat (first | refine Br.t rfl ?_ | refine Br.f rfl ?_)
            refine ncount_v rfl hx2 _ _ ?_
            repeat (first | refine Br.t rfl ?_ | refine Br.f rfl ?_)
            repeat (first | refine Br.t (congrArg (· == true) e3) ?_ | refine Br.t e3 ?_)
            refine upper_v hU hA1 _ _ ?_
            repeat (first | refine Br.t (congrArg (· == true) e3) ?_ | refine Br.t e3 ?_)
            refine upper_v e4 hUl _ _ ?_
            repeat (first | refine Br.t (congrArg (· == true) e3) ?_ | refine Br.t e3 ?_)
            refine upper_v hU hA1 _ _ ?_
            repeat (first | refine Br.t (congrArg (· == true) e3) ?_ | refine Br.t e3 ?_)
            repeat (first | refine Br.t (congrArg (· == true) e5) ?_ | refine Br.t e5 ?_)
            refine known3_c _ _ ?_
            repeat (first | refine Br.t (congrArg (· == true) e5) ?_ | refine Br.t e5 ?_)
            exact h
          | true =>
            have e7 := less_trans hp hr
            repeat (first | refine Br.t rfl ?_ | refine Br.f rfl ?_)
            refine less_v e1 hA1 hA1 _ _ ?_
            repeat (first | refine Br.t rfl ?_ | refine Br.f rfl ?_)
            refine less_v hp hA1 hB1 _ _ ?_
            repeat (first | refine Br.t rfl ?_ | refine Br.f rfl ?_)
            refine less_v hr hB1 hC1 _ _ ?_
            repeat (first | refine Br.t rfl ?_ | refine Br.f rfl ?_)
            refine less_v e7 hA1 hC1 _ _ ?_
            repeat (first | refine Br.t rfl ?_ | refine Br.f rfl ?_)
            refine Ob.mk hx3 ?_
            repeat (first | refine Br.t rfl ?_ | refine Br.f rfl ?_)
            refine less_v e2 hA1 hx1 _ _ ?_
            repeat (first | refine Br.t rfl ?_ | refine Br.f rfl ?_)
            refine ncount_v rfl hA1 _ _ ?_
            repeat (first | refine Br.t rfl ?_ | refine Br.f rfl ?_)
            refine ncount_v kb (by decide) _ _ ?_
            repeat (first | refine Br.t rfl ?_ | refine Br.f rfl ?_)
            refine ncount_v rfl hB1 _ _ ?_
            repeat (first | refine Br.t rfl ?_ | refine Br.f rfl ?_)
            refine Ob.mk hx4 ?_
            repeat (first | refine Br.t rfl ?_ | refine Br.f rfl ?_)
            refine Ob.mk hx5 ?_
            repeat (first | refine Br.t rfl ?_ | refine Br.f rfl ?_)
            refine ncount_v rfl hx2 _ _ ?_
            repeat (first | refine Br.t rfl ?_ | refine Br.f rfl ?_)
            repeat (first | refine Br.t (congrArg (· == true) e3) ?_ | refine Br.t e3 ?_)
            refine upper_v hU hA1 _ _ ?_
            repeat (first | refine Br.t (congrArg (· == true) e3) ?_ | refine Br.t e3 ?_)
            refine upper_v e4 hUl _ _ ?_
            repeat (first | refine Br.t (congrArg (· == true) e3) ?_ | refine Br.t e3 ?_)
            refine upper_v hU hA1 _ _ ?_
            repeat (first | refine Br.t (congrArg (· == true) e3) ?_ | refine Br.t e3 ?_)
            repeat (first | refine Br.t (congrArg (· == true) e5) ?_ | refine Br.t e5 ?_)
            refine known3_c _ _ ?_
            repeat (first | refine Br.t (congrArg (· == true) e5) ?_ | refine Br.t e5 ?_)
            exact h
    · skip
      refine Br.mk (fun cc => ?_) (fun cc => ?_)
      · refine Ob.mk (len_cut 20 c (by decide) cc) ?_
        have hA : ((a.take (20 : Int).toNat).drop (0 : Int).toNat).length ≤ 20 := cut_bound 20 a
        have hA1 : ((a.take (20 : Int).toNat).drop (0 : Int).toNat).length < 1099511627776 := lt40 hA (by decide)
        have hB : b.length ≤ 20 := no_cut cb
        have hB1 : b.length < 1099511627776 := lt40 hB (by decide)
        have hC : ((c.take (20 : Int).toNat).drop (0 : Int).toNat).length ≤ 20 := cut_bound 20 c
        have hC1 : ((c.take (20 : Int).toNat).drop (0 : Int).toNat).length < 1099511627776 := lt40 hC (by decide)
        obtain ⟨p, hp⟩ : ∃ p, lessR ((a.take (20 : Int).toNat).drop (0 : Int).toNat) b = p := ⟨_, rfl⟩
        obtain ⟨r, hr⟩ : ∃ p, lessR b ((c.take (20 : Int).toNat).drop (0 : Int).toNat) = p := ⟨_, rfl⟩
        have e1 := less_self ((a.take (20 : Int).toNat).drop (0 : Int).toNat)
        have e2 := less_more ((a.take (20 : Int).toNat).drop (0 : Int).toNat)
        have e3 := sum3 hA hB
        have e4 := upper_upper ((a.take (20 : Int).toNat).drop (0 : Int).toNat)
        obtain ⟨U, hU⟩ : ∃ U, upper ((a.take (20 : Int).toNat).drop (0 : Int).toNat) = U := ⟨_, rfl⟩
        rw [hU] at e4
        have hUl : U.length < 1099511627776 := by have := upper_len ((a.take (20 : Int).toNat).drop (0 : Int).toNat); rw [hU] at this; omega
        have e5 : (U == U) = true := by simp
        have hx1 : (((a.take (20 : Int).toNat).drop (0 : Int).toNat) ++ [120]).length < 1099511627776 := by rw [List.length_append]; show _ + 1 < _; omega
        have hx2 : (((a.take (20 : Int).toNat).drop (0 : Int).toNat) ++ [32] ++ b).length < 1099511627776 := by simp only [List.length_append]; show _ + 1 + _ < _; omega
        have hx3 : ((a.take (20 : Int).toNat).drop (0 : Int).toNat).length + ([120] : List UInt8).length < 9223372036854775808 := by show _ + 1 < _; omega
        have hx4 : ((a.take (20 : Int).toNat).drop (0 : Int).toNat).length + ([32] : List UInt8).length < 9223372036854775808 := by show _ + 1 < _; omega
        have hx5 : (((a.take (20 : Int).toNat).drop (0 : Int).toNat) ++ [32]).length + b.length < 9223372036854775808 := by rw [List.length_append]; show _ + 1 + _ < _; omega
        refine less_v hp hA1 hB1 _ _ ?_
        cases p with
        | false =>
          repeat (first | refine Br.t rfl ?_ | refine Br.f rfl ?_)
          refine less_v e1 hA1 hA1 _ _ ?_
          repeat (first | refine Br.t rfl ?_ | refine Br.f rfl ?_)
          refine less_v hp hA1 hB1 _ _ ?_
          repeat (first | refine Br.t rfl ?_ | refine Br.f rfl ?_)
          refine Ob.mk hx3 ?_
          repeat (first | refine Br.t rfl ?_ | refine Br.f rfl ?_)
          refine less_v e2 hA1 hx1 _ _ ?_
          repeat (first | refine Br.t rfl ?_ | refine Br.f rfl ?_)
          refine ncount_v rfl hA1 _ _ ?_
          repeat (first | refine Br.t rfl ?_ | refine Br.f rfl ?_)
          refine ncount_v kb (by decide) _ _ ?_
          repeat (first | refine Br.t rfl ?_ | refine Br.f rfl ?_)
          refine ncount_v rfl hB1 _ _ ?_
          repeat (first | refine Br.t rfl ?_ | refine Br.f rfl ?_)
          refine Ob.mk hx4 ?_
          repeat (first | refine Br.t rfl ?_ | refine Br.f rfl ?_)
          refine Ob.mk hx5 ?_
          repeat (first | refine Br.t rfl ?_ | refine Br.f rfl ?_)
          refine ncount_v rfl hx2 _ _ ?_
          repeat (first | refine Br.t rfl ?_ | refine Br.f rfl ?_)
          repeat (first | refine Br.t (congrArg (· == true) e3) ?_ | refine Br.t e3 ?_)
          refine upper_v hU hA1 _ _ ?_
          repeat (first | refine Br.t (congrArg (· == true) e3) ?_ | refine Br.t e3 ?_)
          refine upper_v e4 hUl _ _ ?_
          repeat (first | refine Br.t (congrArg (· == true) e3) ?_ | refine Br.t e3 ?_)
          refine upper_v hU hA1 _ _ ?_
          repeat (first | refine Br.t (congrArg (· == true) e3) ?_ | refine Br.t e3 ?_)
          repeat (first | refine Br.t (congrArg (· == true) e5) ?_ | refine Br.t e5 ?_)
          refine known3_c _ _ ?_
          repeat (first | refine Br.t (congrArg (· == true) e5) ?_ | refine Br.t e5 ?_)
          exact h
        | true =>
          have e6 := less_anti hp
          repeat refine Br.t rfl ?_
          refine less_v e6 hB1 hA1 _ _ ?_
          cases r with
          | false =>
            repeat (first | refine Br.t rfl ?_ | refine Br.f rfl ?_)
            refine less_v e1 hA1 hA1 _ _ ?_
            repeat (first | refine Br.t rfl ?_ | refine Br.f rfl ?_)
            refine less_v hp hA1 hB1 _ _ ?_
            repeat (first | refine Br.t rfl ?_ | refine Br.f rfl ?_)
            refine less_v hr hB1 hC1 _ _ ?_
            repeat (first | refine Br.t rfl ?_ | refine Br.f rfl ?_)
            refine Ob.mk hx3 ?_
            repeat (first | refine Br.t rfl ?_ | refine Br.f rfl ?_)
            refine less_v e2 hA1 hx1 _ _ ?_
            repeat (first | refine Br.t rfl ?_ | refine Br.f rfl ?_)
            refine ncount_v rfl hA1 _ _ ?_
            repeat (first | refine Br.t rfl ?_ | refine Br.f rfl ?_)
            refine ncount_v kb (by decide) _ _ ?_
            repeat (first | refine Br.t rfl ?_ | refine Br.f rfl ?_)
            refine ncount_v rfl hB1 _ _ ?_
            repeat (first | refine Br.t rfl ?_ | refine Br.f rfl ?_)
            refine Ob.mk hx4 ?_
            repeat (first | refine Br.t rfl ?_ | refine Br.f rfl ?_)
            refine Ob.mk hx5 ?_
            repeat (first | refine Br.t rfl ?_ | refine Br.f rfl ?_)
            refine ncount_v rfl hx2 _ _ ?_
            repeat (first | refine Br.t rfl ?_ | refine Br.f rfl ?_)
            repeat (first | refine Br.t (congrArg (· == true) e3) ?_ | refine Br.t e3 ?_)
            refine upper_v hU hA1 _ _ ?_
            repeat (first | refine Br.t (congrArg (· == true) e3) ?_ | refine Br.t e3 ?_)
            refine upper_v e4 hUl _ _ ?_
            repeat (first | refine Br.t (congrArg (· == true) e3) ?_ | refine Br.t e3 ?_)
            refine upper_v hU hA1 _ _ ?_
            repeat (first | refine Br.t (congrArg (· == true) e3) ?_ | refine Br.t e3 ?_)
            repeat (first | refine Br.t (congrArg (· == true) e5) ?_ | refine Br.t e5 ?_)
            refine known3_c _ _ ?_
            repeat (first | refine Br.t (congrArg (· == true) e5) ?_ | refine Br.t e5 ?_)
            exact h
          | true =>
            have e7 := less_trans hp hr
            repeat (first | refine Br.t rfl ?_ | refine Br.f rfl ?_)
            refine less_v e1 hA1 hA1 _ _ ?_
            repeat (first | refine Br.t rfl ?_ | refine Br.f rfl ?_)
            refine less_v hp hA1 hB1 _ _ ?_
            repeat (first | refine Br.t rfl ?_ | refine Br.f rfl ?_)
            refine less_v hr hB1 hC1 _ _ ?_
            repeat (first | refine Br.t rfl ?_ | refine Br.f rfl ?_)
            refine less_v e7 hA1 hC1 _ _ ?_
            repeat (first | refine Br.t rfl ?_ | refine Br.f rfl ?_)
            refine Ob.mk hx3 ?_
            repeat (first | refine Br.t rfl ?_ | refine Br.f rfl ?_)
            refine less_v e2 hA1 hx1 _ _ ?_
            repeat (first | refine Br.t rfl ?_ | refine Br.f rfl ?_)
            refine ncount_v rfl hA1 _ _ ?_
            repeat (first | refine Br.t rfl ?_ | refine Br.f rfl ?_)
            refine ncount_v kb (by decide) _ _ ?_
            repeat (first | refine Br.t rfl ?_ | refine Br.f rfl ?_)
            refine ncount_v rfl hB1 _ _ ?_
            repeat (first | refine Br.t rfl ?_ | refine Br.f rfl ?_)
            refine Ob.mk hx4 ?_
            repeat (first | refine Br.t rfl ?_ | refine Br.f rfl ?_)
            refine Ob.mk hx5 ?_
            repeat (first | refine Br.t rfl ?_ | refine Br.f rfl ?_)
            refine ncount_v rfl hx2 _ _ ?_
            repeat (first | refine Br.t rfl ?_ | refine Br.f rfl ?_)
            repeat (first | refine Br.t (congrArg (· == true) e3) ?_ | refine Br.t e3 ?_)
            refine upper_v hU hA1 _ _ ?_
            repeat (first | refine Br.t (congrArg (· == true) e3) ?_ | refine Br.t e3 ?_)
            refine upper_v e4 hUl _ _ ?_
            repeat (first | refine Br.t (congrArg (· == true) e3) ?_ | refine Br.t e3 ?_)
            refine upper_v hU hA1 _ _ ?_
            repeat (first | refine Br.t (congrArg (· == true) e3) ?_ | refine Br.t e3 ?_)
            repeat (first | refine Br.t (congrArg (· == true) e5) ?_ | refine Br.t e5 ?_)
            refine known3_c _ _ ?_
            repeat (first | refine Br.t (congrArg (· == true) e5) ?_ | refine Br.t e5 ?_)
            exact h
      · skip
        have hA : ((a.take (20 : Int).toNat).drop (0 : Int).toNat).length ≤ 20 := cut_bound 20 a
        have hA1 : ((a.take (20 : Int).toNat).drop (0 : Int).toNat).length < 1099511627776 := lt40 hA (by decide)
        have hB : b.length ≤ 20 := no_cut cb
        have hB1 : b.length < 1099511627776 := lt40 hB (by decide)
        have hC : c.length ≤ 20 := no_cut cc
        have hC1 : c.length < 1099511627776 := lt40 hC (by decide)
        obtain ⟨p, hp⟩ : ∃ p, lessR ((a.take (20 : Int).toNat).drop (0 : Int).toNat) b = p := ⟨_, rfl⟩
        obtain ⟨r, hr⟩ : ∃ p, lessR b c = p := ⟨_, rfl⟩
        have e1 := less_self ((a.take (20 : Int).toNat).drop (0 : Int).toNat)
        have e2 := less_more ((a.take (20 : Int).toNat).drop (0 : Int).toNat)
        have e3 := sum3 hA hB
        have e4 := upper_upper ((a.take (20 : Int).toNat).drop (0 : Int).toNat)
        obtain ⟨U, hU⟩ : ∃ U, upper ((a.take (20 : Int).toNat).drop (0 : Int).toNat) = U := ⟨_, rfl⟩
        rw [hU] at e4
        have hUl : U.length < 1099511627776 := by have := upper_len ((a.take (20 : Int).toNat).drop (0 : Int).toNat); rw [hU] at this; omega
        have e5 : (U == U) = true := by simp
        have hx1 : (((a.take (20 : Int).toNat).drop (0 : Int).toNat) ++ [120]).length < 1099511627776 := by rw [List.length_append]; show _ + 1 < _; omega
        have hx2 : (((a.take (20 : Int).toNat).drop (0 : Int).toNat) ++ [32] ++ b).length < 1099511627776 := by simp only [List.length_append]; show _ + 1 + _ < _; omega
        have hx3 : ((a.take (20 : Int).toNat).drop (0 : Int).toNat).length + ([120] : List UInt8).length < 9223372036854775808 := by show _ + 1 < _; omega
        have hx4 : ((a.take (20 : Int).toNat).drop (0 : Int).toNat).length + ([32] : List UInt8).length < 9223372036854775808 := by show _ + 1 < _; omega
        have hx5 : (((a.take (20 : Int).toNat).drop (0 : Int).toNat) ++ [32]).length + b.length < 9223372036854775808 := by rw [List.length_append]; show _ + 1 + _ < _; omega
        refine less_v hp hA1 hB1 _ _ ?_
        cases p with
        | false =>
          repeat (first | refine Br.t rfl ?_ | refine Br.f rfl ?_)
          refine less_v e1 hA1 hA1 _ _ ?_
          repeat (first | refine Br.t rfl ?_ | refine Br.f rfl ?_)
          refine less_v hp hA1 hB1 _ _ ?_
          repeat (first | refine Br.t rfl ?_ | refine Br.f rfl ?_)
          refine Ob.mk hx3 ?_
          repeat (first | refine Br.t rfl ?_ | refine Br.f rfl ?_)
          refine less_v e2 hA1 hx1 _ _ ?_
          repeat (first | refine Br.t rfl ?_ | refine Br.f rfl ?_)
          refine ncount_v rfl hA1 _ _ ?_
          repeat (first | refine Br.t rfl ?_ | refine Br.f rfl ?_)
          refine ncount_v kb (by decide) _ _ ?_
          repeat (first | refine Br.t rfl ?_ | refine Br.f rfl ?_)
          refine ncount_v rfl hB1 _ _ ?_
          repeat (first | refine Br.t rfl ?_ | refine Br.f rfl ?_)
          refine Ob.mk hx4 ?_
          repeat (first | refine Br.t rfl ?_ | refine Br.f rfl ?_)
          refine Ob.mk hx5 ?_
          repeat (first | refine Br.t rfl ?_ | refine Br.f rfl ?_)
          refine ncount_v rfl hx2 _ _ ?_
          repeat (first | refine Br.t rfl ?_ | refine Br.f rfl ?_)
          repeat (first | refine Br.t (congrArg (· == true) e3) ?_ | refine Br.t e3 ?_)
          refine upper_v hU hA1 _ _ ?_
          repeat (first | refine Br.t (congrArg (· == true) e3) ?_ | refine Br.t e3 ?_)
          refine upper_v e4 hUl _ _ ?_
          repeat (first | refine Br.t (congrArg (· == true) e3) ?_ | refine Br.t e3 ?_)
          refine upper_v hU hA1 _ _ ?_
          repeat (first | refine Br.t (congrArg (· == true) e3) ?_ | refine Br.t e3 ?_)
          repeat (first | refine Br.t (congrArg (· == true) e5) ?_ | refine Br.t e5 ?_)
          refine known3_c _ _ ?_
          repeat (first | refine Br.t (congrArg (· == true) e5) ?_ | refine Br.t e5 ?_)
          exact h
        | true =>
          have e6 := less_anti hp
          repeat refine Br.t rfl ?_
          refine less_v e6 hB1 hA1 _ _ ?_
          cases r with
          | false =>
            repeat (first | refine Br.t rfl ?_ | refine Br.f rfl ?_)
            refine less_v e1 hA1 hA1 _ _ ?_
            repeat (first | refine Br.t rfl ?_ | refine Br.f rfl ?_)
            refine less_v hp hA1 hB1 _ _ ?_
            repeat (first | refine Br.t rfl ?_ | refine Br.f rfl ?_)
            refine less_v hr hB1 hC1 _ _ ?_
            repeat (first | refine Br.t rfl ?_ | refine Br.f rfl ?_)
            refine Ob.mk hx3 ?_
            repeat (first | refine Br.t rfl ?_ | refine Br.f rfl ?_)
            refine less_v e2 hA1 hx1 _ _ ?_
            repeat (first | refine Br.t rfl ?_ | refine Br.f rfl ?_)
            refine ncount_v rfl hA1 _ _ ?_
            repeat (first | refine Br.t rfl ?_ | refine Br.f rfl ?_)
            refine ncount_v kb (by decide) _ _ ?_
            repeat (first | refine Br.t rfl ?_ | refine Br.f rfl ?_)
            refine ncount_v rfl hB1 _ _ ?_
            repeat (first | refine Br.t rfl ?_ | refine Br.f rfl ?_)
            refine Ob.mk hx4 ?_
            repeat (first | refine Br.t rfl ?_ | refine Br.f rfl ?_)
            refine Ob.mk hx5 ?_
            repeat (first | refine Br.t rfl ?_ | refine Br.f rfl ?_)
            refine ncount_v rfl hx2 _ _ ?_
            repeat (first | refine Br.t rfl ?_ | refine Br.f rfl ?_)
            repeat (first | refine Br.t (congrArg (· == true) e3) ?_ | refine Br.t e3 ?_)
            refine upper_v hU hA1 _ _ ?_
            repeat (first | refine Br.t (congrArg (· == true) e3) ?_ | refine Br.t e3 ?_)
            refine upper_v e4 hUl _ _ ?_
            repeat (first | refine Br.t (congrArg (· == true) e3) ?_ | refine Br.t e3 ?_)
            refine upper_v hU hA1 _ _ ?_
            repeat (first | refine Br.t (congrArg (· == true) e3) ?_ | refine Br.t e3 ?_)
            repeat (first | refine Br.t (congrArg (· == true) e5) ?_ | refine Br.t e5 ?_)
            refine known3_c _ _ ?_
            repeat (first | refine Br.t (congrArg (· == true) e5) ?_ | refine Br.t e5 ?_)
            exact h
          | true =>
            have e7 := less_trans hp hr
            repeat (first | refine Br.t rfl ?_ | refine Br.f rfl ?_)
            refine less_v e1 hA1 hA1 _ _ ?_
            repeat (first | refine Br.t rfl ?_ | refine Br.f rfl ?_)
            refine less_v hp hA1 hB1 _ _ ?_
            repeat (first | refine Br.t rfl ?_ | refine Br.f rfl ?_)
            refine less_v hr hB1 hC1 _ _ ?_
            repeat (first | refine Br.t rfl ?_ | refine Br.f rfl ?_)
            refine less_v e7 hA1 hC1 _ _ ?_
            repeat (first | refine Br.t rfl ?_ | refine Br.f rfl ?_)
            refine Ob.mk hx3 ?_
            repeat (first | refine Br.t rfl ?_ | refine Br.f rfl ?_)
            refine less_v e2 hA1 hx1 _ _ ?_
            repeat (first | refine Br.t rfl ?_ | refine Br.f rfl ?_)
            refine ncount_v rfl hA1 _ _ ?_
            repeat (first | refine Br.t rfl ?_ | refine Br.f rfl ?_)
            refine ncount_v kb (by decide) _ _ ?_
            repeat (first | refine Br.t rfl ?_ | refine Br.f rfl ?_)
            refine ncount_v rfl hB1 _ _ ?_
            repeat (first | refine Br.t rfl ?_ | refine Br.f rfl ?_)
            refine Ob.mk hx4 ?_
            repeat (first | refine Br.t rfl ?_ | refine Br.f rfl ?_)
            refine Ob.mk hx5 ?_
            repeat (first | refine Br.t rfl ?_ | refine Br.f rfl ?_)
            refine ncount_v rfl hx2 _ _ ?_
            repeat (first | refine Br.t rfl ?_ | refine Br.f rfl ?_)
            repeat (first | refine Br.t (congrArg (· == true) e3) ?_ | refine Br.t e3 ?_)
            refine upper_v hU hA1 _ _ ?_
            repeat (first | refine Br.t (congrArg (· == true) e3) ?_ | refine Br.t e3 ?_)
            refine upper_v e4 hUl _ _ ?_
            repeat (first | refine Br.t (congrArg (· == true) e3) ?_ | refine Br.t e3 ?_)
            refine upper_v hU hA1 _ _ ?_
            repeat (first | refine Br.t (congrArg (· == true) e3) ?_ | refine Br.t e3 ?_)
            repeat (first | refine Br.t (congrArg (· == true) e5) ?_ | refine Br.t e5 ?_)
            refine known3_c _ _ ?_
            repeat (first | refine Br.t (congrArg (· == true) e5) ?_ | refine Br.t e5 ?_)
            exact h
  · skip
    refine Br.mk (fun cb => ?_) (fun cb => ?_)
    · refine Ob.mk (len_cut 20 b (by decide) cb) ?_
      refine Br.mk (fun cc => ?_) (fun cc => ?_)
      · refine Ob.mk (len_cut 20 c (by decide) cc) ?_
        have hA : a.length ≤ 20 := no_cut ca
        have hA1 : a.length < 1099511627776 := lt40 hA (by decide)
        have hB : ((b.take (20 : Int).toNat).drop (0 : Int).toNat).length ≤ 20 := cut_bound 20 b
        have hB1 : ((b.take (20 : Int).toNat).drop (0 : Int).toNat).length < 1099511627776 := lt40 hB (by decide)
        have hC : ((c.take (20 : Int).toNat).drop (0 : Int).toNat).length ≤ 20 := cut_bound 20 c
        have hC1 : ((c.take (20 : Int).toNat).drop (0 : Int).toNat).length < 1099511627776 := lt40 hC (by decide)
        obtain ⟨p, hp⟩ : ∃ p, lessR a ((b.take (20 : Int).toNat).drop (0 : Int).toNat) = p := ⟨_, rfl⟩
        obtain ⟨r, hr⟩ : ∃ p, lessR ((b.take (20 : Int).toNat).drop (0 : Int).toNat) ((c.take (20 : Int).toNat).drop (0 : Int).toNat) = p := ⟨_, rfl⟩
        have e1 := less_self a
        have e2 := less_more a
        have e3 := sum3 hA hB
        have e4 := upper_upper a
        obtain ⟨U, hU⟩ : ∃ U, upper a = U := ⟨_, rfl⟩
        rw [hU] at e4
        have hUl : U.length < 1099511627776 := by have := upper_len a; rw [hU] at this; omega
        have e5 : (U == U) = true := by simp
        have hx1 : (a ++ [120]).length < 1099511627776 := by rw [List.length_append]; show _ + 1 < _; omega
        have hx2 : (a ++ [32] ++ ((b.take (20 : Int).toNat).drop (0 : Int).toNat)).length < 1099511627776 := by simp only [List.length_append]; show _ + 1 + _ < _; omega
        have hx3 : a.length + ([120] : List UInt8).length < 9223372036854775808 := by show _ + 1 < _; omega
        have hx4 : a.length + ([32] : List UInt8).length < 9223372036854775808 := by show _ + 1 < _; omega
        have hx5 : (a ++ [32]).length + ((b.take (20 : Int).toNat).drop (0 : Int).toNat).length < 9223372036854775808 := by rw [List.length_append]; show _ + 1 + _ < _; omega
        refine less_v hp hA1 hB1 _ _ ?_
        cases p with
        | false =>
          repeat (first | refine Br.t rfl ?_ | refine Br.f rfl ?_)
          refine less_v e1 hA1 hA1 _ _ ?_
          repeat (first | refine Br.t rfl ?_ | refine Br.f rfl ?_)
          refine less_v hp hA1 hB1 _ _ ?_
          repeat (first | refine Br.t rfl ?_ | refine Br.f rfl ?_)
          refine Ob.mk hx3 ?_
          repeat (first | refine Br.t rfl ?_ | refine Br.f rfl ?_)
          refine less_v e2 hA1 hx1 _ _ ?_
          repeat (first | refine Br.t rfl ?_ | refine Br.f rfl ?_)
          refine ncount_v rfl hA1 _ _ ?_
          repeat (first | refine Br.t rfl ?_ | refine Br.f rfl ?_)
          refine ncount_v kb (by decide) _ _ ?_
          repeat (first | refine Br.t rfl ?_ | refine Br.f rfl ?_)
          refine ncount_v rfl hB1 _ _ ?_
          repeat (first | refine Br.t rfl ?_ | refine Br.f rfl ?_)
          refine Ob.mk hx4 ?_
          repeat (first | refine Br.t rfl ?_ | refine Br.f rfl ?_)
          refine Ob.mk hx5 ?_
          repeat (first | refine Br.t rfl ?_ | refine Br.f rfl ?_)
          refine ncount_v rfl hx2 _ _ ?_
          repeat (first | refine Br.t rfl ?_ | refine Br.f rfl ?_)
          repeat (first | refine Br.t (congrArg (· == true) e3) ?_ | refine Br.t e3 ?_)
          refine upper_v hU hA1 _ _ ?_
          repeat (first | refine Br.t (congrArg (· == true) e3) ?_ | refine Br.t e3 ?_)
          refine upper_v e4 hUl _ _ ?_
          repeat (first | refine Br.t (congrArg (· == true) e3) ?_ | refine Br.t e3 ?_)
          refine upper_v hU hA1 _ _ ?_
          repeat (first | refine Br.t (congrArg (· == true) e3) ?_ | refine Br.t e3 ?_)
          repeat (first | refine Br.t (congrArg (· == true) e5) ?_ | refine Br.t e5 ?_)
          refine known3_c _ _ ?_
          repeat (first | refine Br.t (congrArg (· == true) e5) ?_ | refine Br.t e5 ?_)
          exact h
        | true =>
          have e6 := less_anti hp
          repeat refine Br.t rfl ?_
          refine less_v e6 hB1 hA1 _ _ ?_
          cases r with
          | false =>
            repeat (first | refine Br.t rfl ?_ | refine Br.f rfl ?_)
            refine less_v e1 hA1 hA1 _ _ ?_
            repeat (first | refine Br.t rfl ?_ | refine Br.f rfl ?_)
            refine less_v hp hA1 hB1 _ _ ?_
            repeat (first | refine Br.t rfl ?_ | refine Br.f rfl ?_)
            refine less_v hr hB1 hC1 _ _ ?_
            repeat (first | refine Br.t rfl ?_ | refine Br.f rfl ?_)
            refine Ob.mk hx3 ?_
            repeat (first | refine Br.t rfl ?_ | refine Br.f rfl ?_)
            refine less_v e2 hA1 hx1 _ _ ?_
            repeat (first | refine Br.t rfl ?_ | refine Br.f rfl ?_)
            refine ncount_v rfl hA1 _ _ ?_
            repeat (first | refine Br.t rfl ?_ | refine Br.f rfl ?_)
            refine ncount_v kb (by decide) _ _ ?_
            repeat (first | refine Br.t rfl ?_ | refine Br.f rfl ?_)
            refine ncount_v rfl hB1 _ _ ?_
            repeat (first | refine Br.t rfl ?_ | refine Br.f rfl ?_)
            refine Ob.mk hx4 ?_
            repeat (first | refine Br.t rfl ?_ | refine Br.f rfl ?_)
            refine Ob.mk hx5 ?_
            repeat (first | refine Br.t rfl ?_ | refine Br.f rfl ?_)
            refine ncount_v rfl hx2 _ _ ?_
            repeat (first | refine Br.t rfl ?_ | refine Br.f rfl ?_)
            repeat (first | refine Br.t (congrArg (· == true) e3) ?_ | refine Br.t e3 ?_)
            refine upper_v hU hA1 _ _ ?_
            repeat (first | refine Br.t (congrArg (· == true) e3) ?_ | refine Br.t e3 ?_)
            refine upper_v e4 hUl _ _ ?_
            repeat (first | refine Br.t (congrArg (· == true) e3) ?_ | refine Br.t e3 ?_)
            refine upper_v hU hA1 _ _ ?_
            repeat (first | refine Br.t (congrArg (· == true) e3) ?_ | refine Br.t e3 ?_)
            repeat (first | refine Br.t (congrArg (· == true) e5) ?_ | refine Br.t e5 ?_)
            refine known3_c _ _ ?_
            repeat (first | refine Br.t (congrArg (· == true) e5) ?_ | refine Br.t e5 ?_)
            exact h
          | true =>
            have e7 := less_trans hp hr
            repeat (first | refine Br.t rfl ?_ | refine Br.f rfl ?_)
            refine less_v e1 hA1 hA1 _ _ ?_
            repeat (first | refine Br.t rfl ?_ | refine Br.f rfl ?_)
            refine less_v hp hA1 hB1 _ _ ?_
            repeat (first | refine Br.t rfl ?_ | refine Br.f rfl ?_)
            refine less_v hr hB1 hC1 _ _ ?_
            repeat (first | refine Br.t rfl ?_ | refine Br.f rfl ?_)
            refine less_v e7 hA1 hC1 _ _ ?_
            repeat (first | refine Br.t rfl ?_ | refine Br.f rfl ?_)
            refine Ob.mk hx3 ?_
            repeat (first | refine Br.t rfl ?_ | refine Br.f rfl ?_)
            refine less_v e2 hA1 hx1 _ _ ?_
            repeat (first | refine Br.t rfl ?_ | refine Br.f rfl ?_)
            refine ncount_v rfl hA1 _ _ ?_
            repeat (first | refine Br.t rfl ?_ | refine Br.f rfl ?_)
            refine ncount_v kb (by decide) _ _ ?_
            repeat (first | refine Br.t rfl ?_ | refine Br.f rfl ?_)
            refine ncount_v rfl hB1 _ _ ?_
            repeat (first | refine Br.t rfl ?_ | refine Br.f rfl ?_)
            refine Ob.mk hx4 ?_
            repeat (first | refine Br.t rfl ?_ | refine Br.f rfl ?_)
            refine Ob.mk hx5 ?_
            repeat (first | refine Br.t rfl ?_ | refine Br.f rfl ?_)
            refine ncount_v rfl hx2 _ _ ?_
            repeat (first | refine Br.t rfl ?_ | refine Br.f rfl ?_)
            repeat (first | refine Br.t (congrArg (· == true) e3) ?_ | refine Br.t e3 ?_)
            refine upper_v hU hA1 _ _ ?_
            repeat (first | refine Br.t (congrArg (· == true) e3) ?_ | refine Br.t e3 ?_)
            refine upper_v e4 hUl _ _ ?_
            repeat (first | refine Br.t (congrArg (· == true) e3) ?_ | refine Br.t e3 ?_)
            refine upper_v hU hA1 _ _ ?_
            repeat (first | refine Br.t (congrArg (· == true) e3) ?_ | refine Br.t e3 ?_)
            repeat (first | refine Br.t (congrArg (· == true) e5) ?_ | refine Br.t e5 ?_)
            refine known3_c _ _ ?_
            repeat (first | refine Br.t (congrArg (· == true) e5) ?_ | refine Br.t e5 ?_)
            exact h
      · skip
        have hA : a.length ≤ 20 := no_cut ca
        have hA1 : a.length < 1099511627776 := lt40 hA (by decide)
        have hB : ((b.take (20 : Int).toNat).drop (0 : Int).toNat).length ≤ 20 := cut_bound 20 b
        have hB1 : ((b.take (20 : Int).toNat).drop (0 : Int).toNat).length < 1099511627776 := lt40 hB (by decide)
        have hC : c.length ≤ 20 := no_cut cc
        have hC1 : c.length < 1099511627776 := lt40 hC (by decide)
        obtain ⟨p, hp⟩ : ∃ p, lessR a ((b.take (20 : Int).toNat).drop (0 : Int).toNat) = p := ⟨_, rfl⟩
        obtain ⟨r, hr⟩ : ∃ p, lessR ((b.take (20 : Int).toNat).drop (0 : Int).toNat) c = p := ⟨_, rfl⟩
        have e1 := less_self a
        have e2 := less_more a
        have e3 := sum3 hA hB
        have e4 := upper_upper a
        obtain ⟨U, hU⟩ : ∃ U, upper a = U := ⟨_, rfl⟩
        rw [hU] at e4
        have hUl : U.length < 1099511627776 := by have := upper_len a; rw [hU] at this; omega
        have e5 : (U == U) = true := by simp
        have hx1 : (a ++ [120]).length < 1099511627776 := by rw [List.length_append]; show _ + 1 < _; omega
        have hx2 : (a ++ [32] ++ ((b.take (20 : Int).toNat).drop (0 : Int).toNat)).length < 1099511627776 := by simp only [List.length_append]; show _ + 1 + _ < _; omega
        have hx3 : a.length + ([120] : List UInt8).length < 9223372036854775808 := by show _ + 1 < _; omega
        have hx4 : a.length + ([32] : List UInt8).length < 9223372036854775808 := by show _ + 1 < _; omega
        have hx5 : (a ++ [32]).length + ((b.take (20 : Int).toNat).drop (0 : Int).toNat).length < 9223372036854775808 := by rw [List.length_append]; show _ + 1 + _ < _; omega
        refine less_v hp hA1 hB1 _ _ ?_
        cases p with
        | false =>
          repeat (first | refine Br.t rfl ?_ | refine Br.f rfl ?_)
          refine less_v e1 hA1 hA1 _ _ ?_
          repeat (first | refine Br.t rfl ?_ | refine Br.f rfl ?_)
          refine less_v hp hA1 hB1 _ _ ?_
          repeat (first | refine Br.t rfl ?_ | refine Br.f rfl ?_)
          refine Ob.mk hx3 ?_
          repeat (first | refine Br.t rfl ?_ | refine Br.f rfl ?_)
          refine less_v e2 hA1 hx1 _ _ ?_
          repeat (first | refine Br.t rfl ?_ | refine Br.f rfl ?_)
          refine ncount_v rfl hA1 _ _ ?_
          repeat (first | refine Br.t rfl ?_ | refine Br.f rfl ?_)
          refine ncount_v kb (by decide) _ _ ?_
          repeat (first | refine Br.t rfl ?_ | refine Br.f rfl ?_)
          refine ncount_v rfl hB1 _ _ ?_
          repeat (first | refine Br.t rfl ?_ | refine Br.f rfl ?_)
          refine Ob.mk hx4 ?_
          repeat (first | refine Br.t rfl ?_ | refine Br.f rfl ?_)
          refine Ob.mk hx5 ?_
          repeat (first | refine Br.t rfl ?_ | refine Br.f rfl ?_)
          refine ncount_v rfl hx2 _ _ ?_
          repeat (first | refine Br.t rfl ?_ | refine Br.f rfl ?_)
          repeat (first | refine Br.t (congrArg (· == true) e3) ?_ | refine Br.t e3 ?_)
          refine upper_v hU hA1 _ _ ?_
          repeat (first | refine Br.t (congrArg (· == true) e3) ?_ | refine Br.t e3 ?_)
          refine upper_v e4 hUl _ _ ?_
          repeat (first | refine Br.t (congrArg (· == true) e3) ?_ | refine Br.t e3 ?_)
          refine upper_v hU hA1 _ _ ?_
          repeat (first | refine Br.t (congrArg (· == true) e3) ?_ | refine Br.t e3 ?_)
          repeat (first | refine Br.t (congrArg (· == true) e5) ?_ | refine Br.t e5 ?_)
          refine known3_c _ _ ?_
          repeat (first | refine Br.t (congrArg (· == true) e5) ?_ | refine Br.t e5 ?_)
          exact h
        | true =>
          have e6 := less_anti hp
          repeat refine Br.t rfl ?_
          refine less_v e6 hB1 hA1 _ _ ?_
          cases r with
          | false =>
            repeat (first | refine Br.t rfl ?_ | refine Br.f rfl ?_)
            refine less_v e1 hA1 hA1 _ _ ?_
            repeat (first | refine Br.t rfl ?_ | refine Br.f rfl ?_)
            refine less_v hp hA1 hB1 _ _ ?_
            repeat (first | refine Br.t rfl ?_ | refine Br.f rfl ?_)
            refine less_v hr hB1 hC1 _ _ ?_
            repeat (first | refine Br.t rfl ?_ | refine Br.f rfl ?_)
            refine Ob.mk hx3 ?_
            repeat (first | refine Br.t rfl ?_ | refine Br.f rfl ?_)
            refine less_v e2 hA1 hx1 _ _ ?_
            repeat (first | refine Br.t rfl ?_ | refine Br.f rfl ?_)
            refine ncount_v rfl hA1 _ _ ?_
            repeat (first | refine Br.t rfl ?_ | refine Br.f rfl ?_)
            refine ncount_v kb (by decide) _ _ ?_
            repeat (first | refine Br.t rfl ?_ | refine Br.f rfl ?_)
            refine ncount_v rfl hB1 _ _ ?_
            repeat (first | refine Br.t rfl ?_ | refine Br.f rfl ?_)
            refine Ob.mk hx4 ?_
            repeat (first | refine Br.t rfl ?_ | refine Br.f rfl ?_)
            refine Ob.mk hx5 ?_
            repeat (first | refine Br.t rfl ?_ | refine Br.f rfl ?_)
            refine ncount_v rfl hx2 _ _ ?_
            repeat (first | refine Br.t rfl ?_ | refine Br.f rfl ?_)
            repeat (first | refine Br.t (congrArg (· == true) e3) ?_ | refine Br.t e3 ?_)
            refine upper_v hU hA1 _ _ ?_
            repeat (first | refine Br.t (congrArg (· == true) e3) ?_ | refine Br.t e3 ?_)
            refine upper_v e4 hUl _ _ ?_
            repeat (first | refine Br.t (congrArg (· == true) e3) ?_ | refine Br.t e3 ?_)
            refine upper_v hU hA1 _ _ ?_
            repeat (first | refine Br.t (congrArg (· == true) e3) ?_ | refine Br.t e3 ?_)
            repeat (first | refine Br.t (congrArg (· == true) e5) ?_ | refine Br.t e5 ?_)
            refine known3_c _ _ ?_
            repeat (first | refine Br.t (congrArg (· == true) e5) ?_ | refine Br.t e5 ?_)
            exact h
          | true =>
            have e7 := less_trans hp hr
            repeat (first | refine Br.t rfl ?_ | refine Br.f rfl ?_)
            refine less_v e1 hA1 hA1 _ _ ?_
            repeat (first | refine Br.t rfl ?_ | refine Br.f rfl ?_)
            refine less_v hp hA1 hB1 _ _ ?_
            repeat (first | refine Br.t rfl ?_ | refine Br.f rfl ?_)
            refine less_v hr hB1 hC1 _ _ ?_
            repeat (first | refine Br.t rfl ?_ | refine Br.f rfl ?_)
            refine less_v e7 hA1 hC1 _ _ ?_
            repeat (first | refine Br.t rfl ?_ | refine Br.f rfl ?_)
            refine Ob.mk hx3 ?_
            repeat (first | refine Br.t rfl ?_ | refine Br.f rfl ?_)
            refine less_v e2 hA1 hx1 _ _ ?_
            repeat (first | refine Br.t rfl ?_ | refine Br.f rfl ?_)
            refine ncount_v rfl hA1 _ _ ?_
            repeat (first | refine Br.t rfl ?_ | refine Br.f rfl ?_)
            refine ncount_v kb (by decide) _ _ ?_
            repeat (first | refine Br.t rfl ?_ | refine Br.f rfl ?_)
            refine ncount_v rfl hB1 _ _ ?_
            repeat (first | refine Br.t rfl ?_ | refine Br.f rfl ?_)
            refine Ob.mk hx4 ?_
            repeat (first | refine Br.t rfl ?_ | refine Br.f rfl ?_)
            refine Ob.mk hx5 ?_
            repeat (first | refine Br.t rfl ?_ | refine Br.f rfl ?_)
            refine ncount_v rfl hx2 _ _ ?_
            repeat (first | refine Br.t rfl ?_ | refine Br.f rfl ?_)
            repeat (first | refine Br.t (congrArg (· == true) e3) ?_ | refine Br.t e3 ?_)
            refine upper_v hU hA1 _ _ ?_
            repeat (first | refine Br.t (congrArg (· == true) e3) ?_ | refine Br.t e3 ?_)
            refine upper_v e4 hUl _ _ ?_
            repeat (first | refine Br.t (congrArg (· == true) e3) ?_ | refine Br.t e3 ?_)
            refine upper_v hU hA1 _ _ ?_
            repeat (first | refine Br.t (congrArg (· == true) e3) ?_ | refine Br.t e3 ?_)
            repeat (first | refine Br.t (congrArg (· == true) e5) ?_ | refine Br.t e5 ?_)
            refine known3_c _ _ ?_
            repeat (first | refine Br.t (congrArg (· == true) e5) ?_ | refine Br.t e5 ?_)
            exact h
    · skip
      refine Br.mk (fun cc => ?_) (fun cc => ?_)
      · refine Ob.mk (len_cut 20 c (by decide) cc) ?_
        have hA : a.length ≤ 20 := no_cut ca
        have hA1 : a.length < 1099511627776 := lt40 hA (by decide)
        have hB : b.length ≤ 20 := no_cut cb
        have hB1 : b.length < 1099511627776 := lt40 hB (by decide)
        have hC : ((c.take (20 : Int).toNat).drop (0 : Int).toNat).length ≤ 20 := cut_bound 20 c
        have hC1 : ((c.take (20 : Int).toNat).drop (0 : Int).toNat).length < 1099511627776 := lt40 hC (by decide)
        obtain ⟨p, hp⟩ : ∃ p, lessR a b = p := ⟨_, rfl⟩
        obtain ⟨r, hr⟩ : ∃ p, lessR b ((c.take (20 : Int).toNat).drop (0 : Int).toNat) = p := ⟨_, rfl⟩
        have e1 := less_self a
        have e2 := less_more a
        have e3 := sum3 hA hB
        have e4 := upper_upper a
        obtain ⟨U, hU⟩ : ∃ U, upper a = U := ⟨_, rfl⟩
        rw [hU] at e4
        have hUl : U.length < 1099511627776 := by have := upper_len a; rw [hU] at this; omega
        have e5 : (U == U) = true := by simp
        have hx1 : (a ++ [120]).length < 1099511627776 := by rw [List.length_append]; show _ + 1 < _; omega
        have hx2 : (a ++ [32] ++ b).length < 1099511627776 := by simp only [List.length_append]; show _ + 1 + _ < _; omega
        have hx3 : a.length + ([120] : List UInt8).length < 9223372036854775808 := by show _ + 1 < _; omega
        have hx4 : a.length + ([32] : List UInt8).length < 9223372036854775808 := by show _ + 1 < _; omega
        have hx5 : (a ++ [32]).length + b.length < 9223372036854775808 := by rw [List.length_append]; show _ + 1 + _ < _; omega
        refine less_v hp hA1 hB1 _ _ ?_
        cases p with
        | false =>
          repeat (first | refine Br.t rfl ?_ | refine Br.f rfl ?_)
          refine less_v e1 hA1 hA1 _ _ ?_
          repeat (first | refine Br.t rfl ?_ | refine Br.f rfl ?_)
          refine less_v hp hA1 hB1 _ _ ?_
          repeat (first | refine Br.t rfl ?_ | refine Br.f rfl ?_)
          refine Ob.mk hx3 ?_
          repeat (first | refine Br.t rfl ?_ | refine Br.f rfl ?_)
          refine less_v e2 hA1 hx1 _ _ ?_
          repeat (first | refine Br.t rfl ?_ | refine Br.f rfl ?_)
          refine ncount_v rfl hA1 _ _ ?_
          repeat (first | refine Br.t rfl ?_ | refine Br.f rfl ?_)
          refine ncount_v kb (by decide) _ _ ?_
          repeat (first | refine Br.t rfl ?_ | refine Br.f rfl ?_)
          refine ncount_v rfl hB1 _ _ ?_
          repeat (first | refine Br.t rfl ?_ | refine Br.f rfl ?_)
          refine Ob.mk hx4 ?_
          repeat (first | refine Br.t rfl ?_ | refine Br.f rfl ?_)
          refine Ob.mk hx5 ?_
          repeat (first | refine Br.t rfl ?_ | refine Br.f rfl ?_)
          refine ncount_v rfl hx2 _ _ ?_
          repeat (first | refine Br.t rfl ?_ | refine Br.f rfl ?_)
          repeat (first | refine Br.t (congrArg (· == true) e3) ?_ | refine Br.t e3 ?_)
          refine upper_v hU hA1 _ _ ?_
          repeat (first | refine Br.t (congrArg (· == true) e3) ?_ | refine Br.t e3 ?_)
          refine upper_v e4 hUl _ _ ?_
          repeat (first | refine Br.t (congrArg (· == true) e3) ?_ | refine Br.t e3 ?_)
          refine upper_v hU hA1 _ _ ?_
          repeat (first | refine Br.t (congrArg (· == true) e3) ?_ | refine Br.t e3 ?_)
          repeat (first | refine Br.t (congrArg (· == true) e5) ?_ | refine Br.t e5 ?_)
          refine known3_c _ _ ?_
          repeat (first | refine Br.t (congrArg (· == true) e5) ?_ | refine Br.t e5 ?_)
          exact h
        | true =>
          have e6 := less_anti hp
          repeat refine Br.t rfl ?_
          refine less_v e6 hB1 hA1 _ _ ?_
          cases r with
          | false =>
            repeat (first | refine Br.t rfl ?_ | refine Br.f rfl ?_)
            refine less_v e1 hA1 hA1 _ _ ?_
            repeat (first | refine Br.t rfl ?_ | refine Br.f rfl ?_)
            refine less_v hp hA1 hB1 _ _ ?_
            repeat (first | refine Br.t rfl ?_ | refine Br.f rfl ?_)
            refine less_v hr hB1 hC1 _ _ ?_
            repeat (first | refine Br.t rfl ?_ | refine Br.f rfl ?_)
            refine Ob.mk hx3 ?_
            repeat (first | refine Br.t rfl ?_ | refine Br.f rfl ?_)
            refine less_v e2 hA1 hx1 _ _ ?_
            repeat (first | refine Br.t rfl ?_ | refine Br.f rfl ?_)
            refine ncount_v rfl hA1 _ _ ?_
            repeat (first | refine Br.t rfl ?_ | refine Br.f rfl ?_)
            refine ncount_v kb (by decide) _ _ ?_
            repeat (first | refine Br.t rfl ?_ | refine Br.f rfl ?_)
            refine ncount_v rfl hB1 _ _ ?_
            repeat (first | refine Br.t rfl ?_ | refine Br.f rfl ?_)
            refine Ob.mk hx4 ?_
            repeat (first | refine Br.t rfl ?_ | refine Br.f rfl ?_)
            refine Ob.mk hx5 ?_
            repeat (first | refine Br.t rfl ?_ | refine Br.f rfl ?_)
            refine ncount_v rfl hx2 _ _ ?_
            repeat (first | refine Br.t rfl ?_ | refine Br.f rfl ?_)
            repeat (first | refine Br.t (congrArg (· == true) e3) ?_ | refine Br.t e3 ?_)
            refine upper_v hU hA1 _ _ ?_
            repeat (first | refine Br.t (congrArg (· == true) e3) ?_ | refine Br.t e3 ?_)
            refine upper_v e4 hUl _ _ ?_
            repeat (first | refine Br.t (congrArg (· == true) e3) ?_ | refine Br.t e3 ?_)
            refine upper_v hU hA1 _ _ ?_
            repeat (first | refine Br.t (congrArg (· == true) e3) ?_ | refine Br.t e3 ?_)
            repeat (first | refine Br.t (congrArg (· == true) e5) ?_ | refine Br.t e5 ?_)
            refine known3_c _ _ ?_
            repeat (first | refine Br.t (congrArg (· == true) e5) ?_ | refine Br.t e5 ?_)
            exact h
          | true =>
            have e7 := less_trans hp hr
            repeat (first | refine Br.t rfl ?_ | refine Br.f rfl ?_)
            refine less_v e1 hA1 hA1 _ _ ?_
            repeat (first | refine Br.t rfl ?_ | refine Br.f rfl ?_)
            refine less_v hp hA1 hB1 _ _ ?_
            repeat (first | refine Br.t rfl ?_ | refine Br.f rfl ?_)
            refine less_v hr hB1 hC1 _ _ ?_
            repeat (first | refine Br.t rfl ?_ | refine Br.f rfl ?_)
            refine less_v e7 hA1 hC1 _ _ ?_
            repeat (first | refine Br.t rfl ?_ | refine Br.f rfl ?_)
            refine Ob.mk hx3 ?_
            repeat (first | refine Br.t rfl ?_ | refine Br.f rfl ?_)
            refine less_v e2 hA1 hx1 _ _ ?_
            repeat (first | refine Br.t rfl ?_ | refine Br.f rfl ?_)
            refine ncount_v rfl hA1 _ _ ?_
            repeat (first | refine Br.t rfl ?_ | refine Br.f rfl ?_)
            refine ncount_v kb (by decide) _ _ ?_
            repeat (first | refine Br.t rfl ?_ | refine Br.f rfl ?_)
            refine ncount_v rfl hB1 _ _ ?_
            repeat (first | refine Br.t rfl ?_ | refine Br.f rfl ?_)
            refine Ob.mk hx4 ?_
            repeat (first | refine Br.t rfl ?_ | refine Br.f rfl ?_)
            refine Ob.mk hx5 ?_
            repeat (first | refine Br.t rfl ?_ | refine Br.f rfl ?_)
            refine ncount_v rfl hx2 _ _ ?_
            repeat (first | refine Br.t rfl ?_ | refine Br.f rfl ?_)
            repeat (first | refine Br.t (congrArg (· == true) e3) ?_ | refine Br.t e3 ?_)
            refine upper_v hU hA1 _ _ ?_
            repeat (first | refine Br.t (congrArg (· == true) e3) ?_ | refine Br.t e3 ?_)
            refine upper_v e4 hUl _ _ ?_
            repeat (first | refine Br.t (congrArg (· == true) e3) ?_ | refine Br.t e3 ?_)
            refine upper_v hU hA1 _ _ ?_
            repeat (first | refine Br.t (congrArg (· == true) e3) ?_ | refine Br.t e3 ?_)
            repeat (first | refine Br.t (congrArg (· == true) e5) ?_ | refine Br.t e5 ?_)
            refine known3_c _ _ ?_
            repeat (first | refine Br.t (congrArg (· == true) e5) ?_ | refine Br.t e5 ?_)
            exact h
      · skip
        have hA : a.length ≤ 20 := no_cut ca
        have hA1 : a.length < 1099511627776 := lt40 hA (by decide)
        have hB : b.length ≤ 20 := no_cut cb
        have hB1 : b.length < 1099511627776 := lt40 hB (by decide)
        have hC : c.length ≤ 20 := no_cut cc
        have hC1 : c.length < 1099511627776 := lt40 hC (by decide)
        obtain ⟨p, hp⟩ : ∃ p, lessR a b = p := ⟨_, rfl⟩
        obtain ⟨r, hr⟩ : ∃ p, lessR b c = p := ⟨_, rfl⟩
        have e1 := less_self a
        have e2 := less_more a
        have e3 := sum3 hA hB
        have e4 := upper_upper a
        obtain ⟨U, hU⟩ : ∃ U, upper a = U := ⟨_, rfl⟩
        rw [hU] at e4
        have hUl : U.length < 1099511627776 := by have := upper_len a; rw [hU] at this; omega
        have e5 : (U == U) = true := by simp
        have hx1 : (a ++ [120]).length < 1099511627776 := by rw [List.length_append]; show _ + 1 < _; omega
        have hx2 : (a ++ [32] ++ b).length < 1099511627776 := by simp only [List.length_append]; show _ + 1 + _ < _; omega
        have hx3 : a.length + ([120] : List UInt8).length < 9223372036854775808 := by show _ + 1 < _; omega
        have hx4 : a.length + ([32] : List UInt8).length < 9223372036854775808 := by show _ + 1 < _; omega
        have hx5 : (a ++ [32]).length + b.length < 9223372036854775808 := by rw [List.length_append]; show _ + 1 + _ < _; omega
        refine less_v hp hA1 hB1 _ _ ?_
        cases p with
        | false =>
          repeat (first | refine Br.t rfl ?_ | refine Br.f rfl ?_)
          refine less_v e1 hA1 hA1 _ _ ?_
          repeat (first | refine Br.t rfl ?_ | refine Br.f rfl ?_)
          refine less_v hp hA1 hB1 _ _ ?_
          repeat (first | refine Br.t rfl ?_ | refine Br.f rfl ?_)
          refine Ob.mk hx3 ?_
          repeat (first | refine Br.t rfl ?_ | refine Br.f rfl ?_)
          refine less_v e2 hA1 hx1 _ _ ?_
          repeat (first | refine Br.t rfl ?_ | refine Br.f rfl ?_)
          refine ncount_v rfl hA1 _ _ ?_
          repeat (first | refine Br.t rfl ?_ | refine Br.f rfl ?_)
          refine ncount_v kb (by decide) _ _ ?_
          repeat (first | refine Br.t rfl ?_ | refine Br.f rfl ?_)
          refine ncount_v rfl hB1 _ _ ?_
          repeat (first | refine Br.t rfl ?_ | refine Br.f rfl ?_)
          refine Ob.mk hx4 ?_
          repeat (first | refine Br.t rfl ?_ | refine Br.f rfl ?_)
          refine Ob.mk hx5 ?_
          repeat (first | refine Br.t rfl ?_ | refine Br.f rfl ?_)
          refine ncount_v rfl hx2 _ _ ?_
          repeat (first | refine Br.t rfl ?_ | refine Br.f rfl ?_)
          repeat (first | refine Br.t (congrArg (· == true) e3) ?_ | refine Br.t e3 ?_)
          refine upper_v hU hA1 _ _ ?_
          repeat (first | refine Br.t (congrArg (· == true) e3) ?_ | refine Br.t e3 ?_)
          refine upper_v e4 hUl _ _ ?_
          repeat (first | refine Br.t (congrArg (· == true) e3) ?_ | refine Br.t e3 ?_)
          refine upper_v hU hA1 _ _ ?_
          repeat (first | refine Br.t (congrArg (· == true) e3) ?_ | refine Br.t e3 ?_)
          repeat (first | refine Br.t (congrArg (· == true) e5) ?_ | refine Br.t e5 ?_)
          refine known3_c _ _ ?_
          repeat (first | refine Br.t (congrArg (· == true) e5) ?_ | refine Br.t e5 ?_)
          exact h
        | true =>
          have e6 := less_anti hp
          repeat refine Br.t rfl ?_
          refine less_v e6 hB1 hA1 _ _ ?_
          cases r with
          | false =>
            repeat (first | refine Br.t rfl ?_ | refine Br.f rfl ?_)
            refine less_v e1 hA1 hA1 _ _ ?_
            repeat (first | refine Br.t rfl ?_ | refine Br.f rfl ?_)
            refine less_v hp hA1 hB1 _ _ ?_
            repeat (first | refine Br.t rfl ?_ | refine Br.f rfl ?_)
            refine less_v hr hB1 hC1 _ _ ?_
            repeat (first | refine Br.t rfl ?_ | refine Br.f rfl ?_)
            refine Ob.mk hx3 ?_
            repeat (first | refine Br.t rfl ?_ | refine Br.f rfl ?_)
            refine less_v e2 hA1 hx1 _ _ ?_
            repeat (first | refine Br.t rfl ?_ | refine Br.f rfl ?_)
            refine ncount_v rfl hA1 _ _ ?_
            repeat (first | refine Br.t rfl ?_ | refine Br.f rfl ?_)
            refine ncount_v kb (by decide) _ _ ?_
            repeat (first | refine Br.t rfl ?_ | refine Br.f rfl ?_)
            refine ncount_v rfl hB1 _ _ ?_
            repeat (first | refine Br.t rfl ?_ | refine Br.f rfl ?_)
            refine Ob.mk hx4 ?_
            repeat (first | refine Br.t rfl ?_ | refine Br.f rfl ?_)
            refine Ob.mk hx5 ?_
            repeat (first | refine Br.t rfl ?_ | refine Br.f rfl ?_)
            refine ncount_v rfl hx2 _ _ ?_
            repeat (first | refine Br.t rfl ?_ | refine Br.f rfl ?_)
            repeat (first | refine Br.t (congrArg (· == true) e3) ?_ | refine Br.t e3 ?_)
            refine upper_v hU hA1 _ _ ?_
            repeat (first | refine Br.t (congrArg (· == true) e3) ?_ | refine Br.t e3 ?_)
            refine upper_v e4 hUl _ _ ?_
            repeat (first | refine Br.t (congrArg (· == true) e3) ?_ | refine Br.t e3 ?_)
            refine upper_v hU hA1 _ _ ?_
            repeat (first | refine Br.t (congrArg (· == true) e3) ?_ | refine Br.t e3 ?_)
            repeat (first | refine Br.t (congrArg (· == true) e5) ?_ | refine Br.t e5 ?_)
            refine known3_c _ _ ?_
            repeat (first | refine Br.t (congrArg (· == true) e5) ?_ | refine Br.t e5 ?_)
            exact h
          | true =>
            have e7 := less_trans hp hr
            repeat (first | refine Br.t rfl ?_ | refine Br.f rfl ?_)
            refine less_v e1 hA1 hA1 _ _ ?_
            repeat (first | refine Br.t rfl ?_ | refine Br.f rfl ?_)
            refine less_v hp hA1 hB1 _ _ ?_
            repeat (first | refine Br.t rfl ?_ | refine Br.f rfl ?_)
            refine less_v hr hB1 hC1 _ _ ?_
            repeat (first | refine Br.t rfl ?_ | refine Br.f rfl ?_)
            refine less_v e7 hA1 hC1 _ _ ?_
            repeat (first | refine Br.t rfl ?_ | refine Br.f rfl ?_)
            refine Ob.mk hx3 ?_
            repeat (first | refine Br.t rfl ?_ | refine Br.f rfl ?_)
            refine less_v e2 hA1 hx1 _ _ ?_
            repeat (first | refine Br.t rfl ?_ | refine Br.f rfl ?_)
            refine ncount_v rfl hA1 _ _ ?_
            repeat (first | refine Br.t rfl ?_ | refine Br.f rfl ?_)
            refine ncount_v kb (by decide) _ _ ?_
            repeat (first | refine Br.t rfl ?_ | refine Br.f rfl ?_)
            refine ncount_v rfl hB1 _ _ ?_
            repeat (first | refine Br.t rfl ?_ | refine Br.f rfl ?_)
            refine Ob.mk hx4 ?_
            repeat (first | refine Br.t rfl ?_ | refine Br.f rfl ?_)
            refine Ob.mk hx5 ?_
            repeat (first | refine Br.t rfl ?_ | refine Br.f rfl ?_)
            refine ncount_v rfl hx2 _ _ ?_
            repeat (first | refine Br.t rfl ?_ | refine Br.f rfl ?_)
            repeat (first | refine Br.t (congrArg (· == true) e3) ?_ | refine Br.t e3 ?_)
            refine upper_v hU hA1 _ _ ?_
            repeat (first | refine Br.t (congrArg (· == true) e3) ?_ | refine Br.t e3 ?_)
            refine upper_v e4 hUl _ _ ?_
            repeat (first | refine Br.t (congrArg (· == true) e3) ?_ | refine Br.t e3 ?_)
            refine upper_v hU hA1 _ _ ?_
            repeat (first | refine Br.t (congrArg (· == true) e3) ?_ | refine Br.t e3 ?_)
            repeat (first | refine Br.t (congrArg (· == true) e5) ?_ | refine Br.t e5 ?_)
            refine known3_c _ _ ?_
            repeat (first | refine Br.t (congrArg (· == true) e5) ?_ | refine Br.t e5 ?_)
            exact h
end Go.Proofs.YtkokaflanlcojaaDoor.AW
