/- A part of the proof: L22/O, L22/P, L22/Q, L22/R, L22/S, L22/T, L22/U, L22/V, L22/W, L22/X, L22/Y. -/
import Derived.Test.YtnopnmlpibdioaaDoorP7
import Derived.Test.YtnopnmlpibdioaaDoorP8
import Derived.Test.YtnopnmlpibdioaaDoorP5
open Go Go.Proofs.YtnopnmlpibdioaaDoor.AW Go.Proofs
namespace Go.Proofs.YtnopnmlpibdioaaDoor.AW
set_option maxRecDepth 100000
set_option linter.unusedSimpArgs false
set_option linter.unusedVariables false

abbrev RL := List (List UInt8 × List UInt8)
def recsP (l : RL) : List PV := l.map fun x => rec2 x.1 x.2
def lng (x : List UInt8 × List UInt8) : Bool := isLong x.1 x.2
theorem recsP_len (l : RL) : (recsP l).length = l.length := by simp [recsP]
theorem recsP_get {l : RL} {j : Nat} (h : j < l.length) : (recsP l)[j]? = some (rec2 l[j].1 l[j].2) := by simp [recsP, h]
theorem recsP_app (a b : RL) : recsP (a ++ b) = recsP a ++ recsP b := by simp [recsP]

theorem indexFunc_c (k : SK) (sz : Nat) (l : RL) (hk : l = [] ∨ sz = 2) (hl : l.length < 4611686018427387904) (s : Store) (K : AV → Store → Prop) (h : ∀ i : Int, (0 ≤ i ↔ l.any lng = true) → K (.p (ii i)) s) : Cal Tryd.prog 29 [.p (.sl k sz (recsP l)), .clos 22 []] s K := by
  refine Cal.pureF rfl ?_
  refine Cal.intro Tryd.func29 (by decide +kernel) rfl rfl ?_
  have hlen := recsP_len l
  refine LoopX.fam [0, 1, 7, 8] (fun (j : Nat) => ([(0, .p (.sl k sz (recsP l))), (1, .clos 22 []), (7, .p (ii l.length)), (8, .p (ii j))], []))
    (fun j => j ≤ l.length ∧ (l.take j).any lng = false) (fun j => l.length - j) 0 ⟨Nat.zero_le _, by simp⟩ (Trim.mk' ?_ rfl rfl rfl (Nat.le_refl _)) ?_
  · rw [← hlen]; rfl
  intro j hj
  refine Br.mk (fun hc => ?_) (fun hc => ?_)
  · have hc : j < l.length := by simp at hc; omega
    rcases hk with rfl | rfl
    · simp at hc
    have hget := recsP_get hc
    refine Idx.mk (rec2 l[j].1 l[j].2) (by omega) (by rw [Int.toNat_natCast]; exact hget) ?_
    refine long_c _ _ _ _ ?_
    refine Br.mk (fun c => ?_) (fun c => ?_)
    · refine h j ⟨fun _ => ?_, fun _ => by omega⟩
      rw [List.any_eq_true]
      exact ⟨l[j], List.getElem_mem _, c⟩
    · refine ⟨j + 1, ⟨hc, ?_⟩, by omega, Nat.le_refl _, Trim.mk' ?_ rfl rfl rfl (Nat.le_refl _)⟩
      · rw [List.take_add_one, List.any_append, hj.2, List.getElem?_eq_getElem hc]
        simpa [lng] using c
      · have e : IntKind.i64.wrap ((j : Int) + 1) = ((j + 1 : Nat) : Int) := by rw [wrap_i64] <;> omega
        rw [← e]; rfl
  · have hc : j = l.length := by simp at hc; have := hj.1; omega
    refine h (-1) ⟨fun hh => absurd hh (by decide), fun hh => ?_⟩
    rw [hc, List.take_length] at hj
    rw [hj.2] at hh; cases hh

theorem containsFunc_c (k : SK) (sz : Nat) (l : RL) (hk : l = [] ∨ sz = 2) (hl : l.length < 4611686018427387904) (s : Store) (K : AV → Store → Prop) (h : K (.p (.bool (l.any lng))) s) : Cal Tryd.prog 21 [.p (.sl k sz (recsP l)), .clos 22 []] s K := by
  refine Cal.pureF rfl ?_
  refine Cal.intro Tryd.func21 (by decide +kernel) rfl rfl ?_
  refine indexFunc_c k sz l hk hl _ _ fun i hi => ?_
  have e : decide (i ≥ 0) = l.any lng := by
    cases hq : l.any lng with
    | true => rw [hq] at hi; simpa using hi.2 rfl
    | false =>
      rw [hq] at hi
      have : ¬ 0 ≤ i := fun hh => absurd (hi.1 hh) (by decide)
      simp; omega
  rw [← e] at h
  exact h

theorem clip_c (sz : Nat) (xs : List PV) (hk : sz = 2) (s : Store) (K : AV → Store → Prop) (h : K (.p (.sl .clip sz xs)) s) : Cal Tryd.prog 23 [.p (.sl .shr sz xs)] s K := by
  subst hk
  refine Cal.pure (args := [.sl .shr 2 xs]) ?_
  refine Cal.intro Tryd.func23 (by decide +kernel) rfl rfl ?_
  refine Ob.mk ⟨Int.le_refl _, by omega, rfl, Int.le_refl _⟩ ?_
  have e : (xs.take (xs.length : Int).toNat).drop (0 : Int).toNat = xs := by simp
  rw [← e] at h
  exact h
theorem clipNil_c (s : Store) (K : AV → Store → Prop) (h : K (.p (.sl .nil 0 [])) s) : Cal Tryd.prog 23 [.p (.sl .nil 0 [])] s K := by
  refine Cal.pure (args := [.sl .nil 0 []]) ?_
  refine Cal.intro Tryd.func23 (by decide +kernel) rfl rfl ?_
  refine Ob.mk ⟨by decide, by decide, rfl, by decide⟩ ?_
  exact h
end Go.Proofs.YtnopnmlpibdioaaDoor.AW

open Go Go.Proofs.YtnopnmlpibdioaaDoor.AW Go.Proofs
namespace Go.Proofs.YtnopnmlpibdioaaDoor.AW
set_option maxRecDepth 100000
set_option linter.unusedSimpArgs false
set_option linter.unusedVariables false

inductive Elt
  | r (a b : List UInt8)
  | rs (k : SK) (sz : Nat) (l : RL)
  | v (p : PV) (t : List UInt8) (o : Bool)

def Elt.pv : Elt → PV
  | .r a b => .iface 26 (rec2 a b)
  | .rs k sz l => .iface 28 (.sl k sz (recsP l))
  | .v p _ _ => p
def Elt.txt : Elt → List UInt8 | .r a b => recS a b | .rs _ _ _ => [] | .v _ t _ => t
def Elt.ok : Elt → Bool | .r _ _ => true | .rs _ _ _ => false | .v _ _ o => o
inductive Elt.Wf : Elt → Prop
  | r (a b : List UInt8) (h1 : a.length < 1099511627776) (h2 : b.length < 1099511627776) : Wf (.r a b)
  | rs (k : SK) (sz : Nat) (l : RL) (h : (k = .nil ∧ l = []) ∨ (k ≠ .nil ∧ sz = 2)) (hl : l.length < 1048576) : Wf (.rs k sz l)
  | v (p : PV) (t : List UInt8) (o : Bool) (h : Any p t o) (h1 : ∀ x, p ≠ .iface 26 x) (h2 : ∀ x, p ≠ .iface 28 x) : Wf (.v p t o)

theorem Elt.Wf.any {e : Elt} (h : e.Wf) : Any e.pv e.txt e.ok := by
  cases h with
  | r a b h1 h2 => exact .rc a b h1 h2
  | rs k sz l h hl => exact .oth 28 _ (by simp)
  | v p t o h h1 h2 => exact h
theorem Any.one {p : PV} {t : List UInt8} {o : Bool} (h : Any p t o) : p.cells = [p] := by cases h <;> rfl

theorem load1 {p : PV} (h : p.cells = [p]) {K : AV → Prop} (k : K (.p p)) : valK false 1 (p.cells.map .p) K := by
  rw [h]; exact k

def nextR : List Elt → AV
  | .r a b :: _ => .tup [.p (.sl .clip 2 [rec2 a b]), .p (ii 1), .p (ii 0)]
  | .rs k sz l :: _ => .tup [.p (.sl k sz (recsP l)), .p (ii 1), .p (ii 0)]
  | .v _ t o :: w :: _ => .tup [.p (.sl .clip 2 [recA t w.txt o w.ok]), .p (ii 2), .p (ii (recE t w.txt o w.ok))]
  | _ => .tup [.p (.sl .nil 0 []), .p (ii 0), .p (ii 1)]

theorem next_c (k : SK) (e : Elt) (es : List Elt) (hw : ∀ x, x ∈ e :: es → x.Wf) (s : Store) (K : AV → Store → Prop) (h : K (nextR (e :: es)) s) : Cal Tryd.prog 20 [.p (.sl k 1 ((e :: es).map Elt.pv))] s K := by
  refine Cal.pure (args := [.sl k 1 ((e :: es).map Elt.pv)]) ?_
  refine Cal.intro Tryd.func20 (by decide +kernel) rfl rfl ?_
  have he := hw e (List.mem_cons_self ..)
  refine Idx.mk e.pv (by decide) rfl ?_
  cases he with
  | r a b h1 h2 =>
    refine Ob.mk (okst rfl rfl rfl) ?_
    refine Br.t rfl ?_
    exact h
  | rs k sz l hk hl =>
    refine Ob.mk (okst rfl rfl rfl) ?_
    refine Br.f rfl ?_
    refine Idx.mk _ (by decide) rfl ?_
    refine Br.t rfl ?_
    exact h
  | v p t o hp h1 h2 =>
    have hone := hp.one
    have hp0 := hp
    cases es with
    | nil =>
      cases hp
      case rc => exact absurd rfl (h1 _)
      case oth t ht =>
        simp only [List.mem_cons, List.not_mem_nil, or_false] at ht
        rcases ht with rfl | rfl | rfl | rfl | rfl | rfl | rfl | rfl | rfl
        case inr.inr.inr.inr.inr.inr.inr.inr => exact absurd rfl (h2 _)
        all_goals
          refine Ob.mk (okst rfl rfl rfl) (Br.f rfl (Idx.mk _ (by decide) rfl (Br.f rfl (Br.t rfl ?_))))
          exact h
      all_goals
        refine Ob.mk (okst rfl rfl rfl) (Br.f rfl (Idx.mk _ (by decide) rfl (Br.f rfl (Br.t rfl ?_))))
        exact h
    | cons w ws =>
      have hww := hw w (by simp)
      have hwa := hww.any
      have hw1 := hwa.one
      have hbr : decide (((List.map Elt.pv (Elt.v p t o :: w :: ws)).length : Int) < 2) = false := by simp; omega
      cases hp
      case rc => exact absurd rfl (h1 _)
      case oth t ht =>
        simp only [List.mem_cons, List.not_mem_nil, or_false] at ht
        rcases ht with rfl | rfl | rfl | rfl | rfl | rfl | rfl | rfl | rfl
        case inr.inr.inr.inr.inr.inr.inr.inr => exact absurd rfl (h2 _)
        all_goals
          refine Ob.mk (okst rfl rfl rfl) (Br.f rfl (Idx.mk _ (by decide) rfl (Br.f rfl (Br.f hbr ?_))))
          refine ⟨_, ⟨rfl, rfl⟩, ?_⟩
          refine ⟨_, Idx.mk _ (by decide) rfl ⟨rfl, rfl⟩, ?_⟩
          refine ⟨_, ⟨rfl, rfl⟩, ?_⟩
          refine ⟨_, ⟨rfl, rfl⟩, ?_⟩
          refine ⟨_, Idx.mk w.pv (by decide) rfl ⟨rfl, rfl⟩, ?_⟩
          refine ⟨_, load1 hw1 ⟨rfl, rfl⟩, ?_⟩
          refine ⟨_, fun s' => rec_c hp0 hwa s' _ ⟨rfl, rfl⟩, rfl, ?_⟩
          iterate 3 refine ⟨_, ⟨rfl, rfl⟩, ?_⟩
          refine ⟨_, _, ⟨rfl, rfl⟩, rfl, ?_⟩
          refine ⟨_, _, Ob.mk (okst rfl rfl rfl) ⟨rfl, rfl⟩, rfl, ?_⟩
          refine ⟨_, ⟨rfl, rfl⟩, ?_⟩
          refine Chk.mk (by kernel_rfl) ?_
          exact h
      all_goals
        refine Ob.mk (okst rfl rfl rfl) (Br.f rfl (Idx.mk _ (by decide) rfl (Br.f rfl (Br.f hbr ?_))))
        refine ⟨_, ⟨rfl, rfl⟩, ?_⟩
        refine ⟨_, Idx.mk _ (by decide) rfl ⟨rfl, rfl⟩, ?_⟩
        refine ⟨_, ⟨rfl, rfl⟩, ?_⟩
        refine ⟨_, ⟨rfl, rfl⟩, ?_⟩
        refine ⟨_, Idx.mk w.pv (by decide) rfl ⟨rfl, rfl⟩, ?_⟩
        refine ⟨_, load1 hw1 ⟨rfl, rfl⟩, ?_⟩
        refine ⟨_, fun s' => rec_c hp0 hwa s' _ ⟨rfl, rfl⟩, rfl, ?_⟩
        iterate 3 refine ⟨_, ⟨rfl, rfl⟩, ?_⟩
        refine ⟨_, _, ⟨rfl, rfl⟩, rfl, ?_⟩
        refine ⟨_, _, Ob.mk (okst rfl rfl rfl) ⟨rfl, rfl⟩, rfl, ?_⟩
        refine ⟨_, ⟨rfl, rfl⟩, ?_⟩
        refine Chk.mk (by kernel_rfl) ?_
        exact h
end Go.Proofs.YtnopnmlpibdioaaDoor.AW

open Go Go.Proofs.YtnopnmlpibdioaaDoor.AW Go.Proofs
namespace Go.Proofs.YtnopnmlpibdioaaDoor.AW
set_option maxRecDepth 100000
set_option linter.unusedSimpArgs false
set_option linter.unusedVariables false

def goR : List Elt → RL → RL × Int
  | [], acc => if 16 < acc.length then ([], 3) else (acc, 0)
  | .r a b :: t, acc => if isLong a b then ([], 13) else goR t (acc ++ [(a, b)])
  | .rs _ _ l :: t, acc => if l.any lng then ([], 13) else goR t (acc ++ l)
  | [.v _ _ _], _ => ([], 1)
  | .v _ t o :: w :: r, acc => if recE t w.txt o w.ok = 0 then goR r (acc ++ [recQ t w.txt o w.ok]) else ([], recE t w.txt o w.ok)
theorem goR_v (p : PV) (t : List UInt8) (o : Bool) (w : Elt) (r : List Elt) (acc : RL) : goR (.v p t o :: w :: r) acc = if recE t w.txt o w.ok = 0 then goR r (acc ++ [recQ t w.txt o w.ok]) else ([], recE t w.txt o w.ok) := by
  rw [goR]

def outP : RL → PV
  | [] => .sl .nil 0 []
  | a :: l => .sl .clip 2 (recsP (a :: l))
def oAV : RL → AV
  | [] => .p (.sl .nil 0 [])
  | a :: l => .osl 0 (recsP (a :: l)).length 0 (recsP (a :: l)).length
def oSt : RL → Store
  | [] => []
  | a :: l => [some (.buf 2 (recsP (a :: l)))]

theorem recOK {a b : List UInt8} {oa ob : Bool} (h : recE a b oa ob = 0) : lng (recQ a b oa ob) = false := by
  unfold recE at h
  unfold recQ lng
  by_cases h1 : (oa && ob) = true
  · rw [if_pos h1] at h ⊢
    by_cases h2 : isLong a b = true
    · rw [if_pos h2] at h; cases h
    · rw [if_neg h2]; simpa using h2
  · rw [if_neg h1]; rfl

theorem by26 : Tryd.prog.types[26].bytes = 32 := rfl
theorem app_rec (acc ys zs : RL) (h : acc ++ ys = zs) (hb : zs.length ≤ 2199023255552) (K : AV → Store → Prop) (hk : K (oAV zs) (oSt zs)) : appA Tryd.prog 28 (oAV acc) 2 (recsP ys) (oSt acc) K := by
  subst h
  cases acc with
  | nil => cases ys with
    | nil => exact BrL.n hk
    | cons y ys =>
      refine BrL.c (Ob.mk ?_ hk)
      rw [by26, recsP_len]
      simp only [List.nil_append] at hb
      omega
  | cons a ar =>
    rw [List.length_append] at hb
    have e : recsP (a :: ar) ++ recsP ys = recsP (a :: (ar ++ ys)) := (recsP_app _ _).symm
    have hk : K (.osl 0 (recsP (a :: (ar ++ ys))).length 0 (recsP (a :: (ar ++ ys))).length) [some (.buf 2 (recsP (a :: (ar ++ ys))))] := hk
    rw [← e] at hk
    refine Ob.mk ⟨rfl, rfl, rfl, ?_⟩ hk
    rw [by26, recsP_len, recsP_len]
    have := hb
    omega
theorem app_nil (acc : RL) (hb : acc.length ≤ 2199023255552) (K : AV → Store → Prop) (hk : K (oAV acc) (oSt acc)) : appA Tryd.prog 28 (oAV acc) (szT Tryd.prog 26) [] (oSt acc) K :=
  app_rec acc [] acc (by simp) hb K hk
theorem oSt_len (a b zs : RL) (h : a ++ b = zs) : Nat.ble (oSt a).length (oSt zs).length = true := by
  subst h
  cases a <;> cases b <;> rfl

theorem slice_k {k : SK} (hk : k ≠ .nil) (xs : List PV) (e : Env) (lo : Operand) (n : Nat) (hlo : ev e lo = .p (ii n)) (hn : n ≤ xs.length) (s : Store) (K : AV → Prop) (h : K (.p (.sl k 1 (xs.drop n)))) : sliceA Tryd.prog 43 (.p (.sl k 1 xs)) e (some lo) none none s K := by
  have e1 : (n : Int).toNat = n := rfl
  cases k with
  | nil => exact absurd rfl hk
  | shr =>
    show bnd e (some lo) 0 _
    unfold bnd
    simp only [hlo]
    exact Ob.mk ⟨by omega, by omega⟩ h
  | clip =>
    show bnd e (some lo) 0 _
    unfold bnd
    simp only [hlo]
    exact Ob.mk ⟨by omega, by omega⟩ h

theorem recs_c (k : SK) (hk : k ≠ .nil) (es0 : List Elt) (hw : ∀ x, x ∈ es0 → x.Wf) (hl : es0.length ≤ 1048576) (s : Store) (K : AV → Store → Prop) (h : K (.tup [.p (outP (goR es0 []).1), .p (ii (goR es0 []).2)]) s) : Cal Tryd.prog 9 [.p (.sl k 1 (es0.map Elt.pv))] s K := by
  refine Cal.pure (args := [.sl k 1 (es0.map Elt.pv)]) ?_
  refine Cal.intro Tryd.func9 (by decide +kernel) rfl rfl ?_
  refine LoopX.fam [0, 4] (fun (j : List Elt × RL) => ([(0, .p (.sl k 1 (j.1.map Elt.pv))), (4, oAV j.2)], oSt j.2))
    (fun j => goR j.1 j.2 = goR es0 [] ∧ (∀ x, x ∈ j.1 → x.Wf) ∧ j.2.length + j.1.length * 1048576 ≤ 1099511627776) (fun j => j.1.length) (es0, []) ⟨rfl, hw, (by simp; omega)⟩ (Trim.mk' rfl rfl rfl rfl (Nat.le_refl _)) ?_
  clear hw
  rintro ⟨es, acc⟩ ⟨hq, hw, hb⟩
  change goR es acc = goR es0 [] at hq
  change ∀ x, x ∈ es → x.Wf at hw
  change acc.length + es.length * 1048576 ≤ 1099511627776 at hb
  cases es with
  | nil =>
    refine Br.f rfl ?_
    cases acc with
    | nil =>
      refine Br.f (by decide) ?_
      refine clipNil_c _ _ ?_
      rw [← hq] at h
      exact h
    | cons a ar =>
      have hc0 : ((recsP (a :: ar)).length : Int) = ((ar.length + 1 : Nat) : Int) := by rw [recsP_len]; rfl
      refine Br.mk (fun hc => ?_) (fun hc => ?_)
      · have hc : 16 < (a :: ar).length := by clear hq h hw hb; simp [recsP] at hc; simp; omega
        rw [← hq, show goR [] (a :: ar) = ([], 3) by rw [goR, if_pos hc]] at h
        exact h
      · have hc : ¬ 16 < (a :: ar).length := by clear hq h hw hb; simp [recsP] at hc; simp; omega
        rw [← hq, show goR [] (a :: ar) = (a :: ar, 0) by rw [goR, if_neg hc]] at h
        have e : ((recsP (a :: ar)).drop 0).take (recsP (a :: ar)).length = recsP (a :: ar) := by simp
        refine Cal.freeze ?_ ⟨_, rfl, rfl, rfl⟩
        refine Ob.mk rfl ?_
        rw [e]
        refine clip_c 2 _ rfl _ _ ?_
        exact h
  | cons e es =>
    have hlen : decide (((List.map Elt.pv (e :: es)).length : Int) > 0) = true := by simp
    simp only [List.length_cons] at hb
    have hwe := hw e (by simp)
    cases e with
    | r a b =>
      rw [goR] at hq
      have hws : ∀ x, x ∈ es → x.Wf := fun x hx => hw x (by simp [hx])
      refine Br.t hlen ?_
      refine next_c k (.r a b) es hw _ _ ?_
      refine Br.f rfl ?_
      refine containsFunc_c .clip 2 [(a, b)] (.inr rfl) (by simp) _ _ ?_
      have hany : List.any [(a, b)] lng = isLong a b := by simp [lng]
      refine Br.mk (fun hc => ?_) (fun hc => ?_)
      · have hc : isLong a b = true := hany.symm.trans hc
        rw [if_pos hc] at hq
        rw [← hq] at h
        exact h
      · have hc : isLong a b = false := hany.symm.trans hc
        rw [if_neg (by rw [hc]; decide)] at hq
        have hzb : (acc ++ [(a, b)]).length + es.length * 1048576 ≤ 1099511627776 := by simp; omega
        have hzl : (acc ++ [(a, b)]).length ≤ 2199023255552 := by omega
        rcases hz : acc ++ [(a, b)] with _ | ⟨z, zs⟩
        · rw [hz] at hq hzl hzb
          cases acc with
          | nil => exact absurd hz (by simp)
          | cons q qs => exact absurd hz (by simp)
        · rw [hz] at hq hzl hzb
          cases acc with
          | nil =>
            iterate 2 refine ⟨_, ⟨rfl, rfl⟩, ?_⟩
            refine ⟨oAV (z :: zs), oSt (z :: zs), app_rec [] [(a, b)] (z :: zs) hz hzl (fun v s' => v = oAV (z :: zs) ∧ s' = oSt (z :: zs)) ⟨rfl, rfl⟩, oSt_len [] [(a, b)] (z :: zs) hz, ?_⟩
            iterate 2 refine ⟨_, ⟨rfl, rfl⟩, ?_⟩
            refine ⟨.p (.sl k 1 (List.map Elt.pv es)), slice_k hk (List.map Elt.pv (Elt.r a b :: es)) _ _ 1 rfl (by simp) (oSt (z :: zs)) (fun v => v = .p (.sl k 1 (List.map Elt.pv es)) ∧ oSt (z :: zs) = oSt (z :: zs)) ⟨rfl, rfl⟩, ?_⟩
            iterate 2 refine ⟨_, ⟨rfl, rfl⟩, ?_⟩
            refine Chk.mk (by kernel_rfl) ?_
            exact ⟨(es, (z :: zs)), ⟨hq, hws, hzb⟩, Nat.lt_succ_self _, Nat.zero_le _, Trim.mk' rfl rfl rfl rfl (Nat.le_refl _)⟩
          | cons q qs =>
            iterate 2 refine ⟨_, ⟨rfl, rfl⟩, ?_⟩
            refine ⟨oAV (z :: zs), oSt (z :: zs), app_rec (q :: qs) [(a, b)] (z :: zs) hz hzl (fun v s' => v = oAV (z :: zs) ∧ s' = oSt (z :: zs)) ⟨rfl, rfl⟩, oSt_len (q :: qs) [(a, b)] (z :: zs) hz, ?_⟩
            iterate 2 refine ⟨_, ⟨rfl, rfl⟩, ?_⟩
            refine ⟨.p (.sl k 1 (List.map Elt.pv es)), slice_k hk (List.map Elt.pv (Elt.r a b :: es)) _ _ 1 rfl (by simp) (oSt (z :: zs)) (fun v => v = .p (.sl k 1 (List.map Elt.pv es)) ∧ oSt (z :: zs) = oSt (z :: zs)) ⟨rfl, rfl⟩, ?_⟩
            iterate 2 refine ⟨_, ⟨rfl, rfl⟩, ?_⟩
            refine Chk.mk (by kernel_rfl) ?_
            exact ⟨(es, (z :: zs)), ⟨hq, hws, hzb⟩, Nat.lt_succ_self _, Nat.zero_le _, Trim.mk' rfl rfl rfl rfl (Nat.le_refl _)⟩
    | rs k2 sz l =>
      rw [goR] at hq
      have hws : ∀ x, x ∈ es → x.Wf := fun x hx => hw x (by simp [hx])
      obtain ⟨hk2, hl2⟩ : ((k2 = .nil ∧ l = []) ∨ (k2 ≠ .nil ∧ sz = 2)) ∧ l.length < 1048576 := by cases hwe with | rs _ _ _ h1 h2 => exact ⟨h1, h2⟩
      refine Br.t hlen ?_
      refine next_c k (.rs k2 sz l) es hw _ _ ?_
      refine Br.f rfl ?_
      refine containsFunc_c k2 sz l (by rcases hk2 with h | h; · exact .inl h.2
                                        · exact .inr h.2) (by omega) _ _ ?_
      refine Br.mk (fun hc => ?_) (fun hc => ?_)
      · have hc : l.any lng = true := hc
        rw [if_pos hc] at hq
        rw [← hq] at h
        exact h
      · have hc : l.any lng = false := hc
        rw [if_neg (by rw [hc]; decide)] at hq
        have hzb : (acc ++ l).length + es.length * 1048576 ≤ 1099511627776 := by simp; omega
        have hzl : (acc ++ l).length ≤ 2199023255552 := by omega
        cases k2 with
        | nil =>
          have hl0 : l = [] := by rcases hk2 with h | h; · exact h.2
                                  · exact absurd rfl h.1
          subst hl0
          rw [List.append_nil] at hq hzb hzl
          cases acc with
          | nil =>
            iterate 2 refine ⟨_, ⟨rfl, rfl⟩, ?_⟩
            refine ⟨oAV [], oSt [], app_nil [] hzl (fun v s' => v = oAV [] ∧ s' = oSt []) ⟨rfl, rfl⟩, oSt_len [] [] [] (List.append_nil _), ?_⟩
            iterate 2 refine ⟨_, ⟨rfl, rfl⟩, ?_⟩
            refine ⟨.p (.sl k 1 (List.map Elt.pv es)), slice_k hk (List.map Elt.pv (Elt.rs .nil sz [] :: es)) _ _ 1 rfl (by simp) (oSt []) (fun v => v = .p (.sl k 1 (List.map Elt.pv es)) ∧ oSt [] = oSt []) ⟨rfl, rfl⟩, ?_⟩
            iterate 2 refine ⟨_, ⟨rfl, rfl⟩, ?_⟩
            refine Chk.mk (by kernel_rfl) ?_
            exact ⟨(es, []), ⟨hq, hws, hzb⟩, Nat.lt_succ_self _, Nat.zero_le _, Trim.mk' rfl rfl rfl rfl (Nat.le_refl _)⟩
          | cons q qs =>
            iterate 2 refine ⟨_, ⟨rfl, rfl⟩, ?_⟩
            refine ⟨oAV (q :: qs), oSt (q :: qs), app_nil (q :: qs) hzl (fun v s' => v = oAV (q :: qs) ∧ s' = oSt (q :: qs)) ⟨rfl, rfl⟩, oSt_len (q :: qs) [] (q :: qs) (List.append_nil _), ?_⟩
            iterate 2 refine ⟨_, ⟨rfl, rfl⟩, ?_⟩
            refine ⟨.p (.sl k 1 (List.map Elt.pv es)), slice_k hk (List.map Elt.pv (Elt.rs .nil sz [] :: es)) _ _ 1 rfl (by simp) (oSt (q :: qs)) (fun v => v = .p (.sl k 1 (List.map Elt.pv es)) ∧ oSt (q :: qs) = oSt (q :: qs)) ⟨rfl, rfl⟩, ?_⟩
            iterate 2 refine ⟨_, ⟨rfl, rfl⟩, ?_⟩
            refine Chk.mk (by kernel_rfl) ?_
            exact ⟨(es, (q :: qs)), ⟨hq, hws, hzb⟩, Nat.lt_succ_self _, Nat.zero_le _, Trim.mk' rfl rfl rfl rfl (Nat.le_refl _)⟩
        | shr =>
          have hs2 : sz = 2 := by rcases hk2 with h | h; · exact absurd h.1 (by decide)
                                  · exact h.2
          subst hs2
          rcases hz : acc ++ l with _ | ⟨z, zs⟩
          · rw [hz] at hq hzl hzb
            cases acc with
            | nil =>
              iterate 2 refine ⟨_, ⟨rfl, rfl⟩, ?_⟩
              refine ⟨oAV [], oSt [], app_rec [] l [] hz hzl (fun v s' => v = oAV [] ∧ s' = oSt []) ⟨rfl, rfl⟩, oSt_len [] l [] hz, ?_⟩
              iterate 2 refine ⟨_, ⟨rfl, rfl⟩, ?_⟩
              refine ⟨.p (.sl k 1 (List.map Elt.pv es)), slice_k hk (List.map Elt.pv (Elt.rs .shr 2 l :: es)) _ _ 1 rfl (by simp) (oSt []) (fun v => v = .p (.sl k 1 (List.map Elt.pv es)) ∧ oSt [] = oSt []) ⟨rfl, rfl⟩, ?_⟩
              iterate 2 refine ⟨_, ⟨rfl, rfl⟩, ?_⟩
              refine Chk.mk (by kernel_rfl) ?_
              exact ⟨(es, []), ⟨hq, hws, hzb⟩, Nat.lt_succ_self _, Nat.zero_le _, Trim.mk' rfl rfl rfl rfl (Nat.le_refl _)⟩
            | cons q qs => exact absurd hz (by simp)
          · rw [hz] at hq hzl hzb
            cases acc with
            | nil =>
              iterate 2 refine ⟨_, ⟨rfl, rfl⟩, ?_⟩
              refine ⟨oAV (z :: zs), oSt (z :: zs), app_rec [] l (z :: zs) hz hzl (fun v s' => v = oAV (z :: zs) ∧ s' = oSt (z :: zs)) ⟨rfl, rfl⟩, oSt_len [] l (z :: zs) hz, ?_⟩
              iterate 2 refine ⟨_, ⟨rfl, rfl⟩, ?_⟩
              refine ⟨.p (.sl k 1 (List.map Elt.pv es)), slice_k hk (List.map Elt.pv (Elt.rs .shr 2 l :: es)) _ _ 1 rfl (by simp) (oSt (z :: zs)) (fun v => v = .p (.sl k 1 (List.map Elt.pv es)) ∧ oSt (z :: zs) = oSt (z :: zs)) ⟨rfl, rfl⟩, ?_⟩
              iterate 2 refine ⟨_, ⟨rfl, rfl⟩, ?_⟩
              refine Chk.mk (by kernel_rfl) ?_
              exact ⟨(es, (z :: zs)), ⟨hq, hws, hzb⟩, Nat.lt_succ_self _, Nat.zero_le _, Trim.mk' rfl rfl rfl rfl (Nat.le_refl _)⟩
            | cons q qs =>
              iterate 2 refine ⟨_, ⟨rfl, rfl⟩, ?_⟩
              refine ⟨oAV (z :: zs), oSt (z :: zs), app_rec (q :: qs) l (z :: zs) hz hzl (fun v s' => v = oAV (z :: zs) ∧ s' = oSt (z :: zs)) ⟨rfl, rfl⟩, oSt_len (q :: qs) l (z :: zs) hz, ?_⟩
              iterate 2 refine ⟨_, ⟨rfl, rfl⟩, ?_⟩
              refine ⟨.p (.sl k 1 (List.map Elt.pv es)), slice_k hk (List.map Elt.pv (Elt.rs .shr 2 l :: es)) _ _ 1 rfl (by simp) (oSt (z :: zs)) (fun v => v = .p (.sl k 1 (List.map Elt.pv es)) ∧ oSt (z :: zs) = oSt (z :: zs)) ⟨rfl, rfl⟩, ?_⟩
              iterate 2 refine ⟨_, ⟨rfl, rfl⟩, ?_⟩
              refine Chk.mk (by kernel_rfl) ?_
              exact ⟨(es, (z :: zs)), ⟨hq, hws, hzb⟩, Nat.lt_succ_self _, Nat.zero_le _, Trim.mk' rfl rfl rfl rfl (Nat.le_refl _)⟩
        | clip =>
          have hs2 : sz = 2 := by rcases hk2 with h | h; · exact absurd h.1 (by decide)
                                  · exact h.2
          subst hs2
          rcases hz : acc ++ l with _ | ⟨z, zs⟩
          · rw [hz] at hq hzl hzb
            cases acc with
            | nil =>
              iterate 2 refine ⟨_, ⟨rfl, rfl⟩, ?_⟩
              refine ⟨oAV [], oSt [], app_rec [] l [] hz hzl (fun v s' => v = oAV [] ∧ s' = oSt []) ⟨rfl, rfl⟩, oSt_len [] l [] hz, ?_⟩
              iterate 2 refine ⟨_, ⟨rfl, rfl⟩, ?_⟩
              refine ⟨.p (.sl k 1 (List.map Elt.pv es)), slice_k hk (List.map Elt.pv (Elt.rs .clip 2 l :: es)) _ _ 1 rfl (by simp) (oSt []) (fun v => v = .p (.sl k 1 (List.map Elt.pv es)) ∧ oSt [] = oSt []) ⟨rfl, rfl⟩, ?_⟩
              iterate 2 refine ⟨_, ⟨rfl, rfl⟩, ?_⟩
              refine Chk.mk (by kernel_rfl) ?_
              exact ⟨(es, []), ⟨hq, hws, hzb⟩, Nat.lt_succ_self _, Nat.zero_le _, Trim.mk' rfl rfl rfl rfl (Nat.le_refl _)⟩
            | cons q qs => exact absurd hz (by simp)
          · rw [hz] at hq hzl hzb
            cases acc with
            | nil =>
              iterate 2 refine ⟨_, ⟨rfl, rfl⟩, ?_⟩
              refine ⟨oAV (z :: zs), oSt (z :: zs), app_rec [] l (z :: zs) hz hzl (fun v s' => v = oAV (z :: zs) ∧ s' = oSt (z :: zs)) ⟨rfl, rfl⟩, oSt_len [] l (z :: zs) hz, ?_⟩
              iterate 2 refine ⟨_, ⟨rfl, rfl⟩, ?_⟩
              refine ⟨.p (.sl k 1 (List.map Elt.pv es)), slice_k hk (List.map Elt.pv (Elt.rs .clip 2 l :: es)) _ _ 1 rfl (by simp) (oSt (z :: zs)) (fun v => v = .p (.sl k 1 (List.map Elt.pv es)) ∧ oSt (z :: zs) = oSt (z :: zs)) ⟨rfl, rfl⟩, ?_⟩
              iterate 2 refine ⟨_, ⟨rfl, rfl⟩, ?_⟩
              refine Chk.mk (by kernel_rfl) ?_
              exact ⟨(es, (z :: zs)), ⟨hq, hws, hzb⟩, Nat.lt_succ_self _, Nat.zero_le _, Trim.mk' rfl rfl rfl rfl (Nat.le_refl _)⟩
            | cons q qs =>
              iterate 2 refine ⟨_, ⟨rfl, rfl⟩, ?_⟩
              refine ⟨oAV (z :: zs), oSt (z :: zs), app_rec (q :: qs) l (z :: zs) hz hzl (fun v s' => v = oAV (z :: zs) ∧ s' = oSt (z :: zs)) ⟨rfl, rfl⟩, oSt_len (q :: qs) l (z :: zs) hz, ?_⟩
              iterate 2 refine ⟨_, ⟨rfl, rfl⟩, ?_⟩
              refine ⟨.p (.sl k 1 (List.map Elt.pv es)), slice_k hk (List.map Elt.pv (Elt.rs .clip 2 l :: es)) _ _ 1 rfl (by simp) (oSt (z :: zs)) (fun v => v = .p (.sl k 1 (List.map Elt.pv es)) ∧ oSt (z :: zs) = oSt (z :: zs)) ⟨rfl, rfl⟩, ?_⟩
              iterate 2 refine ⟨_, ⟨rfl, rfl⟩, ?_⟩
              refine Chk.mk (by kernel_rfl) ?_
              exact ⟨(es, (z :: zs)), ⟨hq, hws, hzb⟩, Nat.lt_succ_self _, Nat.zero_le _, Trim.mk' rfl rfl rfl rfl (Nat.le_refl _)⟩
    | v p t o =>
      refine Br.t hlen ?_
      refine next_c k (.v p t o) es hw _ _ ?_
      cases es with
      | nil =>
        rw [goR] at hq
        rw [← hq] at h
        refine Br.t rfl ?_
        exact h
      | cons w ws =>
        rw [goR_v] at hq
        have hws : ∀ x, x ∈ ws → x.Wf := fun x hx => hw x (by simp [hx])
        refine Br.mk (fun hc => ?_) (fun hc => ?_)
        · have hc : recE t w.txt o w.ok ≠ 0 := by simpa using hc
          rw [if_neg hc] at hq
          rw [← hq] at h
          exact h
        · have hc : recE t w.txt o w.ok = 0 := by simpa using hc
          rw [if_pos hc] at hq
          refine containsFunc_c .clip 2 [recQ t w.txt o w.ok] (.inr rfl) (by simp) _ _ ?_
          have hany : List.any [recQ t w.txt o w.ok] lng = false := by simp [recOK hc]
          refine Br.f hany ?_
          have hzb : (acc ++ [recQ t w.txt o w.ok]).length + ws.length * 1048576 ≤ 1099511627776 := by simp at hb ⊢; omega
          have hzl : (acc ++ [recQ t w.txt o w.ok]).length ≤ 2199023255552 := by omega
          rcases hz : acc ++ [recQ t w.txt o w.ok] with _ | ⟨z, zs⟩
          · rw [hz] at hq hzl hzb
            cases acc with
            | nil => exact absurd hz (by simp)
            | cons q qs => exact absurd hz (by simp)
          · rw [hz] at hq hzl hzb
            cases acc with
            | nil =>
              iterate 2 refine ⟨_, ⟨rfl, rfl⟩, ?_⟩
              refine ⟨oAV (z :: zs), oSt (z :: zs), app_rec [] [recQ t w.txt o w.ok] (z :: zs) hz hzl (fun v s' => v = oAV (z :: zs) ∧ s' = oSt (z :: zs)) ⟨rfl, rfl⟩, oSt_len [] [recQ t w.txt o w.ok] (z :: zs) hz, ?_⟩
              iterate 2 refine ⟨_, ⟨rfl, rfl⟩, ?_⟩
              refine ⟨.p (.sl k 1 (List.map Elt.pv ws)), slice_k hk (List.map Elt.pv (Elt.v p t o :: w :: ws)) _ _ 2 rfl (by simp) (oSt (z :: zs)) (fun v => v = .p (.sl k 1 (List.map Elt.pv ws)) ∧ oSt (z :: zs) = oSt (z :: zs)) ⟨rfl, rfl⟩, ?_⟩
              iterate 2 refine ⟨_, ⟨rfl, rfl⟩, ?_⟩
              refine Chk.mk (by kernel_rfl) ?_
              exact ⟨(ws, (z :: zs)), ⟨hq, hws, hzb⟩, (by simp only [List.length_cons]; omega), Nat.zero_le _, Trim.mk' rfl rfl rfl rfl (Nat.le_refl _)⟩
            | cons q qs =>
              iterate 2 refine ⟨_, ⟨rfl, rfl⟩, ?_⟩
              refine ⟨oAV (z :: zs), oSt (z :: zs), app_rec (q :: qs) [recQ t w.txt o w.ok] (z :: zs) hz hzl (fun v s' => v = oAV (z :: zs) ∧ s' = oSt (z :: zs)) ⟨rfl, rfl⟩, oSt_len (q :: qs) [recQ t w.txt o w.ok] (z :: zs) hz, ?_⟩
              iterate 2 refine ⟨_, ⟨rfl, rfl⟩, ?_⟩
              refine ⟨.p (.sl k 1 (List.map Elt.pv ws)), slice_k hk (List.map Elt.pv (Elt.v p t o :: w :: ws)) _ _ 2 rfl (by simp) (oSt (z :: zs)) (fun v => v = .p (.sl k 1 (List.map Elt.pv ws)) ∧ oSt (z :: zs) = oSt (z :: zs)) ⟨rfl, rfl⟩, ?_⟩
              iterate 2 refine ⟨_, ⟨rfl, rfl⟩, ?_⟩
              refine Chk.mk (by kernel_rfl) ?_
              exact ⟨(ws, (z :: zs)), ⟨hq, hws, hzb⟩, (by simp only [List.length_cons]; omega), Nat.zero_le _, Trim.mk' rfl rfl rfl rfl (Nat.le_refl _)⟩
end Go.Proofs.YtnopnmlpibdioaaDoor.AW

open Go Go.Proofs.YtnopnmlpibdioaaDoor.AW Go.Proofs
namespace Go.Proofs.YtnopnmlpibdioaaDoor.AW
set_option maxRecDepth 100000
set_option linter.unusedSimpArgs false
set_option linter.unusedVariables false

def wth (n : Int) : Int := if 0 ≤ n ∧ n ≤ 1073741824 then n else if n.tmod 1073741825 < 0 then n.tmod 1073741825 + 1073741825 else n.tmod 1073741825
theorem wth_in (n : Int) : 0 ≤ wth n ∧ wth n ≤ 1073741824 := by
  unfold wth
  have h1 := Int.tmod_lt_of_pos n (show (0 : Int) < 1073741825 by decide)
  have h2 : -1073741825 < n.tmod 1073741825 := by
    rcases Int.le_total 0 n with h | h
    · have := Int.tmod_nonneg 1073741825 h; omega
    · have := Int.tmod_lt_of_pos (-n) (show (0 : Int) < 1073741825 by decide)
      rw [Int.neg_tmod] at this; omega
  split
  · omega
  · split <;> omega
theorem within_c (n : Int) (s : Store) (K : AV → Store → Prop) (h : K (.p (ii (wth n))) s) : Cal Tryd.prog 30 [.p (ii n), .p (ii 0), .p (ii 1073741824)] s K := by
  refine Cal.pure (args := [ii n, ii 0, ii 1073741824]) ?_
  refine Cal.intro Tryd.func30 (by decide +kernel) rfl rfl ?_
  have hin := wth_in n
  unfold wth at h hin
  have e1 : IntKind.i64.wrap (IntKind.i64.wrap (1073741824 - 0) + 1) = 1073741825 := by decide
  have tail : ¬ (0 ≤ n ∧ n ≤ 1073741824) → K (.p (ii (if n.tmod 1073741825 < 0 then n.tmod 1073741825 + 1073741825 else n.tmod 1073741825))) s := fun hc => by
    rw [if_neg hc] at h; exact h
  have hlo : -1073741825 < n.tmod 1073741825 := by
    rcases Int.le_total 0 n with h | h
    · have := Int.tmod_nonneg 1073741825 h; omega
    · have := Int.tmod_lt_of_pos (-n) (show (0 : Int) < 1073741825 by decide)
      rw [Int.neg_tmod] at this; omega
  have hhi := Int.tmod_lt_of_pos n (show (0 : Int) < 1073741825 by decide)
  have fin : ¬ (0 ≤ n ∧ n ≤ 1073741824) → (∀ M : Int, M = 1073741825 → (M ≠ 0 ∧ (n.tmod M < 0 → K (.p (ii (IntKind.i64.wrap (0 + IntKind.i64.wrap (IntKind.i64.wrap (IntKind.i64.wrap (n.tmod M + 1073741824) - 0) + 1))))) s) ∧ (¬ n.tmod M < 0 → K (.p (ii (IntKind.i64.wrap (0 + n.tmod M)))) s))) := by
    intro hc M hM
    subst hM
    have h := tail hc
    refine ⟨by decide, fun hn => ?_, fun hn => ?_⟩
    · rw [if_pos hn] at h
      have e : IntKind.i64.wrap (0 + IntKind.i64.wrap (IntKind.i64.wrap (IntKind.i64.wrap (n.tmod 1073741825 + 1073741824) - 0) + 1)) = n.tmod 1073741825 + 1073741825 := by
        simp only [IntKind.wrap_i64]; omega
      rw [e]; exact h
    · rw [if_neg hn] at h
      have e : IntKind.i64.wrap (0 + n.tmod 1073741825) = n.tmod 1073741825 := by rw [wrap_i64] <;> omega
      rw [e]; exact h
  cases hx : decide (n ≥ 0) with
  | false =>
    have hx1 : (decide (n ≥ 0) == true) = false := by rw [hx]; rfl
    iterate 3 refine Br.f hx1 ?_
    refine Br.f hx ?_
    refine Br.f rfl ?_
    obtain ⟨f1, f2, f3⟩ := fin (fun hh => absurd hh.1 (by simpa using hx)) _ e1
    refine Ob.mk f1 ?_
    refine Br.mk (fun c => ?_) (fun c => ?_)
    · exact f2 (by simpa using c)
    · exact f3 (by simpa using c)
  | true =>
    have hx1 : (decide (n ≥ 0) == true) = true := by rw [hx]; rfl
    have hn0 : 0 ≤ n := by simpa using hx
    cases hy : decide (n ≤ 1073741824) with
    | true =>
      have hn1 : n ≤ 1073741824 := by simpa using hy
      rw [if_pos ⟨hn0, hn1⟩] at h
      iterate 3 refine Br.t hx1 ?_
      refine Br.t hx ?_
      refine Br.t hy ?_
      exact h
    | false =>
      have hn1 : ¬ n ≤ 1073741824 := by simpa using hy
      iterate 3 refine Br.t hx1 ?_
      refine Br.t hx ?_
      refine Br.f hy ?_
      obtain ⟨f1, f2, f3⟩ := fin (fun hh => hn1 hh.2) _ e1
      refine Ob.mk f1 ?_
      refine Br.mk (fun c => ?_) (fun c => ?_)
      · exact f2 (by simpa using c)
      · exact f3 (by simpa using c)

def intsP (l : List Int) : List PV := l.map (.int .i64)
def tp (k : SK) (l : List Int) (a : Nat) : Option AObj := some (.cells [.p (.sl k 1 (intsP l)), .p (ii a)])
/-- A tape's next number, and where it stands then. -/
def nxA (l : List Int) (a : Nat) (n : Int) : Nat := if l.length ≤ a ∨ n < 1 then a else a + 1
def nxV (l : List Int) (a : Nat) (n : Int) : Int := if l.length ≤ a ∨ n < 1 then 0 else (wth (l.getD a 0)).tmod n
inductive Sh : Store → Store → Prop
  | a : Sh [] []
  | b (x : Option AObj) : Sh [] [x]
  | c (k : SK) (l : List Int) (a : Nat) (xs : List PV) : Sh [tp k l a, none] []
  | d (x y z : Option AObj) : Sh [x, y] [z]
theorem next_c24 {pre post : Store} (sh : Sh pre post) (k : SK) (l : List Int) (a : Nat) (n : Int) (hk : k = .nil → l = []) (hl : l.length < 9223372036854775808) (ha : a ≤ l.length) (K : AV → Store → Prop) (h : K (.p (ii (nxV l a n))) (pre ++ tp k l (nxA l a n) :: post)) :
    Cal Tryd.prog 24 [.ref pre.length 0, .p (ii n)] (pre ++ tp k l a :: post) K := by
  have hlen : (intsP l).length = l.length := by simp [intsP]
  unfold nxV nxA at h
  cases sh
  all_goals
    refine Cal.intro Tryd.func24 (by decide +kernel) rfl rfl ?_
    iterate 11 refine ⟨_, ⟨rfl, rfl⟩, ?_⟩
    cases hx : decide ((a : Int) ≥ ((intsP l).length : Int)) with
    | true =>
      have hx0 : l.length ≤ a := by simp [hlen] at hx; omega
      rw [if_pos (.inl hx0), if_pos (.inl hx0)] at h
      refine Br.f rfl ?_
      refine Br.f rfl ?_
      refine ⟨_, Br.t rfl ⟨rfl, rfl⟩, ?_⟩
      refine Chk.mk (by kernel_rfl) ?_
      refine Br.t rfl ?_
      exact h
    | false =>
      have hx0 : a < l.length := by simp [hlen] at hx; omega
      iterate 2 refine Br.t rfl ⟨_, ⟨rfl, rfl⟩, ?_⟩
      refine ⟨_, Br.f rfl ⟨rfl, rfl⟩, ?_⟩
      refine Chk.mk (by kernel_rfl) ?_
      refine Br.mk (fun hc => ?_) (fun hc => ?_)
      · have hc : n < 1 := by simpa using hc
        rw [if_pos (.inr hc), if_pos (.inr hc)] at h
        exact h
      · have hc : ¬ n < 1 := by simpa using hc
        rw [if_neg (by omega), if_neg (by omega)] at h
        have e1 : IntKind.i64.wrap ((a : Int) + 1) = ((a + 1 : Nat) : Int) := by rw [wrap_i64] <;> omega
        have e2 : IntKind.i64.wrap (((a + 1 : Nat) : Int) - 1) = (a : Int) := by rw [wrap_i64] <;> omega
        have hgd : l.getD a 0 = l[a] := by simp [List.getD, hx0]
        have hget : (intsP l)[(IntKind.i64.wrap (IntKind.i64.wrap ((a : Int) + 1) - 1)).toNat]? = some (.int .i64 (l.getD a 0)) := by
          rw [e1, e2, Int.toNat_natCast, hgd]; simp [intsP, hx0]
        rw [show tp k l (a + 1) = some (.cells [.p (.sl k 1 (intsP l)), .p (ii (IntKind.i64.wrap ((a : Int) + 1)))]) by rw [e1]; rfl] at h
        refine Ob.mk (okst rfl rfl rfl) ?_
        iterate 9 refine ⟨_, ⟨rfl, rfl⟩, ?_⟩
        refine ⟨_, Idx.mk _ (by rw [e1, e2]; omega) hget ⟨rfl, rfl⟩, ?_⟩
        refine ⟨_, ⟨rfl, rfl⟩, ?_⟩
        refine ⟨_, fun s' => within_c _ s' _ ⟨rfl, rfl⟩, rfl, ?_⟩
        refine ⟨_, ⟨rfl, rfl⟩, ?_⟩
        refine ⟨_, Ob.mk (by omega) ⟨rfl, rfl⟩, ?_⟩
        refine ⟨_, ⟨rfl, rfl⟩, ?_⟩
        refine Chk.mk (by kernel_rfl) ?_
        exact h
end Go.Proofs.YtnopnmlpibdioaaDoor.AW

open Go Go.Proofs.YtnopnmlpibdioaaDoor.AW Go.Proofs
namespace Go.Proofs.YtnopnmlpibdioaaDoor.AW
set_option maxRecDepth 100000
set_option linter.unusedSimpArgs false
set_option linter.unusedVariables false

def tTab : List (List UInt8) := [[], [97], [107, 101, 121], [228, 184, 150], [116, 119, 111, 32, 119, 111, 114, 100, 115], [98, 255], [107, 50], [61], [97, 10, 98]]
def txtV (l : List Int) (a : Nat) : List UInt8 := tTab.getD (nxV l a 9).toNat []
theorem nxV_in (l : List Int) (a : Nat) (n : Int) (hn : 1 ≤ n) : 0 ≤ nxV l a n ∧ nxV l a n < n := by
  unfold nxV
  split
  · omega
  · exact ⟨Int.tmod_nonneg _ (wth_in _).1, Int.tmod_lt_of_pos _ (by omega)⟩
theorem tTab_in : ∀ i, i < 9 → (tTab.map PV.str)[i]? = some (.str (tTab.getD i [])) := fun i h => by
  have h2 : i < tTab.length := h
  rw [List.getElem?_map, List.getD_eq_getElem?_getD, List.getElem?_eq_getElem h2]; rfl
theorem tTab_len : ∀ i, i < 9 → (tTab.getD i []).length ≤ 64 := by decide +kernel
theorem txtV_len (l : List Int) (a : Nat) : (txtV l a).length ≤ 64 := by
  have := nxV_in l a 9 (by decide)
  exact tTab_len _ (by omega)
theorem nxA_le (l : List Int) (a : Nat) (n : Int) (h : a ≤ l.length) : nxA l a n ≤ l.length := by unfold nxA; split <;> omega

theorem text_c11 {pre post : Store} (sh : Sh pre post) (k : SK) (l : List Int) (a : Nat) (hk : k = .nil → l = []) (hl : l.length < 9223372036854775808) (ha : a ≤ l.length) (K : AV → Store → Prop) (h : K (.p (.str (txtV l a))) (pre ++ tp k l (nxA l a 9) :: post)) :
    Cal Tryd.prog 11 [.ref pre.length 0] (pre ++ tp k l a :: post) K := by
  have hv := nxV_in l a 9 (by decide)
  have hg := tTab_in (nxV l a 9).toNat (by omega)
  refine Cal.intro Tryd.func11 (by decide +kernel) rfl rfl ?_
  cases sh
  case a =>
    refine next_c24 .a k l a 9 hk hl ha _ ?_
    refine Idx.mk (.str (txtV l a)) hv.1 hg ?_
    exact h
  case b x =>
    refine next_c24 (.b x) k l a 9 hk hl ha _ ?_
    refine Idx.mk (.str (txtV l a)) hv.1 hg ?_
    exact h
  case c k2 l2 a2 xs2 =>
    refine next_c24 (.c k2 l2 a2 xs2) k l a 9 hk hl ha _ ?_
    refine Idx.mk (.str (txtV l a)) hv.1 hg ?_
    exact h
  case d x y z =>
    refine next_c24 (.d x y z) k l a 9 hk hl ha _ ?_
    refine Idx.mk (.str (txtV l a)) hv.1 hg ?_
    exact h

def oAVi (id : Nat) : RL → AV
  | [] => .p (.sl .nil 0 [])
  | a :: l => .osl id (recsP (a :: l)).length 0 (recsP (a :: l)).length
def shortR (zs : RL) : Prop := ∀ x, x ∈ zs → x.1.length ≤ 64 ∧ x.2.length ≤ 64
def tSt (pre : Store) (t : Option AObj) : RL → Store
  | [] => pre ++ [t]
  | a :: l => pre ++ [t, some (.buf 2 (recsP (a :: l)))]

theorem tapeRecs_c {pre : Store} (sh : Sh pre []) (k : SK) (l : List Int) (a : Nat) (most : Int) (hm : 1 ≤ most) (hm2 : most ≤ 16) (hk : k = .nil → l = []) (hl : l.length < 9223372036854775808) (ha : a ≤ l.length) (K : AV → Store → Prop)
    (h : ∀ (z : List UInt8 × List UInt8) (zs : RL) (a' : Nat), a' ≤ l.length → (z :: zs).length ≤ most → shortR (z :: zs) → K (oAVi (pre.length + 1) (z :: zs)) (tSt pre (tp k l a') (z :: zs))) :
    Cal Tryd.prog 12 [.ref pre.length 0, .p (ii most)] (pre ++ [tp k l a]) K := by
  have hv := nxV_in l a most hm
  have e0 : IntKind.i64.wrap (1 + nxV l a most) = 1 + nxV l a most := by rw [wrap_i64] <;> omega
  have hA := nxA_le l a most ha
  cases sh
  case a =>
    refine Cal.intro Tryd.func12 (by decide +kernel) rfl rfl ?_
    refine next_c24 .a k l a most hk hl ha _ ?_
    refine LoopX.fam [0, 5, 6] (fun (j : Nat × RL × Nat) => ([(0, .ref 0 0), (5, oAVi 1 j.2.1), (6, .p (ii j.1))], tSt [] (tp k l j.2.2) j.2.1))
      (fun j => ((j.1 + j.2.1.length : Nat) : Int) = 1 + nxV l a most ∧ j.2.2 ≤ l.length ∧ shortR j.2.1) (fun j => j.1) ((1 + nxV l a most).toNat, [], nxA l a most)
      ⟨by simp; omega, hA, fun x hx => absurd hx (by simp)⟩ (Trim.mk' ?_ rfl rfl rfl (Nat.le_refl _)) ?_
    · have e1 : (((1 + nxV l a most).toNat : Nat) : Int) = IntKind.i64.wrap (1 + nxV l a most) := by rw [e0]; omega
      show _ = [_, _, (6, AV.p (ii (((1 + nxV l a most).toNat : Nat) : Int)))]
      rw [e1]; rfl
    rintro ⟨j, zs, b⟩ ⟨h1, h2, h3⟩
    change ((j + zs.length : Nat) : Int) = 1 + nxV l a most at h1
    change b ≤ l.length at h2
    change shortR zs at h3
    refine Br.mk (fun hc => ?_) (fun hc => ?_)
    · have hc : 0 < j := by simp at hc; omega
      obtain ⟨j, rfl⟩ : ∃ i, j = i + 1 := ⟨j - 1, by omega⟩
      have ej : IntKind.i64.wrap (((j + 1 : Nat) : Int) - 1) = (j : Int) := by rw [wrap_i64] <;> omega
      have hA1 := nxA_le l b 9 h2
      have hA2 := nxA_le l (nxA l b 9) 9 hA1
      have hsh : shortR (zs ++ [(txtV l b, txtV l (nxA l b 9))]) := fun x hx => by
        rcases List.mem_append.1 hx with hx | hx
        · exact h3 x hx
        · simp at hx; subst hx; exact ⟨txtV_len _ _, txtV_len _ _⟩
      have hsum : ((j + (zs ++ [(txtV l b, txtV l (nxA l b 9))]).length : Nat) : Int) = 1 + nxV l a most := by simp at h1 ⊢; omega
      cases zs with
      | nil =>
        refine text_c11 .a k l b hk hl h2 _ ?_
        refine text_c11 .a k l _ hk hl hA1 _ ?_
        refine BrL.c (Ob.mk (Nat.le_of_ble_eq_true rfl) ?_)
        refine ⟨(j, [(txtV l b, txtV l (nxA l b 9))], nxA l (nxA l b 9) 9), ⟨hsum, hA2, hsh⟩, Nat.lt_succ_self _, Nat.le_of_ble_eq_true rfl, Trim.mk' ?_ rfl rfl rfl (Nat.le_refl _)⟩
        show _ = [_, _, (6, AV.p (ii (j : Int)))]
        rw [← ej]; rfl
      | cons z zs =>
        refine text_c11 (.b _) k l b hk hl h2 _ ?_
        refine text_c11 (.b _) k l _ hk hl hA1 _ ?_
        have er : recsP (z :: zs) ++ [rec2 (txtV l b) (txtV l (nxA l b 9))] = recsP (z :: zs ++ [(txtV l b, txtV l (nxA l b 9))]) := (recsP_app (z :: zs) [(txtV l b, txtV l (nxA l b 9))]).symm
        refine Ob.mk ⟨rfl, rfl, rfl, ?_⟩ ?_
        · rw [by26, recsP_len]; simp at h1 ⊢; omega
        refine ⟨(j, z :: zs ++ [(txtV l b, txtV l (nxA l b 9))], nxA l (nxA l b 9) 9), ⟨hsum, hA2, hsh⟩, Nat.lt_succ_self _, Nat.le_of_ble_eq_true rfl, Trim.mk' ?_ ?_ rfl ?_ (Nat.le_refl _)⟩
        · show _ = [_, (5, AV.osl 1 (recsP (z :: zs ++ [(txtV l b, txtV l (nxA l b 9))])).length 0 (recsP (z :: zs ++ [(txtV l b, txtV l (nxA l b 9))])).length), (6, AV.p (ii (j : Int)))]
          rw [← ej, ← er]; rfl
        · show _ = [_, some (AObj.buf 2 (recsP (z :: zs ++ [(txtV l b, txtV l (nxA l b 9))])))]
          rw [← er]; rfl
        · rfl
    · have hc : j = 0 := by simp at hc; omega
      subst hc
      cases zs with
      | nil => exact absurd h1 (by simp; omega)
      | cons z zs => exact h z zs b h2 (by simp at h1 ⊢; omega) h3
  case c k2 l2 a2 xs2 =>
    refine Cal.intro Tryd.func12 (by decide +kernel) rfl rfl ?_
    refine next_c24 (.c k2 l2 a2 xs2) k l a most hk hl ha _ ?_
    refine LoopX.fam [0, 5, 6] (fun (j : Nat × RL × Nat) => ([(0, .ref 2 0), (5, oAVi 3 j.2.1), (6, .p (ii j.1))], tSt [tp k2 l2 a2, none] (tp k l j.2.2) j.2.1))
      (fun j => ((j.1 + j.2.1.length : Nat) : Int) = 1 + nxV l a most ∧ j.2.2 ≤ l.length ∧ shortR j.2.1) (fun j => j.1) ((1 + nxV l a most).toNat, [], nxA l a most)
      ⟨by simp; omega, hA, fun x hx => absurd hx (by simp)⟩ (Trim.mk' ?_ rfl rfl rfl (Nat.le_refl _)) ?_
    · have e1 : (((1 + nxV l a most).toNat : Nat) : Int) = IntKind.i64.wrap (1 + nxV l a most) := by rw [e0]; omega
      show _ = [_, _, (6, AV.p (ii (((1 + nxV l a most).toNat : Nat) : Int)))]
      rw [e1]; rfl
    rintro ⟨j, zs, b⟩ ⟨h1, h2, h3⟩
    change ((j + zs.length : Nat) : Int) = 1 + nxV l a most at h1
    change b ≤ l.length at h2
    change shortR zs at h3
    refine Br.mk (fun hc => ?_) (fun hc => ?_)
    · have hc : 0 < j := by simp at hc; omega
      obtain ⟨j, rfl⟩ : ∃ i, j = i + 1 := ⟨j - 1, by omega⟩
      have ej : IntKind.i64.wrap (((j + 1 : Nat) : Int) - 1) = (j : Int) := by rw [wrap_i64] <;> omega
      have hA1 := nxA_le l b 9 h2
      have hA2 := nxA_le l (nxA l b 9) 9 hA1
      have hsh : shortR (zs ++ [(txtV l b, txtV l (nxA l b 9))]) := fun x hx => by
        rcases List.mem_append.1 hx with hx | hx
        · exact h3 x hx
        · simp at hx; subst hx; exact ⟨txtV_len _ _, txtV_len _ _⟩
      have hsum : ((j + (zs ++ [(txtV l b, txtV l (nxA l b 9))]).length : Nat) : Int) = 1 + nxV l a most := by simp at h1 ⊢; omega
      cases zs with
      | nil =>
        refine text_c11 (.c k2 l2 a2 xs2) k l b hk hl h2 _ ?_
        refine text_c11 (.c k2 l2 a2 xs2) k l _ hk hl hA1 _ ?_
        refine BrL.c (Ob.mk (Nat.le_of_ble_eq_true rfl) ?_)
        refine ⟨(j, [(txtV l b, txtV l (nxA l b 9))], nxA l (nxA l b 9) 9), ⟨hsum, hA2, hsh⟩, Nat.lt_succ_self _, Nat.le_of_ble_eq_true rfl, Trim.mk' ?_ rfl rfl rfl (Nat.le_refl _)⟩
        show _ = [_, _, (6, AV.p (ii (j : Int)))]
        rw [← ej]; rfl
      | cons z zs =>
        refine text_c11 (.d _ _ _) k l b hk hl h2 _ ?_
        refine text_c11 (.d _ _ _) k l _ hk hl hA1 _ ?_
        have er : recsP (z :: zs) ++ [rec2 (txtV l b) (txtV l (nxA l b 9))] = recsP (z :: zs ++ [(txtV l b, txtV l (nxA l b 9))]) := (recsP_app (z :: zs) [(txtV l b, txtV l (nxA l b 9))]).symm
        refine Ob.mk ⟨rfl, rfl, rfl, ?_⟩ ?_
        · rw [by26, recsP_len]; simp at h1 ⊢; omega
        refine ⟨(j, z :: zs ++ [(txtV l b, txtV l (nxA l b 9))], nxA l (nxA l b 9) 9), ⟨hsum, hA2, hsh⟩, Nat.lt_succ_self _, Nat.le_of_ble_eq_true rfl, Trim.mk' ?_ ?_ rfl ?_ (Nat.le_refl _)⟩
        · show _ = [_, (5, AV.osl 3 (recsP (z :: zs ++ [(txtV l b, txtV l (nxA l b 9))])).length 0 (recsP (z :: zs ++ [(txtV l b, txtV l (nxA l b 9))])).length), (6, AV.p (ii (j : Int)))]
          rw [← ej, ← er]; rfl
        · show _ = [_, _, _, some (AObj.buf 2 (recsP (z :: zs ++ [(txtV l b, txtV l (nxA l b 9))])))]
          rw [← er]; rfl
        · rfl
    · have hc : j = 0 := by simp at hc; omega
      subst hc
      cases zs with
      | nil => exact absurd h1 (by simp; omega)
      | cons z zs => exact h z zs b h2 (by simp at h1 ⊢; omega) h3
end Go.Proofs.YtnopnmlpibdioaaDoor.AW

open Go Go.Proofs.YtnopnmlpibdioaaDoor.AW Go.Proofs
namespace Go.Proofs.YtnopnmlpibdioaaDoor.AW
set_option maxRecDepth 100000
set_option linter.unusedSimpArgs false
set_option linter.unusedVariables false

theorem sameRecs_c (k k2 : SK) (sz sz2 : Nat) (l : RL) (hk : l = [] ∨ (sz = 2 ∧ sz2 = 2)) (hl : l.length < 4611686018427387904) (s : Store) (K : AV → Store → Prop) (h : K (.p (.bool true)) s) : Cal Tryd.prog 13 [.p (.sl k sz (recsP l)), .p (.sl k2 sz2 (recsP l))] s K := by
  refine Cal.pure (args := [.sl k sz (recsP l), .sl k2 sz2 (recsP l)]) ?_
  refine Cal.intro Tryd.func13 (by decide +kernel) rfl rfl ?_
  have hlen := recsP_len l
  refine Br.f (by simp) ?_
  refine LoopX.fam [0, 1, 12, 13] (fun (j : Nat) => ([(0, .p (.sl k sz (recsP l))), (1, .p (.sl k2 sz2 (recsP l))), (12, .p (ii l.length)), (13, .p (ii j))], []))
    (fun j => j ≤ l.length) (fun j => l.length - j) 0 (Nat.zero_le _) (Trim.mk' ?_ rfl rfl rfl (Nat.le_refl _)) ?_
  · rw [← hlen]; rfl
  intro j hj
  have hj : j ≤ l.length := hj
  refine Br.mk (fun hc => ?_) (fun hc => ?_)
  · have hc : j < l.length := by simp at hc; omega
    rcases hk with rfl | ⟨rfl, rfl⟩
    · simp at hc
    have hget := recsP_get hc
    iterate 2 refine ⟨_, ⟨rfl, rfl⟩, ?_⟩
    refine ⟨_, Idx.mk (rec2 l[j].1 l[j].2) (by omega) (by rw [Int.toNat_natCast]; exact hget) ⟨rfl, rfl⟩, ?_⟩
    iterate 3 refine ⟨_, ⟨rfl, rfl⟩, ?_⟩
    refine ⟨_, Idx.mk (rec2 l[j].1 l[j].2) (by omega) (by rw [Int.toNat_natCast]; exact hget) ⟨rfl, rfl⟩, ?_⟩
    refine ⟨_, ⟨rfl, rfl⟩, ?_⟩
    refine ⟨_, Ob.mk ⟨by kernel_rfl, by kernel_rfl⟩ ⟨rfl, rfl⟩, ?_⟩
    refine Chk.mk (by kernel_rfl) ?_
    refine Br.f (by simp) ?_
    refine ⟨j + 1, hc, by omega, Nat.le_refl _, Trim.mk' ?_ rfl rfl rfl (Nat.le_refl _)⟩
    have e : IntKind.i64.wrap ((j : Int) + 1) = ((j + 1 : Nat) : Int) := by rw [wrap_i64] <;> omega
    rw [← e]; rfl
  · exact h
end Go.Proofs.YtnopnmlpibdioaaDoor.AW

open Go Go.Proofs.YtnopnmlpibdioaaDoor.AW Go.Proofs
namespace Go.Proofs.YtnopnmlpibdioaaDoor.AW
set_option maxRecDepth 100000
set_option linter.unusedSimpArgs false
set_option linter.unusedVariables false

/-- The nine values that have no text. -/
def L9 (s : List UInt8) (fl : PV) : List PV := [.lit .nilIface, .iface 52 fl, .iface 33 (.agg [ii 1]), .iface 53 (.pto [ii 0]), .iface 36 (.sl .clip 1 [ii 1]), .iface 5 (.int .u8 2), .iface 43 (.sl .clip 1 [.iface 9 (.str s)]), .iface 29 (ii 1), .iface 22 (.sl .clip 1 [.str s])]
theorem L9_any (s : List UInt8) (fl : PV) : ∀ j, j < 9 → ∃ x, (L9 s fl)[j]? = some x ∧ Any x [] false := by
  intro j hj
  match j, hj with
  | 0, _ => exact ⟨_, rfl, .nil⟩
  | 1, _ => exact ⟨_, rfl, .oth 52 _ (by simp)⟩
  | 2, _ => exact ⟨_, rfl, .oth 33 _ (by simp)⟩
  | 3, _ => exact ⟨_, rfl, .oth 53 _ (by simp)⟩
  | 4, _ => exact ⟨_, rfl, .oth 36 _ (by simp)⟩
  | 5, _ => exact ⟨_, rfl, .oth 5 _ (by simp)⟩
  | 6, _ => exact ⟨_, rfl, .oth 43 _ (by simp)⟩
  | 7, _ => exact ⟨_, rfl, .oth 29 _ (by simp)⟩
  | 8, _ => exact ⟨_, rfl, .oth 22 _ (by simp)⟩

theorem number_v (n : Int) (h1 : -9223372036854775808 ≤ n) (h2 : n < 9223372036854775808) {v : Int} (hv : v = n) (s : Store) (K : AV → Store → Prop) (h : K (.p (.str (fmtS n))) s) : Cal Tryd.prog 18 [.p (ii v)] s K := by
  subst hv; exact number_c v h1 h2 s K h

theorem texts_c (s : List UInt8) (n r : Int) (b : Bool) (xa xb : List UInt8) (hn1 : -9223372036854775808 ≤ n) (hn2 : n < 9223372036854775808) (hr1 : -2147483648 ≤ r) (hr2 : r < 2147483648)
    (ha : xa.length < 1099511627776) (hb : xb.length < 1099511627776) (st : Store) (K : AV → Store → Prop) (h : K (.p (.bool true)) st) : Cal Tryd.prog 7 [.p (.str s), .p (ii n), .p (.int .i32 r), .p (.bool b), .p (rec2 xa xb)] st K := by
  refine Cal.pure (args := [.str s, ii n, .int .i32 r, .bool b, rec2 xa xb]) ?_
  refine Cal.intro Tryd.func7 (by decide +kernel) rfl rfl ?_
  refine LoopX.fam [0, 1, 2, 3, 9, 31, 32, 33] (fun (j : Nat) => ([(0, .p (.str s)), (1, .p (ii n)), (2, .p (.int .i32 r)), (3, .p (.bool b)), (9, .ref 0 0), (31, .p (.sl .clip 1 (L9 s _))), (32, .p (ii 9)), (33, .p (ii j))], [some (.cells [.p (.str xa), .p (.str xb)]), none]))
    (fun j => j ≤ 9) (fun j => 9 - j) 0 (Nat.zero_le _) (Trim.mk' rfl rfl rfl rfl (Nat.le_refl _)) ?_
  intro j hj
  have hj : j ≤ 9 := hj
  refine Br.mk (fun hc => ?_) (fun hc => ?_)
  · have hc : j < 9 := by simp at hc; omega
    obtain ⟨x, hx, hax⟩ := L9_any s _ j hc
    refine Idx.mk x (by omega) (by rw [Int.toNat_natCast]; exact hx) ?_
    refine load1 hax.one ?_
    refine textYes_c hax rfl rfl _ _ ?_
    refine Br.f rfl ?_
    refine ⟨j + 1, hc, by omega, Nat.le_refl _, Trim.mk' ?_ rfl rfl rfl (Nat.le_refl _)⟩
    have e : IntKind.i64.wrap ((j : Int) + 1) = ((j + 1 : Nat) : Int) := by rw [wrap_i64] <;> omega
    rw [← e]; rfl
  · have hwr : IntKind.i64.wrap r = r := by rw [wrap_i64] <;> omega
    cases b with
    | true =>
      refine Br.t rfl ?_
      repeat (first | refine Br.t rfl ?_ | refine ⟨_, ⟨rfl, rfl⟩, ?_⟩ | refine ⟨_, Br.t rfl ⟨rfl, rfl⟩, ?_⟩)
      refine ⟨_, fun s' => textYes_c (.str s) rfl rfl s' _ ⟨rfl, rfl⟩, rfl, ?_⟩
      repeat (first | refine Br.t rfl ?_ | refine ⟨_, ⟨rfl, rfl⟩, ?_⟩ | refine ⟨_, Br.t rfl ⟨rfl, rfl⟩, ?_⟩)
      refine ⟨_, fun s' => textYes_c (.by .shr s 1 (.inr rfl)) rfl rfl s' _ ⟨rfl, rfl⟩, rfl, ?_⟩
      repeat (first | refine Br.t rfl ?_ | refine ⟨_, ⟨rfl, rfl⟩, ?_⟩ | refine ⟨_, Br.t rfl ⟨rfl, rfl⟩, ?_⟩)
      refine ⟨_, fun s' => number_c n hn1 hn2 s' _ ⟨rfl, rfl⟩, rfl, ?_⟩
      refine Br.t rfl ?_
      refine ⟨_, fun s' => textYes_c (.i64 n hn1 hn2) rfl rfl s' _ ⟨rfl, rfl⟩, rfl, ?_⟩
      repeat (first | refine Br.t rfl ?_ | refine ⟨_, ⟨rfl, rfl⟩, ?_⟩ | refine ⟨_, Br.t rfl ⟨rfl, rfl⟩, ?_⟩)
      refine ⟨_, fun s' => number_c n hn1 hn2 s' _ ⟨rfl, rfl⟩, rfl, ?_⟩
      refine Br.t rfl ?_
      refine ⟨_, fun s' => textYes_c (.int n hn1 hn2) rfl rfl s' _ ⟨rfl, rfl⟩, rfl, ?_⟩
      repeat (first | refine Br.t rfl ?_ | refine ⟨_, ⟨rfl, rfl⟩, ?_⟩ | refine ⟨_, Br.t rfl ⟨rfl, rfl⟩, ?_⟩)
      refine ⟨_, fun s' => number_v r (by omega) (by omega) hwr s' _ ⟨rfl, rfl⟩, rfl, ?_⟩
      refine Br.t rfl ?_
      refine ⟨_, fun s' => textYes_c (.i32 r hr1 hr2) rfl rfl s' _ ⟨rfl, rfl⟩, rfl, ?_⟩
      repeat (first | refine Br.t rfl ?_ | refine ⟨_, ⟨rfl, rfl⟩, ?_⟩ | refine ⟨_, Br.t rfl ⟨rfl, rfl⟩, ?_⟩)
      refine ⟨_, fun s' => textYes_c (.bool true) rfl rfl s' _ ⟨rfl, rfl⟩, rfl, ?_⟩
      repeat (first | refine Br.t rfl ?_ | refine ⟨_, ⟨rfl, rfl⟩, ?_⟩ | refine ⟨_, Br.t rfl ⟨rfl, rfl⟩, ?_⟩)
      refine ⟨_, fun s' => tellRec_c xa xb ha hb s' _ ⟨rfl, rfl⟩, rfl, ?_⟩
      refine Br.t rfl ?_
      refine ⟨_, fun s' => textYes_c (.rc xa xb ha hb) rfl rfl s' _ ⟨rfl, rfl⟩, rfl, ?_⟩
      repeat (first | refine Br.t rfl ?_ | refine ⟨_, ⟨rfl, rfl⟩, ?_⟩ | refine ⟨_, Br.t rfl ⟨rfl, rfl⟩, ?_⟩)
      refine Chk.mk (by kernel_rfl) ?_
      exact h
    | false =>
      refine Br.f rfl ?_
      repeat (first | refine Br.t rfl ?_ | refine ⟨_, ⟨rfl, rfl⟩, ?_⟩ | refine ⟨_, Br.t rfl ⟨rfl, rfl⟩, ?_⟩)
      refine ⟨_, fun s' => textYes_c (.str s) rfl rfl s' _ ⟨rfl, rfl⟩, rfl, ?_⟩
      repeat (first | refine Br.t rfl ?_ | refine ⟨_, ⟨rfl, rfl⟩, ?_⟩ | refine ⟨_, Br.t rfl ⟨rfl, rfl⟩, ?_⟩)
      refine ⟨_, fun s' => textYes_c (.by .shr s 1 (.inr rfl)) rfl rfl s' _ ⟨rfl, rfl⟩, rfl, ?_⟩
      repeat (first | refine Br.t rfl ?_ | refine ⟨_, ⟨rfl, rfl⟩, ?_⟩ | refine ⟨_, Br.t rfl ⟨rfl, rfl⟩, ?_⟩)
      refine ⟨_, fun s' => number_c n hn1 hn2 s' _ ⟨rfl, rfl⟩, rfl, ?_⟩
      refine Br.t rfl ?_
      refine ⟨_, fun s' => textYes_c (.i64 n hn1 hn2) rfl rfl s' _ ⟨rfl, rfl⟩, rfl, ?_⟩
      repeat (first | refine Br.t rfl ?_ | refine ⟨_, ⟨rfl, rfl⟩, ?_⟩ | refine ⟨_, Br.t rfl ⟨rfl, rfl⟩, ?_⟩)
      refine ⟨_, fun s' => number_c n hn1 hn2 s' _ ⟨rfl, rfl⟩, rfl, ?_⟩
      refine Br.t rfl ?_
      refine ⟨_, fun s' => textYes_c (.int n hn1 hn2) rfl rfl s' _ ⟨rfl, rfl⟩, rfl, ?_⟩
      repeat (first | refine Br.t rfl ?_ | refine ⟨_, ⟨rfl, rfl⟩, ?_⟩ | refine ⟨_, Br.t rfl ⟨rfl, rfl⟩, ?_⟩)
      refine ⟨_, fun s' => number_v r (by omega) (by omega) hwr s' _ ⟨rfl, rfl⟩, rfl, ?_⟩
      refine Br.t rfl ?_
      refine ⟨_, fun s' => textYes_c (.i32 r hr1 hr2) rfl rfl s' _ ⟨rfl, rfl⟩, rfl, ?_⟩
      repeat (first | refine Br.t rfl ?_ | refine ⟨_, ⟨rfl, rfl⟩, ?_⟩ | refine ⟨_, Br.t rfl ⟨rfl, rfl⟩, ?_⟩)
      refine ⟨_, fun s' => textYes_c (.bool false) rfl rfl s' _ ⟨rfl, rfl⟩, rfl, ?_⟩
      repeat (first | refine Br.t rfl ?_ | refine ⟨_, ⟨rfl, rfl⟩, ?_⟩ | refine ⟨_, Br.t rfl ⟨rfl, rfl⟩, ?_⟩)
      refine ⟨_, fun s' => tellRec_c xa xb ha hb s' _ ⟨rfl, rfl⟩, rfl, ?_⟩
      refine Br.t rfl ?_
      refine ⟨_, fun s' => textYes_c (.rc xa xb ha hb) rfl rfl s' _ ⟨rfl, rfl⟩, rfl, ?_⟩
      repeat (first | refine Br.t rfl ?_ | refine ⟨_, ⟨rfl, rfl⟩, ?_⟩ | refine ⟨_, Br.t rfl ⟨rfl, rfl⟩, ?_⟩)
      refine Chk.mk (by kernel_rfl) ?_
      exact h
end Go.Proofs.YtnopnmlpibdioaaDoor.AW

open Go Go.Proofs.YtnopnmlpibdioaaDoor.AW Go.Proofs
namespace Go.Proofs.YtnopnmlpibdioaaDoor.AW
set_option maxRecDepth 100000
set_option linter.unusedSimpArgs false
set_option linter.unusedVariables false

theorem dec_len : ∀ (f u : Nat), (dec f u).length ≤ f + 1
  | 0, u => by simp [dec]
  | f + 1, u => by
    unfold dec
    split
    · simp
    · have := dec_len f (u / 10)
      simp; omega
theorem fmtS_len (n : Int) : (fmtS n).length ≤ 22 := by
  unfold fmtS decS
  have := dec_len 20 n.natAbs
  split
  · simp; omega
  · omega

def sumL (key value : List UInt8) (n : Int) (l : RL) : RL := l ++ [(key, fmtS n), ([107], value)]
theorem isLong_key (key : List UInt8) (n : Int) : isLong key (fmtS n) = decide (64 < key.length) := by
  unfold isLong
  have := fmtS_len n
  have h2 : decide (64 < (fmtS n).length) = false := by simp; omega
  rw [h2, Bool.or_false]
theorem isLong_val (value : List UInt8) : isLong [107] value = decide (64 < value.length) := by
  unfold isLong
  rw [show decide (64 < ([107] : List UInt8).length) = false from rfl, Bool.false_or]

def els (key value : List UInt8) (n : Int) (k : SK) (sz : Nat) (l : RL) : List Elt := [.rs k sz l, .v (.iface 9 (.str key)) key true, .v (.iface 2 (ii n)) (fmtS n) true, .r [107] value]

theorem goR_els (key value : List UInt8) (n : Int) (k : SK) (sz : Nat) (l : RL) : goR (els key value n k sz l) [] =
    if (sumL key value n l).any lng = true then ([], 13) else if 16 < (sumL key value n l).length then ([], 3) else (sumL key value n l, 0) := by
  have e1 : (sumL key value n l).any lng = (l.any lng || (isLong key (fmtS n) || isLong [107] value)) := by simp [sumL, lng]
  rw [e1]
  unfold els
  rw [goR]
  cases h1 : l.any lng with
  | true => rfl
  | false =>
    rw [if_neg (by decide), goR_v]
    cases h2 : isLong key (fmtS n) with
    | true =>
      have : recE key (Elt.v (.iface 2 (ii n)) (fmtS n) true).txt true (Elt.v (.iface 2 (ii n)) (fmtS n) true).ok = 13 := by
        unfold recE; simp [Elt.txt, Elt.ok, h2]
      rw [if_neg (by rw [this]; decide), this]; rfl
    | false =>
      have : recE key (Elt.v (.iface 2 (ii n)) (fmtS n) true).txt true (Elt.v (.iface 2 (ii n)) (fmtS n) true).ok = 0 := by
        unfold recE; simp [Elt.txt, Elt.ok, h2]
      have hq : recQ key (Elt.v (.iface 2 (ii n)) (fmtS n) true).txt true (Elt.v (.iface 2 (ii n)) (fmtS n) true).ok = (key, fmtS n) := by
        unfold recQ; simp [Elt.txt, Elt.ok, h2]
      rw [if_pos this, hq, goR]
      cases h3 : isLong [107] value with
      | true => rfl
      | false =>
        rw [if_neg (by decide), goR]
        have e2 : [] ++ l ++ [(key, fmtS n)] ++ [([107], value)] = sumL key value n l := by simp [sumL]
        rw [e2]; rfl

theorem els_wf (key value : List UInt8) (n : Int) (k : SK) (sz : Nat) (l : RL) (hn1 : -9223372036854775808 ≤ n) (hn2 : n < 9223372036854775808) (hv : value.length < 1099511627776)
    (hk : (k = .nil ∧ l = []) ∨ (k ≠ .nil ∧ sz = 2)) (hl : l.length < 1048576) : ∀ x, x ∈ els key value n k sz l → x.Wf := by
  intro x hx
  unfold els at hx
  simp only [List.mem_cons, List.not_mem_nil, or_false] at hx
  rcases hx with rfl | rfl | rfl | rfl
  · exact .rs _ _ _ hk hl
  · exact .v _ _ _ (.str key) (by simp) (by simp)
  · exact .v _ _ _ (.i64 n hn1 hn2) (by simp) (by simp)
  · exact .r _ _ (by simp) hv
end Go.Proofs.YtnopnmlpibdioaaDoor.AW

open Go Go.Proofs.YtnopnmlpibdioaaDoor.AW Go.Proofs
namespace Go.Proofs.YtnopnmlpibdioaaDoor.AW
set_option maxRecDepth 100000
set_option linter.unusedSimpArgs false
set_option linter.unusedVariables false

theorem recs_v (k : SK) (hk : k ≠ .nil) (es0 : List Elt) (hw : ∀ x, x ∈ es0 → x.Wf) (hl : es0.length ≤ 1048576) (R : RL × Int) (hR : goR es0 [] = R) (s : Store) (K : AV → Store → Prop) (h : K (.tup [.p (outP R.1), .p (ii R.2)]) s) : Cal Tryd.prog 9 [.p (.sl k 1 (es0.map Elt.pv))] s K := by
  subst hR; exact recs_c k hk es0 hw hl s K h
theorem any_take_succ {S : RL} {j : Nat} (h : j < S.length) : (S.take (j + 1)).any lng = ((S.take j).any lng || (decide (64 < S[j].1.length) || decide (64 < S[j].2.length))) := by
  rw [List.take_add_one, List.any_append, List.getElem?_eq_getElem h]
  simp [lng, isLong]

def aAV (l : RL) : AV := match l with
  | [] => .p (.sl .clip 2 [])
  | a :: l => .osl 4 (recsP (a :: l)).length 0 (recsP (a :: l)).length
def aSt8 (o0 o1 o2 o3 : Option AObj) (l : RL) : Store := match l with
  | [] => [o0, o1, o2, o3]
  | a :: l => [o0, o1, o2, o3, some (.buf 2 (recsP (a :: l)))]
theorem lemA (o0 o1 o2 o3 : Option AObj) (k : SK) (sz : Nat) (l : RL) (hk : (k = .nil ∧ l = []) ∨ (k ≠ .nil ∧ sz = 2)) (hl : l.length < 1048000) (K : AV → Store → Prop) (h : K (aAV l) (aSt8 o0 o1 o2 o3 l)) :
    builtinA Tryd.prog .append [28, 28] [.p (.sl .clip 2 []), .p (.sl k sz (recsP l))] [o0, o1, o2, o3] K := by
  have main : ∀ {k : SK}, k ≠ .nil → appA Tryd.prog 28 (.p (.sl .clip 2 [])) 2 (recsP l) [o0, o1, o2, o3] K := by
    intro k hkn
    cases l with
    | nil => exact BrL.n h
    | cons a l =>
      refine BrL.c (Ob.mk ?_ h)
      rw [by26, recsP_len]; simp at hl ⊢; omega
  rcases hk with ⟨rfl, rfl⟩ | ⟨hkn, rfl⟩
  · exact BrL.n h
  · cases k with
    | nil => exact absurd rfl hkn
    | shr => exact main (k := .shr) (by decide)
    | clip => exact main (k := .clip) (by decide)
theorem recs8_A (key value : List UInt8) (n : Int) (k : SK) (sz : Nat) (l : RL) (hn1 : -9223372036854775808 ≤ n) (hn2 : n < 9223372036854775808) (hv : value.length < 1099511627776)
    (hk : (k = .nil ∧ l = []) ∨ (k ≠ .nil ∧ sz = 2)) (hl : l.length < 1048000) (hlong : decide (64 < key.length) = true) (s : Store) (K : AV → Store → Prop) (h : K (.p (.bool true)) s) :
    Cal Tryd.prog 8 [.p (.str key), .p (.str value), .p (ii n), .p (.sl k sz (recsP l))] s K := by
  refine Cal.pure (args := [.str key, .str value, ii n, .sl k sz (recsP l)]) ?_
  refine Cal.intro Tryd.func8 (by decide +kernel) rfl rfl ?_
  refine rec_c (.str key) (.i64 n hn1 hn2) _ _ ?_
  have hG := goR_els key value n k sz l
  have hW := els_wf key value n k sz l hn1 hn2 hv hk (by omega)
  have hSl : (sumL key value n l).length = l.length + 2 := by simp [sumL]
  have hX : recsP l ++ [rec2 key (fmtS n), rec2 [107] value] = recsP (sumL key value n l) := (recsP_app l [(key, fmtS n), ([107], value)]).symm
  have hXl : (recsP l ++ [rec2 key (fmtS n), rec2 [107] value]).length = (sumL key value n l).length := by rw [hX, recsP_len]
  have hlrg : (sumL key value n l).any lng = (l.any lng || (isLong key (fmtS n) || isLong [107] value)) := by simp [sumL, lng]
  generalize hS : sumL key value n l = S at *
  have hGet : ∀ j, (hj : j < S.length) → (recsP l ++ [rec2 key (fmtS n), rec2 [107] value])[j]? = some (rec2 S[j].1 S[j].2) := fun j hj => by rw [hX]; exact recsP_get hj
  have hq : isLong key (fmtS n) = true := (isLong_key key n).trans hlong
  have e1 : recA key (fmtS n) true true = rec2 [] [] := by unfold recA recQ; simp [hq]
  have e2 : recE key (fmtS n) true true = 13 := by unfold recE; simp [hq]
  have hlg : S.any lng = true := by rw [hlrg, hq]; simp
  rw [e1, e2]
  refine Ob.mk (okst rfl rfl rfl) ?_
  refine number_c n hn1 hn2 _ _ ?_
  refine Ob.mk (okst rfl rfl rfl) ?_
  refine Br.t (by simp at hlong ⊢; omega) ?_
  refine Ob.mk (okst rfl rfl rfl) ?_
  refine Ob.mk ⟨by kernel_rfl, by kernel_rfl⟩ ?_
  repeat (first | refine Br.t rfl ?_ | refine Br.f rfl ?_)
  refine rec_c (.oth 33 _ (by simp)) (.str value) _ _ ?_
  refine Ob.mk (okst rfl rfl rfl) ?_
  refine rec_c (.str key) .nil _ _ ?_
  refine Ob.mk (okst rfl rfl rfl) ?_
  refine recs_v .clip (by decide) (els key value n k sz l) hW (by simp [els]) ([], 13) (by rw [hG, if_pos hlg]) _ _ ?_
  cases l with
  | nil =>
    refine lemA _ _ _ _ k sz [] hk hl _ ?_
    refine number_c n hn1 hn2 _ _ ?_
    refine BrL.c (Ob.mk (by rw [by26]; simp) ?_)
    refine LoopX.fam [14, 16, 17, 18, 19, 20, 86, 87, 88] (fun (q : Nat × Bool) => ([(14, .p (ii 1)), (16, .p (ii 1)), (17, .p (outP (([], 13) : RL × Int).1)), (18, .p (ii (([], 13) : RL × Int).2)), (19, .osl 4 (recsP [] ++ [rec2 key (fmtS n), rec2 [107] value]).length 0 (recsP [] ++ [rec2 key (fmtS n), rec2 [107] value]).length), (20, .p (.bool q.2)), (86, .osl 4 (recsP [] ++ [rec2 key (fmtS n), rec2 [107] value]).length 0 (recsP [] ++ [rec2 key (fmtS n), rec2 [107] value]).length), (87, .p (ii (recsP [] ++ [rec2 key (fmtS n), rec2 [107] value]).length)), (88, .p (ii q.1))], _))
      (fun q => q.1 ≤ S.length ∧ q.2 = (S.take q.1).any lng) (fun q => S.length - q.1) (0, false) ⟨Nat.zero_le _, rfl⟩ (Trim.mk' rfl rfl rfl rfl (Nat.le_refl _)) ?_
    rintro ⟨j, acc⟩ ⟨hj, hacc⟩
    change j ≤ S.length at hj
    change acc = (S.take j).any lng at hacc
    refine Br.mk (fun hc => ?_) (fun hc => ?_)
    · have hj1 : j < S.length := by simp only [hXl] at hc; simpa using hc
      have ej : IntKind.i64.wrap ((j : Int) + 1) = ((j + 1 : Nat) : Int) := by rw [wrap_i64] <;> omega
      have hnext := any_take_succ hj1
      refine Ob.mk ⟨rfl, by omega, by rw [hXl]; omega⟩ ?_
      refine Ob.mk rfl ?_
      refine Idx.mk (rec2 S[j].1 S[j].2) (by omega) (by rw [← hGet j hj1]; congr 1; simp) ?_
      refine Ob.mk (okst rfl rfl rfl) ?_
      cases acc with
      | true =>
        rw [← hacc, Bool.true_or] at hnext
        repeat (first | refine Br.t rfl ?_ | refine Br.f rfl ?_)
        refine ⟨(j + 1, true), ⟨hj1, hnext.symm⟩, by simp only; omega, Nat.le_refl _, Trim.mk' ?_ rfl rfl rfl (Nat.le_of_ble_eq_true rfl)⟩
        rw [← ej]; rfl
      | false =>
        rw [← hacc, Bool.false_or] at hnext
        cases hd1 : decide (64 < S[j].1.length) with
        | true =>
          rw [hd1, Bool.true_or] at hnext
          have hd2 : decide ((S[j].1.length : Int) > 64) = true := by simp at hd1 ⊢; omega
          repeat (first | refine Br.t rfl ?_ | refine Br.f rfl ?_ | refine Br.t hd2 ?_ | refine Br.f (congrArg (· == false) hd2) ?_)
          refine ⟨(j + 1, true), ⟨hj1, hnext.symm⟩, by simp only; omega, Nat.le_refl _, Trim.mk' ?_ rfl rfl rfl (Nat.le_of_ble_eq_true rfl)⟩
          rw [← ej]; rfl
        | false =>
          rw [hd1, Bool.false_or] at hnext
          have hd2 : decide ((S[j].1.length : Int) > 64) = false := by simp at hd1 ⊢; omega
          have hd3 : decide ((S[j].2.length : Int) > 64) = decide (64 < S[j].2.length) := by
            rw [decide_eq_decide]; omega
          repeat (first | refine Br.t rfl ?_ | refine Br.f rfl ?_ | refine Br.f hd2 ?_ | refine Br.t (congrArg (· == false) hd2) ?_)
          refine ⟨(j + 1, decide ((S[j].2.length : Int) > 64)), ⟨hj1, hd3.trans hnext.symm⟩, by simp only; omega, Nat.le_refl _, Trim.mk' ?_ rfl rfl rfl (Nat.le_of_ble_eq_true rfl)⟩
          rw [← ej]; rfl
    · have hj2 : j = S.length := by simp only [hXl] at hc; simp at hc; omega
      have hacc2 : acc = S.any lng := by rw [hacc, hj2, List.take_length]
      rw [hlg] at hacc2
      subst hacc2
      repeat (first | refine Br.t rfl ?_ | refine Br.f rfl ?_)
      exact h
  | cons a l =>
    refine lemA _ _ _ _ k sz (a :: l) hk hl _ ?_
    refine number_c n hn1 hn2 _ _ ?_
    refine Ob.mk ⟨rfl, rfl, rfl, (by rw [by26, recsP_len]; simp at hl ⊢; omega)⟩ ?_
    refine LoopX.fam [14, 16, 17, 18, 19, 20, 86, 87, 88] (fun (q : Nat × Bool) => ([(14, .p (ii 1)), (16, .p (ii 1)), (17, .p (outP (([], 13) : RL × Int).1)), (18, .p (ii (([], 13) : RL × Int).2)), (19, .osl 4 (recsP (a :: l) ++ [rec2 key (fmtS n), rec2 [107] value]).length 0 (recsP (a :: l) ++ [rec2 key (fmtS n), rec2 [107] value]).length), (20, .p (.bool q.2)), (86, .osl 4 (recsP (a :: l) ++ [rec2 key (fmtS n), rec2 [107] value]).length 0 (recsP (a :: l) ++ [rec2 key (fmtS n), rec2 [107] value]).length), (87, .p (ii (recsP (a :: l) ++ [rec2 key (fmtS n), rec2 [107] value]).length)), (88, .p (ii q.1))], _))
      (fun q => q.1 ≤ S.length ∧ q.2 = (S.take q.1).any lng) (fun q => S.length - q.1) (0, false) ⟨Nat.zero_le _, rfl⟩ (Trim.mk' rfl rfl rfl rfl (Nat.le_refl _)) ?_
    rintro ⟨j, acc⟩ ⟨hj, hacc⟩
    change j ≤ S.length at hj
    change acc = (S.take j).any lng at hacc
    refine Br.mk (fun hc => ?_) (fun hc => ?_)
    · have hj1 : j < S.length := by simp only [hXl] at hc; simpa using hc
      have ej : IntKind.i64.wrap ((j : Int) + 1) = ((j + 1 : Nat) : Int) := by rw [wrap_i64] <;> omega
      have hnext := any_take_succ hj1
      refine Ob.mk ⟨rfl, by omega, by rw [hXl]; omega⟩ ?_
      refine Ob.mk rfl ?_
      refine Idx.mk (rec2 S[j].1 S[j].2) (by omega) (by rw [← hGet j hj1]; congr 1; simp) ?_
      refine Ob.mk (okst rfl rfl rfl) ?_
      cases acc with
      | true =>
        rw [← hacc, Bool.true_or] at hnext
        repeat (first | refine Br.t rfl ?_ | refine Br.f rfl ?_)
        refine ⟨(j + 1, true), ⟨hj1, hnext.symm⟩, by simp only; omega, Nat.le_refl _, Trim.mk' ?_ rfl rfl rfl (Nat.le_of_ble_eq_true rfl)⟩
        rw [← ej]; rfl
      | false =>
        rw [← hacc, Bool.false_or] at hnext
        cases hd1 : decide (64 < S[j].1.length) with
        | true =>
          rw [hd1, Bool.true_or] at hnext
          have hd2 : decide ((S[j].1.length : Int) > 64) = true := by simp at hd1 ⊢; omega
          repeat (first | refine Br.t rfl ?_ | refine Br.f rfl ?_ | refine Br.t hd2 ?_ | refine Br.f (congrArg (· == false) hd2) ?_)
          refine ⟨(j + 1, true), ⟨hj1, hnext.symm⟩, by simp only; omega, Nat.le_refl _, Trim.mk' ?_ rfl rfl rfl (Nat.le_of_ble_eq_true rfl)⟩
          rw [← ej]; rfl
        | false =>
          rw [hd1, Bool.false_or] at hnext
          have hd2 : decide ((S[j].1.length : Int) > 64) = false := by simp at hd1 ⊢; omega
          have hd3 : decide ((S[j].2.length : Int) > 64) = decide (64 < S[j].2.length) := by
            rw [decide_eq_decide]; omega
          repeat (first | refine Br.t rfl ?_ | refine Br.f rfl ?_ | refine Br.f hd2 ?_ | refine Br.t (congrArg (· == false) hd2) ?_)
          refine ⟨(j + 1, decide ((S[j].2.length : Int) > 64)), ⟨hj1, hd3.trans hnext.symm⟩, by simp only; omega, Nat.le_refl _, Trim.mk' ?_ rfl rfl rfl (Nat.le_of_ble_eq_true rfl)⟩
          rw [← ej]; rfl
    · have hj2 : j = S.length := by simp only [hXl] at hc; simp at hc; omega
      have hacc2 : acc = S.any lng := by rw [hacc, hj2, List.take_length]
      rw [hlg] at hacc2
      subst hacc2
      repeat (first | refine Br.t rfl ?_ | refine Br.f rfl ?_)
      exact h

theorem recs8_B1 (key value : List UInt8) (n : Int) (k : SK) (sz : Nat) (l : RL) (hn1 : -9223372036854775808 ≤ n) (hn2 : n < 9223372036854775808) (hv : value.length < 1099511627776)
    (hk : (k = .nil ∧ l = []) ∨ (k ≠ .nil ∧ sz = 2)) (hl : l.length < 1048000) (hlong : decide (64 < key.length) = false) (hlg : (sumL key value n l).any lng = true) (s : Store) (K : AV → Store → Prop) (h : K (.p (.bool true)) s) :
    Cal Tryd.prog 8 [.p (.str key), .p (.str value), .p (ii n), .p (.sl k sz (recsP l))] s K := by
  refine Cal.pure (args := [.str key, .str value, ii n, .sl k sz (recsP l)]) ?_
  refine Cal.intro Tryd.func8 (by decide +kernel) rfl rfl ?_
  refine rec_c (.str key) (.i64 n hn1 hn2) _ _ ?_
  have hG := goR_els key value n k sz l
  have hW := els_wf key value n k sz l hn1 hn2 hv hk (by omega)
  have hSl : (sumL key value n l).length = l.length + 2 := by simp [sumL]
  have hX : recsP l ++ [rec2 key (fmtS n), rec2 [107] value] = recsP (sumL key value n l) := (recsP_app l [(key, fmtS n), ([107], value)]).symm
  have hXl : (recsP l ++ [rec2 key (fmtS n), rec2 [107] value]).length = (sumL key value n l).length := by rw [hX, recsP_len]
  have hlrg : (sumL key value n l).any lng = (l.any lng || (isLong key (fmtS n) || isLong [107] value)) := by simp [sumL, lng]
  generalize hS : sumL key value n l = S at *
  have hGet : ∀ j, (hj : j < S.length) → (recsP l ++ [rec2 key (fmtS n), rec2 [107] value])[j]? = some (rec2 S[j].1 S[j].2) := fun j hj => by rw [hX]; exact recsP_get hj
  have hq : isLong key (fmtS n) = false := (isLong_key key n).trans hlong
  have e1 : recA key (fmtS n) true true = rec2 key (fmtS n) := by unfold recA recQ; simp [hq]
  have e2 : recE key (fmtS n) true true = 0 := by unfold recE; simp [hq]
  rw [e1, e2]
  refine Ob.mk (okst rfl rfl rfl) ?_
  refine number_c n hn1 hn2 _ _ ?_
  refine Ob.mk (okst rfl rfl rfl) ?_
  refine Br.f (by simp at hlong ⊢; omega) ?_
  refine Ob.mk ⟨by kernel_rfl, by kernel_rfl⟩ ?_
  have hk1 : (!(key == key && (fmtS n == fmtS n && true))) = false := by simp
  repeat (first | refine Br.t rfl ?_ | refine Br.f rfl ?_ | refine Br.f hk1 ?_ | refine Br.t (congrArg (· == false) hk1) ?_)
  refine rec_c (.oth 33 _ (by simp)) (.str value) _ _ ?_
  refine Ob.mk (okst rfl rfl rfl) ?_
  refine rec_c (.str key) .nil _ _ ?_
  refine Ob.mk (okst rfl rfl rfl) ?_
  refine recs_v .clip (by decide) (els key value n k sz l) hW (by simp [els]) ([], 13) (by rw [hG, if_pos hlg]) _ _ ?_
  cases l with
  | nil =>
    refine lemA _ _ _ _ k sz [] hk hl _ ?_
    refine number_c n hn1 hn2 _ _ ?_
    refine BrL.c (Ob.mk (by rw [by26]; simp) ?_)
    refine LoopX.fam [14, 16, 17, 18, 19, 20, 86, 87, 88] (fun (q : Nat × Bool) => ([(14, .p (ii 1)), (16, .p (ii 1)), (17, .p (outP (([], 13) : RL × Int).1)), (18, .p (ii (([], 13) : RL × Int).2)), (19, .osl 4 (recsP [] ++ [rec2 key (fmtS n), rec2 [107] value]).length 0 (recsP [] ++ [rec2 key (fmtS n), rec2 [107] value]).length), (20, .p (.bool q.2)), (86, .osl 4 (recsP [] ++ [rec2 key (fmtS n), rec2 [107] value]).length 0 (recsP [] ++ [rec2 key (fmtS n), rec2 [107] value]).length), (87, .p (ii (recsP [] ++ [rec2 key (fmtS n), rec2 [107] value]).length)), (88, .p (ii q.1))], _))
      (fun q => q.1 ≤ S.length ∧ q.2 = (S.take q.1).any lng) (fun q => S.length - q.1) (0, false) ⟨Nat.zero_le _, rfl⟩ (Trim.mk' rfl rfl rfl rfl (Nat.le_refl _)) ?_
    rintro ⟨j, acc⟩ ⟨hj, hacc⟩
    change j ≤ S.length at hj
    change acc = (S.take j).any lng at hacc
    refine Br.mk (fun hc => ?_) (fun hc => ?_)
    · have hj1 : j < S.length := by simp only [hXl] at hc; simpa using hc
      have ej : IntKind.i64.wrap ((j : Int) + 1) = ((j + 1 : Nat) : Int) := by rw [wrap_i64] <;> omega
      have hnext := any_take_succ hj1
      refine Ob.mk ⟨rfl, by omega, by rw [hXl]; omega⟩ ?_
      refine Ob.mk rfl ?_
      refine Idx.mk (rec2 S[j].1 S[j].2) (by omega) (by rw [← hGet j hj1]; congr 1; simp) ?_
      refine Ob.mk (okst rfl rfl rfl) ?_
      cases acc with
      | true =>
        rw [← hacc, Bool.true_or] at hnext
        repeat (first | refine Br.t rfl ?_ | refine Br.f rfl ?_)
        refine ⟨(j + 1, true), ⟨hj1, hnext.symm⟩, by simp only; omega, Nat.le_refl _, Trim.mk' ?_ rfl rfl rfl (Nat.le_of_ble_eq_true rfl)⟩
        rw [← ej]; rfl
      | false =>
        rw [← hacc, Bool.false_or] at hnext
        cases hd1 : decide (64 < S[j].1.length) with
        | true =>
          rw [hd1, Bool.true_or] at hnext
          have hd2 : decide ((S[j].1.length : Int) > 64) = true := by simp at hd1 ⊢; omega
          repeat (first | refine Br.t rfl ?_ | refine Br.f rfl ?_ | refine Br.t hd2 ?_ | refine Br.f (congrArg (· == false) hd2) ?_)
          refine ⟨(j + 1, true), ⟨hj1, hnext.symm⟩, by simp only; omega, Nat.le_refl _, Trim.mk' ?_ rfl rfl rfl (Nat.le_of_ble_eq_true rfl)⟩
          rw [← ej]; rfl
        | false =>
          rw [hd1, Bool.false_or] at hnext
          have hd2 : decide ((S[j].1.length : Int) > 64) = false := by simp at hd1 ⊢; omega
          have hd3 : decide ((S[j].2.length : Int) > 64) = decide (64 < S[j].2.length) := by
            rw [decide_eq_decide]; omega
          repeat (first | refine Br.t rfl ?_ | refine Br.f rfl ?_ | refine Br.f hd2 ?_ | refine Br.t (congrArg (· == false) hd2) ?_)
          refine ⟨(j + 1, decide ((S[j].2.length : Int) > 64)), ⟨hj1, hd3.trans hnext.symm⟩, by simp only; omega, Nat.le_refl _, Trim.mk' ?_ rfl rfl rfl (Nat.le_of_ble_eq_true rfl)⟩
          rw [← ej]; rfl
    · have hj2 : j = S.length := by simp only [hXl] at hc; simp at hc; omega
      have hacc2 : acc = S.any lng := by rw [hacc, hj2, List.take_length]
      rw [hlg] at hacc2
      subst hacc2
      repeat (first | refine Br.t rfl ?_ | refine Br.f rfl ?_)
      exact h
  | cons a l =>
    refine lemA _ _ _ _ k sz (a :: l) hk hl _ ?_
    refine number_c n hn1 hn2 _ _ ?_
    refine Ob.mk ⟨rfl, rfl, rfl, (by rw [by26, recsP_len]; simp at hl ⊢; omega)⟩ ?_
    refine LoopX.fam [14, 16, 17, 18, 19, 20, 86, 87, 88] (fun (q : Nat × Bool) => ([(14, .p (ii 1)), (16, .p (ii 1)), (17, .p (outP (([], 13) : RL × Int).1)), (18, .p (ii (([], 13) : RL × Int).2)), (19, .osl 4 (recsP (a :: l) ++ [rec2 key (fmtS n), rec2 [107] value]).length 0 (recsP (a :: l) ++ [rec2 key (fmtS n), rec2 [107] value]).length), (20, .p (.bool q.2)), (86, .osl 4 (recsP (a :: l) ++ [rec2 key (fmtS n), rec2 [107] value]).length 0 (recsP (a :: l) ++ [rec2 key (fmtS n), rec2 [107] value]).length), (87, .p (ii (recsP (a :: l) ++ [rec2 key (fmtS n), rec2 [107] value]).length)), (88, .p (ii q.1))], _))
      (fun q => q.1 ≤ S.length ∧ q.2 = (S.take q.1).any lng) (fun q => S.length - q.1) (0, false) ⟨Nat.zero_le _, rfl⟩ (Trim.mk' rfl rfl rfl rfl (Nat.le_refl _)) ?_
    rintro ⟨j, acc⟩ ⟨hj, hacc⟩
    change j ≤ S.length at hj
    change acc = (S.take j).any lng at hacc
    refine Br.mk (fun hc => ?_) (fun hc => ?_)
    · have hj1 : j < S.length := by simp only [hXl] at hc; simpa using hc
      have ej : IntKind.i64.wrap ((j : Int) + 1) = ((j + 1 : Nat) : Int) := by rw [wrap_i64] <;> omega
      have hnext := any_take_succ hj1
      refine Ob.mk ⟨rfl, by omega, by rw [hXl]; omega⟩ ?_
      refine Ob.mk rfl ?_
      refine Idx.mk (rec2 S[j].1 S[j].2) (by omega) (by rw [← hGet j hj1]; congr 1; simp) ?_
      refine Ob.mk (okst rfl rfl rfl) ?_
      cases acc with
      | true =>
        rw [← hacc, Bool.true_or] at hnext
        repeat (first | refine Br.t rfl ?_ | refine Br.f rfl ?_)
        refine ⟨(j + 1, true), ⟨hj1, hnext.symm⟩, by simp only; omega, Nat.le_refl _, Trim.mk' ?_ rfl rfl rfl (Nat.le_of_ble_eq_true rfl)⟩
        rw [← ej]; rfl
      | false =>
        rw [← hacc, Bool.false_or] at hnext
        cases hd1 : decide (64 < S[j].1.length) with
        | true =>
          rw [hd1, Bool.true_or] at hnext
          have hd2 : decide ((S[j].1.length : Int) > 64) = true := by simp at hd1 ⊢; omega
          repeat (first | refine Br.t rfl ?_ | refine Br.f rfl ?_ | refine Br.t hd2 ?_ | refine Br.f (congrArg (· == false) hd2) ?_)
          refine ⟨(j + 1, true), ⟨hj1, hnext.symm⟩, by simp only; omega, Nat.le_refl _, Trim.mk' ?_ rfl rfl rfl (Nat.le_of_ble_eq_true rfl)⟩
          rw [← ej]; rfl
        | false =>
          rw [hd1, Bool.false_or] at hnext
          have hd2 : decide ((S[j].1.length : Int) > 64) = false := by simp at hd1 ⊢; omega
          have hd3 : decide ((S[j].2.length : Int) > 64) = decide (64 < S[j].2.length) := by
            rw [decide_eq_decide]; omega
          repeat (first | refine Br.t rfl ?_ | refine Br.f rfl ?_ | refine Br.f hd2 ?_ | refine Br.t (congrArg (· == false) hd2) ?_)
          refine ⟨(j + 1, decide ((S[j].2.length : Int) > 64)), ⟨hj1, hd3.trans hnext.symm⟩, by simp only; omega, Nat.le_refl _, Trim.mk' ?_ rfl rfl rfl (Nat.le_of_ble_eq_true rfl)⟩
          rw [← ej]; rfl
    · have hj2 : j = S.length := by simp only [hXl] at hc; simp at hc; omega
      have hacc2 : acc = S.any lng := by rw [hacc, hj2, List.take_length]
      rw [hlg] at hacc2
      subst hacc2
      repeat (first | refine Br.t rfl ?_ | refine Br.f rfl ?_)
      exact h

theorem recs8_B2 (key value : List UInt8) (n : Int) (k : SK) (sz : Nat) (l : RL) (hn1 : -9223372036854775808 ≤ n) (hn2 : n < 9223372036854775808) (hv : value.length < 1099511627776)
    (hk : (k = .nil ∧ l = []) ∨ (k ≠ .nil ∧ sz = 2)) (hl : l.length < 1048000) (hlong : decide (64 < key.length) = false) (hlg : (sumL key value n l).any lng = false) (h16 : 16 < (sumL key value n l).length) (s : Store) (K : AV → Store → Prop) (h : K (.p (.bool true)) s) :
    Cal Tryd.prog 8 [.p (.str key), .p (.str value), .p (ii n), .p (.sl k sz (recsP l))] s K := by
  refine Cal.pure (args := [.str key, .str value, ii n, .sl k sz (recsP l)]) ?_
  refine Cal.intro Tryd.func8 (by decide +kernel) rfl rfl ?_
  refine rec_c (.str key) (.i64 n hn1 hn2) _ _ ?_
  have hG := goR_els key value n k sz l
  have hW := els_wf key value n k sz l hn1 hn2 hv hk (by omega)
  have hSl : (sumL key value n l).length = l.length + 2 := by simp [sumL]
  have hX : recsP l ++ [rec2 key (fmtS n), rec2 [107] value] = recsP (sumL key value n l) := (recsP_app l [(key, fmtS n), ([107], value)]).symm
  have hXl : (recsP l ++ [rec2 key (fmtS n), rec2 [107] value]).length = (sumL key value n l).length := by rw [hX, recsP_len]
  have hlrg : (sumL key value n l).any lng = (l.any lng || (isLong key (fmtS n) || isLong [107] value)) := by simp [sumL, lng]
  generalize hS : sumL key value n l = S at *
  have hGet : ∀ j, (hj : j < S.length) → (recsP l ++ [rec2 key (fmtS n), rec2 [107] value])[j]? = some (rec2 S[j].1 S[j].2) := fun j hj => by rw [hX]; exact recsP_get hj
  have hq : isLong key (fmtS n) = false := (isLong_key key n).trans hlong
  have e1 : recA key (fmtS n) true true = rec2 key (fmtS n) := by unfold recA recQ; simp [hq]
  have e2 : recE key (fmtS n) true true = 0 := by unfold recE; simp [hq]
  rw [e1, e2]
  refine Ob.mk (okst rfl rfl rfl) ?_
  refine number_c n hn1 hn2 _ _ ?_
  refine Ob.mk (okst rfl rfl rfl) ?_
  refine Br.f (by simp at hlong ⊢; omega) ?_
  refine Ob.mk ⟨by kernel_rfl, by kernel_rfl⟩ ?_
  have hk1 : (!(key == key && (fmtS n == fmtS n && true))) = false := by simp
  repeat (first | refine Br.t rfl ?_ | refine Br.f rfl ?_ | refine Br.f hk1 ?_ | refine Br.t (congrArg (· == false) hk1) ?_)
  refine rec_c (.oth 33 _ (by simp)) (.str value) _ _ ?_
  refine Ob.mk (okst rfl rfl rfl) ?_
  refine rec_c (.str key) .nil _ _ ?_
  refine Ob.mk (okst rfl rfl rfl) ?_
  refine recs_v .clip (by decide) (els key value n k sz l) hW (by simp [els]) ([], 3) (by rw [hG, if_neg (by rw [hlg]; decide), if_pos h16]) _ _ ?_
  cases l with
  | nil =>
    refine lemA _ _ _ _ k sz [] hk hl _ ?_
    refine number_c n hn1 hn2 _ _ ?_
    refine BrL.c (Ob.mk (by rw [by26]; simp) ?_)
    refine LoopX.fam [14, 16, 17, 18, 19, 20, 86, 87, 88] (fun (q : Nat × Bool) => ([(14, .p (ii 1)), (16, .p (ii 1)), (17, .p (outP (([], 3) : RL × Int).1)), (18, .p (ii (([], 3) : RL × Int).2)), (19, .osl 4 (recsP [] ++ [rec2 key (fmtS n), rec2 [107] value]).length 0 (recsP [] ++ [rec2 key (fmtS n), rec2 [107] value]).length), (20, .p (.bool q.2)), (86, .osl 4 (recsP [] ++ [rec2 key (fmtS n), rec2 [107] value]).length 0 (recsP [] ++ [rec2 key (fmtS n), rec2 [107] value]).length), (87, .p (ii (recsP [] ++ [rec2 key (fmtS n), rec2 [107] value]).length)), (88, .p (ii q.1))], _))
      (fun q => q.1 ≤ S.length ∧ q.2 = (S.take q.1).any lng) (fun q => S.length - q.1) (0, false) ⟨Nat.zero_le _, rfl⟩ (Trim.mk' rfl rfl rfl rfl (Nat.le_refl _)) ?_
    rintro ⟨j, acc⟩ ⟨hj, hacc⟩
    change j ≤ S.length at hj
    change acc = (S.take j).any lng at hacc
    refine Br.mk (fun hc => ?_) (fun hc => ?_)
    · have hj1 : j < S.length := by simp only [hXl] at hc; simpa using hc
      have ej : IntKind.i64.wrap ((j : Int) + 1) = ((j + 1 : Nat) : Int) := by rw [wrap_i64] <;> omega
      have hnext := any_take_succ hj1
      refine Ob.mk ⟨rfl, by omega, by rw [hXl]; omega⟩ ?_
      refine Ob.mk rfl ?_
      refine Idx.mk (rec2 S[j].1 S[j].2) (by omega) (by rw [← hGet j hj1]; congr 1; simp) ?_
      refine Ob.mk (okst rfl rfl rfl) ?_
      cases acc with
      | true =>
        rw [← hacc, Bool.true_or] at hnext
        repeat (first | refine Br.t rfl ?_ | refine Br.f rfl ?_)
        refine ⟨(j + 1, true), ⟨hj1, hnext.symm⟩, by simp only; omega, Nat.le_refl _, Trim.mk' ?_ rfl rfl rfl (Nat.le_of_ble_eq_true rfl)⟩
        rw [← ej]; rfl
      | false =>
        rw [← hacc, Bool.false_or] at hnext
        cases hd1 : decide (64 < S[j].1.length) with
        | true =>
          rw [hd1, Bool.true_or] at hnext
          have hd2 : decide ((S[j].1.length : Int) > 64) = true := by simp at hd1 ⊢; omega
          repeat (first | refine Br.t rfl ?_ | refine Br.f rfl ?_ | refine Br.t hd2 ?_ | refine Br.f (congrArg (· == false) hd2) ?_)
          refine ⟨(j + 1, true), ⟨hj1, hnext.symm⟩, by simp only; omega, Nat.le_refl _, Trim.mk' ?_ rfl rfl rfl (Nat.le_of_ble_eq_true rfl)⟩
          rw [← ej]; rfl
        | false =>
          rw [hd1, Bool.false_or] at hnext
          have hd2 : decide ((S[j].1.length : Int) > 64) = false := by simp at hd1 ⊢; omega
          have hd3 : decide ((S[j].2.length : Int) > 64) = decide (64 < S[j].2.length) := by
            rw [decide_eq_decide]; omega
          repeat (first | refine Br.t rfl ?_ | refine Br.f rfl ?_ | refine Br.f hd2 ?_ | refine Br.t (congrArg (· == false) hd2) ?_)
          refine ⟨(j + 1, decide ((S[j].2.length : Int) > 64)), ⟨hj1, hd3.trans hnext.symm⟩, by simp only; omega, Nat.le_refl _, Trim.mk' ?_ rfl rfl rfl (Nat.le_of_ble_eq_true rfl)⟩
          rw [← ej]; rfl
    · have hj2 : j = S.length := by simp only [hXl] at hc; simp at hc; omega
      have hacc2 : acc = S.any lng := by rw [hacc, hj2, List.take_length]
      rw [hlg] at hacc2
      subst hacc2
      refine Br.f rfl ?_
      refine Br.t (by rw [hXl]; simp; omega) ?_
      repeat (first | refine Br.t rfl ?_ | refine Br.f rfl ?_)
      exact h
  | cons a l =>
    refine lemA _ _ _ _ k sz (a :: l) hk hl _ ?_
    refine number_c n hn1 hn2 _ _ ?_
    refine Ob.mk ⟨rfl, rfl, rfl, (by rw [by26, recsP_len]; simp at hl ⊢; omega)⟩ ?_
    refine LoopX.fam [14, 16, 17, 18, 19, 20, 86, 87, 88] (fun (q : Nat × Bool) => ([(14, .p (ii 1)), (16, .p (ii 1)), (17, .p (outP (([], 3) : RL × Int).1)), (18, .p (ii (([], 3) : RL × Int).2)), (19, .osl 4 (recsP (a :: l) ++ [rec2 key (fmtS n), rec2 [107] value]).length 0 (recsP (a :: l) ++ [rec2 key (fmtS n), rec2 [107] value]).length), (20, .p (.bool q.2)), (86, .osl 4 (recsP (a :: l) ++ [rec2 key (fmtS n), rec2 [107] value]).length 0 (recsP (a :: l) ++ [rec2 key (fmtS n), rec2 [107] value]).length), (87, .p (ii (recsP (a :: l) ++ [rec2 key (fmtS n), rec2 [107] value]).length)), (88, .p (ii q.1))], _))
      (fun q => q.1 ≤ S.length ∧ q.2 = (S.take q.1).any lng) (fun q => S.length - q.1) (0, false) ⟨Nat.zero_le _, rfl⟩ (Trim.mk' rfl rfl rfl rfl (Nat.le_refl _)) ?_
    rintro ⟨j, acc⟩ ⟨hj, hacc⟩
    change j ≤ S.length at hj
    change acc = (S.take j).any lng at hacc
    refine Br.mk (fun hc => ?_) (fun hc => ?_)
    · have hj1 : j < S.length := by simp only [hXl] at hc; simpa using hc
      have ej : IntKind.i64.wrap ((j : Int) + 1) = ((j + 1 : Nat) : Int) := by rw [wrap_i64] <;> omega
      have hnext := any_take_succ hj1
      refine Ob.mk ⟨rfl, by omega, by rw [hXl]; omega⟩ ?_
      refine Ob.mk rfl ?_
      refine Idx.mk (rec2 S[j].1 S[j].2) (by omega) (by rw [← hGet j hj1]; congr 1; simp) ?_
      refine Ob.mk (okst rfl rfl rfl) ?_
      cases acc with
      | true =>
        rw [← hacc, Bool.true_or] at hnext
        repeat (first | refine Br.t rfl ?_ | refine Br.f rfl ?_)
        refine ⟨(j + 1, true), ⟨hj1, hnext.symm⟩, by simp only; omega, Nat.le_refl _, Trim.mk' ?_ rfl rfl rfl (Nat.le_of_ble_eq_true rfl)⟩
        rw [← ej]; rfl
      | false =>
        rw [← hacc, Bool.false_or] at hnext
        cases hd1 : decide (64 < S[j].1.length) with
        | true =>
          rw [hd1, Bool.true_or] at hnext
          have hd2 : decide ((S[j].1.length : Int) > 64) = true := by simp at hd1 ⊢; omega
          repeat (first | refine Br.t rfl ?_ | refine Br.f rfl ?_ | refine Br.t hd2 ?_ | refine Br.f (congrArg (· == false) hd2) ?_)
          refine ⟨(j + 1, true), ⟨hj1, hnext.symm⟩, by simp only; omega, Nat.le_refl _, Trim.mk' ?_ rfl rfl rfl (Nat.le_of_ble_eq_true rfl)⟩
          rw [← ej]; rfl
        | false =>
          rw [hd1, Bool.false_or] at hnext
          have hd2 : decide ((S[j].1.length : Int) > 64) = false := by simp at hd1 ⊢; omega
          have hd3 : decide ((S[j].2.length : Int) > 64) = decide (64 < S[j].2.length) := by
            rw [decide_eq_decide]; omega
          repeat (first | refine Br.t rfl ?_ | refine Br.f rfl ?_ | refine Br.f hd2 ?_ | refine Br.t (congrArg (· == false) hd2) ?_)
          refine ⟨(j + 1, decide ((S[j].2.length : Int) > 64)), ⟨hj1, hd3.trans hnext.symm⟩, by simp only; omega, Nat.le_refl _, Trim.mk' ?_ rfl rfl rfl (Nat.le_of_ble_eq_true rfl)⟩
          rw [← ej]; rfl
    · have hj2 : j = S.length := by simp only [hXl] at hc; simp at hc; omega
      have hacc2 : acc = S.any lng := by rw [hacc, hj2, List.take_length]
      rw [hlg] at hacc2
      subst hacc2
      refine Br.f rfl ?_
      refine Br.t (by rw [hXl]; simp; omega) ?_
      repeat (first | refine Br.t rfl ?_ | refine Br.f rfl ?_)
      exact h

theorem recs8_B3 (key value : List UInt8) (n : Int) (k : SK) (sz : Nat) (l : RL) (hn1 : -9223372036854775808 ≤ n) (hn2 : n < 9223372036854775808) (hv : value.length < 1099511627776)
    (hk : (k = .nil ∧ l = []) ∨ (k ≠ .nil ∧ sz = 2)) (hl : l.length < 1048000) (hlong : decide (64 < key.length) = false) (hlg : (sumL key value n l).any lng = false) (h16 : ¬ 16 < (sumL key value n l).length) (s : Store) (K : AV → Store → Prop) (h : K (.p (.bool true)) s) :
    Cal Tryd.prog 8 [.p (.str key), .p (.str value), .p (ii n), .p (.sl k sz (recsP l))] s K := by
  refine Cal.pure (args := [.str key, .str value, ii n, .sl k sz (recsP l)]) ?_
  refine Cal.intro Tryd.func8 (by decide +kernel) rfl rfl ?_
  refine rec_c (.str key) (.i64 n hn1 hn2) _ _ ?_
  have hG := goR_els key value n k sz l
  have hW := els_wf key value n k sz l hn1 hn2 hv hk (by omega)
  have hSl : (sumL key value n l).length = l.length + 2 := by simp [sumL]
  have hX : recsP l ++ [rec2 key (fmtS n), rec2 [107] value] = recsP (sumL key value n l) := (recsP_app l [(key, fmtS n), ([107], value)]).symm
  have hXl : (recsP l ++ [rec2 key (fmtS n), rec2 [107] value]).length = (sumL key value n l).length := by rw [hX, recsP_len]
  have hlrg : (sumL key value n l).any lng = (l.any lng || (isLong key (fmtS n) || isLong [107] value)) := by simp [sumL, lng]
  generalize hS : sumL key value n l = S at *
  have hGet : ∀ j, (hj : j < S.length) → (recsP l ++ [rec2 key (fmtS n), rec2 [107] value])[j]? = some (rec2 S[j].1 S[j].2) := fun j hj => by rw [hX]; exact recsP_get hj
  have hq : isLong key (fmtS n) = false := (isLong_key key n).trans hlong
  have e1 : recA key (fmtS n) true true = rec2 key (fmtS n) := by unfold recA recQ; simp [hq]
  have e2 : recE key (fmtS n) true true = 0 := by unfold recE; simp [hq]
  rw [e1, e2]
  refine Ob.mk (okst rfl rfl rfl) ?_
  refine number_c n hn1 hn2 _ _ ?_
  refine Ob.mk (okst rfl rfl rfl) ?_
  refine Br.f (by simp at hlong ⊢; omega) ?_
  refine Ob.mk ⟨by kernel_rfl, by kernel_rfl⟩ ?_
  have hk1 : (!(key == key && (fmtS n == fmtS n && true))) = false := by simp
  repeat (first | refine Br.t rfl ?_ | refine Br.f rfl ?_ | refine Br.f hk1 ?_ | refine Br.t (congrArg (· == false) hk1) ?_)
  refine rec_c (.oth 33 _ (by simp)) (.str value) _ _ ?_
  refine Ob.mk (okst rfl rfl rfl) ?_
  refine rec_c (.str key) .nil _ _ ?_
  refine Ob.mk (okst rfl rfl rfl) ?_
  refine recs_v .clip (by decide) (els key value n k sz l) hW (by simp [els]) (S, 0) (by rw [hG, if_neg (by rw [hlg]; decide), if_neg h16]) _ _ ?_
  cases l with
  | nil =>
    refine lemA _ _ _ _ k sz [] hk hl _ ?_
    refine number_c n hn1 hn2 _ _ ?_
    refine BrL.c (Ob.mk (by rw [by26]; simp) ?_)
    refine LoopX.fam [14, 16, 17, 18, 19, 20, 86, 87, 88] (fun (q : Nat × Bool) => ([(14, .p (ii 1)), (16, .p (ii 1)), (17, .p (outP ((S, 0) : RL × Int).1)), (18, .p (ii ((S, 0) : RL × Int).2)), (19, .osl 4 (recsP [] ++ [rec2 key (fmtS n), rec2 [107] value]).length 0 (recsP [] ++ [rec2 key (fmtS n), rec2 [107] value]).length), (20, .p (.bool q.2)), (86, .osl 4 (recsP [] ++ [rec2 key (fmtS n), rec2 [107] value]).length 0 (recsP [] ++ [rec2 key (fmtS n), rec2 [107] value]).length), (87, .p (ii (recsP [] ++ [rec2 key (fmtS n), rec2 [107] value]).length)), (88, .p (ii q.1))], _))
      (fun q => q.1 ≤ S.length ∧ q.2 = (S.take q.1).any lng) (fun q => S.length - q.1) (0, false) ⟨Nat.zero_le _, rfl⟩ (Trim.mk' rfl rfl rfl rfl (Nat.le_refl _)) ?_
    rintro ⟨j, acc⟩ ⟨hj, hacc⟩
    change j ≤ S.length at hj
    change acc = (S.take j).any lng at hacc
    refine Br.mk (fun hc => ?_) (fun hc => ?_)
    · have hj1 : j < S.length := by simp only [hXl] at hc; simpa using hc
      have ej : IntKind.i64.wrap ((j : Int) + 1) = ((j + 1 : Nat) : Int) := by rw [wrap_i64] <;> omega
      have hnext := any_take_succ hj1
      refine Ob.mk ⟨rfl, by omega, by rw [hXl]; omega⟩ ?_
      refine Ob.mk rfl ?_
      refine Idx.mk (rec2 S[j].1 S[j].2) (by omega) (by rw [← hGet j hj1]; congr 1; simp) ?_
      refine Ob.mk (okst rfl rfl rfl) ?_
      cases acc with
      | true =>
        rw [← hacc, Bool.true_or] at hnext
        repeat (first | refine Br.t rfl ?_ | refine Br.f rfl ?_)
        refine ⟨(j + 1, true), ⟨hj1, hnext.symm⟩, by simp only; omega, Nat.le_refl _, Trim.mk' ?_ rfl rfl rfl (Nat.le_of_ble_eq_true rfl)⟩
        rw [← ej]; rfl
      | false =>
        rw [← hacc, Bool.false_or] at hnext
        cases hd1 : decide (64 < S[j].1.length) with
        | true =>
          rw [hd1, Bool.true_or] at hnext
          have hd2 : decide ((S[j].1.length : Int) > 64) = true := by simp at hd1 ⊢; omega
          repeat (first | refine Br.t rfl ?_ | refine Br.f rfl ?_ | refine Br.t hd2 ?_ | refine Br.f (congrArg (· == false) hd2) ?_)
          refine ⟨(j + 1, true), ⟨hj1, hnext.symm⟩, by simp only; omega, Nat.le_refl _, Trim.mk' ?_ rfl rfl rfl (Nat.le_of_ble_eq_true rfl)⟩
          rw [← ej]; rfl
        | false =>
          rw [hd1, Bool.false_or] at hnext
          have hd2 : decide ((S[j].1.length : Int) > 64) = false := by simp at hd1 ⊢; omega
          have hd3 : decide ((S[j].2.length : Int) > 64) = decide (64 < S[j].2.length) := by
            rw [decide_eq_decide]; omega
          repeat (first | refine Br.t rfl ?_ | refine Br.f rfl ?_ | refine Br.f hd2 ?_ | refine Br.t (congrArg (· == false) hd2) ?_)
          refine ⟨(j + 1, decide ((S[j].2.length : Int) > 64)), ⟨hj1, hd3.trans hnext.symm⟩, by simp only; omega, Nat.le_refl _, Trim.mk' ?_ rfl rfl rfl (Nat.le_of_ble_eq_true rfl)⟩
          rw [← ej]; rfl
    · have hj2 : j = S.length := by simp only [hXl] at hc; simp at hc; omega
      have hacc2 : acc = S.any lng := by rw [hacc, hj2, List.take_length]
      rw [hlg] at hacc2
      subst hacc2
      refine Br.f rfl ?_
      refine Br.f (by rw [hXl]; simp; omega) ?_
      repeat (first | refine Br.t rfl ?_ | refine Br.f rfl ?_)
      rcases S with _ | ⟨s0, st⟩
      · simp at hSl
      have hdt : ((recsP [] ++ [rec2 key (fmtS n), rec2 [107] value]).drop 0).take (recsP [] ++ [rec2 key (fmtS n), rec2 [107] value]).length = recsP (s0 :: st) := by rw [← hX, List.drop_zero, List.take_length]
      refine Cal.lend (ps := [.sl .clip 2 (recsP (s0 :: st)), .sl .shr 2 (recsP (s0 :: st))]) (v := .p (.bool true)) ?_ (sameRecs_c .clip .shr 2 2 (s0 :: st) (.inr ⟨rfl, rfl⟩) (by rw [hSl]; omega) [] _ rfl) rfl ?_
      · refine Ob.mk rfl ?_
        exact congrArg (fun z => [PV.sl .clip 2 (recsP (s0 :: st)), PV.sl .shr 2 z]) hdt
      repeat (first | refine Br.t rfl ?_ | refine Br.f rfl ?_)
      exact h
  | cons a l =>
    refine lemA _ _ _ _ k sz (a :: l) hk hl _ ?_
    refine number_c n hn1 hn2 _ _ ?_
    refine Ob.mk ⟨rfl, rfl, rfl, (by rw [by26, recsP_len]; simp at hl ⊢; omega)⟩ ?_
    refine LoopX.fam [14, 16, 17, 18, 19, 20, 86, 87, 88] (fun (q : Nat × Bool) => ([(14, .p (ii 1)), (16, .p (ii 1)), (17, .p (outP ((S, 0) : RL × Int).1)), (18, .p (ii ((S, 0) : RL × Int).2)), (19, .osl 4 (recsP (a :: l) ++ [rec2 key (fmtS n), rec2 [107] value]).length 0 (recsP (a :: l) ++ [rec2 key (fmtS n), rec2 [107] value]).length), (20, .p (.bool q.2)), (86, .osl 4 (recsP (a :: l) ++ [rec2 key (fmtS n), rec2 [107] value]).length 0 (recsP (a :: l) ++ [rec2 key (fmtS n), rec2 [107] value]).length), (87, .p (ii (recsP (a :: l) ++ [rec2 key (fmtS n), rec2 [107] value]).length)), (88, .p (ii q.1))], _))
      (fun q => q.1 ≤ S.length ∧ q.2 = (S.take q.1).any lng) (fun q => S.length - q.1) (0, false) ⟨Nat.zero_le _, rfl⟩ (Trim.mk' rfl rfl rfl rfl (Nat.le_refl _)) ?_
    rintro ⟨j, acc⟩ ⟨hj, hacc⟩
    change j ≤ S.length at hj
    change acc = (S.take j).any lng at hacc
    refine Br.mk (fun hc => ?_) (fun hc => ?_)
    · have hj1 : j < S.length := by simp only [hXl] at hc; simpa using hc
      have ej : IntKind.i64.wrap ((j : Int) + 1) = ((j + 1 : Nat) : Int) := by rw [wrap_i64] <;> omega
      have hnext := any_take_succ hj1
      refine Ob.mk ⟨rfl, by omega, by rw [hXl]; omega⟩ ?_
      refine Ob.mk rfl ?_
      refine Idx.mk (rec2 S[j].1 S[j].2) (by omega) (by rw [← hGet j hj1]; congr 1; simp) ?_
      refine Ob.mk (okst rfl rfl rfl) ?_
      cases acc with
      | true =>
        rw [← hacc, Bool.true_or] at hnext
        repeat (first | refine Br.t rfl ?_ | refine Br.f rfl ?_)
        refine ⟨(j + 1, true), ⟨hj1, hnext.symm⟩, by simp only; omega, Nat.le_refl _, Trim.mk' ?_ rfl rfl rfl (Nat.le_of_ble_eq_true rfl)⟩
        rw [← ej]; rfl
      | false =>
        rw [← hacc, Bool.false_or] at hnext
        cases hd1 : decide (64 < S[j].1.length) with
        | true =>
          rw [hd1, Bool.true_or] at hnext
          have hd2 : decide ((S[j].1.length : Int) > 64) = true := by simp at hd1 ⊢; omega
          repeat (first | refine Br.t rfl ?_ | refine Br.f rfl ?_ | refine Br.t hd2 ?_ | refine Br.f (congrArg (· == false) hd2) ?_)
          refine ⟨(j + 1, true), ⟨hj1, hnext.symm⟩, by simp only; omega, Nat.le_refl _, Trim.mk' ?_ rfl rfl rfl (Nat.le_of_ble_eq_true rfl)⟩
          rw [← ej]; rfl
        | false =>
          rw [hd1, Bool.false_or] at hnext
          have hd2 : decide ((S[j].1.length : Int) > 64) = false := by simp at hd1 ⊢; omega
          have hd3 : decide ((S[j].2.length : Int) > 64) = decide (64 < S[j].2.length) := by
            rw [decide_eq_decide]; omega
          repeat (first | refine Br.t rfl ?_ | refine Br.f rfl ?_ | refine Br.f hd2 ?_ | refine Br.t (congrArg (· == false) hd2) ?_)
          refine ⟨(j + 1, decide ((S[j].2.length : Int) > 64)), ⟨hj1, hd3.trans hnext.symm⟩, by simp only; omega, Nat.le_refl _, Trim.mk' ?_ rfl rfl rfl (Nat.le_of_ble_eq_true rfl)⟩
          rw [← ej]; rfl
    · have hj2 : j = S.length := by simp only [hXl] at hc; simp at hc; omega
      have hacc2 : acc = S.any lng := by rw [hacc, hj2, List.take_length]
      rw [hlg] at hacc2
      subst hacc2
      refine Br.f rfl ?_
      refine Br.f (by rw [hXl]; simp; omega) ?_
      repeat (first | refine Br.t rfl ?_ | refine Br.f rfl ?_)
      rcases S with _ | ⟨s0, st⟩
      · simp at hSl
      have hdt : ((recsP (a :: l) ++ [rec2 key (fmtS n), rec2 [107] value]).drop 0).take (recsP (a :: l) ++ [rec2 key (fmtS n), rec2 [107] value]).length = recsP (s0 :: st) := by rw [← hX, List.drop_zero, List.take_length]
      refine Cal.lend (ps := [.sl .clip 2 (recsP (s0 :: st)), .sl .shr 2 (recsP (s0 :: st))]) (v := .p (.bool true)) ?_ (sameRecs_c .clip .shr 2 2 (s0 :: st) (.inr ⟨rfl, rfl⟩) (by rw [hSl]; omega) [] _ rfl) rfl ?_
      · refine Ob.mk rfl ?_
        exact congrArg (fun z => [PV.sl .clip 2 (recsP (s0 :: st)), PV.sl .shr 2 z]) hdt
      repeat (first | refine Br.t rfl ?_ | refine Br.f rfl ?_)
      exact h

theorem recs8_c (key value : List UInt8) (n : Int) (k : SK) (sz : Nat) (l : RL) (hn1 : -9223372036854775808 ≤ n) (hn2 : n < 9223372036854775808) (hv : value.length < 1099511627776)
    (hk : (k = .nil ∧ l = []) ∨ (k ≠ .nil ∧ sz = 2)) (hl : l.length < 1048000) (s : Store) (K : AV → Store → Prop) (h : K (.p (.bool true)) s) :
    Cal Tryd.prog 8 [.p (.str key), .p (.str value), .p (ii n), .p (.sl k sz (recsP l))] s K := by
  cases hlong : decide (64 < key.length) with
  | true => exact recs8_A key value n k sz l hn1 hn2 hv hk hl hlong s K h
  | false =>
    cases hlg : (sumL key value n l).any lng with
    | true => exact recs8_B1 key value n k sz l hn1 hn2 hv hk hl hlong hlg s K h
    | false =>
      by_cases h16 : 16 < (sumL key value n l).length
      · exact recs8_B2 key value n k sz l hn1 hn2 hv hk hl hlong hlg h16 s K h
      · exact recs8_B3 key value n k sz l hn1 hn2 hv hk hl hlong hlg h16 s K h
end Go.Proofs.YtnopnmlpibdioaaDoor.AW

open Go Go.Proofs.YtnopnmlpibdioaaDoor.AW Go.Proofs
namespace Go.Proofs.YtnopnmlpibdioaaDoor.AW
set_option maxRecDepth 100000
set_option linter.unusedSimpArgs false
set_option linter.unusedVariables false

theorem r_a5 : goR [.v (.iface 9 (.str [97])) [97] true, .v (.iface 3 (ii 5)) (fmtS 5) true] [] = ([([97], [53])], 0) := by kernel_rfl
theorem r_a : goR [.v (.iface 9 (.str [97])) [97] true] [] = ([], 1) := by kernel_rfl
theorem q_t97 : recA [116, 114, 117, 101] (fmtS 97) true true = rec2 [116, 114, 117, 101] [57, 55] := by kernel_rfl
theorem e_t97 : recE [116, 114, 117, 101] (fmtS 97) true true = 0 := by kernel_rfl
theorem rec_v {u v : PV} {a b : List UInt8} {oa ob : Bool} (hu : Any u a oa) (hv : Any v b ob) {p : PV} {n : Int} (hp : recA a b oa ob = p) (hn : recE a b oa ob = n) (s : Store) (K : AV → Store → Prop) (h : K (.tup [.p p, .p (ii n)]) s) : Cal Tryd.prog 15 [.p u, .p v] s K := by
  subst hp; subst hn; exact rec_c hu hv s K h

theorem known_c (s : Store) (K : AV → Store → Prop) (h : K (.p (.bool true)) s) : Cal Tryd.prog 10 [] s K := by
  refine Cal.pure (args := []) ?_
  refine Cal.intro Tryd.func10 (by decide +kernel) rfl rfl ?_
  refine recs_v .clip (by decide) [.v (.iface 9 (.str [97])) [97] true, .v (.iface 3 (ii 5)) (fmtS 5) true] ?_ (by decide) _ r_a5 _ _ ?_
  · intro x hx
    simp only [List.mem_cons, List.not_mem_nil, or_false] at hx
    rcases hx with rfl | rfl
    · exact .v _ _ _ (.str _) (by simp) (by simp)
    · exact .v _ _ _ (.int 5 (by decide) (by decide)) (by simp) (by simp)
  refine recs_v .clip (by decide) [.v (.iface 9 (.str [97])) [97] true] ?_ (by decide) _ r_a _ _ ?_
  · intro x hx
    simp only [List.mem_cons, List.not_mem_nil, or_false] at hx
    subst hx
    exact .v _ _ _ (.str _) (by simp) (by simp)
  refine text_any (.oth 52 _ (by simp)) _ _ ?_
  refine .inr ?_
  refine Ob.mk rfl ?_
  refine Ob.mk rfl ?_
  refine text_any (.by .shr [120, 121] 1 (.inr rfl)) _ _ ?_
  refine rec_v (.bool true) (.i32 97 (by decide) (by decide)) q_t97 e_t97 _ _ ?_
  refine Ob.mk (okst rfl rfl rfl) ?_
  repeat (first | refine Br.t rfl ?_ | refine ⟨_, ⟨rfl, rfl⟩, ?_⟩ | refine ⟨_, Br.t rfl ⟨rfl, rfl⟩, ?_⟩ | refine ⟨_, Idx.mk _ (by decide) rfl ⟨rfl, rfl⟩, ?_⟩ | refine ⟨_, Ob.mk ⟨by kernel_rfl, by kernel_rfl⟩ ⟨rfl, rfl⟩, ?_⟩ | refine ⟨_, fun s' => mustRec_v _ 26 rfl rfl s' _ ⟨rfl, rfl⟩, rfl, ?_⟩)
  refine Chk.mk (by kernel_rfl) ?_
  exact h
end Go.Proofs.YtnopnmlpibdioaaDoor.AW

open Go Go.Proofs.YtnopnmlpibdioaaDoor.AW Go.Proofs
namespace Go.Proofs.YtnopnmlpibdioaaDoor.AW
set_option maxRecDepth 100000
set_option linter.unusedSimpArgs false
set_option linter.unusedVariables false

/-- The five values. -/
def L5 (s : List UInt8) (n : Int) (b : Bool) : List PV := [.iface 9 (.str s), .iface 2 (ii n), .iface 3 (ii n), .iface 4 (.bool b), .iface 34 (.sl .shr 1 (bytesP s))]
theorem boolS_len (b : Bool) : (boolS b).length ≤ 5 := by cases b <;> decide
theorem L5_any (s : List UInt8) (n : Int) (b : Bool) (h1 : -9223372036854775808 ≤ n) (h2 : n < 9223372036854775808) (hs : s.length ≤ 64) : ∀ j, j < 5 → ∃ x t, (L5 s n b)[j]? = some x ∧ Any x t true ∧ t.length ≤ 64 := by
  intro j hj
  have := fmtS_len n
  have := boolS_len b
  match j, hj with
  | 0, _ => exact ⟨_, s, rfl, .str s, hs⟩
  | 1, _ => exact ⟨_, fmtS n, rfl, .i64 n h1 h2, by omega⟩
  | 2, _ => exact ⟨_, fmtS n, rfl, .int n h1 h2, by omega⟩
  | 3, _ => exact ⟨_, boolS b, rfl, .bool b, by omega⟩
  | 4, _ => exact ⟨_, s, rfl, .by .shr s 1 (.inr rfl), hs⟩
theorem recA_k (t : List UInt8) (h : t.length ≤ 64) : recA [107] t true true = rec2 [107] t := by
  have : isLong [107] t = false := by rw [isLong_val]; simp; omega
  unfold recA recQ; simp [this]
theorem recE_k (t : List UInt8) (h : t.length ≤ 64) : recE [107] t true true = 0 := by
  have : isLong [107] t = false := by rw [isLong_val]; simp; omega
  unfold recE; simp [this]

theorem again_c (s : List UInt8) (n : Int) (b : Bool) (hn1 : -9223372036854775808 ≤ n) (hn2 : n < 9223372036854775808) (st : Store) (K : AV → Store → Prop) (h : K (.p (.bool true)) st) : Cal Tryd.prog 6 [.p (.str s), .p (ii n), .p (.bool b)] st K := by
  refine Cal.pure (args := [.str s, ii n, .bool b]) ?_
  refine Cal.intro Tryd.func6 (by decide +kernel) rfl rfl ?_
  refine Br.mk (fun hc => ?_) (fun hc => ?_)
  · refine Ob.mk ⟨by decide, by decide, by simp at hc; omega⟩ ?_
    have hs : ((s.take (64 : Int).toNat).drop (0 : Int).toNat).length ≤ 64 := by simp; omega
    refine LoopX.fam [31, 32, 33] (fun (j : Nat) => ([(31, .p (.sl .clip 1 (L5 ((s.take (64 : Int).toNat).drop (0 : Int).toNat) n b))), (32, .p (ii 5)), (33, .p (ii j))], []))
      (fun j => j ≤ 5) (fun j => 5 - j) 0 (Nat.zero_le _) (Trim.mk' rfl rfl rfl rfl (Nat.le_refl _)) ?_
    intro j hj
    have hj : j ≤ 5 := hj
    refine Br.mk (fun hc => ?_) (fun hc => ?_)
    · have hc : j < 5 := by simp at hc; omega
      obtain ⟨x, t, hx, hax, ht⟩ := L5_any ((s.take (64 : Int).toNat).drop (0 : Int).toNat) n b hn1 hn2 hs j hc
      refine Idx.mk x (by omega) (by rw [Int.toNat_natCast]; exact hx) ?_
      refine load1 hax.one ?_
      refine text_any hax _ _ ?_
      refine text_any (.str t) _ _ ?_
      refine rec_v (.str [107]) hax (recA_k t ht) (recE_k t ht) _ _ ?_
      refine Ob.mk (okst rfl rfl rfl) ?_
      have q1 : (!(t == t)) = false := by simp
      have q2 : (!(([107] : List UInt8) == [107] && (t == t && true))) = false := by simp
      repeat (first | refine Br.t rfl ?_ | refine ⟨_, ⟨rfl, rfl⟩, ?_⟩ | refine ⟨_, Br.f rfl ⟨rfl, rfl⟩, ?_⟩ | refine ⟨_, Br.t rfl ⟨rfl, rfl⟩, ?_⟩ | refine Br.t (congrArg (· == false) q1) ?_ | refine ⟨_, Br.f q1 ⟨rfl, rfl⟩, ?_⟩ | refine ⟨_, Ob.mk ⟨by kernel_rfl, by kernel_rfl⟩ ⟨rfl, rfl⟩, ?_⟩ | refine ⟨_, fun s' => mustRec_v _ 26 rfl rfl s' _ ⟨rfl, rfl⟩, rfl, ?_⟩)
      refine Chk.mk (by kernel_rfl) ?_
      refine Br.f q2 ?_
      refine ⟨j + 1, hc, by omega, Nat.zero_le _, Trim.mk' ?_ rfl rfl rfl (Nat.zero_le _)⟩
      have e : IntKind.i64.wrap ((j : Int) + 1) = ((j + 1 : Nat) : Int) := by rw [wrap_i64] <;> omega
      rw [← e]; rfl
    · refine known_c _ _ ?_
      exact h
  · skip
    have hs : s.length ≤ 64 := by simp at hc; omega
    refine LoopX.fam [31, 32, 33] (fun (j : Nat) => ([(31, .p (.sl .clip 1 (L5 s n b))), (32, .p (ii 5)), (33, .p (ii j))], []))
      (fun j => j ≤ 5) (fun j => 5 - j) 0 (Nat.zero_le _) (Trim.mk' rfl rfl rfl rfl (Nat.le_refl _)) ?_
    intro j hj
    have hj : j ≤ 5 := hj
    refine Br.mk (fun hc => ?_) (fun hc => ?_)
    · have hc : j < 5 := by simp at hc; omega
      obtain ⟨x, t, hx, hax, ht⟩ := L5_any s n b hn1 hn2 hs j hc
      refine Idx.mk x (by omega) (by rw [Int.toNat_natCast]; exact hx) ?_
      refine load1 hax.one ?_
      refine text_any hax _ _ ?_
      refine text_any (.str t) _ _ ?_
      refine rec_v (.str [107]) hax (recA_k t ht) (recE_k t ht) _ _ ?_
      refine Ob.mk (okst rfl rfl rfl) ?_
      have q1 : (!(t == t)) = false := by simp
      have q2 : (!(([107] : List UInt8) == [107] && (t == t && true))) = false := by simp
      repeat (first | refine Br.t rfl ?_ | refine ⟨_, ⟨rfl, rfl⟩, ?_⟩ | refine ⟨_, Br.f rfl ⟨rfl, rfl⟩, ?_⟩ | refine ⟨_, Br.t rfl ⟨rfl, rfl⟩, ?_⟩ | refine Br.t (congrArg (· == false) q1) ?_ | refine ⟨_, Br.f q1 ⟨rfl, rfl⟩, ?_⟩ | refine ⟨_, Ob.mk ⟨by kernel_rfl, by kernel_rfl⟩ ⟨rfl, rfl⟩, ?_⟩ | refine ⟨_, fun s' => mustRec_v _ 26 rfl rfl s' _ ⟨rfl, rfl⟩, rfl, ?_⟩)
      refine Chk.mk (by kernel_rfl) ?_
      refine Br.f q2 ?_
      refine ⟨j + 1, hc, by omega, Nat.zero_le _, Trim.mk' ?_ rfl rfl rfl (Nat.zero_le _)⟩
      have e : IntKind.i64.wrap ((j : Int) + 1) = ((j + 1 : Nat) : Int) := by rw [wrap_i64] <;> omega
      rw [← e]; rfl
    · refine known_c _ _ ?_
      exact h
end Go.Proofs.YtnopnmlpibdioaaDoor.AW
