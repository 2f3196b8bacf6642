/- A part of the proof: AW/Ext, AW/Str, AW/Str2, AW/Pure2, AW/Frame, AW/Weak, AW/Deep, AW/Foreign, AW/Back. -/
import Derived.Test.YtjhgmaephpadpaaGreatP6
import Derived.Below
namespace Go.Proofs.YtjhgmaephpadpaaGreat.AW
set_option linter.unusedSimpArgs false
set_option linter.unusedVariables false
variable {P : Program}
end Go.Proofs.YtjhgmaephpadpaaGreat.AW

namespace Go.Proofs.YtjhgmaephpadpaaGreat.AW

set_option linter.unusedSimpArgs false
set_option linter.unusedVariables false
theorem wrap_i64 {n : Int} (h1 : -9223372036854775808 ≤ n) (h2 : n < 9223372036854775808) : IntKind.i64.wrap n = n := by
  rw [IntKind.wrap_i64]; omega
end Go.Proofs.YtjhgmaephpadpaaGreat.AW

namespace Go.Proofs.YtjhgmaephpadpaaGreat.AW

set_option linter.unusedSimpArgs false
set_option linter.unusedVariables false
/-- A byte at which a rune may begin. -/
def begins (c : UInt8) : Prop := ¬ c.toNat / 64 = 2

end Go.Proofs.YtjhgmaephpadpaaGreat.AW

namespace Go.Proofs.YtjhgmaephpadpaaGreat.AW
set_option linter.unusedSimpArgs false
set_option linter.unusedVariables false
variable {P : Program}

/-- What a call returns, handed on as a tree. -/
theorem Cal.frz {f : Nat} {args : List AV} {s : Store} {K : AV → Store → Prop} (h : Cal P f args s fun r s' => toP s' r fun p s'' => K (.p p) s'') : Cal P f args s K := by
  unfold Cal at h ⊢
  refine fun w g vs hinv hG hfresh hargs => (h w g vs hinv hG hfresh hargs).mono fun e w' hpost => ?_
  obtain ⟨r, v, s', g', rfl, hk, hlen, hrep, hinv', hext, hC⟩ := hpost
  have c : Cx w' g' (getO s') s' (fun _ => True) False := ⟨hinv', fun _ _ => rfl, fun hh => hh.elim⟩
  obtain ⟨p, s2, k1, fz, k3⟩ := toP_tree hrep c (fun _ _ => trivial) hk
  have hov : ovr (fun _ => True) s' s2 (getO s') = getO s2 := by funext i; simp [ovr]
  have q1 := fz.inv; have q2 := fz.ext
  rw [hov] at q1 q2 k3
  exact ⟨_, v, s2, g', rfl, k1, by have := fz.len; omega, .p _ _ k3, q1, hext.trans q2, fun id hid => by have := hC id hid; rw [fz.len]; exact this⟩
end Go.Proofs.YtjhgmaephpadpaaGreat.AW

namespace Go.Proofs.YtjhgmaephpadpaaGreat.AW
set_option linter.unusedSimpArgs false
set_option linter.unusedVariables false
variable {P : Program}

/-- **A call beside a small store** holds beside any store that has its objects, whatever their places there. -/
theorem Cal.frame {f : Nat} {args0 args : List AV} {s0 s : Store} {K : AV → Store → Prop} (is : List Nat)
    (h : Cal P f args0 s0 fun r s' => s0.length ≤ s'.length → K (r.ren (place is s.length)) (mergeO (place is s.length) is s s'))
    (ha : args = rens (place is s.length) args0) (hs : is.map (getO s) = s0.map (renO (place is s.length))) (hn : nodupLt is s.length = true) : Cal P f args s K := by
  unfold Cal at h ⊢
  subst ha
  refine fun w g vs hinv hG hfresh hargs => ?_
  have hlen : s0.length = is.length := by have := congrArg List.length hs; simpa using this.symm
  generalize hm : s.length = m at *
  generalize hρ : place is m = ρ at *
  have hlt : ∀ i, i < is.length → ρ i < m ∧ ρ i ∈ is := fun i hi => by rw [← hρ]; exact place_lt hn hi
  have hge : ∀ i, is.length ≤ i → ρ i = m + (i - is.length) := fun i hi => by rw [← hρ]; exact place_ge hi
  have hinj : ∀ i k, ρ i = ρ k → i = k := fun i k e => by rw [← hρ] at e; exact place_inj hn e
  have hmem : ∀ j, j ∈ is → ∃ i, i < is.length ∧ ρ i = j := fun j hj => by rw [← hρ]; exact place_mem hj
  have hobj : ∀ i, getO s (ρ i) = renO ρ (getO s0 i) := fun i => by
    by_cases hi : i < is.length
    · have h1 : (is.map (getO s))[i]? = (s0.map (renO ρ))[i]? := by rw [hs]
      have h2 : is[i]? = some (ρ i) := by
        rw [← hρ]
        clear h hs hlen hρ hlt hge hinj hmem hargs h1
        induction is generalizing i with
        | nil => simp at hi
        | cons j r ih =>
          cases i with
          | zero => rfl
          | succ i =>
            simp only [nodupLt, Bool.and_eq_true] at hn
            simp only [List.getElem?_cons_succ, place]
            exact ih hn.2 i (by simpa using hi)
      rw [List.getElem?_map, List.getElem?_map, h2] at h1
      simp only [Option.map_some] at h1
      unfold getO at h1 ⊢
      cases h3 : s0[i]? with
      | none => rw [List.getElem?_eq_none_iff] at h3; omega
      | some o => rw [h3] at h1; simpa using h1
    · rw [hge i (by omega), getO_out (by omega), getO_out (by omega)]; rfl
  have himg : ∀ j, j < m → ¬ j ∈ is → ∀ i, ρ i ≠ j := fun j hj hnj i e => by
    by_cases hi : i < is.length
    · exact hnj (e ▸ (hlt i hi).2)
    · rw [hge i (by omega)] at e; omega
  -- the small world
  let out : Nat → Prop := fun b => ∃ j, ¬ j ∈ is ∧ getO s j ≠ none ∧ g.R j ∧ g.ι j = b
  let g0 : G := { ι := fun i => g.ι (ρ i), X := fun b => g.X b ∨ out b, C := fun i => g.C (ρ i), R := fun i => g.R (ρ i) }
  have hjm : ∀ j, getO s j ≠ none → j < m := fun j hj => Nat.lt_of_not_le fun hle => hj (getO_out (by omega))
  have hown : ∀ b, Own g (getO s) b ↔ (out b ∨ Own g0 (getO s0) b) := fun b => by
    constructor
    · rintro ⟨j, h1, h2, h3⟩
      by_cases hj : j ∈ is
      · obtain ⟨i, hi, rfl⟩ := hmem j hj
        exact .inr ⟨i, fun e => h1 (by rw [hobj, e]; rfl), h2, h3⟩
      · exact .inl ⟨j, hj, h1, h2, h3⟩
    · rintro (⟨j, _, h1, h2, h3⟩ | ⟨i, h1, h2, h3⟩)
      · exact ⟨j, h1, h2, h3⟩
      · exact ⟨ρ i, fun e => h1 (renO_none.1 (by rw [← hobj]; exact e)), h2, h3⟩
  have hren : Ren g0 (getO s0) g (getO s) ρ := ⟨fun _ => rfl, fun _ => .rfl, fun _ => .rfl, hobj, fun b => by
    unfold Lv
    rw [hown b]
    exact or_assoc⟩
  have hoj : ∀ i o, getO s0 i = some o → getO s (ρ i) = some (o.ren ρ) := fun i o ho => by rw [hobj, ho]; rfl
  have hinv0 : Inv w g0 (getO s0) := by
    refine ⟨fun i o ho => hinv.made _ _ (hoj i o ho), fun i o ho hr => ?_, fun b hb => ?_, fun i k hi hk hri hrk e => ?_, fun i o ho hr => hren.unO (hinv.rep _ _ (hoj i o ho) hr), fun i o ho hr => ?_⟩
    · obtain ⟨h1, h2⟩ := hinv.lies _ _ (hoj i o ho) hr
      refine ⟨h1, ?_⟩
      rintro (h3 | ⟨j, h3, h4, h5, h6⟩)
      · exact h2 h3
      · have := hinv.inj j (ρ i) h4 (by rw [hoj i o ho]; simp) h5 hr h6
        by_cases hi : i < is.length
        · exact h3 (this ▸ (hlt i hi).2)
        · rw [getO_out (by omega)] at ho; cases ho
    · rcases hb with hb | ⟨j, _, h4, h5, h6⟩
      · exact hinv.xlt b hb
      · obtain ⟨o, ho⟩ := Option.ne_none_iff_exists'.1 h4
        rw [← h6]; exact (hinv.lies j o ho h5).1
    · refine hinj _ _ (hinv.inj _ _ (fun q => hi ?_) (fun q => hk ?_) hri hrk e)
      · rw [hobj] at q; exact renO_none.1 q
      · rw [hobj] at q; exact renO_none.1 q
    · obtain ⟨sz, ty, h1, h2⟩ := hinv.void _ _ (hoj i o ho) hr
      refine ⟨sz, ty, h1, ?_⟩
      have h3 : renO ρ (some o) = some (.buf sz [] ty) := congrArg some h2
      exact Option.some.inj (renO_buf.1 h3)
  have hfr0 : ∀ i, g0.C i → i < s0.length := fun i hi => by
    have := hfresh (ρ i) hi
    refine Nat.lt_of_not_le fun hle => ?_
    rw [hge i (by omega)] at this; omega
  have hG0 : Gk P w g0 (getO s0) := fun i cs hi => by
    obtain ⟨q1, q2, q3⟩ := hG i cs hi
    exact ⟨q1, fun hl => q2 ((hren.lv _).1 hl), q3.keep (fun _ _ _ => rfl) (fun b _ hb => (hren.lv b).1 hb) (fun _ => q2)⟩
  refine (h w g0 vs hinv0 hG0 hfr0 (hren.pulls args0 hargs)).mono fun e w' hpost => ?_
  obtain ⟨r, v, s0', g0', rfl, hk, hle, hrep, hinv', hext, hC⟩ := hpost
  have hk := hk hle
  -- back
  obtain ⟨hat, hold⟩ := merge_at (ρ := ρ) (is := is) (s := s) (s0 := s0') (m := m) hm hn (by omega)
  rw [hρ] at hat
  let inv : Nat → Nat := fun j => open Classical in if hh : ∃ i, ρ i = j then hh.choose else 0
  have hinvρ : ∀ i, inv (ρ i) = i := fun i => by
    have hh : ∃ k, ρ k = ρ i := ⟨i, rfl⟩
    simp only [inv, dif_pos hh]
    exact hinj _ _ hh.choose_spec
  let im : Nat → Prop := fun j => ∃ i, ρ i = j
  let g' : G := { ι := fun j => open Classical in if im j then g0'.ι (inv j) else g.ι j, X := g.X, C := fun j => (im j ∧ g0'.C (inv j)) ∨ (¬ im j ∧ g.C j), R := fun j => (im j ∧ g0'.R (inv j)) ∨ (¬ im j ∧ g.R j) }
  have imρ : ∀ i, im (ρ i) := fun i => ⟨i, rfl⟩
  have gι : ∀ i, g'.ι (ρ i) = g0'.ι i := fun i => by simp only [g', if_pos (imρ i), hinvρ]
  have gιo : ∀ j, ¬ im j → g'.ι j = g.ι j := fun j hj => by simp only [g', if_neg hj]
  have gC : ∀ i, g'.C (ρ i) ↔ g0'.C i := fun i => by simp [g', imρ i, hinvρ]
  have gCo : ∀ j, ¬ im j → (g'.C j ↔ g.C j) := fun j hj => by simp [g', hj]
  have gR : ∀ i, g'.R (ρ i) ↔ g0'.R i := fun i => by simp [g', imρ i, hinvρ]
  have gRo : ∀ j, ¬ im j → (g'.R j ↔ g.R j) := fun j hj => by simp [g', hj]
  generalize hs' : mergeO ρ is s s0' = s' at *
  have hnim : ∀ j, ¬ im j → j < m ∧ ¬ j ∈ is := fun j hj => by
    have h1 : ¬ j ∈ is := fun q => by obtain ⟨i, _, e⟩ := hmem j q; exact hj ⟨i, e⟩
    refine ⟨Nat.lt_of_not_le fun hle => hj ⟨j - m + is.length, ?_⟩, h1⟩
    rw [hge _ (by omega)]; omega
  have hsame : ∀ j, ¬ im j → getO s' j = getO s j := fun j hj => by
    obtain ⟨h1, h2⟩ := hnim j hj; exact hold j h1 h2
  have himi : ∀ j, j < m → ¬ j ∈ is → ¬ im j := fun j h1 h2 ⟨i, e⟩ => himg j h1 h2 i e
  have hX0 : ∀ b, g0'.X b ↔ (g.X b ∨ out b) := fun b => by rw [hext.X]
  have hout' : ∀ b, out b → ¬ Own g0' (getO s0') b := by
    rintro b hb ⟨i, h1, h2, h3⟩
    obtain ⟨o, ho⟩ := Option.ne_none_iff_exists'.1 h1
    exact (hinv'.lies i o ho h2).2 ((hX0 _).2 (.inr (h3 ▸ hb)))
  have hlt' : ∀ b, out b → b < w.heap.size := fun b ⟨j, _, h1, h2, h3⟩ => by
    obtain ⟨o, ho⟩ := Option.ne_none_iff_exists'.1 h1
    rw [← h3]; exact (hinv.lies j o ho h2).1
  have hown' : ∀ b, Own g' (getO s') b ↔ (out b ∨ Own g0' (getO s0') b) := fun b => by
    constructor
    · rintro ⟨j, h1, h2, h3⟩
      by_cases hj : im j
      · obtain ⟨i, rfl⟩ := hj
        exact .inr ⟨i, fun e => h1 (by rw [hat, e]; rfl), (gR i).1 h2, by rw [← gι]; exact h3⟩
      · exact .inl ⟨j, (hnim j hj).2, by rw [← hsame j hj]; exact h1, (gRo j hj).1 h2, by rw [← gιo j hj]; exact h3⟩
    · rintro (⟨j, h0, h1, h2, h3⟩ | ⟨i, h1, h2, h3⟩)
      · have hj := himi j (hjm j h1) h0
        exact ⟨j, by rw [hsame j hj]; exact h1, (gRo j hj).2 h2, by rw [gιo j hj]; exact h3⟩
      · exact ⟨ρ i, fun e => h1 (renO_none.1 (by rw [← hat]; exact e)), (gR i).2 h2, by rw [gι]; exact h3⟩
  have hren' : Ren g0' (getO s0') g' (getO s') ρ := ⟨gι, gC, gR, hat, fun b => by
    unfold Lv
    rw [hown' b, hX0 b]
    exact or_assoc⟩
  have hext' : Ext w g (getO s) w' g' (getO s') := by
    refine ⟨hext.size, hext.os, hext.tape, hext.output, fun b hb hno => hext.frame b hb fun q => hno ((hown b).2 (.inr q)), hext.shape, rfl, fun j hc => ?_, fun b hb hb2 => ?_, fun j hc o' ho' => ?_, fun j hc hnb => ?_, fun j sz xs xs' ty ty' hc h1 h2 h3 => ?_, hext.drawn⟩
    · by_cases hj : im j
      · obtain ⟨i, rfl⟩ := hj; exact (gC i).2 (hext.C i hc)
      · exact (gCo j hj).2 hc
    · rcases (hown' b).1 hb2 with q | q
      · exact (hown b).2 (.inl q)
      · exact (hown b).2 (.inr (hext.own b hb q))
    · by_cases hj : im j
      · obtain ⟨i, rfl⟩ := hj
        rw [hat] at ho'
        cases hq : getO s0' i with
        | none => rw [hq] at ho'; cases ho'
        | some o0' =>
          rw [hq] at ho'; cases ho'
          obtain ⟨o0, k1, k2⟩ := hext.obj i hc _ hq
          exact ⟨o0.ren ρ, hoj i o0 k1, sameKind_ren k2⟩
      · rw [hsame j hj] at ho'; exact ⟨o', ho', .refl _⟩
    · by_cases hj : im j
      · obtain ⟨i, rfl⟩ := hj
        obtain ⟨k1, k2⟩ := hext.ι1 i hc (fun sz xs ty e => hnb sz xs ty (hren.buf.2 e))
        exact ⟨(gι i).trans k1, (gR i).trans k2⟩
      · exact ⟨gιo j hj, gRo j hj⟩
    · by_cases hj : im j
      · obtain ⟨i, rfl⟩ := hj
        obtain ⟨k1, k2⟩ := hext.ι2 i sz xs xs' ty ty' hc (hren.buf.1 h1) (hren'.buf.1 h2) h3
        exact ⟨(gι i).trans k1, (gR i).trans k2⟩
      · exact ⟨gιo j hj, gRo j hj⟩
  have hsz := hext.size
  have hinvF : Inv w' g' (getO s') := by
    have hmix : ∀ i j, getO s0' i ≠ none → g0'.R i → ¬ im j → getO s j ≠ none → g.R j → g0'.ι i ≠ g.ι j := fun i j h1 h2 h3 h4 h5 e =>
      hout' (g.ι j) ⟨j, (hnim j h3).2, h4, h5, rfl⟩ ⟨i, h1, h2, e⟩
    have n0 : ∀ i, getO s' (ρ i) ≠ none → getO s0' i ≠ none := fun i h e => h (by rw [hat, e]; rfl)
    have inO : ∀ i o, getO s' (ρ i) = some o → ∃ o0, getO s0' i = some o0 ∧ o = o0.ren ρ := fun i o ho => by
      rw [hat] at ho
      cases hq : getO s0' i with
      | none => rw [hq] at ho; cases ho
      | some o0 => rw [hq] at ho; cases ho; exact ⟨o0, rfl, rfl⟩
    refine ⟨fun j o ho => ?_, fun j o ho hr => ?_, fun b hb => by have := hinv.xlt b hb; omega, fun j k hj hk hrj hrk e => ?_, fun j o ho hr => ?_, fun j o ho hr => ?_⟩
    · by_cases hj : im j
      · obtain ⟨i, rfl⟩ := hj
        obtain ⟨o0, h1, _⟩ := inO i o ho
        exact (gC i).2 (hinv'.made i o0 h1)
      · rw [hsame j hj] at ho; exact (gCo j hj).2 (hinv.made j o ho)
    · by_cases hj : im j
      · obtain ⟨i, rfl⟩ := hj
        obtain ⟨o0, h1, _⟩ := inO i o ho
        obtain ⟨k1, k2⟩ := hinv'.lies i o0 h1 ((gR i).1 hr)
        rw [gι]
        exact ⟨k1, fun q => k2 ((hX0 _).2 (.inl q))⟩
      · rw [hsame j hj] at ho
        obtain ⟨k1, k2⟩ := hinv.lies j o ho ((gRo j hj).1 hr)
        rw [gιo j hj]; exact ⟨by omega, k2⟩
    · by_cases hij : im j
      · obtain ⟨i, rfl⟩ := hij
        by_cases hik : im k
        · obtain ⟨l, rfl⟩ := hik
          rw [gι, gι] at e
          rw [hinv'.inj i l (n0 i hj) (n0 l hk) ((gR i).1 hrj) ((gR l).1 hrk) e]
        · rw [gι, gιo k hik] at e
          exact absurd e (hmix i k (n0 i hj) ((gR i).1 hrj) hik (by rw [← hsame k hik]; exact hk) ((gRo k hik).1 hrk))
      · by_cases hik : im k
        · obtain ⟨l, rfl⟩ := hik
          rw [gι, gιo j hij] at e
          exact absurd e.symm (hmix l j (n0 l hk) ((gR l).1 hrk) hij (by rw [← hsame j hij]; exact hj) ((gRo j hij).1 hrj))
        · rw [gιo j hij, gιo k hik] at e
          exact hinv.inj j k (by rw [← hsame j hij]; exact hj) (by rw [← hsame k hik]; exact hk) ((gRo j hij).1 hrj) ((gRo k hik).1 hrk) e
    · by_cases hj : im j
      · obtain ⟨i, rfl⟩ := hj
        obtain ⟨o0, h1, rfl⟩ := inO i o ho
        rw [gι]
        exact hren'.repO (hinv'.rep i o0 h1 ((gR i).1 hr))
      · rw [hsame j hj] at ho
        have hr' := (gRo j hj).1 hr
        rw [gιo j hj]
        have hb : out (g.ι j) := ⟨j, (hnim j hj).2, by rw [ho]; simp, hr', rfl⟩
        refine hext'.repO (hext.frame _ (hinv.lies j o ho hr').1 fun q => ?_) (hinv.rep j o ho hr')
        obtain ⟨i, h1, h2, h3⟩ := q
        have h4 : getO s (ρ i) ≠ none := fun e => h1 (renO_none.1 (by rw [← hobj]; exact e))
        have := hinv.inj (ρ i) j h4 (by rw [ho]; simp) h2 hr' h3
        exact hj ⟨i, this⟩
    · by_cases hj : im j
      · obtain ⟨i, rfl⟩ := hj
        obtain ⟨o0, h1, rfl⟩ := inO i o ho
        obtain ⟨sz, ty, k1, rfl⟩ := hinv'.void i o0 h1 (fun q => hr ((gR i).2 q))
        exact ⟨sz, ty, k1, rfl⟩
      · rw [hsame j hj] at ho
        exact hinv.void j o ho (fun q => hr ((gRo j hj).2 q))
  have hlen' : s'.length = m + (s0'.length - is.length) := by rw [← hs', merge_len (by omega), hm]
  refine ⟨_, v, s', g', rfl, hk, by omega, hren'.push hrep, hinvF, hext', fun j hj => ?_⟩
  by_cases hij : im j
  · obtain ⟨i, rfl⟩ := hij
    rcases hC i ((gC i).1 hj) with q | q
    · exact .inl q
    · rw [hge i (by omega)]; exact .inr ⟨by omega, by omega⟩
  · exact .inl ((gCo j hij).1 hj)
end Go.Proofs.YtjhgmaephpadpaaGreat.AW

namespace Go.Proofs.YtjhgmaephpadpaaGreat.AW
set_option linter.unusedSimpArgs false
set_option linter.unusedVariables false
variable {P : Program}

/-! ### Results and arguments told with less -/
def WkA1 (a b : AV) : Prop := a = b ∨ ∃ p q, a = .p p ∧ b = .p q ∧ WkP p q
def WkAs : List AV → List AV → Prop
  | [], [] => True
  | a :: r, b :: t => WkA1 a b ∧ WkAs r t
  | _, _ => False
def WkA (a b : AV) : Prop := WkA1 a b ∨ ∃ vs us, a = .tup vs ∧ b = .tup us ∧ WkAs vs us

theorem WkA1.rep {w : World} {g : G} {σ : St} {a b : AV} {x : Value} (h : WkA1 a b) (hr : RepA w g σ a x) : RepA w g σ b x := by
  rcases h with rfl | ⟨p, q, rfl, rfl, h⟩
  · exact hr
  · exact .p _ _ (h.rep hr.inv_p)
theorem WkAs.rep {w : World} {g : G} {σ : St} : ∀ {as bs : List AV} {xs : List Value}, WkAs as bs → RepAs w g σ as xs → RepAs w g σ bs xs
  | [], [], _, _, h => h
  | a :: r, b :: t, _, h, .cons _ x _ xs h1 h2 => .cons _ _ _ _ (h.1.rep h1) (WkAs.rep h.2 h2)
  | [], _ :: _, _, h, _ => h.elim
  | _ :: _, [], _, h, _ => h.elim
theorem WkA.rep {w : World} {g : G} {σ : St} {a b : AV} {x : Value} (h : WkA a b) (hr : RepA w g σ a x) : RepA w g σ b x := by
  rcases h with h | ⟨vs, us, rfl, rfl, h⟩
  · exact h.rep hr
  · obtain ⟨ys, rfl, hs⟩ := hr.inv_tup
    exact .tup _ _ (h.rep hs)
theorem WkA1.refl (a : AV) : WkA1 a a := .inl rfl
theorem WkA1.nil {sz : Nat} (k : SK) (sz' : Nat) : WkA1 (.p (.sl .nil sz [])) (.p (.sl k sz' [])) := .inr ⟨_, _, rfl, rfl, .inl ⟨_, _, _, rfl, rfl⟩⟩
theorem WkA1.shr {sz : Nat} {xs : List PV} : WkA1 (.p (.sl .clip sz xs)) (.p (.sl .shr sz xs)) := .inr ⟨_, _, rfl, rfl, .inr ⟨_, _, rfl, rfl⟩⟩

/-- What a call returns, told with less. -/
theorem Cal.weak {f : Nat} {args : List AV} {s : Store} {K : AV → Store → Prop} (h : Cal P f args s fun r s' => ∃ r', WkA r r' ∧ K r' s') : Cal P f args s K := by
  unfold Cal at h ⊢
  refine fun w g vs h1 hG h2 h3 => (h w g vs h1 hG h2 h3).mono fun e w' hpost => ?_
  obtain ⟨r, v, s', g', h4, ⟨r', hw, hk⟩, h5, h6, h7⟩ := hpost
  exact ⟨r', v, s', g', h4, hk, h5, hw.rep h6, h7⟩
/-- What a call is handed, told with less. -/
theorem Cal.args {f : Nat} {args args' : List AV} {s : Store} {K : AV → Store → Prop} (h : Cal P f args' s K) (hw : WkAs args args') : Cal P f args s K := by
  unfold Cal at h ⊢
  exact fun w g vs h1 hG h2 h3 => h w g vs h1 hG h2 (hw.rep h3)

/-! ### The frame, laid open -/
/-- **A call beside a small store** holds beside any store that has its objects. -/
theorem Cal.frameK {f : Nat} {args0 args : List AV} {s0 s : Store} {K : AV → Store → Prop} (is : List Nat)
    (h : Cal P f args0 s0 fun r s' => s0.length ≤ s'.length → renK (place is s.length) r fun r' => mergeK (place is s.length) is s s' fun s'' => K r' s'')
    (ha : args = rens (place is s.length) args0) (hs : is.map (getO s) = s0.map (renO (place is s.length))) (hn : nodupLt is s.length = true) : Cal P f args s K := by
  refine Cal.frame is ?_ ha hs hn
  simp only [renK_eq, mergeK_eq] at h
  exact h
end Go.Proofs.YtjhgmaephpadpaaGreat.AW

namespace Go.Proofs.YtjhgmaephpadpaaGreat.AW
set_option linter.unusedSimpArgs false
set_option linter.unusedVariables false
variable {P : Program}

/-! ### A value told with less, at any depth -/
mutual
inductive WkD : PV → PV → Prop
  | refl (v : PV) : WkD v v
  | nil (sz : Nat) (k : SK) (sz' : Nat) : WkD (.sl .nil sz []) (.sl k sz' [])
  | agg (cs ds : List PV) (h : WkDs cs ds) : WkD (.agg cs) (.agg ds)
  | sl (k : SK) (sz : Nat) (xs ys : List PV) (hl : xs.length = ys.length) (hs : ∀ y, y ∈ ys → El sz y) (h : WkDs (flat xs) (flat ys)) : WkD (.sl k sz xs) (.sl .shr sz ys)
inductive WkDs : List PV → List PV → Prop
  | nil : WkDs [] []
  | cons (a b : PV) (r t : List PV) (h : WkD a b) (hs : WkDs r t) : WkDs (a :: r) (b :: t)
end

theorem WkDs.ne {cs ds : List PV} (h : WkDs cs ds) (hd : ds ≠ []) : cs ≠ [] := by
  cases h with
  | nil => exact hd
  | cons => simp
mutual
theorem WkD.rep {w : World} {B : Nat → Prop} : ∀ {a b : PV} {x : Value}, WkD a b → RepP w B a x → RepP w B b x
  | _, _, _, .refl v, hr => hr
  | _, _, _, .nil sz k sz', hr => by
    cases hr with
    | nil => exact .nil _ _
    | sl _ _ _ _ _ _ hk => exact absurd rfl hk
    | spt _ _ _ hk => exact absurd rfl hk
  | _, _, _, .agg cs ds h, hr => by
    cases hr with
    | agg _ a hs => exact .agg _ _ (WkDs.reps h hs)
  | _, _, _, .sl k sz xs ys hl hs h, hr => by
    cases hr with
    | nil =>
      have : ys = [] := by
        cases ys with
        | nil => rfl
        | cons => simp at hl
      subst this
      exact .nil _ _
    | spt _ _ ad hkn =>
      have : ys = [] := by
        cases ys with
        | nil => rfl
        | cons => simp at hl
      subst this
      exact .spt _ _ ad (by simp)
    | sl _ _ _ b off cap hkn hc hle _ hb hcell =>
      rw [hl]
      exact .sl _ _ _ b off cap (by simp) (by simp) (by rw [← hl]; exact hle) hs (fun hne => hb (h.ne hne)) (WkDs.cells h hcell)
theorem WkDs.reps {w : World} {B : Nat → Prop} : ∀ {as bs : List PV} {xs : List Value}, WkDs as bs → RepPs w B as xs → RepPs w B bs xs
  | _, _, _, .nil, hr => hr
  | _, _, _, .cons a b r t h hs, .cons _ x _ xs h1 h2 => .cons _ _ _ _ (WkD.rep h h1) (WkDs.reps hs h2)
theorem WkDs.cells {w : World} {B : Nat → Prop} : ∀ {as bs : List PV} {b off : Nat}, WkDs as bs → CellsP w B b off as → CellsP w B b off bs
  | _, _, _, _, .nil, hr => hr
  | _, _, _, _, .cons a b r t h hs, .cons _ _ _ x _ hc h1 h2 => .cons _ _ _ x _ hc (WkD.rep h h1) (WkDs.cells hs h2)
end

theorem WkDs.append {a b c d : List PV} (h1 : WkDs a b) (h2 : WkDs c d) : WkDs (a ++ c) (b ++ d) := by
  induction a generalizing b with
  | nil => cases h1; exact h2
  | cons x r ih =>
    cases h1 with
    | cons _ y _ t h hs => exact .cons _ _ _ _ h (ih hs)

/-- A tree handed over, told with less. -/
theorem Cal.arg1 {f : Nat} {p q : PV} {s : Store} {K : AV → Store → Prop} (h : Cal P f [.p q] s K) (hw : WkD p q) : Cal P f [.p p] s K := by
  unfold Cal at h ⊢
  refine fun w g vs h1 hG h2 h3 => h w g vs h1 hG h2 ?_
  cases h3 with
  | cons _ x _ xs ha hs => exact .cons _ _ _ _ (.p _ _ (hw.rep ha.inv_p)) hs
end Go.Proofs.YtjhgmaephpadpaaGreat.AW

namespace Go.Proofs.YtjhgmaephpadpaaGreat.AW
set_option linter.unusedSimpArgs false
set_option linter.unusedVariables false
open Go.RowKit
variable {P : Program}

end Go.Proofs.YtjhgmaephpadpaaGreat.AW

namespace Go.Proofs.YtjhgmaephpadpaaGreat.AW
set_option linter.unusedSimpArgs false
set_option linter.unusedVariables false
variable {P : Program}

/-! ### What a call hands back, told anew -/
/-- What a call returns has its own block: a beginning of it is read as a buffer of its own (no one else uses it any more). -/
theorem Cal.retract {f : Nat} {args : List AV} {s : Store} {K : AV → Store → Prop}
    (h : Cal P f args s fun v s' => ∃ id tot len sz xs ty, v = .osl id tot 0 len ∧ getO s' id = some (.buf sz xs ty) ∧ xs.length = tot ∧ len ≤ tot ∧ K (.osl s'.length len 0 len) (s'.set id none ++ [some (.buf sz (xs.take len) ty)])) : Cal P f args s K := by
  unfold Cal at h ⊢
  intro w g vs hinv hG hfr hargs
  refine (h w g vs hinv hG hfr hargs).mono fun e w' hq => ?_
  obtain ⟨r, v, s1, g1, rfl, ⟨id, tot, len, sz, xs, ty, rfl, hid, hxt, hlt, hk⟩, hle, hr, hinv1, hext, hC⟩ := hq
  have hidl := getO_lt hid
  have hC1 : ∀ i, g1.C i → i < s1.length := fun i hi => by
    rcases hC i hi with h | h
    · have := hfr i h; omega
    · exact h.2
  let g2 : G := { ι := fun i => if i = s1.length then g1.ι id else g1.ι i, X := g1.X, C := fun i => g1.C i ∨ i = s1.length, R := fun i => if i = s1.length then g1.R id else g1.R i }
  have hget : ∀ i, getO (s1.set id none ++ [some (.buf sz (xs.take len) ty)]) i = if i = s1.length then some (.buf sz (xs.take len) ty) else if i = id then none else getO s1 i := fun i => by
    rw [getO_snoc, List.length_set]
    by_cases h1 : i = s1.length
    · rw [if_pos h1, if_pos h1]
    · rw [if_neg h1, if_neg h1, getO_set s1 id none i hidl]
  have hne : id ≠ s1.length := by omega
  have hold : ∀ i o, i ≠ s1.length → getO (s1.set id none ++ [some (.buf sz (xs.take len) ty)]) i = some o → i ≠ id ∧ getO s1 i = some o := fun i o hi h => by
    rw [hget, if_neg hi] at h
    by_cases h2 : i = id
    · rw [if_pos h2] at h; cases h
    · rw [if_neg h2] at h; exact ⟨h2, h⟩
  have hnone : ∀ i, i ≠ s1.length → getO (s1.set id none ++ [some (.buf sz (xs.take len) ty)]) i ≠ none → i ≠ id ∧ getO s1 i ≠ none := fun i hi h => by
    obtain ⟨o, ho⟩ := Option.ne_none_iff_exists'.1 h
    obtain ⟨h1, h2⟩ := hold i o hi ho
    exact ⟨h1, by rw [h2]; simp⟩
  have hι : ∀ i, i ≠ s1.length → g2.ι i = g1.ι i := fun i hi => if_neg hi
  have hRi : ∀ i, i ≠ s1.length → (g2.R i ↔ g1.R i) := fun i hi => by show (if i = s1.length then g1.R id else g1.R i) ↔ _; rw [if_neg hi]
  have hι0 : g2.ι s1.length = g1.ι id := if_pos rfl
  have hR0 : g2.R s1.length ↔ g1.R id := by show (if s1.length = s1.length then g1.R id else g1.R _) ↔ _; rw [if_pos rfl]
  have hown : ∀ b, Own g2 (getO (s1.set id none ++ [some (.buf sz (xs.take len) ty)])) b → Own g1 (getO s1) b := by
    rintro b ⟨i, h1, h2, h3⟩
    by_cases hi : i = s1.length
    · subst hi
      exact ⟨id, by rw [hid]; simp, hR0.1 h2, by rw [← h3, hι0]⟩
    · exact ⟨i, (hnone i hi h1).2, (hRi i hi).1 h2, by rw [← h3, hι i hi]⟩
  have hlv : ∀ b, Lv g2 (getO (s1.set id none ++ [some (.buf sz (xs.take len) ty)])) b → Lv g1 (getO s1) b := fun b hb => hb.imp (fun h => h) (hown b)
  have hext2 : Ext w' g1 (getO s1) w' g2 (getO (s1.set id none ++ [some (.buf sz (xs.take len) ty)])) := {
    size := Nat.le_refl _
    os := rfl
    tape := rfl
    output := rfl
    frame := fun _ _ _ => rfl
    shape := fun _ _ => rfl
    X := rfl
    C := fun i h => .inl h
    own := fun b _ hb => hown b hb
    obj := fun i hc o ho => ⟨o, (hold i o (by have := hC1 i hc; omega) ho).2, .refl _⟩
    ι1 := fun i hc _ => have hi : i ≠ s1.length := by have := hC1 i hc; omega
      ⟨hι i hi, hRi i hi⟩
    ι2 := fun i _ _ _ _ _ hc _ _ _ => have hi : i ≠ s1.length := by have := hC1 i hc; omega
      ⟨hι i hi, hRi i hi⟩
    drawn := Nat.le_refl _ }
  have hinv2 : Inv w' g2 (getO (s1.set id none ++ [some (.buf sz (xs.take len) ty)])) := by
    refine ⟨fun i o h => ?_, fun i o h hr => ?_, hinv1.xlt, fun i j hi hj ri rj hij => ?_, fun i o h hR => ?_, fun i o h hR => ?_⟩
    · by_cases hi : i = s1.length
      · exact .inr hi
      · exact .inl (hinv1.made i o (hold i o hi h).2)
    · by_cases hi : i = s1.length
      · subst hi; rw [hι0]; exact hinv1.lies id _ hid (hR0.1 hr)
      · rw [hι i hi]; exact hinv1.lies i o (hold i o hi h).2 ((hRi i hi).1 hr)
    · by_cases h1 : i = s1.length
      · by_cases h2 : j = s1.length
        · rw [h1, h2]
        · exfalso
          obtain ⟨k1, k2⟩ := hnone j h2 hj
          subst h1
          rw [hι0, hι j h2] at hij
          exact k1 (hinv1.inj id j (by rw [hid]; simp) k2 (hR0.1 ri) ((hRi j h2).1 rj) hij).symm
      · by_cases h2 : j = s1.length
        · exfalso
          obtain ⟨k1, k2⟩ := hnone i h1 hi
          subst h2
          rw [hι0, hι i h1] at hij
          exact k1 (hinv1.inj i id k2 (by rw [hid]; simp) ((hRi i h1).1 ri) (hR0.1 rj) hij)
        · rw [hι i h1, hι j h2] at hij
          exact hinv1.inj i j (hnone i h1 hi).2 (hnone j h2 hj).2 ((hRi i h1).1 ri) ((hRi j h2).1 rj) hij
    · by_cases hi : i = s1.length
      · subst hi
        rw [hget, if_pos rfl] at h
        cases h
        rw [hι0]
        have := hinv1.rep id _ hid (hR0.1 hR)
        cases this with
        | buf _ _ cs hz hs hn hrp hb _ ht =>
          have hl : (xs.take len).length = len := by rw [List.length_take]; omega
          refine .buf sz _ cs hz (fun x hx => hs x (List.mem_of_mem_take hx)) (Nat.le_trans (Nat.mul_le_mul_left _ (by rw [hl]; omega)) hn) ?_ hb ty ht
          have e1 : flat (xs.take len) = (flat xs).take (len * sz) := flat_takeN len xs hs
          have e2 : cs.take (sz * (xs.take len).length) = (cs.take (sz * xs.length)).take (len * sz) := by
            rw [List.take_take, hl, Nat.mul_comm sz len]
            congr 1
            rw [Nat.min_eq_left]
            rw [Nat.mul_comm sz]
            exact Nat.mul_le_mul_right _ (by omega)
          rw [e1, e2]
          exact (hext2.repPs (hrp.take _))
      · rw [hι i hi]
        exact hext2.repO rfl (hinv1.rep i o (hold i o hi h).2 ((hRi i hi).1 hR))
    · by_cases hi : i = s1.length
      · subst hi
        rw [hget, if_pos rfl] at h
        cases h
        obtain ⟨sz', ty', h1, h2⟩ := hinv1.void id _ hid (fun q => hR (hR0.2 q))
        cases h2
        exact ⟨_, _, h1, by rw [List.take_nil]⟩
      · exact hinv1.void i o (hold i o hi h).2 (fun q => hR ((hRi i hi).2 q))
  refine ⟨.osl s1.length len 0 len, v, _, g2, rfl, hk, by simp; omega, ?_, hinv2, hext.trans hext2, fun i hi => ?_⟩
  · cases hr with
    | osl _ _ _ _ _ hc hx ht hq =>
      refine .osl _ _ _ _ _ (.inr rfl) hx (fun sz' xs' ty' h => ?_) (fun sz' xs' ty' h hl => ?_) (Nat.zero_le _)
      · rw [hget, if_pos rfl] at h
        cases h
        rw [List.length_take]; omega
      · rw [hget, if_pos rfl] at h
        cases h
        obtain ⟨q1, q2, q3⟩ := hq sz xs ty hid hxt
        refine ⟨by omega, fun hr => q2 fun q => hr (hR0.2 q), fun hr => ?_⟩
        rw [hι0]
        exact q3 (hR0.1 hr)
  · rcases hi with hi | hi
    · rcases hC i hi with h | h
      · exact .inl h
      · exact .inr ⟨h.1, by simp; omega⟩
    · subst hi
      exact .inr ⟨hle, by simp⟩

/-! ### What a call leaves behind, forgotten or told with less -/
inductive WkEs : List (Nat × PV × PV) → List (Nat × PV × PV) → Prop
  | nil : WkEs [] []
  | cons (n : Nat) (k v v' : PV) (r t : List (Nat × PV × PV)) (h : WkD v v') (hs : WkEs r t) : WkEs ((n, k, v) :: r) ((n, k, v') :: t)
inductive WkO : Option AObj → Option AObj → Prop
  | refl (o : Option AObj) : WkO o o
  | map (kk : KK) (es es' : List (Nat × PV × PV)) (clock : Nat) (h : WkEs es es') : WkO (some (.map kk es clock)) (some (.map kk es' clock))
inductive WkS : Store → Store → Prop
  | nil : WkS [] []
  | cons (o o' : Option AObj) (r t : Store) (h : WkO o o') (hs : WkS r t) : WkS (o :: r) (o' :: t)
theorem WkS.refl : ∀ s : Store, WkS s s
  | [] => .nil
  | o :: r => .cons o o r r (.refl o) (WkS.refl r)
theorem WkEs.refl : ∀ es : List (Nat × PV × PV), WkEs es es
  | [] => .nil
  | (n, k, v) :: r => .cons n k v v r r (.refl v) (WkEs.refl r)
theorem WkS.len : ∀ {s t : Store}, WkS s t → s.length = t.length
  | _, _, .nil => rfl
  | _, _, .cons _ _ _ _ _ h => by simp [h.len]
theorem WkS.get : ∀ {s t : Store}, WkS s t → ∀ id, WkO (getO s id) (getO t id)
  | _, _, .nil, id => .refl _
  | _, _, .cons o o' r t h hs, 0 => by
    show WkO (match (some o : Option (Option AObj)) with | some o => o | none => none) (match (some o' : Option (Option AObj)) with | some o => o | none => none)
    exact h
  | _, _, .cons o o' r t h hs, id + 1 => by
    have := hs.get id
    simpa [getO] using this
theorem WkEs.rep {w : World} {B : Nat → Prop} : ∀ {es fs : List (Nat × PV × PV)} {xs : List MapEntry}, WkEs es fs → EntsP w B es xs → EntsP w B fs xs
  | _, _, _, .nil, h => h
  | _, _, _, .cons n k v v' r t hw hs, .cons _ _ _ x y _ xs hk hv h => .cons n k v' x y t xs hk (hw.rep hv) (hs.rep h)
theorem WkEs.fst : ∀ {es fs : List (Nat × PV × PV)}, WkEs es fs → fs.map (·.1) = es.map (·.1)
  | _, _, .nil => rfl
  | _, _, .cons _ _ _ _ _ _ _ hs => by simp [hs.fst]
theorem WkEs.key : ∀ {es fs : List (Nat × PV × PV)}, WkEs es fs → ∀ q, q ∈ fs → ∃ q', q' ∈ es ∧ q'.1 = q.1 ∧ q'.2.1 = q.2.1
  | _, _, .cons n k v v' r t hw hs, q, hq => by
    rcases List.mem_cons.1 hq with rfl | hq
    · exact ⟨(n, k, v), by simp, rfl, rfl⟩
    · obtain ⟨q', h1, h2⟩ := hs.key q hq
      exact ⟨q', List.mem_cons_of_mem _ h1, h2⟩
theorem WkO.kind {o o' : AObj} (h : WkO (some o) (some o')) : sameKind o o' ∧ (∀ sz xs ty, o' = .buf sz xs ty → o = .buf sz xs ty) := by
  cases h with
  | refl => exact ⟨.refl _, fun _ _ _ h => h⟩
  | map kk es es' clock h => exact ⟨rfl, fun _ _ _ h => by cases h⟩
theorem WkO.some' {o : Option AObj} {o' : AObj} (h : WkO o (some o')) : ∃ o1, o = some o1 := by
  cases h with
  | refl => exact ⟨_, rfl⟩
  | map => exact ⟨_, rfl⟩
theorem WkO.back {o1 : AObj} {o : Option AObj} (h : WkO (some o1) o) : ∃ o', o = some o' := by
  cases h with
  | refl => exact ⟨_, rfl⟩
  | map => exact ⟨_, rfl⟩

/-- A store told with less. -/
theorem wk_store {w : World} {g : G} {s t : Store} (h : WkS s t) (hinv : Inv w g (getO s)) : Inv w g (getO t) ∧ Ext w g (getO s) w g (getO t) := by
  have hg := h.get
  have hback : ∀ id o', getO t id = some o' → ∃ o, getO s id = some o ∧ WkO (some o) (some o') := fun id o' ho => by
    have := hg id
    rw [ho] at this
    obtain ⟨o, e⟩ := this.some'
    rw [e] at this
    exact ⟨o, e, this⟩
  have hne : ∀ id, getO t id ≠ none → getO s id ≠ none := fun id hh => by
    obtain ⟨o', ho⟩ := Option.ne_none_iff_exists'.1 hh
    obtain ⟨o, e, _⟩ := hback id o' ho
    rw [e]; simp
  have hext : Ext w g (getO s) w g (getO t) := {
    size := Nat.le_refl _
    os := rfl
    tape := rfl
    output := rfl
    frame := fun _ _ _ => rfl
    shape := fun _ _ => rfl
    X := rfl
    C := fun _ h => h
    own := fun b _ ⟨i, h1, h2, h3⟩ => ⟨i, hne i h1, h2, h3⟩
    obj := fun id _ o' ho => by obtain ⟨o, e, hk⟩ := hback id o' ho; exact ⟨o, e, hk.kind.1⟩
    ι1 := fun _ _ _ => ⟨rfl, .rfl⟩
    ι2 := fun _ _ _ _ _ _ _ _ _ _ => ⟨rfl, .rfl⟩
    drawn := Nat.le_refl _ }
  refine ⟨⟨fun id o' ho => ?_, fun id o' ho hr => ?_, hinv.xlt, fun i j hi hj => hinv.inj i j (hne i hi) (hne j hj), fun id o' ho hR => ?_, fun id o' ho hR => ?_⟩, hext⟩
  · obtain ⟨o, e, _⟩ := hback id o' ho; exact hinv.made id o e
  · obtain ⟨o, e, _⟩ := hback id o' ho; exact hinv.lies id o e hr
  · obtain ⟨o, e, hk⟩ := hback id o' ho
    have hr := hext.repO rfl (hinv.rep id o e hR)
    cases hk with
    | refl => exact hr
    | map kk es es' clock hw =>
      cases hr with
      | map _ _ _ xs he hb hkk hc hn => exact .map kk es' clock xs (hw.rep he) hb (fun q hq => by obtain ⟨q', k1, k2, k3⟩ := hw.key q hq; rw [← k3]; exact hkk q' k1) (fun q hq => by obtain ⟨q', k1, k2, _⟩ := hw.key q hq; rw [← k2]; exact hc q' k1) (by rw [hw.fst]; exact hn)
  · obtain ⟨o, e, hk⟩ := hback id o' ho
    obtain ⟨sz, ty, h1, h2⟩ := hinv.void id o e hR
    subst h2
    cases hk with
    | refl => exact ⟨sz, ty, h1, rfl⟩

theorem Inv.cut {w : World} {g : G} {s : Store} (h : Inv w g (getO s)) {N : Nat} (ho : (s.take N).all (objUnder N) = true) : Inv w (g.upto N) (getO (s.take N)) := by
  have hsub : ∀ id o, St.upto (getO s) N id = some o → getO s id = some o ∧ id < N := fun id o hq => by
    unfold St.upto at hq
    split at hq
    · exact ⟨hq, by assumption⟩
    · cases hq
  have hne : ∀ id, St.upto (getO s) N id ≠ none → getO s id ≠ none := fun id hq => by
    obtain ⟨o, ho⟩ := Option.ne_none_iff_exists'.1 hq
    rw [(hsub id o ho).1]; simp
  have hmem : ∀ id o, St.upto (getO s) N id = some o → objUnder N (some o) = true := fun id o hq => by
    have hlt := (hsub id _ hq).2
    have hs : (s.take N)[id]? = some (some o) := by
      have := (hsub id _ hq).1
      unfold getO at this
      rw [List.getElem?_take_of_lt hlt]
      split at this
      · rename_i o' ho'; rw [ho', this]
      · cases this
    exact List.all_eq_true.1 ho _ (List.mem_of_getElem? hs)
  rw [getO_take]
  refine ⟨fun id o hq => ⟨h.made id o (hsub id o hq).1, (hsub id o hq).2⟩, fun id o hq hr => h.lies id o (hsub id o hq).1 hr, h.xlt, fun i j hi hj => h.inj i j (hne i hi) (hne j hj), fun id o hq hR => ?_, fun id o hq hr => h.void id o (hsub id o hq).1 hr⟩
  have hr := h.rep id o (hsub id o hq).1 hR
  have hm := hmem id o hq
  show RepO w _ _ (g.ι id) o
  cases hr with
  | cells cs ty xs hc hb ht => exact .cells cs ty xs (upto_repAs hc (by simpa [objUnder] using hm)) hb ht
  | buf sz es xs hz hs hn hc hb ty ht => exact .buf sz es xs hz hs hn (hc.keep (fun _ _ _ => rfl) (fun _ _ h => upto_lv h)) hb ty ht
  | iterS s' pos x hx hp hb => exact .iterS s' pos x hx hp hb
  | map kk es clock xs he hw hk hc hn => exact .map kk es clock xs (he.keep (fun _ _ _ => rfl) (fun _ _ h => upto_lv h)) hw hk hc hn
  | iterM mid bs left since last seen hC hm' hl hs hw =>
    have hmid : mid < N := blt_lt (by simpa [objUnder] using hm)
    exact .iterM mid bs left since last seen ⟨hC, hmid⟩ (by simpa [St.upto, hmid] using hm') hl hs hw

/-- What is new behind N is forgotten, and what is left is told with less. -/
theorem Cal.cut {f : Nat} {args : List AV} {s : Store} {K : AV → Store → Prop}
    (h : Cal P f args s fun v s' => ∃ N t, s.length ≤ N ∧ N ≤ s'.length ∧ v.under N = true ∧ (s'.take N).all (objUnder N) = true ∧ WkS (s'.take N) t ∧ K v t) : Cal P f args s K := by
  unfold Cal at h ⊢
  intro w g vs hinv hG hfr hargs
  refine (h w g vs hinv hG hfr hargs).mono fun e w' hq => ?_
  obtain ⟨r, v, s1, g1, rfl, ⟨N, t, hsN, hN1, hu, ho, hw, hk⟩, hle, hr, hinv1, hext, hC⟩ := hq
  have hi2 := hinv1.cut ho
  have hr2 := upto_repA hr hu
  rw [← getO_take] at hr2
  have hCN : ∀ id, g.C id → id < N := fun id hid => Nat.lt_of_lt_of_le (hfr id hid) hsN
  have hsub : ∀ id o, getO (s1.take N) id = some o → getO s1 id = some o := fun id o hq => by
    rw [getO_take] at hq
    unfold St.upto at hq
    split at hq
    · exact hq
    · cases hq
  have hown : ∀ b, Own (g1.upto N) (getO (s1.take N)) b → Own g1 (getO s1) b := by
    rintro b ⟨i, h1, h2, h3⟩
    obtain ⟨o, ho⟩ := Option.ne_none_iff_exists'.1 h1
    exact ⟨i, by rw [hsub i o ho]; simp, h2, h3⟩
  have hext2 : Ext w g (getO s) w' (g1.upto N) (getO (s1.take N)) := {
    size := hext.size
    os := hext.os
    tape := hext.tape
    output := hext.output
    frame := hext.frame
    shape := hext.shape
    X := hext.X
    C := fun id hid => ⟨hext.C id hid, hCN id hid⟩
    own := fun b hb hb2 => hext.own b hb (hown b hb2)
    obj := fun id hid o' ho' => hext.obj id hid o' (hsub id o' ho')
    ι1 := hext.ι1
    ι2 := fun id sz xs xs' ty ty' hid h1 h2 h3 => hext.ι2 id sz xs xs' ty ty' hid h1 (hsub _ _ h2) h3
    drawn := hext.drawn }
  obtain ⟨hi3, hext3⟩ := wk_store hw hi2
  have htl : t.length = N := by rw [← hw.len, List.length_take]; omega
  exact ⟨r, v, t, g1.upto N, rfl, hk, by omega, hext3.repA hr2, hi3, hext2.trans hext3, fun id hid => by
    rcases hC id hid.1 with q | q
    · exact .inl q
    · exact .inr ⟨q.1, by rw [htl]; exact hid.2⟩⟩
end Go.Proofs.YtjhgmaephpadpaaGreat.AW
