/- A part of the proof: AW/Field. -/
import Derived.Test.YtjhgmaephpadpaaGreatP7
namespace Go.Proofs.YtjhgmaephpadpaaGreat.AW
set_option linter.unusedSimpArgs false
set_option linter.unusedVariables false
variable {P : Program}

/-! ### A slice in a cell, told as a tree -/
theorem RepAs.setAt {w : World} {g : G} {σ : St} : ∀ {cs : List AV} {xs : List Value} {i : Nat} {a b : AV}, RepAs w g σ cs xs → cs[i]? = some a → (∀ x, RepA w g σ a x → RepA w g σ b x) → RepAs w g σ (cs.set i b) xs
  | _ :: _, _, 0, a, b, .cons _ x _ xs h hs, hi, hab => by
    simp at hi; subst hi
    exact .cons _ _ _ _ (hab x h) hs
  | _ :: _, _, i + 1, a, b, .cons _ x _ xs h hs, hi, hab => .cons _ _ _ _ h (RepAs.setAt hs (by simpa using hi) hab)
  | [], _, _, _, _, _, hi, _ => by simp at hi
theorem RepAs.at {w : World} {g : G} {σ : St} : ∀ {cs : List AV} {xs : List Value} {i : Nat} {a : AV}, RepAs w g σ cs xs → cs[i]? = some a → ∃ x, xs[i]? = some x ∧ RepA w g σ a x
  | _ :: _, _, 0, a, .cons _ x _ xs h hs, hi => by
    simp at hi; subst hi; exact ⟨x, rfl, h⟩
  | _ :: _, _, i + 1, a, .cons _ x _ xs h hs, hi => by simpa using RepAs.at hs (by simpa using hi)
  | [], _, _, _, _, hi => by simp at hi
theorem RepAs.put {w : World} {g : G} {σ : St} : ∀ {cs : List AV} {xs : List Value} {i : Nat} {b : AV} {x : Value}, RepAs w g σ cs xs → xs[i]? = some x → RepA w g σ b x → RepAs w g σ (cs.set i b) xs
  | _ :: _, _, 0, b, x, .cons _ y _ xs h hs, hi, hb => by
    simp at hi; subst hi
    exact .cons _ _ _ _ hb hs
  | _ :: _, _, i + 1, b, x, .cons _ y _ xs h hs, hi, hb => .cons _ _ _ _ h (RepAs.put hs (by simpa using hi) hb)
  | [], _, _, _, _, .nil, hi, _ => by simp at hi

/-- An object of cells, told with other words for the same values. -/
theorem Inv.tell {w : World} {g : G} {σ : St} (h : Inv w g σ) {id : Nat} {cs cs' : List AV} {ty : Option Nat} (hs : σ id = some (.cells cs ty)) (hl : cs'.length = cs.length) (hr : ∀ xs, RepAs w g σ cs xs → cellsFlat w (g.ι id) xs → RepAs w g σ cs' xs) :
    Inv w g (fun j => if j = id then some (.cells cs' ty) else σ j) ∧ Ext w g σ w g (fun j => if j = id then some (.cells cs' ty) else σ j) := by
  have hR : g.R id := h.real hs (by intro sz t e; cases e)
  have hne : ∀ j, (if j = id then some (.cells cs' ty) else σ j) ≠ none ↔ σ j ≠ none := fun j => by
    by_cases hj : j = id
    · subst hj; simp [hs]
    · simp [hj]
  have hown : ∀ b, Own g (fun j => if j = id then some (.cells cs' ty) else σ j) b ↔ Own g σ b := fun b => by
    unfold Own
    constructor
    · rintro ⟨j, h1, h2⟩; exact ⟨j, (hne j).1 h1, h2⟩
    · rintro ⟨j, h1, h2⟩; exact ⟨j, (hne j).2 h1, h2⟩
  have hext : Ext w g σ w g (fun j => if j = id then some (.cells cs' ty) else σ j) := by
    refine ⟨Nat.le_refl _, rfl, rfl, rfl, fun _ _ _ => rfl, fun _ _ => rfl, rfl, fun _ h => h, fun b _ hb => (hown b).1 hb, fun j hc o' ho' => ?_, fun _ _ _ => ⟨rfl, .rfl⟩, fun _ _ _ _ _ _ _ _ _ _ => ⟨rfl, .rfl⟩, Nat.le_refl _⟩
    by_cases hj : j = id
    · subst hj; simp at ho'; subst ho'
      exact ⟨_, hs, by simp [sameKind, hl]⟩
    · simp only [hj, if_false] at ho'
      exact ⟨o', ho', .refl _⟩
  refine ⟨⟨fun j o ho => ?_, fun j o ho hr => ?_, h.xlt, fun i j hi hj => h.inj i j ((hne i).1 hi) ((hne j).1 hj), fun j o ho hRj => ?_, fun j o ho hRj => ?_⟩, hext⟩
  · obtain ⟨o', ho'⟩ := Option.ne_none_iff_exists'.1 ((hne j).1 (by rw [ho]; simp)); exact h.made j o' ho'
  · obtain ⟨o', ho'⟩ := Option.ne_none_iff_exists'.1 ((hne j).1 (by rw [ho]; simp)); exact h.lies j o' ho' hr
  · by_cases hj : j = id
    · subst hj; simp at ho; subst ho
      have hrep := h.rep _ _ hs hR
      cases hrep with
      | cells _ _ xs hc hx ht => exact .cells cs' ty xs (hext.repAs (hr xs hc hx)) hx ht
    · simp only [hj, if_false] at ho
      exact hext.repO rfl (h.rep j o ho hRj)
  · by_cases hj : j = id
    · subst hj; exact absurd hR hRj
    · simp only [hj, if_false] at ho
      exact h.void j o ho hRj

/-- What a call leaves in a cell, an owned slice, is told as a tree; or nothing is told anew. -/
theorem Cal.frzF {f : Nat} {args : List AV} {s : Store} {K : AV → Store → Prop} (id i : Nat)
    (h : Cal P f args s fun v s' => K v s' ∨ ∃ cs ty k tot off len sz xs tyb, getO s' id = some (.cells cs ty) ∧ cs[i]? = some (.osl k tot off len) ∧ getO s' k = some (.buf sz xs tyb) ∧ xs.length = tot ∧
      K v ((s'.set k none).set id (some (.cells (cs.set i (.p (.sl .shr sz ((xs.drop off).take len)))) ty)))) : Cal P f args s K := by
  unfold Cal at h ⊢
  refine fun w g vs hinv hG hfresh hargs => (h w g vs hinv hG hfresh hargs).mono fun e w' hpost => ?_
  obtain ⟨r, v, s', g', rfl, hk, hlen, hrep, hinv', hext, hC⟩ := hpost
  rcases hk with hk | ⟨cs, ty, k, tot, off, len, sz, xs, tyb, h1, h2, h3, h4, hk⟩
  · exact ⟨r, v, s', g', rfl, hk, hlen, hrep, hinv', hext, hC⟩
  have hR : g'.R id := hinv'.real h1 (by intro sz t e; cases e)
  have hne : id ≠ k := fun e => by rw [e, h3] at h1; cases h1
  have hrep1 := hinv'.rep _ _ h1 hR
  cases hrep1 with
  | cells _ _ ys hc hx ht =>
    obtain ⟨x, hxi, hxr⟩ := hc.at h2
    have c : Cx w' g' (getO s') s' (fun _ => True) False := ⟨hinv', fun _ _ => rfl, fun hh => hh.elim⟩
    obtain ⟨p, s2, ⟨rfl, rfl⟩, fz, k3⟩ := toP_tree hxr c (fun _ _ => trivial) (K := fun p s'' => p = .sl .shr sz ((xs.drop off).take len) ∧ s'' = s'.set k none) (by
      unfold toP; simp only [h3]; unfold Ob; rw [killK_eq]; exact ⟨h4, by simp⟩)
    have hov : ovr (fun _ => True) s' (s'.set k none) (getO s') = getO (s'.set k none) := by funext i; simp [ovr]
    have q1 := fz.inv; have q2 := fz.ext
    rw [hov] at q1 q2 k3
    have hkl := getO_lt h3
    have hid2 : getO (s'.set k none) id = some (.cells cs ty) := by rw [getO_set s' k none id hkl, if_neg hne]; exact h1
    obtain ⟨q3, q4⟩ := q1.tell hid2 (cs' := cs.set i (.p (.sl .shr sz ((xs.drop off).take len)))) (by simp) (fun zs hz hzx => by
      obtain ⟨e1, hx1⟩ := hx
      obtain ⟨e2, hx2⟩ := hzx
      have : zs = ys := by
        rw [hx1] at hx2
        have := Obj.cells.inj (Option.some.inj hx2)
        have h5 := congrArg Array.toList this.1
        simpa using h5.symm
      subst this
      exact hz.put hxi (.p _ _ k3))
    have hσ : (fun j => if j = id then some (AObj.cells (cs.set i (.p (.sl .shr sz ((xs.drop off).take len)))) ty) else getO (s'.set k none) j) = getO ((s'.set k none).set id (some (.cells (cs.set i (.p (.sl .shr sz ((xs.drop off).take len)))) ty))) := by
      funext j
      rw [getO_set (s'.set k none) id _ j (getO_lt hid2)]
    rw [hσ] at q3 q4
    refine ⟨r, v, _, g', rfl, hk, by simpa using hlen, q4.repA (q2.repA hrep), q3, hext.trans (q2.trans q4), fun j hj => by simpa using hC j hj⟩

def WkL : List AV → List AV → Prop
  | [], [] => True
  | a :: r, b :: t => (a = b ∨ ∃ p q, a = .p p ∧ b = .p q ∧ WkD p q) ∧ WkL r t
  | _, _ => False
theorem WkL.rep {w : World} {g : G} {σ : St} : ∀ {us bs : List AV} {xs : List Value}, WkL us bs → RepAs w g σ us xs → RepAs w g σ bs xs
  | [], [], _, _, h => h
  | a :: r, b :: t, _, h, .cons _ x _ xs h1 h2 => .cons _ _ _ _ (by
      rcases h.1 with rfl | ⟨p, q, rfl, rfl, hw⟩
      · exact h1
      · exact .p _ _ (hw.rep h1.inv_p)) (WkL.rep h.2 h2)
  | [], _ :: _, _, h, _ => h.elim
  | _ :: _, [], _, h, _ => h.elim
theorem Cal.argsD {P : Program} {f : Nat} {args args' : List AV} {s : Store} {K : AV → Store → Prop} (h : Cal P f args' s K) (hw : WkL args args') : Cal P f args s K := by
  unfold Cal at h ⊢
  exact fun w g vs h1 hG h2 h3 => h w g vs h1 hG h2 (hw.rep h3)

theorem WkL.len : ∀ {us vs : List AV}, WkL us vs → vs.length = us.length
  | [], [], _ => rfl
  | _ :: _, _ :: _, h => by rw [List.length_cons, List.length_cons, WkL.len h.2]
  | [], _ :: _, h => h.elim
  | _ :: _, [], h => h.elim
theorem tell_store {w : World} {g : G} {s : Store} (h : Inv w g (getO s)) {id : Nat} {cs cs' : List AV} {ty : Option Nat} (hs : getO s id = some (.cells cs ty)) (hw : WkL cs cs') :
    Inv w g (getO (s.set id (some (.cells cs' ty)))) ∧ Ext w g (getO s) w g (getO (s.set id (some (.cells cs' ty)))) := by
  obtain ⟨q3, q4⟩ := h.tell hs (cs' := cs') hw.len (fun zs hz _ => hw.rep hz)
  have hσ : (fun j => if j = id then some (AObj.cells cs' ty) else getO s j) = getO (s.set id (some (.cells cs' ty))) := by
    funext j
    rw [getO_set s id _ j (getO_lt hs)]
  rw [hσ] at q3 q4
  exact ⟨q3, q4⟩
/-- A call beside cells that are told with less. -/
theorem Cal.tellIn {f : Nat} {args : List AV} {s : Store} {K : AV → Store → Prop} (id : Nat) {cs cs' : List AV} {ty : Option Nat} (hs : getO s id = some (.cells cs ty)) (hw : WkL cs cs') (h : Cal P f args (s.set id (some (.cells cs' ty))) K) : Cal P f args s K := by
  unfold Cal at h ⊢
  refine fun w g vs hinv hG hfresh hargs => ?_
  obtain ⟨q1, q2⟩ := tell_store hinv hs hw
  refine (h w g vs q1 (hG.ext q2) (fun j hj => by rw [List.length_set]; exact hfresh j hj) (q2.repAs hargs)).mono fun e w' hpost => ?_
  obtain ⟨r, v, s', g', h4, hk, hlen, hrep, hinv', hext, hC⟩ := hpost
  rw [List.length_set] at hlen hC
  exact ⟨r, v, s', g', h4, hk, hlen, hrep, hinv', q2.trans hext, hC⟩
/-- What a call leaves in cells, told with less. -/
theorem Cal.tellOut {f : Nat} {args : List AV} {s : Store} {K : AV → Store → Prop} (h : Cal P f args s fun v s' => K v s' ∨ ∃ id cs cs' ty, getO s' id = some (.cells cs ty) ∧ WkL cs cs' ∧ K v (s'.set id (some (.cells cs' ty)))) : Cal P f args s K := by
  unfold Cal at h ⊢
  refine fun w g vs hinv hG hfresh hargs => (h w g vs hinv hG hfresh hargs).mono fun e w' hpost => ?_
  obtain ⟨r, v, s', g', h4, hk, hlen, hrep, hinv', hext, hC⟩ := hpost
  rcases hk with hk | ⟨id, cs, cs', ty, h1, h2, hk⟩
  · exact ⟨r, v, s', g', h4, hk, hlen, hrep, hinv', hext, hC⟩
  · obtain ⟨q1, q2⟩ := tell_store hinv' h1 h2
    exact ⟨r, v, _, g', h4, hk, by simpa using hlen, q2.repA hrep, q1, hext.trans q2, fun j hj => by simpa using hC j hj⟩

/-- A part of what a call returns, an owned slice, is told as a tree. -/
theorem Cal.frzT {f : Nat} {args : List AV} {s : Store} {K : AV → Store → Prop} (i : Nat)
    (h : Cal P f args s fun v s' => ∃ vs k tot off len sz xs tyb, v = .tup vs ∧ vs[i]? = some (.osl k tot off len) ∧ getO s' k = some (.buf sz xs tyb) ∧ xs.length = tot ∧
      K (.tup (vs.set i (.p (.sl .shr sz ((xs.drop off).take len))))) (s'.set k none)) : Cal P f args s K := by
  unfold Cal at h ⊢
  refine fun w g vs hinv hG hfresh hargs => (h w g vs hinv hG hfresh hargs).mono fun e w' hpost => ?_
  obtain ⟨r, v, s', g', rfl, ⟨us, k, tot, off, len, sz, xs, tyb, rfl, h2, h3, h4, hk⟩, hlen, hrep, hinv', hext, hC⟩ := hpost
  cases hrep with
  | tup _ a hc =>
    obtain ⟨x, hxi, hxr⟩ := hc.at h2
    have c : Cx w' g' (getO s') s' (fun _ => True) False := ⟨hinv', fun _ _ => rfl, fun hh => hh.elim⟩
    obtain ⟨p, s2, ⟨rfl, rfl⟩, fz, k3⟩ := toP_tree hxr c (fun _ _ => trivial) (K := fun p s'' => p = .sl .shr sz ((xs.drop off).take len) ∧ s'' = s'.set k none) (by
      unfold toP; simp only [h3]; unfold Ob; rw [killK_eq]; exact ⟨h4, by simp⟩)
    have hov : ovr (fun _ => True) s' (s'.set k none) (getO s') = getO (s'.set k none) := by funext i; simp [ovr]
    have q1 := fz.inv; have q2 := fz.ext
    rw [hov] at q1 q2 k3
    exact ⟨_, _, _, g', rfl, hk, by simpa using hlen, .tup _ a ((q2.repAs hc).put hxi (.p _ _ k3)), q1, hext.trans q2, fun j hj => by simpa using hC j hj⟩
end Go.Proofs.YtjhgmaephpadpaaGreat.AW
