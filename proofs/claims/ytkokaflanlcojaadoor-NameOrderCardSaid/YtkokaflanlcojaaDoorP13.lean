/- A part of the proof: AW/Deep. -/
import Derived.Test.YtkokaflanlcojaaDoorP10
namespace Go.Proofs.YtkokaflanlcojaaDoor.AW
variable {P : Program}

/-! ### A value told with less, at any depth -/
mutual
inductive WkD : PV → PV → Prop
  | refl (v : PV) : WkD v v
  | nil (sz : Nat) (k : SK) (sz' : Nat) : WkD (.sl .nil sz []) (.sl k sz' [])
  | agg (cs ds : List PV) (h : WkDs cs ds) : WkD (.agg cs) (.agg ds)
  | sl (k : SK) (sz : Nat) (xs ys : List PV) (hl : xs.length = ys.length) (hs : ∀ y, y ∈ ys → El sz y) (h : WkDs (flat xs) (flat ys)) : WkD (.sl k sz xs) (.sl .shr sz ys)
inductive WkDs : List PV → List PV → Prop
  | nil : WkDs [] []
  | cons (a b : PV) (r t : List PV) (h : WkD a b) (hs : WkDs r t) : WkDs (a :: r) (b :: t)
end

theorem WkDs.ne {cs ds : List PV} (h : WkDs cs ds) (hd : ds ≠ []) : cs ≠ [] := by
  cases h with
  | nil => exact hd
  | cons => simp
mutual
theorem WkD.rep {w : World} {B : Nat → Prop} : ∀ {a b : PV} {x : Value}, WkD a b → RepP w B a x → RepP w B b x
  | _, _, _, .refl v, hr => hr
  | _, _, _, .nil sz k sz', hr => by
    cases hr with
    | nil => exact .nil _ _
    | sl _ _ _ _ _ _ hk => exact absurd rfl hk
  | _, _, _, .agg cs ds h, hr => by
    cases hr with
    | agg _ a hs => exact .agg _ _ (WkDs.reps h hs)
  | _, _, _, .sl k sz xs ys hl hs h, hr => by
    cases hr with
    | nil =>
      have : ys = [] := by
        cases ys with
        | nil => rfl
        | cons => simp at hl
      subst this
      exact .nil _ _
    | sl _ _ _ b off cap hkn hc hle _ hb hcell =>
      rw [hl]
      exact .sl _ _ _ b off cap (by simp) (by simp) (by rw [← hl]; exact hle) hs (fun hne => hb (h.ne hne)) (WkDs.cells h hcell)
theorem WkDs.reps {w : World} {B : Nat → Prop} : ∀ {as bs : List PV} {xs : List Value}, WkDs as bs → RepPs w B as xs → RepPs w B bs xs
  | _, _, _, .nil, hr => hr
  | _, _, _, .cons a b r t h hs, .cons _ x _ xs h1 h2 => .cons _ _ _ _ (WkD.rep h h1) (WkDs.reps hs h2)
theorem WkDs.cells {w : World} {B : Nat → Prop} : ∀ {as bs : List PV} {b off : Nat}, WkDs as bs → CellsP w B b off as → CellsP w B b off bs
  | _, _, _, _, .nil, hr => hr
  | _, _, _, _, .cons a b r t h hs, .cons _ _ _ x _ hc h1 h2 => .cons _ _ _ x _ hc (WkD.rep h h1) (WkDs.cells hs h2)
end

theorem WkDs.append {a b c d : List PV} (h1 : WkDs a b) (h2 : WkDs c d) : WkDs (a ++ c) (b ++ d) := by
  induction a generalizing b with
  | nil => cases h1; exact h2
  | cons x r ih =>
    cases h1 with
    | cons _ y _ t h hs => exact .cons _ _ _ _ h (ih hs)

/-- A tree handed over, told with less. -/
theorem Cal.arg1 {f : Nat} {p q : PV} {s : Store} {K : AV → Store → Prop} (h : Cal P f [.p q] s K) (hw : WkD p q) : Cal P f [.p p] s K := by
  unfold Cal at h ⊢
  refine fun w g vs h1 hG h2 h3 => h w g vs h1 hG h2 ?_
  cases h3 with
  | cons _ x _ xs ha hs => exact .cons _ _ _ _ (.p _ _ (hw.rep ha.inv_p)) hs
end Go.Proofs.YtkokaflanlcojaaDoor.AW
