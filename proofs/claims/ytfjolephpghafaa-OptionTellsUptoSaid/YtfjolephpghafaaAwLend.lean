import Derived.Test.YtfjolephpghafaaAwPure
namespace Go.Proofs.Ytfjolephpghafaa.AW
variable {P : Program}

/-- A value that reaches no memory. -/
def scalar : AV → Bool
  | .p (.bool _) | .p (.int _ _) | .p (.str _) => true
  | _ => false

theorem scalar_rep {w w' : World} {g g' : G} {σ σ' : St} {v : AV} {x : Value} (hs : scalar v = true) (h : RepA w g σ v x) : RepA w' g' σ' v x := by
  cases h with
  | p v x h => cases h <;> first | exact .p _ _ (.bool _) | exact .p _ _ (.int _ _) | exact .p _ _ (.str _) | simp [scalar] at hs
  | _ => simp [scalar] at hs

/-- A call to which owned slices are lent: what it returns reaches no memory, so they are the caller's again. -/
theorem Cal.lend {f : Nat} {args : List AV} {ps : List PV} {s : Store} {v : AV} {K : AV → Store → Prop} (hps : partsP s args fun qs _ => qs = ps) (h : Cal P f (ps.map .p) [] fun r _ => r = v) (hv : scalar v = true) (hk : K v s) : Cal P f args s K := by
  unfold Cal at h ⊢
  refine ⟨h.1, fun w g vs hinv hfresh hargs => ?_⟩
  have c : Cx w g (getO s) s (fun _ => True) False := ⟨hinv, fun _ _ => rfl, fun hh => hh.elim⟩
  obtain ⟨qs, s2, rfl, fz, k3⟩ := partsP_tree hargs c (fun _ _ _ _ => trivial) hps
  have hov : ovr (fun _ => True) s s2 (getO s) = getO s2 := by funext i; simp [ovr]
  have q1 := fz.inv; have q2 := fz.ext
  rw [hov] at q1 q2 k3
  let g0 : G := { ι := g.ι, X := Lv g (getO s2), C := fun _ => False }
  have hemp : ∀ id, getO ([] : Store) id = none := fun id => rfl
  have hlv0 : ∀ b, Lv g0 (getO []) b → Lv g (getO s2) b := by
    rintro b (h | ⟨id, h1, _⟩)
    · exact h
    · exact absurd (hemp id) h1
  have hlt : ∀ b, Lv g (getO s2) b → b < w.heap.size := by
    rintro b (h | ⟨id, h1, h2⟩)
    · exact hinv.xlt b h
    · obtain ⟨o, ho⟩ := Option.ne_none_iff_exists'.1 h1
      rw [← h2]; exact (q1.lies id o ho).1
  have hinv0 : Inv w g0 (getO []) := ⟨fun id o h => by rw [hemp] at h; (cases h), fun id o h => by rw [hemp] at h; (cases h), hlt, fun i j h => absurd (hemp i) h, fun id o h => by rw [hemp] at h; (cases h)⟩
  have hargs0 : RepAs w g0 (getO []) (qs.map .p) vs := (k3.keep (fun _ _ _ => rfl) (fun b _ hb => hlv0 b hb)).repAs
  refine (h.2 w g0 vs hinv0 (fun id hid => hid.elim) hargs0).mono fun e w' hpost => ?_
  obtain ⟨r, x, s', g', rfl, rfl, _, hrep, hinv', hext, hC⟩ := hpost
  have hall : ∀ b, b < w.heap.size → w'.heap[b]? = w.heap[b]? := fun b hb => hext.frame b hb (fun ⟨id, h1, _⟩ => h1 (hemp id))
  have hext' : Ext w g (getO s) w' g (getO s) := ⟨hext.size, hext.os, hext.tape, hext.output, fun b hb _ => hall b hb, fun b hb => shape_same (hall b hb), rfl, fun _ h => h, fun _ _ h => h, fun _ _ o h => ⟨o, h, .refl _⟩, fun _ _ _ => rfl, fun _ _ _ _ _ _ _ _ => rfl⟩
  have hinvF : Inv w' g (getO s) := ⟨hinv.made, fun id o h => by have := hinv.lies id o h; have := hext.size; exact ⟨by omega, (hinv.lies id o h).2⟩, fun b hb => by have := hinv.xlt b hb; have := hext.size; omega, hinv.inj,
    fun id o h => hext'.repO (hall _ (hinv.lies id o h).1) (hinv.rep id o h)⟩
  exact ⟨_, x, s, g, rfl, hk, Nat.le_refl _, scalar_rep hv hrep, hinvF, hext', fun id h => .inl h⟩
end Go.Proofs.Ytfjolephpghafaa.AW
