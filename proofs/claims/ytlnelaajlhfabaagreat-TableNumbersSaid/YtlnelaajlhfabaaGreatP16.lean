/- A part of the proof: AW/Lend2. -/
import Derived.Test.YtlnelaajlhfabaaGreatP6
namespace Go.Proofs.YtlnelaajlhfabaaGreat.AW
set_option linter.unusedSimpArgs false
set_option linter.unusedVariables false
variable {P : Program}

/-- A call to which one owned slice is lent twice. -/
theorem Cal.lend2 {f : Nat} {a : AV} {p : PV} {s : Store} {v : AV} {K : AV → Store → Prop} (hps : ∃ t, partsP s [a] fun qs s2 => qs = [p] ∧ s2 = t) (h : Cal P f ([p, p].map .p) [] fun r _ => r = v) (hv : scalar v = true) (hk : K v s) : Cal P f [a, a] s K := by
  obtain ⟨t, hps⟩ := hps
  unfold Cal at h ⊢
  refine fun w g vs hinv hG hfresh hargs => ?_
  have c : Cx w g (getO s) s (fun _ => True) False := ⟨hinv, fun _ _ => rfl, fun hh => hh.elim⟩
  obtain ⟨x1, x2, rfl, ha1, ha2⟩ : ∃ x1 x2, vs = [x1, x2] ∧ RepAs w g (getO s) [a] [x1] ∧ RepAs w g (getO s) [a] [x2] := by
    cases hargs with
    | cons _ x1 _ _ h1 hr => cases hr with
      | cons _ x2 _ _ h2 hr2 => cases hr2; exact ⟨x1, x2, rfl, .cons _ _ _ _ h1 .nil, .cons _ _ _ _ h2 .nil⟩
  obtain ⟨qs, s2, ⟨rfl, e2⟩, fz, k1⟩ := partsP_tree ha1 c (fun _ _ _ _ => trivial) hps
  obtain ⟨qs2, s3, ⟨rfl, e3⟩, _, k2⟩ := partsP_tree ha2 c (fun _ _ _ _ => trivial) hps
  rw [e3, ← e2] at k2
  have k3 := k1.append k2
  have hov : ovr (fun _ => True) s s2 (getO s) = getO s2 := by funext i; simp [ovr]
  have q1 := fz.inv; have q2 := fz.ext
  rw [hov] at q1 q2 k3
  let g0 : G := { ι := g.ι, X := Lv g (getO s2), C := fun _ => False }
  have hemp : ∀ id, getO ([] : Store) id = none := fun id => rfl
  have hlv0 : ∀ b, Lv g0 (getO []) b → Lv g (getO s2) b := by
    rintro b (h | ⟨id, h1, _, _⟩)
    · exact h
    · exact absurd (hemp id) h1
  have hlt : ∀ b, Lv g (getO s2) b → b < w.heap.size := by
    rintro b (h | ⟨id, h1, hr, h2⟩)
    · exact hinv.xlt b h
    · obtain ⟨o, ho⟩ := Option.ne_none_iff_exists'.1 h1
      rw [← h2]; exact (q1.lies id o ho hr).1
  have hinv0 : Inv w g0 (getO []) := ⟨fun id o h => by rw [hemp] at h; (cases h), fun id o h => by rw [hemp] at h; (cases h), hlt, fun i j h => absurd (hemp i) h, fun id o h => by rw [hemp] at h; (cases h), fun id o h => by rw [hemp] at h; (cases h)⟩
  have hargs0 : RepAs w g0 (getO []) ([p, p].map .p) [x1, x2] := (k3.keep (fun _ _ _ => rfl) (fun b _ hb => hlv0 b hb)).repAs
  have hG0 : Gk P w g0 (getO []) := fun i cs hi => by
    obtain ⟨q1, q2, q3⟩ := (hG.ext q2) i cs hi
    exact ⟨q1, fun hl => q2 (hlv0 _ hl), q3.keep (fun _ _ _ => rfl) (fun b _ hb => hlv0 b hb) (fun _ => q2)⟩
  refine (h w g0 [x1, x2] hinv0 hG0 (fun id hid => hid.elim) hargs0).mono fun e w' hpost => ?_
  obtain ⟨r, x, s', g', rfl, rfl, _, hrep, hinv', hext, hC⟩ := hpost
  have hall : ∀ b, b < w.heap.size → w'.heap[b]? = w.heap[b]? := fun b hb => hext.frame b hb (fun ⟨id, h1, _, _⟩ => h1 (hemp id))
  have hext' : Ext w g (getO s) w' g (getO s) := ⟨hext.size, hext.os, hext.tape, hext.output, fun b hb _ => hall b hb, fun b hb => shape_same (hall b hb), rfl, fun _ h => h, fun _ _ h => h, fun _ _ o h => ⟨o, h, .refl _⟩, fun _ _ _ => ⟨rfl, .rfl⟩, fun _ _ _ _ _ _ _ _ _ _ => ⟨rfl, .rfl⟩, hext.drawn⟩
  have hinvF : Inv w' g (getO s) := ⟨hinv.made, fun id o h hr => by have := hinv.lies id o h hr; have := hext.size; exact ⟨by omega, (hinv.lies id o h hr).2⟩, fun b hb => by have := hinv.xlt b hb; have := hext.size; omega, hinv.inj,
    fun id o h hr => hext'.repO (hall _ (hinv.lies id o h hr).1) (hinv.rep id o h hr), hinv.void⟩
  exact ⟨_, x, s, g, rfl, hk, Nat.le_refl _, scalar_rep hv hrep, hinvF, hext', fun id h => .inl h⟩
end Go.Proofs.YtlnelaajlhfabaaGreat.AW
