import Derived.Test.YtfjolephpghafaaAwStr
namespace Go.Proofs.Ytfjolephpghafaa.AW
variable {P : Program}

/-- All that was there is as it was. -/
structure Old (W W' : World) : Prop where
  os : W'.os = W.os
  tape : W'.tape = W.tape
  output : W'.output = W.output
  size : W.heap.size ≤ W'.heap.size
  block : ∀ b, b < W.heap.size → W'.heap[b]? = W.heap[b]?

/-- A call of a law, from its contract. -/
theorem calls_true {f : Nat} {args : List PV} {vs : List Value} {W : World} (hc : Cal P f (args.map .p) [] fun r _ => r = .p (.bool true)) (hr : RepPs W (fun _ => False) args vs) :
    Calls P f vs.toArray W fun e W' => e = .returned (.bool true) ∧ Old W W' := by
  let g : G := { ι := fun n => n, X := fun _ => False, C := fun _ => False }
  have hemp : ∀ id, getO ([] : Store) id = none := fun id => rfl
  have hinv : Inv W g (getO []) := ⟨fun id o h => by rw [hemp] at h; (cases h), fun id o h => by rw [hemp] at h; (cases h), fun _ h => h.elim, fun i j h => absurd (hemp i) h, fun id o h => by rw [hemp] at h; (cases h)⟩
  have hlv : ∀ b, Lv g (getO []) b → False := by
    rintro b (h | ⟨id, h1, _⟩)
    · exact h
    · exact h1 (hemp id)
  have hargs : RepAs W g (getO []) (args.map .p) vs := (hr.keep (fun _ _ _ => rfl) (fun b _ h => hlv b h)).repAs
  unfold Cal at hc
  refine (hc.2 W g vs hinv (fun _ h => h.elim) hargs).mono fun e w' hpost => ?_
  obtain ⟨r, v, s', g', rfl, rfl, _, hrep, _, hext, _⟩ := hpost
  rw [hrep.inv_bool]
  exact ⟨rfl, hext.os, hext.tape, hext.output, hext.size, fun b hb => hext.frame b hb fun ⟨id, h1, _⟩ => h1 (hemp id)⟩
end Go.Proofs.Ytfjolephpghafaa.AW
