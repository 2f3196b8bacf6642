/- A part of the proof: AW/Foreign. -/
import Derived.Test.YtkokaflanlcojaaDoorP5
import Derived.Below
namespace Go.Proofs.YtkokaflanlcojaaDoor.AW
open Go.RowKit
variable {P : Program}

/-- A contract that was proved of memory itself: what lay there still lies there; the answer is a tree. -/
theorem Cal.foreign {f : Nat} {args : List AV} {s : Store} {K : AV → Store → Prop} (pv : PV)
    (hf : ∃ fn, P.funcs[f]? = some fn ∧ (fn.name == "runtime.NumGoroutine") = false ∧ fn.body.isSome = true)
    (hc : ∀ w g vs, Inv w g (getO s) → Gk P w g (getO s) → RepAs w g (getO s) args vs → Calls P f vs.toArray w fun e w' => ∃ v, e = .returned v ∧ Below w.heap.size w w' ∧ RepP w' (Lv g (getO s)) pv v)
    (h : K (.p pv) s) : Cal P f args s K := by
  unfold Cal
  intro w g vs hinv hG hfr hargs
  refine .inl ⟨hf, (hc w g vs hinv hG hargs).mono fun e w' hq => ?_⟩
  obtain ⟨v, he, hb, hr⟩ := hq
  have hall : ∀ b, b < w.heap.size → w'.heap[b]? = w.heap[b]? := hb.block
  have hext : Ext w g (getO s) w' g (getO s) := ⟨hb.size, hb.os, hb.tape, hb.output, fun b hb _ => hall b hb, fun b hb => shape_same (hall b hb), rfl, fun _ h => h, fun _ _ h => h, fun _ _ o h => ⟨o, h, .refl _⟩, fun _ _ _ => ⟨rfl, .rfl⟩, fun _ _ _ _ _ _ _ _ _ _ => ⟨rfl, .rfl⟩⟩
  have hinvF : Inv w' g (getO s) := ⟨hinv.made, fun id o h hr => by have := hinv.lies id o h hr; have := hext.size; exact ⟨by omega, (hinv.lies id o h hr).2⟩, fun b hb => by have := hinv.xlt b hb; have := hext.size; omega, hinv.inj,
    fun id o h hr => hext.repO (hall _ (hinv.lies id o h hr).1) (hinv.rep id o h hr), hinv.void⟩
  exact ⟨.p pv, v, s, g, he, h, Nat.le_refl _, .p _ _ hr, hinvF, hext, fun id h => .inl h⟩

/-- A variable of the library that holds an error. -/
theorem Gk.sent {w : World} {g : G} {σ : St} (h : Gk P w g σ) {i t : Nat} (hi : glob P i = some [.iface t (.pto [])]) : ∃ p, w.cell? ⟨i, 0, none⟩ = some (.iface t p) := by
  obtain ⟨_, _, hc⟩ := h i _ hi
  cases hc with
  | cons _ _ _ x _ hx hr _ => cases hr with
    | iface _ _ y _ => exact ⟨y, hx⟩
end Go.Proofs.YtkokaflanlcojaaDoor.AW
