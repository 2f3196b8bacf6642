/- A part of the proof: AW/Clone. -/
import Derived.Test.YtlnelaajlhfabaaGreatP14
import Derived.Shelf.SlMaps.Clone
namespace Go.Proofs.YtlnelaajlhfabaaGreat.AW
set_option linter.unusedSimpArgs false
set_option linter.unusedVariables false
open Go.Proofs Go.Shelf Go.RowKit Go.Lib
variable {P : Program}

/-- maps.Clone of an own map, by the shelf. -/
theorem Cal.mapClone {ρ : Go.Shelf.Ren} (L : SlLaysW.n5 P ρ) {f : Nat} (hf5 : ρ.f 5 = f) (hf : ∃ fn, P.funcs[f]? = some fn ∧ (fn.name == "runtime.NumGoroutine") = false ∧ fn.body.isSome = true) {s : Store} {id : Nat} {kk : KK} {es : List (Nat × PV × PV)} {cl : Nat} (hs : getO s id = some (.map kk es cl)) {K : AV → Store → Prop}
    (h : K (.map s.length) (s ++ [some (.map kk es cl)])) : Cal P f [.map id] s K := by
  subst hf5
  unfold Cal
  intro w g vs hinv hG hfr hargs
  refine .inl ⟨hf, ?_⟩
  cases hargs with
  | cons _ x _ _ h1 h2 =>
    cases h2
    cases h1 with
    | map _ hc hb =>
      have hR : g.R id := hinv.real hs (by intro sz t q; cases q)
      cases hinv.rep _ _ hs hR with
      | map _ _ _ xs hE hbk hk hc' hn =>
        refine Calls.mono (AnyW.maps_Clone L _ xs.toArray cl w hbk) fun e w' hp => ?_
        obtain ⟨rfl, rfl⟩ := hp
        have c : Cx w g (getO s) s (fun _ => True) True := ⟨hinv, fun _ _ => rfl, fun _ hc => absurd (hfr _ hc) (Nat.lt_irrefl _)⟩
        have m := More.alloc w (.map xs.toArray cl)
        have hx := c.ext_new m (.map kk es cl) trivial
        have hrs : Rs w g (getO s) s (fun _ => True) K (.map (some w.heap.size)) (w.alloc (.map xs.toArray cl)) := by
          refine Rs.new (v := .map s.length) c m (o := .map kk es cl) (.map kk es cl xs (hE.keep hx.mem hx.lv) m.at hk hc' hn) ?_ h trivial
          have := RepA.map (w := w.alloc (.map xs.toArray cl)) (g := g.new s.length w.heap.size) (σ := (St.put (getO s) s.length (.map kk es cl))) s.length (.inr rfl) (by simp [St.put])
          simpa [G.new] using this
        obtain ⟨v, s', g', hK, hlen, _, hrep, hinv', hext, hC⟩ := hrs
        have hov : ovr (fun _ => True) s s' (getO s) = getO s' := by funext i; simp [ovr]
        rw [hov] at hrep hinv' hext
        exact ⟨v, _, s', g', rfl, hK, hlen, hrep, hinv', hext, hC⟩
end Go.Proofs.YtlnelaajlhfabaaGreat.AW
