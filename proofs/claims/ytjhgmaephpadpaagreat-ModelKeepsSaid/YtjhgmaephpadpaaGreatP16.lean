/- A part of the proof: AW/Ghost, AW/Move. -/
import Derived.Test.YtjhgmaephpadpaaGreatP11
namespace Go.Proofs.YtjhgmaephpadpaaGreat.AW
set_option linter.unusedSimpArgs false
set_option linter.unusedVariables false
variable {P : Program}

/-! ### A nil slice in a cell, told as an owned slice that has no block yet -/
theorem Inv.ghosts {w : World} {g : G} {s : Store} (h : Inv w g (getO s)) (hf : ∀ id, g.C id → id < s.length) {gs : List (Nat × Option Nat)} (hz : ∀ q, q ∈ gs → 0 < q.1) :
    Inv w (g.void s.length (s.length + gs.length)) (getO (s ++ gs.map ghost)) := by
  have hext := ext_void (w := w) hf gs
  have hcase : ∀ id o, getO (s ++ gs.map ghost) id = some o → (id < s.length ∧ getO s id = some o) ∨ (s.length ≤ id ∧ id < s.length + gs.length ∧ ∃ q, q ∈ gs ∧ o = .buf q.1 [] q.2) := fun id o ho => by
    by_cases h1 : id < s.length
    · rw [getO_ghost_old h1] at ho; exact .inl ⟨h1, ho⟩
    · by_cases h2 : id < s.length + gs.length
      · obtain ⟨q, hq, e1⟩ := getO_ghost (s := s) (gs := gs) (Nat.le_of_not_lt h1) h2
        rw [e1] at ho; cases ho
        exact .inr ⟨Nat.le_of_not_lt h1, h2, q, hq, rfl⟩
      · rw [getO_ghost_out (by omega)] at ho; cases ho
  have hne : ∀ id, getO (s ++ gs.map ghost) id ≠ none → id < s.length → getO s id ≠ none := fun id h1 h2 => by rw [getO_ghost_old h2] at h1; exact h1
  refine ⟨fun id o ho => ?_, fun id o ho hr => ?_, h.xlt, fun i j hi hj hri hrj hij => h.inj i j (hne i hi hri.2) (hne j hj hrj.2) hri.1 hrj.1 hij, fun id o ho hr => ?_, fun id o ho hr => ?_⟩
  · rcases hcase id o ho with ⟨_, h1⟩ | ⟨h1, h2, _⟩
    · exact .inl (h.made id o h1)
    · exact .inr ⟨h1, h2⟩
  · rcases hcase id o ho with ⟨_, h1⟩ | ⟨h1, h2, _⟩
    · exact h.lies id o h1 hr.1
    · have := hr.2; omega
  · rcases hcase id o ho with ⟨_, h1⟩ | ⟨h1, h2, _⟩
    · exact hext.repO rfl (h.rep id o h1 hr.1)
    · have := hr.2; omega
  · rcases hcase id o ho with ⟨h0, h1⟩ | ⟨h1, h2, q, hq, rfl⟩
    · exact h.void id o h1 (fun hh => hr ⟨hh, h0⟩)
    · exact ⟨_, _, hz q hq, rfl⟩
theorem ghost_store {w : World} {g : G} {s : Store} (h : Inv w g (getO s)) (hf : ∀ id, g.C id → id < s.length) {id i sz0 sz : Nat} {cs : List AV} {ty tb : Option Nat} (hs : getO s id = some (.cells cs ty)) (hi : cs[i]? = some (.p (.sl .nil sz0 []))) (hz : 0 < sz) :
    Inv w (g.void s.length (s.length + 1)) (getO (s.set id (some (.cells (cs.set i (.osl s.length 0 0 0)) ty)) ++ [some (.buf sz [] tb)])) ∧
    Ext w g (getO s) w (g.void s.length (s.length + 1)) (getO (s.set id (some (.cells (cs.set i (.osl s.length 0 0 0)) ty)) ++ [some (.buf sz [] tb)])) := by
  have hinv := h.ghosts hf (gs := [(sz, tb)]) (fun q hq => by rw [List.mem_singleton.1 hq]; exact hz)
  have hext := ext_void (w := w) hf [(sz, tb)]
  have hidl := getO_lt hs
  have hs1 : getO (s ++ [(sz, tb)].map ghost) id = some (.cells cs ty) := by rw [getO_ghost_old hidl]; exact hs
  obtain ⟨q3, q4⟩ := hinv.tell hs1 (cs' := cs.set i (.osl s.length 0 0 0)) (by simp) (fun zs hz _ => hz.setAt hi (fun x hr => by
    cases hr.inv_p with
    | sl _ _ _ _ _ _ hk => exact absurd rfl hk
    | spt _ _ _ hk => exact absurd rfl hk
    | nil =>
      refine .osl s.length 0 0 0 _ (.inr ⟨Nat.le_refl _, Nat.lt_succ_self _⟩) ⟨none, 0, rfl, fun _ => rfl⟩ (fun _ _ _ _ => Nat.zero_le _) (fun sz' xs' ty' _ _ => ⟨Nat.le_refl _, fun _ => ⟨rfl, rfl⟩, fun hR => ?_⟩)
      exact absurd hR.2 (Nat.lt_irrefl _)))
  have hσ : (fun j => if j = id then some (AObj.cells (cs.set i (.osl s.length 0 0 0)) ty) else getO (s ++ [(sz, tb)].map ghost) j) = getO (s.set id (some (.cells (cs.set i (.osl s.length 0 0 0)) ty)) ++ [some (.buf sz [] tb)]) := by
    funext j
    have e : s.set id (some (.cells (cs.set i (.osl s.length 0 0 0)) ty)) ++ [some (.buf sz [] tb)] = (s ++ [(sz, tb)].map ghost).set id (some (.cells (cs.set i (.osl s.length 0 0 0)) ty)) := by
      rw [List.set_append_left _ _ hidl]; rfl
    rw [e, getO_set (s ++ [(sz, tb)].map ghost) id _ j (getO_lt hs1)]
  rw [hσ] at q3 q4
  exact ⟨q3, hext.trans q4⟩
/-- What a call leaves in a cell, a nil slice, is told as an owned one. -/
theorem Cal.ghost {f : Nat} {args : List AV} {s : Store} {K : AV → Store → Prop} (id i sz : Nat) (tb : Option Nat)
    (h : Cal P f args s fun v s' => ∃ sz0 cs ty, getO s' id = some (.cells cs ty) ∧ cs[i]? = some (.p (.sl .nil sz0 [])) ∧ 0 < sz ∧ K v (s'.set id (some (.cells (cs.set i (.osl s'.length 0 0 0)) ty)) ++ [some (.buf sz [] tb)])) : Cal P f args s K := by
  unfold Cal at h ⊢
  refine fun w g vs hinv hG hfresh hargs => (h w g vs hinv hG hfresh hargs).mono fun e w' hpost => ?_
  obtain ⟨r, v, s', g', rfl, ⟨sz0, cs, ty, h1, h2, h3, hk⟩, hlen, hrep, hinv', hext, hC⟩ := hpost
  have hf' : ∀ j, g'.C j → j < s'.length := fun j hj => by
    rcases hC j hj with hc | hc
    · have := hfresh j hc; omega
    · exact hc.2
  obtain ⟨q3, q4⟩ := ghost_store hinv' hf' h1 h2 h3 (tb := tb)
  refine ⟨r, v, _, _, rfl, hk, ?_, q4.repA hrep, q3, hext.trans q4, fun j hj => ?_⟩
  · rw [List.length_append, List.length_set]; omega
  · rw [List.length_append, List.length_set]
    rcases hj with hj | hj
    · rcases hC j hj with hc | hc
      · exact .inl hc
      · exact .inr ⟨hc.1, by omega⟩
    · exact .inr ⟨by omega, hj.2⟩
end Go.Proofs.YtjhgmaephpadpaaGreat.AW

namespace Go.Proofs.YtjhgmaephpadpaaGreat.AW
set_option linter.unusedSimpArgs false
set_option linter.unusedVariables false
variable {P : Program}

/-! ### What a call made, named anew -/
theorem Cal.mvOut {f : Nat} {args : List AV} {s : Store} {K : AV → Store → Prop}
    (h : Cal P f args s fun v s' => ∃ is v2 s2, (nodupLt is s'.length && fixed s.length is) = true ∧ is.map (getO s') = s2.map (renO (place is s'.length)) ∧ v = v2.ren (place is s'.length) ∧ K v2 s2) : Cal P f args s K := by
  unfold Cal at h ⊢
  refine fun w g vs hinv hG hfresh hargs => (h w g vs hinv hG hfresh hargs).mono fun e w' hpost => ?_
  obtain ⟨v, r, s', g', rfl, ⟨is, v2, s2, h1, h2, h3, hk⟩, hlen, hrep, hinv', hext, hC⟩ := hpost
  have hst : Sts P 1 w' g' (mk [(0, v)]) s' { tmps := #[r], defers := [] } := by
    refine ⟨hinv', hG.ext hext, fun id hid => ?_, fun u => ?_, rfl, rfl⟩
    · rcases hC id hid with q | q
      · have := hfresh id q; omega
      · exact q.2
    · cases u with
      | zero => exact hrep
      | succ u => exact .undef _
  obtain ⟨g2, k1, k2⟩ := hst.rename (B := s.length) (is := is) (L := [0]) (N := s2.length) (l := [(0, v2)]) (s2 := s2) (by
    unfold TrimR
    exact ⟨h1, rfl, h2, rfl, by rw [h3]; rfl⟩)
  have hfr := k2 w g s ⟨hext, hlen, hC⟩ hfresh rfl
  exact ⟨v2, r, s2, g2, rfl, hk, hfr.len, k1.env 0, k1.inv, hfr.ext, hfr.new⟩
end Go.Proofs.YtjhgmaephpadpaaGreat.AW
