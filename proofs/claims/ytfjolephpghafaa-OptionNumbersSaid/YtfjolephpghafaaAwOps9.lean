import Derived.Test.YtfjolephpghafaaAwOps8
namespace Go.Proofs.Ytfjolephpghafaa.AW
section ops
variable {P : Program} {o : Oper} {e : Env} {s : Store} {K : AV → Store → Prop} {w : World} {g : G} {σ : St} {a : Act} {T : Nat → Prop} {N : Prop}

/-! ### What is handed into a tree -/
def St.kill (σ : St) (id : Nat) : St := fun i => if i = id then none else σ i

theorem Cx.kill (c : Cx w g σ s T N) {id : Nat} {ob : AObj} (hT : T id) (hs : getO s id = some ob) : Cx w g (σ.kill id) (s.set id none) T N ∧ Ext w g σ w g (σ.kill id) ∧ ¬ Lv g (σ.kill id) (g.ι id) ∧
    (∀ s', ovr T (s.set id none) s' (σ.kill id) = ovr T s s' σ) := by
  have hσ : σ id = some ob := (c.agree id hT).trans hs
  have hl : id < s.length := getO_lt hs
  have hsub : ∀ i oo, σ.kill id i = some oo → σ i = some oo := fun i oo h => by
    by_cases hi : i = id
    · simp [St.kill, hi] at h
    · simpa [St.kill, hi] using h
  have hne : ∀ i, σ.kill id i ≠ none → σ i ≠ none := fun i h => by
    obtain ⟨oo, ho⟩ := Option.ne_none_iff_exists'.1 h
    rw [hsub i oo ho]; simp
  have hext : Ext w g σ w g (σ.kill id) := ⟨Nat.le_refl _, rfl, rfl, rfl, fun _ _ _ => rfl, fun _ _ => rfl, rfl, fun _ h => h, fun b _ ⟨i, h1, h2⟩ => ⟨i, hne i h1, h2⟩,
    fun i _ oo h => ⟨oo, hsub i oo h, .refl _⟩, fun _ _ _ => rfl, fun _ _ _ _ _ _ _ _ => rfl⟩
  refine ⟨⟨⟨fun i oo h => c.inv.made i oo (hsub i oo h), fun i oo h => c.inv.lies i oo (hsub i oo h), c.inv.xlt, fun i j h k => c.inv.inj i j (hne i h) (hne j k), fun i oo h => hext.repO rfl (c.inv.rep i oo (hsub i oo h))⟩, fun i hi => ?_, fun hn => by simpa using c.fresh hn⟩, hext, ?_, fun s' => ?_⟩
  · rw [getO_set s id none i hl]
    by_cases h : i = id
    · simp [St.kill, h]
    · simp only [St.kill, if_neg h]; exact c.agree i hi
  · rintro (h | ⟨i, h1, h2⟩)
    · exact (c.inv.lies id _ hσ).2 h
    · have := c.inv.inj i id (hne i h1) (by rw [hσ]; simp) h2
      subst this; simp [St.kill] at h1
  · funext i
    have hl2 : (s.set id none).length = s.length := by simp
    unfold ovr
    by_cases h : T i ∨ (s.length ≤ i ∧ i < s'.length)
    · rw [if_pos (by rw [hl2]; exact h), if_pos h]
    · rw [if_neg (by rw [hl2]; exact h), if_neg h]
      have : i ≠ id := fun e => h (.inl (by rw [e]; exact hT))
      simp [St.kill, this]

structure Fz (w : World) (g : G) (σ : St) (s : Store) (T : Nat → Prop) (s' : Store) : Prop where
  len : s'.length = s.length
  same : ∀ id, ¬ T id → id < s.length → getO s' id = getO s id
  inv : Inv w g (ovr T s s' σ)
  ext : Ext w g σ w g (ovr T s s' σ)
  gone : ∀ id, getO s id = Option.none → getO s' id = Option.none

theorem Fz.refl (c : Cx w g σ s T N) : Fz w g σ s T s := ⟨rfl, fun _ _ _ => rfl, by rw [c.ovr_self]; exact c.inv, by rw [c.ovr_self]; exact .refl _ _ _, fun _ h => h⟩

theorem Fz.kill (c : Cx w g σ s T N) {id : Nat} {ob : AObj} (hT : T id) (hs : getO s id = some ob) {s' : Store} (h : Fz w g (σ.kill id) (s.set id Option.none) T s') : Fz w g σ s T s' := by
  obtain ⟨_, k2, _, k4⟩ := c.kill hT hs
  have hl : id < s.length := getO_lt hs
  refine ⟨h.len.trans (by simp), fun i hi hlt => ?_, by rw [← k4]; exact h.inv, by rw [← k4]; exact k2.trans h.ext, fun i hi => h.gone i ?_⟩
  · rw [h.same i hi (by simpa using hlt), getO_set s id _ i hl, if_neg (fun (e : i = id) => hi (by rw [e]; exact hT))]
  · rw [getO_set s id _ i hl]; split
    · rfl
    · exact hi

theorem cellsP_of_values {B : Nat → Prop} {b : Nat} {xs : List PV} {vs : List Value} {off : Nat} (hr : RepPs w B xs vs) (h : ∀ j v, vs[j]? = some v → w.cell? ⟨b, off + j, none⟩ = some v) : CellsP w B b off xs := cellsP_of hr h

/-- A row handed into a tree. -/
theorem osl_tree (c : Cx w g σ s T N) {id tot off len sz : Nat} {xs : List PV} {x : Value} (hT : T id) (hs : getO s id = some (.buf sz xs)) (ht : xs.length = tot) (hx : RepA w g σ (.osl id tot off len) x) :
    RepP w (Lv g (σ.kill id)) (.sl .shr sz ((xs.drop off).take len)) x := by
  obtain ⟨_, k2, k3, _⟩ := c.kill hT hs
  have hσ : σ id = some (.buf sz xs) := (c.agree id hT).trans hs
  obtain ⟨ad, cap, ⟨hy, hsp⟩, _, _, hd⟩ := hx.inv_osl
  obtain ⟨h1, h2, h3⟩ := hd _ _ hσ ht
  subst hy
  have hlen : ((xs.drop off).take len).length = len := by simp; omega
  cases c.inv.rep _ _ hσ with
  | buf _ _ vs hz hsz hn hr hare =>
    have hmem : ∀ z, z ∈ (xs.drop off).take len → El sz z := fun z hz => hsz z (List.mem_of_mem_drop (List.mem_of_mem_take hz))
    by_cases hc0 : 0 < cap
    · obtain ⟨rfl, _⟩ := h3 hc0
      have := RepP.sl (w := w) (B := Lv g (σ.kill id)) .shr sz ((xs.drop off).take len) (g.ι id) (off * sz) cap (by decide) (fun q => by cases q) (by omega) hmem (fun _ => k3) (by
        refine cellsP_of_values (vs := ((vs.take (sz * xs.length)).drop (off * sz)).take (len * sz)) ?_ (fun j v hj => ?_)
        · rw [flat_takeN _ _ (fun q hq => hsz q (List.mem_of_mem_drop hq)), flat_dropN _ _ hsz]
          exact k2.repPs ((hr.drop _).take _)
        · rw [cell_of_are hare]
          rw [List.getElem?_take] at hj
          split at hj
          · rw [List.getElem?_drop, List.getElem?_take] at hj
            split at hj
            · exact hj
            · cases hj
          · cases hj)
      rw [hlen] at this; exact this
    · have hl0 : len = 0 := by omega
      have hc : cap = 0 := by omega
      subst hl0; subst hc
      have hnil : (xs.drop off).take 0 = [] := by simp
      rw [hnil]
      obtain ⟨b, o, sp⟩ := ad
      subst hsp
      exact .sl .shr sz [] b o 0 (by decide) (fun q => by cases q) (Nat.le_refl _) (fun z hz => by cases hz) (fun q => absurd rfl q) (.nil _ _)

theorem cells_tree (c : Cx w g σ s T N) {id : Nat} {cs : List AV} {ps : List PV} (hT : T id) (hs : getO s id = some (.cells cs)) (hp : allP cs = some ps) :
    RepP w (Lv g (σ.kill id)) (.pto ps) (.pointer (some ⟨g.ι id, 0, none⟩)) := by
  obtain ⟨_, k2, k3, _⟩ := c.kill hT hs
  have hσ : σ id = some (.cells cs) := (c.agree id hT).trans hs
  cases c.inv.rep _ _ hσ with
  | cells _ xs hr hare =>
    refine .pto ps _ _ (fun _ => k3) (cellsP_of_values (k2.repPs (allP_rep hr hp)) (fun j v hj => ?_))
    rw [Nat.zero_add, cell_of_are hare]; exact hj

theorem Fz.none' {s' : Store} (_h : Fz w g σ s T s') : True := trivial

theorem cellsP_tree : ∀ {cs : List AV} {xs : List Value} {s : Store} {σ : St}, RepAs w g σ cs xs → Cx w g σ s T N → (∀ v, v ∈ cs → ∀ id, id ∈ ids1 v → T id) → ∀ {K : List PV → Store → Prop}, toP.cellsP s cs K →
    ∃ ps s', K ps s' ∧ Fz w g σ s T s' ∧ RepPs w (Lv g (ovr T s s' σ)) ps xs := by
  intro cs
  induction cs with
  | nil =>
    intro xs s σ hr c _ K h
    cases hr
    exact ⟨[], s, h, .refl c, .nil⟩
  | cons v r ih =>
    intro xs s σ hr c hT K h
    cases hr with
    | cons _ x _ xs hv hs =>
      unfold toP.cellsP at h
      split at h
      · rename_i heq; cases heq
      · rename_i y r' heq
        cases heq
        obtain ⟨ps, s', hk, hf, hp⟩ := ih hs c (fun v hv => hT v (List.mem_cons_of_mem _ hv)) h
        exact ⟨_, s', hk, hf, .cons _ _ _ _ (hf.ext.repP hv.inv_p) hp⟩
      · rename_i id tot off len r' heq
        cases heq
        split at h
        · rename_i sz zs hg
          rw [killK_eq] at h
          unfold Ob at h
          obtain ⟨ht, h⟩ := h
          have hTi : T id := hT (.osl id tot off len) (by simp) id (by simp [ids1])
          obtain ⟨k1, k2, k3, k4⟩ := c.kill hTi hg
          have htree := osl_tree c hTi hg ht hv
          obtain ⟨ps, s', hk, hf, hp⟩ := ih (k2.repAs hs) k1 (fun v hv => hT v (List.mem_cons_of_mem _ hv)) h
          refine ⟨_, s', hk, hf.kill c hTi hg, ?_⟩
          rw [k4] at hp
          have he := hf.ext
          rw [k4] at he
          exact .cons _ _ _ _ (he.repP htree) hp
        · exact h.elim
      · exact h.elim

theorem toP_tree {v : AV} {x : Value} {s : Store} {σ : St} (hr : RepA w g σ v x) (c : Cx w g σ s T N) (hT : ∀ id, id ∈ ids v → T id) {K : PV → Store → Prop} (h : toP s v K) :
    ∃ p s', K p s' ∧ Fz w g σ s T s' ∧ RepP w (Lv g (ovr T s s' σ)) p x := by
  unfold toP at h
  split at h
  · exact ⟨_, s, h, .refl c, by rw [c.ovr_self]; exact hr.inv_p⟩
  · rename_i id tot off len
    split at h
    · rename_i sz zs hg
      rw [killK_eq] at h
      unfold Ob at h
      have hTi : T id := hT id (by simp [ids, ids1])
      obtain ⟨k1, k2, k3, k4⟩ := c.kill hTi hg
      refine ⟨_, _, h.2, (Fz.refl k1).kill c hTi hg, ?_⟩
      rw [← k4, k1.ovr_self]; exact osl_tree c hTi hg h.1 hr
    · exact h.elim
  · rename_i id
    split at h
    · rename_i cs hg
      split at h
      · rename_i ps hp
        rw [killK_eq] at h
        have hTi : T id := hT id (by simp [ids, ids1])
        obtain ⟨k1, k2, k3, k4⟩ := c.kill hTi hg
        refine ⟨_, _, h, (Fz.refl k1).kill c hTi hg, ?_⟩
        rw [← k4, k1.ovr_self, hr.inv_ref.1]; exact cells_tree c hTi hg hp
      · exact h.elim
    · exact h.elim
  · rename_i cs
    obtain ⟨ys, hy, hs⟩ := hr.inv_agg
    subst hy
    obtain ⟨ps, s', hk, hf, hp⟩ := cellsP_tree hs c (fun v hv id hid => hT id (by simp only [ids, List.mem_flatMap]; exact ⟨v, hv, hid⟩)) h
    exact ⟨_, s', hk, hf, .agg _ _ hp⟩
  · rename_i t id
    split at h
    · rename_i cs hg
      split at h
      · rename_i ps hp
        rw [killK_eq] at h
        have hTi : T id := hT id (by simp [ids, ids1])
        obtain ⟨k1, k2, k3, k4⟩ := c.kill hTi hg
        refine ⟨_, _, h, (Fz.refl k1).kill c hTi hg, ?_⟩
        rw [← k4, k1.ovr_self]
        cases hr with
        | ifc _ _ y hy => rw [hy.inv_ref.1]; exact .iface _ _ _ (cells_tree c hTi hg hp)
      · exact h.elim
    · exact h.elim
  · exact h.elim

theorem Fz.cx {s' : Store} (c : Cx w g σ s T N) (h : Fz w g σ s T s') : Cx w g (ovr T s s' σ) s' T N where
  inv := h.inv
  agree id hid := by unfold ovr; rw [if_pos (.inl hid)]
  fresh hn := by rw [h.len]; exact c.fresh hn

theorem Fz.ovr {s' s'' : Store} (h : Fz w g σ s T s') : ovr T s' s'' (ovr T s s' σ) = ovr T s s'' σ := by
  funext i
  unfold Go.Proofs.Ytfjolephpghafaa.AW.ovr
  by_cases hc : T i ∨ (s.length ≤ i ∧ i < s''.length)
  · rw [if_pos (by rw [h.len]; exact hc), if_pos hc]
  · rw [if_neg (by rw [h.len]; exact hc), if_neg hc, if_neg]
    rintro (h1 | h1)
    · exact hc (.inl h1)
    · have := h.len; omega

theorem Fz.trans {s' s'' : Store} (h : Fz w g σ s T s') (k : Fz w g (Go.Proofs.Ytfjolephpghafaa.AW.ovr T s s' σ) s' T s'') : Fz w g σ s T s'' := by
  have e := h.ovr (s'' := s'')
  refine ⟨k.len.trans h.len, fun i hi hl => (k.same i hi (by rw [h.len]; exact hl)).trans (h.same i hi hl), by rw [← e]; exact k.inv, by rw [← e]; exact h.ext.trans k.ext, fun i hi => k.gone i (h.gone i hi)⟩

theorem partsP_tree : ∀ {vs : List AV} {xs : List Value} {s : Store} {σ : St}, RepAs w g σ vs xs → Cx w g σ s T N → (∀ v, v ∈ vs → ∀ id, id ∈ ids v → T id) → ∀ {K : List PV → Store → Prop}, partsP s vs K →
    ∃ ps s', K ps s' ∧ Fz w g σ s T s' ∧ RepPs w (Lv g (Go.Proofs.Ytfjolephpghafaa.AW.ovr T s s' σ)) ps xs := by
  intro vs
  induction vs with
  | nil =>
    intro xs s σ hr c _ K h
    cases hr
    exact ⟨[], s, h, .refl c, .nil⟩
  | cons v r ih =>
    intro xs s σ hr c hT K h
    cases hr with
    | cons _ x _ xs hv hs =>
      unfold partsP at h
      obtain ⟨p, s1, h1, hf1, hp1⟩ := toP_tree hv c (hT v (by simp)) h
      obtain ⟨ps, s2, h2, hf2, hp2⟩ := ih (hf1.ext.repAs hs) (hf1.cx c) (fun v hv => hT v (List.mem_cons_of_mem _ hv)) h1
      have e := hf1.ovr (s'' := s2)
      refine ⟨_, s2, h2, hf1.trans hf2, ?_⟩
      rw [e] at hp2
      have he := hf2.ext
      rw [e] at he
      exact .cons _ _ _ _ (he.repP hp1) hp2
end ops
end Go.Proofs.Ytfjolephpghafaa.AW
