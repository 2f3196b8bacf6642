import Derived.Test.YtfjolephpghafaaAwDrawn2
namespace Go.Proofs.Ytfjolephpghafaa.AW
variable {P : Program}

theorem OpOk.mono {o : Oper} {a : Act} {w : World} {R R' : Value → World → Prop} (h : OpOk P o a w R) (k : ∀ y w', R y w' → R' y w') : OpOk P o a w R' := by
  unfold OpOk at h ⊢
  generalize (execOp a.eval o).run P w = r at *
  cases r with
  | ok n w' =>
    cases n <;> first
      | exact k _ _ h
      | exact Calls.mono h (fun e w'' he => by cases e <;> first | exact k _ _ he | exact he.elim)
      | exact h.elim
  | halt x w' => exact h.elim

theorem conf_wr {ops : Array Oper} {x y : Step} {id : Nat} (hy : isWr y id = true) (hx : x.f.all = true ∨ id ∈ x.f.touch) : noConf ops y.o x.o y.f x.f = false := by
  rw [Bool.eq_false_iff]
  intro h
  unfold noConf at h
  simp only [Bool.and_eq_true, Bool.or_eq_true, Bool.not_eq_true'] at h
  obtain ⟨⟨⟨⟨_, h1⟩, h2⟩, h3⟩, h4⟩ := h
  have quiet : ∀ {f : Foot}, f.quiet = true → f.all = false ∧ f.touch = [] := fun {f} h => by
    unfold Foot.quiet at h
    simpa using h
  have hw : y.f.all = true ∨ id ∈ y.f.write := by
    unfold isWr at hy
    rw [Bool.or_eq_true, memB_iff] at hy; exact hy
  have wt : ∀ {f : Foot}, id ∈ f.write → id ∈ f.touch := fun {f} h => by
    rw [mem_write] at h
    unfold Foot.touch
    rcases h with h | h
    · exact List.mem_append_left _ h.2
    · exact List.mem_append_right _ h
  rcases hx with hx | hx
  · rcases h4 with h4 | h4
    · rw [hx] at h4; cases h4
    · obtain ⟨q1, q2⟩ := quiet h4
      rcases hw with hw | hw
      · rw [hw] at q1; cases q1
      · have := wt hw; rw [q2] at this; cases this
  · rcases hw with hw | hw
    · rcases h3 with h3 | h3
      · rw [hw] at h3; cases h3
      · have := (quiet h3).2; rw [this] at hx; cases hx
    · unfold disj at h1
      have := List.all_eq_true.1 h1 id hw
      rw [memB_iff.2 hx] at this; cases this

theorem conf_dst {ops : Array Oper} {x y : Step} {t : Nat} (hy : y.o.dst = some t) (hx : t ∈ x.o.looksAt ops ∨ x.o.dst = some t) : noConf ops y.o x.o y.f x.f = false := by
  rw [Bool.eq_false_iff]
  intro h
  unfold noConf at h
  simp only [Bool.and_eq_true] at h
  obtain ⟨q1, q2, q3⟩ := Oper.apart_spec h.1.1.1.1
  rcases hx with hx | hx
  · exact q1 t hy hx
  · exact q2 t hy hx

theorem looks_op {ops : Array Oper} {o : Oper} {t : Nat} (h : Operand.tmp t ∈ o.op.operands.toList) : t ∈ o.looksAt ops := by
  unfold Oper.looksAt
  refine List.mem_append_left _ ?_
  rw [List.mem_filterMap]
  exact ⟨.tmp t, h, rfl⟩

theorem stF_none {S : Nat → Bool} {id : Nat} : ∀ {xs : List Step} {k : Nat} {σ : St}, (∀ x, x ∈ xs → getO x.s1 id = none) → σ id = none → stF S k xs σ id = none
  | [], _, _, _, h => h
  | x :: r, k, σ, hx, h => by
    unfold stF
    refine stF_none (fun y hy => hx y (List.mem_cons_of_mem _ hy)) ?_
    split
    · show (if isWr x id = true then getO x.s1 id else σ id) = none
      split
      · exact hx x (by simp)
      · exact h
    · exact h

theorem allP_eq : ∀ {l : List AV} {ps : List PV}, allP l = some ps → l = ps.map AV.p
  | [], ps, h => by simp [allP] at h; subst h; rfl
  | z :: r, ps, h => by
    cases z <;> simp [allP] at h
    obtain ⟨qs, hq, rfl⟩ := h
    simp [allP_eq hq]

structure D (w : World) (g : G) (s : Store) (e : Env) (xs : List Step) (n : Nat) (S : Nat → Bool) (w' : World) (g' : G) (a' : Act) : Prop where
  inv : Inv w' g' (stF S 0 xs (getO s))
  env : EnvR w' g' (stF S 0 xs (getO s)) (envF S 0 xs e) a'.tmps
  size : a'.tmps.size = n
  defers : a'.defers = []
  ext : Ext w g (getO s) w' g' (stF S 0 xs (getO s))
  new : ∀ id, g'.C id → g.C id ∨ ∃ k x, xs[k]? = some x ∧ S k = true ∧ x.s0.length ≤ id ∧ id < x.s1.length

section
variable {w : World} {g : G} {s : Store} {e : Env} {xs : List Step} {n : Nat} {ops : Array Oper} {e' : Env} {s' : Store} {S : Nat → Bool} {i : Nat} {x : Step} {w1 : World} {g1 : G} {a1 : Act}

/-- The step i in the midst of others. -/
structure Mid (ops : Array Oper) (n : Nat) (xs : List Step) (e : Env) (s : Store) (e' : Env) (s' : Store) (S : Nat → Bool) (i : Nat) (x : Step) : Prop where
  chain : Chain n xs e s e' s'
  fine : ∀ x, x ∈ xs → Fine x
  at_ : xs[i]? = some x
  out : S i = false
  agree : ∀ k y, xs[k]? = some y → k ≠ i → noConf ops y.o x.o y.f x.f = false → S k = decide (k < i)

def also (S : Nat → Bool) (i : Nat) : Nat → Bool := fun k => S k || decide (k = i)

theorem Mid.mem (m : Mid ops n xs e s e' s' S i x) : x ∈ xs := List.mem_of_getElem? m.at_
theorem Mid.lt (m : Mid ops n xs e s e' s' S i x) : i < xs.length := (List.getElem?_eq_some_iff.1 m.at_).1

theorem Mid.env0 (m : Mid ops n xs e s e' s' S i x) {t : Nat} (h : t ∈ x.o.looksAt ops) : envF S 0 xs e t = x.e0 t := by
  have h1 := upto_state (k := 0) m.chain m.fine (Nat.le_of_lt m.lt)
  rw [(stateAt_get m.chain m.at_).1] at h1
  refine Eq.trans ?_ (congrFun h1.1 t)
  refine envF_eq (fun k y hk hy => ?_) rfl
  by_cases hki : k = i
  · subst hki; rw [Nat.zero_add, m.out]; simp
  · rw [Nat.zero_add, m.agree k y hk hki (conf_dst hy (.inl h))]; simp

theorem Mid.st0 (m : Mid ops n xs e s e' s' S i x) {id : Nat} (h : x.f.all = true ∨ id ∈ x.f.touch) : stF S 0 xs (getO s) id = getO x.s0 id := by
  have h1 := upto_state (k := 0) m.chain m.fine (Nat.le_of_lt m.lt)
  rw [(stateAt_get m.chain m.at_).1] at h1
  show _ = getO x.s0 id
  rw [← h1.2]
  refine stF_eq (fun k y hk hy => ?_) rfl
  by_cases hki : k = i
  · subst hki; rw [Nat.zero_add, m.out]; simp
  · rw [Nat.zero_add, m.agree k y hk hki (conf_wr hy h)]; simp

theorem Mid.env1 (m : Mid ops n xs e s e' s' S i x) {t : Nat} (h : x.o.dst = some t) : envF (also S i) 0 xs e t = x.v := by
  have h1 := upto_state (k := 0) m.chain m.fine (Nat.succ_le_of_lt m.lt)
  rw [(stateAt_get m.chain m.at_).2] at h1
  have : put x.e0 x.o.dst x.v t = x.v := by rw [h]; exact put_eq
  rw [← this]
  refine Eq.trans ?_ (congrFun h1.1 t)
  refine envF_eq (fun k y hk hy => ?_) rfl
  rw [Nat.zero_add]
  unfold also
  by_cases hki : k = i
  · subst hki; simp
  · rw [m.agree k y hk hki (conf_dst hy (.inr h))]; simp [hki]; omega

theorem Mid.env2 (m : Mid ops n xs e s e' s' S i x) {t : Nat} (h : x.o.dst ≠ some t) : envF (also S i) 0 xs e t = envF S 0 xs e t := by
  refine envF_eq (fun k y hk hy => ?_) rfl
  rw [Nat.zero_add]
  unfold also
  by_cases hki : k = i
  · subst hki; rw [m.at_] at hk; cases hk; exact absurd hy h
  · simp [hki]

theorem wr_touch {id : Nat} (h : isWr x id = true) : x.f.all = true ∨ id ∈ x.f.touch := by
  rw [isWr_iff] at h
  unfold Foot.touch
  rcases h with h | h | h
  · exact .inl h
  · exact .inr (List.mem_append_left _ h.2)
  · exact .inr (List.mem_append_right _ h)

theorem Mid.st1 (m : Mid ops n xs e s e' s' S i x) {id : Nat} (h : isWr x id = true) : stF (also S i) 0 xs (getO s) id = getO x.s1 id := by
  have h1 := upto_state (k := 0) m.chain m.fine (Nat.succ_le_of_lt m.lt)
  rw [(stateAt_get m.chain m.at_).2] at h1
  show _ = getO x.s1 id
  rw [← h1.2]
  refine stF_eq (fun k y hk hy => ?_) rfl
  rw [Nat.zero_add]
  unfold also
  by_cases hki : k = i
  · subst hki; simp
  · rw [m.agree k y hk hki (conf_wr hy (wr_touch h))]; simp [hki]; omega

theorem Mid.st2 (m : Mid ops n xs e s e' s' S i x) {id : Nat} (h : isWr x id = false) : stF (also S i) 0 xs (getO s) id = stF S 0 xs (getO s) id := by
  refine stF_eq (fun k y hk hy => ?_) rfl
  rw [Nat.zero_add]
  unfold also
  by_cases hki : k = i
  · subst hki; rw [m.at_] at hk; cases hk; rw [hy] at h; cases h
  · simp [hki]

theorem Mid.ev0 (m : Mid ops n xs e s e' s' S i x) : ∀ y, y ∈ x.o.op.operands.toList → ev x.e0 y = ev (envF S 0 xs e) y := fun y hy => by
  cases y with
  | tmp t => exact (m.env0 (looks_op hy)).symm
  | _ => rfl

/-- What is known behind the step. -/
def Beh (w1 : World) (g1 : G) (σ σ' : St) (x : Step) (y : Value) (w2 : World) : Prop :=
  ∃ g2, RepA w2 g2 σ' x.v y ∧ Inv w2 g2 σ' ∧ Ext w1 g1 σ w2 g2 σ' ∧ ∀ id, g2.C id → g1.C id ∨ (x.s0.length ≤ id ∧ id < x.s1.length)

theorem Mid.fin (m : Mid ops n xs e s e' s' S i x) (d : D w g s e xs n S w1 g1 a1) {y : Value} {w2 : World} (h : Beh w1 g1 (stF S 0 xs (getO s)) (stF (also S i) 0 xs (getO s)) x y w2) :
    ∃ g2, D w g s e xs n (also S i) w2 g2 (a1.put x.o.dst y) := by
  obtain ⟨g2, h1, h2, h3, h4⟩ := h
  refine ⟨g2, h2, fun t => ?_, ?_, ?_, d.ext.trans h3, fun id hid => ?_⟩
  · have hold := h3.repA (d.env t)
    by_cases hd : x.o.dst = some t
    · rw [m.env1 hd, hd]
      have := chain_dst m.chain m.mem t hd
      simp [Act.put, Array.getD, d.size, this]
      exact h1
    · rw [m.env2 hd]
      cases hdd : x.o.dst with
      | none => exact hold
      | some u =>
        have hne : u ≠ t := fun e => hd (by rw [hdd, e])
        simp only [Act.put, Array.getD_eq_getD_getElem?] at hold ⊢
        rw [Array.getElem?_setIfInBounds_ne hne]
        exact hold
  · cases x.o.dst <;> simp [Act.put, d.size]
  · have := d.defers
    cases x.o.dst <;> simpa [Act.put] using this
  · rcases h4 id hid with h5 | h5
    · rcases d.new id h5 with h6 | ⟨k, z, h6, h7, h8⟩
      · exact .inl h6
      · exact .inr ⟨k, z, h6, by simp [also, h7], h8⟩
    · exact .inr ⟨i, x, m.at_, by simp [also], h5⟩

theorem Mid.run (m : Mid ops n xs e s e' s' S i x) (d : D w g s e xs n S w1 g1 a1) (hfr : ∀ id, g.C id → id < s.length) (h : StepSem P x) :
    OpOk P x.o a1 w1 (Beh w1 g1 (stF S 0 xs (getO s)) (stF (also S i) 0 xs (getO s)) x) := by
  have hfine := m.fine x m.mem
  have hmono := chain_mono m.chain m.fine m.at_
  have hflen := hfine.len
  have hfoot : x.f = x.f := rfl
  unfold StepSem at h
  by_cases hc : ∃ f args ts, x.o.op = .call ⟨.value f, args, ts⟩
  · obtain ⟨f, args, ts, hop⟩ := hc
    have hev := m.ev0
    rw [hop] at hev
    have hf : ev x.e0 f = ev (envF S 0 xs e) f := hev f (by simp [Op.operands, Call.operands])
    have ha : args.toList.map (ev x.e0) = args.toList.map (ev (envF S 0 xs e)) := map_ev fun z hz => hev z (by simp only [Op.operands, Call.operands, Array.toList_append]; exact List.mem_append_right _ hz)
    unfold dop at h
    rw [hop] at h
    simp only [] at h
    split at h
    · rename_i k caps hcl
      split at h
      · rename_i ps hps
        obtain ⟨v0, hcal, _, hv, h1, h2⟩ := h
        have hlen : ∀ id, s'.length ≤ id → stF S 0 xs (getO s) id = none := fun id hid => stF_none (fun y hy => by
          obtain ⟨j, hj⟩ := List.getElem?_of_mem hy
          have := (chain_mono m.chain m.fine hj).2
          exact getO_out (by omega)) (getO_out (by omega))
        have hss : getO ((List.range s'.length).map (stF S 0 xs (getO s))) = stF S 0 xs (getO s) := by
          funext id
          unfold getO
          by_cases hlt : id < s'.length
          · rw [List.getElem?_map, List.getElem?_range hlt]; rfl
          · rw [List.getElem?_map, List.getElem?_eq_none (by simp; omega)]; exact (hlen id (by omega)).symm
        have hinv := d.inv
        have henv := d.env
        rw [← hss] at hinv henv
        have hargs : ps.map AV.p = args.toList.map (ev (envF S 0 xs e)) ++ caps := by
          rw [← ha]
          exact (allP_eq hps).symm
        have hC := hcal ((List.range s'.length).map (stF S 0 xs (getO s)))
        rw [hargs] at hC
        have hok := ok_call (N := False) hop (by rw [← hf]; exact hcl) hC ⟨hinv, fun _ _ => rfl, fun hh => hh.elim⟩ (fun id hid => by
          rw [List.length_map, List.length_range]
          rcases d.new id hid with h6 | ⟨k, z, h6, h7, h8⟩
          · have := hfr id h6; omega
          · have := (chain_mono m.chain m.fine h6).2; omega) henv
        refine hok.mono fun y w2 hr => ?_
        obtain ⟨v, s2, g2, r⟩ := hr
        obtain ⟨rfl, rfl⟩ := r.K
        have hov : ovr (fun _ => True) ((List.range s'.length).map (stF S 0 xs (getO s))) ((List.range s'.length).map (stF S 0 xs (getO s))) (getO ((List.range s'.length).map (stF S 0 xs (getO s)))) = stF S 0 xs (getO s) := by
          funext id; unfold ovr; rw [if_pos (.inl trivial), hss]
        have hσ : stF (also S i) 0 xs (getO s) = stF S 0 xs (getO s) := funext fun id => m.st2 (by
          rw [Bool.eq_false_iff]; intro hw; rw [isWr_iff, mem_news, ← h2] at hw; simp at hw; omega)
        have r1 := r.rep; have r2 := r.inv; have r3 := r.ext; have r4 := r.new
        rw [hov] at r1 r2 r3
        rw [hss] at r3
        refine ⟨g2, by rw [hσ, ← hv]; exact r1, by rw [hσ]; exact r2, by rw [hσ]; exact r3, fun id hid => ?_⟩
        rcases r4 id hid with h5 | h5
        · exact .inl h5
        · omega
      · obtain ⟨v0, s0, hcal, _, hv, h1, h2⟩ := h
        have hall : x.f.all = true := by rw [← h2]
        have hσ0 : stF S 0 xs (getO s) = getO x.s0 := funext fun id => m.st0 (.inl hall)
        have hσ1 : stF (also S i) 0 xs (getO s) = getO x.s1 := funext fun id => m.st1 (isWr_iff.2 (.inl hall))
        have hinv := d.inv
        have henv := d.env
        rw [hσ0] at hinv henv
        rw [ha] at hcal
        have hok := ok_call (N := False) hop (by rw [← hf]; exact hcl) hcal ⟨hinv, fun _ _ => rfl, fun hh => hh.elim⟩ (fun id hid => by
          rcases d.new id hid with h6 | ⟨k, z, h6, h7, h8⟩
          · have := hfr id h6; omega
          · have hki : k ≠ i := fun e => by subst e; rw [m.out] at h7; cases h7
            have hz := m.fine z (List.mem_of_getElem? h6)
            have hwr : isWr z id = true := isWr_iff.2 (.inr (.inr (mem_news.2 (by rw [hz.n0, hz.n1]; exact h8))))
            have := m.agree k z h6 hki (conf_wr hwr (.inl hall))
            rw [h7] at this
            have hlt : k < i := by simpa using this.symm
            have := chain_lt m.chain m.fine h6 m.at_ hlt
            omega) henv
        rw [hσ0, hσ1]
        refine hok.mono fun y w2 hr => ?_
        obtain ⟨v, s2, g2, r⟩ := hr
        obtain ⟨rfl, rfl⟩ := r.K
        have hov : ovr (fun _ => True) x.s0 s2 (getO x.s0) = getO s2 := by
          funext id; unfold ovr; rw [if_pos (.inl trivial)]
        have r1 := r.rep; have r2 := r.inv; have r3 := r.ext; have r4 := r.new
        rw [hov] at r1 r2 r3
        rw [← h1]
        exact ⟨g2, by rw [← hv]; exact r1, r2, r3, fun id hid => by rw [← h1]; exact r4 id hid⟩
    · exact h.elim
  · have hnv : ∀ f args ts, x.o.op ≠ .call ⟨.value f, args, ts⟩ := fun f args ts e => hc ⟨f, args, ts, e⟩
    rw [notCall hnv] at h
    have key : aop P x.o.op x.e0 x.s0 (fun v s' => v = x.v ∧ s' = x.s1) → x.f.t = footT x.e0 x.o.op → x.f.all = false → OpOk P x.o a1 w1 (Beh w1 g1 (stF S 0 xs (getO s)) (stF (also S i) 0 xs (getO s)) x) := by
      intro ha ht hall
      rw [aop_congr m.ev0] at ha
      rw [footT_congr m.ev0] at ht
      have hok := aop_local (T := fun id => id ∈ x.f.t) (N := x.s0.length < x.s1.length) ha hnv (fun v s2 hk hl => by rw [hk.2] at hl; exact hl)
        ⟨d.inv, fun id hid => m.st0 (.inr (List.mem_append_left _ hid)), fun hN hid => by
          rcases d.new _ hid with h6 | ⟨k, z, h6, h7, h8⟩
          · have := hfr _ h6; omega
          · have hki : k ≠ i := fun e => by subst e; rw [m.out] at h7; cases h7
            by_cases hlt : k < i
            · have := chain_lt m.chain m.fine h6 m.at_ hlt; omega
            · have := chain_lt m.chain m.fine m.at_ h6 (by omega); omega⟩
        (fun id hid => by rw [ht]; exact hid) d.env
      refine hok.mono fun y w2 hr => ?_
      obtain ⟨v, s2, g2, r⟩ := hr
      obtain ⟨hv, hs2⟩ := r.K
      have r1 := r.rep; have r2 := r.inv; have r3 := r.ext; have r4 := r.new
      rw [hs2] at r1 r2 r3 r4
      rw [hv] at r1
      have hov : ovr (fun id => id ∈ x.f.t) x.s0 x.s1 (stF S 0 xs (getO s)) = stF (also S i) 0 xs (getO s) := by
        funext id
        unfold ovr
        cases hw : isWr x id with
        | true =>
          rw [m.st1 hw]
          rw [isWr_iff, mem_news, hfine.n0, hfine.n1, hall] at hw
          rw [if_pos]
          rcases hw with hw | hw | hw
          · cases hw
          · exact .inl hw.2
          · exact .inr hw
        | false =>
          rw [m.st2 hw]
          split
          · rename_i hcond
            rw [hfine.same id hw]
            have hnot : ¬ isWr x id = true := by simp [hw]
            rw [isWr_iff, mem_news, hfine.n0, hfine.n1] at hnot
            rcases hcond with hcond | hcond
            · exact (m.st0 (.inr (List.mem_append_left _ hcond))).symm
            · exact absurd (.inr (.inr hcond)) hnot
          · rfl
      rw [hov] at r1 r2 r3
      exact ⟨g2, r1, r2, r3, r4⟩
    split at h
    · obtain ⟨v0, h0, hv, h1, h2⟩ := h
      refine key ?_ (by rw [← h2]) (by rw [← h2])
      rw [← hv, ← h1]; exact h0
    · obtain ⟨v0, s0, h0, _, hv, h1, h2⟩ := h
      refine key ?_ (by rw [← h2]) (by rw [← h2])
      rw [← hv, ← h1]; exact h0
end
end Go.Proofs.Ytfjolephpghafaa.AW
