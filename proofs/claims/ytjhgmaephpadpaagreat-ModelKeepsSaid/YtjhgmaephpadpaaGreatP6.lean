/- A part of the proof: AW/Drawn3, AW/Drawn4, AW/Code, AW/Fun, AW/Pure, AW/Lend. -/
import Derived.Test.YtjhgmaephpadpaaGreatP5
import Derived.Scope
namespace Go.Proofs.YtjhgmaephpadpaaGreat.AW
set_option linter.unusedSimpArgs false
set_option linter.unusedVariables false
variable {P : Program}

theorem OpOk.mono {o : Oper} {a : Act} {w : World} {R R' : Value → World → Prop} (h : OpOk P o a w R) (k : ∀ y w', R y w' → R' y w') : OpOk P o a w R' := by
  unfold OpOk at h ⊢
  generalize (execOp a.eval o).run P w = r at *
  cases r with
  | ok n w' =>
    cases n <;> first
      | exact k _ _ h
      | exact Calls.mono h (fun e w'' he => by cases e <;> first | exact k _ _ he | exact he.elim)
      | exact h.elim
  | halt x w' => exact h.elim

theorem conf_wr {ops : Array Oper} {x y : Step} {id : Nat} (hy : isWr y id = true) (hx : x.f.all = true ∨ id ∈ x.f.touch) : noConf ops y.o x.o y.f x.f = false := by
  rw [Bool.eq_false_iff]
  intro h
  unfold noConf at h
  simp only [Bool.and_eq_true, Bool.or_eq_true, Bool.not_eq_true'] at h
  obtain ⟨⟨⟨⟨_, h1⟩, h2⟩, h3⟩, h4⟩ := h
  have quiet : ∀ {f : Foot}, f.quiet = true → f.all = false ∧ f.touch = [] := fun {f} h => by
    unfold Foot.quiet at h
    simpa using h
  have hw : y.f.all = true ∨ id ∈ y.f.write := by
    unfold isWr at hy
    rw [Bool.or_eq_true, memB_iff] at hy; exact hy
  have wt : ∀ {f : Foot}, id ∈ f.write → id ∈ f.touch := fun {f} h => by
    rw [mem_write] at h
    unfold Foot.touch
    rcases h with h | h
    · exact List.mem_append_left _ h.2
    · exact List.mem_append_right _ h
  rcases hx with hx | hx
  · rcases h4 with h4 | h4
    · rw [hx] at h4; cases h4
    · obtain ⟨q1, q2⟩ := quiet h4
      rcases hw with hw | hw
      · rw [hw] at q1; cases q1
      · have := wt hw; rw [q2] at this; cases this
  · rcases hw with hw | hw
    · rcases h3 with h3 | h3
      · rw [hw] at h3; cases h3
      · have := (quiet h3).2; rw [this] at hx; cases hx
    · unfold disj at h1
      have := List.all_eq_true.1 h1 id hw
      rw [memB_iff.2 hx] at this; cases this

theorem conf_dst {ops : Array Oper} {x y : Step} {t : Nat} (hy : y.o.dst = some t) (hx : t ∈ x.o.looksAt ops ∨ x.o.dst = some t) : noConf ops y.o x.o y.f x.f = false := by
  rw [Bool.eq_false_iff]
  intro h
  unfold noConf at h
  simp only [Bool.and_eq_true] at h
  obtain ⟨q1, q2, q3⟩ := Oper.apart_spec h.1.1.1.1
  rcases hx with hx | hx
  · exact q1 t hy hx
  · exact q2 t hy hx

theorem looks_op {ops : Array Oper} {o : Oper} {t : Nat} (h : Operand.tmp t ∈ o.op.operands.toList) : t ∈ o.looksAt ops := by
  unfold Oper.looksAt
  refine List.mem_append_left _ ?_
  rw [List.mem_filterMap]
  exact ⟨.tmp t, h, rfl⟩

theorem stF_none {S : Nat → Bool} {id : Nat} : ∀ {xs : List Step} {k : Nat} {σ : St}, (∀ x, x ∈ xs → getO x.s1 id = none) → σ id = none → stF S k xs σ id = none
  | [], _, _, _, h => h
  | x :: r, k, σ, hx, h => by
    unfold stF
    refine stF_none (fun y hy => hx y (List.mem_cons_of_mem _ hy)) ?_
    split
    · show (if isWr x id = true then getO x.s1 id else σ id) = none
      split
      · exact hx x (by simp)
      · exact h
    · exact h

theorem allP_eq : ∀ {l : List AV} {ps : List PV}, allP l = some ps → l = ps.map AV.p
  | [], ps, h => by simp [allP] at h; subst h; rfl
  | z :: r, ps, h => by
    cases z <;> simp [allP] at h
    obtain ⟨qs, hq, rfl⟩ := h
    simp [allP_eq hq]

structure D (w : World) (g : G) (s : Store) (e : Env) (xs : List Step) (n : Nat) (S : Nat → Bool) (w' : World) (g' : G) (a' : Act) : Prop where
  inv : Inv w' g' (stF S 0 xs (getO s))
  env : EnvR w' g' (stF S 0 xs (getO s)) (envF S 0 xs e) a'.tmps
  size : a'.tmps.size = n
  defers : a'.defers = []
  ext : Ext w g (getO s) w' g' (stF S 0 xs (getO s))
  new : ∀ id, g'.C id → g.C id ∨ ∃ k x, xs[k]? = some x ∧ S k = true ∧ x.s0.length ≤ id ∧ id < x.s1.length

section
variable {w : World} {g : G} {s : Store} {e : Env} {xs : List Step} {n : Nat} {ops : Array Oper} {e' : Env} {s' : Store} {S : Nat → Bool} {i : Nat} {x : Step} {w1 : World} {g1 : G} {a1 : Act}

/-- The step i in the midst of others. -/
structure Mid (ops : Array Oper) (n : Nat) (xs : List Step) (e : Env) (s : Store) (e' : Env) (s' : Store) (S : Nat → Bool) (i : Nat) (x : Step) : Prop where
  chain : Chain n xs e s e' s'
  fine : ∀ x, x ∈ xs → Fine x
  at_ : xs[i]? = some x
  out : S i = false
  agree : ∀ k y, xs[k]? = some y → k ≠ i → noConf ops y.o x.o y.f x.f = false → S k = decide (k < i)

def also (S : Nat → Bool) (i : Nat) : Nat → Bool := fun k => S k || decide (k = i)

theorem Mid.mem (m : Mid ops n xs e s e' s' S i x) : x ∈ xs := List.mem_of_getElem? m.at_
theorem Mid.lt (m : Mid ops n xs e s e' s' S i x) : i < xs.length := (List.getElem?_eq_some_iff.1 m.at_).1

theorem Mid.env0 (m : Mid ops n xs e s e' s' S i x) {t : Nat} (h : t ∈ x.o.looksAt ops) : envF S 0 xs e t = x.e0 t := by
  have h1 := upto_state (k := 0) m.chain m.fine (Nat.le_of_lt m.lt)
  rw [(stateAt_get m.chain m.at_).1] at h1
  refine Eq.trans ?_ (congrFun h1.1 t)
  refine envF_eq (fun k y hk hy => ?_) rfl
  by_cases hki : k = i
  · subst hki; rw [Nat.zero_add, m.out]; simp
  · rw [Nat.zero_add, m.agree k y hk hki (conf_dst hy (.inl h))]; simp

theorem Mid.st0 (m : Mid ops n xs e s e' s' S i x) {id : Nat} (h : x.f.all = true ∨ id ∈ x.f.touch) : stF S 0 xs (getO s) id = getO x.s0 id := by
  have h1 := upto_state (k := 0) m.chain m.fine (Nat.le_of_lt m.lt)
  rw [(stateAt_get m.chain m.at_).1] at h1
  show _ = getO x.s0 id
  rw [← h1.2]
  refine stF_eq (fun k y hk hy => ?_) rfl
  by_cases hki : k = i
  · subst hki; rw [Nat.zero_add, m.out]; simp
  · rw [Nat.zero_add, m.agree k y hk hki (conf_wr hy h)]; simp

theorem Mid.env1 (m : Mid ops n xs e s e' s' S i x) {t : Nat} (h : x.o.dst = some t) : envF (also S i) 0 xs e t = x.v := by
  have h1 := upto_state (k := 0) m.chain m.fine (Nat.succ_le_of_lt m.lt)
  rw [(stateAt_get m.chain m.at_).2] at h1
  have : put x.e0 x.o.dst x.v t = x.v := by rw [h]; exact put_eq
  rw [← this]
  refine Eq.trans ?_ (congrFun h1.1 t)
  refine envF_eq (fun k y hk hy => ?_) rfl
  rw [Nat.zero_add]
  unfold also
  by_cases hki : k = i
  · subst hki; simp
  · rw [m.agree k y hk hki (conf_dst hy (.inr h))]; simp [hki]; omega

theorem Mid.env2 (m : Mid ops n xs e s e' s' S i x) {t : Nat} (h : x.o.dst ≠ some t) : envF (also S i) 0 xs e t = envF S 0 xs e t := by
  refine envF_eq (fun k y hk hy => ?_) rfl
  rw [Nat.zero_add]
  unfold also
  by_cases hki : k = i
  · subst hki; rw [m.at_] at hk; cases hk; exact absurd hy h
  · simp [hki]

theorem wr_touch {id : Nat} (h : isWr x id = true) : x.f.all = true ∨ id ∈ x.f.touch := by
  rw [isWr_iff] at h
  unfold Foot.touch
  rcases h with h | h | h
  · exact .inl h
  · exact .inr (List.mem_append_left _ h.2)
  · exact .inr (List.mem_append_right _ h)

theorem Mid.st1 (m : Mid ops n xs e s e' s' S i x) {id : Nat} (h : isWr x id = true) : stF (also S i) 0 xs (getO s) id = getO x.s1 id := by
  have h1 := upto_state (k := 0) m.chain m.fine (Nat.succ_le_of_lt m.lt)
  rw [(stateAt_get m.chain m.at_).2] at h1
  show _ = getO x.s1 id
  rw [← h1.2]
  refine stF_eq (fun k y hk hy => ?_) rfl
  rw [Nat.zero_add]
  unfold also
  by_cases hki : k = i
  · subst hki; simp
  · rw [m.agree k y hk hki (conf_wr hy (wr_touch h))]; simp [hki]; omega

theorem Mid.st2 (m : Mid ops n xs e s e' s' S i x) {id : Nat} (h : isWr x id = false) : stF (also S i) 0 xs (getO s) id = stF S 0 xs (getO s) id := by
  refine stF_eq (fun k y hk hy => ?_) rfl
  rw [Nat.zero_add]
  unfold also
  by_cases hki : k = i
  · subst hki; rw [m.at_] at hk; cases hk; rw [hy] at h; cases h
  · simp [hki]

theorem Mid.ev0 (m : Mid ops n xs e s e' s' S i x) : ∀ y, y ∈ x.o.op.operands.toList → ev x.e0 y = ev (envF S 0 xs e) y := fun y hy => by
  cases y with
  | tmp t => exact (m.env0 (looks_op hy)).symm
  | _ => rfl

/-- What is known behind the step. -/
def Beh (w1 : World) (g1 : G) (σ σ' : St) (x : Step) (y : Value) (w2 : World) : Prop :=
  ∃ g2, RepA w2 g2 σ' x.v y ∧ Inv w2 g2 σ' ∧ Ext w1 g1 σ w2 g2 σ' ∧ ∀ id, g2.C id → g1.C id ∨ (x.s0.length ≤ id ∧ id < x.s1.length)

theorem Mid.fin (m : Mid ops n xs e s e' s' S i x) (d : D w g s e xs n S w1 g1 a1) {y : Value} {w2 : World} (h : Beh w1 g1 (stF S 0 xs (getO s)) (stF (also S i) 0 xs (getO s)) x y w2) :
    ∃ g2, D w g s e xs n (also S i) w2 g2 (a1.put x.o.dst y) := by
  obtain ⟨g2, h1, h2, h3, h4⟩ := h
  refine ⟨g2, h2, fun t => ?_, ?_, ?_, d.ext.trans h3, fun id hid => ?_⟩
  · have hold := h3.repA (d.env t)
    by_cases hd : x.o.dst = some t
    · rw [m.env1 hd, hd]
      have := chain_dst m.chain m.mem t hd
      simp [Act.put, Array.getD, d.size, this]
      exact h1
    · rw [m.env2 hd]
      cases hdd : x.o.dst with
      | none => exact hold
      | some u =>
        have hne : u ≠ t := fun e => hd (by rw [hdd, e])
        simp only [Act.put, Array.getD_eq_getD_getElem?] at hold ⊢
        rw [Array.getElem?_setIfInBounds_ne hne]
        exact hold
  · cases x.o.dst <;> simp [Act.put, d.size]
  · have := d.defers
    cases x.o.dst <;> simpa [Act.put] using this
  · rcases h4 id hid with h5 | h5
    · rcases d.new id h5 with h6 | ⟨k, z, h6, h7, h8⟩
      · exact .inl h6
      · exact .inr ⟨k, z, h6, by simp [also, h7], h8⟩
    · exact .inr ⟨i, x, m.at_, by simp [also], h5⟩

theorem Mid.run (m : Mid ops n xs e s e' s' S i x) (d : D w g s e xs n S w1 g1 a1) (hG0 : Gk P w g (getO s)) (hfr : ∀ id, g.C id → id < s.length) (h : StepSem P x) :
    OpOk P x.o a1 w1 (Beh w1 g1 (stF S 0 xs (getO s)) (stF (also S i) 0 xs (getO s)) x) := by
  have hfine := m.fine x m.mem
  have hG := hG0.ext d.ext
  have hmono := chain_mono m.chain m.fine m.at_
  have hflen := hfine.len
  have hfoot : x.f = x.f := rfl
  unfold StepSem at h
  by_cases hc : ∃ f args ts, x.o.op = .call ⟨.value f, args, ts⟩
  · obtain ⟨f, args, ts, hop⟩ := hc
    have hev := m.ev0
    rw [hop] at hev
    have hf : ev x.e0 f = ev (envF S 0 xs e) f := hev f (by simp [Op.operands, Call.operands])
    have ha : args.toList.map (ev x.e0) = args.toList.map (ev (envF S 0 xs e)) := map_ev fun z hz => hev z (by simp only [Op.operands, Call.operands, Array.toList_append]; exact List.mem_append_right _ hz)
    unfold dop at h
    rw [hop] at h
    simp only [] at h
    split at h
    · rename_i k caps hcl
      have hframed : (framedK P k (args.toList.map (ev x.e0) ++ caps) x.s0 fun v s' f => v = x.v ∧ s' = x.s1 ∧ f = x.f) → OpOk P x.o a1 w1 (Beh w1 g1 (stF S 0 xs (getO s)) (stF (also S i) 0 xs (getO s)) x) := fun hk => by
        obtain ⟨is, args0, s0, v0, s0', hcal, has, h3, hn, hle, ua, us, uv, us', hv, h1, h2⟩ := (framed_of hk).ex
        obtain ⟨l1, l2⟩ := Framed.len (k := 0) (as := []) h3 hle h1
        rw [ha] at has
        have hnC : ∀ id, g1.C id → (x.s0.length ≤ id → id < x.s1.length → False) ∧ id < s'.length := fun id hid => by
          rcases d.new id hid with h6 | ⟨k, z, h6, h7, h8⟩
          · have := hfr id h6; exact ⟨fun _ _ => by omega, by omega⟩
          · have hz := chain_mono m.chain m.fine h6
            refine ⟨fun q1 q2 => ?_, by omega⟩
            have hki : k ≠ i := fun e => by subst e; rw [m.out] at h7; cases h7
            by_cases hlt : k < i
            · have := chain_lt m.chain m.fine h6 m.at_ hlt; omega
            · have := chain_lt m.chain m.fine m.at_ h6 (by omega); omega
        have hnone : ∀ j, ¬ g1.C j → stF S 0 xs (getO s) j = none := fun j hj => by
          cases hq : stF S 0 xs (getO s) j with
          | none => rfl
          | some o => exact absurd (d.inv.made j o hq) hj
        have hargs := (evs_rep (w := w1) (g := g1) (σ := stF S 0 xs (getO s)) d.env args.toList)
        have hfr' : ev (envF S 0 xs e) f = .clos k caps := by rw [← hf]; exact hcl
        have hfa := ev_rep (w := w1) (g := g1) (σ := stF S 0 xs (getO s)) d.env f
        rw [hfr'] at hfa
        obtain ⟨ys, hp, hr⟩ := hfa.inv_clos
        have hargs2 := hargs.append hr
        rw [has] at hargs2
        have hc := Cal.framed (σ := stF S 0 xs (getO s)) (m := x.s0.length) s'.length hcal d.inv hG l1 hle hn (fun i hi => by
            have hpl := (place_lt hn hi).2
            rw [m.st0 (.inr (List.mem_append_left _ (by rw [h2]; exact hpl)))]
            have e1 : (is.map (getO x.s0))[i]? = (s0.map (renO (place is x.s0.length)))[i]? := by rw [h3]
            have e2 : is[i]? = some (place is x.s0.length i) := place_get hi
            rw [List.getElem?_map, List.getElem?_map, e2] at e1
            simp only [Option.map_some] at e1
            unfold getO at e1 ⊢
            cases h9 : s0[i]? with
            | none => rw [List.getElem?_eq_none_iff] at h9; omega
            | some o => rw [h9] at e1; simpa using e1)
          (fun j q1 q2 => by
            have hj : ¬ g1.C j := fun q => (hnC j q).1 q1 (by omega)
            exact ⟨hnone j hj, hj⟩)
          (fun j q => by
            have hj : ¬ g1.C j := fun q2 => by have := (hnC j q2).2; omega
            exact ⟨hnone j hj, hj⟩) (by omega) ua us uv us' hargs2
        have heq : (execOp a1.eval x.o).run P w1 = (callFunc k (args.toList.map a1.eval ++ ys).toArray).run P w1 := by
          simp only [execOp, hop, resolve, Sem.run_bind, hp, Deferred.ofValue, Sem.run_pure, Result.andThen_ok, invoke]
          congr 2
          simp
        have fin : ∀ e' w', (∃ v g' σ', e' = Ending.returned v ∧ RepA w' g' σ' (v0.ren (place is x.s0.length)) v ∧ Inv w' g' σ' ∧ Ext w1 g1 (stF S 0 xs (getO s)) w' g' σ' ∧ (∀ j, g'.C j → g1.C j ∨ (x.s0.length ≤ j ∧ j < x.s0.length + (s0'.length - s0.length))) ∧
            (∀ i, i < s0'.length → σ' (place is x.s0.length i) = renO (place is x.s0.length) (getO s0' i)) ∧ (∀ j, (∀ i, i < s0'.length → place is x.s0.length i ≠ j) → σ' j = stF S 0 xs (getO s) j)) →
            ∃ v, e' = Ending.returned v ∧ Beh w1 g1 (stF S 0 xs (getO s)) (stF (also S i) 0 xs (getO s)) x v w' := by
          rintro e' w' ⟨v, g', σ', rfl, q1, q2, q3, q4, q5, q6⟩
          have hσ : σ' = stF (also S i) 0 xs (getO s) := by
            funext id
            cases hw : isWr x id with
            | true =>
              rw [m.st1 hw]
              rw [isWr_iff, mem_news, h2] at hw
              obtain ⟨hat, _⟩ := merge_at (ρ := place is x.s0.length) (is := is) (s := x.s0) (s0 := s0') rfl hn (by omega)
              have : ∃ i, i < s0'.length ∧ place is x.s0.length i = id := by
                rcases hw with hw | hw | hw
                · cases hw
                · obtain ⟨i, hi1, hi2⟩ := place_mem (is := is) (m := x.s0.length) hw.2; exact ⟨i, by omega, hi2⟩
                · have h9 : x.s0.length ≤ id ∧ id < x.s1.length := hw
                  refine ⟨is.length + (id - x.s0.length), by omega, ?_⟩
                  rw [place_ge (by omega)]; omega
              obtain ⟨i, hi1, rfl⟩ := this
              rw [q5 i hi1, h1, hat i]
            | false =>
              rw [m.st2 hw]
              have hnot : ¬ isWr x id = true := by simp [hw]
              rw [isWr_iff, mem_news, h2] at hnot
              refine q6 id fun i hi e => hnot ?_
              by_cases hi1 : i < is.length
              · exact .inr (.inl ⟨rfl, e ▸ (place_lt hn hi1).2⟩)
              · rw [place_ge (is := is) (m := x.s0.length) (i := i) (Nat.le_of_not_lt hi1)] at e
                exact .inr (.inr (show x.s0.length ≤ id ∧ id < x.s1.length by omega))
          rw [hσ] at q1 q2 q3
          exact ⟨v, rfl, g', by rw [hv]; exact q1, q2, q3, fun id hid => by
            rcases q4 id hid with q | q
            · exact .inl q
            · exact .inr ⟨q.1, by omega⟩⟩
        rcases hc with ⟨⟨fn, hf1, hn1, hb1⟩, hc⟩ | ⟨v, w', hrun, hpost⟩
        · have hrun : (execOp a1.eval x.o).run P w1 = .ok (.enter k (args.toList.map a1.eval ++ ys).toArray) w1 := by
            rw [heq]; exact callFunc_enter (w := w1) hf1 hn1 hb1 (args.toList.map a1.eval ++ ys).toArray
          unfold OpOk
          rw [hrun]
          refine Calls.mono hc fun e' w' hpost => ?_
          obtain ⟨v, rfl, hb⟩ := fin e' w' hpost
          exact hb
        · obtain ⟨v', hv', hb⟩ := fin _ _ hpost
          cases hv'
          exact .value (by rw [heq]; exact hrun) hb
      have hframedR : (framedR P k (args.toList.map (ev x.e0) ++ caps) x.s0 fun v s' f => v = x.v ∧ s' = x.s1 ∧ f = x.f) → OpOk P x.o a1 w1 (Beh w1 g1 (stF S 0 xs (getO s)) (stF (also S i) 0 xs (getO s)) x) := fun hk => by
        obtain ⟨is, args0, s0, v0, hcal, has, h3, hn, ua, us, uv, hv, h1, h2⟩ := (framedR_of hk).ex
        have l1 : s0.length = is.length := by have := congrArg List.length h3; simpa using this.symm
        have l2 : x.s1.length = x.s0.length := by rw [h1]
        have hobj0 : ∀ i, i < is.length → stF S 0 xs (getO s) (place is x.s0.length i) = renO (place is x.s0.length) (getO s0 i) := fun i hi => by
            have hpl := (place_lt hn hi).2
            rw [m.st0 (.inr (List.mem_append_left _ (by rw [h2]; exact hpl)))]
            have e1 : (is.map (getO x.s0))[i]? = (s0.map (renO (place is x.s0.length)))[i]? := by rw [h3]
            have e2 : is[i]? = some (place is x.s0.length i) := place_get hi
            rw [List.getElem?_map, List.getElem?_map, e2] at e1
            simp only [Option.map_some] at e1
            unfold getO at e1 ⊢
            cases h9 : s0[i]? with
            | none => rw [List.getElem?_eq_none_iff] at h9; omega
            | some o => rw [h9] at e1; simpa using e1
        rw [ha] at has
        have hnC : ∀ id, g1.C id → (x.s0.length ≤ id → id < x.s1.length → False) ∧ id < s'.length := fun id hid => by
          rcases d.new id hid with h6 | ⟨k, z, h6, h7, h8⟩
          · have := hfr id h6; exact ⟨fun _ _ => by omega, by omega⟩
          · have hz := chain_mono m.chain m.fine h6
            refine ⟨fun q1 q2 => ?_, by omega⟩
            have hki : k ≠ i := fun e => by subst e; rw [m.out] at h7; cases h7
            by_cases hlt : k < i
            · have := chain_lt m.chain m.fine h6 m.at_ hlt; omega
            · have := chain_lt m.chain m.fine m.at_ h6 (by omega); omega
        have hnone : ∀ j, ¬ g1.C j → stF S 0 xs (getO s) j = none := fun j hj => by
          cases hq : stF S 0 xs (getO s) j with
          | none => rfl
          | some o => exact absurd (d.inv.made j o hq) hj
        have hargs := (evs_rep (w := w1) (g := g1) (σ := stF S 0 xs (getO s)) d.env args.toList)
        have hfr' : ev (envF S 0 xs e) f = .clos k caps := by rw [← hf]; exact hcl
        have hfa := ev_rep (w := w1) (g := g1) (σ := stF S 0 xs (getO s)) d.env f
        rw [hfr'] at hfa
        obtain ⟨ys, hp, hr⟩ := hfa.inv_clos
        have hargs2 := hargs.append hr
        rw [has] at hargs2
        have hc := Cal.framed (σ := stF S 0 xs (getO s)) (s0' := s0) (m := x.s0.length) s'.length hcal d.inv hG l1 (Nat.le_refl _) hn hobj0
          (fun j q1 q2 => by omega)
          (fun j q => by
            have hj : ¬ g1.C j := fun q2 => by have := (hnC j q2).2; omega
            exact ⟨hnone j hj, hj⟩) (by omega) ua us uv us hargs2
        have heq : (execOp a1.eval x.o).run P w1 = (callFunc k (args.toList.map a1.eval ++ ys).toArray).run P w1 := by
          simp only [execOp, hop, resolve, Sem.run_bind, hp, Deferred.ofValue, Sem.run_pure, Result.andThen_ok, invoke]
          congr 2
          simp
        have fin : ∀ e' w', (∃ v g' σ', e' = Ending.returned v ∧ RepA w' g' σ' (v0.ren (place is x.s0.length)) v ∧ Inv w' g' σ' ∧ Ext w1 g1 (stF S 0 xs (getO s)) w' g' σ' ∧ (∀ j, g'.C j → g1.C j ∨ (x.s0.length ≤ j ∧ j < x.s0.length + (s0.length - s0.length))) ∧
            (∀ i, i < s0.length → σ' (place is x.s0.length i) = renO (place is x.s0.length) (getO s0 i)) ∧ (∀ j, (∀ i, i < s0.length → place is x.s0.length i ≠ j) → σ' j = stF S 0 xs (getO s) j)) →
            ∃ v, e' = Ending.returned v ∧ Beh w1 g1 (stF S 0 xs (getO s)) (stF (also S i) 0 xs (getO s)) x v w' := by
          rintro e' w' ⟨v, g', σ', rfl, q1, q2, q3, q4, q5, q6⟩
          have hσ : σ' = stF (also S i) 0 xs (getO s) := by
            funext id
            have hw : isWr x id = false := by
              rw [Bool.eq_false_iff]; intro hw
              rw [isWr_iff, mem_news, h2] at hw
              rcases hw with hw | hw | hw
              · cases hw
              · cases hw.1
              · have h9 : x.s0.length ≤ id ∧ id < x.s0.length := hw
                omega
            rw [m.st2 hw]
            by_cases hid : ∃ i, i < s0.length ∧ place is x.s0.length i = id
            · obtain ⟨i, hi1, rfl⟩ := hid
              rw [q5 i hi1, hobj0 i (by omega)]
            · exact q6 id fun i hi e => hid ⟨i, hi, e⟩
          rw [hσ] at q1 q2 q3
          exact ⟨v, rfl, g', by rw [hv]; exact q1, q2, q3, fun id hid => by
            rcases q4 id hid with q | q
            · exact .inl q
            · exact .inr ⟨q.1, by omega⟩⟩
        rcases hc with ⟨⟨fn, hf1, hn1, hb1⟩, hc⟩ | ⟨v, w', hrun, hpost⟩
        · have hrun : (execOp a1.eval x.o).run P w1 = .ok (.enter k (args.toList.map a1.eval ++ ys).toArray) w1 := by
            rw [heq]; exact callFunc_enter (w := w1) hf1 hn1 hb1 (args.toList.map a1.eval ++ ys).toArray
          unfold OpOk
          rw [hrun]
          refine Calls.mono hc fun e' w' hpost => ?_
          obtain ⟨v, rfl, hb⟩ := fin e' w' hpost
          exact hb
        · obtain ⟨v', hv', hb⟩ := fin _ _ hpost
          cases hv'
          exact .value (by rw [heq]; exact hrun) hb
      split at h
      · rename_i ps hps
        rcases h with h | h | h
        rotate_left
        · exact hframed h
        · exact hframedR h
        obtain ⟨v0, hcal, _, hv, h1, h2⟩ := h
        have hlen : ∀ id, s'.length ≤ id → stF S 0 xs (getO s) id = none := fun id hid => stF_none (fun y hy => by
          obtain ⟨j, hj⟩ := List.getElem?_of_mem hy
          have := (chain_mono m.chain m.fine hj).2
          exact getO_out (by omega)) (getO_out (by omega))
        have hss : getO ((List.range s'.length).map (stF S 0 xs (getO s))) = stF S 0 xs (getO s) := by
          funext id
          unfold getO
          by_cases hlt : id < s'.length
          · rw [List.getElem?_map, List.getElem?_range hlt]; rfl
          · rw [List.getElem?_map, List.getElem?_eq_none (by simp; omega)]; exact (hlen id (by omega)).symm
        have hinv := d.inv
        have henv := d.env
        rw [← hss] at hinv henv
        have hargs : ps.map AV.p = args.toList.map (ev (envF S 0 xs e)) ++ caps := by
          rw [← ha]
          exact (allP_eq hps).symm
        have hC := hcal ((List.range s'.length).map (stF S 0 xs (getO s)))
        rw [hargs] at hC
        have hok := ok_call (N := False) hop (by rw [← hf]; exact hcl) hC ⟨hinv, fun _ _ => rfl, fun hh => hh.elim⟩ (by rw [hss]; exact hG) (fun id hid => by
          rw [List.length_map, List.length_range]
          rcases d.new id hid with h6 | ⟨k, z, h6, h7, h8⟩
          · have := hfr id h6; omega
          · have := (chain_mono m.chain m.fine h6).2; omega) henv
        refine hok.mono fun y w2 hr => ?_
        obtain ⟨v, s2, g2, r⟩ := hr
        obtain ⟨rfl, rfl⟩ := r.K
        have hov : ovr (fun _ => True) ((List.range s'.length).map (stF S 0 xs (getO s))) ((List.range s'.length).map (stF S 0 xs (getO s))) (getO ((List.range s'.length).map (stF S 0 xs (getO s)))) = stF S 0 xs (getO s) := by
          funext id; unfold ovr; rw [if_pos (.inl trivial), hss]
        have hσ : stF (also S i) 0 xs (getO s) = stF S 0 xs (getO s) := funext fun id => m.st2 (by
          rw [Bool.eq_false_iff]; intro hw; rw [isWr_iff, mem_news, ← h2] at hw; simp at hw; omega)
        have r1 := r.rep; have r2 := r.inv; have r3 := r.ext; have r4 := r.new
        rw [hov] at r1 r2 r3
        rw [hss] at r3
        refine ⟨g2, by rw [hσ, ← hv]; exact r1, by rw [hσ]; exact r2, by rw [hσ]; exact r3, fun id hid => ?_⟩
        rcases r4 id hid with h5 | h5
        · exact .inl h5
        · omega
      · rcases h with h | h | h
        rotate_left
        · exact hframed h
        · exact hframedR h
        obtain ⟨v0, s0, hcal, _, hv, h1, h2⟩ := h
        have hall : x.f.all = true := by rw [← h2]
        have hσ0 : stF S 0 xs (getO s) = getO x.s0 := funext fun id => m.st0 (.inl hall)
        have hσ1 : stF (also S i) 0 xs (getO s) = getO x.s1 := funext fun id => m.st1 (isWr_iff.2 (.inl hall))
        have hinv := d.inv
        have henv := d.env
        rw [hσ0] at hinv henv
        rw [ha] at hcal
        have hok := ok_call (N := False) hop (by rw [← hf]; exact hcl) hcal ⟨hinv, fun _ _ => rfl, fun hh => hh.elim⟩ (by rw [← hσ0]; exact hG) (fun id hid => by
          rcases d.new id hid with h6 | ⟨k, z, h6, h7, h8⟩
          · have := hfr id h6; omega
          · have hki : k ≠ i := fun e => by subst e; rw [m.out] at h7; cases h7
            have hz := m.fine z (List.mem_of_getElem? h6)
            have hwr : isWr z id = true := isWr_iff.2 (.inr (.inr (mem_news.2 (by rw [hz.n0, hz.n1]; exact h8))))
            have := m.agree k z h6 hki (conf_wr hwr (.inl hall))
            rw [h7] at this
            have hlt : k < i := by simpa using this.symm
            have := chain_lt m.chain m.fine h6 m.at_ hlt
            omega) henv
        rw [hσ0, hσ1]
        refine hok.mono fun y w2 hr => ?_
        obtain ⟨v, s2, g2, r⟩ := hr
        obtain ⟨rfl, rfl⟩ := r.K
        have hov : ovr (fun _ => True) x.s0 s2 (getO x.s0) = getO s2 := by
          funext id; unfold ovr; rw [if_pos (.inl trivial)]
        have r1 := r.rep; have r2 := r.inv; have r3 := r.ext; have r4 := r.new
        rw [hov] at r1 r2 r3
        rw [← h1]
        exact ⟨g2, by rw [← hv]; exact r1, r2, r3, fun id hid => by rw [← h1]; exact r4 id hid⟩
    · exact h.elim
  · have hnv : ∀ f args ts, x.o.op ≠ .call ⟨.value f, args, ts⟩ := fun f args ts e => hc ⟨f, args, ts, e⟩
    by_cases hnx : offDraw x.o.op = true
    · exact (notNext hnx h).elim
    have hnm : offDraw x.o.op = false := by simpa using hnx
    rw [notCall hnv hnm] at h
    have key : aop P x.o.op x.e0 x.s0 (fun v s' => v = x.v ∧ s' = x.s1) → x.f.t = footT x.e0 x.o.op → x.f.all = false → OpOk P x.o a1 w1 (Beh w1 g1 (stF S 0 xs (getO s)) (stF (also S i) 0 xs (getO s)) x) := by
      intro ha ht hall
      rw [aop_congr m.ev0] at ha
      rw [footT_congr m.ev0] at ht
      have hok := aop_local (T := fun id => id ∈ x.f.t) (N := x.s0.length < x.s1.length) ha hnv hnm (fun v s2 hk hl => by rw [hk.2] at hl; exact hl)
        ⟨d.inv, fun id hid => m.st0 (.inr (List.mem_append_left _ hid)), fun hN hid => by
          rcases d.new _ hid with h6 | ⟨k, z, h6, h7, h8⟩
          · have := hfr _ h6; omega
          · have hki : k ≠ i := fun e => by subst e; rw [m.out] at h7; cases h7
            by_cases hlt : k < i
            · have := chain_lt m.chain m.fine h6 m.at_ hlt; omega
            · have := chain_lt m.chain m.fine m.at_ h6 (by omega); omega⟩ hG
        (fun id hid => by rw [ht]; exact hid) d.env
      refine hok.mono fun y w2 hr => ?_
      obtain ⟨v, s2, g2, r⟩ := hr
      obtain ⟨hv, hs2⟩ := r.K
      have r1 := r.rep; have r2 := r.inv; have r3 := r.ext; have r4 := r.new
      rw [hs2] at r1 r2 r3 r4
      rw [hv] at r1
      have hov : ovr (fun id => id ∈ x.f.t) x.s0 x.s1 (stF S 0 xs (getO s)) = stF (also S i) 0 xs (getO s) := by
        funext id
        unfold ovr
        cases hw : isWr x id with
        | true =>
          rw [m.st1 hw]
          rw [isWr_iff, mem_news, hfine.n0, hfine.n1, hall] at hw
          rw [if_pos]
          rcases hw with hw | hw | hw
          · cases hw
          · exact .inl hw.2
          · exact .inr hw
        | false =>
          rw [m.st2 hw]
          split
          · rename_i hcond
            rw [hfine.same id hw]
            have hnot : ¬ isWr x id = true := by simp [hw]
            rw [isWr_iff, mem_news, hfine.n0, hfine.n1] at hnot
            rcases hcond with hcond | hcond
            · exact (m.st0 (.inr (List.mem_append_left _ hcond))).symm
            · exact absurd (.inr (.inr hcond)) hnot
          · rfl
      rw [hov] at r1 r2 r3
      exact ⟨g2, r1, r2, r3, r4⟩
    split at h
    · obtain ⟨v0, h0, hv, h1, h2⟩ := h
      refine key ?_ (by rw [← h2]) (by rw [← h2])
      rw [← hv, ← h1]; exact h0
    · obtain ⟨v0, s0, h0, _, hv, h1, h2⟩ := h
      refine key ?_ (by rw [← h2]) (by rw [← h2])
      rw [← hv, ← h1]; exact h0
end
end Go.Proofs.YtjhgmaephpadpaaGreat.AW

namespace Go.Proofs.YtjhgmaephpadpaaGreat.AW
set_option linter.unusedSimpArgs false
set_option linter.unusedVariables false
variable {P : Program}

theorem countP_dec {p q : Nat → Bool} {i : Nat} : ∀ {l : List Nat}, (∀ k, q k = true → p k = true) → i ∈ l → p i = true → q i = false → l.countP q < l.countP p
  | y :: r, hq, hi, hp, hn => by
    have mono : ∀ l : List Nat, l.countP q ≤ l.countP p := fun l => List.countP_mono_left (fun k _ hk => hq k hk)
    rw [List.countP_cons, List.countP_cons]
    by_cases hy : y = i
    · subst hy
      have := mono r
      simp [hp, hn]; omega
    · have hi' : i ∈ r := by
        rcases List.mem_cons.1 hi with h | h
        · exact absurd h.symm hy
        · exact h
      have := countP_dec hq hi' hp hn
      have hle : (if q y = true then 1 else 0) ≤ (if p y = true then 1 else 0 : Nat) := by
        cases hqy : q y with
        | false => simp
        | true => simp [hq y hqy]
      omega

def unl (m : Nat) (listed : Array Bool) : Nat := (List.range m).countP fun i => !listed.getD i false

theorem unl_set {m i : Nat} {listed : Array Bool} (hi : i < m) (hs : listed.size = m) (h : listed.getD i false = false) : unl m (listed.setIfInBounds i true) < unl m listed := by
  refine countP_dec (i := i) (fun k hk => ?_) (List.mem_range.2 hi) (by simp [h]) ?_
  · by_cases hki : k = i
    · subst hki; simp [h]
    · simp only [Array.getD_eq_getD_getElem?, Array.getElem?_setIfInBounds_ne (Ne.symm hki)] at hk ⊢
      exact hk
  · simp [Array.getD, hs, hi]

theorem noConf_symm {ops : Array Oper} {x y : Oper} {f g : Foot} (h : noConf ops x y f g = true) : noConf ops y x g f = true := by
  unfold noConf at *
  simp only [Bool.and_eq_true] at h ⊢
  obtain ⟨⟨⟨⟨h0, h1⟩, h2⟩, h3⟩, h4⟩ := h
  refine ⟨⟨⟨⟨?_, h2⟩, h1⟩, h4⟩, h3⟩
  obtain ⟨q1, q2, q3⟩ := Oper.apart_spec h0
  unfold Oper.apart
  rw [Bool.and_eq_true]
  constructor
  · cases hy : y.dst with
    | none => rfl
    | some d =>
      have h5 := q3 d hy
      have h6 : x.dst ≠ some d := fun e => q2 d e hy
      simp [h5, h6]
  · cases hx : x.dst with
    | none => rfl
    | some d => have h5 := q1 d hx; simp [h5]

theorem chkOne_get {ops : Array Oper} {n j : Nat} {y : Oper} {g : Foot} : ∀ {l : List (Oper × Foot)} {k : Nat}, chkOne ops n j y g k l = true → ∀ i q, l[i]? = some q → noConf ops q.1 y q.2 g = true ∨ prec ops n (k + i) j = true
  | [], _, _, i, q, h => by simp at h
  | (x, f) :: r, k, h, i, q, hq => by
    simp only [chkOne, Bool.and_eq_true, Bool.or_eq_true] at h
    cases i with
    | zero => simp at hq; subst hq; exact h.1
    | succ i =>
      have := chkOne_get h.2 i q (by simpa using hq)
      rwa [show k + 1 + i = k + (i + 1) by omega] at this

theorem chkAll_get {ops : Array Oper} {n : Nat} : ∀ {l : List (Oper × Foot)} {done : List (Oper × Foot)}, chkAll ops n done l = true → ∀ j q, l[j]? = some q →
    (∀ i r, (done ++ l)[i]? = some r → i < done.length + j → noConf ops r.1 q.1 r.2 q.2 = true ∨ prec ops n i (done.length + j) = true) ∧
    (∀ d, d ∈ q.1.after.toList → Region.binds .any d = true → d.on < done.length + j)
  | [], _, _, j, q, h => by simp at h
  | (y, g) :: l, done, h, j, q, hq => by
    simp only [chkAll, Bool.and_eq_true] at h
    obtain ⟨⟨h1, h2⟩, h3⟩ := h
    cases j with
    | zero =>
      simp at hq; subst hq
      refine ⟨fun i r hi hlt => ?_, fun d hd hb => ?_⟩
      · have hlt : i < done.length := by omega
        rw [List.getElem?_append_left hlt] at hi
        have := chkOne_get h1 i r hi
        rwa [Nat.zero_add] at this
      · have := List.all_eq_true.1 h2 d hd
        rw [hb] at this
        simp only [Bool.not_true, Bool.false_or] at this
        have : (d.on + 1).ble done.length = true := this
        exact Nat.le_of_ble_eq_true this
    | succ j =>
      have := chkAll_get h3 j q (by simpa using hq)
      simp only [List.append_assoc, List.cons_append, List.nil_append, List.length_append, List.length_cons, List.length_nil] at this
      rw [show done.length + (0 + 1) + j = done.length + (j + 1) by omega] at this
      exact this

/-- What is listed is listed with all that comes ahead of it. -/
def Down (ops : Array Oper) (S : Nat → Bool) : Prop := ∀ j o, ops[j]? = some o → S j = true → ∀ d, d ∈ o.after.toList → Region.binds .any d = true → S d.on = true

theorem prec_in {ops : Array Oper} {S : Nat → Bool} (hd : Down ops S) : ∀ {f i j : Nat}, prec ops f i j = true → (∀ o, ops[j]? = some o → ∀ d, d ∈ o.after.toList → Region.binds .any d = true → S d.on = true) → S i = true
  | 0, _, _, h, _ => by simp [prec] at h
  | f + 1, i, j, h, hj => by
    unfold prec at h
    split at h
    · rename_i o ho
      obtain ⟨d, hd1, hd2⟩ := List.any_eq_true.1 h
      simp only [Bool.and_eq_true, Bool.or_eq_true] at hd2
      have hS := hj o ho d hd1 hd2.1
      rcases hd2.2 with h3 | h3
      · rw [← Nat.eq_of_beq_eq_true h3]; exact hS
      · exact prec_in hd h3 fun o' ho' d' hd' hb' => hd d.on o' ho' hS d' hd' hb'
    · cases h

section
variable {n : Nat} {ops : Array Oper} {w : World} {g : G} {e e' : Env} {s s' : Store} {xs : List Step} {Q : Exit → Act → World → Prop}

theorem drawn_run (hops : xs.map (·.o) = ops.toList) (hc : Chain n xs e s e' s') (hdo : ∀ x, x ∈ xs → Does P n ops x) (hchk : chkAll ops ops.size [] (xs.map fun x => (x.o, x.f)) = true) (hG0 : Gk P w g (getO s)) (hfr : ∀ id, g.C id → id < s.length)
    (hq : ∀ w' g' a', Inv w' g' (getO s') → (∀ id, g'.C id → g.C id ∨ (s.length ≤ id ∧ id < s'.length)) → EnvR w' g' (getO s') e' a'.tmps → a'.tmps.size = n → a'.defers = [] → Ext w g (getO s) w' g' (getO s') → Q .normal a' w') :
    ∀ (fuel : Nat) (listed : Array Bool) (a1 : Act) (w1 : World) (g1 : G), listed.size = ops.size → Down ops (fun k => listed.getD k false) → unl ops.size listed ≤ fuel → D w g s e xs n (fun k => listed.getD k false) w1 g1 a1 → wpAny P .any ops Q fuel listed a1 w1 := by
  have hlen : xs.length = ops.size := by
    have := congrArg List.length hops
    simpa using this
  have hget : ∀ {k : Nat} {x : Step}, xs[k]? = some x → ops[k]? = some x.o := fun {k x} h => by
    rw [← Array.getElem?_toList, ← hops, List.getElem?_map, h]; rfl
  have hfine : ∀ x, x ∈ xs → Fine x := fun x hx => (hdo x hx).fine
  -- all listed: the end
  have last : ∀ (listed : Array Bool) (a1 : Act) (w1 : World) (g1 : G), (∀ k, k < ops.size → listed.getD k false = true) → D w g s e xs n (fun k => listed.getD k false) w1 g1 a1 → Q .normal a1 w1 := by
    intro listed a1 w1 g1 hall d
    have h1 := upto_state (k := 0) hc hfine (Nat.le_refl _)
    rw [stateAt_end hc] at h1
    have hE : envF (fun k => listed.getD k false) 0 xs e = e' := by
      refine Eq.trans ?_ h1.1
      funext t
      refine envF_eq (fun k y hk _ => ?_) rfl
      have hlt : k < xs.length := (List.getElem?_eq_some_iff.1 hk).1
      rw [Nat.zero_add, hall k (by omega)]; simp [hlt]
    have hσ : stF (fun k => listed.getD k false) 0 xs (getO s) = getO s' := by
      refine Eq.trans ?_ h1.2
      funext t
      refine stF_eq (fun k y hk _ => ?_) rfl
      have hlt : k < xs.length := (List.getElem?_eq_some_iff.1 hk).1
      rw [Nat.zero_add, hall k (by omega)]; simp [hlt]
    have d1 := d.inv; have d2 := d.env; have d3 := d.ext
    rw [hσ] at d1 d2 d3
    rw [hE] at d2
    refine hq w1 g1 a1 d1 (fun id hid => ?_) d2 d.size d.defers d3
    rcases d.new id hid with h | ⟨k, x, h, _, h8⟩
    · exact .inl h
    · have := chain_mono hc hfine h; exact .inr ⟨by omega, by omega⟩
  -- nothing is ready: all is listed
  have stuck : ∀ (listed : Array Bool), listed.size = ops.size → Region.ready .any ops listed = [] → ∀ k, k < ops.size → listed.getD k false = true := by
    intro listed hsz hr k
    induction k using Nat.strongRecOn with
    | _ k ih =>
      intro hk
      cases hl : listed.getD k false with
      | true => rfl
      | false =>
        have hk' : k < xs.length := by omega
        have hx : xs[k]? = some xs[k] := List.getElem?_eq_getElem hk'
        have : k ∈ Region.ready .any ops listed := by
          rw [mem_ready]
          refine ⟨?_, _, hget hx, fun d hd hb => ?_⟩
          · simp [Array.getD, hsz, hk] at hl ⊢; exact hl
          · have := (chkAll_get hchk k (xs[k].o, xs[k].f) (by rw [List.getElem?_map, hx]; rfl)).2 d (by simpa using hd) hb
            simp at this
            exact ih d.on this (by omega)
        rw [hr] at this; cases this
  intro fuel
  induction fuel with
  | zero =>
    intro listed a1 w1 g1 hsz hdown hun d
    have hall : ∀ k, k < ops.size → listed.getD k false = true := by
      intro k hk
      have h0 : unl ops.size listed = 0 := by omega
      unfold unl at h0
      rw [List.countP_eq_zero] at h0
      have := h0 k (List.mem_range.2 hk)
      simpa using this
    refine ⟨?_, last listed a1 w1 g1 hall d⟩
    rw [List.eq_nil_iff_forall_not_mem]
    intro k hk
    rw [mem_ready] at hk
    obtain ⟨h1, o, h2, _⟩ := hk
    have hlt : k < ops.size := (Array.getElem?_eq_some_iff.1 h2).1
    have := hall k hlt
    simp [Array.getD, hsz, hlt] at this h1
    rw [this] at h1; cases h1
  | succ fuel ih =>
    intro listed a1 w1 g1 hsz hdown hun d
    refine ⟨fun hr => last listed a1 w1 g1 (stuck listed hsz hr) d, fun i hi => ?_⟩
    rw [mem_ready] at hi
    obtain ⟨h1, o, h2, h3⟩ := hi
    have hlt : i < ops.size := (Array.getElem?_eq_some_iff.1 h2).1
    have hx : xs[i]? = some xs[i] := List.getElem?_eq_getElem (by omega)
    generalize xs[i] = x at hx
    have ho : o = x.o := by have := hget hx; rw [h2] at this; exact Option.some.inj this
    subst ho
    have hout : listed.getD i false = false := by simp [Array.getD, hsz, hlt] at h1 ⊢; exact h1
    have hpre : ∀ o', ops[i]? = some o' → ∀ d, d ∈ o'.after.toList → Region.binds .any d = true → listed.getD d.on false = true := fun o' ho' dd hd hb => by
      rw [h2] at ho'; cases ho'; exact h3 dd (by simpa using hd) hb
    have m : Mid ops n xs e s e' s' (fun k => listed.getD k false) i x := {
      chain := hc
      fine := hfine
      at_ := hx
      out := hout
      agree := fun k y hk hki hcf => by
        by_cases hlt : k < i
        · have := (chkAll_get hchk i (x.o, x.f) (by rw [List.getElem?_map, hx]; rfl)).1 k (y.o, y.f) (by simp [hk]) (by simpa using hlt)
          rcases this with h | h
          · rw [show noConf ops y.o x.o y.f x.f = true from h] at hcf; cases hcf
          · have := prec_in (S := fun k => listed.getD k false) hdown h (by simpa using hpre)
            simpa [hlt] using this
        · have hik : i < k := by omega
          have hcf' : noConf ops x.o y.o x.f y.f = false := by
            cases hb : noConf ops x.o y.o x.f y.f with
            | false => rfl
            | true => rw [noConf_symm hb] at hcf; cases hcf
          have := (chkAll_get hchk k (y.o, y.f) (by rw [List.getElem?_map, hk]; rfl)).1 i (x.o, x.f) (by simp [hx]) (by simpa using hik)
          rcases this with h | h
          · rw [show noConf ops x.o y.o x.f y.f = true from h] at hcf'; cases hcf'
          · have hn : ¬ k < i := hlt
            simp only [hn, decide_false]
            cases hS : listed.getD k false with
            | false => rfl
            | true =>
              have := prec_in (S := fun k => listed.getD k false) hdown h (fun o' ho' dd hd hb => hdown k o' (by simpa using ho') hS dd hd hb)
              have this : listed.getD i false = true := this
              rw [hout] at this; cases this }
    have hS' : (fun k => (listed.setIfInBounds i true).getD k false) = also (fun k => listed.getD k false) i := by
      funext k
      unfold also
      by_cases hki : k = i
      · subst hki; simp [Array.getD, hsz, hlt]
      · simp only [Array.getD_eq_getD_getElem?, Array.getElem?_setIfInBounds_ne (Ne.symm hki)]
        simp [hki]
    have next : ∀ y w2, Beh w1 g1 (stF (fun k => listed.getD k false) 0 xs (getO s)) (stF (also (fun k => listed.getD k false) i) 0 xs (getO s)) x y w2 → wpAny P .any ops Q fuel (listed.setIfInBounds i true) (a1.put x.o.dst y) w2 := by
      intro y w2 hb
      obtain ⟨g2, d2⟩ := m.fin d hb
      rw [← hS'] at d2
      refine ih _ _ _ g2 (by simpa using hsz) ?_ ?_ d2
      · intro j o' hj hS dd hd hbb
        show (listed.setIfInBounds i true).getD dd.on false = true
        have hS : (listed.setIfInBounds i true).getD j false = true := hS
        have e1 := congrFun hS' j
        have e2 := congrFun hS' dd.on
        simp only [also] at e1 e2
        rw [e1] at hS
        rw [e2]
        simp only [Bool.or_eq_true, decide_eq_true_eq] at hS ⊢
        rcases hS with hS | hS
        · exact .inl (hdown j o' hj hS dd hd hbb)
        · subst hS; exact .inl (hpre o' hj dd hd hbb)
      · have := unl_set hlt hsz hout
        omega
    unfold wpOp
    rw [h2]
    simp only []
    have hD := hdo x m.mem
    have hrun : StepSem P x → x.o.wp P a1 w1 (wpAny P .any ops Q fuel (listed.setIfInBounds i true)) Q := fun hs => (m.run d hG0 hfr hs).wp fun y w2 hb => next y w2 hb
    unfold Does at hD
    split at hD
    · rename_i hg
      rw [if_pos (by simp [Region.wanted, hg])]
      exact .inl (hrun hD)
    · rename_i j want hg
      obtain ⟨t, b, ht, htn, hev, hcase⟩ := hD
      have hlook : t ∈ x.o.looksAt ops := by
        unfold Oper.looksAt
        refine List.mem_append_right _ ?_
        rw [hg]; simp [ht]
      have hv := d.env t
      rw [m.env0 hlook, hev] at hv
      have hv := hv.inv_bool
      have hy : yielded ops a1.tmps j = some b := by
        unfold yielded
        rw [ht]
        have : a1.tmps[t]? = some (.bool b) := by
          rw [Array.getD_eq_getD_getElem?] at hv
          have hs : t < a1.tmps.size := by rw [d.size]; exact htn
          rw [Array.getElem?_eq_getElem hs] at hv ⊢
          simpa using hv
        simp [this]
      rcases hcase with ⟨hb, hs⟩ | ⟨hb, hv0, hs1, hf⟩
      · have hbw : b = want := by simpa using hb
        rw [if_pos (by simp [Region.wanted, hg, hy, hbw])]
        exact .inl (hrun hs)
      · have hbw : b ≠ want := by simpa using hb
        rw [if_neg (by simp [Region.wanted, hg, hy, hbw])]
        refine next undef w1 ⟨g1, ?_, ?_, ?_, fun id h => .inl h⟩
        · rw [hv0]; exact .undef _
        all_goals
          have hσ : stF (also (fun k => listed.getD k false) i) 0 xs (getO s) = stF (fun k => listed.getD k false) 0 xs (getO s) := funext fun id => m.st2 (by
            rw [Bool.eq_false_iff]; intro hw; rw [isWr_iff, mem_news, hf] at hw; simp at hw; omega)
          rw [hσ]
        · exact d.inv
        · exact .refl _ _ _

theorem drawn_sound {K : Env → Store → Prop} {a : Act} {id : Nat} (h : adops P n ops ops.toList [] K e s) (hm : P.follows .mixedOrders = true) (hinv : Inv w g (getO s)) (hG0 : Gk P w g (getO s)) (hfr : ∀ id, g.C id → id < s.length) (henv : EnvR w g (getO s) e a.tmps) (hsz : a.tmps.size = n) (hdf : a.defers = [])
    (hq : ∀ w' g' e' s' a', K e' s' → Inv w' g' (getO s') → (∀ id, g'.C id → g.C id ∨ (s.length ≤ id ∧ id < s'.length)) → EnvR w' g' (getO s') e' a'.tmps → a'.tmps.size = n → a'.defers = [] → Ext w g (getO s) w' g' (getO s') → s.length ≤ s'.length → Q .normal a' w') :
    (Code.region id ops true).wp P Q a w := by
  obtain ⟨xs, e', s', k1, k2, k3, k4, k5⟩ := adops_trace h
  refine wp_region_any hm ?_
  have hx : Ext w g (getO s) { w with drawn := w.drawn + 1 } g (getO s) :=
    ⟨Nat.le_refl _, rfl, rfl, rfl, fun _ _ _ => rfl, fun _ _ => rfl, rfl, fun _ h => h, fun _ _ h => h, fun _ _ o h => ⟨o, h, .refl o⟩, fun _ _ _ => ⟨rfl, .rfl⟩, fun _ _ _ _ _ _ _ _ _ _ => ⟨rfl, .rfl⟩, Nat.le_succ _⟩
  have hS0 : ∀ k, (Array.replicate ops.size false).getD k false = false := fun k => by
    by_cases hk : k < ops.size <;> simp [Array.getD, hk]
  have hE : envF (fun k => (Array.replicate ops.size false).getD k false) 0 xs e = e := envF_stop fun i _ => hS0 i
  have hσ : stF (fun k => (Array.replicate ops.size false).getD k false) 0 xs (getO s) = getO s := stF_stop fun i _ => hS0 i
  refine drawn_run (w := w) (g := g) k1 k2 k3 (by simpa using k4) hG0 hfr (fun w' g' a' q1 q2 q3 q4 q5 q6 => hq w' g' e' s' a' k5 q1 q2 q3 q4 q5 q6 (chain_mono.chain_len k2 fun x hx => (k3 x hx).fine))
    ops.size _ a _ g (by simp) (fun j o hj hS => by simp only [hS0] at hS; cases hS) ?_ ?_
  · unfold unl
    exact Nat.le_trans List.countP_le_length (by simp)
  · refine ⟨?_, ?_, hsz, hdf, ?_, fun id h => .inl h⟩
    · rw [hσ]
      exact ⟨hinv.made, hinv.lies, hinv.xlt, hinv.inj, fun id o h hr => hx.repO rfl (hinv.rep id o h hr), hinv.void⟩
    · rw [hσ, hE]; exact fun t => hx.repA (henv t)
    · rw [hσ]; exact hx
end
end Go.Proofs.YtjhgmaephpadpaaGreat.AW

namespace Go.Proofs.YtjhgmaephpadpaaGreat.AW
set_option linter.unusedSimpArgs false
set_option linter.unusedVariables false
variable {P : Program}

theorem aop_ok {o : Oper} {e : Env} {s : Store} {K : AV → Store → Prop} {w : World} {g : G} {a : Act} (h : aop P o.op e s K) (c : Cx w g (getO s) s (fun _ => True) True) (hG : Gk P w g (getO s)) (hfresh : ∀ id, g.C id → id < s.length) (he : EnvR w g (getO s) e a.tmps) :
    OpOk P o a w (Rs w g (getO s) s (fun _ => True) K) := by
  generalize hop : o.op = op at h
  cases op
  case move => exact ok_move (.inl hop) (by simpa [aop] using h) c he
  case assign => exact ok_move (.inr hop) (by simpa [aop] using h) c he
  case pick => exact ok_pick hop h c he
  case alloc => exact ok_alloc hop h (fun _ _ _ _ => trivial) c
  case box => exact ok_box hop h (fun _ _ _ _ => trivial) c he
  case build => exact ok_build hop h c he
  case buildSlice => exact ok_buildSlice hop h (fun _ _ _ _ => trivial) c (fun _ _ _ _ => trivial) he
  case load => exact ok_load hop h c (fun _ _ => trivial) he
  case store => exact ok_store hop h c (fun _ _ => trivial) (fun _ _ _ _ _ _ _ _ _ _ => trivial) he
  case nilCheck => exact ok_nilCheck hop h c he
  case binOp => exact ok_binOp hop h c (fun _ _ _ _ _ _ => ⟨trivial, trivial⟩) he
  case unOp => exact ok_unOp hop h c he
  case convert => exact ok_convert hop h c (fun _ _ => trivial) he
  case makeInterface => exact ok_makeInterface hop h c (fun _ _ => trivial) he
  case makeFunc => exact ok_makeFunc hop h c he
  case makeSlice => exact ok_makeSlice hop h (fun _ _ _ _ => trivial) c he
  case slice => exact ok_slice hop h c (fun _ _ => trivial) he
  case fieldAddr => exact ok_fieldAddr hop h c he
  case field => exact ok_field hop h c he
  case indexAddr => exact ok_indexAddr hop h c hG (fun _ _ => trivial) he
  case index => exact ok_index hop h c he
  case range => exact ok_range hop h (fun _ _ _ _ => trivial) c (fun _ _ => trivial) he
  case makeMap => exact ok_makeMap hop h (fun _ _ _ _ => trivial) c
  case lookup => exact ok_lookup hop h c (fun _ _ => trivial) he
  case mapUpdate => exact ok_mapUpdate hop h c (fun _ _ => trivial) he
  case next => exact ok_next hop h c (fun _ _ => trivial) (fun _ _ _ _ _ _ _ => trivial) he
  case entry x =>
    simp only [aop] at h
    split at h
    · rename_i id hev
      split at h
      · rename_i mid bs l b cl hg
        split at h
        · rename_i kk es clock hgm
          exact entryM hop hev hg hgm h c trivial trivial he
        · exact h.elim
      · exact h.elim
    · exact h.elim
  case typeAssert => exact ok_typeAssert hop h c he
  case extract => exact ok_extract hop h c he
  case call cl =>
    obtain ⟨callee, args, ts⟩ := cl
    simp only [aop, callA] at h
    cases callee with
    | builtin b => exact ok_builtin hop h (fun _ _ _ _ => trivial) c (fun _ _ _ _ => trivial) he
    | value f =>
      simp only [] at h
      split at h
      · rename_i k caps hev; exact ok_call hop hev h c hG hfresh he
      · exact h.elim
    | invoke r n => exact h.elim
  all_goals (simp only [aop] at h)

/-! ### States -/
structure Sts (P : Program) (n : Nat) (w : World) (g : G) (e : Env) (s : Store) (a : Act) : Prop where
  inv : Inv w g (getO s)
  glob : Gk P w g (getO s)
  fresh : ∀ id, g.C id → id < s.length
  env : EnvR w g (getO s) e a.tmps
  size : a.tmps.size = n
  defers : a.defers = []

structure Fr (w : World) (g : G) (s : Store) (w' : World) (g' : G) (s' : Store) : Prop where
  ext : Ext w g (getO s) w' g' (getO s')
  len : s.length ≤ s'.length
  new : ∀ id, g'.C id → g.C id ∨ (s.length ≤ id ∧ id < s'.length)

theorem Fr.refl {n w g e s a} (_h : Sts P n w g e s a) : Fr w g s w g s := ⟨.refl _ _ _, Nat.le_refl _, fun _ h => .inl h⟩
theorem Fr.trans {w g s w' g' s' w'' g'' s''} (h : Fr w g s w' g' s') (k : Fr w' g' s' w'' g'' s'') : Fr w g s w'' g'' s'' :=
  ⟨h.ext.trans k.ext, Nat.le_trans h.len k.len, fun id hid => by
    have := h.len; have := k.len
    rcases k.new id hid with h1 | ⟨h1, h2⟩
    · rcases h.new id h1 with h3 | ⟨h3, h4⟩
      · exact .inl h3
      · exact .inr ⟨h3, by omega⟩
    · exact .inr ⟨by omega, h2⟩⟩

theorem Sts.cx {n w g e s a} (h : Sts P n w g e s a) : Cx w g (getO s) s (fun _ => True) True := ⟨h.inv, fun _ _ => rfl, fun _ hc => Nat.lt_irrefl _ (h.fresh _ hc)⟩

theorem Sts.put {n w g e s a} (h : Sts P n w g e s a) {K : AV → Store → Prop} {x : Value} {w' : World} {v : AV} {s' : Store} {g' : G} (r : Res w g (getO s) s (fun _ => True) K x w' v s' g') {dst : Option Nat} {K' : Env → Prop} (hp : putK n e dst v K') :
    ∃ e', K' e' ∧ Sts P n w' g' e' s' (a.put dst x) ∧ Fr w g s w' g' s' := by
  have hov : ovr (fun _ => True) s s' (getO s) = getO s' := by funext i; simp [ovr]
  have hr := r.rep; have hi := r.inv; have hx := r.ext
  rw [hov] at hr hi hx
  have hold : EnvR w' g' (getO s') e a.tmps := fun t => hx.repA (h.env t)
  have hfresh : ∀ id, g'.C id → id < s'.length := fun id hid => by
    have := r.len
    rcases r.new id hid with h1 | h1
    · have := h.fresh id h1; omega
    · exact h1.2
  have hfr : Fr w g s w' g' s' := ⟨hx, r.len, r.new⟩
  unfold putK at hp
  split at hp
  · exact ⟨e, hp, ⟨hi, h.glob.ext hx, hfresh, hold, h.size, h.defers⟩, hfr⟩
  · rename_i t
    split at hp
    · rename_i hlt
      have hlt : t < n := by
        have : (t + 1).ble n = true := hlt
        exact Nat.le_of_ble_eq_true this
      refine ⟨_, hp, ⟨hi, h.glob.ext hx, hfresh, fun u => ?_, ?_, h.defers⟩, hfr⟩
      · unfold upd
        simp only [Act.put]
        split
        · rename_i hb
          have := Nat.eq_of_beq_eq_true hb
          subst this
          simp [Array.getD, h.size, hlt]
          exact hr
        · rename_i hb
          have hne : t ≠ u := fun e => by subst e; simp at hb
          have := hold u
          simp only [Array.getD_eq_getD_getElem?] at this ⊢
          rw [Array.getElem?_setIfInBounds_ne hne]
          exact this
      · simp [Act.put, h.size]
    · exact hp.elim

theorem putK_undef {n w g e s a} (h : Sts P n w g e s a) {dst : Option Nat} {K' : Env → Prop} (hp : putK n e dst (.tup []) K') : ∃ e', K' e' ∧ Sts P n w g e' s (a.put dst undef) := by
  have hov : ovr (fun _ => True) s s (getO s) = getO s := by funext i; simp [ovr]
  have r : Res w g (getO s) s (fun _ => True) (fun _ _ => True) undef w (.tup []) s g := ⟨trivial, Nat.le_refl _, fun _ _ _ => rfl, .tup [] [] .nil, by rw [hov]; exact h.inv, by rw [hov]; exact .refl _ _ _, fun _ h => .inl h⟩
  obtain ⟨e', h1, h2, _⟩ := h.put r hp
  exact ⟨e', h1, h2⟩

theorem aops_sound {n : Nat} {ops : Array Oper} {Q : Exit → Act → World → Prop} : ∀ {l : List Oper} {K : Env → Store → Prop} {w : World} {g : G} {e : Env} {s : Store} {a : Act}, aops P n ops l K e s → Sts P n w g e s a →
    (∀ w' g' e' s' a', K e' s' → Sts P n w' g' e' s' a' → Fr w g s w' g' s' → Q .normal a' w') → wpList P ops Q l a w := by
  intro l
  induction l with
  | nil => intro K w g e s a h hst hq; exact hq w g e s a h hst (.refl hst)
  | cons o rest ih =>
    intro K w g e s a h hst hq
    have run : ∀ {K2 : AV → Store → Prop}, (∀ v s', K2 v s' → putK n e o.dst v fun e' => aops P n ops rest K e' s') → aop P o.op e s K2 → o.wp P a w (wpList P ops Q rest) Q := by
      intro K2 hK hop
      refine (aop_ok hop hst.cx hst.glob hst.fresh hst.env).wp fun x w' hr => ?_
      obtain ⟨v, s', g', r⟩ := hr
      obtain ⟨e', k1, k2, k3⟩ := hst.put r (hK v s' r.K)
      exact ih k1 k2 fun w'' g'' e'' s'' a'' q1 q2 q3 => hq _ _ _ _ _ q1 q2 (k3.trans q3)
    rw [aops_cons] at h
    unfold wpList
    split at h
    · rename_i hg
      rw [if_pos (by simp [Region.wanted, hg])]
      exact .inl (run (fun _ _ h => h) h)
    · rename_i j want hg
      split at h
      · rename_i t ht
        split at h
        · rename_i b hlt hev
          have hlt : t < n := by
            have : (t + 1).ble n = true := hlt
            exact Nat.le_of_ble_eq_true this
          have hv := hst.env t
          rw [hev] at hv
          have hv := hv.inv_bool
          have hy : yielded ops a.tmps j = some b := by
            unfold yielded
            rw [ht]
            have : a.tmps[t]? = some (.bool b) := by
              rw [Array.getD_eq_getD_getElem?] at hv
              have hs : t < a.tmps.size := by rw [hst.size]; exact hlt
              rw [Array.getElem?_eq_getElem hs] at hv ⊢
              simpa using hv
            simp [this]
          unfold Br at h
          by_cases hb : b = want
          · have h1 := h.1 (by simp [hb])
            rw [if_pos (by simp [Region.wanted, hg, hy, hb])]
            exact .inl (run (fun _ _ h => h) h1)
          · have h2 := h.2 (by simp [hb])
            rw [if_neg (by simp [Region.wanted, hg, hy, hb])]
            obtain ⟨e', k1, k2⟩ := putK_undef hst h2
            exact ih k1 k2 hq
        · rename_i hlt hev
          have hlt : t < n := by
            have : (t + 1).ble n = true := hlt
            exact Nat.le_of_ble_eq_true this
          have hv := hst.env t
          rw [hev] at hv
          have hv2 : a.tmps.getD t undef = .tuple #[] := by
            obtain ⟨ys, hy, hr⟩ := hv.inv_tup
            cases hr
            exact hy
          have hy : yielded ops a.tmps j = none := by
            unfold yielded
            rw [ht]
            have : a.tmps[t]? = some (.tuple #[]) := by
              rw [Array.getD_eq_getD_getElem?] at hv2
              have hs : t < a.tmps.size := by rw [hst.size]; exact hlt
              rw [Array.getElem?_eq_getElem hs] at hv2 ⊢
              simpa using hv2
            simp [this]
          rw [if_neg (by simp [Region.wanted, hg, hy])]
          obtain ⟨e', k1, k2⟩ := putK_undef hst h
          exact ih k1 k2 hq
        · exact h.elim
      · exact h.elim

/-! ### What is forgotten at a loop's head -/
def G.upto (g : G) (N : Nat) : G := { g with C := fun id => g.C id ∧ id < N }
def St.upto (σ : St) (N : Nat) : St := fun id => if id < N then σ id else none

theorem upto_lv {g : G} {σ : St} {N b : Nat} (h : Lv (g.upto N) (σ.upto N) b) : Lv g σ b := by
  rcases h with h | ⟨id, h1, hr, h2⟩
  · exact .inl h
  · refine .inr ⟨id, ?_, hr, h2⟩
    unfold St.upto at h1
    split at h1
    · exact h1
    · exact absurd rfl h1

theorem upto_repP {w : World} {g : G} {σ : St} {N : Nat} {v : PV} {x : Value} (h : RepP w (Lv g σ) v x) : RepP w (Lv (g.upto N) (σ.upto N)) v x := h.keep (fun _ _ _ => rfl) (fun _ _ h => upto_lv h)

mutual
theorem upto_repA {w : World} {g : G} {σ : St} {N : Nat} : ∀ {v : AV} {x : Value}, RepA w g σ v x → v.under N = true → RepA w (g.upto N) (σ.upto N) v x
  | _, _, .p v x hr, _ => .p v x (upto_repP hr)
  | _, _, .ref id off hc hb, hu => .ref id off ⟨hc, blt_lt hu⟩ (by simpa [St.upto, blt_lt hu] using hb)
  | _, _, .osl id tot off len x hc hx ht hr hot, hu => .osl id tot off len x ⟨hc, blt_lt hu⟩ hx (by simpa [St.upto, blt_lt hu] using ht) (by simpa [St.upto, G.upto, OslV, blt_lt hu] using hr) hot
  | _, _, .oslc id n hc hb, hu => .oslc id n ⟨hc, blt_lt hu⟩ (by simpa [St.upto, blt_lt hu] using hb)
  | _, _, .eptr id tot i sub a hc ht hr, hu => .eptr id tot i sub a ⟨hc, blt_lt hu⟩ (by simpa [St.upto, blt_lt hu] using ht) (by simpa [St.upto, G.upto, blt_lt hu] using hr)
  | _, _, .map id hc hb, hu => .map id ⟨hc, blt_lt hu⟩ (by simpa [St.upto, blt_lt hu] using hb)
  | _, _, .it id hc hb, hu => .it id ⟨hc, blt_lt hu⟩ (by simpa [St.upto, blt_lt hu] using hb)
  | _, _, .agg cs a hr, hu => .agg cs a (upto_repAs hr hu)
  | _, _, .tup cs a hr, hu => .tup cs a (upto_repAs hr hu)
  | _, _, .clos f cs a hr, hu => .clos f cs a (upto_repAs hr hu)
  | _, _, .ifc t v x hr, hu => .ifc t v x (upto_repA hr hu)
  | _, _, .undef x, _ => .undef x
theorem upto_repAs {w : World} {g : G} {σ : St} {N : Nat} : ∀ {vs : List AV} {xs : List Value}, RepAs w g σ vs xs → unders N vs = true → RepAs w (g.upto N) (σ.upto N) vs xs
  | _, _, .nil, _ => .nil
  | _, _, .cons v x vs xs hr hs, hu => by
    simp only [unders, Bool.and_eq_true] at hu
    exact .cons v x vs xs (upto_repA hr hu.1) (upto_repAs hs hu.2)
end

theorem getO_take (s : Store) (N : Nat) : getO (s.take N) = St.upto (getO s) N := by
  funext id
  unfold getO St.upto
  by_cases h : id < N
  · rw [if_pos h, List.getElem?_take_of_lt h]
  · rw [if_neg h, List.getElem?_take, if_neg h]

theorem mk_get (L : List Nat) (e : Env) (u : Nat) : mk (L.map fun t => (t, e t)) u = e u ∧ u ∈ L ∨ mk (L.map fun t => (t, e t)) u = .undef := by
  induction L with
  | nil => exact .inr rfl
  | cons t r ih =>
    simp only [List.map_cons, mk, upd]
    split
    · rename_i hb
      have := Nat.eq_of_beq_eq_true hb
      subst this
      exact .inl ⟨rfl, by simp⟩
    · rcases ih with ⟨h1, h2⟩ | h1
      · exact .inl ⟨h1, by simp [h2]⟩
      · exact .inr h1

theorem unders_mem {N : Nat} : ∀ {vs : List AV} {v : AV}, unders N vs = true → v ∈ vs → v.under N = true
  | x :: r, v, h, hv => by
    simp only [unders, Bool.and_eq_true] at h
    rcases List.mem_cons.1 hv with rfl | hv
    · exact h.1
    · exact unders_mem h.2 hv

theorem mk_mem (L : List Nat) (e : Env) {u : Nat} (h : u ∈ L) : mk (L.map fun t => (t, e t)) u = e u := by
  induction L with
  | nil => cases h
  | cons t r ih =>
    simp only [List.map_cons, mk, upd]
    split
    · rename_i hb
      rw [Nat.eq_of_beq_eq_true hb]
    · rename_i hb
      rcases List.mem_cons.1 h with rfl | h
      · simp at hb
      · exact ih h
theorem mk_get2 : ∀ (l : List (Nat × AV)) (u : Nat), (∃ v, (u, v) ∈ l ∧ mk l u = v) ∨ mk l u = .undef
  | [], _ => .inr rfl
  | (t, v) :: r, u => by
    simp only [mk, upd]
    split
    · rename_i hb
      have := Nat.eq_of_beq_eq_true hb
      subst this
      exact .inl ⟨v, by simp, rfl⟩
    · rcases mk_get2 r u with ⟨w, h1, h2⟩ | h
      · exact .inl ⟨w, by simp [h1], h2⟩
      · exact .inr h
theorem WkE.mem {N0 N : Nat} {e : Env} : ∀ {l : List (Nat × AV)} {q : Nat × AV}, WkE N0 N e l → q ∈ l → WkV N0 N (e q.1) q.2
  | (t, v) :: r, q, h, hq => by
    rcases List.mem_cons.1 hq with rfl | hq
    · exact h.1
    · exact WkE.mem h.2 hq

/-- The state cut short. -/
theorem Sts.cut {n w g e s a} (h : Sts P n w g e s a) {L : List Nat} {N : Nat} (hu : unders N (L.map e) = true) (ho : (s.take N).all (objUnder N) = true) (hN : N ≤ s.length) : Sts P n w (g.upto N) (Go.Proofs.YtjhgmaephpadpaaGreat.AW.mk (L.map fun t => (t, e t))) (s.take N) a := by
  have hsub : ∀ id o, St.upto (getO s) N id = some o → getO s id = some o ∧ id < N := fun id o hq => by
    unfold St.upto at hq
    split at hq
    · exact ⟨hq, by assumption⟩
    · cases hq
  have hne : ∀ id, St.upto (getO s) N id ≠ none → getO s id ≠ none := fun id hq => by
    obtain ⟨o, ho⟩ := Option.ne_none_iff_exists'.1 hq
    rw [(hsub id o ho).1]; simp
  refine ⟨?_, ?_, fun id hid => by rw [List.length_take]; have := h.fresh id hid.1; have := hid.2; omega, fun u => ?_, h.size, h.defers⟩
  · rw [getO_take]
    refine ⟨fun id o hq => ⟨h.inv.made id o (hsub id o hq).1, (hsub id o hq).2⟩, fun id o hq hr => h.inv.lies id o (hsub id o hq).1 hr, h.inv.xlt, fun i j hi hj => h.inv.inj i j (hne i hi) (hne j hj), fun id o hq hR => ?_, fun id o hq hr => h.inv.void id o (hsub id o hq).1 hr⟩
    have hr := h.inv.rep id o (hsub id o hq).1 hR
    show RepO w _ _ (g.ι id) o
    cases hr with
    | cells cs ty xs hc hb ht =>
      refine .cells cs ty xs (upto_repAs hc ?_) hb ht
      have hlt := (hsub id _ hq).2
      have hs : (s.take N)[id]? = some (some (.cells cs ty)) := by
        have := (hsub id _ hq).1
        unfold getO at this
        rw [List.getElem?_take_of_lt hlt]
        split at this
        · rename_i o' ho'; rw [ho', this]
        · cases this
      have := List.all_eq_true.1 ho _ (List.mem_of_getElem? hs)
      simpa [objUnder] using this
    | buf sz es xs hz hs hn hc hb ty ht => exact .buf sz es xs hz hs hn (hc.keep (fun _ _ _ => rfl) (fun _ _ h => upto_lv h)) hb ty ht
    | iterS s' pos x hx hp hb => exact .iterS s' pos x hx hp hb
    | map kk es clock xs he hw hk hc hn => exact .map kk es clock xs (he.keep (fun _ _ _ => rfl) (fun _ _ h => upto_lv h)) hw hk hc hn
    | iterM mid bs left since last seen hC hm hl hs hw =>
      have hlt := (hsub id _ hq).2
      have hs2 : (s.take N)[id]? = some (some (.iterM mid bs left)) := by
        have := (hsub id _ hq).1
        unfold getO at this
        rw [List.getElem?_take_of_lt hlt]
        split at this
        · rename_i o' ho'; rw [ho', this]
        · cases this
      have := List.all_eq_true.1 ho _ (List.mem_of_getElem? hs2)
      have hmid : mid < N := blt_lt (by simpa [objUnder] using this)
      exact .iterM mid bs left since last seen ⟨hC, hmid⟩ (by simpa [St.upto, hmid] using hm) hl hs hw
  · rw [getO_take]
    intro i cs hi
    obtain ⟨q1, q2, q3⟩ := h.glob i cs hi
    exact ⟨q1, fun hl => q2 (upto_lv hl), q3.keep (fun _ _ _ => rfl) (fun _ _ h => upto_lv h) (fun _ => q2)⟩
  · rw [getO_take]
    rcases mk_get L e u with ⟨h1, h2⟩ | h1
    · rw [h1]; exact upto_repA (h.env u) (unders_mem hu (List.mem_map_of_mem h2))
    · rw [h1]; exact .undef _

def G.void (g : G) (N0 N : Nat) : G := { ι := g.ι, X := g.X, C := fun id => g.C id ∨ (N0 ≤ id ∧ id < N), R := fun id => g.R id ∧ id < N0 }
theorem getO_ghost {s : Store} {gs : List (Nat × Option Nat)} {id : Nat} (h : s.length ≤ id) (h2 : id < s.length + gs.length) : ∃ q, q ∈ gs ∧ getO (s ++ gs.map ghost) id = some (.buf q.1 [] q.2) := by
  have hl : id - s.length < gs.length := by omega
  refine ⟨gs[id - s.length], List.getElem_mem _, ?_⟩
  unfold getO
  rw [List.getElem?_append_right h, List.getElem?_map, List.getElem?_eq_getElem hl]
  rfl
theorem getO_ghost_old {s : Store} {gs : List (Nat × Option Nat)} {id : Nat} (h : id < s.length) : getO (s ++ gs.map ghost) id = getO s id := by
  unfold getO
  rw [List.getElem?_append_left h]
theorem getO_ghost_out {s : Store} {gs : List (Nat × Option Nat)} {id : Nat} (h : s.length + gs.length ≤ id) : getO (s ++ gs.map ghost) id = none := by
  unfold getO
  rw [List.getElem?_eq_none (by simp; omega)]

theorem ext_void {w : World} {g : G} {s : Store} (hf : ∀ id, g.C id → id < s.length) (gs : List (Nat × Option Nat)) : Ext w g (getO s) w (g.void s.length (s.length + gs.length)) (getO (s ++ gs.map ghost)) := by
  have hold : ∀ id, g.C id → getO (s ++ gs.map ghost) id = getO s id := fun id hc => getO_ghost_old (hf id hc)
  refine ⟨Nat.le_refl _, rfl, rfl, rfl, fun _ _ _ => rfl, fun _ _ => rfl, rfl, fun _ h => .inl h, fun b _ ⟨id, h1, hr, h2⟩ => ⟨id, ?_, hr.1, h2⟩, fun id hc o ho => ⟨o, by rw [← hold id hc]; exact ho, .refl _⟩, fun id hc _ => ⟨rfl, ?_⟩, fun id _ _ _ _ _ hc _ _ _ => ⟨rfl, ?_⟩, Nat.le_refl _⟩
  · rw [getO_ghost_old hr.2] at h1; exact h1
  · exact ⟨fun h => h.1, fun h => ⟨h, hf id hc⟩⟩
  · exact ⟨fun h => h.1, fun h => ⟨h, hf id hc⟩⟩

theorem WkP.rep {w : World} {B : Nat → Prop} {a b : PV} {x : Value} (h : WkP a b) (hr : RepP w B a x) : RepP w B b x := by
  rcases h with ⟨sz, k, sz', rfl, rfl⟩ | ⟨sz, xs, rfl, rfl⟩
  · cases hr with
    | nil => exact .nil k sz'
    | sl _ _ _ _ _ _ hk => exact absurd rfl hk
    | spt _ _ _ hk => exact absurd rfl hk
  · cases hr with
    | nil => exact .nil .shr sz
    | spt _ _ ad hk => exact .spt .shr sz ad (by decide)
    | sl _ _ _ b off cap hk hc hl hs hb h => exact .sl .shr sz xs b off cap (by decide) (fun q => by cases q) hl hs hb h

theorem Sts.weak {n w g L e s a} (h : Sts P n w g (Go.Proofs.YtjhgmaephpadpaaGreat.AW.mk (L.map fun t => (t, e t))) s a) {gs : List (Nat × Option Nat)} (hz : ∀ q, q ∈ gs → 0 < q.1) {l : List (Nat × AV)} (hL : l.map (·.1) = L) (hw : WkE s.length (s.length + gs.length) e l) :
    Sts P n w (g.void s.length (s.length + gs.length)) (Go.Proofs.YtjhgmaephpadpaaGreat.AW.mk l) (s ++ gs.map ghost) a := by
  have hext := ext_void (w := w) h.fresh gs
  have hcase : ∀ id o, getO (s ++ gs.map ghost) id = some o → (id < s.length ∧ getO s id = some o) ∨ (s.length ≤ id ∧ id < s.length + gs.length ∧ ∃ q, q ∈ gs ∧ o = .buf q.1 [] q.2) := fun id o ho => by
    by_cases h1 : id < s.length
    · rw [getO_ghost_old h1] at ho; exact .inl ⟨h1, ho⟩
    · by_cases h2 : id < s.length + gs.length
      · obtain ⟨q, hq, e1⟩ := getO_ghost (s := s) (gs := gs) (Nat.le_of_not_lt h1) h2
        rw [e1] at ho; cases ho
        exact .inr ⟨Nat.le_of_not_lt h1, h2, q, hq, rfl⟩
      · rw [getO_ghost_out (by omega)] at ho; cases ho
  have hne : ∀ id, getO (s ++ gs.map ghost) id ≠ none → id < s.length → getO s id ≠ none := fun id h1 h2 => by rw [getO_ghost_old h2] at h1; exact h1
  refine ⟨⟨fun id o ho => ?_, fun id o ho hr => ?_, h.inv.xlt, fun i j hi hj hri hrj hij => h.inv.inj i j (hne i hi hri.2) (hne j hj hrj.2) hri.1 hrj.1 hij, fun id o ho hr => ?_, fun id o ho hr => ?_⟩, h.glob.ext hext, fun id hid => ?_, fun u => ?_, h.size, h.defers⟩
  · rcases hcase id o ho with ⟨_, h1⟩ | ⟨h1, h2, _⟩
    · exact .inl (h.inv.made id o h1)
    · exact .inr ⟨h1, h2⟩
  · rcases hcase id o ho with ⟨_, h1⟩ | ⟨h1, h2, _⟩
    · exact h.inv.lies id o h1 hr.1
    · have := hr.2; omega
  · rcases hcase id o ho with ⟨_, h1⟩ | ⟨h1, h2, _⟩
    · exact hext.repO rfl (h.inv.rep id o h1 hr.1)
    · have := hr.2; omega
  · rcases hcase id o ho with ⟨h0, h1⟩ | ⟨h1, h2, q, hq, rfl⟩
    · exact h.inv.void id o h1 (fun hh => hr ⟨hh, h0⟩)
    · exact ⟨_, _, hz q hq, rfl⟩
  · rw [List.length_append, List.length_map]
    rcases hid with hid | hid
    · have := h.fresh id hid; omega
    · exact hid.2
  · rcases mk_get2 l u with ⟨v, hv, hm⟩ | hm
    · rw [hm]
      have hk := hw.mem hv
      have hu : u ∈ L := by rw [← hL]; exact List.mem_map_of_mem (f := (·.1)) hv
      have hr := h.env u
      rw [mk_mem L e hu] at hr
      rcases hk with hk | ⟨p, q, h1, rfl, hk⟩ | ⟨sz, id, h1, h2, h3, rfl⟩
      · simp only at hk; rw [← hk]; exact hext.repA hr
      · simp only at h1; rw [h1] at hr
        exact .p _ _ (hk.rep (hext.repP hr.inv_p))
      · simp only at h1; rw [h1] at hr
        generalize a.tmps.getD u undef = x at hr
        cases hr.inv_p with
        | sl _ _ _ _ _ _ hk => exact absurd rfl hk
        | spt _ _ _ hk => exact absurd rfl hk
        | nil =>
          refine .osl id 0 0 0 _ (.inr ⟨h2, h3⟩) ⟨none, 0, rfl, fun _ => rfl⟩ (fun _ _ _ _ => Nat.zero_le _) (fun sz' xs' ty' _ _ => ⟨Nat.le_refl _, fun _ => ⟨rfl, rfl⟩, fun hR => ?_⟩)
          have := hR.2; omega
    · rw [hm]; exact .undef _

theorem TrimO.len {L : List Nat} {N : Nat} {e : Env} {s : Store} {l : List (Nat × AV)} {s2 : Store} (ht : TrimO L N e s l s2) : s2.length = N := by
  unfold TrimO at ht
  obtain ⟨N0, gs, rfl, hN, _, rfl, _⟩ := ht
  simp; omega
theorem freezeK_ex : ∀ {fz : List Nat} {e : Env} {s : Store} {K : Env → Store → Prop}, freezeK fz e s K → ∃ e' s', K e' s' ∧ s.length ≤ s'.length
  | [], e, s, K, h => ⟨e, s, h, Nat.le_refl _⟩
  | t :: r, e, s, K, h => by
    unfold freezeK at h
    obtain ⟨p, s1, h1, h2⟩ := toP_same (f := ids (e t)) h (fun _ h => h)
    obtain ⟨e', s', h3, h4⟩ := freezeK_ex h1
    exact ⟨e', s', h3, Nat.le_trans h2.1 h4⟩
theorem Trim.len {B : Nat} {L : List Nat} {N : Nat} {e : Env} {s : Store} {l : List (Nat × AV)} {s2 : Store} (ht : Trim B L N e s l s2) : s2.length = N := by
  unfold Trim at ht
  rcases ht with ⟨fz, h⟩ | ⟨fz, is, h⟩
  · obtain ⟨e', s', h1, _⟩ := freezeK_ex h
    exact h1.len
  · obtain ⟨e', s', h1, _⟩ := freezeK_ex h
    unfold TrimR at h1
    exact h1.2.1
theorem Sts.freeze {n w g} : ∀ {fz : List Nat} {e : Env} {s : Store} {a : Act} {K : Env → Store → Prop}, Sts P n w g e s a → freezeK fz e s K → ∃ e' s', Sts P n w g e' s' a ∧ K e' s' ∧ s'.length = s.length ∧ Ext w g (getO s) w g (getO s')
  | [], e, s, a, K, hst, h => ⟨e, s, hst, h, rfl, .refl _ _ _⟩
  | t :: r, e, s, a, K, hst, h => by
    unfold freezeK at h
    have c : Cx w g (getO s) s (fun _ => True) False := ⟨hst.inv, fun _ _ => rfl, fun hh => hh.elim⟩
    obtain ⟨p, s2, k1, fz, k3⟩ := toP_tree (hst.env t) c (fun _ _ => trivial) h
    have hov : ovr (fun _ => True) s s2 (getO s) = getO s2 := by funext i; simp [ovr]
    have q1 := fz.inv; have q2 := fz.ext
    rw [hov] at q1 q2 k3
    have hst2 : Sts P n w g (upd e t (.p p)) s2 a := by
      refine ⟨q1, hst.glob.ext q2, fun id hid => by rw [fz.len]; exact hst.fresh id hid, fun u => ?_, hst.size, hst.defers⟩
      unfold upd
      split
      · rename_i hb
        have := Nat.eq_of_beq_eq_true hb
        subst this
        exact .p _ _ k3
      · exact q2.repA (hst.env u)
    obtain ⟨e', s', h1, h2, h3, h4⟩ := Sts.freeze hst2 k1
    exact ⟨e', s', h1, h2, by rw [h3, fz.len], q2.trans h4⟩

def exitOf : Out → Exit | .normal => .normal | .exit id => .exit id | .ret => .ret

theorem Fr.cut {w g s w' g' s'} (h : Fr w g s w' g' s') (hf : ∀ id, g.C id → id < s.length) {N : Nat} (hN : s.length ≤ N) (hN' : N ≤ s'.length) : Fr w g s w' (g'.upto N) (s'.take N) := by
  have hsub : ∀ id o, St.upto (getO s') N id = some o → getO s' id = some o := fun id o hq => by
    unfold St.upto at hq
    split at hq
    · exact hq
    · cases hq
  refine ⟨?_, by rw [List.length_take]; have := h.len; omega, fun id hid => ?_⟩
  · rw [getO_take]
    exact ⟨h.ext.size, h.ext.os, h.ext.tape, h.ext.output, h.ext.frame, h.ext.shape, h.ext.X, fun id hc => ⟨h.ext.C id hc, Nat.lt_of_lt_of_le (hf id hc) hN⟩,
      fun b hb ⟨id, h1, hr, h2⟩ => h.ext.own b hb ⟨id, by obtain ⟨o, ho⟩ := Option.ne_none_iff_exists'.1 h1; rw [hsub id o ho]; simp, hr, h2⟩,
      fun id hc o ho => h.ext.obj id hc o (hsub id o ho), h.ext.ι1, fun id sz xs xs' ty ty' hc h1 h2 h3 => h.ext.ι2 id sz xs xs' ty ty' hc h1 (hsub id _ h2) h3, h.ext.drawn⟩
  · rcases h.new id hid.1 with h1 | h1
    · exact .inl h1
    · have := hid.2; refine .inr ⟨h1.1, ?_⟩; rw [List.length_take]; omega

/-- The state of a round's head. -/
theorem Sts.trimO {n w g e s a} (h : Sts P n w g e s a) {L : List Nat} {N : Nat} {l : List (Nat × AV)} {s2 : Store} (ht : TrimO L N e s l s2) :
    ∃ g2, Sts P n w g2 (Go.Proofs.YtjhgmaephpadpaaGreat.AW.mk l) s2 a ∧ ∀ w0 g0 s0, Fr w0 g0 s0 w g s → (∀ id, g0.C id → id < s0.length) → s0.length ≤ N → Fr w0 g0 s0 w g2 s2 := by
  unfold TrimO at ht
  obtain ⟨N0, gs, rfl, hN, hg, rfl, hz, ho, hu, hL, hw⟩ := ht
  have h1 := h.cut hu ho hN
  have hl : (s.take N0).length = N0 := by rw [List.length_take]; omega
  have h2 := h1.weak (gs := gs) hz hL (by rw [hl]; exact hw)
  refine ⟨_, h2, fun w0 g0 s0 hfr hf hle => ?_⟩
  have hN0 : s0.length ≤ N0 := by
    by_cases hgs : gs = []
    · subst hgs; simpa using hle
    · rw [hg hgs]; exact hfr.len
  have k1 := hfr.cut hf hN0 hN
  refine ⟨k1.ext.trans (ext_void h1.fresh gs), ?_, fun id hid => ?_⟩
  · rw [List.length_append]; have := k1.len; omega
  · rw [List.length_append, List.length_map, hl]
    rcases hid with hid | hid
    · rcases k1.new id hid with q | q
      · exact .inl q
      · rw [hl] at q; exact .inr ⟨q.1, by omega⟩
    · rw [hl] at hid; exact .inr ⟨by omega, hid.2⟩

theorem sameKind_unren {ρ : Nat → Nat} {a b : AObj} (h : sameKind a (b.ren ρ)) : sameKind a b := by
  have hl : ∀ (l : List AV), (rens ρ l).length = l.length := fun l => by
    induction l with
    | nil => rfl
    | cons v r ih => simp [rens, ih]
  cases a <;> cases b <;> simp_all [sameKind, AObj.ren]
theorem rens_at {ρ : Nat → Nat} {e : Env} : ∀ {l : List (Nat × AV)}, (l.map (·.1)).map e = rens ρ (l.map (·.2)) → ∀ q, q ∈ l → e q.1 = q.2.ren ρ
  | [], _, q, hq => by cases hq
  | x :: r, h, q, hq => by
    simp only [List.map_cons, rens, List.cons.injEq] at h
    rcases List.mem_cons.1 hq with rfl | hq
    · exact h.1
    · exact rens_at h.2 q hq
theorem fixed_at {B : Nat} {is : List Nat} (h : fixed B is = true) {j : Nat} (hj : j < B) : is[j]? = some j := by
  unfold fixed at h
  have := List.all_eq_true.1 h j (List.mem_range.2 hj)
  split at this
  · rename_i i hi; rw [hi, Nat.eq_of_beq_eq_true this]
  · cases this
theorem Sts.rename {n w g e s a} (h : Sts P n w g e s a) {B : Nat} {is L : List Nat} {N : Nat} {l : List (Nat × AV)} {s2 : Store} (ht : TrimR B is L N e s l s2) :
    ∃ g2, Sts P n w g2 (Go.Proofs.YtjhgmaephpadpaaGreat.AW.mk l) s2 a ∧ ∀ w0 g0 s0, Fr w0 g0 s0 w g s → (∀ id, g0.C id → id < s0.length) → s0.length = B → Fr w0 g0 s0 w g2 s2 := by
  unfold TrimR at ht
  obtain ⟨hnf, hN, hs, hL, he⟩ := ht
  simp only [Bool.and_eq_true] at hnf
  obtain ⟨hn, hfix⟩ := hnf
  have hlen : s2.length = is.length := by have := congrArg List.length hs; simpa using this.symm
  generalize hm : s.length = m at *
  generalize hρ : place is m = ρ at *
  have hlt : ∀ i, i < is.length → ρ i < m ∧ ρ i ∈ is := fun i hi => by rw [← hρ]; exact place_lt hn hi
  have hge : ∀ i, is.length ≤ i → ρ i = m + (i - is.length) := fun i hi => by rw [← hρ]; exact place_ge hi
  have hinj : ∀ i k, ρ i = ρ k → i = k := fun i k q => by rw [← hρ] at q; exact place_inj hn q
  have hmem : ∀ j, j ∈ is → ∃ i, i < is.length ∧ ρ i = j := fun j hj => by rw [← hρ]; exact place_mem hj
  have hgetp : ∀ i, i < is.length → is[i]? = some (ρ i) := fun i hi => by rw [← hρ]; exact place_get hi
  have hnot : ∀ i, is.length ≤ i → ρ i ∉ is := fun i hi hmm => by
    obtain ⟨k, hk, hk2⟩ := hmem _ hmm
    have := hinj _ _ hk2; omega
  let σk : St := fun j => open Classical in if j ∈ is then getO s j else none
  have hσs : ∀ j o, σk j = some o → getO s j = some o ∧ j ∈ is := fun j o hj => by
    by_cases hji : j ∈ is
    · simp only [σk, if_pos hji] at hj; exact ⟨hj, hji⟩
    · simp only [σk, if_neg hji] at hj; cases hj
  have hσi : ∀ j, j ∈ is → σk j = getO s j := fun j hj => by simp only [σk, if_pos hj]
  have hσn : ∀ j, j ∉ is → σk j = none := fun j hj => by simp only [σk, if_neg hj]
  have hne : ∀ j, σk j ≠ none → getO s j ≠ none := fun j hj => by
    obtain ⟨o, ho⟩ := Option.ne_none_iff_exists'.1 hj
    rw [(hσs j o ho).1]; simp
  have hkill : Ext w g (getO s) w g σk := ⟨Nat.le_refl _, rfl, rfl, rfl, fun _ _ _ => rfl, fun _ _ => rfl, rfl, fun _ hc => hc, fun b _ ⟨id, h1, hr, h2⟩ => ⟨id, hne id h1, hr, h2⟩, fun id hc o ho => ⟨o, (hσs id o ho).1, .refl _⟩, fun id hc _ => ⟨rfl, .rfl⟩, fun id _ _ _ _ _ hc _ _ _ => ⟨rfl, .rfl⟩, Nat.le_refl _⟩
  have hinvk : Inv w g σk := ⟨fun id o ho => h.inv.made id o (hσs id o ho).1, fun id o ho hr => h.inv.lies id o (hσs id o ho).1 hr, h.inv.xlt, fun i j hi hj => h.inv.inj i j (hne i hi) (hne j hj), fun id o ho hr => hkill.repO rfl (h.inv.rep id o (hσs id o ho).1 hr), fun id o ho hr => h.inv.void id o (hσs id o ho).1 hr⟩
  let g2 : G := { ι := fun i => g.ι (ρ i), X := g.X, C := fun i => g.C (ρ i), R := fun i => g.R (ρ i) }
  have hobj : ∀ i, σk (ρ i) = renO ρ (getO s2 i) := fun i => by
    by_cases hi : i < is.length
    · have h1 : (is.map (getO s))[i]? = (s2.map (renO ρ))[i]? := by rw [hs]
      rw [List.getElem?_map, List.getElem?_map, hgetp i hi] at h1
      simp only [Option.map_some] at h1
      rw [hσi _ (hlt i hi).2]
      unfold getO at h1 ⊢
      cases h3 : s2[i]? with
      | none => rw [List.getElem?_eq_none_iff] at h3; omega
      | some o => rw [h3] at h1; simpa using h1
    · rw [hσn _ (hnot i (by omega)), getO_out (by omega)]; rfl
  have hown : ∀ b, Own g2 (getO s2) b ↔ Own g σk b := fun b => by
    constructor
    · rintro ⟨i, h1, h2, h3⟩
      exact ⟨ρ i, fun q => h1 (renO_none.1 (by rw [← hobj]; exact q)), h2, h3⟩
    · rintro ⟨j, h1, h2, h3⟩
      obtain ⟨o, ho⟩ := Option.ne_none_iff_exists'.1 h1
      obtain ⟨i, hi, rfl⟩ := hmem j (hσs j o ho).2
      exact ⟨i, fun q => h1 (by rw [hobj, q]; rfl), h2, h3⟩
  have hren : Ren g2 (getO s2) g σk ρ := ⟨fun _ => rfl, fun _ => .rfl, fun _ => .rfl, hobj, fun b => by
    unfold Lv
    rw [hown b]⟩
  have hoj : ∀ i o, getO s2 i = some o → σk (ρ i) = some (o.ren ρ) := fun i o ho => by rw [hobj, ho]; rfl
  have hinv2 : Inv w g2 (getO s2) := by
    refine ⟨fun i o ho => hinvk.made _ _ (hoj i o ho), fun i o ho hr => hinvk.lies _ _ (hoj i o ho) hr, hinvk.xlt, fun i k hi hk hri hrk q => ?_, fun i o ho hr => hren.unO (hinvk.rep _ _ (hoj i o ho) hr), fun i o ho hr => ?_⟩
    · refine hinj _ _ (hinvk.inj _ _ (fun q => hi ?_) (fun q => hk ?_) hri hrk q)
      · rw [hobj] at q; exact renO_none.1 q
      · rw [hobj] at q; exact renO_none.1 q
    · obtain ⟨sz, ty, h1, h2⟩ := hinvk.void _ _ (hoj i o ho) hr
      refine ⟨sz, ty, h1, ?_⟩
      have h3 : renO ρ (some o) = some (.buf sz [] ty) := congrArg some h2
      exact Option.some.inj (renO_buf.1 h3)
  have hGk : Gk P w g σk := h.glob.ext hkill
  have hfr2 : ∀ i, g2.C i → i < s2.length := fun i hi => by
    have := h.fresh (ρ i) hi
    refine Nat.lt_of_not_le fun hle => ?_
    rw [hge i (by omega)] at this; omega
  refine ⟨g2, ⟨hinv2, fun i cs hi => ?_, hfr2, fun u => ?_, h.size, h.defers⟩, fun w0 g0 s0 hfr hf hB => ?_⟩
  · obtain ⟨q1, q2, q3⟩ := hGk i cs hi
    exact ⟨q1, fun hl => q2 ((hren.lv _).1 hl), q3.keep (fun _ _ _ => rfl) (fun b _ hb => (hren.lv b).1 hb) (fun _ => q2)⟩
  · rcases mk_get2 l u with ⟨v, hv, hmk⟩ | hmk
    · rw [hmk]
      have hev := rens_at (ρ := ρ) (e := e) (l := l) (by rw [hL]; exact he) (u, v) hv
      have hr := h.env u
      simp only at hev
      rw [hev] at hr
      exact hren.pull _ (hkill.repA hr)
    · rw [hmk]; exact .undef _
  · have hid : ∀ j, j < s0.length → j < is.length ∧ ρ j = j := fun j hj => by
      have h1 := fixed_at hfix (by omega : j < B)
      have h2 := (List.getElem?_eq_some_iff.1 h1).1
      have h3 := hgetp j h2
      rw [h1] at h3
      exact ⟨h2, (Option.some.inj h3).symm⟩
    have E := hfr.ext.trans hkill
    have hle : s0.length ≤ s2.length := by
      rw [hlen]
      refine Nat.le_of_not_lt fun hlt2 => ?_
      have := (hid is.length (by omega)).1; omega
    refine ⟨⟨E.size, E.os, E.tape, E.output, E.frame, E.shape, E.X, fun id hc => ?_, fun b hb ho => E.own b hb ((hown b).1 ho), fun id hc o' ho' => ?_, fun id hc hnb => ?_, fun id sz xs xs' ty ty' hc h1 h2 h3 => ?_, E.drawn⟩, hle, fun id hc => ?_⟩
    · show g.C (ρ id)
      rw [(hid id (hf id hc)).2]; exact E.C id hc
    · have h1 := hoj id o' ho'
      rw [(hid id (hf id hc)).2] at h1
      obtain ⟨o, q1, q2⟩ := E.obj id hc _ h1
      exact ⟨o, q1, sameKind_unren q2⟩
    · have h1 := E.ι1 id hc hnb
      show g.ι (ρ id) = _ ∧ (g.R (ρ id) ↔ _)
      rw [(hid id (hf id hc)).2]; exact h1
    · have h4 := hoj id _ h2
      rw [(hid id (hf id hc)).2] at h4
      have h5 := E.ι2 id sz xs xs' ty ty' hc h1 h4 h3
      show g.ι (ρ id) = _ ∧ (g.R (ρ id) ↔ _)
      rw [(hid id (hf id hc)).2]; exact h5
    · by_cases hlt0 : id < s0.length
      · have hc2 : g.C (ρ id) := hc
        rw [(hid id hlt0).2] at hc2
        rcases hfr.new id hc2 with q | q
        · exact .inl q
        · omega
      · exact .inr ⟨by omega, hfr2 id hc⟩

theorem Sts.trim {n w g e s a} (h : Sts P n w g e s a) {B : Nat} {L : List Nat} {N : Nat} {l : List (Nat × AV)} {s2 : Store} (ht : Trim B L N e s l s2) :
    ∃ g2, Sts P n w g2 (Go.Proofs.YtjhgmaephpadpaaGreat.AW.mk l) s2 a ∧ ∀ w0 g0 s0, Fr w0 g0 s0 w g s → (∀ id, g0.C id → id < s0.length) → s0.length ≤ N → s0.length = B → Fr w0 g0 s0 w g2 s2 := by
  unfold Trim at ht
  rcases ht with ⟨fz, ht⟩ | ⟨fz, is, ht⟩
  · obtain ⟨e', s', h1, h2, h3, h4⟩ := Sts.freeze h ht
    obtain ⟨g2, k1, k2⟩ := h1.trimO h2
    refine ⟨g2, k1, fun w0 g0 s0 hfr hf hle _ => k2 w0 g0 s0 ⟨hfr.ext.trans h4, by rw [h3]; exact hfr.len, fun id hid => by rw [h3]; exact hfr.new id hid⟩ hf hle⟩
  · obtain ⟨e', s', h1, h2, h3, h4⟩ := Sts.freeze h ht
    obtain ⟨g2, k1, k2⟩ := h1.rename h2
    refine ⟨g2, k1, fun w0 g0 s0 hfr hf _ hB => k2 w0 g0 s0 ⟨hfr.ext.trans h4, by rw [h3]; exact hfr.len, fun id hid => by rw [h3]; exact hfr.new id hid⟩ hf hB⟩

/-- A loop by a family of states: the number that goes down belongs to the family, not to the state. -/
theorem wp_loop_fam {Q : Exit → Act → World → Prop} {c : Code} {α : Type} (R : α → Act → World → Prop) (m : α → Nat)
    (round : ∀ x a w, R x a w → c.wp P (Exit.then (fun a' w' => ∃ y, R y a' w' ∧ m y < m x) Q) a w) {x : α} {a : Act} {w : World} (h : R x a w) : (Code.loop c).wp P Q a w := by
  let cand : Act → World → Nat → Prop := fun a w n => ∃ y, R y a w ∧ m y = n
  have hleast : ∀ a w, (∃ y, R y a w) → ∃ n, cand a w n ∧ ∀ k, cand a w k → n ≤ k := by
    intro a w ⟨y, hy⟩
    have : ∀ n, (∃ y, R y a w ∧ m y = n) → ∃ n, cand a w n ∧ ∀ k, cand a w k → n ≤ k := by
      intro n
      induction n using Nat.strongRecOn with
      | _ n ih =>
        intro ⟨y, hy, hn⟩
        by_cases hlow : ∃ k, k < n ∧ cand a w k
        · obtain ⟨k, hk, hc⟩ := hlow; exact ih k hk hc
        · exact ⟨n, ⟨y, hy, hn⟩, fun k hk => Nat.le_of_not_lt fun hlt => hlow ⟨k, hlt, hk⟩⟩
    exact this _ ⟨y, hy, rfl⟩
  let μ : Act → World → Nat := fun a w => open Classical in if hh : ∃ y, R y a w then (hleast a w hh).choose else 0
  refine wp_loop (fun a w => ∃ y, R y a w) μ ⟨x, h⟩ fun a w hI => ?_
  have hspec := (hleast a w hI).choose_spec
  have hμ : μ a w = (hleast a w hI).choose := by simp only [μ]; rw [dif_pos hI]
  obtain ⟨⟨y, hy, hmy⟩, _⟩ := hspec
  refine wp_mono (round y a w hy) fun ex a' w' hq => ?_
  cases ex with
  | normal =>
    obtain ⟨z, hz, hlt⟩ := hq
    refine ⟨⟨z, hz⟩, ?_⟩
    have hI' : ∃ y, R y a' w' := ⟨z, hz⟩
    have hμ' : μ a' w' = (hleast a' w' hI').choose := by simp only [μ]; rw [dif_pos hI']
    have := (hleast a' w' hI').choose_spec.2 (m z) ⟨z, hz, rfl⟩
    omega
  | _ => exact hq

theorem aw_sound {n B : Nat} {w0 : World} {g0 : G} {s0 : Store} (hf0 : ∀ id, g0.C id → id < s0.length) (hB : s0.length = B) : ∀ {c : Code} {K : Out → Env → Store → Prop} {Q : Exit → Act → World → Prop} {w : World} {g : G} {e : Env} {s : Store} {a : Act}, aw P n B c K e s → Sts P n w g e s a → Fr w0 g0 s0 w g s →
    (∀ out w' g' e' s' a', K out e' s' → Sts P n w' g' e' s' a' → Fr w0 g0 s0 w' g' s' → Q (exitOf out) a' w') → c.wp P Q a w := by
  intro c
  induction c with
  | skip => intro K Q w g e s a h hst hfr hq; exact wp_skip (hq .normal w g e s a h hst hfr)
  | region id ops draw =>
    intro K Q w g e s a h hst hfr hq
    rw [aw_region] at h
    cases draw with
    | false => exact wp_region_list (aops_sound h hst fun w' g' e' s' a' k1 k2 k3 => hq .normal _ _ _ _ _ k1 k2 (hfr.trans k3))
    | true =>
      simp only [] at h
      split at h
      · rename_i hm
        exact drawn_sound h hm hst.inv hst.glob hst.fresh hst.env hst.size hst.defers fun w' g' e' s' a' q1 q2 q3 q4 q5 q6 q7 q8 => hq .normal w' g' e' s' a' q1
          ⟨q2, hst.glob.ext q7, fun id hid => by
            rcases q3 id hid with h1 | h1
            · have := hst.fresh id h1; omega
            · exact h1.2, q4, q5, q6⟩ (hfr.trans ⟨q7, q8, q3⟩)
      · exact h.elim
  | seq x y ihx ihy =>
    intro K Q w g e s a h hst hfr hq
    rw [aw_seq] at h
    refine wp_seq (ihx h hst hfr fun out w' g' e' s' a' k1 k2 k3 => ?_)
    cases out with
    | normal => exact ihy k1 k2 k3 fun out w'' g'' e'' s'' a'' q1 q2 q3 => hq out _ _ _ _ _ q1 q2 q3
    | exit id => exact hq _ _ _ _ _ _ k1 k2 k3
    | ret => exact hq .ret _ _ _ _ _ k1 k2 k3
  | cond c x y ihx ihy =>
    intro K Q w g e s a h hst hfr hq
    rw [aw_cond] at h
    split at h
    · rename_i t hev
      have hc := ev_rep hst.env c
      rw [hev] at hc
      unfold Br at h
      exact wp_cond_split hc.inv_bool (fun ht => ihx (h.1 ht) hst hfr hq) (fun hf => ihy (h.2 hf) hst hfr hq)
    · exact h.elim
  | block id b ih =>
    intro K Q w g e s a h hst hfr hq
    rw [aw_block] at h
    refine wp_block (ih h hst hfr fun out w' g' e' s' a' k1 k2 k3 => ?_)
    cases out with
    | normal => exact hq .normal _ _ _ _ _ k1 k2 k3
    | ret => exact hq .ret _ _ _ _ _ k1 k2 k3
    | exit j =>
      simp only [inBlock] at k1
      show (if j = id then Q .normal a' w' else Q (.exit j) a' w')
      split at k1
      · rename_i hb
        rw [if_pos (Nat.eq_of_beq_eq_true hb)]
        exact hq .normal _ _ _ _ _ k1 k2 k3
      · rename_i hb
        rw [if_neg (fun e => by subst e; simp at hb)]
        exact hq (.exit j) _ _ _ _ _ k1 k2 k3
  | loop b ih =>
    intro K Q w g e s a h hst hfr hq
    rw [aw_loop] at h
    unfold LoopX at h
    obtain ⟨α, L, st, ok, m, ⟨x0, hx0, hl0, ht0⟩, round⟩ := h
    obtain ⟨g2, hst2, hfr2⟩ := hst.trim ht0
    have hs := hfr.len
    refine wp_loop_fam (fun x a' w' => ok x ∧ ∃ g', Sts P n w' g' (mk (st x).1) (st x).2 a' ∧ Fr w0 g0 s0 w' g' (st x).2) m (fun x a' w' hR => ?_) (x := x0) ⟨hx0, g2, hst2, hfr2 _ _ _ hfr hf0 (by omega) hB⟩
    · obtain ⟨hok, g', hst', hfr'⟩ := hR
      refine ih (round x hok) hst' hfr' fun out w'' g'' e'' s'' a'' k1 k2 k3 => ?_
      cases out with
      | normal =>
        obtain ⟨y, hy, hm, hle, ht⟩ := k1
        obtain ⟨g3, q1, q2⟩ := k2.trim ht
        exact ⟨y, ⟨hy, g3, q1, q2 _ _ _ k3 hf0 (by omega) hB⟩, hm⟩
      | exit id => exact hq _ _ _ _ _ _ k1 k2 k3
      | ret => exact hq .ret _ _ _ _ _ k1 k2 k3
  | scope b ih =>
    intro K Q w g e s a h hst hfr hq
    have h : aw P n B b K e s := h
    refine wp_scope_straight (ih h hst hfr fun out w' g' e' s' a' k1 k2 k3 => ?_)
    cases out with
    | normal => exact hq .normal _ _ _ _ _ k1 k2 k3
    | exit id => exact hq (.exit id) _ _ _ _ _ k1 k2 k3
    | ret => exact hq .ret _ _ _ _ _ k1 k2 k3
  | label l => intro K Q w g e s a h hst hfr hq; exact wp_label (hq .normal w g e s a h hst hfr)
  | exit id => intro K Q w g e s a h hst hfr hq; exact wp_exit (hq (.exit id) w g e s a h hst hfr)
  | ret => intro K Q w g e s a h hst hfr hq; exact wp_ret (hq .ret w g e s a h hst hfr)
  | _ => intro K Q w g e s a h hst hfr hq; exact False.elim h
end Go.Proofs.YtjhgmaephpadpaaGreat.AW

namespace Go.Proofs.YtjhgmaephpadpaaGreat.AW
set_option linter.unusedSimpArgs false
set_option linter.unusedVariables false
variable {P : Program}

theorem loadA_run {t : Nat} {av : AV} {x : Value} {s : Store} {K : AV → Prop} {w : World} {g : G} (h : loadA P t av s K) (hx : RepA w g (getO s) av x) (hinv : Inv w g (getO s)) :
    ∃ b off v y, x = .pointer (some ⟨b, off, none⟩) ∧ K v ∧ RepA w g (getO s) v y ∧ (loadVar t ⟨b, off, none⟩).run P w = .ok y w := by
  simp only [loadA] at h
  split at h
  · exact h.elim
  · rename_i agg sz hkd
    split at h
    · rename_i id off
      obtain ⟨hp, _, _⟩ := hx.inv_ref
      split at h
      · rename_i cs ty hs
        cases hinv.repR hs (by simp) with
        | cells _ _ xs hcs hare _ =>
          have hflat := hare
          have hare := hare.are
          obtain ⟨v, y, h1, h2, h3⟩ := valK_load hkd (hcs.drop off) (fun j y hj => by
            rw [cell_of_are hare]; simpa using hj) h
          exact ⟨_, _, v, y, hp, h1, h2, h3⟩
      · exact h.elim
    · rename_i cs
      obtain ⟨b, off, hp, hc, _⟩ := hx.inv_pto
      obtain ⟨ys, h1, h2⟩ := hc.values
      obtain ⟨v, y, k1, k2, k3⟩ := valK_load hkd h1.repAs h2 h
      exact ⟨_, _, v, y, hp, k1, k2, k3⟩
    · rename_i id tot i sub
      split at h
      · rename_i sz' xs ty hs
        unfold Ob Idx at h
        obtain ⟨htot, _, y, hy, hval⟩ := h
        have hp := hx.inv_eptr hs htot
        have hne : xs ≠ [] := fun q => by rw [q] at hy; simp at hy
        cases hinv.repR hs (by simp [hne]) with
        | buf _ _ ys hz hsz hn hr hare =>
          have hd := flat_drop hsz (by simpa using hy : xs[i]? = some y)
          have hr2 := (hr.drop (i * sz' + sub)).take (y.cells.drop sub).length
          have e1 : ((flat xs).drop (i * sz' + sub)).take (y.cells.drop sub).length = y.cells.drop sub := by
            rw [← List.drop_drop, hd]
            by_cases hle : sub ≤ y.cells.length
            · rw [List.drop_append_of_le_length hle, List.take_left']; rfl
            · have : y.cells.drop sub = [] := List.drop_eq_nil_of_le (by omega)
              simp [this]
          rw [e1] at hr2
          obtain ⟨v, z, k1, k2, k3⟩ := valK_load (b := g.ι id) (off := i * sz' + sub) hkd hr2.repAs (fun j z hj => by
            rw [cell_of_are hare]
            rw [List.getElem?_take] at hj
            split at hj
            · rw [List.getElem?_drop, List.getElem?_take] at hj
              split at hj
              · exact hj
              · cases hj
            · cases hj) hval
          exact ⟨_, _, v, z, hp, k1, k2, k3⟩
      · exact h.elim
    · exact h.elim

def resOne (tmps : Array Value) : ResultVar → Sem Value
  | .tmp t => pure (tmps.getD t undef)
  | .cell a t => do loadVar t (← asAddr (tmps.getD a undef))

theorem resA_run {n : Nat} {w : World} {g : G} {e : Env} {s : Store} {a : Act} (hst : Sts P n w g e s a) : ∀ {rs : List ResultVar} {K : List AV → Prop}, resA P rs e s K →
    ∃ vs ys, K vs ∧ RepAs w g (getO s) vs ys ∧ (rs.mapM (resOne a.tmps)).run P w = .ok ys w
  | [], K, h => ⟨[], [], h, .nil, rfl⟩
  | .tmp t :: r, K, h => by
    obtain ⟨vs, ys, h1, h2, h3⟩ := resA_run hst (rs := r) h
    refine ⟨_, _, h1, .cons _ _ _ _ (hst.env t) h2, ?_⟩
    rw [List.mapM_cons]; simp [resOne, h3]
  | .cell q t :: r, K, h => by
    obtain ⟨b, off, v, y, hp, h1, h2, h3⟩ := loadA_run h (hst.env q) hst.inv
    obtain ⟨vs, ys, k1, k2, k3⟩ := resA_run hst (rs := r) h1
    refine ⟨_, _, k1, .cons _ _ _ _ h2 k2, ?_⟩
    rw [List.mapM_cons]
    simp [resOne, hp, asAddr, h3, k3]

theorem oneOf_rep {w : World} {g : G} {σ : St} {vs : List AV} {ys : List Value} (h : RepAs w g σ vs ys) : RepA w g σ (oneOf vs) (if hh : ys.toArray.size = 1 then ys.toArray[0] else .tuple ys.toArray) := by
  cases h with
  | nil => exact .tup [] [] .nil
  | cons v x vs xs h hs =>
    cases hs with
    | nil => exact h
    | cons v2 x2 vs xs h2 hs =>
      rw [dif_neg (by simp)]
      exact .tup _ _ (.cons _ _ _ _ h (.cons _ _ _ _ h2 hs))

theorem args_env {w : World} {g : G} {σ : St} : ∀ {args : List AV} {vs : List Value} (k t : Nat), RepAs w g σ args vs → RepA w g σ (mk (argsE k args) (k + t)) (vs.getD t undef)
  | _, _, k, t, .nil => .undef _
  | _, _, k, 0, .cons v x vs xs h hs => by
    simp only [argsE, mk, upd, Nat.add_zero, Nat.beq_refl]
    simpa using h
  | _, _, k, t + 1, .cons v x vs xs h hs => by
    have hne : Nat.beq k (k + (t + 1)) = false := by
      cases hb : Nat.beq k (k + (t + 1)) with
      | false => rfl
      | true => have := Nat.eq_of_beq_eq_true hb; omega
    simp only [argsE, mk, upd, hne]
    rw [show k + (t + 1) = k + 1 + t by omega]
    simpa using args_env (k + 1) t hs

/-- **A call of a function, by its text.** -/
theorem Cal.intro {f : Nat} {fn : Func} {c : Code} {args : List AV} {s : Store} {K : AV → Store → Prop} (hf : P.funcs[f]? = some fn) (hname : (fn.name == "runtime.NumGoroutine") = false) (hb : fn.body = some c)
    (hn : Nat.ble args.length fn.ntmps = true) (h : aw P fn.ntmps s.length c (retA P fn.results.toList K) (mk (argsE 0 args)) s) : Cal P f args s K := by
  unfold Cal
  refine fun w g vs hinv hG hfresh hargs => .inl ⟨⟨fn, hf, hname, by rw [hb]; rfl⟩, ?_⟩
  have hn := Nat.le_of_ble_eq_true hn
  refine calls_of_wp hf hb ?_
  have hst : Sts P fn.ntmps w g (mk (argsE 0 args)) s { tmps := vs.toArray ++ Array.replicate (fn.ntmps - vs.toArray.size) undef, defers := [] } := by
    refine ⟨hinv, hG, hfresh, fun t => ?_, ?_, rfl⟩
    · have := args_env 0 t hargs
      rw [Nat.zero_add] at this
      have e : (vs.toArray ++ Array.replicate (fn.ntmps - vs.toArray.size) undef).getD t undef = vs.getD t undef := by
        rw [Array.getD_eq_getD_getElem?, List.getD_eq_getElem?_getD]
        by_cases ht : t < vs.length
        · rw [Array.getElem?_append_left (by simpa using ht)]; simp
        · rw [Array.getElem?_append_right (by simp; omega), List.getElem?_eq_none (by omega)]
          rw [Array.getElem?_replicate]
          split <;> rfl
      rw [e]; exact this
    · have := hargs.len
      simp; omega
  refine aw_sound (s0 := s) hfresh rfl h hst (Fr.refl hst) fun out w' g' e' s' a' hk hst' hfr => ?_
  have fin : ∀ vs', K (oneOf vs') s' → ∀ ys, RepAs w' g' (getO s') vs' ys → (fn.results.toList.mapM (resOne a'.tmps)).run P w' = .ok ys w' →
      a'.defers = [] ∧ ∃ v, (results fn a'.tmps).run P w' = .ok v w' ∧ CalPost w g s K (.returned v) w' := by
    intro vs' hK ys hr hrun
    refine ⟨hst'.defers, _, ?_, oneOf vs', _, s', g', rfl, hK, hfr.len, oneOf_rep hr, hst'.inv, hfr.ext, hfr.new⟩
    unfold results
    rw [Array.mapM_eq_mapM_toList]
    simp only [Sem.run_bind, Sem.run_map, Sem.run_pure]
    show (((List.mapM (resOne a'.tmps) fn.results.toList).run P w').andThen _).andThen _ = _
    rw [hrun]
    rfl
  cases out with
  | normal =>
    obtain ⟨vs', ys, h1, h2, h3⟩ := resA_run hst' hk
    exact fin vs' h1 ys h2 h3
  | ret =>
    obtain ⟨vs', ys, h1, h2, h3⟩ := resA_run hst' hk
    exact fin vs' h1 ys h2 h3
  | exit id => exact hk.elim
end Go.Proofs.YtjhgmaephpadpaaGreat.AW

namespace Go.Proofs.YtjhgmaephpadpaaGreat.AW
set_option linter.unusedSimpArgs false
set_option linter.unusedVariables false
variable {P : Program}

/-- A result, handed out as a tree. -/
def finP (s : Store) (r : AV) (K : AV → Prop) : Prop := match r with
  | .tup vs => partsP s vs fun ps _ => K (.tup (ps.map .p))
  | v => toP s v fun p _ => K (.p p)

/-- **A call whose arguments are trees**: it is proved beside an empty store, and holds beside any. -/
theorem Cal.pure {f : Nat} {args : List PV} {s : Store} {K : AV → Store → Prop} (h : Cal P f (args.map .p) [] fun r s' => finP s' r fun v => K v s) : Cal P f (args.map .p) s K := by
  unfold Cal at h ⊢
  refine fun w g vs hinv hG hfresh hargs => ?_
  let g0 : G := { ι := g.ι, X := Lv g (getO s), C := fun _ => False }
  have hemp : ∀ id, getO ([] : Store) id = none := fun id => rfl
  have hlv0 : ∀ b, Lv g0 (getO []) b → Lv g (getO s) b := by
    rintro b (h | ⟨id, h1, _, _⟩)
    · exact h
    · exact absurd (hemp id) h1
  have hlt : ∀ b, Lv g (getO s) b → b < w.heap.size := by
    rintro b (h | ⟨id, h1, hr, h2⟩)
    · exact hinv.xlt b h
    · obtain ⟨o, ho⟩ := Option.ne_none_iff_exists'.1 h1
      rw [← h2]; exact (hinv.lies id o ho hr).1
  have hinv0 : Inv w g0 (getO []) := ⟨fun id o h => by rw [hemp] at h; (cases h), fun id o h => by rw [hemp] at h; (cases h), hlt, fun i j h => absurd (hemp i) h, fun id o h => by rw [hemp] at h; (cases h), fun id o h => by rw [hemp] at h; (cases h)⟩
  have hargs0 : RepAs w g0 (getO []) (args.map .p) vs := by
    have key : ∀ {args : List PV} {vs : List Value}, RepAs w g (getO s) (args.map .p) vs → RepAs w g0 (getO []) (args.map .p) vs := by
      intro args
      induction args with
      | nil => intro vs h; cases h; exact .nil
      | cons p r ih =>
        intro vs h
        cases h with
        | cons _ x _ xs hx hs => exact .cons _ _ _ _ (.p _ _ (hx.inv_p.keep (fun _ _ _ => rfl) (fun b _ hb => hlv0 b hb))) (ih hs)
    exact key hargs
  have hG0 : Gk P w g0 (getO []) := fun i cs hi => by
    obtain ⟨q1, q2, q3⟩ := hG i cs hi
    exact ⟨q1, fun hl => q2 (hlv0 _ hl), q3.keep (fun _ _ _ => rfl) (fun b _ hb => hlv0 b hb) (fun _ => q2)⟩
  refine (h w g0 vs hinv0 hG0 (fun id hid => hid.elim) hargs0).mono fun e w' hpost => ?_
  obtain ⟨r, v, s', g', rfl, hk, _, hrep, hinv', hext, hC⟩ := hpost
  have hall : ∀ b, b < w.heap.size → w'.heap[b]? = w.heap[b]? := fun b hb => hext.frame b hb (fun ⟨id, h1, _, _⟩ => h1 (hemp id))
  have hX : ∀ b, Lv g (getO s) b → g'.X b := fun b hb => by rw [hext.X]; exact hb
  have hext' : Ext w g (getO s) w' g (getO s) := ⟨hext.size, hext.os, hext.tape, hext.output, fun b hb _ => hall b hb, fun b hb => shape_same (hall b hb), rfl, fun _ h => h, fun _ _ h => h, fun _ _ o h => ⟨o, h, .refl _⟩, fun _ _ _ => ⟨rfl, .rfl⟩, fun _ _ _ _ _ _ _ _ _ _ => ⟨rfl, .rfl⟩, hext.drawn⟩
  have hinvF : Inv w' g (getO s) := ⟨hinv.made, fun id o h hr => by have := hinv.lies id o h hr; have := hext.size; exact ⟨by omega, (hinv.lies id o h hr).2⟩, fun b hb => by have := hinv.xlt b hb; have := hext.size; omega, hinv.inj,
    fun id o h hr => hext'.repO (hall _ (hinv.lies id o h hr).1) (hinv.rep id o h hr), hinv.void⟩
  have c' : Cx w' g' (getO s') s' (fun _ => True) True := ⟨hinv', fun _ _ => rfl, fun _ hid => by
    rcases hC _ hid with h | h
    · exact h.elim
    · exact Nat.lt_irrefl _ h.2⟩
  have back : ∀ {σ' : St} {p : PV} {x : Value}, RepP w' (Lv g' σ') p x → RepP w' (Lv g (getO s)) p x := fun hp => hp.keep (fun _ _ _ => rfl) (fun b _ hb => .inl (hX b hb))
  have backs : ∀ {σ' : St} {ps : List PV} {xs : List Value}, RepPs w' (Lv g' σ') ps xs → RepPs w' (Lv g (getO s)) ps xs := fun hp => hp.keep (fun _ _ _ => rfl) (fun b _ hb => .inl (hX b hb))
  unfold finP at hk
  split at hk
  · rename_i vs'
    obtain ⟨ys, rfl, hys⟩ := hrep.inv_tup
    obtain ⟨ps, s2, k1, _, k3⟩ := partsP_tree hys c' (fun _ _ _ _ => trivial) hk
    exact ⟨_, _, s, g, rfl, k1, Nat.le_refl _, .tup _ _ (backs k3).repAs, hinvF, hext', fun id h => .inl h⟩
  · obtain ⟨p, s2, k1, _, k3⟩ := toP_tree hrep c' (fun _ _ => trivial) hk
    exact ⟨_, _, s, g, rfl, k1, Nat.le_refl _, .p _ _ (back k3), hinvF, hext', fun id h => .inl h⟩

theorem Cal.mono {f : Nat} {args : List AV} {s : Store} {K K' : AV → Store → Prop} (h : Cal P f args s K) (hk : ∀ r s', K r s' → K' r s') : Cal P f args s K' := by
  unfold Cal at h ⊢
  refine fun w g vs h1 hG h2 h3 => (h w g vs h1 hG h2 h3).mono fun e w' hpost => ?_
  obtain ⟨r, v, s', g', h4, h5, h6⟩ := hpost
  exact ⟨r, v, s', g', h4, hk _ _ h5, h6⟩

/-- A call to which owned slices are handed: they are handed over as trees, and turn no more. -/
theorem Cal.freeze {f : Nat} {args : List AV} {s : Store} {K : AV → Store → Prop} (h : partsP s args fun ps s' => Cal P f (ps.map .p) s' K) (_hf : ∃ fn, P.funcs[f]? = some fn ∧ (fn.name == "runtime.NumGoroutine") = false ∧ fn.body.isSome = true) : Cal P f args s K := by
  unfold Cal
  refine fun w g vs hinv hG hfresh hargs => ?_
  have c : Cx w g (getO s) s (fun _ => True) False := ⟨hinv, fun _ _ => rfl, fun hh => hh.elim⟩
  obtain ⟨ps, s2, k1, fz, k3⟩ := partsP_tree hargs c (fun _ _ _ _ => trivial) h
  have hov : ovr (fun _ => True) s s2 (getO s) = getO s2 := by funext i; simp [ovr]
  have q1 := fz.inv; have q2 := fz.ext
  rw [hov] at q1 q2 k3
  unfold Cal at k1
  have hG2 := hG.ext q2
  refine (k1 w g vs q1 hG2 (fun id hid => by rw [fz.len]; exact hfresh id hid) k3.repAs).mono fun e w' hpost => ?_
  obtain ⟨r, v, s', g', rfl, a1, a2, a3, a4, a5, a6⟩ := hpost
  exact ⟨r, v, s', g', rfl, a1, by have := fz.len; omega, a3, a4, q2.trans a5, fun id hid => by have := a6 id hid; rw [fz.len] at this; exact this⟩

/-- A loop, by a family of states. -/
theorem LoopX.famW {B : Nat} {body : (Out → Env → Store → Prop) → Env → Store → Prop} {K : Out → Env → Store → Prop} {e : Env} {s : Store} {α : Type} (L : List Nat) (st : α → List (Nat × AV) × Store) (ok : α → Prop) (m : α → Nat) (x : α)
    (h0 : ok x) (hl : s.length ≤ (st x).2.length) (ht : Trim B L (st x).2.length e s (st x).1 (st x).2)
    (round : ∀ x, ok x → body (fun o e' s' => match o with
      | .normal => ∃ y, ok y ∧ m y < m x ∧ s.length ≤ (st y).2.length ∧ Trim B L (st y).2.length e' s' (st y).1 (st y).2
      | o => K o e' s') (mk (st x).1) (st x).2) : LoopX B body K e s := by
  unfold LoopX
  exact ⟨α, L, st, ok, m, ⟨x, h0, hl, ht⟩, round⟩
theorem LoopX.fam {B : Nat} {body : (Out → Env → Store → Prop) → Env → Store → Prop} {K : Out → Env → Store → Prop} {e : Env} {s : Store} {α : Type} (L : List Nat) (st : α → List (Nat × AV) × Store) (ok : α → Prop) (m : α → Nat) (x : α)
    (h0 : ok x) (ht : Trim B L s.length e s (st x).1 (st x).2)
    (round : ∀ x, ok x → body (fun o e' s' => match o with
      | .normal => ∃ y, ok y ∧ m y < m x ∧ s.length ≤ (st y).2.length ∧ Trim B L (st y).2.length e' s' (st y).1 (st y).2
      | o => K o e' s') (mk (st x).1) (st x).2) : LoopX B body K e s := by
  have hl := ht.len
  exact LoopX.famW L st ok m x h0 (by omega) (by rw [hl]; exact ht) round

theorem WkE.same {N0 N : Nat} {e : Env} : ∀ (L : List Nat), WkE N0 N e (L.map fun t => (t, e t))
  | [] => trivial
  | t :: r => ⟨.inl rfl, WkE.same r⟩
theorem TrimO.mk' {L : List Nat} {N : Nat} {e : Env} {s : Store} {l : List (Nat × AV)} {s2 : Store} (h1 : (L.map fun t => (t, e t)) = l) (h2 : s.take N = s2) (h3 : unders N (L.map e) = true) (h4 : s2.all (objUnder N) = true) (h5 : N ≤ s.length) : TrimO L N e s l s2 := by
  unfold TrimO
  subst h1; subst h2
  have hL : (L.map fun t => (t, e t)).map (·.1) = L := by rw [List.map_map]; exact List.map_id L
  exact ⟨N, [], rfl, h5, fun h => absurd rfl h, by simp, (by intro q hq; cases hq), h4, h3, hL, WkE.same L⟩
/-- A state told with less: some nil slices will be owned (gs: their elements' sizes and types). -/
theorem TrimO.wk {L : List Nat} {N : Nat} {e : Env} {s : Store} {l : List (Nat × AV)} {s2 : Store} (N0 : Nat) (gs : List (Nat × Option Nat)) (hN : N0 + gs.length = N) (h5 : N0 ≤ s.length) (hg : gs = [] ∨ N0 = s.length) (h2 : s.take N0 ++ gs.map ghost = s2) (hz : gs.all (fun q => Nat.blt 0 q.1) = true)
    (h4 : (s.take N0).all (objUnder N0) = true) (h3 : unders N0 (L.map e) = true) (hL : l.map (·.1) = L) (hw : WkE N0 N e l) : TrimO L N e s l s2 := by
  unfold TrimO
  exact ⟨N0, gs, hN.symm, h5, fun h => hg.resolve_left h, h2.symm, fun q hq => blt_lt (List.all_eq_true.1 hz q hq), h4, h3, hL, hw⟩
theorem Trim.o {B : Nat} {L : List Nat} {N : Nat} {e : Env} {s : Store} {l : List (Nat × AV)} {s2 : Store} (h : TrimO L N e s l s2) : Trim B L N e s l s2 := by
  unfold Trim
  exact .inl ⟨[], h⟩
theorem Trim.fz {B : Nat} {L : List Nat} {N : Nat} {e : Env} {s : Store} {l : List (Nat × AV)} {s2 : Store} (ts : List Nat) (h : freezeK ts e s fun e' s' => TrimO L N e' s' l s2) : Trim B L N e s l s2 := by
  unfold Trim
  exact .inl ⟨ts, h⟩
/-- The objects named anew. -/
theorem Trim.mv {B : Nat} {L : List Nat} {N : Nat} {e : Env} {s : Store} {l : List (Nat × AV)} {s2 : Store} (fz is : List Nat) (h : freezeK fz e s fun e' s' => TrimR B is L N e' s' l s2) : Trim B L N e s l s2 := by
  unfold Trim
  exact .inr ⟨fz, is, h⟩
theorem TrimR.mk' {B : Nat} {is : List Nat} {L : List Nat} {N : Nat} {e : Env} {s : Store} {l : List (Nat × AV)} {s2 : Store} (h1 : (nodupLt is s.length && fixed B is) = true) (h2 : s2.length = N) (h3 : is.map (getO s) = s2.map (renO (place is s.length))) (h4 : l.map (·.1) = L) (h5 : L.map e = rens (place is s.length) (l.map (·.2))) : TrimR B is L N e s l s2 := by
  unfold TrimR
  exact ⟨h1, h2, h3, h4, h5⟩
theorem Trim.mk' {B : Nat} {L : List Nat} {N : Nat} {e : Env} {s : Store} {l : List (Nat × AV)} {s2 : Store} (h1 : (L.map fun t => (t, e t)) = l) (h2 : s.take N = s2) (h3 : unders N (L.map e) = true) (h4 : s2.all (objUnder N) = true) (h5 : N ≤ s.length) : Trim B L N e s l s2 := .o (.mk' h1 h2 h3 h4 h5)
/-- A state told with less: some nil slices will be owned (gs: their elements' sizes and types). -/
theorem Trim.wk {B : Nat} {L : List Nat} {N : Nat} {e : Env} {s : Store} {l : List (Nat × AV)} {s2 : Store} (N0 : Nat) (gs : List (Nat × Option Nat)) (hN : N0 + gs.length = N) (h5 : N0 ≤ s.length) (hg : gs = [] ∨ N0 = s.length) (h2 : s.take N0 ++ gs.map ghost = s2) (hz : gs.all (fun q => Nat.blt 0 q.1) = true)
    (h4 : (s.take N0).all (objUnder N0) = true) (h3 : unders N0 (L.map e) = true) (hL : l.map (·.1) = L) (hw : WkE N0 N e l) : Trim B L N e s l s2 := .o (.wk N0 gs hN h5 hg h2 hz h4 h3 hL hw)
theorem WkV.nil {N0 N : Nat} {sz : Nat} (k : SK) (sz' : Nat) : WkV N0 N (.p (.sl .nil sz [])) (.p (.sl k sz' [])) := .inr (.inl ⟨_, _, rfl, rfl, .inl ⟨_, _, _, rfl, rfl⟩⟩)
theorem WkV.shr {N0 N : Nat} {sz : Nat} {xs : List PV} : WkV N0 N (.p (.sl .clip sz xs)) (.p (.sl .shr sz xs)) := .inr (.inl ⟨_, _, rfl, rfl, .inr ⟨_, _, rfl, rfl⟩⟩)
theorem WkV.own {N0 N : Nat} {sz : Nat} (id : Nat) (h1 : Nat.ble N0 id = true) (h2 : Nat.blt id N = true) : WkV N0 N (.p (.sl .nil sz [])) (.osl id 0 0 0) := .inr (.inr ⟨_, id, rfl, Nat.le_of_ble_eq_true h1, blt_lt h2, rfl⟩)
end Go.Proofs.YtjhgmaephpadpaaGreat.AW

namespace Go.Proofs.YtjhgmaephpadpaaGreat.AW
set_option linter.unusedSimpArgs false
set_option linter.unusedVariables false
variable {P : Program}

/-- A value that reaches no memory. -/
def scalar : AV → Bool
  | .p (.bool _) | .p (.int _ _) | .p (.str _) => true
  | _ => false

theorem scalar_rep {w w' : World} {g g' : G} {σ σ' : St} {v : AV} {x : Value} (hs : scalar v = true) (h : RepA w g σ v x) : RepA w' g' σ' v x := by
  cases h with
  | p v x h => cases h <;> first | exact .p _ _ (.bool _) | exact .p _ _ (.int _ _) | exact .p _ _ (.str _) | simp [scalar] at hs
  | _ => simp [scalar] at hs

/-- A call to which owned slices are lent: what it returns reaches no memory, so they are the caller's again. -/
theorem Cal.lend {f : Nat} {args : List AV} {ps : List PV} {s : Store} {v : AV} {K : AV → Store → Prop} (hps : partsP s args fun qs _ => qs = ps) (h : Cal P f (ps.map .p) [] fun r _ => r = v) (hv : scalar v = true) (hk : K v s) : Cal P f args s K := by
  unfold Cal at h ⊢
  refine fun w g vs hinv hG hfresh hargs => ?_
  have c : Cx w g (getO s) s (fun _ => True) False := ⟨hinv, fun _ _ => rfl, fun hh => hh.elim⟩
  obtain ⟨qs, s2, rfl, fz, k3⟩ := partsP_tree hargs c (fun _ _ _ _ => trivial) hps
  have hov : ovr (fun _ => True) s s2 (getO s) = getO s2 := by funext i; simp [ovr]
  have q1 := fz.inv; have q2 := fz.ext
  rw [hov] at q1 q2 k3
  let g0 : G := { ι := g.ι, X := Lv g (getO s2), C := fun _ => False }
  have hemp : ∀ id, getO ([] : Store) id = none := fun id => rfl
  have hlv0 : ∀ b, Lv g0 (getO []) b → Lv g (getO s2) b := by
    rintro b (h | ⟨id, h1, _, _⟩)
    · exact h
    · exact absurd (hemp id) h1
  have hlt : ∀ b, Lv g (getO s2) b → b < w.heap.size := by
    rintro b (h | ⟨id, h1, hr, h2⟩)
    · exact hinv.xlt b h
    · obtain ⟨o, ho⟩ := Option.ne_none_iff_exists'.1 h1
      rw [← h2]; exact (q1.lies id o ho hr).1
  have hinv0 : Inv w g0 (getO []) := ⟨fun id o h => by rw [hemp] at h; (cases h), fun id o h => by rw [hemp] at h; (cases h), hlt, fun i j h => absurd (hemp i) h, fun id o h => by rw [hemp] at h; (cases h), fun id o h => by rw [hemp] at h; (cases h)⟩
  have hargs0 : RepAs w g0 (getO []) (qs.map .p) vs := (k3.keep (fun _ _ _ => rfl) (fun b _ hb => hlv0 b hb)).repAs
  have hG0 : Gk P w g0 (getO []) := fun i cs hi => by
    obtain ⟨q1, q2, q3⟩ := (hG.ext q2) i cs hi
    exact ⟨q1, fun hl => q2 (hlv0 _ hl), q3.keep (fun _ _ _ => rfl) (fun b _ hb => hlv0 b hb) (fun _ => q2)⟩
  refine (h w g0 vs hinv0 hG0 (fun id hid => hid.elim) hargs0).mono fun e w' hpost => ?_
  obtain ⟨r, x, s', g', rfl, rfl, _, hrep, hinv', hext, hC⟩ := hpost
  have hall : ∀ b, b < w.heap.size → w'.heap[b]? = w.heap[b]? := fun b hb => hext.frame b hb (fun ⟨id, h1, _, _⟩ => h1 (hemp id))
  have hext' : Ext w g (getO s) w' g (getO s) := ⟨hext.size, hext.os, hext.tape, hext.output, fun b hb _ => hall b hb, fun b hb => shape_same (hall b hb), rfl, fun _ h => h, fun _ _ h => h, fun _ _ o h => ⟨o, h, .refl _⟩, fun _ _ _ => ⟨rfl, .rfl⟩, fun _ _ _ _ _ _ _ _ _ _ => ⟨rfl, .rfl⟩, hext.drawn⟩
  have hinvF : Inv w' g (getO s) := ⟨hinv.made, fun id o h hr => by have := hinv.lies id o h hr; have := hext.size; exact ⟨by omega, (hinv.lies id o h hr).2⟩, fun b hb => by have := hinv.xlt b hb; have := hext.size; omega, hinv.inj,
    fun id o h hr => hext'.repO (hall _ (hinv.lies id o h hr).1) (hinv.rep id o h hr), hinv.void⟩
  exact ⟨_, x, s, g, rfl, hk, Nat.le_refl _, scalar_rep hv hrep, hinvF, hext', fun id h => .inl h⟩
end Go.Proofs.YtjhgmaephpadpaaGreat.AW
