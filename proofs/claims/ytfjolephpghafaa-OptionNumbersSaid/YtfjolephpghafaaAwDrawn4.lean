import Derived.Test.YtfjolephpghafaaAwDrawn3
namespace Go.Proofs.Ytfjolephpghafaa.AW
variable {P : Program}

theorem countP_dec {p q : Nat → Bool} {i : Nat} : ∀ {l : List Nat}, (∀ k, q k = true → p k = true) → i ∈ l → p i = true → q i = false → l.countP q < l.countP p
  | y :: r, hq, hi, hp, hn => by
    have mono : ∀ l : List Nat, l.countP q ≤ l.countP p := fun l => List.countP_mono_left (fun k _ hk => hq k hk)
    rw [List.countP_cons, List.countP_cons]
    by_cases hy : y = i
    · subst hy
      have := mono r
      simp [hp, hn]; omega
    · have hi' : i ∈ r := by
        rcases List.mem_cons.1 hi with h | h
        · exact absurd h.symm hy
        · exact h
      have := countP_dec hq hi' hp hn
      have hle : (if q y = true then 1 else 0) ≤ (if p y = true then 1 else 0 : Nat) := by
        cases hqy : q y with
        | false => simp
        | true => simp [hq y hqy]
      omega

def unl (m : Nat) (listed : Array Bool) : Nat := (List.range m).countP fun i => !listed.getD i false

theorem unl_set {m i : Nat} {listed : Array Bool} (hi : i < m) (hs : listed.size = m) (h : listed.getD i false = false) : unl m (listed.setIfInBounds i true) < unl m listed := by
  refine countP_dec (i := i) (fun k hk => ?_) (List.mem_range.2 hi) (by simp [h]) ?_
  · by_cases hki : k = i
    · subst hki; simp [h]
    · simp only [Array.getD_eq_getD_getElem?, Array.getElem?_setIfInBounds_ne (Ne.symm hki)] at hk ⊢
      exact hk
  · simp [Array.getD, hs, hi]

theorem noConf_symm {ops : Array Oper} {x y : Oper} {f g : Foot} (h : noConf ops x y f g = true) : noConf ops y x g f = true := by
  unfold noConf at *
  simp only [Bool.and_eq_true] at h ⊢
  obtain ⟨⟨⟨⟨h0, h1⟩, h2⟩, h3⟩, h4⟩ := h
  refine ⟨⟨⟨⟨?_, h2⟩, h1⟩, h4⟩, h3⟩
  obtain ⟨q1, q2, q3⟩ := Oper.apart_spec h0
  unfold Oper.apart
  rw [Bool.and_eq_true]
  constructor
  · cases hy : y.dst with
    | none => rfl
    | some d =>
      have h5 := q3 d hy
      have h6 : x.dst ≠ some d := fun e => q2 d e hy
      simp [h5, h6]
  · cases hx : x.dst with
    | none => rfl
    | some d => have h5 := q1 d hx; simp [h5]

theorem chkOne_get {ops : Array Oper} {n j : Nat} {y : Oper} {g : Foot} : ∀ {l : List (Oper × Foot)} {k : Nat}, chkOne ops n j y g k l = true → ∀ i q, l[i]? = some q → noConf ops q.1 y q.2 g = true ∨ prec ops n (k + i) j = true
  | [], _, _, i, q, h => by simp at h
  | (x, f) :: r, k, h, i, q, hq => by
    simp only [chkOne, Bool.and_eq_true, Bool.or_eq_true] at h
    cases i with
    | zero => simp at hq; subst hq; exact h.1
    | succ i =>
      have := chkOne_get h.2 i q (by simpa using hq)
      rwa [show k + 1 + i = k + (i + 1) by omega] at this

theorem chkAll_get {ops : Array Oper} {n : Nat} : ∀ {l : List (Oper × Foot)} {done : List (Oper × Foot)}, chkAll ops n done l = true → ∀ j q, l[j]? = some q →
    (∀ i r, (done ++ l)[i]? = some r → i < done.length + j → noConf ops r.1 q.1 r.2 q.2 = true ∨ prec ops n i (done.length + j) = true) ∧
    (∀ d, d ∈ q.1.after.toList → Region.binds .any d = true → d.on < done.length + j)
  | [], _, _, j, q, h => by simp at h
  | (y, g) :: l, done, h, j, q, hq => by
    simp only [chkAll, Bool.and_eq_true] at h
    obtain ⟨⟨h1, h2⟩, h3⟩ := h
    cases j with
    | zero =>
      simp at hq; subst hq
      refine ⟨fun i r hi hlt => ?_, fun d hd hb => ?_⟩
      · have hlt : i < done.length := by omega
        rw [List.getElem?_append_left hlt] at hi
        have := chkOne_get h1 i r hi
        rwa [Nat.zero_add] at this
      · have := List.all_eq_true.1 h2 d hd
        rw [hb] at this
        simp only [Bool.not_true, Bool.false_or] at this
        have : (d.on + 1).ble done.length = true := this
        exact Nat.le_of_ble_eq_true this
    | succ j =>
      have := chkAll_get h3 j q (by simpa using hq)
      simp only [List.append_assoc, List.cons_append, List.nil_append, List.length_append, List.length_cons, List.length_nil] at this
      rw [show done.length + (0 + 1) + j = done.length + (j + 1) by omega] at this
      exact this

/-- What is listed is listed with all that comes ahead of it. -/
def Down (ops : Array Oper) (S : Nat → Bool) : Prop := ∀ j o, ops[j]? = some o → S j = true → ∀ d, d ∈ o.after.toList → Region.binds .any d = true → S d.on = true

theorem prec_in {ops : Array Oper} {S : Nat → Bool} (hd : Down ops S) : ∀ {f i j : Nat}, prec ops f i j = true → (∀ o, ops[j]? = some o → ∀ d, d ∈ o.after.toList → Region.binds .any d = true → S d.on = true) → S i = true
  | 0, _, _, h, _ => by simp [prec] at h
  | f + 1, i, j, h, hj => by
    unfold prec at h
    split at h
    · rename_i o ho
      obtain ⟨d, hd1, hd2⟩ := List.any_eq_true.1 h
      simp only [Bool.and_eq_true, Bool.or_eq_true] at hd2
      have hS := hj o ho d hd1 hd2.1
      rcases hd2.2 with h3 | h3
      · rw [← Nat.eq_of_beq_eq_true h3]; exact hS
      · exact prec_in hd h3 fun o' ho' d' hd' hb' => hd d.on o' ho' hS d' hd' hb'
    · cases h

section
variable {n : Nat} {ops : Array Oper} {w : World} {g : G} {e e' : Env} {s s' : Store} {xs : List Step} {Q : Exit → Act → World → Prop}

theorem drawn_run (hops : xs.map (·.o) = ops.toList) (hc : Chain n xs e s e' s') (hdo : ∀ x, x ∈ xs → Does P n ops x) (hchk : chkAll ops ops.size [] (xs.map fun x => (x.o, x.f)) = true) (hfr : ∀ id, g.C id → id < s.length)
    (hq : ∀ w' g' a', Inv w' g' (getO s') → (∀ id, g'.C id → g.C id ∨ (s.length ≤ id ∧ id < s'.length)) → EnvR w' g' (getO s') e' a'.tmps → a'.tmps.size = n → a'.defers = [] → Ext w g (getO s) w' g' (getO s') → Q .normal a' w') :
    ∀ (fuel : Nat) (listed : Array Bool) (a1 : Act) (w1 : World) (g1 : G), listed.size = ops.size → Down ops (fun k => listed.getD k false) → unl ops.size listed ≤ fuel → D w g s e xs n (fun k => listed.getD k false) w1 g1 a1 → wpAny P .any ops Q fuel listed a1 w1 := by
  have hlen : xs.length = ops.size := by
    have := congrArg List.length hops
    simpa using this
  have hget : ∀ {k : Nat} {x : Step}, xs[k]? = some x → ops[k]? = some x.o := fun {k x} h => by
    rw [← Array.getElem?_toList, ← hops, List.getElem?_map, h]; rfl
  have hfine : ∀ x, x ∈ xs → Fine x := fun x hx => (hdo x hx).fine
  -- all listed: the end
  have last : ∀ (listed : Array Bool) (a1 : Act) (w1 : World) (g1 : G), (∀ k, k < ops.size → listed.getD k false = true) → D w g s e xs n (fun k => listed.getD k false) w1 g1 a1 → Q .normal a1 w1 := by
    intro listed a1 w1 g1 hall d
    have h1 := upto_state (k := 0) hc hfine (Nat.le_refl _)
    rw [stateAt_end hc] at h1
    have hE : envF (fun k => listed.getD k false) 0 xs e = e' := by
      refine Eq.trans ?_ h1.1
      funext t
      refine envF_eq (fun k y hk _ => ?_) rfl
      have hlt : k < xs.length := (List.getElem?_eq_some_iff.1 hk).1
      rw [Nat.zero_add, hall k (by omega)]; simp [hlt]
    have hσ : stF (fun k => listed.getD k false) 0 xs (getO s) = getO s' := by
      refine Eq.trans ?_ h1.2
      funext t
      refine stF_eq (fun k y hk _ => ?_) rfl
      have hlt : k < xs.length := (List.getElem?_eq_some_iff.1 hk).1
      rw [Nat.zero_add, hall k (by omega)]; simp [hlt]
    have d1 := d.inv; have d2 := d.env; have d3 := d.ext
    rw [hσ] at d1 d2 d3
    rw [hE] at d2
    refine hq w1 g1 a1 d1 (fun id hid => ?_) d2 d.size d.defers d3
    rcases d.new id hid with h | ⟨k, x, h, _, h8⟩
    · exact .inl h
    · have := chain_mono hc hfine h; exact .inr ⟨by omega, by omega⟩
  -- nothing is ready: all is listed
  have stuck : ∀ (listed : Array Bool), listed.size = ops.size → Region.ready .any ops listed = [] → ∀ k, k < ops.size → listed.getD k false = true := by
    intro listed hsz hr k
    induction k using Nat.strongRecOn with
    | _ k ih =>
      intro hk
      cases hl : listed.getD k false with
      | true => rfl
      | false =>
        have hk' : k < xs.length := by omega
        have hx : xs[k]? = some xs[k] := List.getElem?_eq_getElem hk'
        have : k ∈ Region.ready .any ops listed := by
          rw [mem_ready]
          refine ⟨?_, _, hget hx, fun d hd hb => ?_⟩
          · simp [Array.getD, hsz, hk] at hl ⊢; exact hl
          · have := (chkAll_get hchk k (xs[k].o, xs[k].f) (by rw [List.getElem?_map, hx]; rfl)).2 d (by simpa using hd) hb
            simp at this
            exact ih d.on this (by omega)
        rw [hr] at this; cases this
  intro fuel
  induction fuel with
  | zero =>
    intro listed a1 w1 g1 hsz hdown hun d
    have hall : ∀ k, k < ops.size → listed.getD k false = true := by
      intro k hk
      have h0 : unl ops.size listed = 0 := by omega
      unfold unl at h0
      rw [List.countP_eq_zero] at h0
      have := h0 k (List.mem_range.2 hk)
      simpa using this
    refine ⟨?_, last listed a1 w1 g1 hall d⟩
    rw [List.eq_nil_iff_forall_not_mem]
    intro k hk
    rw [mem_ready] at hk
    obtain ⟨h1, o, h2, _⟩ := hk
    have hlt : k < ops.size := (Array.getElem?_eq_some_iff.1 h2).1
    have := hall k hlt
    simp [Array.getD, hsz, hlt] at this h1
    rw [this] at h1; cases h1
  | succ fuel ih =>
    intro listed a1 w1 g1 hsz hdown hun d
    refine ⟨fun hr => last listed a1 w1 g1 (stuck listed hsz hr) d, fun i hi => ?_⟩
    rw [mem_ready] at hi
    obtain ⟨h1, o, h2, h3⟩ := hi
    have hlt : i < ops.size := (Array.getElem?_eq_some_iff.1 h2).1
    have hx : xs[i]? = some xs[i] := List.getElem?_eq_getElem (by omega)
    generalize xs[i] = x at hx
    have ho : o = x.o := by have := hget hx; rw [h2] at this; exact Option.some.inj this
    subst ho
    have hout : listed.getD i false = false := by simp [Array.getD, hsz, hlt] at h1 ⊢; exact h1
    have hpre : ∀ o', ops[i]? = some o' → ∀ d, d ∈ o'.after.toList → Region.binds .any d = true → listed.getD d.on false = true := fun o' ho' dd hd hb => by
      rw [h2] at ho'; cases ho'; exact h3 dd (by simpa using hd) hb
    have m : Mid ops n xs e s e' s' (fun k => listed.getD k false) i x := {
      chain := hc
      fine := hfine
      at_ := hx
      out := hout
      agree := fun k y hk hki hcf => by
        by_cases hlt : k < i
        · have := (chkAll_get hchk i (x.o, x.f) (by rw [List.getElem?_map, hx]; rfl)).1 k (y.o, y.f) (by simp [hk]) (by simpa using hlt)
          rcases this with h | h
          · rw [show noConf ops y.o x.o y.f x.f = true from h] at hcf; cases hcf
          · have := prec_in (S := fun k => listed.getD k false) hdown h (by simpa using hpre)
            simpa [hlt] using this
        · have hik : i < k := by omega
          have hcf' : noConf ops x.o y.o x.f y.f = false := by
            cases hb : noConf ops x.o y.o x.f y.f with
            | false => rfl
            | true => rw [noConf_symm hb] at hcf; cases hcf
          have := (chkAll_get hchk k (y.o, y.f) (by rw [List.getElem?_map, hk]; rfl)).1 i (x.o, x.f) (by simp [hx]) (by simpa using hik)
          rcases this with h | h
          · rw [show noConf ops x.o y.o x.f y.f = true from h] at hcf'; cases hcf'
          · have hn : ¬ k < i := hlt
            simp only [hn, decide_false]
            cases hS : listed.getD k false with
            | false => rfl
            | true =>
              have := prec_in (S := fun k => listed.getD k false) hdown h (fun o' ho' dd hd hb => hdown k o' (by simpa using ho') hS dd hd hb)
              have this : listed.getD i false = true := this
              rw [hout] at this; cases this }
    have hS' : (fun k => (listed.setIfInBounds i true).getD k false) = also (fun k => listed.getD k false) i := by
      funext k
      unfold also
      by_cases hki : k = i
      · subst hki; simp [Array.getD, hsz, hlt]
      · simp only [Array.getD_eq_getD_getElem?, Array.getElem?_setIfInBounds_ne (Ne.symm hki)]
        simp [hki]
    have next : ∀ y w2, Beh w1 g1 (stF (fun k => listed.getD k false) 0 xs (getO s)) (stF (also (fun k => listed.getD k false) i) 0 xs (getO s)) x y w2 → wpAny P .any ops Q fuel (listed.setIfInBounds i true) (a1.put x.o.dst y) w2 := by
      intro y w2 hb
      obtain ⟨g2, d2⟩ := m.fin d hb
      rw [← hS'] at d2
      refine ih _ _ _ g2 (by simpa using hsz) ?_ ?_ d2
      · intro j o' hj hS dd hd hbb
        show (listed.setIfInBounds i true).getD dd.on false = true
        have hS : (listed.setIfInBounds i true).getD j false = true := hS
        have e1 := congrFun hS' j
        have e2 := congrFun hS' dd.on
        simp only [also] at e1 e2
        rw [e1] at hS
        rw [e2]
        simp only [Bool.or_eq_true, decide_eq_true_eq] at hS ⊢
        rcases hS with hS | hS
        · exact .inl (hdown j o' hj hS dd hd hbb)
        · subst hS; exact .inl (hpre o' hj dd hd hbb)
      · have := unl_set hlt hsz hout
        omega
    unfold wpOp
    rw [h2]
    simp only []
    have hD := hdo x m.mem
    have hrun : StepSem P x → x.o.wp P a1 w1 (wpAny P .any ops Q fuel (listed.setIfInBounds i true)) Q := fun hs => (m.run d hfr hs).wp fun y w2 hb => next y w2 hb
    unfold Does at hD
    split at hD
    · rename_i hg
      rw [if_pos (by simp [Region.wanted, hg])]
      exact .inl (hrun hD)
    · rename_i j want hg
      obtain ⟨t, b, ht, htn, hev, hcase⟩ := hD
      have hlook : t ∈ x.o.looksAt ops := by
        unfold Oper.looksAt
        refine List.mem_append_right _ ?_
        rw [hg]; simp [ht]
      have hv := d.env t
      rw [m.env0 hlook, hev] at hv
      have hv := hv.inv_bool
      have hy : yielded ops a1.tmps j = some b := by
        unfold yielded
        rw [ht]
        have : a1.tmps[t]? = some (.bool b) := by
          rw [Array.getD_eq_getD_getElem?] at hv
          have hs : t < a1.tmps.size := by rw [d.size]; exact htn
          rw [Array.getElem?_eq_getElem hs] at hv ⊢
          simpa using hv
        simp [this]
      rcases hcase with ⟨hb, hs⟩ | ⟨hb, hv0, hs1, hf⟩
      · have hbw : b = want := by simpa using hb
        rw [if_pos (by simp [Region.wanted, hg, hy, hbw])]
        exact .inl (hrun hs)
      · have hbw : b ≠ want := by simpa using hb
        rw [if_neg (by simp [Region.wanted, hg, hy, hbw])]
        refine next undef w1 ⟨g1, ?_, ?_, ?_, fun id h => .inl h⟩
        · rw [hv0]; exact .undef _
        all_goals
          have hσ : stF (also (fun k => listed.getD k false) i) 0 xs (getO s) = stF (fun k => listed.getD k false) 0 xs (getO s) := funext fun id => m.st2 (by
            rw [Bool.eq_false_iff]; intro hw; rw [isWr_iff, mem_news, hf] at hw; simp at hw; omega)
          rw [hσ]
        · exact d.inv
        · exact .refl _ _ _

theorem drawn_sound {K : Env → Store → Prop} {a : Act} {id : Nat} (h : adops P n ops ops.toList [] K e s) (hm : P.follows .mixedOrders = true) (hinv : Inv w g (getO s)) (hfr : ∀ id, g.C id → id < s.length) (henv : EnvR w g (getO s) e a.tmps) (hsz : a.tmps.size = n) (hdf : a.defers = [])
    (hq : ∀ w' g' e' s' a', K e' s' → Inv w' g' (getO s') → (∀ id, g'.C id → g.C id ∨ (s.length ≤ id ∧ id < s'.length)) → EnvR w' g' (getO s') e' a'.tmps → a'.tmps.size = n → a'.defers = [] → Ext w g (getO s) w' g' (getO s') → s.length ≤ s'.length → Q .normal a' w') :
    (Code.region id ops true).wp P Q a w := by
  obtain ⟨xs, e', s', k1, k2, k3, k4, k5⟩ := adops_trace h
  refine wp_region_any hm ?_
  have hx : Ext w g (getO s) { w with drawn := w.drawn + 1 } g (getO s) :=
    ⟨Nat.le_refl _, rfl, rfl, rfl, fun _ _ _ => rfl, fun _ _ => rfl, rfl, fun _ h => h, fun _ _ h => h, fun _ _ o h => ⟨o, h, .refl o⟩, fun _ _ _ => rfl, fun _ _ _ _ _ _ _ _ => rfl⟩
  have hS0 : ∀ k, (Array.replicate ops.size false).getD k false = false := fun k => by
    by_cases hk : k < ops.size <;> simp [Array.getD, hk]
  have hE : envF (fun k => (Array.replicate ops.size false).getD k false) 0 xs e = e := envF_stop fun i _ => hS0 i
  have hσ : stF (fun k => (Array.replicate ops.size false).getD k false) 0 xs (getO s) = getO s := stF_stop fun i _ => hS0 i
  refine drawn_run (w := w) (g := g) k1 k2 k3 (by simpa using k4) hfr (fun w' g' a' q1 q2 q3 q4 q5 q6 => hq w' g' e' s' a' k5 q1 q2 q3 q4 q5 q6 (chain_mono.chain_len k2 fun x hx => (k3 x hx).fine))
    ops.size _ a _ g (by simp) (fun j o hj hS => by simp only [hS0] at hS; cases hS) ?_ ?_
  · unfold unl
    exact Nat.le_trans List.countP_le_length (by simp)
  · refine ⟨?_, ?_, hsz, hdf, ?_, fun id h => .inl h⟩
    · rw [hσ]
      exact ⟨hinv.made, hinv.lies, hinv.xlt, hinv.inj, fun id o h => hx.repO rfl (hinv.rep id o h)⟩
    · rw [hσ, hE]; exact fun t => hx.repA (henv t)
    · rw [hσ]; exact hx
end
end Go.Proofs.Ytfjolephpghafaa.AW
