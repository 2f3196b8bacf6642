/- A part of the proof: AW/Drawn4, AW/Code, AW/Fun, AW/Pure, AW/Lend, AW/Ext, AW/Str, AW/Str2, AW/Pure2, AW/Frame, AW/Weak, AW/Deep, AW/Foreign. -/
import Derived.Test.YtlnelaajlhfabaaGreatP5
import Derived.Scope
import Derived.Below
namespace Go.Proofs.YtlnelaajlhfabaaGreat.AW
set_option linter.unusedSimpArgs false
set_option linter.unusedVariables false
variable {P : Program}

theorem countP_dec {p q : Nat → Bool} {i : Nat} : ∀ {l : List Nat}, (∀ k, q k = true → p k = true) → i ∈ l → p i = true → q i = false → l.countP q < l.countP p
  | y :: r, hq, hi, hp, hn => by
    have mono : ∀ l : List Nat, l.countP q ≤ l.countP p := fun l => List.countP_mono_left (fun k _ hk => hq k hk)
    rw [List.countP_cons, List.countP_cons]
    by_cases hy : y = i
    · subst hy
      have := mono r
      simp [hp, hn]; omega
    · have hi' : i ∈ r := by
        rcases List.mem_cons.1 hi with h | h
        · exact absurd h.symm hy
        · exact h
      have := countP_dec hq hi' hp hn
      have hle : (if q y = true then 1 else 0) ≤ (if p y = true then 1 else 0 : Nat) := by
        cases hqy : q y with
        | false => simp
        | true => simp [hq y hqy]
      omega

def unl (m : Nat) (listed : Array Bool) : Nat := (List.range m).countP fun i => !listed.getD i false

theorem unl_set {m i : Nat} {listed : Array Bool} (hi : i < m) (hs : listed.size = m) (h : listed.getD i false = false) : unl m (listed.setIfInBounds i true) < unl m listed := by
  refine countP_dec (i := i) (fun k hk => ?_) (List.mem_range.2 hi) (by simp [h]) ?_
  · by_cases hki : k = i
    · subst hki; simp [h]
    · simp only [Array.getD_eq_getD_getElem?, Array.getElem?_setIfInBounds_ne (Ne.symm hki)] at hk ⊢
      exact hk
  · simp [Array.getD, hs, hi]

theorem noConf_symm {ops : Array Oper} {x y : Oper} {f g : Foot} (h : noConf ops x y f g = true) : noConf ops y x g f = true := by
  unfold noConf at *
  simp only [Bool.and_eq_true] at h ⊢
  obtain ⟨⟨⟨⟨h0, h1⟩, h2⟩, h3⟩, h4⟩ := h
  refine ⟨⟨⟨⟨?_, h2⟩, h1⟩, h4⟩, h3⟩
  obtain ⟨q1, q2, q3⟩ := Oper.apart_spec h0
  unfold Oper.apart
  rw [Bool.and_eq_true]
  constructor
  · cases hy : y.dst with
    | none => rfl
    | some d =>
      have h5 := q3 d hy
      have h6 : x.dst ≠ some d := fun e => q2 d e hy
      simp [h5, h6]
  · cases hx : x.dst with
    | none => rfl
    | some d => have h5 := q1 d hx; simp [h5]

theorem chkOne_get {ops : Array Oper} {n j : Nat} {y : Oper} {g : Foot} : ∀ {l : List (Oper × Foot)} {k : Nat}, chkOne ops n j y g k l = true → ∀ i q, l[i]? = some q → noConf ops q.1 y q.2 g = true ∨ prec ops n (k + i) j = true
  | [], _, _, i, q, h => by simp at h
  | (x, f) :: r, k, h, i, q, hq => by
    simp only [chkOne, Bool.and_eq_true, Bool.or_eq_true] at h
    cases i with
    | zero => simp at hq; subst hq; exact h.1
    | succ i =>
      have := chkOne_get h.2 i q (by simpa using hq)
      rwa [show k + 1 + i = k + (i + 1) by omega] at this

theorem chkAll_get {ops : Array Oper} {n : Nat} : ∀ {l : List (Oper × Foot)} {done : List (Oper × Foot)}, chkAll ops n done l = true → ∀ j q, l[j]? = some q →
    (∀ i r, (done ++ l)[i]? = some r → i < done.length + j → noConf ops r.1 q.1 r.2 q.2 = true ∨ prec ops n i (done.length + j) = true) ∧
    (∀ d, d ∈ q.1.after.toList → Region.binds .any d = true → d.on < done.length + j)
  | [], _, _, j, q, h => by simp at h
  | (y, g) :: l, done, h, j, q, hq => by
    simp only [chkAll, Bool.and_eq_true] at h
    obtain ⟨⟨h1, h2⟩, h3⟩ := h
    cases j with
    | zero =>
      simp at hq; subst hq
      refine ⟨fun i r hi hlt => ?_, fun d hd hb => ?_⟩
      · have hlt : i < done.length := by omega
        rw [List.getElem?_append_left hlt] at hi
        have := chkOne_get h1 i r hi
        rwa [Nat.zero_add] at this
      · have := List.all_eq_true.1 h2 d hd
        rw [hb] at this
        simp only [Bool.not_true, Bool.false_or] at this
        have : (d.on + 1).ble done.length = true := this
        exact Nat.le_of_ble_eq_true this
    | succ j =>
      have := chkAll_get h3 j q (by simpa using hq)
      simp only [List.append_assoc, List.cons_append, List.nil_append, List.length_append, List.length_cons, List.length_nil] at this
      rw [show done.length + (0 + 1) + j = done.length + (j + 1) by omega] at this
      exact this

/-- What is listed is listed with all that comes ahead of it. -/
def Down (ops : Array Oper) (S : Nat → Bool) : Prop := ∀ j o, ops[j]? = some o → S j = true → ∀ d, d ∈ o.after.toList → Region.binds .any d = true → S d.on = true

theorem prec_in {ops : Array Oper} {S : Nat → Bool} (hd : Down ops S) : ∀ {f i j : Nat}, prec ops f i j = true → (∀ o, ops[j]? = some o → ∀ d, d ∈ o.after.toList → Region.binds .any d = true → S d.on = true) → S i = true
  | 0, _, _, h, _ => by simp [prec] at h
  | f + 1, i, j, h, hj => by
    unfold prec at h
    split at h
    · rename_i o ho
      obtain ⟨d, hd1, hd2⟩ := List.any_eq_true.1 h
      simp only [Bool.and_eq_true, Bool.or_eq_true] at hd2
      have hS := hj o ho d hd1 hd2.1
      rcases hd2.2 with h3 | h3
      · rw [← Nat.eq_of_beq_eq_true h3]; exact hS
      · exact prec_in hd h3 fun o' ho' d' hd' hb' => hd d.on o' ho' hS d' hd' hb'
    · cases h

section
variable {n : Nat} {ops : Array Oper} {w : World} {g : G} {e e' : Env} {s s' : Store} {xs : List Step} {Q : Exit → Act → World → Prop}

theorem drawn_run (hops : xs.map (·.o) = ops.toList) (hc : Chain n xs e s e' s') (hdo : ∀ x, x ∈ xs → Does P n ops x) (hchk : chkAll ops ops.size [] (xs.map fun x => (x.o, x.f)) = true) (hG0 : Gk P w g (getO s)) (hfr : ∀ id, g.C id → id < s.length)
    (hq : ∀ w' g' a', Inv w' g' (getO s') → (∀ id, g'.C id → g.C id ∨ (s.length ≤ id ∧ id < s'.length)) → EnvR w' g' (getO s') e' a'.tmps → a'.tmps.size = n → a'.defers = [] → Ext w g (getO s) w' g' (getO s') → Q .normal a' w') :
    ∀ (fuel : Nat) (listed : Array Bool) (a1 : Act) (w1 : World) (g1 : G), listed.size = ops.size → Down ops (fun k => listed.getD k false) → unl ops.size listed ≤ fuel → D w g s e xs n (fun k => listed.getD k false) w1 g1 a1 → wpAny P .any ops Q fuel listed a1 w1 := by
  have hlen : xs.length = ops.size := by
    have := congrArg List.length hops
    simpa using this
  have hget : ∀ {k : Nat} {x : Step}, xs[k]? = some x → ops[k]? = some x.o := fun {k x} h => by
    rw [← Array.getElem?_toList, ← hops, List.getElem?_map, h]; rfl
  have hfine : ∀ x, x ∈ xs → Fine x := fun x hx => (hdo x hx).fine
  -- all listed: the end
  have last : ∀ (listed : Array Bool) (a1 : Act) (w1 : World) (g1 : G), (∀ k, k < ops.size → listed.getD k false = true) → D w g s e xs n (fun k => listed.getD k false) w1 g1 a1 → Q .normal a1 w1 := by
    intro listed a1 w1 g1 hall d
    have h1 := upto_state (k := 0) hc hfine (Nat.le_refl _)
    rw [stateAt_end hc] at h1
    have hE : envF (fun k => listed.getD k false) 0 xs e = e' := by
      refine Eq.trans ?_ h1.1
      funext t
      refine envF_eq (fun k y hk _ => ?_) rfl
      have hlt : k < xs.length := (List.getElem?_eq_some_iff.1 hk).1
      rw [Nat.zero_add, hall k (by omega)]; simp [hlt]
    have hσ : stF (fun k => listed.getD k false) 0 xs (getO s) = getO s' := by
      refine Eq.trans ?_ h1.2
      funext t
      refine stF_eq (fun k y hk _ => ?_) rfl
      have hlt : k < xs.length := (List.getElem?_eq_some_iff.1 hk).1
      rw [Nat.zero_add, hall k (by omega)]; simp [hlt]
    have d1 := d.inv; have d2 := d.env; have d3 := d.ext
    rw [hσ] at d1 d2 d3
    rw [hE] at d2
    refine hq w1 g1 a1 d1 (fun id hid => ?_) d2 d.size d.defers d3
    rcases d.new id hid with h | ⟨k, x, h, _, h8⟩
    · exact .inl h
    · have := chain_mono hc hfine h; exact .inr ⟨by omega, by omega⟩
  -- nothing is ready: all is listed
  have stuck : ∀ (listed : Array Bool), listed.size = ops.size → Region.ready .any ops listed = [] → ∀ k, k < ops.size → listed.getD k false = true := by
    intro listed hsz hr k
    induction k using Nat.strongRecOn with
    | _ k ih =>
      intro hk
      cases hl : listed.getD k false with
      | true => rfl
      | false =>
        have hk' : k < xs.length := by omega
        have hx : xs[k]? = some xs[k] := List.getElem?_eq_getElem hk'
        have : k ∈ Region.ready .any ops listed := by
          rw [mem_ready]
          refine ⟨?_, _, hget hx, fun d hd hb => ?_⟩
          · simp [Array.getD, hsz, hk] at hl ⊢; exact hl
          · have := (chkAll_get hchk k (xs[k].o, xs[k].f) (by rw [List.getElem?_map, hx]; rfl)).2 d (by simpa using hd) hb
            simp at this
            exact ih d.on this (by omega)
        rw [hr] at this; cases this
  intro fuel
  induction fuel with
  | zero =>
    intro listed a1 w1 g1 hsz hdown hun d
    have hall : ∀ k, k < ops.size → listed.getD k false = true := by
      intro k hk
      have h0 : unl ops.size listed = 0 := by omega
      unfold unl at h0
      rw [List.countP_eq_zero] at h0
      have := h0 k (List.mem_range.2 hk)
      simpa using this
    refine ⟨?_, last listed a1 w1 g1 hall d⟩
    rw [List.eq_nil_iff_forall_not_mem]
    intro k hk
    rw [mem_ready] at hk
    obtain ⟨h1, o, h2, _⟩ := hk
    have hlt : k < ops.size := (Array.getElem?_eq_some_iff.1 h2).1
    have := hall k hlt
    simp [Array.getD, hsz, hlt] at this h1
    rw [this] at h1; cases h1
  | succ fuel ih =>
    intro listed a1 w1 g1 hsz hdown hun d
    refine ⟨fun hr => last listed a1 w1 g1 (stuck listed hsz hr) d, fun i hi => ?_⟩
    rw [mem_ready] at hi
    obtain ⟨h1, o, h2, h3⟩ := hi
    have hlt : i < ops.size := (Array.getElem?_eq_some_iff.1 h2).1
    have hx : xs[i]? = some xs[i] := List.getElem?_eq_getElem (by omega)
    generalize xs[i] = x at hx
    have ho : o = x.o := by have := hget hx; rw [h2] at this; exact Option.some.inj this
    subst ho
    have hout : listed.getD i false = false := by simp [Array.getD, hsz, hlt] at h1 ⊢; exact h1
    have hpre : ∀ o', ops[i]? = some o' → ∀ d, d ∈ o'.after.toList → Region.binds .any d = true → listed.getD d.on false = true := fun o' ho' dd hd hb => by
      rw [h2] at ho'; cases ho'; exact h3 dd (by simpa using hd) hb
    have m : Mid ops n xs e s e' s' (fun k => listed.getD k false) i x := {
      chain := hc
      fine := hfine
      at_ := hx
      out := hout
      agree := fun k y hk hki hcf => by
        by_cases hlt : k < i
        · have := (chkAll_get hchk i (x.o, x.f) (by rw [List.getElem?_map, hx]; rfl)).1 k (y.o, y.f) (by simp [hk]) (by simpa using hlt)
          rcases this with h | h
          · rw [show noConf ops y.o x.o y.f x.f = true from h] at hcf; cases hcf
          · have := prec_in (S := fun k => listed.getD k false) hdown h (by simpa using hpre)
            simpa [hlt] using this
        · have hik : i < k := by omega
          have hcf' : noConf ops x.o y.o x.f y.f = false := by
            cases hb : noConf ops x.o y.o x.f y.f with
            | false => rfl
            | true => rw [noConf_symm hb] at hcf; cases hcf
          have := (chkAll_get hchk k (y.o, y.f) (by rw [List.getElem?_map, hk]; rfl)).1 i (x.o, x.f) (by simp [hx]) (by simpa using hik)
          rcases this with h | h
          · rw [show noConf ops x.o y.o x.f y.f = true from h] at hcf'; cases hcf'
          · have hn : ¬ k < i := hlt
            simp only [hn, decide_false]
            cases hS : listed.getD k false with
            | false => rfl
            | true =>
              have := prec_in (S := fun k => listed.getD k false) hdown h (fun o' ho' dd hd hb => hdown k o' (by simpa using ho') hS dd hd hb)
              have this : listed.getD i false = true := this
              rw [hout] at this; cases this }
    have hS' : (fun k => (listed.setIfInBounds i true).getD k false) = also (fun k => listed.getD k false) i := by
      funext k
      unfold also
      by_cases hki : k = i
      · subst hki; simp [Array.getD, hsz, hlt]
      · simp only [Array.getD_eq_getD_getElem?, Array.getElem?_setIfInBounds_ne (Ne.symm hki)]
        simp [hki]
    have next : ∀ y w2, Beh w1 g1 (stF (fun k => listed.getD k false) 0 xs (getO s)) (stF (also (fun k => listed.getD k false) i) 0 xs (getO s)) x y w2 → wpAny P .any ops Q fuel (listed.setIfInBounds i true) (a1.put x.o.dst y) w2 := by
      intro y w2 hb
      obtain ⟨g2, d2⟩ := m.fin d hb
      rw [← hS'] at d2
      refine ih _ _ _ g2 (by simpa using hsz) ?_ ?_ d2
      · intro j o' hj hS dd hd hbb
        show (listed.setIfInBounds i true).getD dd.on false = true
        have hS : (listed.setIfInBounds i true).getD j false = true := hS
        have e1 := congrFun hS' j
        have e2 := congrFun hS' dd.on
        simp only [also] at e1 e2
        rw [e1] at hS
        rw [e2]
        simp only [Bool.or_eq_true, decide_eq_true_eq] at hS ⊢
        rcases hS with hS | hS
        · exact .inl (hdown j o' hj hS dd hd hbb)
        · subst hS; exact .inl (hpre o' hj dd hd hbb)
      · have := unl_set hlt hsz hout
        omega
    unfold wpOp
    rw [h2]
    simp only []
    have hD := hdo x m.mem
    have hrun : StepSem P x → x.o.wp P a1 w1 (wpAny P .any ops Q fuel (listed.setIfInBounds i true)) Q := fun hs => (m.run d hG0 hfr hs).wp fun y w2 hb => next y w2 hb
    unfold Does at hD
    split at hD
    · rename_i hg
      rw [if_pos (by simp [Region.wanted, hg])]
      exact .inl (hrun hD)
    · rename_i j want hg
      obtain ⟨t, b, ht, htn, hev, hcase⟩ := hD
      have hlook : t ∈ x.o.looksAt ops := by
        unfold Oper.looksAt
        refine List.mem_append_right _ ?_
        rw [hg]; simp [ht]
      have hv := d.env t
      rw [m.env0 hlook, hev] at hv
      have hv := hv.inv_bool
      have hy : yielded ops a1.tmps j = some b := by
        unfold yielded
        rw [ht]
        have : a1.tmps[t]? = some (.bool b) := by
          rw [Array.getD_eq_getD_getElem?] at hv
          have hs : t < a1.tmps.size := by rw [d.size]; exact htn
          rw [Array.getElem?_eq_getElem hs] at hv ⊢
          simpa using hv
        simp [this]
      rcases hcase with ⟨hb, hs⟩ | ⟨hb, hv0, hs1, hf⟩
      · have hbw : b = want := by simpa using hb
        rw [if_pos (by simp [Region.wanted, hg, hy, hbw])]
        exact .inl (hrun hs)
      · have hbw : b ≠ want := by simpa using hb
        rw [if_neg (by simp [Region.wanted, hg, hy, hbw])]
        refine next undef w1 ⟨g1, ?_, ?_, ?_, fun id h => .inl h⟩
        · rw [hv0]; exact .undef _
        all_goals
          have hσ : stF (also (fun k => listed.getD k false) i) 0 xs (getO s) = stF (fun k => listed.getD k false) 0 xs (getO s) := funext fun id => m.st2 (by
            rw [Bool.eq_false_iff]; intro hw; rw [isWr_iff, mem_news, hf] at hw; simp at hw; omega)
          rw [hσ]
        · exact d.inv
        · exact .refl _ _ _

theorem drawn_sound {K : Env → Store → Prop} {a : Act} {id : Nat} (h : adops P n ops ops.toList [] K e s) (hm : P.follows .mixedOrders = true) (hinv : Inv w g (getO s)) (hG0 : Gk P w g (getO s)) (hfr : ∀ id, g.C id → id < s.length) (henv : EnvR w g (getO s) e a.tmps) (hsz : a.tmps.size = n) (hdf : a.defers = [])
    (hq : ∀ w' g' e' s' a', K e' s' → Inv w' g' (getO s') → (∀ id, g'.C id → g.C id ∨ (s.length ≤ id ∧ id < s'.length)) → EnvR w' g' (getO s') e' a'.tmps → a'.tmps.size = n → a'.defers = [] → Ext w g (getO s) w' g' (getO s') → s.length ≤ s'.length → Q .normal a' w') :
    (Code.region id ops true).wp P Q a w := by
  obtain ⟨xs, e', s', k1, k2, k3, k4, k5⟩ := adops_trace h
  refine wp_region_any hm ?_
  have hx : Ext w g (getO s) { w with drawn := w.drawn + 1 } g (getO s) :=
    ⟨Nat.le_refl _, rfl, rfl, rfl, fun _ _ _ => rfl, fun _ _ => rfl, rfl, fun _ h => h, fun _ _ h => h, fun _ _ o h => ⟨o, h, .refl o⟩, fun _ _ _ => ⟨rfl, .rfl⟩, fun _ _ _ _ _ _ _ _ _ _ => ⟨rfl, .rfl⟩, Nat.le_succ _⟩
  have hS0 : ∀ k, (Array.replicate ops.size false).getD k false = false := fun k => by
    by_cases hk : k < ops.size <;> simp [Array.getD, hk]
  have hE : envF (fun k => (Array.replicate ops.size false).getD k false) 0 xs e = e := envF_stop fun i _ => hS0 i
  have hσ : stF (fun k => (Array.replicate ops.size false).getD k false) 0 xs (getO s) = getO s := stF_stop fun i _ => hS0 i
  refine drawn_run (w := w) (g := g) k1 k2 k3 (by simpa using k4) hG0 hfr (fun w' g' a' q1 q2 q3 q4 q5 q6 => hq w' g' e' s' a' k5 q1 q2 q3 q4 q5 q6 (chain_mono.chain_len k2 fun x hx => (k3 x hx).fine))
    ops.size _ a _ g (by simp) (fun j o hj hS => by simp only [hS0] at hS; cases hS) ?_ ?_
  · unfold unl
    exact Nat.le_trans List.countP_le_length (by simp)
  · refine ⟨?_, ?_, hsz, hdf, ?_, fun id h => .inl h⟩
    · rw [hσ]
      exact ⟨hinv.made, hinv.lies, hinv.xlt, hinv.inj, fun id o h hr => hx.repO rfl (hinv.rep id o h hr), hinv.void⟩
    · rw [hσ, hE]; exact fun t => hx.repA (henv t)
    · rw [hσ]; exact hx
end
end Go.Proofs.YtlnelaajlhfabaaGreat.AW

namespace Go.Proofs.YtlnelaajlhfabaaGreat.AW
set_option linter.unusedSimpArgs false
set_option linter.unusedVariables false
variable {P : Program}

theorem aop_ok {o : Oper} {e : Env} {s : Store} {K : AV → Store → Prop} {w : World} {g : G} {a : Act} (h : aop P o.op e s K) (c : Cx w g (getO s) s (fun _ => True) True) (hG : Gk P w g (getO s)) (hfresh : ∀ id, g.C id → id < s.length) (he : EnvR w g (getO s) e a.tmps) :
    OpOk P o a w (Rs w g (getO s) s (fun _ => True) K) := by
  generalize hop : o.op = op at h
  cases op
  case move => exact ok_move (.inl hop) (by simpa [aop] using h) c he
  case assign => exact ok_move (.inr hop) (by simpa [aop] using h) c he
  case pick => exact ok_pick hop h c he
  case alloc => exact ok_alloc hop h (fun _ _ _ _ => trivial) c
  case box => exact ok_box hop h (fun _ _ _ _ => trivial) c he
  case build => exact ok_build hop h c he
  case buildSlice => exact ok_buildSlice hop h (fun _ _ _ _ => trivial) c (fun _ _ _ _ => trivial) he
  case load => exact ok_load hop h c (fun _ _ => trivial) he
  case store => exact ok_store hop h c (fun _ _ => trivial) (fun _ _ _ _ _ _ _ _ _ _ => trivial) he
  case nilCheck => exact ok_nilCheck hop h c he
  case binOp => exact ok_binOp hop h c (fun _ _ _ _ _ _ => ⟨trivial, trivial⟩) he
  case unOp => exact ok_unOp hop h c he
  case convert => exact ok_convert hop h c (fun _ _ => trivial) he
  case makeInterface => exact ok_makeInterface hop h c (fun _ _ => trivial) he
  case makeFunc => exact ok_makeFunc hop h c he
  case makeSlice => exact ok_makeSlice hop h (fun _ _ _ _ => trivial) c he
  case slice => exact ok_slice hop h c (fun _ _ => trivial) he
  case fieldAddr => exact ok_fieldAddr hop h c he
  case field => exact ok_field hop h c he
  case indexAddr => exact ok_indexAddr hop h c hG (fun _ _ => trivial) he
  case index => exact ok_index hop h c he
  case range => exact ok_range hop h (fun _ _ _ _ => trivial) c (fun _ _ => trivial) he
  case makeMap => exact ok_makeMap hop h (fun _ _ _ _ => trivial) c
  case lookup => exact ok_lookup hop h c (fun _ _ => trivial) he
  case mapUpdate => exact ok_mapUpdate hop h c (fun _ _ => trivial) he
  case next => exact ok_next hop h c (fun _ _ => trivial) (fun _ _ _ _ _ _ _ => trivial) he
  case entry x =>
    simp only [aop] at h
    split at h
    · rename_i id hev
      split at h
      · rename_i mid bs l b cl hg
        split at h
        · rename_i kk es clock hgm
          exact entryM hop hev hg hgm h c trivial trivial he
        · exact h.elim
      · exact h.elim
    · exact h.elim
  case typeAssert => exact ok_typeAssert hop h c he
  case extract => exact ok_extract hop h c he
  case call cl =>
    obtain ⟨callee, args, ts⟩ := cl
    simp only [aop, callA] at h
    cases callee with
    | builtin b => exact ok_builtin hop h (fun _ _ _ _ => trivial) c (fun _ _ _ _ => trivial) he
    | value f =>
      simp only [] at h
      split at h
      · rename_i k caps hev; exact ok_call hop hev h c hG hfresh he
      · exact h.elim
    | invoke r n => exact h.elim
  all_goals (simp only [aop] at h)

/-! ### States -/
structure Sts (P : Program) (n : Nat) (w : World) (g : G) (e : Env) (s : Store) (a : Act) : Prop where
  inv : Inv w g (getO s)
  glob : Gk P w g (getO s)
  fresh : ∀ id, g.C id → id < s.length
  env : EnvR w g (getO s) e a.tmps
  size : a.tmps.size = n
  defers : a.defers = []

structure Fr (w : World) (g : G) (s : Store) (w' : World) (g' : G) (s' : Store) : Prop where
  ext : Ext w g (getO s) w' g' (getO s')
  len : s.length ≤ s'.length
  new : ∀ id, g'.C id → g.C id ∨ (s.length ≤ id ∧ id < s'.length)

theorem Fr.refl {n w g e s a} (_h : Sts P n w g e s a) : Fr w g s w g s := ⟨.refl _ _ _, Nat.le_refl _, fun _ h => .inl h⟩
theorem Fr.trans {w g s w' g' s' w'' g'' s''} (h : Fr w g s w' g' s') (k : Fr w' g' s' w'' g'' s'') : Fr w g s w'' g'' s'' :=
  ⟨h.ext.trans k.ext, Nat.le_trans h.len k.len, fun id hid => by
    have := h.len; have := k.len
    rcases k.new id hid with h1 | ⟨h1, h2⟩
    · rcases h.new id h1 with h3 | ⟨h3, h4⟩
      · exact .inl h3
      · exact .inr ⟨h3, by omega⟩
    · exact .inr ⟨by omega, h2⟩⟩

theorem Sts.cx {n w g e s a} (h : Sts P n w g e s a) : Cx w g (getO s) s (fun _ => True) True := ⟨h.inv, fun _ _ => rfl, fun _ hc => Nat.lt_irrefl _ (h.fresh _ hc)⟩

theorem Sts.put {n w g e s a} (h : Sts P n w g e s a) {K : AV → Store → Prop} {x : Value} {w' : World} {v : AV} {s' : Store} {g' : G} (r : Res w g (getO s) s (fun _ => True) K x w' v s' g') {dst : Option Nat} {K' : Env → Prop} (hp : putK n e dst v K') :
    ∃ e', K' e' ∧ Sts P n w' g' e' s' (a.put dst x) ∧ Fr w g s w' g' s' := by
  have hov : ovr (fun _ => True) s s' (getO s) = getO s' := by funext i; simp [ovr]
  have hr := r.rep; have hi := r.inv; have hx := r.ext
  rw [hov] at hr hi hx
  have hold : EnvR w' g' (getO s') e a.tmps := fun t => hx.repA (h.env t)
  have hfresh : ∀ id, g'.C id → id < s'.length := fun id hid => by
    have := r.len
    rcases r.new id hid with h1 | h1
    · have := h.fresh id h1; omega
    · exact h1.2
  have hfr : Fr w g s w' g' s' := ⟨hx, r.len, r.new⟩
  unfold putK at hp
  split at hp
  · exact ⟨e, hp, ⟨hi, h.glob.ext hx, hfresh, hold, h.size, h.defers⟩, hfr⟩
  · rename_i t
    split at hp
    · rename_i hlt
      have hlt : t < n := by
        have : (t + 1).ble n = true := hlt
        exact Nat.le_of_ble_eq_true this
      refine ⟨_, hp, ⟨hi, h.glob.ext hx, hfresh, fun u => ?_, ?_, h.defers⟩, hfr⟩
      · unfold upd
        simp only [Act.put]
        split
        · rename_i hb
          have := Nat.eq_of_beq_eq_true hb
          subst this
          simp [Array.getD, h.size, hlt]
          exact hr
        · rename_i hb
          have hne : t ≠ u := fun e => by subst e; simp at hb
          have := hold u
          simp only [Array.getD_eq_getD_getElem?] at this ⊢
          rw [Array.getElem?_setIfInBounds_ne hne]
          exact this
      · simp [Act.put, h.size]
    · exact hp.elim

theorem putK_undef {n w g e s a} (h : Sts P n w g e s a) {dst : Option Nat} {K' : Env → Prop} (hp : putK n e dst (.tup []) K') : ∃ e', K' e' ∧ Sts P n w g e' s (a.put dst undef) := by
  have hov : ovr (fun _ => True) s s (getO s) = getO s := by funext i; simp [ovr]
  have r : Res w g (getO s) s (fun _ => True) (fun _ _ => True) undef w (.tup []) s g := ⟨trivial, Nat.le_refl _, fun _ _ _ => rfl, .tup [] [] .nil, by rw [hov]; exact h.inv, by rw [hov]; exact .refl _ _ _, fun _ h => .inl h⟩
  obtain ⟨e', h1, h2, _⟩ := h.put r hp
  exact ⟨e', h1, h2⟩

theorem aops_sound {n : Nat} {ops : Array Oper} {Q : Exit → Act → World → Prop} : ∀ {l : List Oper} {K : Env → Store → Prop} {w : World} {g : G} {e : Env} {s : Store} {a : Act}, aops P n ops l K e s → Sts P n w g e s a →
    (∀ w' g' e' s' a', K e' s' → Sts P n w' g' e' s' a' → Fr w g s w' g' s' → Q .normal a' w') → wpList P ops Q l a w := by
  intro l
  induction l with
  | nil => intro K w g e s a h hst hq; exact hq w g e s a h hst (.refl hst)
  | cons o rest ih =>
    intro K w g e s a h hst hq
    have run : ∀ {K2 : AV → Store → Prop}, (∀ v s', K2 v s' → putK n e o.dst v fun e' => aops P n ops rest K e' s') → aop P o.op e s K2 → o.wp P a w (wpList P ops Q rest) Q := by
      intro K2 hK hop
      refine (aop_ok hop hst.cx hst.glob hst.fresh hst.env).wp fun x w' hr => ?_
      obtain ⟨v, s', g', r⟩ := hr
      obtain ⟨e', k1, k2, k3⟩ := hst.put r (hK v s' r.K)
      exact ih k1 k2 fun w'' g'' e'' s'' a'' q1 q2 q3 => hq _ _ _ _ _ q1 q2 (k3.trans q3)
    rw [aops_cons] at h
    unfold wpList
    split at h
    · rename_i hg
      rw [if_pos (by simp [Region.wanted, hg])]
      exact .inl (run (fun _ _ h => h) h)
    · rename_i j want hg
      split at h
      · rename_i t ht
        split at h
        · rename_i b hlt hev
          have hlt : t < n := by
            have : (t + 1).ble n = true := hlt
            exact Nat.le_of_ble_eq_true this
          have hv := hst.env t
          rw [hev] at hv
          have hv := hv.inv_bool
          have hy : yielded ops a.tmps j = some b := by
            unfold yielded
            rw [ht]
            have : a.tmps[t]? = some (.bool b) := by
              rw [Array.getD_eq_getD_getElem?] at hv
              have hs : t < a.tmps.size := by rw [hst.size]; exact hlt
              rw [Array.getElem?_eq_getElem hs] at hv ⊢
              simpa using hv
            simp [this]
          unfold Br at h
          by_cases hb : b = want
          · have h1 := h.1 (by simp [hb])
            rw [if_pos (by simp [Region.wanted, hg, hy, hb])]
            exact .inl (run (fun _ _ h => h) h1)
          · have h2 := h.2 (by simp [hb])
            rw [if_neg (by simp [Region.wanted, hg, hy, hb])]
            obtain ⟨e', k1, k2⟩ := putK_undef hst h2
            exact ih k1 k2 hq
        · rename_i hlt hev
          have hlt : t < n := by
            have : (t + 1).ble n = true := hlt
            exact Nat.le_of_ble_eq_true this
          have hv := hst.env t
          rw [hev] at hv
          have hv2 : a.tmps.getD t undef = .tuple #[] := by
            obtain ⟨ys, hy, hr⟩ := hv.inv_tup
            cases hr
            exact hy
          have hy : yielded ops a.tmps j = none := by
            unfold yielded
            rw [ht]
            have : a.tmps[t]? = some (.tuple #[]) := by
              rw [Array.getD_eq_getD_getElem?] at hv2
              have hs : t < a.tmps.size := by rw [hst.size]; exact hlt
              rw [Array.getElem?_eq_getElem hs] at hv2 ⊢
              simpa using hv2
            simp [this]
          rw [if_neg (by simp [Region.wanted, hg, hy])]
          obtain ⟨e', k1, k2⟩ := putK_undef hst h
          exact ih k1 k2 hq
        · exact h.elim
      · exact h.elim

/-! ### What is forgotten at a loop's head -/
def G.upto (g : G) (N : Nat) : G := { g with C := fun id => g.C id ∧ id < N }
def St.upto (σ : St) (N : Nat) : St := fun id => if id < N then σ id else none

theorem upto_lv {g : G} {σ : St} {N b : Nat} (h : Lv (g.upto N) (σ.upto N) b) : Lv g σ b := by
  rcases h with h | ⟨id, h1, hr, h2⟩
  · exact .inl h
  · refine .inr ⟨id, ?_, hr, h2⟩
    unfold St.upto at h1
    split at h1
    · exact h1
    · exact absurd rfl h1

theorem upto_repP {w : World} {g : G} {σ : St} {N : Nat} {v : PV} {x : Value} (h : RepP w (Lv g σ) v x) : RepP w (Lv (g.upto N) (σ.upto N)) v x := h.keep (fun _ _ _ => rfl) (fun _ _ h => upto_lv h)

mutual
theorem upto_repA {w : World} {g : G} {σ : St} {N : Nat} : ∀ {v : AV} {x : Value}, RepA w g σ v x → v.under N = true → RepA w (g.upto N) (σ.upto N) v x
  | _, _, .p v x hr, _ => .p v x (upto_repP hr)
  | _, _, .ref id off hc hb, hu => .ref id off ⟨hc, blt_lt hu⟩ (by simpa [St.upto, blt_lt hu] using hb)
  | _, _, .osl id tot off len x hc hx ht hr hot, hu => .osl id tot off len x ⟨hc, blt_lt hu⟩ hx (by simpa [St.upto, blt_lt hu] using ht) (by simpa [St.upto, G.upto, OslV, blt_lt hu] using hr) hot
  | _, _, .oslc id n hc hb, hu => .oslc id n ⟨hc, blt_lt hu⟩ (by simpa [St.upto, blt_lt hu] using hb)
  | _, _, .eptr id tot i sub a hc ht hr, hu => .eptr id tot i sub a ⟨hc, blt_lt hu⟩ (by simpa [St.upto, blt_lt hu] using ht) (by simpa [St.upto, G.upto, blt_lt hu] using hr)
  | _, _, .map id hc hb, hu => .map id ⟨hc, blt_lt hu⟩ (by simpa [St.upto, blt_lt hu] using hb)
  | _, _, .it id hc hb, hu => .it id ⟨hc, blt_lt hu⟩ (by simpa [St.upto, blt_lt hu] using hb)
  | _, _, .agg cs a hr, hu => .agg cs a (upto_repAs hr hu)
  | _, _, .tup cs a hr, hu => .tup cs a (upto_repAs hr hu)
  | _, _, .clos f cs a hr, hu => .clos f cs a (upto_repAs hr hu)
  | _, _, .ifc t v x hr, hu => .ifc t v x (upto_repA hr hu)
  | _, _, .undef x, _ => .undef x
theorem upto_repAs {w : World} {g : G} {σ : St} {N : Nat} : ∀ {vs : List AV} {xs : List Value}, RepAs w g σ vs xs → unders N vs = true → RepAs w (g.upto N) (σ.upto N) vs xs
  | _, _, .nil, _ => .nil
  | _, _, .cons v x vs xs hr hs, hu => by
    simp only [unders, Bool.and_eq_true] at hu
    exact .cons v x vs xs (upto_repA hr hu.1) (upto_repAs hs hu.2)
end

theorem getO_take (s : Store) (N : Nat) : getO (s.take N) = St.upto (getO s) N := by
  funext id
  unfold getO St.upto
  by_cases h : id < N
  · rw [if_pos h, List.getElem?_take_of_lt h]
  · rw [if_neg h, List.getElem?_take, if_neg h]

theorem mk_get (L : List Nat) (e : Env) (u : Nat) : mk (L.map fun t => (t, e t)) u = e u ∧ u ∈ L ∨ mk (L.map fun t => (t, e t)) u = .undef := by
  induction L with
  | nil => exact .inr rfl
  | cons t r ih =>
    simp only [List.map_cons, mk, upd]
    split
    · rename_i hb
      have := Nat.eq_of_beq_eq_true hb
      subst this
      exact .inl ⟨rfl, by simp⟩
    · rcases ih with ⟨h1, h2⟩ | h1
      · exact .inl ⟨h1, by simp [h2]⟩
      · exact .inr h1

theorem unders_mem {N : Nat} : ∀ {vs : List AV} {v : AV}, unders N vs = true → v ∈ vs → v.under N = true
  | x :: r, v, h, hv => by
    simp only [unders, Bool.and_eq_true] at h
    rcases List.mem_cons.1 hv with rfl | hv
    · exact h.1
    · exact unders_mem h.2 hv

theorem mk_mem (L : List Nat) (e : Env) {u : Nat} (h : u ∈ L) : mk (L.map fun t => (t, e t)) u = e u := by
  induction L with
  | nil => cases h
  | cons t r ih =>
    simp only [List.map_cons, mk, upd]
    split
    · rename_i hb
      rw [Nat.eq_of_beq_eq_true hb]
    · rename_i hb
      rcases List.mem_cons.1 h with rfl | h
      · simp at hb
      · exact ih h
theorem mk_get2 : ∀ (l : List (Nat × AV)) (u : Nat), (∃ v, (u, v) ∈ l ∧ mk l u = v) ∨ mk l u = .undef
  | [], _ => .inr rfl
  | (t, v) :: r, u => by
    simp only [mk, upd]
    split
    · rename_i hb
      have := Nat.eq_of_beq_eq_true hb
      subst this
      exact .inl ⟨v, by simp, rfl⟩
    · rcases mk_get2 r u with ⟨w, h1, h2⟩ | h
      · exact .inl ⟨w, by simp [h1], h2⟩
      · exact .inr h
theorem WkE.mem {N0 N : Nat} {e : Env} : ∀ {l : List (Nat × AV)} {q : Nat × AV}, WkE N0 N e l → q ∈ l → WkV N0 N (e q.1) q.2
  | (t, v) :: r, q, h, hq => by
    rcases List.mem_cons.1 hq with rfl | hq
    · exact h.1
    · exact WkE.mem h.2 hq

/-- The state cut short. -/
theorem Sts.cut {n w g e s a} (h : Sts P n w g e s a) {L : List Nat} {N : Nat} (hu : unders N (L.map e) = true) (ho : (s.take N).all (objUnder N) = true) (hN : N ≤ s.length) : Sts P n w (g.upto N) (Go.Proofs.YtlnelaajlhfabaaGreat.AW.mk (L.map fun t => (t, e t))) (s.take N) a := by
  have hsub : ∀ id o, St.upto (getO s) N id = some o → getO s id = some o ∧ id < N := fun id o hq => by
    unfold St.upto at hq
    split at hq
    · exact ⟨hq, by assumption⟩
    · cases hq
  have hne : ∀ id, St.upto (getO s) N id ≠ none → getO s id ≠ none := fun id hq => by
    obtain ⟨o, ho⟩ := Option.ne_none_iff_exists'.1 hq
    rw [(hsub id o ho).1]; simp
  refine ⟨?_, ?_, fun id hid => by rw [List.length_take]; have := h.fresh id hid.1; have := hid.2; omega, fun u => ?_, h.size, h.defers⟩
  · rw [getO_take]
    refine ⟨fun id o hq => ⟨h.inv.made id o (hsub id o hq).1, (hsub id o hq).2⟩, fun id o hq hr => h.inv.lies id o (hsub id o hq).1 hr, h.inv.xlt, fun i j hi hj => h.inv.inj i j (hne i hi) (hne j hj), fun id o hq hR => ?_, fun id o hq hr => h.inv.void id o (hsub id o hq).1 hr⟩
    have hr := h.inv.rep id o (hsub id o hq).1 hR
    show RepO w _ _ (g.ι id) o
    cases hr with
    | cells cs ty xs hc hb ht =>
      refine .cells cs ty xs (upto_repAs hc ?_) hb ht
      have hlt := (hsub id _ hq).2
      have hs : (s.take N)[id]? = some (some (.cells cs ty)) := by
        have := (hsub id _ hq).1
        unfold getO at this
        rw [List.getElem?_take_of_lt hlt]
        split at this
        · rename_i o' ho'; rw [ho', this]
        · cases this
      have := List.all_eq_true.1 ho _ (List.mem_of_getElem? hs)
      simpa [objUnder] using this
    | buf sz es xs hz hs hn hc hb ty ht => exact .buf sz es xs hz hs hn (hc.keep (fun _ _ _ => rfl) (fun _ _ h => upto_lv h)) hb ty ht
    | iterS s' pos x hx hp hb => exact .iterS s' pos x hx hp hb
    | map kk es clock xs he hw hk hc hn => exact .map kk es clock xs (he.keep (fun _ _ _ => rfl) (fun _ _ h => upto_lv h)) hw hk hc hn
    | iterM mid bs left since last seen hC hm hl hs hw =>
      have hlt := (hsub id _ hq).2
      have hs2 : (s.take N)[id]? = some (some (.iterM mid bs left)) := by
        have := (hsub id _ hq).1
        unfold getO at this
        rw [List.getElem?_take_of_lt hlt]
        split at this
        · rename_i o' ho'; rw [ho', this]
        · cases this
      have := List.all_eq_true.1 ho _ (List.mem_of_getElem? hs2)
      have hmid : mid < N := blt_lt (by simpa [objUnder] using this)
      exact .iterM mid bs left since last seen ⟨hC, hmid⟩ (by simpa [St.upto, hmid] using hm) hl hs hw
  · rw [getO_take]
    intro i cs hi
    obtain ⟨q1, q2, q3⟩ := h.glob i cs hi
    exact ⟨q1, fun hl => q2 (upto_lv hl), q3.keep (fun _ _ _ => rfl) (fun _ _ h => upto_lv h) (fun _ => q2)⟩
  · rw [getO_take]
    rcases mk_get L e u with ⟨h1, h2⟩ | h1
    · rw [h1]; exact upto_repA (h.env u) (unders_mem hu (List.mem_map_of_mem h2))
    · rw [h1]; exact .undef _

def G.void (g : G) (N0 N : Nat) : G := { ι := g.ι, X := g.X, C := fun id => g.C id ∨ (N0 ≤ id ∧ id < N), R := fun id => g.R id ∧ id < N0 }
theorem getO_ghost {s : Store} {gs : List (Nat × Option Nat)} {id : Nat} (h : s.length ≤ id) (h2 : id < s.length + gs.length) : ∃ q, q ∈ gs ∧ getO (s ++ gs.map ghost) id = some (.buf q.1 [] q.2) := by
  have hl : id - s.length < gs.length := by omega
  refine ⟨gs[id - s.length], List.getElem_mem _, ?_⟩
  unfold getO
  rw [List.getElem?_append_right h, List.getElem?_map, List.getElem?_eq_getElem hl]
  rfl
theorem getO_ghost_old {s : Store} {gs : List (Nat × Option Nat)} {id : Nat} (h : id < s.length) : getO (s ++ gs.map ghost) id = getO s id := by
  unfold getO
  rw [List.getElem?_append_left h]
theorem getO_ghost_out {s : Store} {gs : List (Nat × Option Nat)} {id : Nat} (h : s.length + gs.length ≤ id) : getO (s ++ gs.map ghost) id = none := by
  unfold getO
  rw [List.getElem?_eq_none (by simp; omega)]

theorem ext_void {w : World} {g : G} {s : Store} (hf : ∀ id, g.C id → id < s.length) (gs : List (Nat × Option Nat)) : Ext w g (getO s) w (g.void s.length (s.length + gs.length)) (getO (s ++ gs.map ghost)) := by
  have hold : ∀ id, g.C id → getO (s ++ gs.map ghost) id = getO s id := fun id hc => getO_ghost_old (hf id hc)
  refine ⟨Nat.le_refl _, rfl, rfl, rfl, fun _ _ _ => rfl, fun _ _ => rfl, rfl, fun _ h => .inl h, fun b _ ⟨id, h1, hr, h2⟩ => ⟨id, ?_, hr.1, h2⟩, fun id hc o ho => ⟨o, by rw [← hold id hc]; exact ho, .refl _⟩, fun id hc _ => ⟨rfl, ?_⟩, fun id _ _ _ _ _ hc _ _ _ => ⟨rfl, ?_⟩, Nat.le_refl _⟩
  · rw [getO_ghost_old hr.2] at h1; exact h1
  · exact ⟨fun h => h.1, fun h => ⟨h, hf id hc⟩⟩
  · exact ⟨fun h => h.1, fun h => ⟨h, hf id hc⟩⟩

theorem WkP.rep {w : World} {B : Nat → Prop} {a b : PV} {x : Value} (h : WkP a b) (hr : RepP w B a x) : RepP w B b x := by
  rcases h with ⟨sz, k, sz', rfl, rfl⟩ | ⟨sz, xs, rfl, rfl⟩
  · cases hr with
    | nil => exact .nil k sz'
    | sl _ _ _ _ _ _ hk => exact absurd rfl hk
    | spt _ _ _ hk => exact absurd rfl hk
  · cases hr with
    | nil => exact .nil .shr sz
    | spt _ _ ad hk => exact .spt .shr sz ad (by decide)
    | sl _ _ _ b off cap hk hc hl hs hb h => exact .sl .shr sz xs b off cap (by decide) (fun q => by cases q) hl hs hb h

theorem Sts.weak {n w g L e s a} (h : Sts P n w g (Go.Proofs.YtlnelaajlhfabaaGreat.AW.mk (L.map fun t => (t, e t))) s a) {gs : List (Nat × Option Nat)} (hz : ∀ q, q ∈ gs → 0 < q.1) {l : List (Nat × AV)} (hL : l.map (·.1) = L) (hw : WkE s.length (s.length + gs.length) e l) :
    Sts P n w (g.void s.length (s.length + gs.length)) (Go.Proofs.YtlnelaajlhfabaaGreat.AW.mk l) (s ++ gs.map ghost) a := by
  have hext := ext_void (w := w) h.fresh gs
  have hcase : ∀ id o, getO (s ++ gs.map ghost) id = some o → (id < s.length ∧ getO s id = some o) ∨ (s.length ≤ id ∧ id < s.length + gs.length ∧ ∃ q, q ∈ gs ∧ o = .buf q.1 [] q.2) := fun id o ho => by
    by_cases h1 : id < s.length
    · rw [getO_ghost_old h1] at ho; exact .inl ⟨h1, ho⟩
    · by_cases h2 : id < s.length + gs.length
      · obtain ⟨q, hq, e1⟩ := getO_ghost (s := s) (gs := gs) (Nat.le_of_not_lt h1) h2
        rw [e1] at ho; cases ho
        exact .inr ⟨Nat.le_of_not_lt h1, h2, q, hq, rfl⟩
      · rw [getO_ghost_out (by omega)] at ho; cases ho
  have hne : ∀ id, getO (s ++ gs.map ghost) id ≠ none → id < s.length → getO s id ≠ none := fun id h1 h2 => by rw [getO_ghost_old h2] at h1; exact h1
  refine ⟨⟨fun id o ho => ?_, fun id o ho hr => ?_, h.inv.xlt, fun i j hi hj hri hrj hij => h.inv.inj i j (hne i hi hri.2) (hne j hj hrj.2) hri.1 hrj.1 hij, fun id o ho hr => ?_, fun id o ho hr => ?_⟩, h.glob.ext hext, fun id hid => ?_, fun u => ?_, h.size, h.defers⟩
  · rcases hcase id o ho with ⟨_, h1⟩ | ⟨h1, h2, _⟩
    · exact .inl (h.inv.made id o h1)
    · exact .inr ⟨h1, h2⟩
  · rcases hcase id o ho with ⟨_, h1⟩ | ⟨h1, h2, _⟩
    · exact h.inv.lies id o h1 hr.1
    · have := hr.2; omega
  · rcases hcase id o ho with ⟨_, h1⟩ | ⟨h1, h2, _⟩
    · exact hext.repO rfl (h.inv.rep id o h1 hr.1)
    · have := hr.2; omega
  · rcases hcase id o ho with ⟨h0, h1⟩ | ⟨h1, h2, q, hq, rfl⟩
    · exact h.inv.void id o h1 (fun hh => hr ⟨hh, h0⟩)
    · exact ⟨_, _, hz q hq, rfl⟩
  · rw [List.length_append, List.length_map]
    rcases hid with hid | hid
    · have := h.fresh id hid; omega
    · exact hid.2
  · rcases mk_get2 l u with ⟨v, hv, hm⟩ | hm
    · rw [hm]
      have hk := hw.mem hv
      have hu : u ∈ L := by rw [← hL]; exact List.mem_map_of_mem (f := (·.1)) hv
      have hr := h.env u
      rw [mk_mem L e hu] at hr
      rcases hk with hk | ⟨p, q, h1, rfl, hk⟩ | ⟨sz, id, h1, h2, h3, rfl⟩
      · simp only at hk; rw [← hk]; exact hext.repA hr
      · simp only at h1; rw [h1] at hr
        exact .p _ _ (hk.rep (hext.repP hr.inv_p))
      · simp only at h1; rw [h1] at hr
        generalize a.tmps.getD u undef = x at hr
        cases hr.inv_p with
        | sl _ _ _ _ _ _ hk => exact absurd rfl hk
        | spt _ _ _ hk => exact absurd rfl hk
        | nil =>
          refine .osl id 0 0 0 _ (.inr ⟨h2, h3⟩) ⟨none, 0, rfl, fun _ => rfl⟩ (fun _ _ _ _ => Nat.zero_le _) (fun sz' xs' ty' _ _ => ⟨Nat.le_refl _, fun _ => ⟨rfl, rfl⟩, fun hR => ?_⟩)
          have := hR.2; omega
    · rw [hm]; exact .undef _

theorem TrimO.len {L : List Nat} {N : Nat} {e : Env} {s : Store} {l : List (Nat × AV)} {s2 : Store} (ht : TrimO L N e s l s2) : s2.length = N := by
  unfold TrimO at ht
  obtain ⟨N0, gs, rfl, hN, _, rfl, _⟩ := ht
  simp; omega
theorem freezeK_ex : ∀ {fz : List Nat} {e : Env} {s : Store} {K : Env → Store → Prop}, freezeK fz e s K → ∃ e' s', K e' s' ∧ s.length ≤ s'.length
  | [], e, s, K, h => ⟨e, s, h, Nat.le_refl _⟩
  | t :: r, e, s, K, h => by
    unfold freezeK at h
    obtain ⟨p, s1, h1, h2⟩ := toP_same (f := ids (e t)) h (fun _ h => h)
    obtain ⟨e', s', h3, h4⟩ := freezeK_ex h1
    exact ⟨e', s', h3, Nat.le_trans h2.1 h4⟩
theorem Trim.len {L : List Nat} {N : Nat} {e : Env} {s : Store} {l : List (Nat × AV)} {s2 : Store} (ht : Trim L N e s l s2) : s2.length = N := by
  unfold Trim at ht
  obtain ⟨fz, h⟩ := ht
  obtain ⟨e', s', h1, _⟩ := freezeK_ex h
  exact h1.len
theorem Sts.freeze {n w g} : ∀ {fz : List Nat} {e : Env} {s : Store} {a : Act} {K : Env → Store → Prop}, Sts P n w g e s a → freezeK fz e s K → ∃ e' s', Sts P n w g e' s' a ∧ K e' s' ∧ s'.length = s.length ∧ Ext w g (getO s) w g (getO s')
  | [], e, s, a, K, hst, h => ⟨e, s, hst, h, rfl, .refl _ _ _⟩
  | t :: r, e, s, a, K, hst, h => by
    unfold freezeK at h
    have c : Cx w g (getO s) s (fun _ => True) False := ⟨hst.inv, fun _ _ => rfl, fun hh => hh.elim⟩
    obtain ⟨p, s2, k1, fz, k3⟩ := toP_tree (hst.env t) c (fun _ _ => trivial) h
    have hov : ovr (fun _ => True) s s2 (getO s) = getO s2 := by funext i; simp [ovr]
    have q1 := fz.inv; have q2 := fz.ext
    rw [hov] at q1 q2 k3
    have hst2 : Sts P n w g (upd e t (.p p)) s2 a := by
      refine ⟨q1, hst.glob.ext q2, fun id hid => by rw [fz.len]; exact hst.fresh id hid, fun u => ?_, hst.size, hst.defers⟩
      unfold upd
      split
      · rename_i hb
        have := Nat.eq_of_beq_eq_true hb
        subst this
        exact .p _ _ k3
      · exact q2.repA (hst.env u)
    obtain ⟨e', s', h1, h2, h3, h4⟩ := Sts.freeze hst2 k1
    exact ⟨e', s', h1, h2, by rw [h3, fz.len], q2.trans h4⟩

def exitOf : Out → Exit | .normal => .normal | .exit id => .exit id | .ret => .ret

theorem Fr.cut {w g s w' g' s'} (h : Fr w g s w' g' s') (hf : ∀ id, g.C id → id < s.length) {N : Nat} (hN : s.length ≤ N) (hN' : N ≤ s'.length) : Fr w g s w' (g'.upto N) (s'.take N) := by
  have hsub : ∀ id o, St.upto (getO s') N id = some o → getO s' id = some o := fun id o hq => by
    unfold St.upto at hq
    split at hq
    · exact hq
    · cases hq
  refine ⟨?_, by rw [List.length_take]; have := h.len; omega, fun id hid => ?_⟩
  · rw [getO_take]
    exact ⟨h.ext.size, h.ext.os, h.ext.tape, h.ext.output, h.ext.frame, h.ext.shape, h.ext.X, fun id hc => ⟨h.ext.C id hc, Nat.lt_of_lt_of_le (hf id hc) hN⟩,
      fun b hb ⟨id, h1, hr, h2⟩ => h.ext.own b hb ⟨id, by obtain ⟨o, ho⟩ := Option.ne_none_iff_exists'.1 h1; rw [hsub id o ho]; simp, hr, h2⟩,
      fun id hc o ho => h.ext.obj id hc o (hsub id o ho), h.ext.ι1, fun id sz xs xs' ty ty' hc h1 h2 h3 => h.ext.ι2 id sz xs xs' ty ty' hc h1 (hsub id _ h2) h3, h.ext.drawn⟩
  · rcases h.new id hid.1 with h1 | h1
    · exact .inl h1
    · have := hid.2; refine .inr ⟨h1.1, ?_⟩; rw [List.length_take]; omega

/-- The state of a round's head. -/
theorem Sts.trimO {n w g e s a} (h : Sts P n w g e s a) {L : List Nat} {N : Nat} {l : List (Nat × AV)} {s2 : Store} (ht : TrimO L N e s l s2) :
    ∃ g2, Sts P n w g2 (Go.Proofs.YtlnelaajlhfabaaGreat.AW.mk l) s2 a ∧ ∀ w0 g0 s0, Fr w0 g0 s0 w g s → (∀ id, g0.C id → id < s0.length) → s0.length ≤ N → Fr w0 g0 s0 w g2 s2 := by
  unfold TrimO at ht
  obtain ⟨N0, gs, rfl, hN, hg, rfl, hz, ho, hu, hL, hw⟩ := ht
  have h1 := h.cut hu ho hN
  have hl : (s.take N0).length = N0 := by rw [List.length_take]; omega
  have h2 := h1.weak (gs := gs) hz hL (by rw [hl]; exact hw)
  refine ⟨_, h2, fun w0 g0 s0 hfr hf hle => ?_⟩
  have hN0 : s0.length ≤ N0 := by
    by_cases hgs : gs = []
    · subst hgs; simpa using hle
    · rw [hg hgs]; exact hfr.len
  have k1 := hfr.cut hf hN0 hN
  refine ⟨k1.ext.trans (ext_void h1.fresh gs), ?_, fun id hid => ?_⟩
  · rw [List.length_append]; have := k1.len; omega
  · rw [List.length_append, List.length_map, hl]
    rcases hid with hid | hid
    · rcases k1.new id hid with q | q
      · exact .inl q
      · rw [hl] at q; exact .inr ⟨q.1, by omega⟩
    · rw [hl] at hid; exact .inr ⟨by omega, hid.2⟩

theorem Sts.trim {n w g e s a} (h : Sts P n w g e s a) {L : List Nat} {N : Nat} {l : List (Nat × AV)} {s2 : Store} (ht : Trim L N e s l s2) :
    ∃ g2, Sts P n w g2 (Go.Proofs.YtlnelaajlhfabaaGreat.AW.mk l) s2 a ∧ ∀ w0 g0 s0, Fr w0 g0 s0 w g s → (∀ id, g0.C id → id < s0.length) → s0.length ≤ N → Fr w0 g0 s0 w g2 s2 := by
  unfold Trim at ht
  obtain ⟨fz, ht⟩ := ht
  obtain ⟨e', s', h1, h2, h3, h4⟩ := Sts.freeze h ht
  obtain ⟨g2, k1, k2⟩ := h1.trimO h2
  refine ⟨g2, k1, fun w0 g0 s0 hfr hf hle => k2 w0 g0 s0 ⟨hfr.ext.trans h4, by rw [h3]; exact hfr.len, fun id hid => by rw [h3]; exact hfr.new id hid⟩ hf hle⟩

/-- A loop by a family of states: the number that goes down belongs to the family, not to the state. -/
theorem wp_loop_fam {Q : Exit → Act → World → Prop} {c : Code} {α : Type} (R : α → Act → World → Prop) (m : α → Nat)
    (round : ∀ x a w, R x a w → c.wp P (Exit.then (fun a' w' => ∃ y, R y a' w' ∧ m y < m x) Q) a w) {x : α} {a : Act} {w : World} (h : R x a w) : (Code.loop c).wp P Q a w := by
  let cand : Act → World → Nat → Prop := fun a w n => ∃ y, R y a w ∧ m y = n
  have hleast : ∀ a w, (∃ y, R y a w) → ∃ n, cand a w n ∧ ∀ k, cand a w k → n ≤ k := by
    intro a w ⟨y, hy⟩
    have : ∀ n, (∃ y, R y a w ∧ m y = n) → ∃ n, cand a w n ∧ ∀ k, cand a w k → n ≤ k := by
      intro n
      induction n using Nat.strongRecOn with
      | _ n ih =>
        intro ⟨y, hy, hn⟩
        by_cases hlow : ∃ k, k < n ∧ cand a w k
        · obtain ⟨k, hk, hc⟩ := hlow; exact ih k hk hc
        · exact ⟨n, ⟨y, hy, hn⟩, fun k hk => Nat.le_of_not_lt fun hlt => hlow ⟨k, hlt, hk⟩⟩
    exact this _ ⟨y, hy, rfl⟩
  let μ : Act → World → Nat := fun a w => open Classical in if hh : ∃ y, R y a w then (hleast a w hh).choose else 0
  refine wp_loop (fun a w => ∃ y, R y a w) μ ⟨x, h⟩ fun a w hI => ?_
  have hspec := (hleast a w hI).choose_spec
  have hμ : μ a w = (hleast a w hI).choose := by simp only [μ]; rw [dif_pos hI]
  obtain ⟨⟨y, hy, hmy⟩, _⟩ := hspec
  refine wp_mono (round y a w hy) fun ex a' w' hq => ?_
  cases ex with
  | normal =>
    obtain ⟨z, hz, hlt⟩ := hq
    refine ⟨⟨z, hz⟩, ?_⟩
    have hI' : ∃ y, R y a' w' := ⟨z, hz⟩
    have hμ' : μ a' w' = (hleast a' w' hI').choose := by simp only [μ]; rw [dif_pos hI']
    have := (hleast a' w' hI').choose_spec.2 (m z) ⟨z, hz, rfl⟩
    omega
  | _ => exact hq

theorem aw_sound {n : Nat} : ∀ {c : Code} {K : Out → Env → Store → Prop} {Q : Exit → Act → World → Prop} {w : World} {g : G} {e : Env} {s : Store} {a : Act}, aw P n c K e s → Sts P n w g e s a →
    (∀ out w' g' e' s' a', K out e' s' → Sts P n w' g' e' s' a' → Fr w g s w' g' s' → Q (exitOf out) a' w') → c.wp P Q a w := by
  intro c
  induction c with
  | skip => intro K Q w g e s a h hst hq; exact wp_skip (hq .normal w g e s a h hst (.refl hst))
  | region id ops draw =>
    intro K Q w g e s a h hst hq
    rw [aw_region] at h
    cases draw with
    | false => exact wp_region_list (aops_sound h hst fun w' g' e' s' a' k1 k2 k3 => hq .normal _ _ _ _ _ k1 k2 k3)
    | true =>
      simp only [] at h
      split at h
      · rename_i hm
        exact drawn_sound h hm hst.inv hst.glob hst.fresh hst.env hst.size hst.defers fun w' g' e' s' a' q1 q2 q3 q4 q5 q6 q7 q8 => hq .normal w' g' e' s' a' q1
          ⟨q2, hst.glob.ext q7, fun id hid => by
            rcases q3 id hid with h1 | h1
            · have := hst.fresh id h1; omega
            · exact h1.2, q4, q5, q6⟩ ⟨q7, q8, q3⟩
      · exact h.elim
  | seq x y ihx ihy =>
    intro K Q w g e s a h hst hq
    rw [aw_seq] at h
    refine wp_seq (ihx h hst fun out w' g' e' s' a' k1 k2 k3 => ?_)
    cases out with
    | normal => exact ihy k1 k2 fun out w'' g'' e'' s'' a'' q1 q2 q3 => hq out _ _ _ _ _ q1 q2 (k3.trans q3)
    | exit id => exact hq _ _ _ _ _ _ k1 k2 k3
    | ret => exact hq .ret _ _ _ _ _ k1 k2 k3
  | cond c x y ihx ihy =>
    intro K Q w g e s a h hst hq
    rw [aw_cond] at h
    split at h
    · rename_i t hev
      have hc := ev_rep hst.env c
      rw [hev] at hc
      unfold Br at h
      exact wp_cond_split hc.inv_bool (fun ht => ihx (h.1 ht) hst hq) (fun hf => ihy (h.2 hf) hst hq)
    · exact h.elim
  | block id b ih =>
    intro K Q w g e s a h hst hq
    rw [aw_block] at h
    refine wp_block (ih h hst fun out w' g' e' s' a' k1 k2 k3 => ?_)
    cases out with
    | normal => exact hq .normal _ _ _ _ _ k1 k2 k3
    | ret => exact hq .ret _ _ _ _ _ k1 k2 k3
    | exit j =>
      simp only [inBlock] at k1
      show (if j = id then Q .normal a' w' else Q (.exit j) a' w')
      split at k1
      · rename_i hb
        rw [if_pos (Nat.eq_of_beq_eq_true hb)]
        exact hq .normal _ _ _ _ _ k1 k2 k3
      · rename_i hb
        rw [if_neg (fun e => by subst e; simp at hb)]
        exact hq (.exit j) _ _ _ _ _ k1 k2 k3
  | loop b ih =>
    intro K Q w g e s a h hst hq
    rw [aw_loop] at h
    unfold LoopX at h
    obtain ⟨α, L, st, ok, m, ⟨x0, hx0, hl0, ht0⟩, round⟩ := h
    obtain ⟨g2, hst2, hfr2⟩ := hst.trim ht0
    refine wp_loop_fam (fun x a' w' => ok x ∧ ∃ g', Sts P n w' g' (mk (st x).1) (st x).2 a' ∧ Fr w g s w' g' (st x).2) m (fun x a' w' hR => ?_) (x := x0) ⟨hx0, g2, hst2, hfr2 _ _ _ (Fr.refl hst) hst.fresh hl0⟩
    · obtain ⟨hok, g', hst', hfr'⟩ := hR
      refine ih (round x hok) hst' fun out w'' g'' e'' s'' a'' k1 k2 k3 => ?_
      cases out with
      | normal =>
        obtain ⟨y, hy, hm, hle, ht⟩ := k1
        obtain ⟨g3, q1, q2⟩ := k2.trim ht
        exact ⟨y, ⟨hy, g3, q1, q2 _ _ _ (hfr'.trans k3) hst.fresh hle⟩, hm⟩
      | exit id => exact hq _ _ _ _ _ _ k1 k2 (hfr'.trans k3)
      | ret => exact hq .ret _ _ _ _ _ k1 k2 (hfr'.trans k3)
  | scope b ih =>
    intro K Q w g e s a h hst hq
    have h : aw P n b K e s := h
    refine wp_scope_straight (ih h hst fun out w' g' e' s' a' k1 k2 k3 => ?_)
    cases out with
    | normal => exact hq .normal _ _ _ _ _ k1 k2 k3
    | exit id => exact hq (.exit id) _ _ _ _ _ k1 k2 k3
    | ret => exact hq .ret _ _ _ _ _ k1 k2 k3
  | label l => intro K Q w g e s a h hst hq; exact wp_label (hq .normal w g e s a h hst (.refl hst))
  | exit id => intro K Q w g e s a h hst hq; exact wp_exit (hq (.exit id) w g e s a h hst (.refl hst))
  | ret => intro K Q w g e s a h hst hq; exact wp_ret (hq .ret w g e s a h hst (.refl hst))
  | _ => intro K Q w g e s a h hst hq; exact False.elim h
end Go.Proofs.YtlnelaajlhfabaaGreat.AW

namespace Go.Proofs.YtlnelaajlhfabaaGreat.AW
set_option linter.unusedSimpArgs false
set_option linter.unusedVariables false
variable {P : Program}

theorem loadA_run {t : Nat} {av : AV} {x : Value} {s : Store} {K : AV → Prop} {w : World} {g : G} (h : loadA P t av s K) (hx : RepA w g (getO s) av x) (hinv : Inv w g (getO s)) :
    ∃ b off v y, x = .pointer (some ⟨b, off, none⟩) ∧ K v ∧ RepA w g (getO s) v y ∧ (loadVar t ⟨b, off, none⟩).run P w = .ok y w := by
  simp only [loadA] at h
  split at h
  · exact h.elim
  · rename_i agg sz hkd
    split at h
    · rename_i id off
      obtain ⟨hp, _, _⟩ := hx.inv_ref
      split at h
      · rename_i cs ty hs
        cases hinv.repR hs (by simp) with
        | cells _ _ xs hcs hare _ =>
          have hflat := hare
          have hare := hare.are
          obtain ⟨v, y, h1, h2, h3⟩ := valK_load hkd (hcs.drop off) (fun j y hj => by
            rw [cell_of_are hare]; simpa using hj) h
          exact ⟨_, _, v, y, hp, h1, h2, h3⟩
      · exact h.elim
    · rename_i cs
      obtain ⟨b, off, hp, hc, _⟩ := hx.inv_pto
      obtain ⟨ys, h1, h2⟩ := hc.values
      obtain ⟨v, y, k1, k2, k3⟩ := valK_load hkd h1.repAs h2 h
      exact ⟨_, _, v, y, hp, k1, k2, k3⟩
    · rename_i id tot i sub
      split at h
      · rename_i sz' xs ty hs
        unfold Ob Idx at h
        obtain ⟨htot, _, y, hy, hval⟩ := h
        have hp := hx.inv_eptr hs htot
        have hne : xs ≠ [] := fun q => by rw [q] at hy; simp at hy
        cases hinv.repR hs (by simp [hne]) with
        | buf _ _ ys hz hsz hn hr hare =>
          have hd := flat_drop hsz (by simpa using hy : xs[i]? = some y)
          have hr2 := (hr.drop (i * sz' + sub)).take (y.cells.drop sub).length
          have e1 : ((flat xs).drop (i * sz' + sub)).take (y.cells.drop sub).length = y.cells.drop sub := by
            rw [← List.drop_drop, hd]
            by_cases hle : sub ≤ y.cells.length
            · rw [List.drop_append_of_le_length hle, List.take_left']; rfl
            · have : y.cells.drop sub = [] := List.drop_eq_nil_of_le (by omega)
              simp [this]
          rw [e1] at hr2
          obtain ⟨v, z, k1, k2, k3⟩ := valK_load (b := g.ι id) (off := i * sz' + sub) hkd hr2.repAs (fun j z hj => by
            rw [cell_of_are hare]
            rw [List.getElem?_take] at hj
            split at hj
            · rw [List.getElem?_drop, List.getElem?_take] at hj
              split at hj
              · exact hj
              · cases hj
            · cases hj) hval
          exact ⟨_, _, v, z, hp, k1, k2, k3⟩
      · exact h.elim
    · exact h.elim

def resOne (tmps : Array Value) : ResultVar → Sem Value
  | .tmp t => pure (tmps.getD t undef)
  | .cell a t => do loadVar t (← asAddr (tmps.getD a undef))

theorem resA_run {n : Nat} {w : World} {g : G} {e : Env} {s : Store} {a : Act} (hst : Sts P n w g e s a) : ∀ {rs : List ResultVar} {K : List AV → Prop}, resA P rs e s K →
    ∃ vs ys, K vs ∧ RepAs w g (getO s) vs ys ∧ (rs.mapM (resOne a.tmps)).run P w = .ok ys w
  | [], K, h => ⟨[], [], h, .nil, rfl⟩
  | .tmp t :: r, K, h => by
    obtain ⟨vs, ys, h1, h2, h3⟩ := resA_run hst (rs := r) h
    refine ⟨_, _, h1, .cons _ _ _ _ (hst.env t) h2, ?_⟩
    rw [List.mapM_cons]; simp [resOne, h3]
  | .cell q t :: r, K, h => by
    obtain ⟨b, off, v, y, hp, h1, h2, h3⟩ := loadA_run h (hst.env q) hst.inv
    obtain ⟨vs, ys, k1, k2, k3⟩ := resA_run hst (rs := r) h1
    refine ⟨_, _, k1, .cons _ _ _ _ h2 k2, ?_⟩
    rw [List.mapM_cons]
    simp [resOne, hp, asAddr, h3, k3]

theorem oneOf_rep {w : World} {g : G} {σ : St} {vs : List AV} {ys : List Value} (h : RepAs w g σ vs ys) : RepA w g σ (oneOf vs) (if hh : ys.toArray.size = 1 then ys.toArray[0] else .tuple ys.toArray) := by
  cases h with
  | nil => exact .tup [] [] .nil
  | cons v x vs xs h hs =>
    cases hs with
    | nil => exact h
    | cons v2 x2 vs xs h2 hs =>
      rw [dif_neg (by simp)]
      exact .tup _ _ (.cons _ _ _ _ h (.cons _ _ _ _ h2 hs))

theorem args_env {w : World} {g : G} {σ : St} : ∀ {args : List AV} {vs : List Value} (k t : Nat), RepAs w g σ args vs → RepA w g σ (mk (argsE k args) (k + t)) (vs.getD t undef)
  | _, _, k, t, .nil => .undef _
  | _, _, k, 0, .cons v x vs xs h hs => by
    simp only [argsE, mk, upd, Nat.add_zero, Nat.beq_refl]
    simpa using h
  | _, _, k, t + 1, .cons v x vs xs h hs => by
    have hne : Nat.beq k (k + (t + 1)) = false := by
      cases hb : Nat.beq k (k + (t + 1)) with
      | false => rfl
      | true => have := Nat.eq_of_beq_eq_true hb; omega
    simp only [argsE, mk, upd, hne]
    rw [show k + (t + 1) = k + 1 + t by omega]
    simpa using args_env (k + 1) t hs

/-- **A call of a function, by its text.** -/
theorem Cal.intro {f : Nat} {fn : Func} {c : Code} {args : List AV} {s : Store} {K : AV → Store → Prop} (hf : P.funcs[f]? = some fn) (hname : (fn.name == "runtime.NumGoroutine") = false) (hb : fn.body = some c)
    (hn : Nat.ble args.length fn.ntmps = true) (h : aw P fn.ntmps c (retA P fn.results.toList K) (mk (argsE 0 args)) s) : Cal P f args s K := by
  unfold Cal
  refine fun w g vs hinv hG hfresh hargs => .inl ⟨⟨fn, hf, hname, by rw [hb]; rfl⟩, ?_⟩
  have hn := Nat.le_of_ble_eq_true hn
  refine calls_of_wp hf hb ?_
  have hst : Sts P fn.ntmps w g (mk (argsE 0 args)) s { tmps := vs.toArray ++ Array.replicate (fn.ntmps - vs.toArray.size) undef, defers := [] } := by
    refine ⟨hinv, hG, hfresh, fun t => ?_, ?_, rfl⟩
    · have := args_env 0 t hargs
      rw [Nat.zero_add] at this
      have e : (vs.toArray ++ Array.replicate (fn.ntmps - vs.toArray.size) undef).getD t undef = vs.getD t undef := by
        rw [Array.getD_eq_getD_getElem?, List.getD_eq_getElem?_getD]
        by_cases ht : t < vs.length
        · rw [Array.getElem?_append_left (by simpa using ht)]; simp
        · rw [Array.getElem?_append_right (by simp; omega), List.getElem?_eq_none (by omega)]
          rw [Array.getElem?_replicate]
          split <;> rfl
      rw [e]; exact this
    · have := hargs.len
      simp; omega
  refine aw_sound h hst fun out w' g' e' s' a' hk hst' hfr => ?_
  have fin : ∀ vs', K (oneOf vs') s' → ∀ ys, RepAs w' g' (getO s') vs' ys → (fn.results.toList.mapM (resOne a'.tmps)).run P w' = .ok ys w' →
      a'.defers = [] ∧ ∃ v, (results fn a'.tmps).run P w' = .ok v w' ∧ CalPost w g s K (.returned v) w' := by
    intro vs' hK ys hr hrun
    refine ⟨hst'.defers, _, ?_, oneOf vs', _, s', g', rfl, hK, hfr.len, oneOf_rep hr, hst'.inv, hfr.ext, hfr.new⟩
    unfold results
    rw [Array.mapM_eq_mapM_toList]
    simp only [Sem.run_bind, Sem.run_map, Sem.run_pure]
    show (((List.mapM (resOne a'.tmps) fn.results.toList).run P w').andThen _).andThen _ = _
    rw [hrun]
    rfl
  cases out with
  | normal =>
    obtain ⟨vs', ys, h1, h2, h3⟩ := resA_run hst' hk
    exact fin vs' h1 ys h2 h3
  | ret =>
    obtain ⟨vs', ys, h1, h2, h3⟩ := resA_run hst' hk
    exact fin vs' h1 ys h2 h3
  | exit id => exact hk.elim
end Go.Proofs.YtlnelaajlhfabaaGreat.AW

namespace Go.Proofs.YtlnelaajlhfabaaGreat.AW
set_option linter.unusedSimpArgs false
set_option linter.unusedVariables false
variable {P : Program}

/-- A result, handed out as a tree. -/
def finP (s : Store) (r : AV) (K : AV → Prop) : Prop := match r with
  | .tup vs => partsP s vs fun ps _ => K (.tup (ps.map .p))
  | v => toP s v fun p _ => K (.p p)

/-- **A call whose arguments are trees**: it is proved beside an empty store, and holds beside any. -/
theorem Cal.pure {f : Nat} {args : List PV} {s : Store} {K : AV → Store → Prop} (h : Cal P f (args.map .p) [] fun r s' => finP s' r fun v => K v s) : Cal P f (args.map .p) s K := by
  unfold Cal at h ⊢
  refine fun w g vs hinv hG hfresh hargs => ?_
  let g0 : G := { ι := g.ι, X := Lv g (getO s), C := fun _ => False }
  have hemp : ∀ id, getO ([] : Store) id = none := fun id => rfl
  have hlv0 : ∀ b, Lv g0 (getO []) b → Lv g (getO s) b := by
    rintro b (h | ⟨id, h1, _, _⟩)
    · exact h
    · exact absurd (hemp id) h1
  have hlt : ∀ b, Lv g (getO s) b → b < w.heap.size := by
    rintro b (h | ⟨id, h1, hr, h2⟩)
    · exact hinv.xlt b h
    · obtain ⟨o, ho⟩ := Option.ne_none_iff_exists'.1 h1
      rw [← h2]; exact (hinv.lies id o ho hr).1
  have hinv0 : Inv w g0 (getO []) := ⟨fun id o h => by rw [hemp] at h; (cases h), fun id o h => by rw [hemp] at h; (cases h), hlt, fun i j h => absurd (hemp i) h, fun id o h => by rw [hemp] at h; (cases h), fun id o h => by rw [hemp] at h; (cases h)⟩
  have hargs0 : RepAs w g0 (getO []) (args.map .p) vs := by
    have key : ∀ {args : List PV} {vs : List Value}, RepAs w g (getO s) (args.map .p) vs → RepAs w g0 (getO []) (args.map .p) vs := by
      intro args
      induction args with
      | nil => intro vs h; cases h; exact .nil
      | cons p r ih =>
        intro vs h
        cases h with
        | cons _ x _ xs hx hs => exact .cons _ _ _ _ (.p _ _ (hx.inv_p.keep (fun _ _ _ => rfl) (fun b _ hb => hlv0 b hb))) (ih hs)
    exact key hargs
  have hG0 : Gk P w g0 (getO []) := fun i cs hi => by
    obtain ⟨q1, q2, q3⟩ := hG i cs hi
    exact ⟨q1, fun hl => q2 (hlv0 _ hl), q3.keep (fun _ _ _ => rfl) (fun b _ hb => hlv0 b hb) (fun _ => q2)⟩
  refine (h w g0 vs hinv0 hG0 (fun id hid => hid.elim) hargs0).mono fun e w' hpost => ?_
  obtain ⟨r, v, s', g', rfl, hk, _, hrep, hinv', hext, hC⟩ := hpost
  have hall : ∀ b, b < w.heap.size → w'.heap[b]? = w.heap[b]? := fun b hb => hext.frame b hb (fun ⟨id, h1, _, _⟩ => h1 (hemp id))
  have hX : ∀ b, Lv g (getO s) b → g'.X b := fun b hb => by rw [hext.X]; exact hb
  have hext' : Ext w g (getO s) w' g (getO s) := ⟨hext.size, hext.os, hext.tape, hext.output, fun b hb _ => hall b hb, fun b hb => shape_same (hall b hb), rfl, fun _ h => h, fun _ _ h => h, fun _ _ o h => ⟨o, h, .refl _⟩, fun _ _ _ => ⟨rfl, .rfl⟩, fun _ _ _ _ _ _ _ _ _ _ => ⟨rfl, .rfl⟩, hext.drawn⟩
  have hinvF : Inv w' g (getO s) := ⟨hinv.made, fun id o h hr => by have := hinv.lies id o h hr; have := hext.size; exact ⟨by omega, (hinv.lies id o h hr).2⟩, fun b hb => by have := hinv.xlt b hb; have := hext.size; omega, hinv.inj,
    fun id o h hr => hext'.repO (hall _ (hinv.lies id o h hr).1) (hinv.rep id o h hr), hinv.void⟩
  have c' : Cx w' g' (getO s') s' (fun _ => True) True := ⟨hinv', fun _ _ => rfl, fun _ hid => by
    rcases hC _ hid with h | h
    · exact h.elim
    · exact Nat.lt_irrefl _ h.2⟩
  have back : ∀ {σ' : St} {p : PV} {x : Value}, RepP w' (Lv g' σ') p x → RepP w' (Lv g (getO s)) p x := fun hp => hp.keep (fun _ _ _ => rfl) (fun b _ hb => .inl (hX b hb))
  have backs : ∀ {σ' : St} {ps : List PV} {xs : List Value}, RepPs w' (Lv g' σ') ps xs → RepPs w' (Lv g (getO s)) ps xs := fun hp => hp.keep (fun _ _ _ => rfl) (fun b _ hb => .inl (hX b hb))
  unfold finP at hk
  split at hk
  · rename_i vs'
    obtain ⟨ys, rfl, hys⟩ := hrep.inv_tup
    obtain ⟨ps, s2, k1, _, k3⟩ := partsP_tree hys c' (fun _ _ _ _ => trivial) hk
    exact ⟨_, _, s, g, rfl, k1, Nat.le_refl _, .tup _ _ (backs k3).repAs, hinvF, hext', fun id h => .inl h⟩
  · obtain ⟨p, s2, k1, _, k3⟩ := toP_tree hrep c' (fun _ _ => trivial) hk
    exact ⟨_, _, s, g, rfl, k1, Nat.le_refl _, .p _ _ (back k3), hinvF, hext', fun id h => .inl h⟩

theorem Cal.mono {f : Nat} {args : List AV} {s : Store} {K K' : AV → Store → Prop} (h : Cal P f args s K) (hk : ∀ r s', K r s' → K' r s') : Cal P f args s K' := by
  unfold Cal at h ⊢
  refine fun w g vs h1 hG h2 h3 => (h w g vs h1 hG h2 h3).mono fun e w' hpost => ?_
  obtain ⟨r, v, s', g', h4, h5, h6⟩ := hpost
  exact ⟨r, v, s', g', h4, hk _ _ h5, h6⟩

/-- A call to which owned slices are handed: they are handed over as trees, and turn no more. -/
theorem Cal.freeze {f : Nat} {args : List AV} {s : Store} {K : AV → Store → Prop} (h : partsP s args fun ps s' => Cal P f (ps.map .p) s' K) (_hf : ∃ fn, P.funcs[f]? = some fn ∧ (fn.name == "runtime.NumGoroutine") = false ∧ fn.body.isSome = true) : Cal P f args s K := by
  unfold Cal
  refine fun w g vs hinv hG hfresh hargs => ?_
  have c : Cx w g (getO s) s (fun _ => True) False := ⟨hinv, fun _ _ => rfl, fun hh => hh.elim⟩
  obtain ⟨ps, s2, k1, fz, k3⟩ := partsP_tree hargs c (fun _ _ _ _ => trivial) h
  have hov : ovr (fun _ => True) s s2 (getO s) = getO s2 := by funext i; simp [ovr]
  have q1 := fz.inv; have q2 := fz.ext
  rw [hov] at q1 q2 k3
  unfold Cal at k1
  have hG2 := hG.ext q2
  refine (k1 w g vs q1 hG2 (fun id hid => by rw [fz.len]; exact hfresh id hid) k3.repAs).mono fun e w' hpost => ?_
  obtain ⟨r, v, s', g', rfl, a1, a2, a3, a4, a5, a6⟩ := hpost
  exact ⟨r, v, s', g', rfl, a1, by have := fz.len; omega, a3, a4, q2.trans a5, fun id hid => by have := a6 id hid; rw [fz.len] at this; exact this⟩

/-- A loop, by a family of states. -/
theorem LoopX.famW {body : (Out → Env → Store → Prop) → Env → Store → Prop} {K : Out → Env → Store → Prop} {e : Env} {s : Store} {α : Type} (L : List Nat) (st : α → List (Nat × AV) × Store) (ok : α → Prop) (m : α → Nat) (x : α)
    (h0 : ok x) (hl : s.length ≤ (st x).2.length) (ht : Trim L (st x).2.length e s (st x).1 (st x).2)
    (round : ∀ x, ok x → body (fun o e' s' => match o with
      | .normal => ∃ y, ok y ∧ m y < m x ∧ s.length ≤ (st y).2.length ∧ Trim L (st y).2.length e' s' (st y).1 (st y).2
      | o => K o e' s') (mk (st x).1) (st x).2) : LoopX body K e s := by
  unfold LoopX
  exact ⟨α, L, st, ok, m, ⟨x, h0, hl, ht⟩, round⟩
theorem LoopX.fam {body : (Out → Env → Store → Prop) → Env → Store → Prop} {K : Out → Env → Store → Prop} {e : Env} {s : Store} {α : Type} (L : List Nat) (st : α → List (Nat × AV) × Store) (ok : α → Prop) (m : α → Nat) (x : α)
    (h0 : ok x) (ht : Trim L s.length e s (st x).1 (st x).2)
    (round : ∀ x, ok x → body (fun o e' s' => match o with
      | .normal => ∃ y, ok y ∧ m y < m x ∧ s.length ≤ (st y).2.length ∧ Trim L (st y).2.length e' s' (st y).1 (st y).2
      | o => K o e' s') (mk (st x).1) (st x).2) : LoopX body K e s := by
  have hl := ht.len
  exact LoopX.famW L st ok m x h0 (by omega) (by rw [hl]; exact ht) round

theorem WkE.same {N0 N : Nat} {e : Env} : ∀ (L : List Nat), WkE N0 N e (L.map fun t => (t, e t))
  | [] => trivial
  | t :: r => ⟨.inl rfl, WkE.same r⟩
theorem TrimO.mk' {L : List Nat} {N : Nat} {e : Env} {s : Store} {l : List (Nat × AV)} {s2 : Store} (h1 : (L.map fun t => (t, e t)) = l) (h2 : s.take N = s2) (h3 : unders N (L.map e) = true) (h4 : s2.all (objUnder N) = true) (h5 : N ≤ s.length) : TrimO L N e s l s2 := by
  unfold TrimO
  subst h1; subst h2
  have hL : (L.map fun t => (t, e t)).map (·.1) = L := by rw [List.map_map]; exact List.map_id L
  exact ⟨N, [], rfl, h5, fun h => absurd rfl h, by simp, (by intro q hq; cases hq), h4, h3, hL, WkE.same L⟩
/-- A state told with less: some nil slices will be owned (gs: their elements' sizes and types). -/
theorem TrimO.wk {L : List Nat} {N : Nat} {e : Env} {s : Store} {l : List (Nat × AV)} {s2 : Store} (N0 : Nat) (gs : List (Nat × Option Nat)) (hN : N0 + gs.length = N) (h5 : N0 ≤ s.length) (hg : gs = [] ∨ N0 = s.length) (h2 : s.take N0 ++ gs.map ghost = s2) (hz : gs.all (fun q => Nat.blt 0 q.1) = true)
    (h4 : (s.take N0).all (objUnder N0) = true) (h3 : unders N0 (L.map e) = true) (hL : l.map (·.1) = L) (hw : WkE N0 N e l) : TrimO L N e s l s2 := by
  unfold TrimO
  exact ⟨N0, gs, hN.symm, h5, fun h => hg.resolve_left h, h2.symm, fun q hq => blt_lt (List.all_eq_true.1 hz q hq), h4, h3, hL, hw⟩
theorem Trim.o {L : List Nat} {N : Nat} {e : Env} {s : Store} {l : List (Nat × AV)} {s2 : Store} (h : TrimO L N e s l s2) : Trim L N e s l s2 := by
  unfold Trim
  exact ⟨[], h⟩
theorem Trim.fz {L : List Nat} {N : Nat} {e : Env} {s : Store} {l : List (Nat × AV)} {s2 : Store} (ts : List Nat) (h : freezeK ts e s fun e' s' => TrimO L N e' s' l s2) : Trim L N e s l s2 := by
  unfold Trim
  exact ⟨ts, h⟩
theorem Trim.mk' {L : List Nat} {N : Nat} {e : Env} {s : Store} {l : List (Nat × AV)} {s2 : Store} (h1 : (L.map fun t => (t, e t)) = l) (h2 : s.take N = s2) (h3 : unders N (L.map e) = true) (h4 : s2.all (objUnder N) = true) (h5 : N ≤ s.length) : Trim L N e s l s2 := .o (.mk' h1 h2 h3 h4 h5)
/-- A state told with less: some nil slices will be owned (gs: their elements' sizes and types). -/
theorem Trim.wk {L : List Nat} {N : Nat} {e : Env} {s : Store} {l : List (Nat × AV)} {s2 : Store} (N0 : Nat) (gs : List (Nat × Option Nat)) (hN : N0 + gs.length = N) (h5 : N0 ≤ s.length) (hg : gs = [] ∨ N0 = s.length) (h2 : s.take N0 ++ gs.map ghost = s2) (hz : gs.all (fun q => Nat.blt 0 q.1) = true)
    (h4 : (s.take N0).all (objUnder N0) = true) (h3 : unders N0 (L.map e) = true) (hL : l.map (·.1) = L) (hw : WkE N0 N e l) : Trim L N e s l s2 := .o (.wk N0 gs hN h5 hg h2 hz h4 h3 hL hw)
theorem WkV.nil {N0 N : Nat} {sz : Nat} (k : SK) (sz' : Nat) : WkV N0 N (.p (.sl .nil sz [])) (.p (.sl k sz' [])) := .inr (.inl ⟨_, _, rfl, rfl, .inl ⟨_, _, _, rfl, rfl⟩⟩)
theorem WkV.shr {N0 N : Nat} {sz : Nat} {xs : List PV} : WkV N0 N (.p (.sl .clip sz xs)) (.p (.sl .shr sz xs)) := .inr (.inl ⟨_, _, rfl, rfl, .inr ⟨_, _, rfl, rfl⟩⟩)
theorem WkV.own {N0 N : Nat} {sz : Nat} (id : Nat) (h1 : Nat.ble N0 id = true) (h2 : Nat.blt id N = true) : WkV N0 N (.p (.sl .nil sz [])) (.osl id 0 0 0) := .inr (.inr ⟨_, id, rfl, Nat.le_of_ble_eq_true h1, blt_lt h2, rfl⟩)
end Go.Proofs.YtlnelaajlhfabaaGreat.AW

namespace Go.Proofs.YtlnelaajlhfabaaGreat.AW
set_option linter.unusedSimpArgs false
set_option linter.unusedVariables false
variable {P : Program}

/-- A value that reaches no memory. -/
def scalar : AV → Bool
  | .p (.bool _) | .p (.int _ _) | .p (.str _) => true
  | _ => false

theorem scalar_rep {w w' : World} {g g' : G} {σ σ' : St} {v : AV} {x : Value} (hs : scalar v = true) (h : RepA w g σ v x) : RepA w' g' σ' v x := by
  cases h with
  | p v x h => cases h <;> first | exact .p _ _ (.bool _) | exact .p _ _ (.int _ _) | exact .p _ _ (.str _) | simp [scalar] at hs
  | _ => simp [scalar] at hs

/-- A call to which owned slices are lent: what it returns reaches no memory, so they are the caller's again. -/
theorem Cal.lend {f : Nat} {args : List AV} {ps : List PV} {s : Store} {v : AV} {K : AV → Store → Prop} (hps : partsP s args fun qs _ => qs = ps) (h : Cal P f (ps.map .p) [] fun r _ => r = v) (hv : scalar v = true) (hk : K v s) : Cal P f args s K := by
  unfold Cal at h ⊢
  refine fun w g vs hinv hG hfresh hargs => ?_
  have c : Cx w g (getO s) s (fun _ => True) False := ⟨hinv, fun _ _ => rfl, fun hh => hh.elim⟩
  obtain ⟨qs, s2, rfl, fz, k3⟩ := partsP_tree hargs c (fun _ _ _ _ => trivial) hps
  have hov : ovr (fun _ => True) s s2 (getO s) = getO s2 := by funext i; simp [ovr]
  have q1 := fz.inv; have q2 := fz.ext
  rw [hov] at q1 q2 k3
  let g0 : G := { ι := g.ι, X := Lv g (getO s2), C := fun _ => False }
  have hemp : ∀ id, getO ([] : Store) id = none := fun id => rfl
  have hlv0 : ∀ b, Lv g0 (getO []) b → Lv g (getO s2) b := by
    rintro b (h | ⟨id, h1, _, _⟩)
    · exact h
    · exact absurd (hemp id) h1
  have hlt : ∀ b, Lv g (getO s2) b → b < w.heap.size := by
    rintro b (h | ⟨id, h1, hr, h2⟩)
    · exact hinv.xlt b h
    · obtain ⟨o, ho⟩ := Option.ne_none_iff_exists'.1 h1
      rw [← h2]; exact (q1.lies id o ho hr).1
  have hinv0 : Inv w g0 (getO []) := ⟨fun id o h => by rw [hemp] at h; (cases h), fun id o h => by rw [hemp] at h; (cases h), hlt, fun i j h => absurd (hemp i) h, fun id o h => by rw [hemp] at h; (cases h), fun id o h => by rw [hemp] at h; (cases h)⟩
  have hargs0 : RepAs w g0 (getO []) (qs.map .p) vs := (k3.keep (fun _ _ _ => rfl) (fun b _ hb => hlv0 b hb)).repAs
  have hG0 : Gk P w g0 (getO []) := fun i cs hi => by
    obtain ⟨q1, q2, q3⟩ := (hG.ext q2) i cs hi
    exact ⟨q1, fun hl => q2 (hlv0 _ hl), q3.keep (fun _ _ _ => rfl) (fun b _ hb => hlv0 b hb) (fun _ => q2)⟩
  refine (h w g0 vs hinv0 hG0 (fun id hid => hid.elim) hargs0).mono fun e w' hpost => ?_
  obtain ⟨r, x, s', g', rfl, rfl, _, hrep, hinv', hext, hC⟩ := hpost
  have hall : ∀ b, b < w.heap.size → w'.heap[b]? = w.heap[b]? := fun b hb => hext.frame b hb (fun ⟨id, h1, _, _⟩ => h1 (hemp id))
  have hext' : Ext w g (getO s) w' g (getO s) := ⟨hext.size, hext.os, hext.tape, hext.output, fun b hb _ => hall b hb, fun b hb => shape_same (hall b hb), rfl, fun _ h => h, fun _ _ h => h, fun _ _ o h => ⟨o, h, .refl _⟩, fun _ _ _ => ⟨rfl, .rfl⟩, fun _ _ _ _ _ _ _ _ _ _ => ⟨rfl, .rfl⟩, hext.drawn⟩
  have hinvF : Inv w' g (getO s) := ⟨hinv.made, fun id o h hr => by have := hinv.lies id o h hr; have := hext.size; exact ⟨by omega, (hinv.lies id o h hr).2⟩, fun b hb => by have := hinv.xlt b hb; have := hext.size; omega, hinv.inj,
    fun id o h hr => hext'.repO (hall _ (hinv.lies id o h hr).1) (hinv.rep id o h hr), hinv.void⟩
  exact ⟨_, x, s, g, rfl, hk, Nat.le_refl _, scalar_rep hv hrep, hinvF, hext', fun id h => .inl h⟩
end Go.Proofs.YtlnelaajlhfabaaGreat.AW

namespace Go.Proofs.YtlnelaajlhfabaaGreat.AW
set_option linter.unusedSimpArgs false
set_option linter.unusedVariables false
variable {P : Program}
/-- The library's function that hands a pointer on as it is. -/
theorem Cal.noEscape {f : Nat} {fn : Func} (hf : P.funcs[f]? = some fn) (hn : (fn.name == "runtime.NumGoroutine") = false) (hb : fn.body = none) (h1 : Extern.findNext fn = none) (h2 : Extern.find fn = some Extern.AbiNoEscape.same) (v : AV) (s : Store) (K : AV → Store → Prop) (hk : K v s) : Cal P f [v] s K := by
  unfold Cal
  intro w g vs hinv hG hfresh hargs
  cases hargs with
  | cons _ x _ xs hx hs =>
    cases hs
    refine .inr ⟨x, w, ?_, v, x, s, g, rfl, hk, Nat.le_refl _, hx, hinv, .refl _ _ _, fun id h => .inl h⟩
    unfold callFunc
    have hn' : ¬ fn.name = "runtime.NumGoroutine" := by simpa using hn
    have hr : (Extern.AbiNoEscape.same #[x]).run P w = .ok x w := rfl
    simp [hf, hn', hb, h1, h2, hr]
end Go.Proofs.YtlnelaajlhfabaaGreat.AW

namespace Go.Proofs.YtlnelaajlhfabaaGreat.AW

set_option linter.unusedSimpArgs false
set_option linter.unusedVariables false
theorem decode_pos (l : List UInt8) : 1 ≤ (decode l).2 := by
  unfold decode Utf8.decode
  simp only []
  repeat' split
  all_goals simp

theorem decode_le {l : List UInt8} (h : l ≠ []) : (decode l).2 ≤ l.length := by
  have hs : (⟨l.toArray⟩ : ByteArray).size = l.length := by simp [ByteArray.size]
  have hpos : 0 < l.length := List.length_pos_iff.2 h
  unfold decode Utf8.decode
  simp only [hs]
  repeat' split
  all_goals simp_all
  all_goals omega

theorem runes_fuel : ∀ (n : Nat) (l : List UInt8), l.length ≤ n → runes n l = runes l.length l := by
  intro n
  induction n using Nat.strongRecOn with
  | _ n ih =>
    intro l hl
    cases l with
    | nil => cases n <;> rfl
    | cons b r =>
      cases n with
      | zero => simp at hl
      | succ n =>
        simp only [runes, List.length_cons]
        have h1 := decode_pos (b :: r)
        have hlen : ((b :: r).drop (decode (b :: r)).2).length ≤ r.length := by simp; omega
        simp only [List.length_cons] at hl
        rw [ih n (by omega) _ (by omega)]
        by_cases hn : r.length < n + 1
        · rw [ih r.length hn _ hlen]
        · have : n = r.length := by omega
          subst this
          rw [ih r.length (by omega) _ hlen]

/-- The runes of a text. -/
def rns (l : List UInt8) : List Int := runes l.length l

theorem rns_nil : rns [] = [] := rfl
theorem rns_step {l : List UInt8} (h : l ≠ []) : rns l = ((decode l).1 : Int) :: rns (l.drop (decode l).2) := by
  unfold rns
  cases l with
  | nil => exact absurd rfl h
  | cons b r =>
    rw [List.length_cons, runes]
    rw [runes_fuel r.length _ (by have := decode_pos (b :: r); simp; omega)]

theorem rns_len : ∀ (n : Nat) (l : List UInt8), l.length = n → (rns l).length ≤ n := by
  intro n
  induction n using Nat.strongRecOn with
  | _ n ih =>
    intro l hl
    cases l with
    | nil => simp [rns_nil]
    | cons b r =>
      have hne : b :: r ≠ [] := by simp
      rw [rns_step hne]
      have h1 := decode_pos (b :: r)
      have h2 := decode_le hne
      have := ih ((b :: r).drop (decode (b :: r)).2).length (by simp at hl ⊢; omega) _ rfl
      simp only [List.length_cons, List.length_drop] at this hl h2 ⊢
      omega
theorem rns_le (l : List UInt8) : (rns l).length ≤ l.length := rns_len _ l rfl

theorem wrap_i64 {n : Int} (h1 : -9223372036854775808 ≤ n) (h2 : n < 9223372036854775808) : IntKind.i64.wrap n = n := by
  rw [IntKind.wrap_i64]; omega
end Go.Proofs.YtlnelaajlhfabaaGreat.AW

namespace Go.Proofs.YtlnelaajlhfabaaGreat.AW

set_option linter.unusedSimpArgs false
set_option linter.unusedVariables false
/-- A byte at which a rune may begin. -/
def begins (c : UInt8) : Prop := ¬ c.toNat / 64 = 2

theorem decode_edge {x : List UInt8} (hx : x ≠ []) {c : UInt8} (hc : begins c) (y : List UInt8) : decode (x ++ c :: y) = decode x := by
  unfold begins at hc
  unfold decode Utf8.decode
  match x, hx with
  | [a], _ => simp [ByteArray.get!, ByteArray.size, hc]
  | [a, b], _ => simp [ByteArray.get!, ByteArray.size, hc]
  | [a, b, d], _ => simp [ByteArray.get!, ByteArray.size, hc]
  | a :: b :: d :: e :: r, _ =>
    have h2 : 2 < r.length + 1 + 1 + 1 + 1 := by omega
    have h3 : 3 < r.length + 1 + 1 + 1 + 1 := by omega
    have h4 : 2 < r.length + (y.length + 1) + 1 + 1 + 1 + 1 := by omega
    have h5 : 3 < r.length + (y.length + 1) + 1 + 1 + 1 + 1 := by omega
    simp [ByteArray.get!, ByteArray.size, h2, h3, h4, h5]

theorem rns_edge : ∀ (n : Nat) (x : List UInt8), x.length = n → ∀ {c : UInt8}, begins c → ∀ y, rns (x ++ c :: y) = rns x ++ rns (c :: y) := by
  intro n
  induction n using Nat.strongRecOn with
  | _ n ih =>
    intro x hl c hc y
    cases x with
    | nil => rfl
    | cons a r =>
      have hne : a :: r ≠ [] := by simp
      have hne2 : a :: r ++ c :: y ≠ [] := by simp
      have h1 := decode_pos (a :: r)
      have h2 := decode_le hne
      have h3 : ((a :: r).drop (decode (a :: r)).2).length < n := by rw [List.length_drop]; simp only [List.length_cons] at *; omega
      rw [rns_step hne2, rns_step hne, decode_edge hne hc, List.drop_append_of_le_length h2, ih _ h3 _ rfl hc]
      rfl

theorem decode_ascii {c : UInt8} (hc : c.toNat < 128) (y : List UInt8) : decode (c :: y) = (c.toNat, 1) := by
  unfold decode Utf8.decode
  simp [ByteArray.get!, hc]

theorem rns_ascii {c : UInt8} (hc : c.toNat < 128) (y : List UInt8) : rns (c :: y) = (c.toNat : Int) :: rns y := by
  rw [rns_step (by simp), decode_ascii hc]; rfl

theorem rns_blank (x y : List UInt8) : (rns (x ++ [32] ++ y)).length = (rns x).length + (rns y).length + 1 := by
  have : x ++ [32] ++ y = x ++ 32 :: y := by simp
  rw [this, rns_edge _ x rfl (by unfold begins; decide) y, rns_ascii (by decide) y]
  simp; omega
end Go.Proofs.YtlnelaajlhfabaaGreat.AW

namespace Go.Proofs.YtlnelaajlhfabaaGreat.AW
set_option linter.unusedSimpArgs false
set_option linter.unusedVariables false
variable {P : Program}

/-- A value beside which no store is needed. -/
def noStore : AV → Bool
  | .p _ => true
  | .clos _ [] => true
  | _ => false

/-- As `Cal.pure`, where functions without captures are handed over, too. -/
theorem Cal.pureF {f : Nat} {args : List AV} {s : Store} {K : AV → Store → Prop} (ha : args.all noStore = true) (h : Cal P f args [] fun r s' => finP s' r fun v => K v s) : Cal P f args s K := by
  unfold Cal at h ⊢
  refine fun w g vs hinv hG hfresh hargs => ?_
  let g0 : G := { ι := g.ι, X := Lv g (getO s), C := fun _ => False }
  have hemp : ∀ id, getO ([] : Store) id = none := fun id => rfl
  have hlv0 : ∀ b, Lv g0 (getO []) b → Lv g (getO s) b := by
    rintro b (h | ⟨id, h1, _, _⟩)
    · exact h
    · exact absurd (hemp id) h1
  have hlt : ∀ b, Lv g (getO s) b → b < w.heap.size := by
    rintro b (h | ⟨id, h1, hr, h2⟩)
    · exact hinv.xlt b h
    · obtain ⟨o, ho⟩ := Option.ne_none_iff_exists'.1 h1
      rw [← h2]; exact (hinv.lies id o ho hr).1
  have hinv0 : Inv w g0 (getO []) := ⟨fun id o h => by rw [hemp] at h; (cases h), fun id o h => by rw [hemp] at h; (cases h), hlt, fun i j h => absurd (hemp i) h, fun id o h => by rw [hemp] at h; (cases h), fun id o h => by rw [hemp] at h; (cases h)⟩
  have hargs0 : RepAs w g0 (getO []) args vs := by
    have key : ∀ {args : List AV} {vs : List Value}, args.all noStore = true → RepAs w g (getO s) args vs → RepAs w g0 (getO []) args vs := by
      intro args
      induction args with
      | nil => intro vs _ h; cases h; exact .nil
      | cons a r ih =>
        intro vs ha h
        simp only [List.all_cons, Bool.and_eq_true] at ha
        cases h with
        | cons _ x _ xs hx hs =>
          refine .cons _ _ _ _ ?_ (ih ha.2 hs)
          cases a with
          | p p => exact .p _ _ (hx.inv_p.keep (fun _ _ _ => rfl) (fun b _ hb => hlv0 b hb))
          | clos k caps =>
            cases caps with
            | nil => cases hx with | clos _ _ a h => cases h; exact .clos _ _ _ .nil
            | cons _ _ => exact absurd ha.1 (by simp [noStore])
          | _ => exact absurd ha.1 (by simp [noStore])
    exact key ha hargs
  have hG0 : Gk P w g0 (getO []) := fun i cs hi => by
    obtain ⟨q1, q2, q3⟩ := hG i cs hi
    exact ⟨q1, fun hl => q2 (hlv0 _ hl), q3.keep (fun _ _ _ => rfl) (fun b _ hb => hlv0 b hb) (fun _ => q2)⟩
  refine (h w g0 vs hinv0 hG0 (fun id hid => hid.elim) hargs0).mono fun e w' hpost => ?_
  obtain ⟨r, v, s', g', rfl, hk, _, hrep, hinv', hext, hC⟩ := hpost
  have hall : ∀ b, b < w.heap.size → w'.heap[b]? = w.heap[b]? := fun b hb => hext.frame b hb (fun ⟨id, h1, _, _⟩ => h1 (hemp id))
  have hX : ∀ b, Lv g (getO s) b → g'.X b := fun b hb => by rw [hext.X]; exact hb
  have hext' : Ext w g (getO s) w' g (getO s) := ⟨hext.size, hext.os, hext.tape, hext.output, fun b hb _ => hall b hb, fun b hb => shape_same (hall b hb), rfl, fun _ h => h, fun _ _ h => h, fun _ _ o h => ⟨o, h, .refl _⟩, fun _ _ _ => ⟨rfl, .rfl⟩, fun _ _ _ _ _ _ _ _ _ _ => ⟨rfl, .rfl⟩, hext.drawn⟩
  have hinvF : Inv w' g (getO s) := ⟨hinv.made, fun id o h hr => by have := hinv.lies id o h hr; have := hext.size; exact ⟨by omega, (hinv.lies id o h hr).2⟩, fun b hb => by have := hinv.xlt b hb; have := hext.size; omega, hinv.inj,
    fun id o h hr => hext'.repO (hall _ (hinv.lies id o h hr).1) (hinv.rep id o h hr), hinv.void⟩
  have c' : Cx w' g' (getO s') s' (fun _ => True) True := ⟨hinv', fun _ _ => rfl, fun _ hid => by
    rcases hC _ hid with h | h
    · exact h.elim
    · exact Nat.lt_irrefl _ h.2⟩
  have back : ∀ {σ' : St} {p : PV} {x : Value}, RepP w' (Lv g' σ') p x → RepP w' (Lv g (getO s)) p x := fun hp => hp.keep (fun _ _ _ => rfl) (fun b _ hb => .inl (hX b hb))
  have backs : ∀ {σ' : St} {ps : List PV} {xs : List Value}, RepPs w' (Lv g' σ') ps xs → RepPs w' (Lv g (getO s)) ps xs := fun hp => hp.keep (fun _ _ _ => rfl) (fun b _ hb => .inl (hX b hb))
  unfold finP at hk
  split at hk
  · rename_i vs'
    obtain ⟨ys, rfl, hys⟩ := hrep.inv_tup
    obtain ⟨ps, s2, k1, _, k3⟩ := partsP_tree hys c' (fun _ _ _ _ => trivial) hk
    exact ⟨_, _, s, g, rfl, k1, Nat.le_refl _, .tup _ _ (backs k3).repAs, hinvF, hext', fun id h => .inl h⟩
  · obtain ⟨p, s2, k1, _, k3⟩ := toP_tree hrep c' (fun _ _ => trivial) hk
    exact ⟨_, _, s, g, rfl, k1, Nat.le_refl _, .p _ _ (back k3), hinvF, hext', fun id h => .inl h⟩

/-- What a call returns, handed on as a tree. -/
theorem Cal.frz {f : Nat} {args : List AV} {s : Store} {K : AV → Store → Prop} (h : Cal P f args s fun r s' => toP s' r fun p s'' => K (.p p) s'') : Cal P f args s K := by
  unfold Cal at h ⊢
  refine fun w g vs hinv hG hfresh hargs => (h w g vs hinv hG hfresh hargs).mono fun e w' hpost => ?_
  obtain ⟨r, v, s', g', rfl, hk, hlen, hrep, hinv', hext, hC⟩ := hpost
  have c : Cx w' g' (getO s') s' (fun _ => True) False := ⟨hinv', fun _ _ => rfl, fun hh => hh.elim⟩
  obtain ⟨p, s2, k1, fz, k3⟩ := toP_tree hrep c (fun _ _ => trivial) hk
  have hov : ovr (fun _ => True) s' s2 (getO s') = getO s2 := by funext i; simp [ovr]
  have q1 := fz.inv; have q2 := fz.ext
  rw [hov] at q1 q2 k3
  exact ⟨_, v, s2, g', rfl, k1, by have := fz.len; omega, .p _ _ k3, q1, hext.trans q2, fun id hid => by have := hC id hid; rw [fz.len]; exact this⟩
end Go.Proofs.YtlnelaajlhfabaaGreat.AW

namespace Go.Proofs.YtlnelaajlhfabaaGreat.AW
set_option linter.unusedSimpArgs false
set_option linter.unusedVariables false
variable {P : Program}

/-- **A call beside a small store** holds beside any store that has its objects, whatever their places there. -/
theorem Cal.frame {f : Nat} {args0 args : List AV} {s0 s : Store} {K : AV → Store → Prop} (is : List Nat)
    (h : Cal P f args0 s0 fun r s' => s0.length ≤ s'.length → K (r.ren (place is s.length)) (mergeO (place is s.length) is s s'))
    (ha : args = rens (place is s.length) args0) (hs : is.map (getO s) = s0.map (renO (place is s.length))) (hn : nodupLt is s.length = true) : Cal P f args s K := by
  unfold Cal at h ⊢
  subst ha
  refine fun w g vs hinv hG hfresh hargs => ?_
  have hlen : s0.length = is.length := by have := congrArg List.length hs; simpa using this.symm
  generalize hm : s.length = m at *
  generalize hρ : place is m = ρ at *
  have hlt : ∀ i, i < is.length → ρ i < m ∧ ρ i ∈ is := fun i hi => by rw [← hρ]; exact place_lt hn hi
  have hge : ∀ i, is.length ≤ i → ρ i = m + (i - is.length) := fun i hi => by rw [← hρ]; exact place_ge hi
  have hinj : ∀ i k, ρ i = ρ k → i = k := fun i k e => by rw [← hρ] at e; exact place_inj hn e
  have hmem : ∀ j, j ∈ is → ∃ i, i < is.length ∧ ρ i = j := fun j hj => by rw [← hρ]; exact place_mem hj
  have hobj : ∀ i, getO s (ρ i) = renO ρ (getO s0 i) := fun i => by
    by_cases hi : i < is.length
    · have h1 : (is.map (getO s))[i]? = (s0.map (renO ρ))[i]? := by rw [hs]
      have h2 : is[i]? = some (ρ i) := by
        rw [← hρ]
        clear h hs hlen hρ hlt hge hinj hmem hargs h1
        induction is generalizing i with
        | nil => simp at hi
        | cons j r ih =>
          cases i with
          | zero => rfl
          | succ i =>
            simp only [nodupLt, Bool.and_eq_true] at hn
            simp only [List.getElem?_cons_succ, place]
            exact ih hn.2 i (by simpa using hi)
      rw [List.getElem?_map, List.getElem?_map, h2] at h1
      simp only [Option.map_some] at h1
      unfold getO at h1 ⊢
      cases h3 : s0[i]? with
      | none => rw [List.getElem?_eq_none_iff] at h3; omega
      | some o => rw [h3] at h1; simpa using h1
    · rw [hge i (by omega), getO_out (by omega), getO_out (by omega)]; rfl
  have himg : ∀ j, j < m → ¬ j ∈ is → ∀ i, ρ i ≠ j := fun j hj hnj i e => by
    by_cases hi : i < is.length
    · exact hnj (e ▸ (hlt i hi).2)
    · rw [hge i (by omega)] at e; omega
  -- the small world
  let out : Nat → Prop := fun b => ∃ j, ¬ j ∈ is ∧ getO s j ≠ none ∧ g.R j ∧ g.ι j = b
  let g0 : G := { ι := fun i => g.ι (ρ i), X := fun b => g.X b ∨ out b, C := fun i => g.C (ρ i), R := fun i => g.R (ρ i) }
  have hjm : ∀ j, getO s j ≠ none → j < m := fun j hj => Nat.lt_of_not_le fun hle => hj (getO_out (by omega))
  have hown : ∀ b, Own g (getO s) b ↔ (out b ∨ Own g0 (getO s0) b) := fun b => by
    constructor
    · rintro ⟨j, h1, h2, h3⟩
      by_cases hj : j ∈ is
      · obtain ⟨i, hi, rfl⟩ := hmem j hj
        exact .inr ⟨i, fun e => h1 (by rw [hobj, e]; rfl), h2, h3⟩
      · exact .inl ⟨j, hj, h1, h2, h3⟩
    · rintro (⟨j, _, h1, h2, h3⟩ | ⟨i, h1, h2, h3⟩)
      · exact ⟨j, h1, h2, h3⟩
      · exact ⟨ρ i, fun e => h1 (renO_none.1 (by rw [← hobj]; exact e)), h2, h3⟩
  have hren : Ren g0 (getO s0) g (getO s) ρ := ⟨fun _ => rfl, fun _ => .rfl, fun _ => .rfl, hobj, fun b => by
    unfold Lv
    rw [hown b]
    exact or_assoc⟩
  have hoj : ∀ i o, getO s0 i = some o → getO s (ρ i) = some (o.ren ρ) := fun i o ho => by rw [hobj, ho]; rfl
  have hinv0 : Inv w g0 (getO s0) := by
    refine ⟨fun i o ho => hinv.made _ _ (hoj i o ho), fun i o ho hr => ?_, fun b hb => ?_, fun i k hi hk hri hrk e => ?_, fun i o ho hr => hren.unO (hinv.rep _ _ (hoj i o ho) hr), fun i o ho hr => ?_⟩
    · obtain ⟨h1, h2⟩ := hinv.lies _ _ (hoj i o ho) hr
      refine ⟨h1, ?_⟩
      rintro (h3 | ⟨j, h3, h4, h5, h6⟩)
      · exact h2 h3
      · have := hinv.inj j (ρ i) h4 (by rw [hoj i o ho]; simp) h5 hr h6
        by_cases hi : i < is.length
        · exact h3 (this ▸ (hlt i hi).2)
        · rw [getO_out (by omega)] at ho; cases ho
    · rcases hb with hb | ⟨j, _, h4, h5, h6⟩
      · exact hinv.xlt b hb
      · obtain ⟨o, ho⟩ := Option.ne_none_iff_exists'.1 h4
        rw [← h6]; exact (hinv.lies j o ho h5).1
    · refine hinj _ _ (hinv.inj _ _ (fun q => hi ?_) (fun q => hk ?_) hri hrk e)
      · rw [hobj] at q; exact renO_none.1 q
      · rw [hobj] at q; exact renO_none.1 q
    · obtain ⟨sz, ty, h1, h2⟩ := hinv.void _ _ (hoj i o ho) hr
      refine ⟨sz, ty, h1, ?_⟩
      have h3 : renO ρ (some o) = some (.buf sz [] ty) := congrArg some h2
      exact Option.some.inj (renO_buf.1 h3)
  have hfr0 : ∀ i, g0.C i → i < s0.length := fun i hi => by
    have := hfresh (ρ i) hi
    refine Nat.lt_of_not_le fun hle => ?_
    rw [hge i (by omega)] at this; omega
  have hG0 : Gk P w g0 (getO s0) := fun i cs hi => by
    obtain ⟨q1, q2, q3⟩ := hG i cs hi
    exact ⟨q1, fun hl => q2 ((hren.lv _).1 hl), q3.keep (fun _ _ _ => rfl) (fun b _ hb => (hren.lv b).1 hb) (fun _ => q2)⟩
  refine (h w g0 vs hinv0 hG0 hfr0 (hren.pulls args0 hargs)).mono fun e w' hpost => ?_
  obtain ⟨r, v, s0', g0', rfl, hk, hle, hrep, hinv', hext, hC⟩ := hpost
  have hk := hk hle
  -- back
  obtain ⟨hat, hold⟩ := merge_at (ρ := ρ) (is := is) (s := s) (s0 := s0') (m := m) hm hn (by omega)
  rw [hρ] at hat
  let inv : Nat → Nat := fun j => open Classical in if hh : ∃ i, ρ i = j then hh.choose else 0
  have hinvρ : ∀ i, inv (ρ i) = i := fun i => by
    have hh : ∃ k, ρ k = ρ i := ⟨i, rfl⟩
    simp only [inv, dif_pos hh]
    exact hinj _ _ hh.choose_spec
  let im : Nat → Prop := fun j => ∃ i, ρ i = j
  let g' : G := { ι := fun j => open Classical in if im j then g0'.ι (inv j) else g.ι j, X := g.X, C := fun j => (im j ∧ g0'.C (inv j)) ∨ (¬ im j ∧ g.C j), R := fun j => (im j ∧ g0'.R (inv j)) ∨ (¬ im j ∧ g.R j) }
  have imρ : ∀ i, im (ρ i) := fun i => ⟨i, rfl⟩
  have gι : ∀ i, g'.ι (ρ i) = g0'.ι i := fun i => by simp only [g', if_pos (imρ i), hinvρ]
  have gιo : ∀ j, ¬ im j → g'.ι j = g.ι j := fun j hj => by simp only [g', if_neg hj]
  have gC : ∀ i, g'.C (ρ i) ↔ g0'.C i := fun i => by simp [g', imρ i, hinvρ]
  have gCo : ∀ j, ¬ im j → (g'.C j ↔ g.C j) := fun j hj => by simp [g', hj]
  have gR : ∀ i, g'.R (ρ i) ↔ g0'.R i := fun i => by simp [g', imρ i, hinvρ]
  have gRo : ∀ j, ¬ im j → (g'.R j ↔ g.R j) := fun j hj => by simp [g', hj]
  generalize hs' : mergeO ρ is s s0' = s' at *
  have hnim : ∀ j, ¬ im j → j < m ∧ ¬ j ∈ is := fun j hj => by
    have h1 : ¬ j ∈ is := fun q => by obtain ⟨i, _, e⟩ := hmem j q; exact hj ⟨i, e⟩
    refine ⟨Nat.lt_of_not_le fun hle => hj ⟨j - m + is.length, ?_⟩, h1⟩
    rw [hge _ (by omega)]; omega
  have hsame : ∀ j, ¬ im j → getO s' j = getO s j := fun j hj => by
    obtain ⟨h1, h2⟩ := hnim j hj; exact hold j h1 h2
  have himi : ∀ j, j < m → ¬ j ∈ is → ¬ im j := fun j h1 h2 ⟨i, e⟩ => himg j h1 h2 i e
  have hX0 : ∀ b, g0'.X b ↔ (g.X b ∨ out b) := fun b => by rw [hext.X]
  have hout' : ∀ b, out b → ¬ Own g0' (getO s0') b := by
    rintro b hb ⟨i, h1, h2, h3⟩
    obtain ⟨o, ho⟩ := Option.ne_none_iff_exists'.1 h1
    exact (hinv'.lies i o ho h2).2 ((hX0 _).2 (.inr (h3 ▸ hb)))
  have hlt' : ∀ b, out b → b < w.heap.size := fun b ⟨j, _, h1, h2, h3⟩ => by
    obtain ⟨o, ho⟩ := Option.ne_none_iff_exists'.1 h1
    rw [← h3]; exact (hinv.lies j o ho h2).1
  have hown' : ∀ b, Own g' (getO s') b ↔ (out b ∨ Own g0' (getO s0') b) := fun b => by
    constructor
    · rintro ⟨j, h1, h2, h3⟩
      by_cases hj : im j
      · obtain ⟨i, rfl⟩ := hj
        exact .inr ⟨i, fun e => h1 (by rw [hat, e]; rfl), (gR i).1 h2, by rw [← gι]; exact h3⟩
      · exact .inl ⟨j, (hnim j hj).2, by rw [← hsame j hj]; exact h1, (gRo j hj).1 h2, by rw [← gιo j hj]; exact h3⟩
    · rintro (⟨j, h0, h1, h2, h3⟩ | ⟨i, h1, h2, h3⟩)
      · have hj := himi j (hjm j h1) h0
        exact ⟨j, by rw [hsame j hj]; exact h1, (gRo j hj).2 h2, by rw [gιo j hj]; exact h3⟩
      · exact ⟨ρ i, fun e => h1 (renO_none.1 (by rw [← hat]; exact e)), (gR i).2 h2, by rw [gι]; exact h3⟩
  have hren' : Ren g0' (getO s0') g' (getO s') ρ := ⟨gι, gC, gR, hat, fun b => by
    unfold Lv
    rw [hown' b, hX0 b]
    exact or_assoc⟩
  have hext' : Ext w g (getO s) w' g' (getO s') := by
    refine ⟨hext.size, hext.os, hext.tape, hext.output, fun b hb hno => hext.frame b hb fun q => hno ((hown b).2 (.inr q)), hext.shape, rfl, fun j hc => ?_, fun b hb hb2 => ?_, fun j hc o' ho' => ?_, fun j hc hnb => ?_, fun j sz xs xs' ty ty' hc h1 h2 h3 => ?_, hext.drawn⟩
    · by_cases hj : im j
      · obtain ⟨i, rfl⟩ := hj; exact (gC i).2 (hext.C i hc)
      · exact (gCo j hj).2 hc
    · rcases (hown' b).1 hb2 with q | q
      · exact (hown b).2 (.inl q)
      · exact (hown b).2 (.inr (hext.own b hb q))
    · by_cases hj : im j
      · obtain ⟨i, rfl⟩ := hj
        rw [hat] at ho'
        cases hq : getO s0' i with
        | none => rw [hq] at ho'; cases ho'
        | some o0' =>
          rw [hq] at ho'; cases ho'
          obtain ⟨o0, k1, k2⟩ := hext.obj i hc _ hq
          exact ⟨o0.ren ρ, hoj i o0 k1, sameKind_ren k2⟩
      · rw [hsame j hj] at ho'; exact ⟨o', ho', .refl _⟩
    · by_cases hj : im j
      · obtain ⟨i, rfl⟩ := hj
        obtain ⟨k1, k2⟩ := hext.ι1 i hc (fun sz xs ty e => hnb sz xs ty (hren.buf.2 e))
        exact ⟨(gι i).trans k1, (gR i).trans k2⟩
      · exact ⟨gιo j hj, gRo j hj⟩
    · by_cases hj : im j
      · obtain ⟨i, rfl⟩ := hj
        obtain ⟨k1, k2⟩ := hext.ι2 i sz xs xs' ty ty' hc (hren.buf.1 h1) (hren'.buf.1 h2) h3
        exact ⟨(gι i).trans k1, (gR i).trans k2⟩
      · exact ⟨gιo j hj, gRo j hj⟩
  have hsz := hext.size
  have hinvF : Inv w' g' (getO s') := by
    have hmix : ∀ i j, getO s0' i ≠ none → g0'.R i → ¬ im j → getO s j ≠ none → g.R j → g0'.ι i ≠ g.ι j := fun i j h1 h2 h3 h4 h5 e =>
      hout' (g.ι j) ⟨j, (hnim j h3).2, h4, h5, rfl⟩ ⟨i, h1, h2, e⟩
    have n0 : ∀ i, getO s' (ρ i) ≠ none → getO s0' i ≠ none := fun i h e => h (by rw [hat, e]; rfl)
    have inO : ∀ i o, getO s' (ρ i) = some o → ∃ o0, getO s0' i = some o0 ∧ o = o0.ren ρ := fun i o ho => by
      rw [hat] at ho
      cases hq : getO s0' i with
      | none => rw [hq] at ho; cases ho
      | some o0 => rw [hq] at ho; cases ho; exact ⟨o0, rfl, rfl⟩
    refine ⟨fun j o ho => ?_, fun j o ho hr => ?_, fun b hb => by have := hinv.xlt b hb; omega, fun j k hj hk hrj hrk e => ?_, fun j o ho hr => ?_, fun j o ho hr => ?_⟩
    · by_cases hj : im j
      · obtain ⟨i, rfl⟩ := hj
        obtain ⟨o0, h1, _⟩ := inO i o ho
        exact (gC i).2 (hinv'.made i o0 h1)
      · rw [hsame j hj] at ho; exact (gCo j hj).2 (hinv.made j o ho)
    · by_cases hj : im j
      · obtain ⟨i, rfl⟩ := hj
        obtain ⟨o0, h1, _⟩ := inO i o ho
        obtain ⟨k1, k2⟩ := hinv'.lies i o0 h1 ((gR i).1 hr)
        rw [gι]
        exact ⟨k1, fun q => k2 ((hX0 _).2 (.inl q))⟩
      · rw [hsame j hj] at ho
        obtain ⟨k1, k2⟩ := hinv.lies j o ho ((gRo j hj).1 hr)
        rw [gιo j hj]; exact ⟨by omega, k2⟩
    · by_cases hij : im j
      · obtain ⟨i, rfl⟩ := hij
        by_cases hik : im k
        · obtain ⟨l, rfl⟩ := hik
          rw [gι, gι] at e
          rw [hinv'.inj i l (n0 i hj) (n0 l hk) ((gR i).1 hrj) ((gR l).1 hrk) e]
        · rw [gι, gιo k hik] at e
          exact absurd e (hmix i k (n0 i hj) ((gR i).1 hrj) hik (by rw [← hsame k hik]; exact hk) ((gRo k hik).1 hrk))
      · by_cases hik : im k
        · obtain ⟨l, rfl⟩ := hik
          rw [gι, gιo j hij] at e
          exact absurd e.symm (hmix l j (n0 l hk) ((gR l).1 hrk) hij (by rw [← hsame j hij]; exact hj) ((gRo j hij).1 hrj))
        · rw [gιo j hij, gιo k hik] at e
          exact hinv.inj j k (by rw [← hsame j hij]; exact hj) (by rw [← hsame k hik]; exact hk) ((gRo j hij).1 hrj) ((gRo k hik).1 hrk) e
    · by_cases hj : im j
      · obtain ⟨i, rfl⟩ := hj
        obtain ⟨o0, h1, rfl⟩ := inO i o ho
        rw [gι]
        exact hren'.repO (hinv'.rep i o0 h1 ((gR i).1 hr))
      · rw [hsame j hj] at ho
        have hr' := (gRo j hj).1 hr
        rw [gιo j hj]
        have hb : out (g.ι j) := ⟨j, (hnim j hj).2, by rw [ho]; simp, hr', rfl⟩
        refine hext'.repO (hext.frame _ (hinv.lies j o ho hr').1 fun q => ?_) (hinv.rep j o ho hr')
        obtain ⟨i, h1, h2, h3⟩ := q
        have h4 : getO s (ρ i) ≠ none := fun e => h1 (renO_none.1 (by rw [← hobj]; exact e))
        have := hinv.inj (ρ i) j h4 (by rw [ho]; simp) h2 hr' h3
        exact hj ⟨i, this⟩
    · by_cases hj : im j
      · obtain ⟨i, rfl⟩ := hj
        obtain ⟨o0, h1, rfl⟩ := inO i o ho
        obtain ⟨sz, ty, k1, rfl⟩ := hinv'.void i o0 h1 (fun q => hr ((gR i).2 q))
        exact ⟨sz, ty, k1, rfl⟩
      · rw [hsame j hj] at ho
        exact hinv.void j o ho (fun q => hr ((gRo j hj).2 q))
  have hlen' : s'.length = m + (s0'.length - is.length) := by rw [← hs', merge_len (by omega), hm]
  refine ⟨_, v, s', g', rfl, hk, by omega, hren'.push hrep, hinvF, hext', fun j hj => ?_⟩
  by_cases hij : im j
  · obtain ⟨i, rfl⟩ := hij
    rcases hC i ((gC i).1 hj) with q | q
    · exact .inl q
    · rw [hge i (by omega)]; exact .inr ⟨by omega, by omega⟩
  · exact .inl ((gCo j hij).1 hj)
end Go.Proofs.YtlnelaajlhfabaaGreat.AW

namespace Go.Proofs.YtlnelaajlhfabaaGreat.AW
set_option linter.unusedSimpArgs false
set_option linter.unusedVariables false
variable {P : Program}

/-! ### Results and arguments told with less -/
def WkA1 (a b : AV) : Prop := a = b ∨ ∃ p q, a = .p p ∧ b = .p q ∧ WkP p q
def WkAs : List AV → List AV → Prop
  | [], [] => True
  | a :: r, b :: t => WkA1 a b ∧ WkAs r t
  | _, _ => False
def WkA (a b : AV) : Prop := WkA1 a b ∨ ∃ vs us, a = .tup vs ∧ b = .tup us ∧ WkAs vs us

theorem WkA1.rep {w : World} {g : G} {σ : St} {a b : AV} {x : Value} (h : WkA1 a b) (hr : RepA w g σ a x) : RepA w g σ b x := by
  rcases h with rfl | ⟨p, q, rfl, rfl, h⟩
  · exact hr
  · exact .p _ _ (h.rep hr.inv_p)
theorem WkAs.rep {w : World} {g : G} {σ : St} : ∀ {as bs : List AV} {xs : List Value}, WkAs as bs → RepAs w g σ as xs → RepAs w g σ bs xs
  | [], [], _, _, h => h
  | a :: r, b :: t, _, h, .cons _ x _ xs h1 h2 => .cons _ _ _ _ (h.1.rep h1) (WkAs.rep h.2 h2)
  | [], _ :: _, _, h, _ => h.elim
  | _ :: _, [], _, h, _ => h.elim
theorem WkA.rep {w : World} {g : G} {σ : St} {a b : AV} {x : Value} (h : WkA a b) (hr : RepA w g σ a x) : RepA w g σ b x := by
  rcases h with h | ⟨vs, us, rfl, rfl, h⟩
  · exact h.rep hr
  · obtain ⟨ys, rfl, hs⟩ := hr.inv_tup
    exact .tup _ _ (h.rep hs)
theorem WkA1.refl (a : AV) : WkA1 a a := .inl rfl
theorem WkA1.nil {sz : Nat} (k : SK) (sz' : Nat) : WkA1 (.p (.sl .nil sz [])) (.p (.sl k sz' [])) := .inr ⟨_, _, rfl, rfl, .inl ⟨_, _, _, rfl, rfl⟩⟩
theorem WkA1.shr {sz : Nat} {xs : List PV} : WkA1 (.p (.sl .clip sz xs)) (.p (.sl .shr sz xs)) := .inr ⟨_, _, rfl, rfl, .inr ⟨_, _, rfl, rfl⟩⟩

/-- What a call returns, told with less. -/
theorem Cal.weak {f : Nat} {args : List AV} {s : Store} {K : AV → Store → Prop} (h : Cal P f args s fun r s' => ∃ r', WkA r r' ∧ K r' s') : Cal P f args s K := by
  unfold Cal at h ⊢
  refine fun w g vs h1 hG h2 h3 => (h w g vs h1 hG h2 h3).mono fun e w' hpost => ?_
  obtain ⟨r, v, s', g', h4, ⟨r', hw, hk⟩, h5, h6, h7⟩ := hpost
  exact ⟨r', v, s', g', h4, hk, h5, hw.rep h6, h7⟩
/-- What a call is handed, told with less. -/
theorem Cal.args {f : Nat} {args args' : List AV} {s : Store} {K : AV → Store → Prop} (h : Cal P f args' s K) (hw : WkAs args args') : Cal P f args s K := by
  unfold Cal at h ⊢
  exact fun w g vs h1 hG h2 h3 => h w g vs h1 hG h2 (hw.rep h3)

/-! ### The frame, laid open -/
/-- **A call beside a small store** holds beside any store that has its objects. -/
theorem Cal.frameK {f : Nat} {args0 args : List AV} {s0 s : Store} {K : AV → Store → Prop} (is : List Nat)
    (h : Cal P f args0 s0 fun r s' => s0.length ≤ s'.length → renK (place is s.length) r fun r' => mergeK (place is s.length) is s s' fun s'' => K r' s'')
    (ha : args = rens (place is s.length) args0) (hs : is.map (getO s) = s0.map (renO (place is s.length))) (hn : nodupLt is s.length = true) : Cal P f args s K := by
  refine Cal.frame is ?_ ha hs hn
  simp only [renK_eq, mergeK_eq] at h
  exact h
end Go.Proofs.YtlnelaajlhfabaaGreat.AW

namespace Go.Proofs.YtlnelaajlhfabaaGreat.AW
set_option linter.unusedSimpArgs false
set_option linter.unusedVariables false
variable {P : Program}

/-! ### A value told with less, at any depth -/
mutual
inductive WkD : PV → PV → Prop
  | refl (v : PV) : WkD v v
  | nil (sz : Nat) (k : SK) (sz' : Nat) : WkD (.sl .nil sz []) (.sl k sz' [])
  | agg (cs ds : List PV) (h : WkDs cs ds) : WkD (.agg cs) (.agg ds)
  | sl (k : SK) (sz : Nat) (xs ys : List PV) (hl : xs.length = ys.length) (hs : ∀ y, y ∈ ys → El sz y) (h : WkDs (flat xs) (flat ys)) : WkD (.sl k sz xs) (.sl .shr sz ys)
inductive WkDs : List PV → List PV → Prop
  | nil : WkDs [] []
  | cons (a b : PV) (r t : List PV) (h : WkD a b) (hs : WkDs r t) : WkDs (a :: r) (b :: t)
end

theorem WkDs.ne {cs ds : List PV} (h : WkDs cs ds) (hd : ds ≠ []) : cs ≠ [] := by
  cases h with
  | nil => exact hd
  | cons => simp
mutual
theorem WkD.rep {w : World} {B : Nat → Prop} : ∀ {a b : PV} {x : Value}, WkD a b → RepP w B a x → RepP w B b x
  | _, _, _, .refl v, hr => hr
  | _, _, _, .nil sz k sz', hr => by
    cases hr with
    | nil => exact .nil _ _
    | sl _ _ _ _ _ _ hk => exact absurd rfl hk
    | spt _ _ _ hk => exact absurd rfl hk
  | _, _, _, .agg cs ds h, hr => by
    cases hr with
    | agg _ a hs => exact .agg _ _ (WkDs.reps h hs)
  | _, _, _, .sl k sz xs ys hl hs h, hr => by
    cases hr with
    | nil =>
      have : ys = [] := by
        cases ys with
        | nil => rfl
        | cons => simp at hl
      subst this
      exact .nil _ _
    | spt _ _ ad hkn =>
      have : ys = [] := by
        cases ys with
        | nil => rfl
        | cons => simp at hl
      subst this
      exact .spt _ _ ad (by simp)
    | sl _ _ _ b off cap hkn hc hle _ hb hcell =>
      rw [hl]
      exact .sl _ _ _ b off cap (by simp) (by simp) (by rw [← hl]; exact hle) hs (fun hne => hb (h.ne hne)) (WkDs.cells h hcell)
theorem WkDs.reps {w : World} {B : Nat → Prop} : ∀ {as bs : List PV} {xs : List Value}, WkDs as bs → RepPs w B as xs → RepPs w B bs xs
  | _, _, _, .nil, hr => hr
  | _, _, _, .cons a b r t h hs, .cons _ x _ xs h1 h2 => .cons _ _ _ _ (WkD.rep h h1) (WkDs.reps hs h2)
theorem WkDs.cells {w : World} {B : Nat → Prop} : ∀ {as bs : List PV} {b off : Nat}, WkDs as bs → CellsP w B b off as → CellsP w B b off bs
  | _, _, _, _, .nil, hr => hr
  | _, _, _, _, .cons a b r t h hs, .cons _ _ _ x _ hc h1 h2 => .cons _ _ _ x _ hc (WkD.rep h h1) (WkDs.cells hs h2)
end

theorem WkDs.append {a b c d : List PV} (h1 : WkDs a b) (h2 : WkDs c d) : WkDs (a ++ c) (b ++ d) := by
  induction a generalizing b with
  | nil => cases h1; exact h2
  | cons x r ih =>
    cases h1 with
    | cons _ y _ t h hs => exact .cons _ _ _ _ h (ih hs)

/-- A tree handed over, told with less. -/
theorem Cal.arg1 {f : Nat} {p q : PV} {s : Store} {K : AV → Store → Prop} (h : Cal P f [.p q] s K) (hw : WkD p q) : Cal P f [.p p] s K := by
  unfold Cal at h ⊢
  refine fun w g vs h1 hG h2 h3 => h w g vs h1 hG h2 ?_
  cases h3 with
  | cons _ x _ xs ha hs => exact .cons _ _ _ _ (.p _ _ (hw.rep ha.inv_p)) hs
end Go.Proofs.YtlnelaajlhfabaaGreat.AW

namespace Go.Proofs.YtlnelaajlhfabaaGreat.AW
set_option linter.unusedSimpArgs false
set_option linter.unusedVariables false
open Go.RowKit
variable {P : Program}

/-- A contract that was proved of memory itself: what lay there still lies there; the answer is a tree. -/
theorem Cal.foreign {f : Nat} {args : List AV} {s : Store} {K : AV → Store → Prop} (pv : PV)
    (hf : ∃ fn, P.funcs[f]? = some fn ∧ (fn.name == "runtime.NumGoroutine") = false ∧ fn.body.isSome = true)
    (hc : ∀ w g vs, Inv w g (getO s) → Gk P w g (getO s) → RepAs w g (getO s) args vs → Calls P f vs.toArray w fun e w' => ∃ v, e = .returned v ∧ Below w.heap.size w w' ∧ w.drawn ≤ w'.drawn ∧ RepP w' (Lv g (getO s)) pv v)
    (h : K (.p pv) s) : Cal P f args s K := by
  unfold Cal
  intro w g vs hinv hG hfr hargs
  refine .inl ⟨hf, (hc w g vs hinv hG hargs).mono fun e w' hq => ?_⟩
  obtain ⟨v, he, hb, hd, hr⟩ := hq
  have hall : ∀ b, b < w.heap.size → w'.heap[b]? = w.heap[b]? := hb.block
  have hext : Ext w g (getO s) w' g (getO s) := ⟨hb.size, hb.os, hb.tape, hb.output, fun b hb _ => hall b hb, fun b hb => shape_same (hall b hb), rfl, fun _ h => h, fun _ _ h => h, fun _ _ o h => ⟨o, h, .refl _⟩, fun _ _ _ => ⟨rfl, .rfl⟩, fun _ _ _ _ _ _ _ _ _ _ => ⟨rfl, .rfl⟩, hd⟩
  have hinvF : Inv w' g (getO s) := ⟨hinv.made, fun id o h hr => by have := hinv.lies id o h hr; have := hext.size; exact ⟨by omega, (hinv.lies id o h hr).2⟩, fun b hb => by have := hinv.xlt b hb; have := hext.size; omega, hinv.inj,
    fun id o h hr => hext.repO (hall _ (hinv.lies id o h hr).1) (hinv.rep id o h hr), hinv.void⟩
  exact ⟨.p pv, v, s, g, he, h, Nat.le_refl _, .p _ _ hr, hinvF, hext, fun id h => .inl h⟩

/-- A variable of the library that holds an error. -/
theorem Gk.sent {w : World} {g : G} {σ : St} (h : Gk P w g σ) {i t : Nat} (hi : glob P i = some [.iface t (.pto [])]) : ∃ p, w.cell? ⟨i, 0, none⟩ = some (.iface t p) := by
  obtain ⟨_, _, hc⟩ := h i _ hi
  cases hc with
  | cons _ _ _ x _ hx hr _ => cases hr with
    | iface _ _ y _ => exact ⟨y, hx⟩
end Go.Proofs.YtlnelaajlhfabaaGreat.AW
