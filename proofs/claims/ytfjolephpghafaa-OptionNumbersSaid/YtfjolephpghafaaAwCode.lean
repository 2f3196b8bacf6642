import Derived.Test.YtfjolephpghafaaAwDrawn4
namespace Go.Proofs.Ytfjolephpghafaa.AW
variable {P : Program}

theorem aop_ok {o : Oper} {e : Env} {s : Store} {K : AV → Store → Prop} {w : World} {g : G} {a : Act} (h : aop P o.op e s K) (c : Cx w g (getO s) s (fun _ => True) True) (hfresh : ∀ id, g.C id → id < s.length) (he : EnvR w g (getO s) e a.tmps) :
    OpOk P o a w (Rs w g (getO s) s (fun _ => True) K) := by
  generalize hop : o.op = op at h
  cases op
  case move => exact ok_move (.inl hop) (by simpa [aop] using h) c he
  case assign => exact ok_move (.inr hop) (by simpa [aop] using h) c he
  case pick => exact ok_pick hop h c he
  case alloc => exact ok_alloc hop h (fun _ _ _ _ => trivial) c
  case box => exact ok_box hop h (fun _ _ _ _ => trivial) c he
  case build => exact ok_build hop h c he
  case buildSlice => exact ok_buildSlice hop h c (fun _ _ _ _ => trivial) he
  case load => exact ok_load hop h c (fun _ _ => trivial) he
  case store => exact ok_store hop h c (fun _ _ => trivial) he
  case nilCheck => exact ok_nilCheck hop h c he
  case binOp => exact ok_binOp hop h c he
  case unOp => exact ok_unOp hop h c he
  case convert => exact ok_convert hop h c (fun _ _ => trivial) he
  case makeInterface => exact ok_makeInterface hop h c he
  case makeFunc => exact ok_makeFunc hop h c he
  case makeSlice => exact ok_makeSlice hop h (fun _ _ _ _ => trivial) c he
  case slice => exact ok_slice hop h c (fun _ _ => trivial) he
  case fieldAddr => exact ok_fieldAddr hop h c he
  case field => exact ok_field hop h c he
  case indexAddr => exact ok_indexAddr hop h c (fun _ _ => trivial) he
  case index => exact ok_index hop h c he
  case range => exact ok_range hop h (fun _ _ _ _ => trivial) c he
  case next => exact ok_next hop h c (fun _ _ => trivial) he
  case typeAssert => exact ok_typeAssert hop h c he
  case extract => exact ok_extract hop h c he
  case call cl =>
    obtain ⟨callee, args, ts⟩ := cl
    simp only [aop, callA] at h
    cases callee with
    | builtin b => exact ok_builtin hop h (fun _ _ _ _ => trivial) c (fun _ _ _ _ => trivial) he
    | value f =>
      simp only [] at h
      split at h
      · rename_i k caps hev; exact ok_call hop hev h c hfresh he
      · exact h.elim
    | invoke r n => exact h.elim
  all_goals (simp only [aop] at h)

/-! ### States -/
structure Sts (n : Nat) (w : World) (g : G) (e : Env) (s : Store) (a : Act) : Prop where
  inv : Inv w g (getO s)
  fresh : ∀ id, g.C id → id < s.length
  env : EnvR w g (getO s) e a.tmps
  size : a.tmps.size = n
  defers : a.defers = []

structure Fr (w : World) (g : G) (s : Store) (w' : World) (g' : G) (s' : Store) : Prop where
  ext : Ext w g (getO s) w' g' (getO s')
  len : s.length ≤ s'.length
  new : ∀ id, g'.C id → g.C id ∨ (s.length ≤ id ∧ id < s'.length)

theorem Fr.refl {n w g e s a} (_h : Sts n w g e s a) : Fr w g s w g s := ⟨.refl _ _ _, Nat.le_refl _, fun _ h => .inl h⟩
theorem Fr.trans {w g s w' g' s' w'' g'' s''} (h : Fr w g s w' g' s') (k : Fr w' g' s' w'' g'' s'') : Fr w g s w'' g'' s'' :=
  ⟨h.ext.trans k.ext, Nat.le_trans h.len k.len, fun id hid => by
    have := h.len; have := k.len
    rcases k.new id hid with h1 | ⟨h1, h2⟩
    · rcases h.new id h1 with h3 | ⟨h3, h4⟩
      · exact .inl h3
      · exact .inr ⟨h3, by omega⟩
    · exact .inr ⟨by omega, h2⟩⟩

theorem Sts.cx {n w g e s a} (h : Sts n w g e s a) : Cx w g (getO s) s (fun _ => True) True := ⟨h.inv, fun _ _ => rfl, fun _ hc => Nat.lt_irrefl _ (h.fresh _ hc)⟩

theorem Sts.put {n w g e s a} (h : Sts n w g e s a) {K : AV → Store → Prop} {x : Value} {w' : World} {v : AV} {s' : Store} {g' : G} (r : Res w g (getO s) s (fun _ => True) K x w' v s' g') {dst : Option Nat} {K' : Env → Prop} (hp : putK n e dst v K') :
    ∃ e', K' e' ∧ Sts n w' g' e' s' (a.put dst x) ∧ Fr w g s w' g' s' := by
  have hov : ovr (fun _ => True) s s' (getO s) = getO s' := by funext i; simp [ovr]
  have hr := r.rep; have hi := r.inv; have hx := r.ext
  rw [hov] at hr hi hx
  have hold : EnvR w' g' (getO s') e a.tmps := fun t => hx.repA (h.env t)
  have hfresh : ∀ id, g'.C id → id < s'.length := fun id hid => by
    have := r.len
    rcases r.new id hid with h1 | h1
    · have := h.fresh id h1; omega
    · exact h1.2
  have hfr : Fr w g s w' g' s' := ⟨hx, r.len, r.new⟩
  unfold putK at hp
  split at hp
  · exact ⟨e, hp, ⟨hi, hfresh, hold, h.size, h.defers⟩, hfr⟩
  · rename_i t
    split at hp
    · rename_i hlt
      have hlt : t < n := by
        have : (t + 1).ble n = true := hlt
        exact Nat.le_of_ble_eq_true this
      refine ⟨_, hp, ⟨hi, hfresh, fun u => ?_, ?_, h.defers⟩, hfr⟩
      · unfold upd
        simp only [Act.put]
        split
        · rename_i hb
          have := Nat.eq_of_beq_eq_true hb
          subst this
          simp [Array.getD, h.size, hlt]
          exact hr
        · rename_i hb
          have hne : t ≠ u := fun e => by subst e; simp at hb
          have := hold u
          simp only [Array.getD_eq_getD_getElem?] at this ⊢
          rw [Array.getElem?_setIfInBounds_ne hne]
          exact this
      · simp [Act.put, h.size]
    · exact hp.elim

theorem putK_undef {n w g e s a} (h : Sts n w g e s a) {dst : Option Nat} {K' : Env → Prop} (hp : putK n e dst .undef K') : ∃ e', K' e' ∧ Sts n w g e' s (a.put dst undef) := by
  have hov : ovr (fun _ => True) s s (getO s) = getO s := by funext i; simp [ovr]
  have r : Res w g (getO s) s (fun _ => True) (fun _ _ => True) undef w .undef s g := ⟨trivial, Nat.le_refl _, fun _ _ _ => rfl, .undef _, by rw [hov]; exact h.inv, by rw [hov]; exact .refl _ _ _, fun _ h => .inl h⟩
  obtain ⟨e', h1, h2, _⟩ := h.put r hp
  exact ⟨e', h1, h2⟩

theorem aops_sound {n : Nat} {ops : Array Oper} {Q : Exit → Act → World → Prop} : ∀ {l : List Oper} {K : Env → Store → Prop} {w : World} {g : G} {e : Env} {s : Store} {a : Act}, aops P n ops l K e s → Sts n w g e s a →
    (∀ w' g' e' s' a', K e' s' → Sts n w' g' e' s' a' → Fr w g s w' g' s' → Q .normal a' w') → wpList P ops Q l a w := by
  intro l
  induction l with
  | nil => intro K w g e s a h hst hq; exact hq w g e s a h hst (.refl hst)
  | cons o rest ih =>
    intro K w g e s a h hst hq
    have run : ∀ {K2 : AV → Store → Prop}, (∀ v s', K2 v s' → putK n e o.dst v fun e' => aops P n ops rest K e' s') → aop P o.op e s K2 → o.wp P a w (wpList P ops Q rest) Q := by
      intro K2 hK hop
      refine (aop_ok hop hst.cx hst.fresh hst.env).wp fun x w' hr => ?_
      obtain ⟨v, s', g', r⟩ := hr
      obtain ⟨e', k1, k2, k3⟩ := hst.put r (hK v s' r.K)
      exact ih k1 k2 fun w'' g'' e'' s'' a'' q1 q2 q3 => hq _ _ _ _ _ q1 q2 (k3.trans q3)
    rw [aops_cons] at h
    unfold wpList
    split at h
    · rename_i hg
      rw [if_pos (by simp [Region.wanted, hg])]
      exact .inl (run (fun _ _ h => h) h)
    · rename_i j want hg
      split at h
      · rename_i t ht
        split at h
        · rename_i b hlt hev
          have hlt : t < n := by
            have : (t + 1).ble n = true := hlt
            exact Nat.le_of_ble_eq_true this
          have hv := hst.env t
          rw [hev] at hv
          have hv := hv.inv_bool
          have hy : yielded ops a.tmps j = some b := by
            unfold yielded
            rw [ht]
            have : a.tmps[t]? = some (.bool b) := by
              rw [Array.getD_eq_getD_getElem?] at hv
              have hs : t < a.tmps.size := by rw [hst.size]; exact hlt
              rw [Array.getElem?_eq_getElem hs] at hv ⊢
              simpa using hv
            simp [this]
          unfold Br at h
          by_cases hb : b = want
          · have h1 := h.1 (by simp [hb])
            rw [if_pos (by simp [Region.wanted, hg, hy, hb])]
            exact .inl (run (fun _ _ h => h) h1)
          · have h2 := h.2 (by simp [hb])
            rw [if_neg (by simp [Region.wanted, hg, hy, hb])]
            obtain ⟨e', k1, k2⟩ := putK_undef hst h2
            exact ih k1 k2 hq
        · exact h.elim
      · exact h.elim

/-! ### What is forgotten at a loop's head -/
def G.upto (g : G) (N : Nat) : G := { g with C := fun id => g.C id ∧ id < N }
def St.upto (σ : St) (N : Nat) : St := fun id => if id < N then σ id else none

theorem blt_lt {a b : Nat} (h : Nat.blt a b = true) : a < b := by
  have : (a + 1).ble b = true := h
  exact Nat.le_of_ble_eq_true this

theorem upto_lv {g : G} {σ : St} {N b : Nat} (h : Lv (g.upto N) (σ.upto N) b) : Lv g σ b := by
  rcases h with h | ⟨id, h1, h2⟩
  · exact .inl h
  · refine .inr ⟨id, ?_, h2⟩
    unfold St.upto at h1
    split at h1
    · exact h1
    · exact absurd rfl h1

theorem upto_repP {w : World} {g : G} {σ : St} {N : Nat} {v : PV} {x : Value} (h : RepP w (Lv g σ) v x) : RepP w (Lv (g.upto N) (σ.upto N)) v x := h.keep (fun _ _ _ => rfl) (fun _ _ h => upto_lv h)

mutual
theorem upto_repA {w : World} {g : G} {σ : St} {N : Nat} : ∀ {v : AV} {x : Value}, RepA w g σ v x → v.under N = true → RepA w (g.upto N) (σ.upto N) v x
  | _, _, .p v x hr, _ => .p v x (upto_repP hr)
  | _, _, .ref id off hc hb, hu => .ref id off ⟨hc, blt_lt hu⟩ (by simpa [St.upto, blt_lt hu] using hb)
  | _, _, .osl id tot off len a cap hsp hc ht hr, hu => .osl id tot off len a cap hsp ⟨hc, blt_lt hu⟩ (by simpa [St.upto, blt_lt hu] using ht) (by simpa [St.upto, G.upto, blt_lt hu] using hr)
  | _, _, .eptr id tot i sub a hc ht hr, hu => .eptr id tot i sub a ⟨hc, blt_lt hu⟩ (by simpa [St.upto, blt_lt hu] using ht) (by simpa [St.upto, G.upto, blt_lt hu] using hr)
  | _, _, .map id hc hb, hu => .map id ⟨hc, blt_lt hu⟩ (by simpa [St.upto, blt_lt hu] using hb)
  | _, _, .it id hc hb, hu => .it id ⟨hc, blt_lt hu⟩ (by simpa [St.upto, blt_lt hu] using hb)
  | _, _, .agg cs a hr, hu => .agg cs a (upto_repAs hr hu)
  | _, _, .tup cs a hr, hu => .tup cs a (upto_repAs hr hu)
  | _, _, .clos f cs a hr, hu => .clos f cs a (upto_repAs hr hu)
  | _, _, .ifc t v x hr, hu => .ifc t v x (upto_repA hr hu)
  | _, _, .undef x, _ => .undef x
theorem upto_repAs {w : World} {g : G} {σ : St} {N : Nat} : ∀ {vs : List AV} {xs : List Value}, RepAs w g σ vs xs → unders N vs = true → RepAs w (g.upto N) (σ.upto N) vs xs
  | _, _, .nil, _ => .nil
  | _, _, .cons v x vs xs hr hs, hu => by
    simp only [unders, Bool.and_eq_true] at hu
    exact .cons v x vs xs (upto_repA hr hu.1) (upto_repAs hs hu.2)
end

theorem getO_take (s : Store) (N : Nat) : getO (s.take N) = St.upto (getO s) N := by
  funext id
  unfold getO St.upto
  by_cases h : id < N
  · rw [if_pos h, List.getElem?_take_of_lt h]
  · rw [if_neg h, List.getElem?_take, if_neg h]

theorem mk_get (L : List Nat) (e : Env) (u : Nat) : mk (L.map fun t => (t, e t)) u = e u ∧ u ∈ L ∨ mk (L.map fun t => (t, e t)) u = .undef := by
  induction L with
  | nil => exact .inr rfl
  | cons t r ih =>
    simp only [List.map_cons, mk, upd]
    split
    · rename_i hb
      have := Nat.eq_of_beq_eq_true hb
      subst this
      exact .inl ⟨rfl, by simp⟩
    · rcases ih with ⟨h1, h2⟩ | h1
      · exact .inl ⟨h1, by simp [h2]⟩
      · exact .inr h1

theorem unders_mem {N : Nat} : ∀ {vs : List AV} {v : AV}, unders N vs = true → v ∈ vs → v.under N = true
  | x :: r, v, h, hv => by
    simp only [unders, Bool.and_eq_true] at h
    rcases List.mem_cons.1 hv with rfl | hv
    · exact h.1
    · exact unders_mem h.2 hv

theorem Sts.trim {n w g e s a} (h : Sts n w g e s a) {L : List Nat} {N : Nat} {l : List (Nat × AV)} {s2 : Store} (ht : Trim L N e s l s2) : Sts n w (g.upto N) (Go.Proofs.Ytfjolephpghafaa.AW.mk l) s2 a ∧ s2.length = N := by
  unfold Trim at ht
  obtain ⟨rfl, rfl, hu, ho, hN⟩ := ht
  have hsub : ∀ id o, St.upto (getO s) N id = some o → getO s id = some o ∧ id < N := fun id o hq => by
    unfold St.upto at hq
    split at hq
    · exact ⟨hq, by assumption⟩
    · cases hq
  have hne : ∀ id, St.upto (getO s) N id ≠ none → getO s id ≠ none := fun id hq => by
    obtain ⟨o, ho⟩ := Option.ne_none_iff_exists'.1 hq
    rw [(hsub id o ho).1]; simp
  refine ⟨⟨?_, fun id hid => by rw [List.length_take]; have := h.fresh id hid.1; have := hid.2; omega, fun u => ?_, h.size, h.defers⟩, by rw [List.length_take]; omega⟩
  · rw [getO_take]
    refine ⟨fun id o hq => ⟨h.inv.made id o (hsub id o hq).1, (hsub id o hq).2⟩, fun id o hq => h.inv.lies id o (hsub id o hq).1, h.inv.xlt, fun i j hi hj => h.inv.inj i j (hne i hi) (hne j hj), fun id o hq => ?_⟩
    have hr := h.inv.rep id o (hsub id o hq).1
    show RepO w _ _ (g.ι id) o
    cases hr with
    | cells cs xs hc hb =>
      refine .cells cs xs (upto_repAs hc ?_) hb
      have hlt := (hsub id _ hq).2
      have hs : (s.take N)[id]? = some (some (.cells cs)) := by
        have := (hsub id _ hq).1
        unfold getO at this
        rw [List.getElem?_take_of_lt hlt]
        split at this
        · rename_i o' ho'; rw [ho', this]
        · cases this
      have := List.all_eq_true.1 ho _ (List.mem_of_getElem? hs)
      simpa [objUnder] using this
    | buf sz es xs hz hs hn hc hb => exact .buf sz es xs hz hs hn (hc.keep (fun _ _ _ => rfl) (fun _ _ h => upto_lv h)) hb
    | iterS s' pos x hx hp hb => exact .iterS s' pos x hx hp hb
  · rw [getO_take]
    rcases mk_get L e u with ⟨h1, h2⟩ | h1
    · rw [h1]; exact upto_repA (h.env u) (unders_mem hu (List.mem_map_of_mem h2))
    · rw [h1]; exact .undef _

def exitOf : Out → Exit | .normal => .normal | .exit id => .exit id | .ret => .ret

theorem Fr.trim {w g s w' g' s'} (h : Fr w g s w' g' s') (hf : ∀ id, g.C id → id < s.length) {N : Nat} (hN : s.length ≤ N) (hN' : N ≤ s'.length) : Fr w g s w' (g'.upto N) (s'.take N) := by
  have hsub : ∀ id o, St.upto (getO s') N id = some o → getO s' id = some o := fun id o hq => by
    unfold St.upto at hq
    split at hq
    · exact hq
    · cases hq
  refine ⟨?_, by rw [List.length_take]; have := h.len; omega, fun id hid => ?_⟩
  · rw [getO_take]
    exact ⟨h.ext.size, h.ext.os, h.ext.tape, h.ext.output, h.ext.frame, h.ext.shape, h.ext.X, fun id hc => ⟨h.ext.C id hc, Nat.lt_of_lt_of_le (hf id hc) hN⟩,
      fun b hb ⟨id, h1, h2⟩ => h.ext.own b hb ⟨id, by obtain ⟨o, ho⟩ := Option.ne_none_iff_exists'.1 h1; rw [hsub id o ho]; simp, h2⟩,
      fun id hc o ho => h.ext.obj id hc o (hsub id o ho), h.ext.ι1, fun id sz xs xs' hc h1 h2 h3 => h.ext.ι2 id sz xs xs' hc h1 (hsub id _ h2) h3⟩
  · rcases h.new id hid.1 with h1 | h1
    · exact .inl h1
    · have := hid.2; refine .inr ⟨h1.1, ?_⟩; rw [List.length_take]; omega

/-- A loop by a family of states: the number that goes down belongs to the family, not to the state. -/
theorem wp_loop_fam {Q : Exit → Act → World → Prop} {c : Code} {α : Type} (R : α → Act → World → Prop) (m : α → Nat)
    (round : ∀ x a w, R x a w → c.wp P (Exit.then (fun a' w' => ∃ y, R y a' w' ∧ m y < m x) Q) a w) {x : α} {a : Act} {w : World} (h : R x a w) : (Code.loop c).wp P Q a w := by
  let cand : Act → World → Nat → Prop := fun a w n => ∃ y, R y a w ∧ m y = n
  have hleast : ∀ a w, (∃ y, R y a w) → ∃ n, cand a w n ∧ ∀ k, cand a w k → n ≤ k := by
    intro a w ⟨y, hy⟩
    have : ∀ n, (∃ y, R y a w ∧ m y = n) → ∃ n, cand a w n ∧ ∀ k, cand a w k → n ≤ k := by
      intro n
      induction n using Nat.strongRecOn with
      | _ n ih =>
        intro ⟨y, hy, hn⟩
        by_cases hlow : ∃ k, k < n ∧ cand a w k
        · obtain ⟨k, hk, hc⟩ := hlow; exact ih k hk hc
        · exact ⟨n, ⟨y, hy, hn⟩, fun k hk => Nat.le_of_not_lt fun hlt => hlow ⟨k, hlt, hk⟩⟩
    exact this _ ⟨y, hy, rfl⟩
  let μ : Act → World → Nat := fun a w => open Classical in if hh : ∃ y, R y a w then (hleast a w hh).choose else 0
  refine wp_loop (fun a w => ∃ y, R y a w) μ ⟨x, h⟩ fun a w hI => ?_
  have hspec := (hleast a w hI).choose_spec
  have hμ : μ a w = (hleast a w hI).choose := by simp only [μ]; rw [dif_pos hI]
  obtain ⟨⟨y, hy, hmy⟩, _⟩ := hspec
  refine wp_mono (round y a w hy) fun ex a' w' hq => ?_
  cases ex with
  | normal =>
    obtain ⟨z, hz, hlt⟩ := hq
    refine ⟨⟨z, hz⟩, ?_⟩
    have hI' : ∃ y, R y a' w' := ⟨z, hz⟩
    have hμ' : μ a' w' = (hleast a' w' hI').choose := by simp only [μ]; rw [dif_pos hI']
    have := (hleast a' w' hI').choose_spec.2 (m z) ⟨z, hz, rfl⟩
    omega
  | _ => exact hq

theorem aw_sound {n : Nat} : ∀ {c : Code} {K : Out → Env → Store → Prop} {Q : Exit → Act → World → Prop} {w : World} {g : G} {e : Env} {s : Store} {a : Act}, aw P n c K e s → Sts n w g e s a →
    (∀ out w' g' e' s' a', K out e' s' → Sts n w' g' e' s' a' → Fr w g s w' g' s' → Q (exitOf out) a' w') → c.wp P Q a w := by
  intro c
  induction c with
  | skip => intro K Q w g e s a h hst hq; exact wp_skip (hq .normal w g e s a h hst (.refl hst))
  | region id ops draw =>
    intro K Q w g e s a h hst hq
    rw [aw_region] at h
    cases draw with
    | false => exact wp_region_list (aops_sound h hst fun w' g' e' s' a' k1 k2 k3 => hq .normal _ _ _ _ _ k1 k2 k3)
    | true =>
      simp only [] at h
      split at h
      · rename_i hm
        exact drawn_sound h hm hst.inv hst.fresh hst.env hst.size hst.defers fun w' g' e' s' a' q1 q2 q3 q4 q5 q6 q7 q8 => hq .normal w' g' e' s' a' q1
          ⟨q2, fun id hid => by
            rcases q3 id hid with h1 | h1
            · have := hst.fresh id h1; omega
            · exact h1.2, q4, q5, q6⟩ ⟨q7, q8, q3⟩
      · exact h.elim
  | seq x y ihx ihy =>
    intro K Q w g e s a h hst hq
    rw [aw_seq] at h
    refine wp_seq (ihx h hst fun out w' g' e' s' a' k1 k2 k3 => ?_)
    cases out with
    | normal => exact ihy k1 k2 fun out w'' g'' e'' s'' a'' q1 q2 q3 => hq out _ _ _ _ _ q1 q2 (k3.trans q3)
    | exit id => exact hq _ _ _ _ _ _ k1 k2 k3
    | ret => exact hq .ret _ _ _ _ _ k1 k2 k3
  | cond c x y ihx ihy =>
    intro K Q w g e s a h hst hq
    rw [aw_cond] at h
    split at h
    · rename_i t hev
      have hc := ev_rep hst.env c
      rw [hev] at hc
      unfold Br at h
      exact wp_cond_split hc.inv_bool (fun ht => ihx (h.1 ht) hst hq) (fun hf => ihy (h.2 hf) hst hq)
    · exact h.elim
  | block id b ih =>
    intro K Q w g e s a h hst hq
    rw [aw_block] at h
    refine wp_block (ih h hst fun out w' g' e' s' a' k1 k2 k3 => ?_)
    cases out with
    | normal => exact hq .normal _ _ _ _ _ k1 k2 k3
    | ret => exact hq .ret _ _ _ _ _ k1 k2 k3
    | exit j =>
      simp only [inBlock] at k1
      show (if j = id then Q .normal a' w' else Q (.exit j) a' w')
      split at k1
      · rename_i hb
        rw [if_pos (Nat.eq_of_beq_eq_true hb)]
        exact hq .normal _ _ _ _ _ k1 k2 k3
      · rename_i hb
        rw [if_neg (fun e => by subst e; simp at hb)]
        exact hq (.exit j) _ _ _ _ _ k1 k2 k3
  | loop b ih =>
    intro K Q w g e s a h hst hq
    rw [aw_loop] at h
    unfold LoopX at h
    obtain ⟨α, L, st, ok, m, ⟨x0, hx0, ht0⟩, round⟩ := h
    refine wp_loop_fam (fun x a' w' => ok x ∧ ∃ g', Sts n w' g' (mk (st x).1) (st x).2 a' ∧ Fr w g s w' g' (st x).2) m (fun x a' w' hR => ?_) (x := x0) ⟨hx0, g.upto s.length, (hst.trim ht0).1, ?_⟩
    · obtain ⟨hok, g', hst', hfr'⟩ := hR
      refine ih (round x hok) hst' fun out w'' g'' e'' s'' a'' k1 k2 k3 => ?_
      cases out with
      | normal =>
        obtain ⟨y, hy, hm, hle, ht⟩ := k1
        obtain ⟨q1, q2⟩ := k2.trim ht
        have hN' : (st y).2.length ≤ s''.length := by unfold Trim at ht; exact ht.2.2.2.2
        have hf := (hfr'.trans k3).trim hst.fresh hle hN'
        have hs2 : s''.take (st y).2.length = (st y).2 := by unfold Trim at ht; exact ht.2.1
        rw [hs2] at hf
        exact ⟨y, ⟨hy, g''.upto (st y).2.length, q1, hf⟩, hm⟩
      | exit id => exact hq _ _ _ _ _ _ k1 k2 (hfr'.trans k3)
      | ret => exact hq .ret _ _ _ _ _ k1 k2 (hfr'.trans k3)
    · have := (Fr.refl hst).trim hst.fresh (Nat.le_refl _) (Nat.le_refl _)
      have hs2 : s.take s.length = (st x0).2 := by unfold Trim at ht0; exact ht0.2.1
      rw [hs2] at this; exact this
  | exit id => intro K Q w g e s a h hst hq; exact wp_exit (hq (.exit id) w g e s a h hst (.refl hst))
  | ret => intro K Q w g e s a h hst hq; exact wp_ret (hq .ret w g e s a h hst (.refl hst))
  | _ => intro K Q w g e s a h hst hq; exact False.elim h
end Go.Proofs.Ytfjolephpghafaa.AW
