/- A part of the proof: AW/Ops8, AW/Ops9, AW/OpsM, AW/Ops10, AW/Ops11, AW/Drawn1, AW/Drawn2. -/
import Derived.Lib.UnsafeStr
import Derived.Test.YtneheklmkbhieaaP3
import Derived.Orders
namespace Go.Proofs.Ytneheklmkbhieaa.AW
set_option linter.unusedSimpArgs false
set_option linter.unusedVariables false
section ops
variable {P : Program} {o : Oper} {e : Env} {s : Store} {K : AV → Store → Prop} {w : World} {g : G} {σ : St} {a : Act} {T : Nat → Prop} {N : Prop}

theorem second_str {i : TypeInfo} {b : ByteArray} {x : Value} (hx : x = .string b) (hsz : 1 = i.size) : Second P w g σ i.size x (bytesP b.data.toList) (b.data.toList.map fun c => Value.int .u8 c.toNat) := by
  subst hx
  rw [← hsz]
  refine ⟨?_, bytes_cells _ _, fun y hy => ?_, fun w' _ => ?_⟩
  · simp [Builtin.lenOf, bytesP]
  · simp [bytesP] at hy; obtain ⟨c, _, rfl⟩ := hy; exact ⟨rfl, rfl⟩
  · have hl : (bytesP b.data.toList).length = b.size := by simp [bytesP]
    rw [hl]
    have : b.extract 0 b.size = b := by
      apply ByteArray.ext; rw [ByteArray.data_extract]; simp
    simp only [Builtin.firstCells, Sem.run_pure, this]
    congr 1
    apply Array.ext'; simp

theorem second_sl {x : Value} (c : Cx w g σ s T N) {av : AV} (hx : RepA w g σ av x) (hT : ∀ id, id ∈ ids av → T id) {K' : Nat → List PV → Prop} (h : elems s av K') :
    ∃ sz ys, K' sz ys ∧ ∀ size, sz = size → ∃ news, Second P w g σ size x ys news := by
  obtain ⟨sz, ys, hk, hel, hlay⟩ := elems_rep hx c hT h
  refine ⟨sz, ys, hk, fun size hsz => ?_⟩
  subst hsz
  rcases hlay with ⟨hy, rfl⟩ | ⟨ad, cap, vs, hy, hcap, hr, hcell⟩
  · subst hy
    exact ⟨[], by simp [Builtin.lenOf], .nil, (fun q hq => by cases hq), (fun w' _ => by simp [Builtin.firstCells])⟩
  · subst hy
    refine ⟨vs, by simp [Builtin.lenOf], hr, hel, fun w' hw' => ?_⟩
    refine firstCells_of (by rw [← hr.len, flat_len hel, Nat.mul_comm]) w' (fun j v hj => ?_)
    have hc := hcell j v hj
    have hlt := block_lt_of_cell hc
    rw [← hc]
    exact World.cell?_of_block (w := w) (hw' _ hlt)

theorem foldI_rep (f : Int → Int → Int) (m : Value → Value → Sem Value) (k : IntKind) (hm : ∀ a b, m (.int k a) (.int k b) = pure (.int k (f a b))) : ∀ {r : List AV} {ys : List Value} {x : Int} {n : Int}, foldI f k x r = some n → RepAs w g σ r ys →
    (ys.foldlM m (.int k x)).run P w = .ok (.int k n) w
  | [], _, x, n, h, .nil => by simp [foldI] at h; subst h; rfl
  | v :: r, _, x, n, h, .cons _ y _ ys hv hs => by
    unfold foldI at h
    split at h
    case h_1 heq => cases heq
    case h_3 => cases h
    rename_i k' b r' heq
    cases heq
    split at h
    · rename_i hk
      have := of_decide_eq_true hk; subst this
      have hv := hv.inv_int; subst hv
      rw [List.foldlM_cons, hm]
      exact foldI_rep f m k hm h hs
    · cases h

def St.kill (σ : St) (id : Nat) : St := fun i => if i = id then none else σ i

/-- An object is gone; its block may have turned. -/
theorem Rs.gone {x : Value} {v : AV} (c : Cx w g σ s T N) {w' : World} {id : Nat} {ob : AObj} (hT : T id) (hs : getO s id = some ob) (hR : g.R id)
    (m : Turned w w' (g.ι id)) (hv : RepA w' g (σ.kill id) v x) (hk : K v (s.set id none)) : Rs w g σ s T K x w' := by
  have hσ : σ id = some ob := (c.agree id hT).trans hs
  have hl : id < s.length := getO_lt hs
  have hov : ovr T s (s.set id none) σ = σ.kill id := by
    funext i
    unfold ovr St.kill
    by_cases hi : i = id
    · subst hi
      rw [if_pos (.inl hT), if_pos rfl, getO_set s i none i hl, if_pos rfl]
    · rw [if_neg hi]
      split
      · rename_i hh
        rw [getO_set s id none i hl, if_neg hi]
        rcases hh with hh | ⟨h1, h2⟩
        · exact (c.agree i hh).symm
        · simp at h2; omega
      · rfl
  have hsub : ∀ i oo, σ.kill id i = some oo → σ i = some oo ∧ i ≠ id := fun i oo h => by
    by_cases hi : i = id
    · simp [St.kill, hi] at h
    · exact ⟨by simpa [St.kill, hi] using h, hi⟩
  have hne : ∀ i, σ.kill id i ≠ none → σ i ≠ none := fun i h => by
    obtain ⟨oo, ho⟩ := Option.ne_none_iff_exists'.1 h
    rw [(hsub i oo ho).1]; simp
  have hext : Ext w g σ w' g (σ.kill id) := {
    drawn := m.drawn
    size := by rw [m.size]; exact Nat.le_refl _
    os := m.os
    tape := m.tape
    output := m.output
    frame := fun b hb ho => m.other b (fun e => ho ⟨id, by rw [hσ]; simp, hR, e.symm⟩)
    shape := fun b hb => by
      by_cases hbi : b = g.ι id
      · rw [hbi]; exact m.shape
      · exact shape_same (m.other b hbi)
    X := rfl
    C := fun _ h => h
    own := fun b hb ⟨i, h1, hr, h2⟩ => ⟨i, hne i h1, hr, h2⟩
    obj := fun i hc oo ho => ⟨oo, (hsub i oo ho).1, .refl _⟩
    ι1 := fun _ _ _ => ⟨rfl, .rfl⟩
    ι2 := fun _ _ _ _ _ _ _ _ _ _ => ⟨rfl, .rfl⟩ }
  refine ⟨v, s.set id none, g, hk, by simp, fun i hi hlt => ?_, ?_, ?_, ?_, fun i h => .inl h⟩
  · rw [getO_set s id _ i hl, if_neg (fun (e : i = id) => hi (by rw [e]; exact hT))]
  · rw [hov]; exact hv
  · rw [hov]
    refine ⟨fun i oo h => c.inv.made i oo (hsub i oo h).1, fun i oo h hr => by rw [m.size]; exact c.inv.lies i oo (hsub i oo h).1 hr, fun b hb => by rw [m.size]; exact c.inv.xlt b hb, fun i j h k => c.inv.inj i j (hne i h) (hne j k), fun i oo h hr => ?_, fun i oo h hr => c.inv.void i oo (hsub i oo h).1 hr⟩
    obtain ⟨h1, h2⟩ := hsub i oo h
    refine hext.repO (m.other _ (fun e => h2 ?_)) (c.inv.rep i oo h1 hr)
    exact c.inv.inj _ _ (by rw [h1]; simp) (by rw [hσ]; simp) hr hR e
  · rw [hov]; exact hext

theorem bytes_vals {B : Nat → Prop} : ∀ {l : List UInt8} {zs : List Value}, RepPs w B (flat (bytesP l)) zs → zs = l.map fun b => Value.int .u8 b.toNat
  | [], _, h => by cases h; rfl
  | b :: r, _, h => by
    have e : flat (bytesP (b :: r)) = .int .u8 b.toNat :: flat (bytesP r) := rfl
    rw [e] at h
    cases h with
    | cons v x vs xs h hs =>
      cases h
      rw [bytes_vals hs]; rfl

theorem freeze_turned (w : World) (b n : Nat) : Turned w (w.freeze ⟨b, 0, none⟩ n) b := by
  unfold World.freeze
  split
  · exact .refl w b
  · refine ⟨by simp, rfl, rfl, rfl, fun k hk => ?_, ?_, Nat.le_refl _⟩
    · simp only [Array.getElem?_modify]; rw [if_neg (by omega)]
    · unfold World.shape?
      simp only [Array.getElem?_modify, if_true]
      cases w.heap[b]? with
      | none => rfl
      | some o => cases o <;> rfl

theorem ok_builtin {b : Builtin} {args : Array Operand} {ts : Array TypeId} (ho : o.op = .call ⟨.builtin b, args, ts⟩) (h : builtinA P b ts.toList (args.toList.map (ev e)) s K)
    (hN : ∀ v s', K v s' → s.length < s'.length → N) (c : Cx w g σ s T N) (hT : ∀ x, x ∈ args.toList → ∀ id, id ∈ ids (ev e x) → T id) (he : EnvR w g σ e a.tmps) : OpOk P o a w (Rs w g σ s T K) := by
  unfold builtinA at h
  have hargs := evs_rep (w := w) (g := g) (σ := σ) he args.toList
  split at h
  · rename_i t rest x hts hxs
    have hts' : ts[0]? = some t := by rw [← Array.getElem?_toList, hts]; rfl
    obtain ⟨y, hy, hyx⟩ : ∃ y, args.toList = [y] ∧ ev e y = x := by
      cases hl : args.toList with
      | nil => rw [hl] at hxs; simp at hxs
      | cons q r => cases r with
        | nil => rw [hl] at hxs; simp at hxs; exact ⟨q, rfl, hxs⟩
        | cons => rw [hl] at hxs; simp at hxs
    have hargs0 : args = #[y] := by cases args; simp at hy; rw [hy]
    subst hargs0
    have hx := ev_rep he y
    have fin : ∀ {n : Int}, (Builtin.len_ ts o.type #[a.eval y]).run P w = .ok (.int .i64 n) w → K (.p (.int .i64 n)) s → OpOk P o a w (Rs w g σ s T K) := by
      intro n hr hk
      refine .value (v := .int .i64 n) (w' := w) ?_ (.pure c hk (.mkInt _ _))
      simp [execOp, ho, resolve, invoke, builtin, hr]
    split at h
    · rename_i l hd
      have hu := und hd (by simp)
      rw [hyx] at hx
      obtain ⟨bb, hb, rfl⟩ := hx.inv_str
      refine fin ?_ h
      simp [Builtin.len_, hts', underlying, hu, hb, goInt]
    · rename_i k sz xs u hd
      have hu := und hd (by simp)
      rw [hyx] at hx
      refine fin ?_ h
      generalize a.eval y = ay at *
      cases hx.inv_p <;> simp [Builtin.len_, hts', underlying, hu, goInt]
    · rename_i id tot off len u hd
      have hu := und hd (by simp)
      rw [hyx] at hx
      obtain ⟨⟨ad, cap, hp, _⟩, _⟩ := hx.inv_osl
      refine fin ?_ h
      simp [Builtin.len_, hts', underlying, hu, hp, goInt]
    · rename_i n el hd
      have hu := und hd (by simp)
      refine fin ?_ h
      simp [Builtin.len_, hts', underlying, hu, goInt]
    · rename_i kt vt id hd
      have hu := und hd (by simp)
      split at h
      · rename_i kk es clock hg
        rw [hyx] at hx
        obtain ⟨hp, _, _⟩ := hx.inv_map
        have hs := (c.agree id (hT y (by simp) id (by rw [hyx]; simp [ids, ids1]))).trans hg
        cases c.inv.rep _ _ hs (c.inv.real hs (by simp)) with
        | map _ _ _ xs hE hw _ _ _ =>
          refine fin ?_ h
          simp [Builtin.len_, hts', underlying, hu, hp, getObj, Sem.run, hw, goInt, hE.len]
      · exact h.elim
    · exact h.elim
  · rename_i t rest x key hts hxs
    obtain ⟨p, q, hpq, hpx, hqy⟩ : ∃ p q, args.toList = [p, q] ∧ ev e p = x ∧ ev e q = key := by
      cases hl : args.toList with
      | nil => rw [hl] at hxs; simp at hxs
      | cons p r => cases r with
        | nil => rw [hl] at hxs; simp at hxs
        | cons q r => cases r with
          | nil => rw [hl] at hxs; simp at hxs; exact ⟨p, q, rfl, hxs.1, hxs.2⟩
          | cons => rw [hl] at hxs; simp at hxs
    have hargs0 : args = #[p, q] := by cases args; simp at hpq; rw [hpq]
    refine delete_run ho hargs0 hts (by rw [hpx, hqy]; exact h) c (fun id hid => hT p (by rw [hpq]; simp) id hid) he
  · rename_i t rest x hts hxs
    have hts' : ts[0]? = some t := by rw [← Array.getElem?_toList, hts]; rfl
    obtain ⟨y, hy, hyx⟩ : ∃ y, args.toList = [y] ∧ ev e y = x := by
      cases hl : args.toList with
      | nil => rw [hl] at hxs; simp at hxs
      | cons q r => cases r with
        | nil => rw [hl] at hxs; simp at hxs; exact ⟨q, rfl, hxs⟩
        | cons => rw [hl] at hxs; simp at hxs
    have hargs0 : args = #[y] := by cases args; simp at hy; rw [hy]
    subst hargs0
    have hx := ev_rep he y
    split at h
    · rename_i sz xs u hd
      have hu := und hd (by simp)
      rw [hyx] at hx
      have hp : a.eval y = .slice none 0 0 := by
        generalize a.eval y = ay at *
        cases hx.inv_p with
        | nil => rfl
        | sl _ _ _ _ _ _ hk => exact absurd rfl hk
        | spt _ _ _ hk => exact absurd rfl hk
      refine .value (v := .int .i64 0) (w' := w) ?_ (.pure c h (.mkInt _ _))
      simp [execOp, ho, resolve, invoke, builtin, Builtin.cap_, hts', underlying, hu, hp, goInt]
    · exact h.elim
  · rename_i t u rest x y hts hxs
    obtain ⟨p, q, hpq, hpx, hqy⟩ : ∃ p q, args.toList = [p, q] ∧ ev e p = x ∧ ev e q = y := by
      cases hl : args.toList with
      | nil => rw [hl] at hxs; simp at hxs
      | cons p r => cases r with
        | nil => rw [hl] at hxs; simp at hxs
        | cons q r => cases r with
          | nil => rw [hl] at hxs; simp at hxs; exact ⟨p, q, rfl, hxs.1, hxs.2⟩
          | cons => rw [hl] at hxs; simp at hxs
    have hargs0 : args = #[p, q] := by cases args; simp at hpq; rw [hpq]
    subst hargs0
    have hts2 : ∃ rest, ts.toList = t :: u :: rest := ⟨rest, hts⟩
    have hq := ev_rep he q
    rw [hqy] at hq
    have happ : ∀ {ysz : Nat} {ys : List PV}, appA P t (ev e p) ysz ys s K → notInt P u → (∀ el i, P.info? el = some i → P.underlying t = some (.slice el) → ysz = i.size → ∃ news, Second P w g σ i.size (a.eval q) ys news) → OpOk P o a w (Rs w g σ s T K) := by
      intro ysz ys h hu hS
      have hdt : ∃ el, P.underlying t = some (.slice el) := by
        unfold appA at h
        split at h
        · rename_i el hd; exact ⟨el, und hd (by simp)⟩
        · exact h.elim
      obtain ⟨el, hel⟩ := hdt
      have hinf : ∃ i, P.info? el = some i ∧ ysz = i.size := by
        unfold appA at h
        have hd : dsc P t = .slice el := by simp [dsc, hel]
        rw [hd] at h
        simp only [] at h
        split at h
        · rename_i i z' hi hz
          split at h
          · rename_i hb1 hb2
            simp only [Bool.and_eq_true] at hb1
            exact ⟨i, hi, Nat.eq_of_beq_eq_true hb1.1.1⟩
          · exact h.elim
        · exact h.elim
      obtain ⟨i, hi, hsz⟩ := hinf
      obtain ⟨news, S⟩ := hS el i hi hel hsz
      refine ok_app (t := t) (u := u) (el := el) (x := p) (y := q) (ysz := ysz) (ys := ys) (news := news) ho ⟨by rw [← Array.getElem?_toList, hts]; rfl, by rw [← Array.getElem?_toList, hts]; rfl⟩ h hN (fun i' hi' _ _ => by rw [hi] at hi'; cases hi'; exact S) c (fun id hid => hT p (by simp) id hid) he hu hel
    rw [← hpx] at h
    split at h
    · rename_i k n hd
      have hu := und hd (by simp)
      split at h
      · rename_i sz xs el hd2 hevp
        have hel := und hd2 (by simp)
        split at h
        · rename_i i z hi hz
          split at h
          · rename_i h1 h2
            simp only [Bool.and_eq_true] at h1
            rw [snoc_eq] at h
            unfold Ob at h
            have hp := ev_rep (w := w) (g := g) (σ := σ) he p
            rw [hevp] at hp
            have hpn : a.eval p = .slice none 0 0 := by
              generalize a.eval p = ap at *
              cases hp.inv_p with
              | nil => rfl
              | sl _ _ _ b off cap hk' => exact absurd rfl hk'
              | spt _ _ _ hk => exact absurd rfl hk
            exact ok_app_zero ho ⟨by rw [← Array.getElem?_toList, hts]; rfl, by rw [← Array.getElem?_toList, hts]; rfl⟩ hel hi hz hu (Nat.le_of_ble_eq_true h1.1) h1.2 (Nat.eq_of_beq_eq_true h2) hpn hq.inv_int h.1.1 h.1.2 h.2 hN c
          · exact h.elim
        · exact h.elim
      · exact h.elim
    · rename_i l hd
      have hu := und hd (by simp)
      obtain ⟨bb, hb, rfl⟩ := hq.inv_str
      exact happ h ⟨_, hu, fun k => by simp⟩ (fun el i hi hel hsz => ⟨_, second_str hb hsz⟩)
    · rename_i sz xs v hd
      have hu := und hd (by simp)
      split at h
      · rename_i el hd2
        have hel := und hd2 (by simp)
        refine happ h ⟨_, hu, fun k => by simp⟩ (fun el' i hi hel' hsz => ?_)
        have hp : a.eval q = .slice none 0 0 := by
          generalize a.eval q = aq at *
          cases hq.inv_p with
          | nil => rfl
          | sl _ _ _ b off cap hk' => exact absurd rfl hk'
          | spt _ _ _ hk => exact absurd rfl hk
        rw [hp]
        exact ⟨[], by simp [Builtin.lenOf], .nil, (fun q hq => by cases hq), (fun w' _ => by simp [Builtin.firstCells])⟩
      · exact h.elim
    · rename_i v hd hnn
      have hu := und hd (by simp)
      obtain ⟨sz, ys, hk, hS⟩ := second_sl (P := P) c hq (fun id hid => hT q (by simp) id (by rw [hqy]; exact hid)) h
      exact happ hk ⟨_, hu, fun k => by simp⟩ (fun el i hi hel hsz => hS _ hsz)
    · exact h.elim
  · rename_i t k n r hxs
    split at h
    · rename_i m hm
      obtain ⟨q, rs, hq, hqx, hrx⟩ : ∃ q rs, args.toList = q :: rs ∧ ev e q = .p (.int k n) ∧ rs.map (ev e) = r := by
        cases hl : args.toList with
        | nil => rw [hl] at hxs; simp at hxs
        | cons q rs => rw [hl] at hxs; simp at hxs; exact ⟨q, rs, rfl, hxs.1, hxs.2⟩
      have hv := ev_rep (w := w) (g := g) (σ := σ) he q
      rw [hqx] at hv
      have hrs := evs_rep (w := w) (g := g) (σ := σ) he rs
      rw [hrx] at hrs
      have hf := foldI_rep (P := P) (fun x y => if y < x then y else x) Builtin.min2 k (fun a b => rfl) hm hrs
      refine .value (v := .int k m) (w' := w) ?_ (.pure c h (.mkInt _ _))
      have hm' : args.toList.map a.eval = .int k n :: rs.map a.eval := by rw [hq, List.map_cons, hv.inv_int]
      simp [execOp, ho, resolve, invoke, builtin, Builtin.min_, hm', hf]
    · exact h.elim
  · rename_i t k n r hxs
    split at h
    · rename_i m hm
      obtain ⟨q, rs, hq, hqx, hrx⟩ : ∃ q rs, args.toList = q :: rs ∧ ev e q = .p (.int k n) ∧ rs.map (ev e) = r := by
        cases hl : args.toList with
        | nil => rw [hl] at hxs; simp at hxs
        | cons q rs => rw [hl] at hxs; simp at hxs; exact ⟨q, rs, rfl, hxs.1, hxs.2⟩
      have hv := ev_rep (w := w) (g := g) (σ := σ) he q
      rw [hqx] at hv
      have hrs := evs_rep (w := w) (g := g) (σ := σ) he rs
      rw [hrx] at hrs
      have hf := foldI_rep (P := P) (fun x y => if y > x then y else x) Builtin.max2 k (fun a b => rfl) hm hrs
      refine .value (v := .int k m) (w' := w) ?_ (.pure c h (.mkInt _ _))
      have hm' : args.toList.map a.eval = .int k n :: rs.map a.eval := by rw [hq, List.map_cons, hv.inv_int]
      simp [execOp, ho, resolve, invoke, builtin, Builtin.max_, hm', hf]
    · exact h.elim
  · rename_i x hxs
    obtain ⟨y, hy, hyx⟩ : ∃ y, args.toList = [y] ∧ ev e y = x := by
      cases hl : args.toList with
      | nil => rw [hl] at hxs; simp at hxs
      | cons q r => cases r with
        | nil => rw [hl] at hxs; simp at hxs; exact ⟨q, rfl, hxs⟩
        | cons => rw [hl] at hxs; simp at hxs
    have hargs0 : args = #[y] := by cases args; simp at hy; rw [hy]
    subst hargs0
    have hx := ev_rep he y
    split at h
    · rename_i sz xs
      rw [hyx] at hx
      generalize hay : a.eval y = ay at *
      cases hx.inv_p with
      | nil =>
        refine .value (v := .pointer none) (w' := w) ?_ (.pure c h (.p _ _ (.lit _ trivial)))
        have hsd : (Builtin.unsafeSliceData_ ts o.type #[.slice none 0 0]).run P w = .ok (.pointer none) w := rfl
        simp [execOp, ho, resolve, invoke, builtin, hay, hsd]
      | sl _ _ _ _ _ _ hk => exact absurd rfl hk
      | spt _ _ _ hk => exact absurd rfl hk
    · rename_i id tot off len
      split at h
      · rename_i sz xs ty hg
        rw [hyx] at hx
        unfold Ob at h
        obtain ⟨⟨ht, hlen⟩, hk⟩ := h
        have hs : σ id = some (.buf sz xs ty) := (c.agree id (hT y (by simp) id (by rw [hyx]; simp [ids, ids1]))).trans hg
        obtain ⟨hq0, hC, htt, hd'⟩ := hx.inv_osl
        have hV := hd' _ _ _ hs ht
        have hR := hV.pos hq0 (by omega)
        obtain ⟨ad, cap, ⟨hp, hsp⟩, q1, q2, q3⟩ := hV.real hR
        obtain ⟨rfl, _⟩ := q3 (by omega)
        have hcap : cap ≠ 0 := by omega
        refine .value (v := .pointer (some ⟨g.ι id, off * sz, none⟩)) (w' := w) ?_ (.pure c hk ?_)
        · have hsd : (Builtin.unsafeSliceData_ ts o.type #[.slice (some ⟨g.ι id, off * sz, none⟩) len cap]).run P w = .ok (.pointer (some ⟨g.ι id, off * sz, none⟩)) w := by
            unfold Builtin.unsafeSliceData_
            show (if cap ≠ 0 then pure (.pointer (some ⟨g.ι id, off * sz, none⟩)) else _ : Sem Value).run P w = _
            rw [if_pos hcap]; rfl
          simp [execOp, ho, resolve, invoke, builtin, hp, hsd]
        · refine .eptr id tot _ _ _ hC htt (fun sz' xs' ty' hs' hl' => ?_)
          rw [hs] at hs'; cases hs'; exact ⟨rfl, hR⟩
      · exact h.elim
    · exact h.elim
  · rename_i t u x n hts hxs
    have hts' : ts = #[t, u] := by cases ts; simp at hts; rw [hts]
    obtain ⟨p, q, hpq, hpx, hqy⟩ : ∃ p q, args.toList = [p, q] ∧ ev e p = x ∧ ev e q = .p (.int .i64 n) := by
      cases hl : args.toList with
      | nil => rw [hl] at hxs; simp at hxs
      | cons q r => cases r with
        | nil => rw [hl] at hxs; simp at hxs
        | cons q2 r => cases r with
          | nil => rw [hl] at hxs; simp at hxs; exact ⟨q, q2, rfl, hxs.1, hxs.2⟩
          | cons => rw [hl] at hxs; simp at hxs
    have hargs0 : args = #[p, q] := by cases args; simp at hpq; rw [hpq]
    subst hargs0
    subst hts'
    have hx := ev_rep he p
    have hq := ev_rep he q
    rw [hqy] at hq
    have hq := hq.inv_int
    split at h
    · unfold Ob at h
      obtain ⟨rfl, hk⟩ := h
      rw [hpx] at hx
      have hp := hx.inv_lit.1
      refine .value (v := .string .empty) (w' := w) ?_ (.pure c hk (.p _ _ (by simpa using RepP.str (w := w) (B := Lv g σ) .empty)))
      have := Go.Lib.run_unsafeString_none (P := P) w t u o.type none
      simp [execOp, ho, resolve, invoke, builtin, hp, hq, this]
    · rename_i id tot
      split at h
      · rename_i u' xs ty hut hg
        split at h
        · rename_i hb
          simp only [Bool.and_eq_true] at hb
          have h1 := Nat.eq_of_beq_eq_true hb.1
          have h2 := Nat.eq_of_beq_eq_true hb.2
          subst h1
          unfold Ob at h
          obtain ⟨⟨ht, hn1, hn2, hn3⟩, l, hl, hk⟩ := h
          rw [killK_eq] at hk
          rw [hpx] at hx
          have hTi : T id := hT p (by simp) id (by rw [hpx]; simp [ids, ids1])
          have hs : σ id = some (.buf 1 xs (some u')) := (c.agree id hTi).trans hg
          have hp := hx.inv_eptr hs ht
          simp only [Nat.zero_mul, Nat.zero_add] at hp
          have hll : l.length = n.toNat := by
            have := congrArg List.length hl
            simp [bytesP] at this; omega
          have hln : (l.length : Int) = n := by omega
          have hR : g.R id := by
            obtain ⟨_, _, _, _, q⟩ := hx.inv_eptr2
            exact (q _ _ _ hs ht).2
          cases c.inv.rep _ _ hs hR with
          | buf _ _ vs hz hsz hn hr hare _ hty =>
            obtain ⟨m, hm⟩ := hty u' rfl
            have hmv : m = vs.length := by
              obtain ⟨e1, f1, hh, _⟩ := hare
              unfold World.shape? at hm
              rw [hh] at hm
              simp at hm; exact hm.2.symm
            have hc1 : P.cellsOf u' = 1 := by
              unfold szT at h2
              unfold Program.cellsOf
              split at h2
              · rename_i i hi; rw [hi]; simpa using h2
              · cases h2
            have hbytes : RepPs w (Lv g σ) (flat (bytesP l)) ((vs.take (1 * xs.length)).take l.length) := by
              have := hr.take l.length
              have e1 : (flat xs).take l.length = flat (bytesP l) := by
                rw [← hl, hll]
                have := flat_takeN n.toNat xs hsz
                rw [this, Nat.mul_one]
              rwa [e1] at this
            have hcell : ∀ j y, l[j]? = some y → w.cell? ((⟨g.ι id, 0, none⟩ : Addr).add j) = some (.int .u8 y.toNat) := by
              intro j y hj
              have hjl : j < l.length := (List.getElem?_eq_some_iff.1 hj).1
              rw [add_addr, Nat.zero_add, cell_of_are hare]
              have := bytes_vals hbytes
              have e2 : ((vs.take (1 * xs.length)).take l.length)[j]? = some (.int .u8 y.toNat) := by rw [this]; simp [hj]
              rw [List.getElem?_take, if_pos hjl, List.getElem?_take] at e2
              split at e2
              · exact e2
              · cases e2
            have hrun := Go.Lib.run_unsafeString_row (P := P) w t u o.type u' hut hc1 (g.ι id) m hm l (by intro e; subst e; simp at hll; omega) (by omega) (by omega) hcell
            rw [hln] at hrun
            refine .value (v := .string ⟨l.toArray⟩) (w' := w.freeze ⟨g.ι id, 0, none⟩ l.length) ?_ (Rs.gone c hTi hg hR (freeze_turned w _ _) (.p _ _ (by simpa using RepP.str (w := w.freeze ⟨g.ι id, 0, none⟩ l.length) (B := Lv g (σ.kill id)) ⟨l.toArray⟩)) hk)
            simp [execOp, ho, resolve, invoke, builtin, hp, hq, hrun]
        · exact h.elim
      · exact h.elim
    · exact h.elim
  · exact h.elim
end ops
end Go.Proofs.Ytneheklmkbhieaa.AW

namespace Go.Proofs.Ytneheklmkbhieaa.AW
set_option linter.unusedSimpArgs false
set_option linter.unusedVariables false
section ops
variable {P : Program} {o : Oper} {e : Env} {s : Store} {K : AV → Store → Prop} {w : World} {g : G} {σ : St} {a : Act} {T : Nat → Prop} {N : Prop}

/-! ### What is handed into a tree -/

theorem Cx.kill (c : Cx w g σ s T N) {id : Nat} {ob : AObj} (hT : T id) (hs : getO s id = some ob) : Cx w g (σ.kill id) (s.set id none) T N ∧ Ext w g σ w g (σ.kill id) ∧ (g.R id → ¬ Lv g (σ.kill id) (g.ι id)) ∧
    (∀ s', ovr T (s.set id none) s' (σ.kill id) = ovr T s s' σ) := by
  have hσ : σ id = some ob := (c.agree id hT).trans hs
  have hl : id < s.length := getO_lt hs
  have hsub : ∀ i oo, σ.kill id i = some oo → σ i = some oo := fun i oo h => by
    by_cases hi : i = id
    · simp [St.kill, hi] at h
    · simpa [St.kill, hi] using h
  have hne : ∀ i, σ.kill id i ≠ none → σ i ≠ none := fun i h => by
    obtain ⟨oo, ho⟩ := Option.ne_none_iff_exists'.1 h
    rw [hsub i oo ho]; simp
  have hext : Ext w g σ w g (σ.kill id) := ⟨Nat.le_refl _, rfl, rfl, rfl, fun _ _ _ => rfl, fun _ _ => rfl, rfl, fun _ h => h, fun b _ ⟨i, h1, hr, h2⟩ => ⟨i, hne i h1, hr, h2⟩,
    fun i _ oo h => ⟨oo, hsub i oo h, .refl _⟩, fun _ _ _ => ⟨rfl, .rfl⟩, fun _ _ _ _ _ _ _ _ _ _ => ⟨rfl, .rfl⟩, Nat.le_refl _⟩
  refine ⟨⟨⟨fun i oo h => c.inv.made i oo (hsub i oo h), fun i oo h => c.inv.lies i oo (hsub i oo h), c.inv.xlt, fun i j h k => c.inv.inj i j (hne i h) (hne j k), fun i oo h hr => hext.repO rfl (c.inv.rep i oo (hsub i oo h) hr), fun i oo h hr => c.inv.void i oo (hsub i oo h) hr⟩, fun i hi => ?_, fun hn => by simpa using c.fresh hn⟩, hext, fun hR => ?_, fun s' => ?_⟩
  · rw [getO_set s id none i hl]
    by_cases h : i = id
    · simp [St.kill, h]
    · simp only [St.kill, if_neg h]; exact c.agree i hi
  · rintro (h | ⟨i, h1, hr, h2⟩)
    · exact (c.inv.lies id _ hσ hR).2 h
    · have := c.inv.inj i id (hne i h1) (by rw [hσ]; simp) hr hR h2
      subst this; simp [St.kill] at h1
  · funext i
    have hl2 : (s.set id none).length = s.length := by simp
    unfold ovr
    by_cases h : T i ∨ (s.length ≤ i ∧ i < s'.length)
    · rw [if_pos (by rw [hl2]; exact h), if_pos h]
    · rw [if_neg (by rw [hl2]; exact h), if_neg h]
      have : i ≠ id := fun e => h (.inl (by rw [e]; exact hT))
      simp [St.kill, this]

structure Fz (w : World) (g : G) (σ : St) (s : Store) (T : Nat → Prop) (s' : Store) : Prop where
  len : s'.length = s.length
  same : ∀ id, ¬ T id → id < s.length → getO s' id = getO s id
  inv : Inv w g (ovr T s s' σ)
  ext : Ext w g σ w g (ovr T s s' σ)
  gone : ∀ id, getO s id = Option.none → getO s' id = Option.none

theorem Fz.refl (c : Cx w g σ s T N) : Fz w g σ s T s := ⟨rfl, fun _ _ _ => rfl, by rw [c.ovr_self]; exact c.inv, by rw [c.ovr_self]; exact .refl _ _ _, fun _ h => h⟩

theorem Fz.kill (c : Cx w g σ s T N) {id : Nat} {ob : AObj} (hT : T id) (hs : getO s id = some ob) {s' : Store} (h : Fz w g (σ.kill id) (s.set id Option.none) T s') : Fz w g σ s T s' := by
  obtain ⟨_, k2, _, k4⟩ := c.kill hT hs
  have hl : id < s.length := getO_lt hs
  refine ⟨h.len.trans (by simp), fun i hi hlt => ?_, by rw [← k4]; exact h.inv, by rw [← k4]; exact k2.trans h.ext, fun i hi => h.gone i ?_⟩
  · rw [h.same i hi (by simpa using hlt), getO_set s id _ i hl, if_neg (fun (e : i = id) => hi (by rw [e]; exact hT))]
  · rw [getO_set s id _ i hl]; split
    · rfl
    · exact hi

theorem cellsP_of_values {B : Nat → Prop} {b : Nat} {xs : List PV} {vs : List Value} {off : Nat} (hr : RepPs w B xs vs) (h : ∀ j v, vs[j]? = some v → w.cell? ⟨b, off + j, none⟩ = some v) : CellsP w B b off xs := cellsP_of hr h

/-- A row handed into a tree. -/
theorem osl_tree (c : Cx w g σ s T N) {id tot off len sz : Nat} {xs : List PV} {ty : Option Nat} {x : Value} (hT : T id) (hs : getO s id = some (.buf sz xs ty)) (ht : xs.length = tot) (hx : RepA w g σ (.osl id tot off len) x) :
    RepP w (Lv g (σ.kill id)) (.sl .shr sz ((xs.drop off).take len)) x := by
  obtain ⟨_, k2, k3, _⟩ := c.kill hT hs
  have hσ : σ id = some (.buf sz xs ty) := (c.agree id hT).trans hs
  obtain ⟨_, _, _, hd⟩ := hx.inv_osl
  have hV := hd _ _ _ hσ ht
  by_cases hR : g.R id
  rotate_left 1
  · obtain ⟨hy, _⟩ := hV.2.1 hR
    obtain ⟨sz', ty', _, e⟩ := c.inv.void _ _ hσ hR
    cases e
    rw [hy]
    simpa using RepP.nil (w := w) (B := Lv g (σ.kill id)) .shr sz
  have k3 := k3 hR
  obtain ⟨ad, cap, ⟨hy, hsp⟩, h1, h2, h3⟩ := hV.real hR
  subst hy
  have hlen : ((xs.drop off).take len).length = len := by simp; omega
  cases c.inv.rep _ _ hσ hR with
  | buf _ _ vs hz hsz hn hr hare =>
    have hmem : ∀ z, z ∈ (xs.drop off).take len → El sz z := fun z hz => hsz z (List.mem_of_mem_drop (List.mem_of_mem_take hz))
    by_cases hc0 : 0 < cap
    · obtain ⟨rfl, _⟩ := h3 hc0
      have := RepP.sl (w := w) (B := Lv g (σ.kill id)) .shr sz ((xs.drop off).take len) (g.ι id) (off * sz) cap (by decide) (fun q => by cases q) (by omega) hmem (fun _ => k3) (by
        refine cellsP_of_values (vs := ((vs.take (sz * xs.length)).drop (off * sz)).take (len * sz)) ?_ (fun j v hj => ?_)
        · rw [flat_takeN _ _ (fun q hq => hsz q (List.mem_of_mem_drop hq)), flat_dropN _ _ hsz]
          exact k2.repPs ((hr.drop _).take _)
        · rw [cell_of_are hare]
          rw [List.getElem?_take] at hj
          split at hj
          · rw [List.getElem?_drop, List.getElem?_take] at hj
            split at hj
            · exact hj
            · cases hj
          · cases hj)
      rw [hlen] at this; exact this
    · have hl0 : len = 0 := by omega
      have hc : cap = 0 := by omega
      subst hl0; subst hc
      have hnil : (xs.drop off).take 0 = [] := by simp
      rw [hnil]
      obtain ⟨b, o, sp⟩ := ad
      subst hsp
      exact .sl .shr sz [] b o 0 (by decide) (fun q => by cases q) (Nat.le_refl _) (fun z hz => by cases hz) (fun q => absurd rfl q) (.nil _ _)

theorem cells_tree (c : Cx w g σ s T N) {id : Nat} {cs : List AV} {ty : Option Nat} {ps : List PV} (hT : T id) (hs : getO s id = some (.cells cs ty)) (hp : allP cs = some ps) :
    RepP w (Lv g (σ.kill id)) (.pto ps) (.pointer (some ⟨g.ι id, 0, none⟩)) := by
  obtain ⟨_, k2, k3, _⟩ := c.kill hT hs
  have hσ : σ id = some (.cells cs ty) := (c.agree id hT).trans hs
  have hR := c.inv.real hσ (by simp)
  have k3 := k3 hR
  cases c.inv.rep _ _ hσ hR with
  | cells _ _ xs hr hare _ =>
    refine .pto ps _ _ (fun _ => k3) (cellsP_of_values (k2.repPs (allP_rep hr hp)) (fun j v hj => ?_))
    rw [Nat.zero_add, cell_of_are hare]; exact hj

theorem Fz.none' {s' : Store} (_h : Fz w g σ s T s') : True := trivial

theorem cellsP_tree : ∀ {cs : List AV} {xs : List Value} {s : Store} {σ : St}, RepAs w g σ cs xs → Cx w g σ s T N → (∀ v, v ∈ cs → ∀ id, id ∈ ids1 v → T id) → ∀ {K : List PV → Store → Prop}, toP.cellsP s cs K →
    ∃ ps s', K ps s' ∧ Fz w g σ s T s' ∧ RepPs w (Lv g (ovr T s s' σ)) ps xs := by
  intro cs
  induction cs with
  | nil =>
    intro xs s σ hr c _ K h
    cases hr
    exact ⟨[], s, h, .refl c, .nil⟩
  | cons v r ih =>
    intro xs s σ hr c hT K h
    cases hr with
    | cons _ x _ xs hv hs =>
      unfold toP.cellsP at h
      split at h
      · rename_i heq; cases heq
      · rename_i y r' heq
        cases heq
        obtain ⟨ps, s', hk, hf, hp⟩ := ih hs c (fun v hv => hT v (List.mem_cons_of_mem _ hv)) h
        exact ⟨_, s', hk, hf, .cons _ _ _ _ (hf.ext.repP hv.inv_p) hp⟩
      · rename_i id tot off len r' heq
        cases heq
        split at h
        · rename_i sz zs hg
          rw [killK_eq] at h
          unfold Ob at h
          obtain ⟨ht, h⟩ := h
          have hTi : T id := hT (.osl id tot off len) (by simp) id (by simp [ids1])
          obtain ⟨k1, k2, k3, k4⟩ := c.kill hTi hg
          have htree := osl_tree c hTi hg ht hv
          obtain ⟨ps, s', hk, hf, hp⟩ := ih (k2.repAs hs) k1 (fun v hv => hT v (List.mem_cons_of_mem _ hv)) h
          refine ⟨_, s', hk, hf.kill c hTi hg, ?_⟩
          rw [k4] at hp
          have he := hf.ext
          rw [k4] at he
          exact .cons _ _ _ _ (he.repP htree) hp
        · exact h.elim
      · exact h.elim

theorem toP_tree {v : AV} {x : Value} {s : Store} {σ : St} (hr : RepA w g σ v x) (c : Cx w g σ s T N) (hT : ∀ id, id ∈ ids v → T id) {K : PV → Store → Prop} (h : toP s v K) :
    ∃ p s', K p s' ∧ Fz w g σ s T s' ∧ RepP w (Lv g (ovr T s s' σ)) p x := by
  unfold toP at h
  split at h
  · exact ⟨_, s, h, .refl c, by rw [c.ovr_self]; exact hr.inv_p⟩
  · rename_i id tot off len
    split at h
    · rename_i sz zs hg
      rw [killK_eq] at h
      unfold Ob at h
      have hTi : T id := hT id (by simp [ids, ids1])
      obtain ⟨k1, k2, k3, k4⟩ := c.kill hTi hg
      refine ⟨_, _, h.2, (Fz.refl k1).kill c hTi hg, ?_⟩
      rw [← k4, k1.ovr_self]; exact osl_tree c hTi hg h.1 hr
    · exact h.elim
  · rename_i id
    split at h
    · rename_i cs hg
      split at h
      · rename_i ps hp
        rw [killK_eq] at h
        have hTi : T id := hT id (by simp [ids, ids1])
        obtain ⟨k1, k2, k3, k4⟩ := c.kill hTi hg
        refine ⟨_, _, h, (Fz.refl k1).kill c hTi hg, ?_⟩
        rw [← k4, k1.ovr_self, hr.inv_ref.1]; exact cells_tree c hTi hg hp
      · exact h.elim
    · exact h.elim
  · rename_i cs
    obtain ⟨ys, hy, hs⟩ := hr.inv_agg
    subst hy
    obtain ⟨ps, s', hk, hf, hp⟩ := cellsP_tree hs c (fun v hv id hid => hT id (by simp only [ids, List.mem_flatMap]; exact ⟨v, hv, hid⟩)) h
    exact ⟨_, s', hk, hf, .agg _ _ hp⟩
  · rename_i t id
    split at h
    · rename_i cs hg
      split at h
      · rename_i ps hp
        rw [killK_eq] at h
        have hTi : T id := hT id (by simp [ids, ids1])
        obtain ⟨k1, k2, k3, k4⟩ := c.kill hTi hg
        refine ⟨_, _, h, (Fz.refl k1).kill c hTi hg, ?_⟩
        rw [← k4, k1.ovr_self]
        cases hr with
        | ifc _ _ y hy => rw [hy.inv_ref.1]; exact .iface _ _ _ (cells_tree c hTi hg hp)
      · exact h.elim
    · exact h.elim
  · exact h.elim

theorem Fz.cx {s' : Store} (c : Cx w g σ s T N) (h : Fz w g σ s T s') : Cx w g (ovr T s s' σ) s' T N where
  inv := h.inv
  agree id hid := by unfold ovr; rw [if_pos (.inl hid)]
  fresh hn := by rw [h.len]; exact c.fresh hn

theorem Fz.ovr {s' s'' : Store} (h : Fz w g σ s T s') : ovr T s' s'' (ovr T s s' σ) = ovr T s s'' σ := by
  funext i
  unfold Go.Proofs.Ytneheklmkbhieaa.AW.ovr
  by_cases hc : T i ∨ (s.length ≤ i ∧ i < s''.length)
  · rw [if_pos (by rw [h.len]; exact hc), if_pos hc]
  · rw [if_neg (by rw [h.len]; exact hc), if_neg hc, if_neg]
    rintro (h1 | h1)
    · exact hc (.inl h1)
    · have := h.len; omega

theorem Fz.trans {s' s'' : Store} (h : Fz w g σ s T s') (k : Fz w g (Go.Proofs.Ytneheklmkbhieaa.AW.ovr T s s' σ) s' T s'') : Fz w g σ s T s'' := by
  have e := h.ovr (s'' := s'')
  refine ⟨k.len.trans h.len, fun i hi hl => (k.same i hi (by rw [h.len]; exact hl)).trans (h.same i hi hl), by rw [← e]; exact k.inv, by rw [← e]; exact h.ext.trans k.ext, fun i hi => k.gone i (h.gone i hi)⟩

theorem partsP_tree : ∀ {vs : List AV} {xs : List Value} {s : Store} {σ : St}, RepAs w g σ vs xs → Cx w g σ s T N → (∀ v, v ∈ vs → ∀ id, id ∈ ids v → T id) → ∀ {K : List PV → Store → Prop}, partsP s vs K →
    ∃ ps s', K ps s' ∧ Fz w g σ s T s' ∧ RepPs w (Lv g (Go.Proofs.Ytneheklmkbhieaa.AW.ovr T s s' σ)) ps xs := by
  intro vs
  induction vs with
  | nil =>
    intro xs s σ hr c _ K h
    cases hr
    exact ⟨[], s, h, .refl c, .nil⟩
  | cons v r ih =>
    intro xs s σ hr c hT K h
    cases hr with
    | cons _ x _ xs hv hs =>
      unfold partsP at h
      obtain ⟨p, s1, h1, hf1, hp1⟩ := toP_tree hv c (hT v (by simp)) h
      obtain ⟨ps, s2, h2, hf2, hp2⟩ := ih (hf1.ext.repAs hs) (hf1.cx c) (fun v hv => hT v (List.mem_cons_of_mem _ hv)) h1
      have e := hf1.ovr (s'' := s2)
      refine ⟨_, s2, h2, hf1.trans hf2, ?_⟩
      rw [e] at hp2
      have he := hf2.ext
      rw [e] at he
      exact .cons _ _ _ _ (he.repP hp1) hp2
end ops
end Go.Proofs.Ytneheklmkbhieaa.AW

namespace Go.Proofs.Ytneheklmkbhieaa.AW
set_option linter.unusedSimpArgs false
set_option linter.unusedVariables false
section ops
variable {P : Program} {o : Oper} {e : Env} {s : Store} {K : AV → Store → Prop} {w : World} {g : G} {σ : St} {a : Act} {T : Nat → Prop} {N : Prop}

theorem Rs.after {s1 : Store} {x : Value} {w' : World} (hf : Fz w g σ s T s1) (h : Rs w g (ovr T s s1 σ) s1 T K x w') : Rs w g σ s T K x w' := by
  obtain ⟨v, s', g', h⟩ := h
  have e := hf.ovr (s'' := s')
  refine ⟨v, s', g', h.K, by have := h.len; have := hf.len; omega, fun i hi hl => (h.same i hi (by rw [hf.len]; exact hl)).trans (hf.same i hi hl), ?_, ?_, ?_, fun i hi => (h.new i hi).imp id fun q => by rw [← hf.len]; exact q⟩
  · rw [← e]; exact h.rep
  · rw [← e]; exact h.inv
  · rw [← e]; exact hf.ext.trans h.ext

theorem OpOk.imp {R R' : Value → World → Prop} (h : OpOk P o a w R) (hr : ∀ x w', R x w' → R' x w') : OpOk P o a w R' := by
  unfold OpOk at h ⊢
  generalize (execOp a.eval o).run P w = res at h ⊢
  match res, h with
  | .ok (.value v) w', h => exact hr _ _ h
  | .ok .skip w', h => exact hr _ _ h
  | .ok (.enter f args) w', h =>
    refine Calls.mono h fun e w'' hq => ?_
    match e, hq with
    | .returned v, hq => exact hr _ _ hq

theorem ok_mapUpdate {t : Nat} {m k v : Operand} (ho : o.op = .mapUpdate t m k v) (h : aop P (.mapUpdate t m k v) e s K) (c : Cx w g σ s T N) (hT : ∀ id, id ∈ footT e (.mapUpdate t m k v) → T id) (he : EnvR w g σ e a.tmps) : OpOk P o a w (Rs w g σ s T K) := by
  simp only [aop, mapUpdateA] at h
  have hx := ev_rep he m
  have hi := ev_rep he k
  have hv := ev_rep he v
  split at h
  · rename_i kk vt id key ht hev hkey
    obtain ⟨kt, d, hu, hd, hkd⟩ := mapT_und ht
    rw [hev] at hx
    rw [hkey] at hi
    obtain ⟨hp, _, _⟩ := hx.inv_map
    obtain ⟨y, s1, hq, hf, hy⟩ := toP_tree hv c (fun i hi => hT i (by simp only [footT]; exact List.mem_append_right _ hi)) h
    have hTi : T id := hT id (by simp only [footT]; rw [hev]; simp [ids, ids1])
    have c1 := hf.cx c
    have hkr := (hf.ext.repA hi).inv_p
    refine OpOk.imp ?_ fun x w' hr => Rs.after hf hr
    clear h
    split at hq
    · rename_i kk' es clock hg
      split at hq
      · rename_i hc
        simp only [Bool.and_eq_true, decide_eq_true_eq] at hc
        obtain ⟨rfl, hkk⟩ := hc
        have hkv := keyV hkr hkk
        have hs : ovr T s s1 σ id = some (.map kk' es clock) := (c1.agree id hTi).trans hg
        have hR := c1.inv.real hs (by simp)
        rw [setK_eq] at hq
        cases c1.inv.rep _ _ hs hR with
        | map _ _ _ xs hE hw hk hcl hn =>
          have hchk := fun b => hkv.check (P := P) (w := w) hkd hd b
          rcases find_ents hkv hkd hkr hE hk 0 with ⟨h1, h2⟩ | ⟨j, v', x', hj, h1, h2, h3, ⟨z, h5, h6⟩, h7, h8⟩
          · have hfk := run_findKey (w := w) hd h1
            have e1 : mPut es clock key y = es ++ [(clock, key, y)] := by unfold mPut; rw [h2]
            have e2 : mClock es clock key = clock + 1 := by unfold mClock; rw [h2]
            rw [e1, e2] at hq
            refine OpOk.skip (w' := { w with heap := w.heap.setIfInBounds (g.ι id) (.map (xs ++ [({ key := a.eval k, val := a.eval v, born := clock } : MapEntry)]).toArray (clock + 1)) }) ?_
              (Rs.setMap c1 hTi hg hR (hE.app (.cons _ _ _ _ _ _ _ hkr hy .nil)) (fun q hq => ?_) (fun q hq => ?_) ?_ ⟨_, _, hw⟩ (.undef _) hq)
            · simp [execOp, ho, Instr.mapUpdate, underlying, hu, hp, getObj, setObj, Sem.run, hw, hchk, hfk]
            · rcases List.mem_append.1 hq with hq | hq
              · exact hk q hq
              · have := List.mem_singleton.1 hq; subst this; exact hkk
            · rcases List.mem_append.1 hq with hq | hq
              · exact Nat.lt_succ_of_lt (hcl q hq)
              · have := List.mem_singleton.1 hq; subst this; exact Nat.lt_succ_self _
            · rw [List.map_append, List.nodup_append]
              refine ⟨hn, by simp, fun a ha b hb => ?_⟩
              obtain ⟨q, hq, rfl⟩ := List.mem_map.1 ha
              have hb : b = clock := by simpa using hb
              have := hcl q hq
              omega
          · have hfk := run_findKey (w := w) hd h1
            rw [Nat.zero_add] at hfk
            have e1 : mPut es clock key y = mSet es key y := by unfold mPut; rw [h2]
            have e2 : mClock es clock key = clock := by unfold mClock; rw [h2]
            rw [e1, e2] at hq
            have hst : (Instr.keyThatStays ((Option.map (fun x => x.key) xs[j]?).getD (a.eval k)) (a.eval k)).run P w = .ok (a.eval k) w := by
              rw [h5]
              show (Instr.keyThatStays z.key (a.eval k)).run P w = _
              rw [h6]
              unfold Instr.keyThatStays
              rw [if_pos hkv.stays]; rfl
            refine OpOk.skip (w' := { w with heap := w.heap.setIfInBounds (g.ι id) (.map (xs.modify j fun z => { z with key := a.eval k, val := a.eval v }).toArray clock) }) ?_
              (Rs.setMap c1 hTi hg hR (h7 y _ hy) (mSet_keys hkk hk) (fun q hq => ?_) (by rw [mSet_fst]; exact hn) ⟨_, _, hw⟩ (.undef _) hq)
            · simp [execOp, ho, Instr.mapUpdate, underlying, hu, hp, getObj, setObj, Sem.run, hw, hchk, hfk, hst]
            · have : q.1 ∈ (mSet es key y).map (·.1) := List.mem_map.2 ⟨q, hq, rfl⟩
              rw [mSet_fst] at this
              obtain ⟨q', hq', e'⟩ := List.mem_map.1 this
              rw [← e']; exact hcl q' hq'
      · exact hq.elim
    · exact hq.elim
  · exact h.elim
end ops
end Go.Proofs.Ytneheklmkbhieaa.AW

namespace Go.Proofs.Ytneheklmkbhieaa.AW
set_option linter.unusedSimpArgs false
set_option linter.unusedVariables false
section ops
variable {P : Program} {o : Oper} {e : Env} {s : Store} {K : AV → Store → Prop} {w : World} {g : G} {σ : St} {a : Act} {T : Nat → Prop} {N : Prop}

theorem ok_makeInterface {t : Nat} {x : Operand} (ho : o.op = .makeInterface t x) (h : aop P (.makeInterface t x) e s K) (c : Cx w g σ s T N) (hT : ∀ id, id ∈ footT e (.makeInterface t x) → T id) (he : EnvR w g σ e a.tmps) : OpOk P o a w (Rs w g σ s T K) := by
  simp only [aop] at h
  have hx := ev_rep he x
  have fin : ∀ {d : TypeDesc} {v : AV}, P.underlying t = some d → (∀ ms, d ≠ .interface ms) → K v s → RepA w g σ v (.iface t (a.eval x)) → OpOk P o a w (Rs w g σ s T K) := by
    intro d v hd hn hk hr
    refine .value (v := .iface t (a.eval x)) (w' := w) ?_ (.pure c hk hr)
    simp only [execOp, ho, Instr.makeInterface, underlying]
    cases d <;> simp [hd] <;> exact absurd rfl (hn _)
  split at h
  · exact h.elim
  · exact h.elim
  · rename_i d hn hd
    split at h
    · rename_i v hev; exact fin hd (fun ms e => hn ms e) h (by rw [hev] at hx; exact .p _ _ (.iface _ _ _ hx.inv_p))
    · rename_i id off hev; exact fin hd (fun ms e => hn ms e) h (by rw [hev] at hx; exact .ifc _ _ _ hx)
    · rename_i id tot off len hev
      rw [hev] at hx
      obtain ⟨p, s', hk, hf, hp⟩ := toP_tree hx c (fun i hi => hT i (by simp only [footT, hev]; simpa [ids, ids1] using hi)) h
      have hr : Rs w g σ s T K (.iface t (a.eval x)) w := ⟨.p (.iface t p), s', g, hk, by rw [hf.len]; exact Nat.le_refl _, hf.same, .p _ _ (.iface _ _ _ hp), hf.inv, hf.ext, fun id h => .inl h⟩
      refine .value (v := .iface t (a.eval x)) (w' := w) ?_ hr
      simp only [execOp, ho, Instr.makeInterface, underlying]
      cases d <;> simp [hd] <;> exact absurd rfl (hn _)
    · exact h.elim

theorem foldl_set (vs : List Value) : ∀ (k off : Nat) (xs : List Value), off + k + vs.length ≤ xs.length →
    (vs.zipIdx k).foldl (fun (cs : Array Value) (q : Value × Nat) => cs.setIfInBounds (off + q.2) q.1) xs.toArray = (spliceV xs (off + k) vs).toArray := by
  induction vs with
  | nil => intro k off xs _; simp [spliceV]
  | cons v r ih =>
    intro k off xs hl
    simp only [List.length_cons] at hl
    rw [List.zipIdx_cons, List.foldl_cons]
    have : (xs.toArray.setIfInBounds (off + k) v) = (xs.set (off + k) v).toArray := by simp
    simp only [this]
    rw [ih (k + 1) off (xs.set (off + k) v) (by simp; omega)]
    congr 1
    unfold spliceV
    rw [List.drop_set_of_lt (by omega), show off + (k + 1) = off + k + 1 by omega, List.take_succ_eq_append_getElem (by simp; omega)]
    simp only [List.getElem_set_self, List.take_set_of_le (Nat.le_refl _), List.append_assoc, List.cons_append, List.nil_append, List.length_cons]
    rw [show off + k + (r.length + 1) = off + k + 1 + r.length by omega]

theorem fill_rep {place : Nat → Option (Nat × Nat)} : ∀ {parts : List (Nat × Operand)} {cs ds : List AV} {xs : List Value}, EnvR w g σ e a.tmps → fillA place cs (parts.map fun q => (q.1, ev e q.2)) = some ds → RepAs w g σ cs xs →
    ∃ ys, Instr.fill place xs.toArray (parts.map fun q => (q.1, a.eval q.2)) = some ys.toArray ∧ RepAs w g σ ds ys
  | [], cs, ds, xs, _, h, hr => by simp [fillA] at h; subst h; exact ⟨xs, rfl, hr⟩
  | q :: r, cs, ds, xs, he, h, hr => by
    simp only [List.map_cons, fillA] at h
    split at h
    · cases h
    · rename_i off size hp
      split at h
      · rename_i h1 h2 h3
        have h1 := Nat.eq_of_beq_eq_true h1
        have h2 := Nat.le_of_ble_eq_true h2
        have hv := cells_rep (ev_rep he q.2) h3
        have hl : (a.eval q.2).cells.toList.length = size := by rw [← hv.len, h1]
        obtain ⟨ys, k1, k2⟩ := fill_rep (parts := r) he h (splice_rep hr hv off)
        refine ⟨ys, ?_, k2⟩
        rw [List.map_cons, Instr.fill, hp]
        have hsz : (a.eval q.2).cells.size = size := by rw [← hl]; simp
        have hc : ¬ ((decide ((a.eval q.2).cells.size ≠ size) || decide (off + (a.eval q.2).cells.size > xs.toArray.size)) = true) := by
          rw [hsz]; simp; rw [← hr.len]; omega
        simp only []
        rw [if_neg hc, ← k1]
        congr 1
        have := foldl_set (a.eval q.2).cells.toList 0 off xs (by rw [hl, ← hr.len]; omega)
        rw [Nat.add_zero] at this
        rw [← this, ← Array.foldl_toList, Array.toList_zipIdx]
      · cases h

theorem zc_rep {z : PV} {v : Value} (hr : RepA w g σ (.p z) v) : RepAs w g σ (AV.cells (.p z)) v.cells.toList := by
  have h := hr.inv_p
  cases h <;> first
    | exact .cons _ _ _ _ hr .nil
    | (rename_i cs a hs; simpa [AV.cells, Value.cells] using hs.repAs)
    | (rename_i hl
       have : v.cells = #[v] := by cases v <;> first | rfl | exact hl.elim
       rw [this]; exact .cons _ _ _ _ hr .nil)

theorem ok_build {t : Nat} {ps : Array (Nat × Operand)} (ho : o.op = .build t ps) (h : aop P (.build t ps) e s K) (c : Cx w g σ s T N) (he : EnvR w g σ e a.tmps) : OpOk P o a w (Rs w g σ s T K) := by
  simp only [aop] at h
  have fin : ∀ {cs : List AV} {ys : List Value}, P.built t (ps.map fun (i, x) => (i, a.eval x)).toList = some ys.toArray → RepAs w g σ cs ys → K (mkAgg cs) s → OpOk P o a w (Rs w g σ s T K) := by
    intro cs ys hb hr hk
    refine .value (v := .agg ys.toArray) (w' := w) ?_ (.pure c hk (mkAgg_rep hr))
    simp [execOp, ho, run_build w t _ _ hb]
  split at h
  · rename_i z fs hz hd
    have hu := und hd (by simp)
    obtain ⟨zv, _, hzr, it, hit, hzv⟩ := zeroT_run (w := w) (g := g) (σ := σ) hz
    split at h
    · rename_i hall
      split at h
      · rename_i cs hf
        have hzc := zc_rep hzr
        obtain ⟨ys, k1, k2⟩ := fill_rep he hf hzc
        rw [Array.toArray_toList] at k1
        refine fin ?_ k2 h
        have hplaces : fs.toList.mapM (fun f => (P.info? f.type).map fun i => (f.offset, i.size)) = some (fs.toList.map fun f => (f.offset, szT P f.type)) := by
          generalize fs.toList = l at hall
          induction l with
          | nil => rfl
          | cons f r ih =>
            simp only [List.all_cons, Bool.and_eq_true] at hall
            obtain ⟨i, hi⟩ := Option.isSome_iff_exists.1 hall.1
            rw [List.mapM_cons, ih hall.2]
            simp [hi, szT]
        simp only [Program.built, hit, hu, hzv, hplaces]
        have hpl : (fun x : Nat => (fs.toList.map fun (f : Field) => (f.offset, szT P f.type)).toArray[x]?) = (fun i : Nat => match fs[i]? with | some f => some (f.offset, szT P f.type) | none => none) := by
          funext i
          simp only [List.getElem?_toArray, List.getElem?_map, Array.getElem?_toList]
          cases fs[i]? <;> rfl
        rw [hpl]
        have hm : (ps.map fun (i, x) => (i, a.eval x)).toList = ps.toList.map fun q => (q.1, a.eval q.2) := by simp
        rw [hm]; exact k1
      · exact h.elim
    · exact h.elim
  · rename_i z n el hz hd
    have hu := und hd (by simp)
    obtain ⟨zv, _, hzr, it, hit, hzv⟩ := zeroT_run (w := w) (g := g) (σ := σ) hz
    split at h
    · rename_i i cs hi hf
      have hzc := zc_rep hzr
      obtain ⟨ys, k1, k2⟩ := fill_rep he hf hzc
      rw [Array.toArray_toList] at k1
      refine fin ?_ k2 h
      simp only [Program.built, hit, hu, hzv, hi]
      have hm : (ps.map fun (i, x) => (i, a.eval x)).toList = ps.toList.map fun q => (q.1, a.eval q.2) := by simp
      have hsz : szT P el = i.size := by simp [szT, hi]
      rw [hm, ← k1, hsz]
    · exact h.elim
  · exact h.elim

theorem fill_all {size : Nat} : ∀ {vs : List Value} {k : Nat} {A Z : List Value}, A.length = k * size → Z.length = vs.length * size → (∀ v, v ∈ vs → v.cells.size = size) →
    Instr.fill (fun i => some (i * size, size)) (A ++ Z).toArray ((vs.zipIdx k).map fun q => (q.2, q.1)) = some (A ++ vs.flatMap fun v => v.cells.toList).toArray
  | [], k, A, Z, hA, hZ, _ => by simp at hZ; subst hZ; simp [Instr.fill]
  | v :: r, k, A, Z, hA, hZ, hv => by
    have hvs := hv v (by simp)
    rw [List.zipIdx_cons, List.map_cons, Instr.fill]
    simp only []
    have hZ' : Z.length = size + r.length * size := by rw [hZ, List.length_cons, Nat.succ_mul]; omega
    have hc : ¬ ((decide (v.cells.size ≠ size) || decide (k * size + v.cells.size > (A ++ Z).toArray.size)) = true) := by
      rw [hvs]; simp; omega
    rw [if_neg hc]
    have hl : v.cells.toList.length = size := by rw [← hvs]; simp
    have e1 : v.cells.zipIdx.foldl (fun cs (c, j) => cs.setIfInBounds (k * size + j) c) (A ++ Z).toArray = (A ++ v.cells.toList ++ Z.drop size).toArray := by
      have := foldl_set v.cells.toList 0 (k * size) (A ++ Z) (by rw [hl]; simp; omega)
      rw [← Array.foldl_toList, Array.toList_zipIdx]
      rw [this]
      unfold spliceV
      rw [hl, Nat.add_zero, List.take_left' hA]
      congr 2
      rw [← List.drop_drop, List.drop_left' hA]
    rw [e1]
    have := fill_all (size := size) (vs := r) (k := k + 1) (A := A ++ v.cells.toList) (Z := Z.drop size) (by rw [List.length_append, hA, hl, Nat.succ_mul]) (by rw [List.length_drop]; omega) (fun q hq => hv q (List.mem_cons_of_mem _ hq))
    rw [this]
    simp

theorem repPs_flat : ∀ {ps : List PV} {xs : List Value} {B : Nat → Prop}, RepPs w B ps xs → RepPs w B (flat ps) (xs.flatMap fun v => v.cells.toList)
  | _, _, _, .nil => .nil
  | _, _, _, .cons v x vs xs h hs => by
    show RepPs w _ (v.cells ++ flat vs) (x.cells.toList ++ _)
    refine RepPs.append ?_ (repPs_flat hs)
    cases h <;> first
      | exact .cons _ _ _ _ (by assumption) .nil
      | (rename_i cs a hs; simpa [PV.cells, Value.cells] using hs)
      | (rename_i hl; have : x.cells = #[x] := by cases x <;> first | rfl | exact hl.elim
         rw [this]; exact .cons _ _ _ _ (.lit _ hl) .nil)
      | exact .cons _ _ _ _ (.bool _) .nil
      | exact .cons _ _ _ _ (.int _ _) .nil
      | exact .cons _ _ _ _ (.str _) .nil
      | exact .cons _ _ _ _ (.nil _ _) .nil
      | exact .cons _ _ _ _ (.spt _ _ _ (by assumption)) .nil
      | (rename_i a b; exact .cons _ _ _ _ (.iface _ _ _ (by assumption)) .nil)
      | exact .cons _ _ _ _ (.sl _ _ _ _ _ _ (by assumption) (by assumption) (by assumption) (by assumption) (by assumption) (by assumption)) .nil
      | exact .cons _ _ _ _ (.pto _ _ _ (by assumption) (by assumption)) .nil

theorem RepP.size {B : Nat → Prop} {v : PV} {x : Value} (h : RepP w B v x) : x.cells.size = v.cells.length := by
  cases h <;> first
    | rfl
    | (rename_i cs a hs; simp [Value.cells, PV.cells, hs.len])
    | (rename_i hl; cases x <;> first | rfl | exact hl.elim)

theorem zipIdx_map {α β : Type} (f : α → β) (l : List (Nat × α)) (k : Nat) (h : l.map (·.1) = List.range' k l.length) : l.map (fun q => (q.1, f q.2)) = ((l.map fun q => f q.2).zipIdx k).map fun q => (q.2, q.1) := by
  induction l generalizing k with
  | nil => rfl
  | cons q r ih =>
    simp only [List.map_cons, List.length_cons, List.range'_succ, List.cons.injEq] at h
    simp only [List.map_cons, List.zipIdx_cons, h.1]
    rw [ih (k + 1) h.2]

theorem el_sizes {B : Nat → Prop} {sz : Nat} : ∀ {xs : List PV} {vs : List Value}, RepPs w B xs vs → (∀ x, x ∈ xs → El sz x) → ∀ v, v ∈ vs → v.cells.size = sz
  | _, _, .nil, _, v, hv => by cases hv
  | _, _, .cons x y xs ys hx hs, hel, v, hv => by
    rcases List.mem_cons.1 hv with rfl | hv
    · rw [hx.size]; exact (hel x (by simp)).1
    · exact el_sizes hs (fun q hq => hel q (by simp [hq])) v hv

theorem run_bs {t n el : Nat} {ps : Array (Nat × Operand)} {i : TypeInfo} {zv : Value} (hu : P.underlying t = some (.slice el)) (hrange : ps.toList.map (·.1) = List.range n) (hn : ps.toList.length = n) (hi : P.info? el = some i)
    (hzrun : (zeroValue el).run P w = .ok zv w) (hb1 : n * i.size ≤ 16777216) (hsz : ∀ v, v ∈ ps.toList.map (fun q => a.eval q.2) → v.cells.size = i.size) :
    (Instr.buildSlice t n (ps.map fun (j, x) => (j, a.eval x))).run P w = .ok (.slice (some ⟨w.heap.size, 0, none⟩) n n) (w.alloc (.cells ((ps.toList.map fun q => a.eval q.2).flatMap fun v => v.cells.toList).toArray el)) := by
  have hfill : Instr.fill (fun j => some (j * i.size, i.size)) ((Array.range (n * i.size)).map fun j => zv.cells[j % zv.cells.size]!) (ps.map fun (j, x) => (j, a.eval x)).toList = some ((ps.toList.map fun q => a.eval q.2).flatMap fun v => v.cells.toList).toArray := by
    have hm : (ps.map fun (j, x) => (j, a.eval x)).toList = ((ps.toList.map fun q => a.eval q.2).zipIdx 0).map fun q => (q.2, q.1) := by
      have := zipIdx_map a.eval ps.toList 0 (by rw [hrange, hn, List.range_eq_range'])
      rw [← this]; simp
    rw [hm]
    have := fill_all (size := i.size) (vs := ps.toList.map fun q => a.eval q.2) (k := 0) (A := []) (Z := (List.range (n * i.size)).map fun j => zv.cells[j % zv.cells.size]!) (by simp) (by simp [hn]) hsz
    rw [List.nil_append, List.nil_append] at this
    rw [← this, ← List.toArray_range, List.map_toArray]
  have hnb : ¬ n * i.size > 2 ^ 24 := by omega
  have hfill2 : ∀ zc : Array Value, (n * i.size ≠ 0 → zc = zv.cells) → Instr.fill (fun j => some (j * i.size, i.size)) ((Array.range (n * i.size)).map fun j => zc[j % zc.size]!) (ps.map fun (j, x) => (j, a.eval x)).toList = some ((ps.toList.map fun q => a.eval q.2).flatMap fun v => v.cells.toList).toArray := by
    intro zc hzc
    by_cases h0 : n * i.size = 0
    · have e0 : ∀ f : Nat → Value, (Array.range 0).map f = #[] := fun f => by rw [Array.range_zero']; simp
      rw [← hfill, h0, e0, e0]
    · rw [hzc h0, hfill]
  have hnb' : ¬ 2 ^ 24 < n * i.size := hnb
  by_cases h0 : n * i.size = 0
  · have h1 := hfill2 #[] (fun q => absurd h0 q)
    simp only [Instr.buildSlice, Sem.run_bind, run_underlying hu, Result.andThen_ok, sizeOf, typeInfo, run_program, hi, Sem.run_pure, if_neg hnb, if_pos h0, h1]
    rfl
  · have h1 := hfill2 zv.cells (fun _ => rfl)
    simp only [Instr.buildSlice, Sem.run_bind, run_underlying hu, Result.andThen_ok, sizeOf, typeInfo, run_program, hi, Sem.run_pure, if_neg hnb, if_neg h0, hzrun, h1]
    rfl

theorem ok_buildSlice {t n : Nat} {ps : Array (Nat × Operand)} (ho : o.op = .buildSlice t n ps) (h : aop P (.buildSlice t n ps) e s K) (hN : ∀ v s', K v s' → s.length < s'.length → N) (c : Cx w g σ s T N) (hT : ∀ q, q ∈ ps.toList → ∀ id, id ∈ ids (ev e q.2) → T id) (he : EnvR w g σ e a.tmps) : OpOk P o a w (Rs w g σ s T K) := by
  simp only [aop] at h
  split at h
  · rename_i el hd hrange
    have hu := und hd (by simp)
    have hrange : ps.toList.map (·.1) = List.range n := by simpa using hrange
    have hn : ps.toList.length = n := by have := congrArg List.length hrange; simpa using this
    split at h
    · rename_i i z hi hz
      obtain ⟨zv, hzrun, hzr, it, hit, hzv⟩ := zeroT_run (w := w) (g := g) (σ := σ) hz
      rw [hi] at hit; cases hit
      split at h
      · rename_i hb1 hb2
        have hb1 := Nat.le_of_ble_eq_true hb1
        have hb2 := Nat.eq_of_beq_eq_true hb2
        have hargs : RepAs w g σ (ps.toList.map fun q => ev e q.2) (ps.toList.map fun q => a.eval q.2) := by
          have := evs_rep (w := w) (g := g) (σ := σ) he (ps.toList.map (·.2))
          simpa [List.map_map, Function.comp_def] using this
        have elOf : ∀ {xs : List PV}, (xs.all (fun x => Nat.beq x.cells.length i.size && x.cells.all PV.one)) = true → ∀ x, x ∈ xs → El i.size x := fun hall x hx => by
          have := List.all_eq_true.1 hall x hx
          simp only [Bool.and_eq_true] at this
          exact ⟨Nat.eq_of_beq_eq_true this.1, this.2⟩
        have old : (partsP s (ps.toList.map fun q => ev e q.2) fun xs s' => (match xs.all (fun x => Nat.beq x.cells.length i.size && x.cells.all PV.one) with
            | true => K (.p (.sl .clip i.size xs)) s'
            | false => False)) → OpOk P o a w (Rs w g σ s T K) := by
          intro h
          obtain ⟨xs, s', hk, hf, hp⟩ := partsP_tree hargs c (fun v hv id hid => by
            obtain ⟨q, hq, rfl⟩ := List.mem_map.1 hv
            exact hT q hq id hid) h
          split at hk
          · rename_i hall
            have hel := elOf hall
            have hxl : xs.length = n := by rw [hp.len]; simp [hn]
            have hrun := run_bs (P := P) (w := w) (a := a) hu hrange hn hi hzrun hb1 (el_sizes hp hel)
            have m := More.alloc w (.cells ((ps.toList.map fun q => a.eval q.2).flatMap fun v => v.cells.toList).toArray el)
            have c' := hf.cx c
            obtain ⟨v, s2, g2, R⟩ := Rs.more (K := K) (x := .slice (some ⟨w.heap.size, 0, none⟩) n n) c' m hk (by
              have := RepP.sl (w := w.alloc (.cells ((ps.toList.map fun q => a.eval q.2).flatMap fun v => v.cells.toList).toArray el)) (B := Lv g (Go.Proofs.Ytneheklmkbhieaa.AW.ovr T s s' σ)) .clip i.size xs w.heap.size 0 n (by decide) (fun _ => hxl.symm) (by omega) hel (fun _ => c'.freshB) (by
                refine cellsP_of ((c'.ext_more m).repPs (repPs_flat hp)) (fun j y hj => ?_)
                rw [Nat.zero_add]
                simp only [World.cell?, m.at]
                simpa using hj)
              rw [hxl] at this
              exact .p _ _ this)
            refine .value (v := .slice (some ⟨w.heap.size, 0, none⟩) n n) (w' := w.alloc (.cells ((ps.toList.map fun q => a.eval q.2).flatMap fun v => v.cells.toList).toArray el)) (by simp [execOp, ho, hrun]) ⟨v, s2, g2, ?_⟩
            have hov := hf.ovr (s'' := s2)
            have r1 := R.rep; have r2 := R.inv; have r3 := R.ext
            rw [hov] at r1 r2 r3
            refine ⟨R.K, by have := R.len; rw [hf.len] at this; exact this, fun id hid hl => ?_, r1, r2, hf.ext.trans r3, fun id hid => ?_⟩
            · rw [R.same id hid (by rw [hf.len]; exact hl), hf.same id hid hl]
            · have := R.new id hid; rw [hf.len] at this; exact this
          · exact hk.elim
        split at h
        · rename_i u xs htag hall
          rcases h with h | h
          · exact old h
          · split at h
            · rename_i hall2 hs1
              rw [snoc_eq] at h
              have hs1 := Nat.le_of_ble_eq_true hs1
              have hel := elOf hall2
              have hp := allP_rep hargs hall
              have hxl : xs.length = n := by rw [hp.len]; simp [hn]
              have hrun := run_bs (P := P) (w := w) (a := a) hu hrange hn hi hzrun hb1 (el_sizes hp hel)
              have m := More.alloc w (.cells ((ps.toList.map fun q => a.eval q.2).flatMap fun v => v.cells.toList).toArray el)
              have hnN : N := hN _ _ h (by simp)
              have hu2 := tagB_eq htag
              have hfl := repPs_flat hp
              have hlen : ((ps.toList.map fun q => a.eval q.2).flatMap fun v => v.cells.toList).length = i.size * xs.length := by
                rw [← hfl.len, flat_len hel]
              have hsh0 : (w.alloc (.cells ((ps.toList.map fun q => a.eval q.2).flatMap fun v => v.cells.toList).toArray el)).shape? w.heap.size = some (el, i.size * xs.length) := by
                simp only [World.shape?, m.at]
                rw [← hlen]; simp
              refine .value (v := .slice (some ⟨w.heap.size, 0, none⟩) n n) (w' := w.alloc (.cells ((ps.toList.map fun q => a.eval q.2).flatMap fun v => v.cells.toList).toArray el)) (by simp [execOp, ho, hrun]) ?_
              refine Rs.new c m (o := .buf i.size xs (some u)) ?_ ?_ h hnN
              · refine .buf _ _ ((ps.toList.map fun q => a.eval q.2).flatMap fun v => v.cells.toList) (by omega) hel (by omega) ?_ ⟨el, (0, 0), by simpa using m.at, .inl rfl⟩ _ (fun u' hu' => by cases hu'; rw [hu2]; exact ⟨_, hsh0⟩)
                rw [← hlen, List.take_of_length_le (Nat.le_refl _)]
                exact (c.ext_new m _ hnN).repPs hfl
              · have := RepA.osl (w := w.alloc (.cells ((ps.toList.map fun q => a.eval q.2).flatMap fun v => v.cells.toList).toArray el)) (g := g.new s.length w.heap.size) (σ := σ.put s.length (.buf i.size xs (some u))) s.length xs.length 0 n
                  (.slice (some ⟨w.heap.size, 0, none⟩) n n) (.inr rfl) ⟨_, _, rfl, fun q => by cases q⟩ (fun sz zs ty q => by simp [St.put] at q; rw [← q.2.1]; omega) (fun sz zs ty q _ => by
                    simp [St.put] at q
                    obtain ⟨rfl, rfl, _⟩ := q
                    refine ⟨by omega, fun q => absurd (.inl rfl) q, fun _ => ⟨_, _, rfl, rfl, Nat.le_refl _, fun _ => ⟨by simp [G.new], ?_⟩⟩⟩
                    exact ⟨el, _, by simpa [G.new] using hsh0, by rw [Nat.zero_add, ← hxl, Nat.mul_comm]; exact Nat.le_refl _⟩)
                have hv : AV.osl s.length xs.length 0 xs.length = AV.osl s.length xs.length 0 n := by rw [hxl]
                rw [hv]; exact this
            · exact h.elim
        · exact old h
      · exact h.elim
    · exact h.elim
  · exact h.elim
end ops
end Go.Proofs.Ytneheklmkbhieaa.AW

namespace Go.Proofs.Ytneheklmkbhieaa.AW
set_option linter.unusedSimpArgs false
set_option linter.unusedVariables false
section ops
variable {P : Program} {o : Oper} {e : Env} {s : Store} {K : AV → Store → Prop} {w : World} {g : G} {σ : St} {a : Act} {T : Nat → Prop} {N : Prop}

theorem madeCells_eq (zc : Array Value) : ∀ n, (madeCells zc (n * zc.size)).toList = (List.replicate n zc.toList).flatten := by
  intro n
  unfold madeCells
  rw [← List.toArray_range, List.map_toArray]
  show (List.range (n * zc.size)).map (fun j => zc[j % zc.size]!) = _
  induction n with
  | zero => simp
  | succ n ih =>
    rw [Nat.succ_mul, List.range_add, List.map_append, ih, List.replicate_succ', List.flatten_append]
    congr 1
    simp only [List.flatten_cons, List.flatten_nil, List.append_nil]
    apply List.ext_getElem
    · simp
    · intro i h1 h2
      simp at h1
      simp only [List.getElem_map, List.getElem_range, Nat.mul_add_mod_self_right, Nat.mod_eq_of_lt h1]
      rw [getElem!_pos zc i h1]
      simp

theorem flat_rep {B : Nat → Prop} {z : PV} {zs : List Value} (h : RepPs w B z.cells zs) : ∀ n, RepPs w B (flat (List.replicate n z)) (List.replicate n zs).flatten
  | 0 => .nil
  | n + 1 => by
    rw [List.replicate_succ, List.replicate_succ, List.flatten_cons]
    show RepPs w B (z.cells ++ flat (List.replicate n z)) _
    exact h.append (flat_rep h n)

theorem ok_makeSlice {t : Nat} {l m : Operand} (ho : o.op = .makeSlice t l m) (h : aop P (.makeSlice t l m) e s K) (hN : ∀ v s', K v s' → s.length < s'.length → N) (c : Cx w g σ s T N) (he : EnvR w g σ e a.tmps) : OpOk P o a w (Rs w g σ s T K) := by
  simp only [aop] at h
  have hl := ev_rep he l
  have hm := ev_rep he m
  split at h
  · rename_i el k1 n k2 n2 hd hel hem
    have hu := und hd (by simp)
    rw [hel] at hl; rw [hem] at hm
    split at h
    · rename_i i z hi hz
      obtain ⟨zv, _, hzr, it, hit, hzv⟩ := zeroT_run (w := w) (g := g) (σ := σ) hz
      rw [hi] at hit; cases hit
      split at h
      · rename_i hb1 hb2
        simp only [Bool.and_eq_true] at hb1
        have hzl := Nat.eq_of_beq_eq_true hb1.1
        have hs1 := Nat.le_of_ble_eq_true hb2
        rw [snoc_eq] at h
        unfold Ob at h
        obtain ⟨⟨h0, hnm, hbb, h63⟩, hk⟩ := h
        subst hnm
        have hrun := run_make (P := P) w t el i zv hu hi hzv k1 k2 n n h0 (Int.le_refl _) (by rw [Int.mul_comm]; omega) (by omega)
        have hzs : zv.cells.size = i.size := by rw [← hzl]; exact zcells hzr
        have m := More.alloc w (.cells (madeCells zv.cells (n.toNat * i.size)) el)
        refine .value (v := .slice (some ⟨w.heap.size, 0, none⟩) n.toNat n.toNat) (w' := w.alloc (.cells (madeCells zv.cells (n.toNat * i.size)) el)) ?_ ?_
        · simp [execOp, ho, hl.inv_int, hm.inv_int, hrun]
        · have hvs : (madeCells zv.cells (n.toNat * i.size)).toList = (List.replicate n.toNat zv.cells.toList).flatten := by
            rw [← hzs]; exact madeCells_eq _ _
          have hfl : RepPs w (Lv g σ) (flat (List.replicate n.toNat z)) (madeCells zv.cells (n.toNat * i.size)).toList := by
            rw [hvs]
            refine flat_rep ?_ _
            have := repPs_flat (RepPs.cons _ _ _ _ hzr.inv_p .nil)
            simpa [flat] using this
          have hlen : (madeCells zv.cells (n.toNat * i.size)).toList.length = i.size * (List.replicate n.toNat z).length := by
            simp [size_madeCells, Nat.mul_comm]
          have hn : N := hN _ _ hk (by simp)
          have hsh0 : (w.alloc (.cells (madeCells zv.cells (n.toNat * i.size)) el)).shape? w.heap.size = some (el, (madeCells zv.cells (n.toNat * i.size)).size) := by
            simp only [World.shape?, m.at]
          refine Rs.new c m (o := .buf i.size (List.replicate n.toNat z) (tagB P el)) ?_ ?_ hk hn
          · refine .buf _ _ (madeCells zv.cells (n.toNat * i.size)).toList (by omega) (fun q hq => ?_) (by omega) ?_ ⟨el, (0, 0), by simpa using m.at, .inl rfl⟩ _ (fun u hu => by rw [tagB_eq hu]; exact ⟨_, hsh0⟩)
            · rw [(List.mem_replicate.1 hq).2]; exact ⟨hzl, hb1.2⟩
            · rw [← hlen, List.take_of_length_le (Nat.le_refl _)]
              exact (c.ext_new m _ hn).repPs hfl
          · have hrl : (List.replicate n.toNat z).length = n.toNat := by simp
            have := RepA.osl (w := w.alloc (.cells (madeCells zv.cells (n.toNat * i.size)) el)) (g := g.new s.length w.heap.size) (σ := σ.put s.length (.buf i.size (List.replicate n.toNat z) (tagB P el))) s.length (List.replicate n.toNat z).length 0 n.toNat
              (.slice (some ⟨w.heap.size, 0, none⟩) n.toNat n.toNat) (.inr rfl) ⟨_, _, rfl, fun q => by cases q⟩ (fun sz zs ty q => by simp [St.put] at q; rw [← q.2.1]; simp) (fun sz zs ty q _ => by
                simp [St.put] at q
                obtain ⟨rfl, rfl, _⟩ := q
                refine ⟨by rw [hrl]; omega, fun q => absurd (.inl rfl) q, fun _ => ⟨_, _, rfl, rfl, Nat.le_refl _, fun _ => ⟨by simp [G.new], ?_⟩⟩⟩
                have hsh : (w.alloc (.cells (madeCells zv.cells (n.toNat * i.size)) el)).shape? w.heap.size = some (el, (madeCells zv.cells (n.toNat * i.size)).size) := by
                  simp only [World.shape?, m.at]
                exact ⟨el, _, by simpa [G.new] using hsh, by rw [size_madeCells, Nat.zero_add]; exact Nat.le_refl _⟩)
            have hv : AV.osl s.length (List.replicate n.toNat z).length 0 (List.replicate n.toNat z).length = AV.osl s.length (List.replicate n.toNat z).length 0 n.toNat := by rw [hrl]
            rw [hv]; exact this
      · exact h.elim
    · exact h.elim
  · exact h.elim

theorem callFunc_enter {f : Nat} {fn : Func} (hf : P.funcs[f]? = some fn) (hn : (fn.name == "runtime.NumGoroutine") = false) (hb : fn.body.isSome = true) (args : Array Value) :
    (callFunc f args).run P w = .ok (.enter f args) w := by
  have hn' : ¬ fn.name = "runtime.NumGoroutine" := by simpa using hn
  have hb' : ¬ fn.body = none := by intro e; simp [e] at hb
  simp [callFunc, hf, hn', hb']

/-- A call, in a store that is known whole. -/
theorem ok_call {f : Nat} {x : Operand} {args : Array Operand} {ts : Array TypeId} {caps : List AV} (ho : o.op = .call ⟨.value x, args, ts⟩) (hx : ev e x = .clos f caps)
    (h : Cal P f (args.toList.map (ev e) ++ caps) s K) (c : Cx w g (getO s) s (fun _ => True) N) (hG : Gk P w g (getO s)) (hfresh : ∀ id, g.C id → id < s.length) (he : EnvR w g (getO s) e a.tmps) : OpOk P o a w (Rs w g (getO s) s (fun _ => True) K) := by
  unfold Cal at h
  have hxr := ev_rep he x
  rw [hx] at hxr
  obtain ⟨ys, hp, hr⟩ := hxr.inv_clos
  have hargs := (evs_rep (w := w) (g := g) (σ := getO s) he args.toList).append hr
  have hc := h w g _ c.inv hG hfresh hargs
  have heq : (execOp a.eval o).run P w = (callFunc f (args.toList.map a.eval ++ ys).toArray).run P w := by
    simp only [execOp, ho, resolve, Sem.run_bind, hp, Deferred.ofValue, Sem.run_pure, Result.andThen_ok, invoke]
    congr 2
    simp
  have fin : ∀ v' w', CalPost w g s K (.returned v') w' → Rs w g (getO s) s (fun _ => True) K v' w' := by
    intro v' w' hpost
    obtain ⟨r, v, s', g', hv, hk, hl, hrep, hinv, hext, hC⟩ := hpost
    cases hv
    have hov : ovr (fun _ => True) s s' (getO s) = getO s' := by funext i; simp [ovr]
    exact ⟨r, s', g', hk, hl, fun id hid => absurd trivial hid, by rw [hov]; exact hrep, by rw [hov]; exact hinv, by rw [hov]; exact hext, hC⟩
  rcases hc with ⟨⟨fn, hf, hn, hb⟩, hc⟩ | ⟨v, w', hrun, hpost⟩
  · have hrun : (execOp a.eval o).run P w = .ok (.enter f (args.toList.map a.eval ++ ys).toArray) w := by
      rw [heq]; exact callFunc_enter (w := w) hf hn hb (args.toList.map a.eval ++ ys).toArray
    unfold OpOk
    rw [hrun]
    refine Calls.mono hc fun e' w' hpost => ?_
    have hpost' := hpost
    obtain ⟨r, v, s', g', rfl, _⟩ := hpost'
    exact fin _ _ hpost
  · exact .value (by rw [heq]; exact hrun) (fin _ _ hpost)
end ops
end Go.Proofs.Ytneheklmkbhieaa.AW

namespace Go.Proofs.Ytneheklmkbhieaa.AW
set_option linter.unusedSimpArgs false
set_option linter.unusedVariables false
variable {P : Program}

theorem map_ev {e e' : Env} {xs : List Operand} (h : ∀ x, x ∈ xs → ev e x = ev e' x) : xs.map (ev e) = xs.map (ev e') := List.map_congr_left h

theorem bnd_congr {e e' : Env} {x : Option Operand} (h : ∀ y, x = some y → ev e y = ev e' y) (d : Int) (K : Int → Prop) : bnd e x d K = bnd e' x d K := by
  cases x with
  | none => rfl
  | some y => simp only [bnd, h y rfl]

theorem aop_congr {op : Op} {e e' : Env} (h : ∀ x, x ∈ op.operands.toList → ev e x = ev e' x) (s : Store) (K : AV → Store → Prop) : aop P op e s K = aop P op e' s K := by
  cases op
  case move x => simp only [aop, h x (by simp [Op.operands])]
  case assign x => simp only [aop, h x (by simp [Op.operands])]
  case pick x y z => simp only [aop, h x (by simp [Op.operands]), h y (by simp [Op.operands]), h z (by simp [Op.operands])]
  case box t x => simp only [aop, h x (by simp [Op.operands])]
  case load t x => simp only [aop, h x (by simp [Op.operands])]
  case nilCheck x => simp only [aop, h x (by simp [Op.operands])]
  case unOp o t x => simp only [aop, h x (by simp [Op.operands])]
  case convert a b x => simp only [aop, h x (by simp [Op.operands])]
  case makeInterface t x => simp only [aop, h x (by simp [Op.operands])]
  case fieldAddr t x f => simp only [aop, h x (by simp [Op.operands])]
  case field t x f => simp only [aop, h x (by simp [Op.operands])]
  case range t x => simp only [aop, h x (by simp [Op.operands])]
  case next x b => simp only [aop, h x (by simp [Op.operands])]
  case lookup t x y ok => simp only [aop, h x (by simp [Op.operands]), h y (by simp [Op.operands])]
  case mapUpdate t x y z => simp only [aop, h x (by simp [Op.operands]), h y (by simp [Op.operands]), h z (by simp [Op.operands])]
  case typeAssert x a b c => simp only [aop, h x (by simp [Op.operands])]
  case entry x => simp only [aop, h x (by simp [Op.operands])]
  case extract x i => simp only [aop, h x (by simp [Op.operands])]
  case store t x y => simp only [aop, h x (by simp [Op.operands]), h y (by simp [Op.operands])]
  case binOp a t x y u => simp only [aop, h x (by simp [Op.operands]), h y (by simp [Op.operands])]
  case makeSlice t x y => simp only [aop, h x (by simp [Op.operands]), h y (by simp [Op.operands])]
  case indexAddr t x y => simp only [aop, h x (by simp [Op.operands]), h y (by simp [Op.operands])]
  case index t x y => simp only [aop, h x (by simp [Op.operands]), h y (by simp [Op.operands])]
  case build t ps =>
    have : (ps.toList.map fun q => (q.1, ev e q.2)) = ps.toList.map fun q => (q.1, ev e' q.2) := List.map_congr_left fun q hq => by
      rw [h q.2 (by simp only [Op.operands]; exact List.mem_map_of_mem (f := fun q : Nat × Operand => q.2) hq)]
    simp only [aop, this]
  case buildSlice t n ps =>
    have : (ps.toList.map fun q => ev e q.2) = ps.toList.map fun q => ev e' q.2 := List.map_congr_left fun q hq => by
      rw [h q.2 (by simp only [Op.operands]; exact List.mem_map_of_mem (f := fun q : Nat × Operand => q.2) hq)]
    simp only [aop, this]
  case makeFunc f first caps =>
    have : caps.toList.map (ev e) = caps.toList.map (ev e') := map_ev fun x hx => h x (by simp only [Op.operands, Array.toList_append]; exact List.mem_append_right _ hx)
    cases f <;> simp only [aop, this]
  case slice t x lo hi mx =>
    have hx := h x (by simp [Op.operands])
    have hlo := fun d K => bnd_congr (e := e) (e' := e') (x := lo) (fun y hy => h y (by subst hy; simp [Op.operands])) d K
    have hhi := fun d K => bnd_congr (e := e) (e' := e') (x := hi) (fun y hy => h y (by subst hy; simp [Op.operands])) d K
    have hmx := fun d K => bnd_congr (e := e) (e' := e') (x := mx) (fun y hy => h y (by subst hy; simp [Op.operands])) d K
    simp only [aop, sliceA, hx, hlo, hhi]
    cases mx with
    | none => cases hi <;> rfl
    | some m => cases hi <;> first | rfl | simp only [hmx]
  case call c =>
    obtain ⟨callee, args, ts⟩ := c
    have ha : args.toList.map (ev e) = args.toList.map (ev e') := map_ev fun x hx => h x (by simp only [Op.operands, Call.operands, Array.toList_append]; exact List.mem_append_right _ hx)
    cases callee with
    | builtin b => simp only [aop, callA, ha]
    | value f => simp only [aop, callA, ha, h f (by simp [Op.operands, Call.operands])]
    | invoke r n => simp only [aop, callA]
  all_goals rfl

theorem footT_congr {op : Op} {e e' : Env} (h : ∀ x, x ∈ op.operands.toList → ev e x = ev e' x) : footT e op = footT e' op := by
  cases op
  case load t x => simp only [footT, h x (by simp [Op.operands])]
  case convert a b x => simp only [footT, h x (by simp [Op.operands])]
  case makeInterface a x => simp only [footT, h x (by simp [Op.operands])]
  case indexAddr t x y => simp only [footT, h x (by simp [Op.operands])]
  case slice t x lo hi mx => simp only [footT, h x (by simp [Op.operands])]
  case store t x y => simp only [footT, h x (by simp [Op.operands])]
  case next x b => simp only [footT, h x (by simp [Op.operands])]
  case range t x => simp only [footT, h x (by simp [Op.operands])]
  case lookup t x y ok => simp only [footT, h x (by simp [Op.operands])]
  case mapUpdate t x y z => simp only [footT, h x (by simp [Op.operands]), h z (by simp [Op.operands])]
  case buildSlice t n ps =>
    have : (ps.toList.map fun q => ev e q.2) = ps.toList.map fun q => ev e' q.2 := List.map_congr_left fun q hq => by
      rw [h q.2 (by simp only [Op.operands]; exact List.mem_map_of_mem (f := fun q : Nat × Operand => q.2) hq)]
    have h2 : ∀ e : Env, (ps.toList.flatMap fun q => ids (ev e q.2)) = (ps.toList.map fun q => ev e q.2).flatMap ids := fun e => by rw [List.flatMap_map]
    simp only [footT, h2, this]
  case call c =>
    have ha : c.args.toList.map (ev e) = c.args.toList.map (ev e') := map_ev fun x hx => h x (by simp only [Op.operands, Call.operands, Array.toList_append]; exact List.mem_append_right _ hx)
    have h2 : ∀ e : Env, (c.args.toList.flatMap fun q => ids (ev e q)) = (c.args.toList.map (ev e)).flatMap ids := fun e => by rw [List.flatMap_map]
    simp only [footT, h2, ha]
  all_goals rfl

/-! ### What an operation leaves -/
def Same (f : List Nat) (s s' : Store) : Prop := s.length ≤ s'.length ∧ ∀ id, ¬ id ∈ f → id < s.length → getO s' id = getO s id

theorem Same.refl (f : List Nat) (s : Store) : Same f s s := ⟨Nat.le_refl _, fun _ _ _ => rfl⟩
theorem Same.snoc (f : List Nat) (s : Store) (o : AObj) : Same f s (s ++ [some o]) := ⟨by simp, fun id _ h => by rw [getO_snoc, if_neg (by omega)]⟩
theorem Same.set {f : List Nat} {s : Store} {id : Nat} (o : Option AObj) (h : id ∈ f) : Same f s (s.set id o) := ⟨by simp, fun i hi hlt => by
  unfold getO; rw [List.getElem?_set_ne (fun e => hi (by rw [← e]; exact h))]⟩
theorem Same.trans {f : List Nat} {s s' s'' : Store} (h : Same f s s') (k : Same f s' s'') : Same f s s'' :=
  ⟨Nat.le_trans h.1 k.1, fun id h1 h2 => (k.2 id h1 (Nat.lt_of_lt_of_le h2 h.1)).trans (h.2 id h1 h2)⟩

theorem cellsP_same {f : List Nat} : ∀ {cs : List AV} {s : Store} {K : List PV → Store → Prop}, toP.cellsP s cs K → (∀ v, v ∈ cs → ∀ id, id ∈ ids1 v → id ∈ f) → ∃ ps s', K ps s' ∧ Same f s s'
  | [], s, K, h, _ => ⟨[], s, h, .refl _ _⟩
  | v :: r, s, K, h, hf => by
    unfold toP.cellsP at h
    split at h
    · rename_i hc; cases hc
    · rename_i x r' hc; cases hc
      obtain ⟨ps, s', h1, h2⟩ := cellsP_same h (fun v hv => hf v (List.mem_cons_of_mem _ hv))
      exact ⟨_, s', h1, h2⟩
    · rename_i id tot off len r' hc; cases hc
      split at h
      · rw [killK_eq] at h
        unfold Ob at h
        obtain ⟨ps, s', h1, h2⟩ := cellsP_same h.2 (fun v hv => hf v (List.mem_cons_of_mem _ hv))
        exact ⟨_, s', h1, (Same.set none (hf (.osl id tot off len) (by simp) id (by simp [ids1]))).trans h2⟩
      · exact h.elim
    · exact h.elim

theorem toP_same {f : List Nat} {v : AV} {s : Store} {K : PV → Store → Prop} (h : toP s v K) (hf : ∀ id, id ∈ ids v → id ∈ f) : ∃ p s', K p s' ∧ Same f s s' := by
  unfold toP at h
  split at h
  · exact ⟨_, s, h, .refl _ _⟩
  · split at h
    · rw [killK_eq] at h; unfold Ob at h
      exact ⟨_, _, h.2, .set none (hf _ (by simp [ids, ids1]))⟩
    · exact h.elim
  · split at h
    · split at h
      · rw [killK_eq] at h
        exact ⟨_, _, h, .set none (hf _ (by simp [ids, ids1]))⟩
      · exact h.elim
    · exact h.elim
  · obtain ⟨ps, s', h1, h2⟩ := cellsP_same h (fun v hv id hid => hf id (by simp only [ids]; exact List.mem_flatMap.2 ⟨v, hv, hid⟩))
    exact ⟨_, s', h1, h2⟩
  · split at h
    · split at h
      · rw [killK_eq] at h
        exact ⟨_, _, h, .set none (hf _ (by simp [ids, ids1]))⟩
      · exact h.elim
    · exact h.elim
  · exact h.elim

theorem partsP_same {f : List Nat} : ∀ {vs : List AV} {s : Store} {K : List PV → Store → Prop}, partsP s vs K → (∀ v, v ∈ vs → ∀ id, id ∈ ids v → id ∈ f) → ∃ ps s', K ps s' ∧ Same f s s'
  | [], s, K, h, _ => ⟨[], s, h, .refl _ _⟩
  | v :: r, s, K, h, hf => by
    unfold partsP at h
    obtain ⟨p, s1, h1, h2⟩ := toP_same h (hf v (by simp))
    obtain ⟨ps, s2, h3, h4⟩ := partsP_same h1 (fun v hv => hf v (List.mem_cons_of_mem _ hv))
    exact ⟨_, s2, h3, h2.trans h4⟩

theorem appA_same {f : List Nat} {t : Nat} {x : AV} {ysz : Nat} {ys : List PV} {s : Store} {K : AV → Store → Prop} (h : appA P t x ysz ys s K) (hf : ∀ id, id ∈ ids x → id ∈ f) : ∃ v s', K v s' ∧ Same f s s' := by
  unfold appA at h
  repeat' split at h
  all_goals first
    | exact h.elim
    | skip
  all_goals try simp only [snoc_eq, setK_eq] at h
  all_goals first
    | (unfold Ob at h; exact ⟨_, _, h.2, .refl _ _⟩)
    | (unfold Ob at h; exact ⟨_, _, h.2, .set _ (hf _ (by simp [ids, ids1]))⟩)
    | (unfold BrL Ob at h
       by_cases hy : ys = []
       · exact ⟨_, _, h.1 hy, .refl _ _⟩
       · exact ⟨_, _, (h.2 hy).2, .snoc _ _ _⟩)

theorem aop_same {op : Op} {e : Env} {s : Store} {K : AV → Store → Prop} (h : aop P op e s K) (hs : stays op = false) (hnv : ∀ f args ts, op ≠ .call ⟨.value f, args, ts⟩) (hnm : offDraw op = false) : ∃ v s', K v s' ∧ Same (footT e op) s s' := by
  cases op
  case makeMap t r =>
    simp only [aop, snoc_eq] at h
    split at h
    · exact ⟨_, _, h, .snoc _ _ _⟩
    · exact h.elim
  case mapUpdate t x y z =>
    simp only [aop, mapUpdateA] at h
    split at h
    · rename_i hx _
      obtain ⟨p, s1, hq, h2⟩ := toP_same (f := footT e (.mapUpdate t x y z)) h (fun id hid => by simp only [footT]; exact List.mem_append_right _ hid)
      split at hq
      · split at hq
        · rw [setK_eq] at hq
          exact ⟨_, _, hq, h2.trans (.set _ (by simp only [footT, hx]; simp [ids, ids1]))⟩
        · exact hq.elim
      · exact hq.elim
    · exact h.elim
  case store t x y =>
    simp only [aop, storeA] at h
    split at h
    · exact h.elim
    · split at h
      · rename_i hx
        split at h
        · rw [setK_eq] at h
          unfold Ob at h
          exact ⟨_, _, h.2, .set _ (by simp only [footT, hx]; simp [ids, ids1])⟩
        · exact h.elim
      · rename_i hx
        split at h
        · split at h
          · rw [setK_eq] at h
            unfold Ob at h
            exact ⟨_, _, h.2, .set _ (by simp only [footT, hx]; simp [ids, ids1])⟩
          · exact h.elim
        · exact h.elim
      · exact h.elim
  case next x b =>
    simp only [aop] at h
    split at h
    · rename_i hx
      split at h
      · rw [setK_eq] at h
        unfold BrL at h
        by_cases hy : ‹List UInt8› = []
        · exact ⟨_, _, h.1 hy, .refl _ _⟩
        · exact ⟨_, _, h.2 hy, .set _ (by simp only [footT, hx]; simp [ids, ids1])⟩
      · exact h.elim
    · simp [offDraw] at hnm
    · exact h.elim
  case entry x => simp [offDraw] at hnm
  case alloc t =>
    simp only [aop, snoc_eq] at h
    split at h
    · split at h
      · rcases h with h | h
        · exact ⟨_, _, h, .snoc _ _ _⟩
        · exact ⟨_, _, h, .snoc _ _ _⟩
      · exact ⟨_, _, h, .snoc _ _ _⟩
    · exact h.elim
  case box t x =>
    simp only [aop, snoc_eq] at h
    split at h
    · exact ⟨_, _, h, .snoc _ _ _⟩
    · exact h.elim
  case makeSlice t x y =>
    simp only [aop, snoc_eq] at h
    repeat' split at h
    all_goals first
      | exact h.elim
      | skip
    unfold Ob at h
    exact ⟨_, _, h.2, .snoc _ _ _⟩
  case range t x =>
    simp only [aop, snoc_eq] at h
    split at h
    · exact ⟨_, _, h, .snoc _ _ _⟩
    · split at h
      · exact ⟨_, _, h, .snoc _ _ _⟩
      · exact h.elim
    · exact h.elim
  case buildSlice t n ps =>
    simp only [aop] at h
    have old : ∀ {sz : Nat}, (partsP s (ps.toList.map fun q => ev e q.2) fun xs s' => (match xs.all (fun x => Nat.beq x.cells.length sz && x.cells.all PV.one) with
        | true => K (.p (.sl .clip sz xs)) s'
        | false => False)) → ∃ v s', K v s' ∧ Same (footT e (.buildSlice t n ps)) s s' := by
      intro sz h
      obtain ⟨xs, s', h1, h2⟩ := partsP_same (f := footT e (.buildSlice t n ps)) h (fun v hv id hid => by
        obtain ⟨q, hq, rfl⟩ := List.mem_map.1 hv
        simp only [footT]; exact List.mem_flatMap.2 ⟨q, hq, hid⟩)
      split at h1
      · exact ⟨_, _, h1, h2⟩
      · exact h1.elim
    split at h
    · split at h
      · split at h
        · split at h
          · rcases h with h | h
            · exact old h
            · split at h
              · rw [snoc_eq] at h; exact ⟨_, _, h, .snoc _ _ _⟩
              · exact h.elim
          · exact old h
        · exact h.elim
      · exact h.elim
    · exact h.elim
  case call c =>
    obtain ⟨callee, args, ts⟩ := c
    cases callee with
    | value f => exact absurd rfl (hnv f args ts)
    | invoke r n => simp only [aop, callA] at h
    | builtin b =>
      have hb : b = .append ∨ b = .unsafeString ∨ b = .delete := by cases b <;> first | exact .inl rfl | exact .inr (.inl rfl) | exact .inr (.inr rfl) | (simp [stays] at hs)
      rcases hb with rfl | rfl | rfl
      rotate_left 1
      rotate_left 1
      · simp only [aop, callA, builtinA] at h
        generalize hts : ts.toList = tl at h
        generalize has : args.toList.map (ev e) = al at h
        have hfoot : ∀ {v : AV}, v ∈ al → ∀ id, id ∈ ids v → id ∈ footT e (.call ⟨.builtin .delete, args, ts⟩) := fun {v} hv id hid => by
          rw [← has] at hv
          obtain ⟨x, hx, rfl⟩ := List.mem_map.1 hv
          simp only [footT]; exact List.mem_flatMap.2 ⟨x, hx, hid⟩
        split at h
        all_goals first
          | contradiction
          | skip
        · unfold deleteA at h
          split at h
          · split at h
            · split at h
              · rw [setK_eq] at h
                exact ⟨_, _, h, .set _ (hfoot List.mem_cons_self _ (by simp [ids, ids1]))⟩
              · exact h.elim
            · exact h.elim
          · exact h.elim
      rotate_left 1
      · simp only [aop, callA, builtinA] at h
        generalize hts : ts.toList = tl at h
        generalize has : args.toList.map (ev e) = al at h
        have hfoot : ∀ {v : AV}, v ∈ al → ∀ id, id ∈ ids v → id ∈ footT e (.call ⟨.builtin .unsafeString, args, ts⟩) := fun {v} hv id hid => by
          rw [← has] at hv
          obtain ⟨x, hx, rfl⟩ := List.mem_map.1 hv
          simp only [footT]; exact List.mem_flatMap.2 ⟨x, hx, hid⟩
        split at h
        all_goals first
          | contradiction
          | skip
        · split at h
          · unfold Ob at h
            exact ⟨_, _, h.2, .refl _ _⟩
          · split at h
            · split at h
              · unfold Ob at h
                obtain ⟨_, l, _, h⟩ := h
                rw [killK_eq] at h
                refine ⟨_, _, h, .set _ (hfoot List.mem_cons_self _ ?_)⟩
                simp [ids, ids1]
              · exact h.elim
            · exact h.elim
          · exact h.elim
      simp only [aop, callA, builtinA] at h
      generalize hts : ts.toList = tl at h
      generalize has : args.toList.map (ev e) = al at h
      have hfoot : ∀ {v : AV}, v ∈ al → ∀ id, id ∈ ids v → id ∈ footT e (.call ⟨.builtin .append, args, ts⟩) := fun {v} hv id hid => by
        rw [← has] at hv
        obtain ⟨x, hx, rfl⟩ := List.mem_map.1 hv
        simp only [footT]; exact List.mem_flatMap.2 ⟨x, hx, hid⟩
      repeat' split at h
      all_goals first
        | exact h.elim
        | contradiction
        | exact appA_same h (hfoot (by simp))
        | skip
      · rw [snoc_eq] at h
        unfold Ob at h
        exact ⟨_, _, h.2, .snoc _ _ _⟩
      unfold elems at h
      repeat' split at h
      all_goals first
        | exact h.elim
        | exact appA_same h (hfoot (by simp))
        | (unfold Ob at h; exact appA_same h.2 (hfoot (by simp)))
  all_goals (simp [stays] at hs)
end Go.Proofs.Ytneheklmkbhieaa.AW

namespace Go.Proofs.Ytneheklmkbhieaa.AW
set_option linter.unusedSimpArgs false
set_option linter.unusedVariables false
variable {P : Program}

theorem aop_local {o : Oper} {e : Env} {s : Store} {K : AV → Store → Prop} {w : World} {g : G} {σ : St} {a : Act} {T : Nat → Prop} {N : Prop} (h : aop P o.op e s K) (hnv : ∀ f args ts, o.op ≠ .call ⟨.value f, args, ts⟩) (hnm : offDraw o.op = false)
    (hN : ∀ v s', K v s' → s.length < s'.length → N) (c : Cx w g σ s T N) (hG : Gk P w g σ) (hT : ∀ id, id ∈ footT e o.op → T id) (he : EnvR w g σ e a.tmps) : OpOk P o a w (Rs w g σ s T K) := by
  generalize hop : o.op = op at h
  rw [hop] at hT hnv hnm
  cases op
  case move => exact ok_move (.inl hop) (by simpa [aop] using h) c he
  case assign => exact ok_move (.inr hop) (by simpa [aop] using h) c he
  case pick => exact ok_pick hop h c he
  case alloc => exact ok_alloc hop h hN c
  case box => exact ok_box hop h hN c he
  case build => exact ok_build hop h c he
  case buildSlice => exact ok_buildSlice hop h hN c (fun q hq id hid => hT id (by simp only [footT]; exact List.mem_flatMap.2 ⟨q, hq, hid⟩)) he
  case load => exact ok_load hop h c (fun id hid => hT id hid) he
  case store => exact ok_store hop h c (fun id hid => hT id hid) he
  case nilCheck => exact ok_nilCheck hop h c he
  case binOp => exact ok_binOp hop h c he
  case unOp => exact ok_unOp hop h c he
  case convert => exact ok_convert hop h c (fun id hid => hT id hid) he
  case makeInterface => exact ok_makeInterface hop h c (fun id hid => hT id hid) he
  case makeFunc => exact ok_makeFunc hop h c he
  case makeSlice => exact ok_makeSlice hop h hN c he
  case slice => exact ok_slice hop h c (fun id hid => hT id hid) he
  case fieldAddr => exact ok_fieldAddr hop h c he
  case field => exact ok_field hop h c he
  case indexAddr => exact ok_indexAddr hop h c hG (fun id hid => hT id hid) he
  case index => exact ok_index hop h c he
  case range => exact ok_range hop h hN c (fun id hid => hT id hid) he
  case makeMap => exact ok_makeMap hop h hN c
  case lookup => exact ok_lookup hop h c (fun id hid => hT id hid) he
  case mapUpdate => exact ok_mapUpdate hop h c (fun id hid => hT id hid) he
  case next x isS => exact ok_next hop h c (fun id hid => hT id hid) (fun _ _ _ _ hf _ _ => by subst hf; simp [offDraw] at hnm) he
  case entry x => simp [offDraw] at hnm
  case typeAssert => exact ok_typeAssert hop h c he
  case extract => exact ok_extract hop h c he
  case call cl =>
    obtain ⟨callee, args, ts⟩ := cl
    simp only [aop, callA] at h
    cases callee with
    | builtin b => exact ok_builtin hop h hN c (fun x hx id hid => hT id (by simp only [footT]; exact List.mem_flatMap.2 ⟨x, hx, hid⟩)) he
    | value f => exact absurd rfl (hnv f args ts)
    | invoke r n => exact h.elim
  all_goals (simp only [aop] at h)

/-! ### The steps in the order of the text -/
structure Step where
  o : Oper
  v : AV
  e0 : Env
  s0 : Store
  s1 : Store
  f : Foot

def StepSem (P : Program) (x : Step) : Prop := dop P x.o x.e0 x.s0 fun v s' f => v = x.v ∧ s' = x.s1 ∧ f = x.f

def Does (P : Program) (n : Nat) (ops : Array Oper) (x : Step) : Prop := match x.o.guard with
  | none => StepSem P x
  | some (j, want) => ∃ t b, (ops[j]?).bind (·.dst) = some t ∧ t < n ∧ x.e0 t = .p (.bool b) ∧
      ((b == want) = true ∧ StepSem P x ∨ (b == want) = false ∧ x.v = .undef ∧ x.s1 = x.s0 ∧ x.f = ⟨[], false, x.s0.length, x.s0.length, false⟩)

theorem dop_elim {o : Oper} {e : Env} {s : Store} {K : AV → Store → Foot → Prop} (h : dop P o e s K) : ∃ v s' f, dop P o e s (fun v' s'' f' => v' = v ∧ s'' = s' ∧ f' = f) ∧ K v s' f := by
  unfold dop at h ⊢
  split at h
  · split at h
    · split at h
      · obtain ⟨v0, h1, h2, h3⟩ := h
        exact ⟨v0, _, _, ⟨v0, h1, h2, rfl, rfl, rfl⟩, h3⟩
      · obtain ⟨v0, s0, h1, h2, h3⟩ := h
        exact ⟨v0, _, _, ⟨v0, s0, h1, h2, rfl, rfl, rfl⟩, h3⟩
    · exact h.elim
  · exact h.elim
  · exact h.elim
  · split at h
    · obtain ⟨v0, h1, h3⟩ := h
      exact ⟨v0, _, _, ⟨v0, h1, rfl, rfl, rfl⟩, h3⟩
    · obtain ⟨v0, s0, h1, h2, h3⟩ := h
      exact ⟨v0, _, _, ⟨v0, s0, h1, h2, rfl, rfl, rfl⟩, h3⟩

def Chain (n : Nat) : List Step → Env → Store → Env → Store → Prop
  | [], e, s, e', s' => e = e' ∧ s = s'
  | x :: r, e, s, e', s' => x.e0 = e ∧ x.s0 = s ∧ (∀ t, x.o.dst = some t → t < n) ∧ Chain n r (put e x.o.dst x.v) x.s1 e' s'

theorem putK_put {n : Nat} {e : Env} {dst : Option Nat} {v : AV} {K : Env → Prop} (h : putK n e dst v K) : (∀ t, dst = some t → t < n) ∧ K (put e dst v) := by
  unfold putK at h
  split at h
  · exact ⟨(fun _ h => nomatch h), h⟩
  · split at h
    · rename_i hb
      refine ⟨fun t ht => ?_, h⟩
      cases ht
      have : (_ + 1).ble n = true := hb
      exact Nat.le_of_ble_eq_true this
    · exact h.elim

theorem adops_trace {n : Nat} {ops : Array Oper} {K : Env → Store → Prop} : ∀ {l : List Oper} {tr : List (Oper × Foot)} {e : Env} {s : Store}, adops P n ops l tr K e s →
    ∃ xs e' s', xs.map (·.o) = l ∧ Chain n xs e s e' s' ∧ (∀ x, x ∈ xs → Does P n ops x) ∧ chkAll ops ops.size [] (tr ++ xs.map fun x => (x.o, x.f)) = true ∧ K e' s' := by
  intro l
  induction l with
  | nil =>
    intro tr e s h
    rw [adops_nil] at h
    unfold Chk at h
    obtain ⟨hb, h⟩ := h
    simp only [Bool.and_eq_true] at hb
    exact ⟨[], e, s, rfl, ⟨rfl, rfl⟩, (fun x hx => nomatch hx), by simpa using hb.1, h⟩
  | cons o rest ih =>
    intro tr e s h
    have go : ∀ (x : Step), x.o = o → x.e0 = e → x.s0 = s → Does P n ops x → (putK n e o.dst x.v fun e' => adops P n ops rest (tr ++ [(o, x.f)]) K e' x.s1) →
        ∃ xs e' s', xs.map (·.o) = o :: rest ∧ Chain n xs e s e' s' ∧ (∀ x, x ∈ xs → Does P n ops x) ∧ chkAll ops ops.size [] (tr ++ xs.map fun x => (x.o, x.f)) = true ∧ K e' s' := by
      intro x h1 h2 h3 h4 h5
      obtain ⟨h6, h7⟩ := putK_put h5
      obtain ⟨xs, e', s', k1, k2, k3, k4, k5⟩ := ih h7
      refine ⟨x :: xs, e', s', by simp [h1, k1], ⟨h2, h3, by rw [h1]; exact h6, by rw [h1]; exact k2⟩, fun y hy => ?_, by simpa [h1] using k4, k5⟩
      rcases List.mem_cons.1 hy with rfl | hy
      · exact h4
      · exact k3 y hy
    rw [adops_cons] at h
    split at h
    · rename_i hg
      obtain ⟨v, s', f, h1, h2⟩ := dop_elim h
      exact go ⟨o, v, e, s, s', f⟩ rfl rfl rfl (by unfold Does; rw [hg]; exact h1) h2
    · rename_i j want hg
      split at h
      · rename_i t ht
        split at h
        · rename_i b hlt hev
          have hlt : t < n := by
            have : (t + 1).ble n = true := hlt
            exact Nat.le_of_ble_eq_true this
          unfold Br at h
          cases hb : (b == want) with
          | true =>
            obtain ⟨v, s', f, h1, h2⟩ := dop_elim (h.1 hb)
            exact go ⟨o, v, e, s, s', f⟩ rfl rfl rfl (by unfold Does; rw [hg]; exact ⟨t, b, ht, hlt, hev, .inl ⟨hb, h1⟩⟩) h2
          | false =>
            exact go ⟨o, .undef, e, s, s, ⟨[], false, s.length, s.length, false⟩⟩ rfl rfl rfl (by unfold Does; rw [hg]; exact ⟨t, b, ht, hlt, hev, .inr ⟨hb, rfl, rfl, rfl⟩⟩) (h.2 hb)
        · exact h.elim
      · exact h.elim

/-! ### What a step touches -/
def isWr (x : Step) (id : Nat) : Bool := x.f.all || memB id x.f.write

theorem memB_iff {x : Nat} : ∀ {l : List Nat}, memB x l = true ↔ x ∈ l
  | [] => by simp [memB]
  | y :: r => by
    simp only [memB, Bool.or_eq_true, memB_iff (l := r), List.mem_cons]
    exact ⟨fun h => h.imp (fun h => Nat.eq_of_beq_eq_true h) id, fun h => h.imp (fun h => by subst h; simp) id⟩

theorem mem_news {f : Foot} {id : Nat} : id ∈ f.news ↔ f.n0 ≤ id ∧ id < f.n1 := by
  unfold Foot.news
  simp only [List.mem_map, List.mem_range]
  exact ⟨fun ⟨k, h1, h2⟩ => by omega, fun ⟨h1, h2⟩ => ⟨id - f.n0, by omega, by omega⟩⟩

/-- What is known of a step's stores. -/
structure Fine (x : Step) : Prop where
  len : x.s0.length ≤ x.s1.length
  n0 : x.f.n0 = x.s0.length
  n1 : x.f.n1 = x.s1.length
  same : ∀ id, isWr x id = false → getO x.s1 id = getO x.s0 id

theorem mem_write {f : Foot} {id : Nat} : id ∈ f.write ↔ (f.wr = true ∧ id ∈ f.t) ∨ id ∈ f.news := by
  unfold Foot.write
  cases f.wr <;> simp

theorem isWr_iff {x : Step} {id : Nat} : isWr x id = true ↔ x.f.all = true ∨ (x.f.wr = true ∧ id ∈ x.f.t) ∨ id ∈ x.f.news := by
  unfold isWr
  rw [Bool.or_eq_true, memB_iff, mem_write]

theorem notNext {o : Oper} (hop : offDraw o.op = true) {e : Env} {s : Store} {K : AV → Store → Foot → Prop} (h : dop P o e s K) : False := by
  unfold dop at h
  unfold offDraw at hop
  split at hop
  · rename_i q; rw [q] at h; exact h
  · rename_i q; rw [q] at h; exact h
  · cases hop
theorem notCall {o : Oper} (h : ∀ f args ts, o.op ≠ .call ⟨.value f, args, ts⟩) (hm : offDraw o.op = false) {e : Env} {s : Store} {K : AV → Store → Foot → Prop} : dop P o e s K = (match stays o.op with
    | true => ∃ v0, aop P o.op e s (fun v s' => v = v0 ∧ s' = s) ∧ K v0 s ⟨footT e o.op, false, s.length, s.length, false⟩
    | false => ∃ v0 s0, aop P o.op e s (fun v s' => v = v0 ∧ s' = s0) ∧ Nat.ble s.length s0.length = true ∧ K v0 s0 ⟨footT e o.op, true, s.length, s0.length, false⟩) := by
  unfold dop
  split
  · rename_i hop; exact absurd hop (h _ _ _)
  · rename_i hop; rw [hop] at hm; simp [offDraw] at hm
  · rename_i hop; rw [hop] at hm; simp [offDraw] at hm
  · rfl

theorem StepSem.fine {x : Step} (h : StepSem P x) : Fine x := by
  unfold StepSem at h
  by_cases hc : ∃ f args ts, x.o.op = .call ⟨.value f, args, ts⟩
  · obtain ⟨f, args, ts, hop⟩ := hc
    unfold dop at h
    rw [hop] at h
    simp only [] at h
    split at h
    · split at h
      · obtain ⟨v0, _, _, _, h1, h2⟩ := h
        exact ⟨by rw [← h1]; exact Nat.le_refl _, by rw [← h2], by rw [← h2, ← h1], fun id _ => by rw [← h1]⟩
      · obtain ⟨v0, s0, _, hle, _, h1, h2⟩ := h
        subst h1
        exact ⟨Nat.le_of_ble_eq_true hle, by rw [← h2], by rw [← h2], fun id hid => by
          have : isWr x id = true := isWr_iff.2 (.inl (by rw [← h2]))
          rw [this] at hid; cases hid⟩
    · exact h.elim
  · have hnv : ∀ f args ts, x.o.op ≠ .call ⟨.value f, args, ts⟩ := fun f args ts e => hc ⟨f, args, ts, e⟩
    by_cases hnx : offDraw x.o.op = true
    · exact (notNext hnx h).elim
    have hnm : offDraw x.o.op = false := by simpa using hnx
    rw [notCall hnv hnm] at h
    split at h
    · obtain ⟨v0, _, _, h1, h2⟩ := h
      exact ⟨by rw [← h1]; exact Nat.le_refl _, by rw [← h2], by rw [← h2, ← h1], fun id _ => by rw [← h1]⟩
    · rename_i hst
      obtain ⟨v0, s0, ha, hle, _, h1, h2⟩ := h
      subst h1
      obtain ⟨v, s', ⟨_, rfl⟩, hsame⟩ := aop_same ha hst hnv hnm
      refine ⟨hsame.1, by rw [← h2], by rw [← h2], fun id hid => ?_⟩
      have hnot : ¬ isWr x id = true := by simp [hid]
      rw [isWr_iff] at hnot
      have h3 : ¬ id ∈ x.f.news := fun hx => hnot (.inr (.inr hx))
      have h4 : ¬ id ∈ x.f.t := fun hx => hnot (.inr (.inl ⟨by rw [← h2], hx⟩))
      rw [mem_news, ← h2] at h3
      rw [← h2] at h4
      simp only [] at h3
      by_cases hlt : id < x.s0.length
      · exact hsame.2 id h4 hlt
      · rw [getO_out (by omega), getO_out (by omega)]

theorem Does.fine {n : Nat} {ops : Array Oper} {x : Step} (h : Does P n ops x) : Fine x := by
  unfold Does at h
  split at h
  · exact h.fine
  · obtain ⟨t, b, _, _, _, h⟩ := h
    rcases h with ⟨_, h⟩ | ⟨_, _, h1, h2⟩
    · exact h.fine
    · exact ⟨by rw [h1]; exact Nat.le_refl _, by rw [h2], by rw [h2, h1], fun id _ => by rw [h1]⟩

/-! ### Some of the steps, in the order of the text -/
def envF (S : Nat → Bool) : Nat → List Step → Env → Env
  | _, [], e => e
  | k, x :: r, e => envF S (k + 1) r (if S k then put e x.o.dst x.v else e)
def stF (S : Nat → Bool) : Nat → List Step → St → St
  | _, [], σ => σ
  | k, x :: r, σ => stF S (k + 1) r (if S k then (fun id => if isWr x id then getO x.s1 id else σ id) else σ)

theorem put_ne {e : Env} {dst : Option Nat} {v : AV} {t : Nat} (h : dst ≠ some t) : put e dst v t = e t := by
  cases dst with
  | none => rfl
  | some d =>
    simp only [put, upd]
    split
    · rename_i hb; exact absurd (congrArg some (Nat.eq_of_beq_eq_true hb)) h
    · rfl
theorem put_eq {e : Env} {v : AV} {t : Nat} : put e (some t) v t = v := by simp [put, upd]

theorem envF_eq {S S' : Nat → Bool} {t : Nat} : ∀ {xs : List Step} {k : Nat} {e e' : Env}, (∀ i x, xs[i]? = some x → x.o.dst = some t → S (k + i) = S' (k + i)) → e t = e' t → envF S k xs e t = envF S' k xs e' t
  | [], _, _, _, _, h => h
  | x :: r, k, e, e', hs, h => by
    unfold envF
    refine envF_eq (fun i y hi hy => ?_) ?_
    · have := hs (i + 1) y (by simpa using hi) hy
      rwa [show k + (i + 1) = k + 1 + i by omega] at this
    · by_cases hd : x.o.dst = some t
      · have := hs 0 x (by simp) hd
        simp only [Nat.add_zero] at this
        rw [this]
        split
        · rw [hd, put_eq, put_eq]
        · exact h
      · have : ∀ (e : Env) (b : Bool), (if b then put e x.o.dst x.v else e) t = e t := fun e b => by cases b <;> simp [put_ne hd]
        rw [this, this]; exact h

theorem stF_eq {S S' : Nat → Bool} {id : Nat} : ∀ {xs : List Step} {k : Nat} {σ σ' : St}, (∀ i x, xs[i]? = some x → isWr x id = true → S (k + i) = S' (k + i)) → σ id = σ' id → stF S k xs σ id = stF S' k xs σ' id
  | [], _, _, _, _, h => h
  | x :: r, k, σ, σ', hs, h => by
    unfold stF
    refine stF_eq (fun i y hi hy => ?_) ?_
    · have := hs (i + 1) y (by simpa using hi) hy
      rwa [show k + (i + 1) = k + 1 + i by omega] at this
    · by_cases hd : isWr x id = true
      · have := hs 0 x (by simp) hd
        simp only [Nat.add_zero] at this
        rw [this]
        split
        · simp only [hd, if_true]
        · exact h
      · have : ∀ (σ : St) (b : Bool), (if b then (fun id => if isWr x id then getO x.s1 id else σ id) else σ) id = σ id := fun e b => by cases b <;> simp [hd]
        rw [this, this]; exact h

def stateAt : List Step → Env → Store → Nat → Env × Store
  | _, e, s, 0 => (e, s)
  | [], e, s, _ + 1 => (e, s)
  | x :: r, e, _, j + 1 => stateAt r (put e x.o.dst x.v) x.s1 j

theorem stateAt_get {n : Nat} : ∀ {xs : List Step} {e : Env} {s : Store} {e' : Env} {s' : Store} {j : Nat} {x : Step}, Chain n xs e s e' s' → xs[j]? = some x → stateAt xs e s j = (x.e0, x.s0) ∧ stateAt xs e s (j + 1) = (put x.e0 x.o.dst x.v, x.s1)
  | [], _, _, _, _, _, _, _, h => by simp at h
  | y :: r, e, s, e', s', 0, x, hc, h => by
    simp at h; subst h
    obtain ⟨h1, h2, _, h3⟩ := hc
    simp [stateAt, h1, h2]
  | y :: r, e, s, e', s', j + 1, x, hc, h => by
    obtain ⟨h1, h2, _, h3⟩ := hc
    exact stateAt_get (j := j) h3 (by simpa using h)

theorem stateAt_end {n : Nat} : ∀ {xs : List Step} {e : Env} {s : Store} {e' : Env} {s' : Store}, Chain n xs e s e' s' → stateAt xs e s xs.length = (e', s')
  | [], e, s, e', s', h => by simp [stateAt, h.1, h.2]
  | x :: r, e, s, e', s', h => stateAt_end (xs := r) h.2.2.2

theorem envF_stop {S : Nat → Bool} : ∀ {xs : List Step} {k : Nat} {e : Env}, (∀ i, k ≤ i → S i = false) → envF S k xs e = e
  | [], _, _, _ => rfl
  | x :: r, k, e, h => by unfold envF; rw [h k (Nat.le_refl _)]; exact envF_stop fun i hi => h i (by omega)
theorem stF_stop {S : Nat → Bool} : ∀ {xs : List Step} {k : Nat} {σ : St}, (∀ i, k ≤ i → S i = false) → stF S k xs σ = σ
  | [], _, _, _ => rfl
  | x :: r, k, σ, h => by unfold stF; rw [h k (Nat.le_refl _)]; exact stF_stop fun i hi => h i (by omega)

theorem upto_state {n : Nat} : ∀ {xs : List Step} {e : Env} {s : Store} {e' : Env} {s' : Store} {j k : Nat}, Chain n xs e s e' s' → (∀ x, x ∈ xs → Fine x) → j ≤ xs.length →
    envF (fun i => decide (i < k + j)) k xs e = (stateAt xs e s j).1 ∧ stF (fun i => decide (i < k + j)) k xs (getO s) = getO (stateAt xs e s j).2
  | xs, e, s, e', s', 0, k, _, _, _ => by
    have h : ∀ i, k ≤ i → decide (i < k + 0) = false := fun i hi => by simp; omega
    cases xs <;> exact ⟨envF_stop h, stF_stop h⟩
  | [], _, _, _, _, j + 1, _, _, _, h => by simp at h
  | x :: r, e, s, e', s', j + 1, k, hc, hf, hl => by
    obtain ⟨h1, h2, _, h3⟩ := hc
    have ih := upto_state (j := j) (k := k + 1) h3 (fun y hy => hf y (List.mem_cons_of_mem _ hy)) (by simpa using hl)
    rw [show k + 1 + j = k + (j + 1) by omega] at ih
    unfold envF stF stateAt
    have hk : decide (k < k + (j + 1)) = true := by simp
    simp only [hk, if_true]
    have : (fun id => if isWr x id then getO x.s1 id else getO s id) = getO x.s1 := by
      funext id
      split
      · rfl
      · rename_i hw
        rw [← h2]; exact ((hf x (by simp)).same id (by simpa using hw)).symm
    rw [this]
    exact ih

theorem chain_mono {n : Nat} : ∀ {xs : List Step} {e : Env} {s : Store} {e' : Env} {s' : Store} {i : Nat} {x : Step}, Chain n xs e s e' s' → (∀ x, x ∈ xs → Fine x) → xs[i]? = some x → s.length ≤ x.s0.length ∧ x.s1.length ≤ s'.length
  | [], _, _, _, _, _, _, _, _, h => by simp at h
  | y :: r, e, s, e', s', 0, x, ⟨h1, h2, _, h3⟩, hf, h => by
    simp at h; subst h
    refine ⟨by rw [h2]; exact Nat.le_refl _, ?_⟩
    have := chain_len h3 (fun y hy => hf y (List.mem_cons_of_mem _ hy))
    exact this
  | y :: r, e, s, e', s', i + 1, x, ⟨h1, h2, _, h3⟩, hf, h => by
    have h4 := chain_mono (i := i) h3 (fun y hy => hf y (List.mem_cons_of_mem _ hy)) (by simpa using h)
    have := (hf y (by simp)).len
    rw [h2] at this
    exact ⟨by omega, h4.2⟩
where
  chain_len {n : Nat} : ∀ {xs : List Step} {e : Env} {s : Store} {e' : Env} {s' : Store}, Chain n xs e s e' s' → (∀ x, x ∈ xs → Fine x) → s.length ≤ s'.length
  | [], _, _, _, _, ⟨_, h⟩, _ => by rw [h]; exact Nat.le_refl _
  | y :: r, e, s, e', s', ⟨h1, h2, _, h3⟩, hf => by
    have h4 := chain_len h3 (fun y hy => hf y (List.mem_cons_of_mem _ hy))
    have := (hf y (by simp)).len
    rw [h2] at this
    omega

theorem chain_lt {n : Nat} {e' : Env} {s' : Store} {x y : Step} : ∀ {xs : List Step} {e : Env} {s : Store} {i j : Nat}, Chain n xs e s e' s' → (∀ x, x ∈ xs → Fine x) → xs[i]? = some x → xs[j]? = some y → i < j → x.s1.length ≤ y.s0.length := by
  intro xs
  induction xs with
  | nil => intro e s i j _ _ h; simp at h
  | cons z r ih =>
    intro e s i j hc hf h k hij
    have hf' : ∀ x, x ∈ r → Fine x := fun y hy => hf y (List.mem_cons_of_mem _ hy)
    cases j with
    | zero => omega
    | succ j =>
      cases i with
      | zero =>
        simp at h; subst h
        exact (chain_mono hc.2.2.2 hf' (by simpa using k)).1
      | succ i => exact ih hc.2.2.2 hf' (by simpa using h) (by simpa using k) (by omega)

theorem chain_dst {n : Nat} {e' : Env} {s' : Store} {x : Step} : ∀ {xs : List Step} {e : Env} {s : Store}, Chain n xs e s e' s' → x ∈ xs → ∀ t, x.o.dst = some t → t < n := by
  intro xs
  induction xs with
  | nil => intro e s _ h; cases h
  | cons z r ih =>
    intro e s hc hx
    rcases List.mem_cons.1 hx with rfl | hx
    · exact hc.2.2.1
    · exact ih hc.2.2.2 hx
end Go.Proofs.Ytneheklmkbhieaa.AW
