import Derived.Test.YtfjolephpghafaaAwOps7
namespace Go.Proofs.Ytfjolephpghafaa.AW
section ops
variable {P : Program} {o : Oper} {e : Env} {s : Store} {K : AV → Store → Prop} {w : World} {g : G} {σ : St} {a : Act} {T : Nat → Prop} {N : Prop}

theorem second_str {i : TypeInfo} {b : ByteArray} {x : Value} (hx : x = .string b) (hsz : 1 = i.size) : Second P w g σ i.size x (bytesP b.data.toList) (b.data.toList.map fun c => Value.int .u8 c.toNat) := by
  subst hx
  rw [← hsz]
  refine ⟨?_, bytes_cells _ _, fun y hy => ?_, fun w' _ => ?_⟩
  · simp [Builtin.lenOf, bytesP]
  · simp [bytesP] at hy; obtain ⟨c, _, rfl⟩ := hy; exact ⟨rfl, rfl⟩
  · have hl : (bytesP b.data.toList).length = b.size := by simp [bytesP]
    rw [hl]
    have : b.extract 0 b.size = b := by
      apply ByteArray.ext; rw [ByteArray.data_extract]; simp
    simp only [Builtin.firstCells, Sem.run_pure, this]
    congr 1
    apply Array.ext'; simp

theorem second_sl {x : Value} (c : Cx w g σ s T N) {av : AV} (hx : RepA w g σ av x) (hT : ∀ id, id ∈ ids av → T id) {K' : Nat → List PV → Prop} (h : elems s av K') :
    ∃ sz ys, K' sz ys ∧ ∀ size, sz = size → ∃ news, Second P w g σ size x ys news := by
  obtain ⟨sz, ys, hk, hel, hlay⟩ := elems_rep hx c hT h
  refine ⟨sz, ys, hk, fun size hsz => ?_⟩
  subst hsz
  rcases hlay with ⟨hy, rfl⟩ | ⟨ad, cap, vs, hy, hcap, hr, hcell⟩
  · subst hy
    exact ⟨[], by simp [Builtin.lenOf], .nil, (fun q hq => by cases hq), (fun w' _ => by simp [Builtin.firstCells])⟩
  · subst hy
    refine ⟨vs, by simp [Builtin.lenOf], hr, hel, fun w' hw' => ?_⟩
    refine firstCells_of (by rw [← hr.len, flat_len hel, Nat.mul_comm]) w' (fun j v hj => ?_)
    have hc := hcell j v hj
    have hlt := block_lt_of_cell hc
    rw [← hc]
    exact World.cell?_of_block (w := w) (hw' _ hlt)

theorem foldI_rep (f : Int → Int → Int) (m : Value → Value → Sem Value) (k : IntKind) (hm : ∀ a b, m (.int k a) (.int k b) = pure (.int k (f a b))) : ∀ {r : List AV} {ys : List Value} {x : Int} {n : Int}, foldI f k x r = some n → RepAs w g σ r ys →
    (ys.foldlM m (.int k x)).run P w = .ok (.int k n) w
  | [], _, x, n, h, .nil => by simp [foldI] at h; subst h; rfl
  | v :: r, _, x, n, h, .cons _ y _ ys hv hs => by
    unfold foldI at h
    split at h
    case h_1 heq => cases heq
    case h_3 => cases h
    rename_i k' b r' heq
    cases heq
    split at h
    · rename_i hk
      have := of_decide_eq_true hk; subst this
      have hv := hv.inv_int; subst hv
      rw [List.foldlM_cons, hm]
      exact foldI_rep f m k hm h hs
    · cases h

theorem ok_builtin {b : Builtin} {args : Array Operand} {ts : Array TypeId} (ho : o.op = .call ⟨.builtin b, args, ts⟩) (h : builtinA P b ts.toList (args.toList.map (ev e)) s K)
    (hN : ∀ v s', K v s' → s.length < s'.length → N) (c : Cx w g σ s T N) (hT : ∀ x, x ∈ args.toList → ∀ id, id ∈ ids (ev e x) → T id) (he : EnvR w g σ e a.tmps) : OpOk P o a w (Rs w g σ s T K) := by
  unfold builtinA at h
  have hargs := evs_rep (w := w) (g := g) (σ := σ) he args.toList
  split at h
  · rename_i t rest x hts hxs
    have hts' : ts[0]? = some t := by rw [← Array.getElem?_toList, hts]; rfl
    obtain ⟨y, hy, hyx⟩ : ∃ y, args.toList = [y] ∧ ev e y = x := by
      cases hl : args.toList with
      | nil => rw [hl] at hxs; simp at hxs
      | cons q r => cases r with
        | nil => rw [hl] at hxs; simp at hxs; exact ⟨q, rfl, hxs⟩
        | cons => rw [hl] at hxs; simp at hxs
    have hargs0 : args = #[y] := by cases args; simp at hy; rw [hy]
    subst hargs0
    have hx := ev_rep he y
    have fin : ∀ {n : Int}, (Builtin.len_ ts o.type #[a.eval y]).run P w = .ok (.int .i64 n) w → K (.p (.int .i64 n)) s → OpOk P o a w (Rs w g σ s T K) := by
      intro n hr hk
      refine .value (v := .int .i64 n) (w' := w) ?_ (.pure c hk (.mkInt _ _))
      simp [execOp, ho, resolve, invoke, builtin, hr]
    split at h
    · rename_i l hd
      have hu := und hd (by simp)
      rw [hyx] at hx
      obtain ⟨bb, hb, rfl⟩ := hx.inv_str
      refine fin ?_ h
      simp [Builtin.len_, hts', underlying, hu, hb, goInt]
    · rename_i k sz xs u hd
      have hu := und hd (by simp)
      rw [hyx] at hx
      refine fin ?_ h
      generalize a.eval y = ay at *
      cases hx.inv_p <;> simp [Builtin.len_, hts', underlying, hu, goInt]
    · rename_i id tot off len u hd
      have hu := und hd (by simp)
      rw [hyx] at hx
      obtain ⟨ad, cap, ⟨hp, _⟩, _⟩ := hx.inv_osl
      refine fin ?_ h
      simp [Builtin.len_, hts', underlying, hu, hp, goInt]
    · rename_i n el hd
      have hu := und hd (by simp)
      refine fin ?_ h
      simp [Builtin.len_, hts', underlying, hu, goInt]
    · exact h.elim
  · rename_i t u rest x y hts hxs
    obtain ⟨p, q, hpq, hpx, hqy⟩ : ∃ p q, args.toList = [p, q] ∧ ev e p = x ∧ ev e q = y := by
      cases hl : args.toList with
      | nil => rw [hl] at hxs; simp at hxs
      | cons p r => cases r with
        | nil => rw [hl] at hxs; simp at hxs
        | cons q r => cases r with
          | nil => rw [hl] at hxs; simp at hxs; exact ⟨p, q, rfl, hxs.1, hxs.2⟩
          | cons => rw [hl] at hxs; simp at hxs
    have hargs0 : args = #[p, q] := by cases args; simp at hpq; rw [hpq]
    subst hargs0
    have hts2 : ∃ rest, ts.toList = t :: u :: rest := ⟨rest, hts⟩
    have hq := ev_rep he q
    rw [hqy] at hq
    have happ : ∀ {ysz : Nat} {ys : List PV}, appA P t (ev e p) ysz ys s K → notInt P u → (∀ el i, P.info? el = some i → P.underlying t = some (.slice el) → ysz = i.size → ∃ news, Second P w g σ i.size (a.eval q) ys news) → OpOk P o a w (Rs w g σ s T K) := by
      intro ysz ys h hu hS
      have hdt : ∃ el, P.underlying t = some (.slice el) := by
        unfold appA at h
        split at h
        · rename_i el hd; exact ⟨el, und hd (by simp)⟩
        · exact h.elim
      obtain ⟨el, hel⟩ := hdt
      have hinf : ∃ i, P.info? el = some i ∧ ysz = i.size := by
        unfold appA at h
        have hd : dsc P t = .slice el := by simp [dsc, hel]
        rw [hd] at h
        simp only [] at h
        split at h
        · rename_i i z' hi hz
          split at h
          · rename_i hb1 hb2
            simp only [Bool.and_eq_true] at hb1
            exact ⟨i, hi, Nat.eq_of_beq_eq_true hb1.1.1⟩
          · exact h.elim
        · exact h.elim
      obtain ⟨i, hi, hsz⟩ := hinf
      obtain ⟨news, S⟩ := hS el i hi hel hsz
      refine ok_app (t := t) (u := u) (el := el) (x := p) (y := q) (ysz := ysz) (ys := ys) (news := news) ho ⟨by rw [← Array.getElem?_toList, hts]; rfl, by rw [← Array.getElem?_toList, hts]; rfl⟩ h hN (fun i' hi' _ _ => by rw [hi] at hi'; cases hi'; exact S) c (fun id hid => hT p (by simp) id hid) he hu hel
    rw [← hpx] at h
    split at h
    · rename_i l hd
      have hu := und hd (by simp)
      obtain ⟨bb, hb, rfl⟩ := hq.inv_str
      exact happ h ⟨_, hu, fun k => by simp⟩ (fun el i hi hel hsz => ⟨_, second_str hb hsz⟩)
    · rename_i sz xs v hd
      have hu := und hd (by simp)
      split at h
      · rename_i el hd2
        have hel := und hd2 (by simp)
        refine happ h ⟨_, hu, fun k => by simp⟩ (fun el' i hi hel' hsz => ?_)
        have hp : a.eval q = .slice none 0 0 := by
          generalize a.eval q = aq at *
          cases hq.inv_p with
          | nil => rfl
          | sl _ _ _ b off cap hk' => exact absurd rfl hk'
        rw [hp]
        exact ⟨[], by simp [Builtin.lenOf], .nil, (fun q hq => by cases hq), (fun w' _ => by simp [Builtin.firstCells])⟩
      · exact h.elim
    · rename_i v hd hnn
      have hu := und hd (by simp)
      obtain ⟨sz, ys, hk, hS⟩ := second_sl (P := P) c hq (fun id hid => hT q (by simp) id (by rw [hqy]; exact hid)) h
      exact happ hk ⟨_, hu, fun k => by simp⟩ (fun el i hi hel hsz => hS _ hsz)
    · exact h.elim
  · rename_i t k n r hxs
    split at h
    · rename_i m hm
      obtain ⟨q, rs, hq, hqx, hrx⟩ : ∃ q rs, args.toList = q :: rs ∧ ev e q = .p (.int k n) ∧ rs.map (ev e) = r := by
        cases hl : args.toList with
        | nil => rw [hl] at hxs; simp at hxs
        | cons q rs => rw [hl] at hxs; simp at hxs; exact ⟨q, rs, rfl, hxs.1, hxs.2⟩
      have hv := ev_rep (w := w) (g := g) (σ := σ) he q
      rw [hqx] at hv
      have hrs := evs_rep (w := w) (g := g) (σ := σ) he rs
      rw [hrx] at hrs
      have hf := foldI_rep (P := P) (fun x y => if y < x then y else x) Builtin.min2 k (fun a b => rfl) hm hrs
      refine .value (v := .int k m) (w' := w) ?_ (.pure c h (.mkInt _ _))
      have hm' : args.toList.map a.eval = .int k n :: rs.map a.eval := by rw [hq, List.map_cons, hv.inv_int]
      simp [execOp, ho, resolve, invoke, builtin, Builtin.min_, hm', hf]
    · exact h.elim
  · rename_i t k n r hxs
    split at h
    · rename_i m hm
      obtain ⟨q, rs, hq, hqx, hrx⟩ : ∃ q rs, args.toList = q :: rs ∧ ev e q = .p (.int k n) ∧ rs.map (ev e) = r := by
        cases hl : args.toList with
        | nil => rw [hl] at hxs; simp at hxs
        | cons q rs => rw [hl] at hxs; simp at hxs; exact ⟨q, rs, rfl, hxs.1, hxs.2⟩
      have hv := ev_rep (w := w) (g := g) (σ := σ) he q
      rw [hqx] at hv
      have hrs := evs_rep (w := w) (g := g) (σ := σ) he rs
      rw [hrx] at hrs
      have hf := foldI_rep (P := P) (fun x y => if y > x then y else x) Builtin.max2 k (fun a b => rfl) hm hrs
      refine .value (v := .int k m) (w' := w) ?_ (.pure c h (.mkInt _ _))
      have hm' : args.toList.map a.eval = .int k n :: rs.map a.eval := by rw [hq, List.map_cons, hv.inv_int]
      simp [execOp, ho, resolve, invoke, builtin, Builtin.max_, hm', hf]
    · exact h.elim
  · exact h.elim
end ops
end Go.Proofs.Ytfjolephpghafaa.AW
