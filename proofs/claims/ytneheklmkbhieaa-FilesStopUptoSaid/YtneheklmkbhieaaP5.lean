/- A part of the proof: AW/Ops11, AW/Drawn1, AW/Drawn2, AW/Drawn3, AW/Drawn4. -/
import Derived.Test.YtneheklmkbhieaaP4
import Derived.Orders
namespace Go.Proofs.Ytneheklmkbhieaa.AW
set_option linter.unusedSimpArgs false
set_option linter.unusedVariables false
section ops
variable {P : Program} {o : Oper} {e : Env} {s : Store} {K : AV → Store → Prop} {w : World} {g : G} {σ : St} {a : Act} {T : Nat → Prop} {N : Prop}

theorem madeCells_eq (zc : Array Value) : ∀ n, (madeCells zc (n * zc.size)).toList = (List.replicate n zc.toList).flatten := by
  intro n
  unfold madeCells
  rw [← List.toArray_range, List.map_toArray]
  show (List.range (n * zc.size)).map (fun j => zc[j % zc.size]!) = _
  induction n with
  | zero => simp
  | succ n ih =>
    rw [Nat.succ_mul, List.range_add, List.map_append, ih, List.replicate_succ', List.flatten_append]
    congr 1
    simp only [List.flatten_cons, List.flatten_nil, List.append_nil]
    apply List.ext_getElem
    · simp
    · intro i h1 h2
      simp at h1
      simp only [List.getElem_map, List.getElem_range, Nat.mul_add_mod_self_right, Nat.mod_eq_of_lt h1]
      rw [getElem!_pos zc i h1]
      simp

theorem flat_rep {B : Nat → Prop} {z : PV} {zs : List Value} (h : RepPs w B z.cells zs) : ∀ n, RepPs w B (flat (List.replicate n z)) (List.replicate n zs).flatten
  | 0 => .nil
  | n + 1 => by
    rw [List.replicate_succ, List.replicate_succ, List.flatten_cons]
    show RepPs w B (z.cells ++ flat (List.replicate n z)) _
    exact h.append (flat_rep h n)

theorem ok_makeSlice {t : Nat} {l m : Operand} (ho : o.op = .makeSlice t l m) (h : aop P (.makeSlice t l m) e s K) (hN : ∀ v s', K v s' → s.length < s'.length → N) (c : Cx w g σ s T N) (he : EnvR w g σ e a.tmps) : OpOk P o a w (Rs w g σ s T K) := by
  simp only [aop] at h
  have hl := ev_rep he l
  have hm := ev_rep he m
  split at h
  · rename_i el k1 n k2 n2 hd hel hem
    have hu := und hd (by simp)
    rw [hel] at hl; rw [hem] at hm
    split at h
    · rename_i i z hi hz
      obtain ⟨zv, _, hzr, it, hit, hzv⟩ := zeroT_run (w := w) (g := g) (σ := σ) hz
      rw [hi] at hit; cases hit
      split at h
      · rename_i hb1 hb2
        simp only [Bool.and_eq_true] at hb1
        have hzl := Nat.eq_of_beq_eq_true hb1.1
        have hs1 := Nat.le_of_ble_eq_true hb2
        rw [snoc_eq] at h
        unfold Ob at h
        obtain ⟨⟨h0, hnm, hbb, h63⟩, hk⟩ := h
        subst hnm
        have hrun := run_make (P := P) w t el i zv hu hi hzv k1 k2 n n h0 (Int.le_refl _) (by rw [Int.mul_comm]; omega) (by omega)
        have hzs : zv.cells.size = i.size := by rw [← hzl]; exact zcells hzr
        have m := More.alloc w (.cells (madeCells zv.cells (n.toNat * i.size)) el)
        refine .value (v := .slice (some ⟨w.heap.size, 0, none⟩) n.toNat n.toNat) (w' := w.alloc (.cells (madeCells zv.cells (n.toNat * i.size)) el)) ?_ ?_
        · simp [execOp, ho, hl.inv_int, hm.inv_int, hrun]
        · have hvs : (madeCells zv.cells (n.toNat * i.size)).toList = (List.replicate n.toNat zv.cells.toList).flatten := by
            rw [← hzs]; exact madeCells_eq _ _
          have hfl : RepPs w (Lv g σ) (flat (List.replicate n.toNat z)) (madeCells zv.cells (n.toNat * i.size)).toList := by
            rw [hvs]
            refine flat_rep ?_ _
            have := repPs_flat (RepPs.cons _ _ _ _ hzr.inv_p .nil)
            simpa [flat] using this
          have hlen : (madeCells zv.cells (n.toNat * i.size)).toList.length = i.size * (List.replicate n.toNat z).length := by
            simp [size_madeCells, Nat.mul_comm]
          have hn : N := hN _ _ hk (by simp)
          have hsh0 : (w.alloc (.cells (madeCells zv.cells (n.toNat * i.size)) el)).shape? w.heap.size = some (el, (madeCells zv.cells (n.toNat * i.size)).size) := by
            simp only [World.shape?, m.at]
          refine Rs.new c m (o := .buf i.size (List.replicate n.toNat z) (tagB P el)) ?_ ?_ hk hn
          · refine .buf _ _ (madeCells zv.cells (n.toNat * i.size)).toList (by omega) (fun q hq => ?_) (by omega) ?_ ⟨el, (0, 0), by simpa using m.at, .inl rfl⟩ _ (fun u hu => by rw [tagB_eq hu]; exact ⟨_, hsh0⟩)
            · rw [(List.mem_replicate.1 hq).2]; exact ⟨hzl, hb1.2⟩
            · rw [← hlen, List.take_of_length_le (Nat.le_refl _)]
              exact (c.ext_new m _ hn).repPs hfl
          · have hrl : (List.replicate n.toNat z).length = n.toNat := by simp
            have := RepA.osl (w := w.alloc (.cells (madeCells zv.cells (n.toNat * i.size)) el)) (g := g.new s.length w.heap.size) (σ := σ.put s.length (.buf i.size (List.replicate n.toNat z) (tagB P el))) s.length (List.replicate n.toNat z).length 0 n.toNat
              (.slice (some ⟨w.heap.size, 0, none⟩) n.toNat n.toNat) (.inr rfl) ⟨_, _, rfl, fun q => by cases q⟩ (fun sz zs ty q => by simp [St.put] at q; rw [← q.2.1]; simp) (fun sz zs ty q _ => by
                simp [St.put] at q
                obtain ⟨rfl, rfl, _⟩ := q
                refine ⟨by rw [hrl]; omega, fun q => absurd (.inl rfl) q, fun _ => ⟨_, _, rfl, rfl, Nat.le_refl _, fun _ => ⟨by simp [G.new], ?_⟩⟩⟩
                have hsh : (w.alloc (.cells (madeCells zv.cells (n.toNat * i.size)) el)).shape? w.heap.size = some (el, (madeCells zv.cells (n.toNat * i.size)).size) := by
                  simp only [World.shape?, m.at]
                exact ⟨el, _, by simpa [G.new] using hsh, by rw [size_madeCells, Nat.zero_add]; exact Nat.le_refl _⟩)
            have hv : AV.osl s.length (List.replicate n.toNat z).length 0 (List.replicate n.toNat z).length = AV.osl s.length (List.replicate n.toNat z).length 0 n.toNat := by rw [hrl]
            rw [hv]; exact this
      · exact h.elim
    · exact h.elim
  · exact h.elim

theorem callFunc_enter {f : Nat} {fn : Func} (hf : P.funcs[f]? = some fn) (hn : (fn.name == "runtime.NumGoroutine") = false) (hb : fn.body.isSome = true) (args : Array Value) :
    (callFunc f args).run P w = .ok (.enter f args) w := by
  have hn' : ¬ fn.name = "runtime.NumGoroutine" := by simpa using hn
  have hb' : ¬ fn.body = none := by intro e; simp [e] at hb
  simp [callFunc, hf, hn', hb']

/-- A call, in a store that is known whole. -/
theorem ok_call {f : Nat} {x : Operand} {args : Array Operand} {ts : Array TypeId} {caps : List AV} (ho : o.op = .call ⟨.value x, args, ts⟩) (hx : ev e x = .clos f caps)
    (h : Cal P f (args.toList.map (ev e) ++ caps) s K) (c : Cx w g (getO s) s (fun _ => True) N) (hG : Gk P w g (getO s)) (hfresh : ∀ id, g.C id → id < s.length) (he : EnvR w g (getO s) e a.tmps) : OpOk P o a w (Rs w g (getO s) s (fun _ => True) K) := by
  unfold Cal at h
  have hxr := ev_rep he x
  rw [hx] at hxr
  obtain ⟨ys, hp, hr⟩ := hxr.inv_clos
  have hargs := (evs_rep (w := w) (g := g) (σ := getO s) he args.toList).append hr
  have hc := h w g _ c.inv hG hfresh hargs
  have heq : (execOp a.eval o).run P w = (callFunc f (args.toList.map a.eval ++ ys).toArray).run P w := by
    simp only [execOp, ho, resolve, Sem.run_bind, hp, Deferred.ofValue, Sem.run_pure, Result.andThen_ok, invoke]
    congr 2
    simp
  have fin : ∀ v' w', CalPost w g s K (.returned v') w' → Rs w g (getO s) s (fun _ => True) K v' w' := by
    intro v' w' hpost
    obtain ⟨r, v, s', g', hv, hk, hl, hrep, hinv, hext, hC⟩ := hpost
    cases hv
    have hov : ovr (fun _ => True) s s' (getO s) = getO s' := by funext i; simp [ovr]
    exact ⟨r, s', g', hk, hl, fun id hid => absurd trivial hid, by rw [hov]; exact hrep, by rw [hov]; exact hinv, by rw [hov]; exact hext, hC⟩
  rcases hc with ⟨⟨fn, hf, hn, hb⟩, hc⟩ | ⟨v, w', hrun, hpost⟩
  · have hrun : (execOp a.eval o).run P w = .ok (.enter f (args.toList.map a.eval ++ ys).toArray) w := by
      rw [heq]; exact callFunc_enter (w := w) hf hn hb (args.toList.map a.eval ++ ys).toArray
    unfold OpOk
    rw [hrun]
    refine Calls.mono hc fun e' w' hpost => ?_
    have hpost' := hpost
    obtain ⟨r, v, s', g', rfl, _⟩ := hpost'
    exact fin _ _ hpost
  · exact .value (by rw [heq]; exact hrun) (fin _ _ hpost)
end ops
end Go.Proofs.Ytneheklmkbhieaa.AW

namespace Go.Proofs.Ytneheklmkbhieaa.AW
set_option linter.unusedSimpArgs false
set_option linter.unusedVariables false
variable {P : Program}

theorem map_ev {e e' : Env} {xs : List Operand} (h : ∀ x, x ∈ xs → ev e x = ev e' x) : xs.map (ev e) = xs.map (ev e') := List.map_congr_left h

theorem bnd_congr {e e' : Env} {x : Option Operand} (h : ∀ y, x = some y → ev e y = ev e' y) (d : Int) (K : Int → Prop) : bnd e x d K = bnd e' x d K := by
  cases x with
  | none => rfl
  | some y => simp only [bnd, h y rfl]

theorem aop_congr {op : Op} {e e' : Env} (h : ∀ x, x ∈ op.operands.toList → ev e x = ev e' x) (s : Store) (K : AV → Store → Prop) : aop P op e s K = aop P op e' s K := by
  cases op
  case move x => simp only [aop, h x (by simp [Op.operands])]
  case assign x => simp only [aop, h x (by simp [Op.operands])]
  case pick x y z => simp only [aop, h x (by simp [Op.operands]), h y (by simp [Op.operands]), h z (by simp [Op.operands])]
  case box t x => simp only [aop, h x (by simp [Op.operands])]
  case load t x => simp only [aop, h x (by simp [Op.operands])]
  case nilCheck x => simp only [aop, h x (by simp [Op.operands])]
  case unOp o t x => simp only [aop, h x (by simp [Op.operands])]
  case convert a b x => simp only [aop, h x (by simp [Op.operands])]
  case makeInterface t x => simp only [aop, h x (by simp [Op.operands])]
  case fieldAddr t x f => simp only [aop, h x (by simp [Op.operands])]
  case field t x f => simp only [aop, h x (by simp [Op.operands])]
  case range t x => simp only [aop, h x (by simp [Op.operands])]
  case next x b => simp only [aop, h x (by simp [Op.operands])]
  case lookup t x y ok => simp only [aop, h x (by simp [Op.operands]), h y (by simp [Op.operands])]
  case mapUpdate t x y z => simp only [aop, h x (by simp [Op.operands]), h y (by simp [Op.operands]), h z (by simp [Op.operands])]
  case typeAssert x a b c => simp only [aop, h x (by simp [Op.operands])]
  case entry x => simp only [aop, h x (by simp [Op.operands])]
  case extract x i => simp only [aop, h x (by simp [Op.operands])]
  case store t x y => simp only [aop, h x (by simp [Op.operands]), h y (by simp [Op.operands])]
  case binOp a t x y u => simp only [aop, h x (by simp [Op.operands]), h y (by simp [Op.operands])]
  case makeSlice t x y => simp only [aop, h x (by simp [Op.operands]), h y (by simp [Op.operands])]
  case indexAddr t x y => simp only [aop, h x (by simp [Op.operands]), h y (by simp [Op.operands])]
  case index t x y => simp only [aop, h x (by simp [Op.operands]), h y (by simp [Op.operands])]
  case build t ps =>
    have : (ps.toList.map fun q => (q.1, ev e q.2)) = ps.toList.map fun q => (q.1, ev e' q.2) := List.map_congr_left fun q hq => by
      rw [h q.2 (by simp only [Op.operands]; exact List.mem_map_of_mem (f := fun q : Nat × Operand => q.2) hq)]
    simp only [aop, this]
  case buildSlice t n ps =>
    have : (ps.toList.map fun q => ev e q.2) = ps.toList.map fun q => ev e' q.2 := List.map_congr_left fun q hq => by
      rw [h q.2 (by simp only [Op.operands]; exact List.mem_map_of_mem (f := fun q : Nat × Operand => q.2) hq)]
    simp only [aop, this]
  case makeFunc f first caps =>
    have : caps.toList.map (ev e) = caps.toList.map (ev e') := map_ev fun x hx => h x (by simp only [Op.operands, Array.toList_append]; exact List.mem_append_right _ hx)
    cases f <;> simp only [aop, this]
  case slice t x lo hi mx =>
    have hx := h x (by simp [Op.operands])
    have hlo := fun d K => bnd_congr (e := e) (e' := e') (x := lo) (fun y hy => h y (by subst hy; simp [Op.operands])) d K
    have hhi := fun d K => bnd_congr (e := e) (e' := e') (x := hi) (fun y hy => h y (by subst hy; simp [Op.operands])) d K
    have hmx := fun d K => bnd_congr (e := e) (e' := e') (x := mx) (fun y hy => h y (by subst hy; simp [Op.operands])) d K
    simp only [aop, sliceA, hx, hlo, hhi]
    cases mx with
    | none => cases hi <;> rfl
    | some m => cases hi <;> first | rfl | simp only [hmx]
  case call c =>
    obtain ⟨callee, args, ts⟩ := c
    have ha : args.toList.map (ev e) = args.toList.map (ev e') := map_ev fun x hx => h x (by simp only [Op.operands, Call.operands, Array.toList_append]; exact List.mem_append_right _ hx)
    cases callee with
    | builtin b => simp only [aop, callA, ha]
    | value f => simp only [aop, callA, ha, h f (by simp [Op.operands, Call.operands])]
    | invoke r n => simp only [aop, callA]
  all_goals rfl

theorem footT_congr {op : Op} {e e' : Env} (h : ∀ x, x ∈ op.operands.toList → ev e x = ev e' x) : footT e op = footT e' op := by
  cases op
  case load t x => simp only [footT, h x (by simp [Op.operands])]
  case convert a b x => simp only [footT, h x (by simp [Op.operands])]
  case binOp a t x y u => simp only [footT, h x (by simp [Op.operands]), h y (by simp [Op.operands])]
  case makeInterface a x => simp only [footT, h x (by simp [Op.operands])]
  case indexAddr t x y => simp only [footT, h x (by simp [Op.operands])]
  case slice t x lo hi mx => simp only [footT, h x (by simp [Op.operands])]
  case store t x y => simp only [footT, h x (by simp [Op.operands])]
  case next x b => simp only [footT, h x (by simp [Op.operands])]
  case range t x => simp only [footT, h x (by simp [Op.operands])]
  case lookup t x y ok => simp only [footT, h x (by simp [Op.operands])]
  case mapUpdate t x y z => simp only [footT, h x (by simp [Op.operands]), h z (by simp [Op.operands])]
  case buildSlice t n ps =>
    have : (ps.toList.map fun q => ev e q.2) = ps.toList.map fun q => ev e' q.2 := List.map_congr_left fun q hq => by
      rw [h q.2 (by simp only [Op.operands]; exact List.mem_map_of_mem (f := fun q : Nat × Operand => q.2) hq)]
    have h2 : ∀ e : Env, (ps.toList.flatMap fun q => ids (ev e q.2)) = (ps.toList.map fun q => ev e q.2).flatMap ids := fun e => by rw [List.flatMap_map]
    simp only [footT, h2, this]
  case call c =>
    have ha : c.args.toList.map (ev e) = c.args.toList.map (ev e') := map_ev fun x hx => h x (by simp only [Op.operands, Call.operands, Array.toList_append]; exact List.mem_append_right _ hx)
    have h2 : ∀ e : Env, (c.args.toList.flatMap fun q => ids (ev e q)) = (c.args.toList.map (ev e)).flatMap ids := fun e => by rw [List.flatMap_map]
    simp only [footT, h2, ha]
  all_goals rfl

/-! ### What an operation leaves -/
def Same (f : List Nat) (s s' : Store) : Prop := s.length ≤ s'.length ∧ ∀ id, ¬ id ∈ f → id < s.length → getO s' id = getO s id

theorem Same.refl (f : List Nat) (s : Store) : Same f s s := ⟨Nat.le_refl _, fun _ _ _ => rfl⟩
theorem Same.snoc (f : List Nat) (s : Store) (o : AObj) : Same f s (s ++ [some o]) := ⟨by simp, fun id _ h => by rw [getO_snoc, if_neg (by omega)]⟩
theorem Same.set {f : List Nat} {s : Store} {id : Nat} (o : Option AObj) (h : id ∈ f) : Same f s (s.set id o) := ⟨by simp, fun i hi hlt => by
  unfold getO; rw [List.getElem?_set_ne (fun e => hi (by rw [← e]; exact h))]⟩
theorem Same.trans {f : List Nat} {s s' s'' : Store} (h : Same f s s') (k : Same f s' s'') : Same f s s'' :=
  ⟨Nat.le_trans h.1 k.1, fun id h1 h2 => (k.2 id h1 (Nat.lt_of_lt_of_le h2 h.1)).trans (h.2 id h1 h2)⟩

theorem cellsP_same {f : List Nat} : ∀ {cs : List AV} {s : Store} {K : List PV → Store → Prop}, toP.cellsP s cs K → (∀ v, v ∈ cs → ∀ id, id ∈ ids1 v → id ∈ f) → ∃ ps s', K ps s' ∧ Same f s s'
  | [], s, K, h, _ => ⟨[], s, h, .refl _ _⟩
  | v :: r, s, K, h, hf => by
    unfold toP.cellsP at h
    split at h
    · rename_i hc; cases hc
    · rename_i x r' hc; cases hc
      obtain ⟨ps, s', h1, h2⟩ := cellsP_same h (fun v hv => hf v (List.mem_cons_of_mem _ hv))
      exact ⟨_, s', h1, h2⟩
    · rename_i id tot off len r' hc; cases hc
      split at h
      · rw [killK_eq] at h
        unfold Ob at h
        obtain ⟨ps, s', h1, h2⟩ := cellsP_same h.2 (fun v hv => hf v (List.mem_cons_of_mem _ hv))
        exact ⟨_, s', h1, (Same.set none (hf (.osl id tot off len) (by simp) id (by simp [ids1]))).trans h2⟩
      · exact h.elim
    · exact h.elim

theorem toP_same {f : List Nat} {v : AV} {s : Store} {K : PV → Store → Prop} (h : toP s v K) (hf : ∀ id, id ∈ ids v → id ∈ f) : ∃ p s', K p s' ∧ Same f s s' := by
  unfold toP at h
  split at h
  · exact ⟨_, s, h, .refl _ _⟩
  · split at h
    · rw [killK_eq] at h; unfold Ob at h
      exact ⟨_, _, h.2, .set none (hf _ (by simp [ids, ids1]))⟩
    · exact h.elim
  · split at h
    · split at h
      · rw [killK_eq] at h
        exact ⟨_, _, h, .set none (hf _ (by simp [ids, ids1]))⟩
      · exact h.elim
    · exact h.elim
  · obtain ⟨ps, s', h1, h2⟩ := cellsP_same h (fun v hv id hid => hf id (by simp only [ids]; exact List.mem_flatMap.2 ⟨v, hv, hid⟩))
    exact ⟨_, s', h1, h2⟩
  · split at h
    · split at h
      · rw [killK_eq] at h
        exact ⟨_, _, h, .set none (hf _ (by simp [ids, ids1]))⟩
      · exact h.elim
    · exact h.elim
  · exact h.elim

theorem partsP_same {f : List Nat} : ∀ {vs : List AV} {s : Store} {K : List PV → Store → Prop}, partsP s vs K → (∀ v, v ∈ vs → ∀ id, id ∈ ids v → id ∈ f) → ∃ ps s', K ps s' ∧ Same f s s'
  | [], s, K, h, _ => ⟨[], s, h, .refl _ _⟩
  | v :: r, s, K, h, hf => by
    unfold partsP at h
    obtain ⟨p, s1, h1, h2⟩ := toP_same h (hf v (by simp))
    obtain ⟨ps, s2, h3, h4⟩ := partsP_same h1 (fun v hv => hf v (List.mem_cons_of_mem _ hv))
    exact ⟨_, s2, h3, h2.trans h4⟩

theorem appA_same {f : List Nat} {t : Nat} {x : AV} {ysz : Nat} {ys : List PV} {s : Store} {K : AV → Store → Prop} (h : appA P t x ysz ys s K) (hf : ∀ id, id ∈ ids x → id ∈ f) : ∃ v s', K v s' ∧ Same f s s' := by
  unfold appA at h
  repeat' split at h
  all_goals first
    | exact h.elim
    | skip
  all_goals try simp only [snoc_eq, setK_eq] at h
  all_goals first
    | (unfold Ob at h; exact ⟨_, _, h.2, .refl _ _⟩)
    | (unfold Ob at h; exact ⟨_, _, h.2, .set _ (hf _ (by simp [ids, ids1]))⟩)
    | (unfold BrL Ob at h
       by_cases hy : ys = []
       · exact ⟨_, _, h.1 hy, .refl _ _⟩
       · exact ⟨_, _, (h.2 hy).2, .snoc _ _ _⟩)

theorem aop_same {op : Op} {e : Env} {s : Store} {K : AV → Store → Prop} (h : aop P op e s K) (hs : stays op = false) (hnv : ∀ f args ts, op ≠ .call ⟨.value f, args, ts⟩) (hnm : offDraw op = false) : ∃ v s', K v s' ∧ Same (footT e op) s s' := by
  cases op
  case makeMap t r =>
    simp only [aop, snoc_eq] at h
    split at h
    · exact ⟨_, _, h, .snoc _ _ _⟩
    · exact h.elim
  case mapUpdate t x y z =>
    simp only [aop, mapUpdateA] at h
    split at h
    · rename_i hx _
      obtain ⟨p, s1, hq, h2⟩ := toP_same (f := footT e (.mapUpdate t x y z)) h (fun id hid => by simp only [footT]; exact List.mem_append_right _ hid)
      split at hq
      · split at hq
        · rw [setK_eq] at hq
          exact ⟨_, _, hq, h2.trans (.set _ (by simp only [footT, hx]; simp [ids, ids1]))⟩
        · exact hq.elim
      · exact hq.elim
    · exact h.elim
  case store t x y =>
    simp only [aop, storeA] at h
    split at h
    · exact h.elim
    · split at h
      · rename_i hx
        split at h
        · rw [setK_eq] at h
          unfold Ob at h
          exact ⟨_, _, h.2, .set _ (by simp only [footT, hx]; simp [ids, ids1])⟩
        · exact h.elim
      · rename_i hx
        split at h
        · split at h
          · rw [setK_eq] at h
            unfold Ob at h
            exact ⟨_, _, h.2, .set _ (by simp only [footT, hx]; simp [ids, ids1])⟩
          · exact h.elim
        · exact h.elim
      · exact h.elim
  case next x b =>
    simp only [aop] at h
    split at h
    · rename_i hx
      split at h
      · rw [setK_eq] at h
        unfold BrL at h
        by_cases hy : ‹List UInt8› = []
        · exact ⟨_, _, h.1 hy, .refl _ _⟩
        · exact ⟨_, _, h.2 hy, .set _ (by simp only [footT, hx]; simp [ids, ids1])⟩
      · exact h.elim
    · simp [offDraw] at hnm
    · exact h.elim
  case entry x => simp [offDraw] at hnm
  case alloc t =>
    simp only [aop, snoc_eq] at h
    split at h
    · split at h
      · rcases h with h | h
        · exact ⟨_, _, h, .snoc _ _ _⟩
        · exact ⟨_, _, h, .snoc _ _ _⟩
      · exact ⟨_, _, h, .snoc _ _ _⟩
    · exact h.elim
  case box t x =>
    simp only [aop, snoc_eq] at h
    split at h
    · exact ⟨_, _, h, .snoc _ _ _⟩
    · exact h.elim
  case makeSlice t x y =>
    simp only [aop, snoc_eq] at h
    repeat' split at h
    all_goals first
      | exact h.elim
      | skip
    unfold Ob at h
    exact ⟨_, _, h.2, .snoc _ _ _⟩
  case range t x =>
    simp only [aop, snoc_eq] at h
    split at h
    · exact ⟨_, _, h, .snoc _ _ _⟩
    · split at h
      · exact ⟨_, _, h, .snoc _ _ _⟩
      · exact h.elim
    · exact h.elim
  case buildSlice t n ps =>
    simp only [aop] at h
    have old : ∀ {sz : Nat}, (partsP s (ps.toList.map fun q => ev e q.2) fun xs s' => (match xs.all (fun x => Nat.beq x.cells.length sz && x.cells.all PV.one) with
        | true => K (.p (.sl .clip sz xs)) s'
        | false => False)) → ∃ v s', K v s' ∧ Same (footT e (.buildSlice t n ps)) s s' := by
      intro sz h
      obtain ⟨xs, s', h1, h2⟩ := partsP_same (f := footT e (.buildSlice t n ps)) h (fun v hv id hid => by
        obtain ⟨q, hq, rfl⟩ := List.mem_map.1 hv
        simp only [footT]; exact List.mem_flatMap.2 ⟨q, hq, hid⟩)
      split at h1
      · exact ⟨_, _, h1, h2⟩
      · exact h1.elim
    split at h
    · split at h
      · split at h
        · split at h
          · rcases h with h | h
            · exact old h
            · split at h
              · rw [snoc_eq] at h; exact ⟨_, _, h, .snoc _ _ _⟩
              · exact h.elim
          · exact old h
          · rcases h with h | h
            · exact old h
            · split at h
              · rw [snoc_eq] at h; exact ⟨_, _, h, .snoc _ _ _⟩
              · exact h.elim
        · exact h.elim
      · exact h.elim
    · exact h.elim
  case call c =>
    obtain ⟨callee, args, ts⟩ := c
    cases callee with
    | value f => exact absurd rfl (hnv f args ts)
    | invoke r n => simp only [aop, callA] at h
    | builtin b =>
      have hb : b = .append ∨ b = .unsafeString ∨ b = .delete := by cases b <;> first | exact .inl rfl | exact .inr (.inl rfl) | exact .inr (.inr rfl) | (simp [stays] at hs)
      rcases hb with rfl | rfl | rfl
      rotate_left 1
      rotate_left 1
      · simp only [aop, callA, builtinA] at h
        generalize hts : ts.toList = tl at h
        generalize has : args.toList.map (ev e) = al at h
        have hfoot : ∀ {v : AV}, v ∈ al → ∀ id, id ∈ ids v → id ∈ footT e (.call ⟨.builtin .delete, args, ts⟩) := fun {v} hv id hid => by
          rw [← has] at hv
          obtain ⟨x, hx, rfl⟩ := List.mem_map.1 hv
          simp only [footT]; exact List.mem_flatMap.2 ⟨x, hx, hid⟩
        split at h
        all_goals first
          | contradiction
          | skip
        · unfold deleteA at h
          split at h
          · split at h
            · split at h
              · rw [setK_eq] at h
                exact ⟨_, _, h, .set _ (hfoot List.mem_cons_self _ (by simp [ids, ids1]))⟩
              · exact h.elim
            · exact h.elim
          · exact h.elim
      rotate_left 1
      · simp only [aop, callA, builtinA] at h
        generalize hts : ts.toList = tl at h
        generalize has : args.toList.map (ev e) = al at h
        have hfoot : ∀ {v : AV}, v ∈ al → ∀ id, id ∈ ids v → id ∈ footT e (.call ⟨.builtin .unsafeString, args, ts⟩) := fun {v} hv id hid => by
          rw [← has] at hv
          obtain ⟨x, hx, rfl⟩ := List.mem_map.1 hv
          simp only [footT]; exact List.mem_flatMap.2 ⟨x, hx, hid⟩
        split at h
        all_goals first
          | contradiction
          | skip
        · split at h
          · unfold Ob at h
            exact ⟨_, _, h.2, .refl _ _⟩
          · split at h
            · split at h
              · unfold Ob at h
                obtain ⟨_, l, _, h⟩ := h
                rw [killK_eq] at h
                refine ⟨_, _, h, .set _ (hfoot List.mem_cons_self _ ?_)⟩
                simp [ids, ids1]
              · exact h.elim
            · exact h.elim
          · exact h.elim
      simp only [aop, callA, builtinA] at h
      generalize hts : ts.toList = tl at h
      generalize has : args.toList.map (ev e) = al at h
      have hfoot : ∀ {v : AV}, v ∈ al → ∀ id, id ∈ ids v → id ∈ footT e (.call ⟨.builtin .append, args, ts⟩) := fun {v} hv id hid => by
        rw [← has] at hv
        obtain ⟨x, hx, rfl⟩ := List.mem_map.1 hv
        simp only [footT]; exact List.mem_flatMap.2 ⟨x, hx, hid⟩
      repeat' split at h
      all_goals first
        | exact h.elim
        | contradiction
        | exact appA_same h (hfoot (by simp))
        | skip
      · rw [snoc_eq] at h
        unfold Ob at h
        exact ⟨_, _, h.2, .snoc _ _ _⟩
      unfold elems at h
      repeat' split at h
      all_goals first
        | exact h.elim
        | exact appA_same h (hfoot (by simp))
        | (unfold Ob at h; exact appA_same h.2 (hfoot (by simp)))
  all_goals (simp [stays] at hs)
end Go.Proofs.Ytneheklmkbhieaa.AW

namespace Go.Proofs.Ytneheklmkbhieaa.AW
set_option linter.unusedSimpArgs false
set_option linter.unusedVariables false
variable {P : Program}

theorem aop_local {o : Oper} {e : Env} {s : Store} {K : AV → Store → Prop} {w : World} {g : G} {σ : St} {a : Act} {T : Nat → Prop} {N : Prop} (h : aop P o.op e s K) (hnv : ∀ f args ts, o.op ≠ .call ⟨.value f, args, ts⟩) (hnm : offDraw o.op = false)
    (hN : ∀ v s', K v s' → s.length < s'.length → N) (c : Cx w g σ s T N) (hG : Gk P w g σ) (hT : ∀ id, id ∈ footT e o.op → T id) (he : EnvR w g σ e a.tmps) : OpOk P o a w (Rs w g σ s T K) := by
  generalize hop : o.op = op at h
  rw [hop] at hT hnv hnm
  cases op
  case move => exact ok_move (.inl hop) (by simpa [aop] using h) c he
  case assign => exact ok_move (.inr hop) (by simpa [aop] using h) c he
  case pick => exact ok_pick hop h c he
  case alloc => exact ok_alloc hop h hN c
  case box => exact ok_box hop h hN c he
  case build => exact ok_build hop h c he
  case buildSlice => exact ok_buildSlice hop h hN c (fun q hq id hid => hT id (by simp only [footT]; exact List.mem_flatMap.2 ⟨q, hq, hid⟩)) he
  case load => exact ok_load hop h c (fun id hid => hT id hid) he
  case store => exact ok_store hop h c (fun id hid => hT id hid) he
  case nilCheck => exact ok_nilCheck hop h c he
  case binOp => exact ok_binOp hop h c (fun i q j r h1 h2 => ⟨hT i (by simp only [footT, h1, h2]; simp), hT j (by simp only [footT, h1, h2]; simp)⟩) he
  case unOp => exact ok_unOp hop h c he
  case convert => exact ok_convert hop h c (fun id hid => hT id hid) he
  case makeInterface => exact ok_makeInterface hop h c (fun id hid => hT id hid) he
  case makeFunc => exact ok_makeFunc hop h c he
  case makeSlice => exact ok_makeSlice hop h hN c he
  case slice => exact ok_slice hop h c (fun id hid => hT id hid) he
  case fieldAddr => exact ok_fieldAddr hop h c he
  case field => exact ok_field hop h c he
  case indexAddr => exact ok_indexAddr hop h c hG (fun id hid => hT id hid) he
  case index => exact ok_index hop h c he
  case range => exact ok_range hop h hN c (fun id hid => hT id hid) he
  case makeMap => exact ok_makeMap hop h hN c
  case lookup => exact ok_lookup hop h c (fun id hid => hT id hid) he
  case mapUpdate => exact ok_mapUpdate hop h c (fun id hid => hT id hid) he
  case next x isS => exact ok_next hop h c (fun id hid => hT id hid) (fun _ _ _ _ hf _ _ => by subst hf; simp [offDraw] at hnm) he
  case entry x => simp [offDraw] at hnm
  case typeAssert => exact ok_typeAssert hop h c he
  case extract => exact ok_extract hop h c he
  case call cl =>
    obtain ⟨callee, args, ts⟩ := cl
    simp only [aop, callA] at h
    cases callee with
    | builtin b => exact ok_builtin hop h hN c (fun x hx id hid => hT id (by simp only [footT]; exact List.mem_flatMap.2 ⟨x, hx, hid⟩)) he
    | value f => exact absurd rfl (hnv f args ts)
    | invoke r n => exact h.elim
  all_goals (simp only [aop] at h)

/-! ### The steps in the order of the text -/
structure Step where
  o : Oper
  v : AV
  e0 : Env
  s0 : Store
  s1 : Store
  f : Foot

def StepSem (P : Program) (x : Step) : Prop := dop P x.o x.e0 x.s0 fun v s' f => v = x.v ∧ s' = x.s1 ∧ f = x.f

def Does (P : Program) (n : Nat) (ops : Array Oper) (x : Step) : Prop := match x.o.guard with
  | none => StepSem P x
  | some (j, want) => ∃ t b, (ops[j]?).bind (·.dst) = some t ∧ t < n ∧ x.e0 t = .p (.bool b) ∧
      ((b == want) = true ∧ StepSem P x ∨ (b == want) = false ∧ x.v = .undef ∧ x.s1 = x.s0 ∧ x.f = ⟨[], false, x.s0.length, x.s0.length, false⟩)

theorem dop_elim {o : Oper} {e : Env} {s : Store} {K : AV → Store → Foot → Prop} (h : dop P o e s K) : ∃ v s' f, dop P o e s (fun v' s'' f' => v' = v ∧ s'' = s' ∧ f' = f) ∧ K v s' f := by
  unfold dop at h ⊢
  split at h
  · split at h
    · split at h
      · obtain ⟨v0, h1, h2, h3⟩ := h
        exact ⟨v0, _, _, ⟨v0, h1, h2, rfl, rfl, rfl⟩, h3⟩
      · obtain ⟨v0, s0, h1, h2, h3⟩ := h
        exact ⟨v0, _, _, ⟨v0, s0, h1, h2, rfl, rfl, rfl⟩, h3⟩
    · exact h.elim
  · exact h.elim
  · exact h.elim
  · split at h
    · obtain ⟨v0, h1, h3⟩ := h
      exact ⟨v0, _, _, ⟨v0, h1, rfl, rfl, rfl⟩, h3⟩
    · obtain ⟨v0, s0, h1, h2, h3⟩ := h
      exact ⟨v0, _, _, ⟨v0, s0, h1, h2, rfl, rfl, rfl⟩, h3⟩

def Chain (n : Nat) : List Step → Env → Store → Env → Store → Prop
  | [], e, s, e', s' => e = e' ∧ s = s'
  | x :: r, e, s, e', s' => x.e0 = e ∧ x.s0 = s ∧ (∀ t, x.o.dst = some t → t < n) ∧ Chain n r (put e x.o.dst x.v) x.s1 e' s'

theorem putK_put {n : Nat} {e : Env} {dst : Option Nat} {v : AV} {K : Env → Prop} (h : putK n e dst v K) : (∀ t, dst = some t → t < n) ∧ K (put e dst v) := by
  unfold putK at h
  split at h
  · exact ⟨(fun _ h => nomatch h), h⟩
  · split at h
    · rename_i hb
      refine ⟨fun t ht => ?_, h⟩
      cases ht
      have : (_ + 1).ble n = true := hb
      exact Nat.le_of_ble_eq_true this
    · exact h.elim

theorem adops_trace {n : Nat} {ops : Array Oper} {K : Env → Store → Prop} : ∀ {l : List Oper} {tr : List (Oper × Foot)} {e : Env} {s : Store}, adops P n ops l tr K e s →
    ∃ xs e' s', xs.map (·.o) = l ∧ Chain n xs e s e' s' ∧ (∀ x, x ∈ xs → Does P n ops x) ∧ chkAll ops ops.size [] (tr ++ xs.map fun x => (x.o, x.f)) = true ∧ K e' s' := by
  intro l
  induction l with
  | nil =>
    intro tr e s h
    rw [adops_nil] at h
    unfold Chk at h
    obtain ⟨hb, h⟩ := h
    simp only [Bool.and_eq_true] at hb
    exact ⟨[], e, s, rfl, ⟨rfl, rfl⟩, (fun x hx => nomatch hx), by simpa using hb.1, h⟩
  | cons o rest ih =>
    intro tr e s h
    have go : ∀ (x : Step), x.o = o → x.e0 = e → x.s0 = s → Does P n ops x → (putK n e o.dst x.v fun e' => adops P n ops rest (tr ++ [(o, x.f)]) K e' x.s1) →
        ∃ xs e' s', xs.map (·.o) = o :: rest ∧ Chain n xs e s e' s' ∧ (∀ x, x ∈ xs → Does P n ops x) ∧ chkAll ops ops.size [] (tr ++ xs.map fun x => (x.o, x.f)) = true ∧ K e' s' := by
      intro x h1 h2 h3 h4 h5
      obtain ⟨h6, h7⟩ := putK_put h5
      obtain ⟨xs, e', s', k1, k2, k3, k4, k5⟩ := ih h7
      refine ⟨x :: xs, e', s', by simp [h1, k1], ⟨h2, h3, by rw [h1]; exact h6, by rw [h1]; exact k2⟩, fun y hy => ?_, by simpa [h1] using k4, k5⟩
      rcases List.mem_cons.1 hy with rfl | hy
      · exact h4
      · exact k3 y hy
    rw [adops_cons] at h
    split at h
    · rename_i hg
      obtain ⟨v, s', f, h1, h2⟩ := dop_elim h
      exact go ⟨o, v, e, s, s', f⟩ rfl rfl rfl (by unfold Does; rw [hg]; exact h1) h2
    · rename_i j want hg
      split at h
      · rename_i t ht
        split at h
        · rename_i b hlt hev
          have hlt : t < n := by
            have : (t + 1).ble n = true := hlt
            exact Nat.le_of_ble_eq_true this
          unfold Br at h
          cases hb : (b == want) with
          | true =>
            obtain ⟨v, s', f, h1, h2⟩ := dop_elim (h.1 hb)
            exact go ⟨o, v, e, s, s', f⟩ rfl rfl rfl (by unfold Does; rw [hg]; exact ⟨t, b, ht, hlt, hev, .inl ⟨hb, h1⟩⟩) h2
          | false =>
            exact go ⟨o, .undef, e, s, s, ⟨[], false, s.length, s.length, false⟩⟩ rfl rfl rfl (by unfold Does; rw [hg]; exact ⟨t, b, ht, hlt, hev, .inr ⟨hb, rfl, rfl, rfl⟩⟩) (h.2 hb)
        · exact h.elim
      · exact h.elim

/-! ### What a step touches -/
def isWr (x : Step) (id : Nat) : Bool := x.f.all || memB id x.f.write

theorem memB_iff {x : Nat} : ∀ {l : List Nat}, memB x l = true ↔ x ∈ l
  | [] => by simp [memB]
  | y :: r => by
    simp only [memB, Bool.or_eq_true, memB_iff (l := r), List.mem_cons]
    exact ⟨fun h => h.imp (fun h => Nat.eq_of_beq_eq_true h) id, fun h => h.imp (fun h => by subst h; simp) id⟩

theorem mem_news {f : Foot} {id : Nat} : id ∈ f.news ↔ f.n0 ≤ id ∧ id < f.n1 := by
  unfold Foot.news
  simp only [List.mem_map, List.mem_range]
  exact ⟨fun ⟨k, h1, h2⟩ => by omega, fun ⟨h1, h2⟩ => ⟨id - f.n0, by omega, by omega⟩⟩

/-- What is known of a step's stores. -/
structure Fine (x : Step) : Prop where
  len : x.s0.length ≤ x.s1.length
  n0 : x.f.n0 = x.s0.length
  n1 : x.f.n1 = x.s1.length
  same : ∀ id, isWr x id = false → getO x.s1 id = getO x.s0 id

theorem mem_write {f : Foot} {id : Nat} : id ∈ f.write ↔ (f.wr = true ∧ id ∈ f.t) ∨ id ∈ f.news := by
  unfold Foot.write
  cases f.wr <;> simp

theorem isWr_iff {x : Step} {id : Nat} : isWr x id = true ↔ x.f.all = true ∨ (x.f.wr = true ∧ id ∈ x.f.t) ∨ id ∈ x.f.news := by
  unfold isWr
  rw [Bool.or_eq_true, memB_iff, mem_write]

theorem notNext {o : Oper} (hop : offDraw o.op = true) {e : Env} {s : Store} {K : AV → Store → Foot → Prop} (h : dop P o e s K) : False := by
  unfold dop at h
  unfold offDraw at hop
  split at hop
  · rename_i q; rw [q] at h; exact h
  · rename_i q; rw [q] at h; exact h
  · cases hop
theorem notCall {o : Oper} (h : ∀ f args ts, o.op ≠ .call ⟨.value f, args, ts⟩) (hm : offDraw o.op = false) {e : Env} {s : Store} {K : AV → Store → Foot → Prop} : dop P o e s K = (match stays o.op with
    | true => ∃ v0, aop P o.op e s (fun v s' => v = v0 ∧ s' = s) ∧ K v0 s ⟨footT e o.op, false, s.length, s.length, false⟩
    | false => ∃ v0 s0, aop P o.op e s (fun v s' => v = v0 ∧ s' = s0) ∧ Nat.ble s.length s0.length = true ∧ K v0 s0 ⟨footT e o.op, true, s.length, s0.length, false⟩) := by
  unfold dop
  split
  · rename_i hop; exact absurd hop (h _ _ _)
  · rename_i hop; rw [hop] at hm; simp [offDraw] at hm
  · rename_i hop; rw [hop] at hm; simp [offDraw] at hm
  · rfl

theorem StepSem.fine {x : Step} (h : StepSem P x) : Fine x := by
  unfold StepSem at h
  by_cases hc : ∃ f args ts, x.o.op = .call ⟨.value f, args, ts⟩
  · obtain ⟨f, args, ts, hop⟩ := hc
    unfold dop at h
    rw [hop] at h
    simp only [] at h
    split at h
    · split at h
      · obtain ⟨v0, _, _, _, h1, h2⟩ := h
        exact ⟨by rw [← h1]; exact Nat.le_refl _, by rw [← h2], by rw [← h2, ← h1], fun id _ => by rw [← h1]⟩
      · obtain ⟨v0, s0, _, hle, _, h1, h2⟩ := h
        subst h1
        exact ⟨Nat.le_of_ble_eq_true hle, by rw [← h2], by rw [← h2], fun id hid => by
          have : isWr x id = true := isWr_iff.2 (.inl (by rw [← h2]))
          rw [this] at hid; cases hid⟩
    · exact h.elim
  · have hnv : ∀ f args ts, x.o.op ≠ .call ⟨.value f, args, ts⟩ := fun f args ts e => hc ⟨f, args, ts, e⟩
    by_cases hnx : offDraw x.o.op = true
    · exact (notNext hnx h).elim
    have hnm : offDraw x.o.op = false := by simpa using hnx
    rw [notCall hnv hnm] at h
    split at h
    · obtain ⟨v0, _, _, h1, h2⟩ := h
      exact ⟨by rw [← h1]; exact Nat.le_refl _, by rw [← h2], by rw [← h2, ← h1], fun id _ => by rw [← h1]⟩
    · rename_i hst
      obtain ⟨v0, s0, ha, hle, _, h1, h2⟩ := h
      subst h1
      obtain ⟨v, s', ⟨_, rfl⟩, hsame⟩ := aop_same ha hst hnv hnm
      refine ⟨hsame.1, by rw [← h2], by rw [← h2], fun id hid => ?_⟩
      have hnot : ¬ isWr x id = true := by simp [hid]
      rw [isWr_iff] at hnot
      have h3 : ¬ id ∈ x.f.news := fun hx => hnot (.inr (.inr hx))
      have h4 : ¬ id ∈ x.f.t := fun hx => hnot (.inr (.inl ⟨by rw [← h2], hx⟩))
      rw [mem_news, ← h2] at h3
      rw [← h2] at h4
      simp only [] at h3
      by_cases hlt : id < x.s0.length
      · exact hsame.2 id h4 hlt
      · rw [getO_out (by omega), getO_out (by omega)]

theorem Does.fine {n : Nat} {ops : Array Oper} {x : Step} (h : Does P n ops x) : Fine x := by
  unfold Does at h
  split at h
  · exact h.fine
  · obtain ⟨t, b, _, _, _, h⟩ := h
    rcases h with ⟨_, h⟩ | ⟨_, _, h1, h2⟩
    · exact h.fine
    · exact ⟨by rw [h1]; exact Nat.le_refl _, by rw [h2], by rw [h2, h1], fun id _ => by rw [h1]⟩

/-! ### Some of the steps, in the order of the text -/
def envF (S : Nat → Bool) : Nat → List Step → Env → Env
  | _, [], e => e
  | k, x :: r, e => envF S (k + 1) r (if S k then put e x.o.dst x.v else e)
def stF (S : Nat → Bool) : Nat → List Step → St → St
  | _, [], σ => σ
  | k, x :: r, σ => stF S (k + 1) r (if S k then (fun id => if isWr x id then getO x.s1 id else σ id) else σ)

theorem put_ne {e : Env} {dst : Option Nat} {v : AV} {t : Nat} (h : dst ≠ some t) : put e dst v t = e t := by
  cases dst with
  | none => rfl
  | some d =>
    simp only [put, upd]
    split
    · rename_i hb; exact absurd (congrArg some (Nat.eq_of_beq_eq_true hb)) h
    · rfl
theorem put_eq {e : Env} {v : AV} {t : Nat} : put e (some t) v t = v := by simp [put, upd]

theorem envF_eq {S S' : Nat → Bool} {t : Nat} : ∀ {xs : List Step} {k : Nat} {e e' : Env}, (∀ i x, xs[i]? = some x → x.o.dst = some t → S (k + i) = S' (k + i)) → e t = e' t → envF S k xs e t = envF S' k xs e' t
  | [], _, _, _, _, h => h
  | x :: r, k, e, e', hs, h => by
    unfold envF
    refine envF_eq (fun i y hi hy => ?_) ?_
    · have := hs (i + 1) y (by simpa using hi) hy
      rwa [show k + (i + 1) = k + 1 + i by omega] at this
    · by_cases hd : x.o.dst = some t
      · have := hs 0 x (by simp) hd
        simp only [Nat.add_zero] at this
        rw [this]
        split
        · rw [hd, put_eq, put_eq]
        · exact h
      · have : ∀ (e : Env) (b : Bool), (if b then put e x.o.dst x.v else e) t = e t := fun e b => by cases b <;> simp [put_ne hd]
        rw [this, this]; exact h

theorem stF_eq {S S' : Nat → Bool} {id : Nat} : ∀ {xs : List Step} {k : Nat} {σ σ' : St}, (∀ i x, xs[i]? = some x → isWr x id = true → S (k + i) = S' (k + i)) → σ id = σ' id → stF S k xs σ id = stF S' k xs σ' id
  | [], _, _, _, _, h => h
  | x :: r, k, σ, σ', hs, h => by
    unfold stF
    refine stF_eq (fun i y hi hy => ?_) ?_
    · have := hs (i + 1) y (by simpa using hi) hy
      rwa [show k + (i + 1) = k + 1 + i by omega] at this
    · by_cases hd : isWr x id = true
      · have := hs 0 x (by simp) hd
        simp only [Nat.add_zero] at this
        rw [this]
        split
        · simp only [hd, if_true]
        · exact h
      · have : ∀ (σ : St) (b : Bool), (if b then (fun id => if isWr x id then getO x.s1 id else σ id) else σ) id = σ id := fun e b => by cases b <;> simp [hd]
        rw [this, this]; exact h

def stateAt : List Step → Env → Store → Nat → Env × Store
  | _, e, s, 0 => (e, s)
  | [], e, s, _ + 1 => (e, s)
  | x :: r, e, _, j + 1 => stateAt r (put e x.o.dst x.v) x.s1 j

theorem stateAt_get {n : Nat} : ∀ {xs : List Step} {e : Env} {s : Store} {e' : Env} {s' : Store} {j : Nat} {x : Step}, Chain n xs e s e' s' → xs[j]? = some x → stateAt xs e s j = (x.e0, x.s0) ∧ stateAt xs e s (j + 1) = (put x.e0 x.o.dst x.v, x.s1)
  | [], _, _, _, _, _, _, _, h => by simp at h
  | y :: r, e, s, e', s', 0, x, hc, h => by
    simp at h; subst h
    obtain ⟨h1, h2, _, h3⟩ := hc
    simp [stateAt, h1, h2]
  | y :: r, e, s, e', s', j + 1, x, hc, h => by
    obtain ⟨h1, h2, _, h3⟩ := hc
    exact stateAt_get (j := j) h3 (by simpa using h)

theorem stateAt_end {n : Nat} : ∀ {xs : List Step} {e : Env} {s : Store} {e' : Env} {s' : Store}, Chain n xs e s e' s' → stateAt xs e s xs.length = (e', s')
  | [], e, s, e', s', h => by simp [stateAt, h.1, h.2]
  | x :: r, e, s, e', s', h => stateAt_end (xs := r) h.2.2.2

theorem envF_stop {S : Nat → Bool} : ∀ {xs : List Step} {k : Nat} {e : Env}, (∀ i, k ≤ i → S i = false) → envF S k xs e = e
  | [], _, _, _ => rfl
  | x :: r, k, e, h => by unfold envF; rw [h k (Nat.le_refl _)]; exact envF_stop fun i hi => h i (by omega)
theorem stF_stop {S : Nat → Bool} : ∀ {xs : List Step} {k : Nat} {σ : St}, (∀ i, k ≤ i → S i = false) → stF S k xs σ = σ
  | [], _, _, _ => rfl
  | x :: r, k, σ, h => by unfold stF; rw [h k (Nat.le_refl _)]; exact stF_stop fun i hi => h i (by omega)

theorem upto_state {n : Nat} : ∀ {xs : List Step} {e : Env} {s : Store} {e' : Env} {s' : Store} {j k : Nat}, Chain n xs e s e' s' → (∀ x, x ∈ xs → Fine x) → j ≤ xs.length →
    envF (fun i => decide (i < k + j)) k xs e = (stateAt xs e s j).1 ∧ stF (fun i => decide (i < k + j)) k xs (getO s) = getO (stateAt xs e s j).2
  | xs, e, s, e', s', 0, k, _, _, _ => by
    have h : ∀ i, k ≤ i → decide (i < k + 0) = false := fun i hi => by simp; omega
    cases xs <;> exact ⟨envF_stop h, stF_stop h⟩
  | [], _, _, _, _, j + 1, _, _, _, h => by simp at h
  | x :: r, e, s, e', s', j + 1, k, hc, hf, hl => by
    obtain ⟨h1, h2, _, h3⟩ := hc
    have ih := upto_state (j := j) (k := k + 1) h3 (fun y hy => hf y (List.mem_cons_of_mem _ hy)) (by simpa using hl)
    rw [show k + 1 + j = k + (j + 1) by omega] at ih
    unfold envF stF stateAt
    have hk : decide (k < k + (j + 1)) = true := by simp
    simp only [hk, if_true]
    have : (fun id => if isWr x id then getO x.s1 id else getO s id) = getO x.s1 := by
      funext id
      split
      · rfl
      · rename_i hw
        rw [← h2]; exact ((hf x (by simp)).same id (by simpa using hw)).symm
    rw [this]
    exact ih

theorem chain_mono {n : Nat} : ∀ {xs : List Step} {e : Env} {s : Store} {e' : Env} {s' : Store} {i : Nat} {x : Step}, Chain n xs e s e' s' → (∀ x, x ∈ xs → Fine x) → xs[i]? = some x → s.length ≤ x.s0.length ∧ x.s1.length ≤ s'.length
  | [], _, _, _, _, _, _, _, _, h => by simp at h
  | y :: r, e, s, e', s', 0, x, ⟨h1, h2, _, h3⟩, hf, h => by
    simp at h; subst h
    refine ⟨by rw [h2]; exact Nat.le_refl _, ?_⟩
    have := chain_len h3 (fun y hy => hf y (List.mem_cons_of_mem _ hy))
    exact this
  | y :: r, e, s, e', s', i + 1, x, ⟨h1, h2, _, h3⟩, hf, h => by
    have h4 := chain_mono (i := i) h3 (fun y hy => hf y (List.mem_cons_of_mem _ hy)) (by simpa using h)
    have := (hf y (by simp)).len
    rw [h2] at this
    exact ⟨by omega, h4.2⟩
where
  chain_len {n : Nat} : ∀ {xs : List Step} {e : Env} {s : Store} {e' : Env} {s' : Store}, Chain n xs e s e' s' → (∀ x, x ∈ xs → Fine x) → s.length ≤ s'.length
  | [], _, _, _, _, ⟨_, h⟩, _ => by rw [h]; exact Nat.le_refl _
  | y :: r, e, s, e', s', ⟨h1, h2, _, h3⟩, hf => by
    have h4 := chain_len h3 (fun y hy => hf y (List.mem_cons_of_mem _ hy))
    have := (hf y (by simp)).len
    rw [h2] at this
    omega

theorem chain_lt {n : Nat} {e' : Env} {s' : Store} {x y : Step} : ∀ {xs : List Step} {e : Env} {s : Store} {i j : Nat}, Chain n xs e s e' s' → (∀ x, x ∈ xs → Fine x) → xs[i]? = some x → xs[j]? = some y → i < j → x.s1.length ≤ y.s0.length := by
  intro xs
  induction xs with
  | nil => intro e s i j _ _ h; simp at h
  | cons z r ih =>
    intro e s i j hc hf h k hij
    have hf' : ∀ x, x ∈ r → Fine x := fun y hy => hf y (List.mem_cons_of_mem _ hy)
    cases j with
    | zero => omega
    | succ j =>
      cases i with
      | zero =>
        simp at h; subst h
        exact (chain_mono hc.2.2.2 hf' (by simpa using k)).1
      | succ i => exact ih hc.2.2.2 hf' (by simpa using h) (by simpa using k) (by omega)

theorem chain_dst {n : Nat} {e' : Env} {s' : Store} {x : Step} : ∀ {xs : List Step} {e : Env} {s : Store}, Chain n xs e s e' s' → x ∈ xs → ∀ t, x.o.dst = some t → t < n := by
  intro xs
  induction xs with
  | nil => intro e s _ h; cases h
  | cons z r ih =>
    intro e s hc hx
    rcases List.mem_cons.1 hx with rfl | hx
    · exact hc.2.2.1
    · exact ih hc.2.2.2 hx
end Go.Proofs.Ytneheklmkbhieaa.AW

namespace Go.Proofs.Ytneheklmkbhieaa.AW
set_option linter.unusedSimpArgs false
set_option linter.unusedVariables false
variable {P : Program}

theorem OpOk.mono {o : Oper} {a : Act} {w : World} {R R' : Value → World → Prop} (h : OpOk P o a w R) (k : ∀ y w', R y w' → R' y w') : OpOk P o a w R' := by
  unfold OpOk at h ⊢
  generalize (execOp a.eval o).run P w = r at *
  cases r with
  | ok n w' =>
    cases n <;> first
      | exact k _ _ h
      | exact Calls.mono h (fun e w'' he => by cases e <;> first | exact k _ _ he | exact he.elim)
      | exact h.elim
  | halt x w' => exact h.elim

theorem conf_wr {ops : Array Oper} {x y : Step} {id : Nat} (hy : isWr y id = true) (hx : x.f.all = true ∨ id ∈ x.f.touch) : noConf ops y.o x.o y.f x.f = false := by
  rw [Bool.eq_false_iff]
  intro h
  unfold noConf at h
  simp only [Bool.and_eq_true, Bool.or_eq_true, Bool.not_eq_true'] at h
  obtain ⟨⟨⟨⟨_, h1⟩, h2⟩, h3⟩, h4⟩ := h
  have quiet : ∀ {f : Foot}, f.quiet = true → f.all = false ∧ f.touch = [] := fun {f} h => by
    unfold Foot.quiet at h
    simpa using h
  have hw : y.f.all = true ∨ id ∈ y.f.write := by
    unfold isWr at hy
    rw [Bool.or_eq_true, memB_iff] at hy; exact hy
  have wt : ∀ {f : Foot}, id ∈ f.write → id ∈ f.touch := fun {f} h => by
    rw [mem_write] at h
    unfold Foot.touch
    rcases h with h | h
    · exact List.mem_append_left _ h.2
    · exact List.mem_append_right _ h
  rcases hx with hx | hx
  · rcases h4 with h4 | h4
    · rw [hx] at h4; cases h4
    · obtain ⟨q1, q2⟩ := quiet h4
      rcases hw with hw | hw
      · rw [hw] at q1; cases q1
      · have := wt hw; rw [q2] at this; cases this
  · rcases hw with hw | hw
    · rcases h3 with h3 | h3
      · rw [hw] at h3; cases h3
      · have := (quiet h3).2; rw [this] at hx; cases hx
    · unfold disj at h1
      have := List.all_eq_true.1 h1 id hw
      rw [memB_iff.2 hx] at this; cases this

theorem conf_dst {ops : Array Oper} {x y : Step} {t : Nat} (hy : y.o.dst = some t) (hx : t ∈ x.o.looksAt ops ∨ x.o.dst = some t) : noConf ops y.o x.o y.f x.f = false := by
  rw [Bool.eq_false_iff]
  intro h
  unfold noConf at h
  simp only [Bool.and_eq_true] at h
  obtain ⟨q1, q2, q3⟩ := Oper.apart_spec h.1.1.1.1
  rcases hx with hx | hx
  · exact q1 t hy hx
  · exact q2 t hy hx

theorem looks_op {ops : Array Oper} {o : Oper} {t : Nat} (h : Operand.tmp t ∈ o.op.operands.toList) : t ∈ o.looksAt ops := by
  unfold Oper.looksAt
  refine List.mem_append_left _ ?_
  rw [List.mem_filterMap]
  exact ⟨.tmp t, h, rfl⟩

theorem stF_none {S : Nat → Bool} {id : Nat} : ∀ {xs : List Step} {k : Nat} {σ : St}, (∀ x, x ∈ xs → getO x.s1 id = none) → σ id = none → stF S k xs σ id = none
  | [], _, _, _, h => h
  | x :: r, k, σ, hx, h => by
    unfold stF
    refine stF_none (fun y hy => hx y (List.mem_cons_of_mem _ hy)) ?_
    split
    · show (if isWr x id = true then getO x.s1 id else σ id) = none
      split
      · exact hx x (by simp)
      · exact h
    · exact h

theorem allP_eq : ∀ {l : List AV} {ps : List PV}, allP l = some ps → l = ps.map AV.p
  | [], ps, h => by simp [allP] at h; subst h; rfl
  | z :: r, ps, h => by
    cases z <;> simp [allP] at h
    obtain ⟨qs, hq, rfl⟩ := h
    simp [allP_eq hq]

structure D (w : World) (g : G) (s : Store) (e : Env) (xs : List Step) (n : Nat) (S : Nat → Bool) (w' : World) (g' : G) (a' : Act) : Prop where
  inv : Inv w' g' (stF S 0 xs (getO s))
  env : EnvR w' g' (stF S 0 xs (getO s)) (envF S 0 xs e) a'.tmps
  size : a'.tmps.size = n
  defers : a'.defers = []
  ext : Ext w g (getO s) w' g' (stF S 0 xs (getO s))
  new : ∀ id, g'.C id → g.C id ∨ ∃ k x, xs[k]? = some x ∧ S k = true ∧ x.s0.length ≤ id ∧ id < x.s1.length

section
variable {w : World} {g : G} {s : Store} {e : Env} {xs : List Step} {n : Nat} {ops : Array Oper} {e' : Env} {s' : Store} {S : Nat → Bool} {i : Nat} {x : Step} {w1 : World} {g1 : G} {a1 : Act}

/-- The step i in the midst of others. -/
structure Mid (ops : Array Oper) (n : Nat) (xs : List Step) (e : Env) (s : Store) (e' : Env) (s' : Store) (S : Nat → Bool) (i : Nat) (x : Step) : Prop where
  chain : Chain n xs e s e' s'
  fine : ∀ x, x ∈ xs → Fine x
  at_ : xs[i]? = some x
  out : S i = false
  agree : ∀ k y, xs[k]? = some y → k ≠ i → noConf ops y.o x.o y.f x.f = false → S k = decide (k < i)

def also (S : Nat → Bool) (i : Nat) : Nat → Bool := fun k => S k || decide (k = i)

theorem Mid.mem (m : Mid ops n xs e s e' s' S i x) : x ∈ xs := List.mem_of_getElem? m.at_
theorem Mid.lt (m : Mid ops n xs e s e' s' S i x) : i < xs.length := (List.getElem?_eq_some_iff.1 m.at_).1

theorem Mid.env0 (m : Mid ops n xs e s e' s' S i x) {t : Nat} (h : t ∈ x.o.looksAt ops) : envF S 0 xs e t = x.e0 t := by
  have h1 := upto_state (k := 0) m.chain m.fine (Nat.le_of_lt m.lt)
  rw [(stateAt_get m.chain m.at_).1] at h1
  refine Eq.trans ?_ (congrFun h1.1 t)
  refine envF_eq (fun k y hk hy => ?_) rfl
  by_cases hki : k = i
  · subst hki; rw [Nat.zero_add, m.out]; simp
  · rw [Nat.zero_add, m.agree k y hk hki (conf_dst hy (.inl h))]; simp

theorem Mid.st0 (m : Mid ops n xs e s e' s' S i x) {id : Nat} (h : x.f.all = true ∨ id ∈ x.f.touch) : stF S 0 xs (getO s) id = getO x.s0 id := by
  have h1 := upto_state (k := 0) m.chain m.fine (Nat.le_of_lt m.lt)
  rw [(stateAt_get m.chain m.at_).1] at h1
  show _ = getO x.s0 id
  rw [← h1.2]
  refine stF_eq (fun k y hk hy => ?_) rfl
  by_cases hki : k = i
  · subst hki; rw [Nat.zero_add, m.out]; simp
  · rw [Nat.zero_add, m.agree k y hk hki (conf_wr hy h)]; simp

theorem Mid.env1 (m : Mid ops n xs e s e' s' S i x) {t : Nat} (h : x.o.dst = some t) : envF (also S i) 0 xs e t = x.v := by
  have h1 := upto_state (k := 0) m.chain m.fine (Nat.succ_le_of_lt m.lt)
  rw [(stateAt_get m.chain m.at_).2] at h1
  have : put x.e0 x.o.dst x.v t = x.v := by rw [h]; exact put_eq
  rw [← this]
  refine Eq.trans ?_ (congrFun h1.1 t)
  refine envF_eq (fun k y hk hy => ?_) rfl
  rw [Nat.zero_add]
  unfold also
  by_cases hki : k = i
  · subst hki; simp
  · rw [m.agree k y hk hki (conf_dst hy (.inr h))]; simp [hki]; omega

theorem Mid.env2 (m : Mid ops n xs e s e' s' S i x) {t : Nat} (h : x.o.dst ≠ some t) : envF (also S i) 0 xs e t = envF S 0 xs e t := by
  refine envF_eq (fun k y hk hy => ?_) rfl
  rw [Nat.zero_add]
  unfold also
  by_cases hki : k = i
  · subst hki; rw [m.at_] at hk; cases hk; exact absurd hy h
  · simp [hki]

theorem wr_touch {id : Nat} (h : isWr x id = true) : x.f.all = true ∨ id ∈ x.f.touch := by
  rw [isWr_iff] at h
  unfold Foot.touch
  rcases h with h | h | h
  · exact .inl h
  · exact .inr (List.mem_append_left _ h.2)
  · exact .inr (List.mem_append_right _ h)

theorem Mid.st1 (m : Mid ops n xs e s e' s' S i x) {id : Nat} (h : isWr x id = true) : stF (also S i) 0 xs (getO s) id = getO x.s1 id := by
  have h1 := upto_state (k := 0) m.chain m.fine (Nat.succ_le_of_lt m.lt)
  rw [(stateAt_get m.chain m.at_).2] at h1
  show _ = getO x.s1 id
  rw [← h1.2]
  refine stF_eq (fun k y hk hy => ?_) rfl
  rw [Nat.zero_add]
  unfold also
  by_cases hki : k = i
  · subst hki; simp
  · rw [m.agree k y hk hki (conf_wr hy (wr_touch h))]; simp [hki]; omega

theorem Mid.st2 (m : Mid ops n xs e s e' s' S i x) {id : Nat} (h : isWr x id = false) : stF (also S i) 0 xs (getO s) id = stF S 0 xs (getO s) id := by
  refine stF_eq (fun k y hk hy => ?_) rfl
  rw [Nat.zero_add]
  unfold also
  by_cases hki : k = i
  · subst hki; rw [m.at_] at hk; cases hk; rw [hy] at h; cases h
  · simp [hki]

theorem Mid.ev0 (m : Mid ops n xs e s e' s' S i x) : ∀ y, y ∈ x.o.op.operands.toList → ev x.e0 y = ev (envF S 0 xs e) y := fun y hy => by
  cases y with
  | tmp t => exact (m.env0 (looks_op hy)).symm
  | _ => rfl

/-- What is known behind the step. -/
def Beh (w1 : World) (g1 : G) (σ σ' : St) (x : Step) (y : Value) (w2 : World) : Prop :=
  ∃ g2, RepA w2 g2 σ' x.v y ∧ Inv w2 g2 σ' ∧ Ext w1 g1 σ w2 g2 σ' ∧ ∀ id, g2.C id → g1.C id ∨ (x.s0.length ≤ id ∧ id < x.s1.length)

theorem Mid.fin (m : Mid ops n xs e s e' s' S i x) (d : D w g s e xs n S w1 g1 a1) {y : Value} {w2 : World} (h : Beh w1 g1 (stF S 0 xs (getO s)) (stF (also S i) 0 xs (getO s)) x y w2) :
    ∃ g2, D w g s e xs n (also S i) w2 g2 (a1.put x.o.dst y) := by
  obtain ⟨g2, h1, h2, h3, h4⟩ := h
  refine ⟨g2, h2, fun t => ?_, ?_, ?_, d.ext.trans h3, fun id hid => ?_⟩
  · have hold := h3.repA (d.env t)
    by_cases hd : x.o.dst = some t
    · rw [m.env1 hd, hd]
      have := chain_dst m.chain m.mem t hd
      simp [Act.put, Array.getD, d.size, this]
      exact h1
    · rw [m.env2 hd]
      cases hdd : x.o.dst with
      | none => exact hold
      | some u =>
        have hne : u ≠ t := fun e => hd (by rw [hdd, e])
        simp only [Act.put, Array.getD_eq_getD_getElem?] at hold ⊢
        rw [Array.getElem?_setIfInBounds_ne hne]
        exact hold
  · cases x.o.dst <;> simp [Act.put, d.size]
  · have := d.defers
    cases x.o.dst <;> simpa [Act.put] using this
  · rcases h4 id hid with h5 | h5
    · rcases d.new id h5 with h6 | ⟨k, z, h6, h7, h8⟩
      · exact .inl h6
      · exact .inr ⟨k, z, h6, by simp [also, h7], h8⟩
    · exact .inr ⟨i, x, m.at_, by simp [also], h5⟩

theorem Mid.run (m : Mid ops n xs e s e' s' S i x) (d : D w g s e xs n S w1 g1 a1) (hG0 : Gk P w g (getO s)) (hfr : ∀ id, g.C id → id < s.length) (h : StepSem P x) :
    OpOk P x.o a1 w1 (Beh w1 g1 (stF S 0 xs (getO s)) (stF (also S i) 0 xs (getO s)) x) := by
  have hfine := m.fine x m.mem
  have hG := hG0.ext d.ext
  have hmono := chain_mono m.chain m.fine m.at_
  have hflen := hfine.len
  have hfoot : x.f = x.f := rfl
  unfold StepSem at h
  by_cases hc : ∃ f args ts, x.o.op = .call ⟨.value f, args, ts⟩
  · obtain ⟨f, args, ts, hop⟩ := hc
    have hev := m.ev0
    rw [hop] at hev
    have hf : ev x.e0 f = ev (envF S 0 xs e) f := hev f (by simp [Op.operands, Call.operands])
    have ha : args.toList.map (ev x.e0) = args.toList.map (ev (envF S 0 xs e)) := map_ev fun z hz => hev z (by simp only [Op.operands, Call.operands, Array.toList_append]; exact List.mem_append_right _ hz)
    unfold dop at h
    rw [hop] at h
    simp only [] at h
    split at h
    · rename_i k caps hcl
      split at h
      · rename_i ps hps
        obtain ⟨v0, hcal, _, hv, h1, h2⟩ := h
        have hlen : ∀ id, s'.length ≤ id → stF S 0 xs (getO s) id = none := fun id hid => stF_none (fun y hy => by
          obtain ⟨j, hj⟩ := List.getElem?_of_mem hy
          have := (chain_mono m.chain m.fine hj).2
          exact getO_out (by omega)) (getO_out (by omega))
        have hss : getO ((List.range s'.length).map (stF S 0 xs (getO s))) = stF S 0 xs (getO s) := by
          funext id
          unfold getO
          by_cases hlt : id < s'.length
          · rw [List.getElem?_map, List.getElem?_range hlt]; rfl
          · rw [List.getElem?_map, List.getElem?_eq_none (by simp; omega)]; exact (hlen id (by omega)).symm
        have hinv := d.inv
        have henv := d.env
        rw [← hss] at hinv henv
        have hargs : ps.map AV.p = args.toList.map (ev (envF S 0 xs e)) ++ caps := by
          rw [← ha]
          exact (allP_eq hps).symm
        have hC := hcal ((List.range s'.length).map (stF S 0 xs (getO s)))
        rw [hargs] at hC
        have hok := ok_call (N := False) hop (by rw [← hf]; exact hcl) hC ⟨hinv, fun _ _ => rfl, fun hh => hh.elim⟩ (by rw [hss]; exact hG) (fun id hid => by
          rw [List.length_map, List.length_range]
          rcases d.new id hid with h6 | ⟨k, z, h6, h7, h8⟩
          · have := hfr id h6; omega
          · have := (chain_mono m.chain m.fine h6).2; omega) henv
        refine hok.mono fun y w2 hr => ?_
        obtain ⟨v, s2, g2, r⟩ := hr
        obtain ⟨rfl, rfl⟩ := r.K
        have hov : ovr (fun _ => True) ((List.range s'.length).map (stF S 0 xs (getO s))) ((List.range s'.length).map (stF S 0 xs (getO s))) (getO ((List.range s'.length).map (stF S 0 xs (getO s)))) = stF S 0 xs (getO s) := by
          funext id; unfold ovr; rw [if_pos (.inl trivial), hss]
        have hσ : stF (also S i) 0 xs (getO s) = stF S 0 xs (getO s) := funext fun id => m.st2 (by
          rw [Bool.eq_false_iff]; intro hw; rw [isWr_iff, mem_news, ← h2] at hw; simp at hw; omega)
        have r1 := r.rep; have r2 := r.inv; have r3 := r.ext; have r4 := r.new
        rw [hov] at r1 r2 r3
        rw [hss] at r3
        refine ⟨g2, by rw [hσ, ← hv]; exact r1, by rw [hσ]; exact r2, by rw [hσ]; exact r3, fun id hid => ?_⟩
        rcases r4 id hid with h5 | h5
        · exact .inl h5
        · omega
      · obtain ⟨v0, s0, hcal, _, hv, h1, h2⟩ := h
        have hall : x.f.all = true := by rw [← h2]
        have hσ0 : stF S 0 xs (getO s) = getO x.s0 := funext fun id => m.st0 (.inl hall)
        have hσ1 : stF (also S i) 0 xs (getO s) = getO x.s1 := funext fun id => m.st1 (isWr_iff.2 (.inl hall))
        have hinv := d.inv
        have henv := d.env
        rw [hσ0] at hinv henv
        rw [ha] at hcal
        have hok := ok_call (N := False) hop (by rw [← hf]; exact hcl) hcal ⟨hinv, fun _ _ => rfl, fun hh => hh.elim⟩ (by rw [← hσ0]; exact hG) (fun id hid => by
          rcases d.new id hid with h6 | ⟨k, z, h6, h7, h8⟩
          · have := hfr id h6; omega
          · have hki : k ≠ i := fun e => by subst e; rw [m.out] at h7; cases h7
            have hz := m.fine z (List.mem_of_getElem? h6)
            have hwr : isWr z id = true := isWr_iff.2 (.inr (.inr (mem_news.2 (by rw [hz.n0, hz.n1]; exact h8))))
            have := m.agree k z h6 hki (conf_wr hwr (.inl hall))
            rw [h7] at this
            have hlt : k < i := by simpa using this.symm
            have := chain_lt m.chain m.fine h6 m.at_ hlt
            omega) henv
        rw [hσ0, hσ1]
        refine hok.mono fun y w2 hr => ?_
        obtain ⟨v, s2, g2, r⟩ := hr
        obtain ⟨rfl, rfl⟩ := r.K
        have hov : ovr (fun _ => True) x.s0 s2 (getO x.s0) = getO s2 := by
          funext id; unfold ovr; rw [if_pos (.inl trivial)]
        have r1 := r.rep; have r2 := r.inv; have r3 := r.ext; have r4 := r.new
        rw [hov] at r1 r2 r3
        rw [← h1]
        exact ⟨g2, by rw [← hv]; exact r1, r2, r3, fun id hid => by rw [← h1]; exact r4 id hid⟩
    · exact h.elim
  · have hnv : ∀ f args ts, x.o.op ≠ .call ⟨.value f, args, ts⟩ := fun f args ts e => hc ⟨f, args, ts, e⟩
    by_cases hnx : offDraw x.o.op = true
    · exact (notNext hnx h).elim
    have hnm : offDraw x.o.op = false := by simpa using hnx
    rw [notCall hnv hnm] at h
    have key : aop P x.o.op x.e0 x.s0 (fun v s' => v = x.v ∧ s' = x.s1) → x.f.t = footT x.e0 x.o.op → x.f.all = false → OpOk P x.o a1 w1 (Beh w1 g1 (stF S 0 xs (getO s)) (stF (also S i) 0 xs (getO s)) x) := by
      intro ha ht hall
      rw [aop_congr m.ev0] at ha
      rw [footT_congr m.ev0] at ht
      have hok := aop_local (T := fun id => id ∈ x.f.t) (N := x.s0.length < x.s1.length) ha hnv hnm (fun v s2 hk hl => by rw [hk.2] at hl; exact hl)
        ⟨d.inv, fun id hid => m.st0 (.inr (List.mem_append_left _ hid)), fun hN hid => by
          rcases d.new _ hid with h6 | ⟨k, z, h6, h7, h8⟩
          · have := hfr _ h6; omega
          · have hki : k ≠ i := fun e => by subst e; rw [m.out] at h7; cases h7
            by_cases hlt : k < i
            · have := chain_lt m.chain m.fine h6 m.at_ hlt; omega
            · have := chain_lt m.chain m.fine m.at_ h6 (by omega); omega⟩ hG
        (fun id hid => by rw [ht]; exact hid) d.env
      refine hok.mono fun y w2 hr => ?_
      obtain ⟨v, s2, g2, r⟩ := hr
      obtain ⟨hv, hs2⟩ := r.K
      have r1 := r.rep; have r2 := r.inv; have r3 := r.ext; have r4 := r.new
      rw [hs2] at r1 r2 r3 r4
      rw [hv] at r1
      have hov : ovr (fun id => id ∈ x.f.t) x.s0 x.s1 (stF S 0 xs (getO s)) = stF (also S i) 0 xs (getO s) := by
        funext id
        unfold ovr
        cases hw : isWr x id with
        | true =>
          rw [m.st1 hw]
          rw [isWr_iff, mem_news, hfine.n0, hfine.n1, hall] at hw
          rw [if_pos]
          rcases hw with hw | hw | hw
          · cases hw
          · exact .inl hw.2
          · exact .inr hw
        | false =>
          rw [m.st2 hw]
          split
          · rename_i hcond
            rw [hfine.same id hw]
            have hnot : ¬ isWr x id = true := by simp [hw]
            rw [isWr_iff, mem_news, hfine.n0, hfine.n1] at hnot
            rcases hcond with hcond | hcond
            · exact (m.st0 (.inr (List.mem_append_left _ hcond))).symm
            · exact absurd (.inr (.inr hcond)) hnot
          · rfl
      rw [hov] at r1 r2 r3
      exact ⟨g2, r1, r2, r3, r4⟩
    split at h
    · obtain ⟨v0, h0, hv, h1, h2⟩ := h
      refine key ?_ (by rw [← h2]) (by rw [← h2])
      rw [← hv, ← h1]; exact h0
    · obtain ⟨v0, s0, h0, _, hv, h1, h2⟩ := h
      refine key ?_ (by rw [← h2]) (by rw [← h2])
      rw [← hv, ← h1]; exact h0
end
end Go.Proofs.Ytneheklmkbhieaa.AW

namespace Go.Proofs.Ytneheklmkbhieaa.AW
set_option linter.unusedSimpArgs false
set_option linter.unusedVariables false
variable {P : Program}

theorem countP_dec {p q : Nat → Bool} {i : Nat} : ∀ {l : List Nat}, (∀ k, q k = true → p k = true) → i ∈ l → p i = true → q i = false → l.countP q < l.countP p
  | y :: r, hq, hi, hp, hn => by
    have mono : ∀ l : List Nat, l.countP q ≤ l.countP p := fun l => List.countP_mono_left (fun k _ hk => hq k hk)
    rw [List.countP_cons, List.countP_cons]
    by_cases hy : y = i
    · subst hy
      have := mono r
      simp [hp, hn]; omega
    · have hi' : i ∈ r := by
        rcases List.mem_cons.1 hi with h | h
        · exact absurd h.symm hy
        · exact h
      have := countP_dec hq hi' hp hn
      have hle : (if q y = true then 1 else 0) ≤ (if p y = true then 1 else 0 : Nat) := by
        cases hqy : q y with
        | false => simp
        | true => simp [hq y hqy]
      omega

def unl (m : Nat) (listed : Array Bool) : Nat := (List.range m).countP fun i => !listed.getD i false

theorem unl_set {m i : Nat} {listed : Array Bool} (hi : i < m) (hs : listed.size = m) (h : listed.getD i false = false) : unl m (listed.setIfInBounds i true) < unl m listed := by
  refine countP_dec (i := i) (fun k hk => ?_) (List.mem_range.2 hi) (by simp [h]) ?_
  · by_cases hki : k = i
    · subst hki; simp [h]
    · simp only [Array.getD_eq_getD_getElem?, Array.getElem?_setIfInBounds_ne (Ne.symm hki)] at hk ⊢
      exact hk
  · simp [Array.getD, hs, hi]

theorem noConf_symm {ops : Array Oper} {x y : Oper} {f g : Foot} (h : noConf ops x y f g = true) : noConf ops y x g f = true := by
  unfold noConf at *
  simp only [Bool.and_eq_true] at h ⊢
  obtain ⟨⟨⟨⟨h0, h1⟩, h2⟩, h3⟩, h4⟩ := h
  refine ⟨⟨⟨⟨?_, h2⟩, h1⟩, h4⟩, h3⟩
  obtain ⟨q1, q2, q3⟩ := Oper.apart_spec h0
  unfold Oper.apart
  rw [Bool.and_eq_true]
  constructor
  · cases hy : y.dst with
    | none => rfl
    | some d =>
      have h5 := q3 d hy
      have h6 : x.dst ≠ some d := fun e => q2 d e hy
      simp [h5, h6]
  · cases hx : x.dst with
    | none => rfl
    | some d => have h5 := q1 d hx; simp [h5]

theorem chkOne_get {ops : Array Oper} {n j : Nat} {y : Oper} {g : Foot} : ∀ {l : List (Oper × Foot)} {k : Nat}, chkOne ops n j y g k l = true → ∀ i q, l[i]? = some q → noConf ops q.1 y q.2 g = true ∨ prec ops n (k + i) j = true
  | [], _, _, i, q, h => by simp at h
  | (x, f) :: r, k, h, i, q, hq => by
    simp only [chkOne, Bool.and_eq_true, Bool.or_eq_true] at h
    cases i with
    | zero => simp at hq; subst hq; exact h.1
    | succ i =>
      have := chkOne_get h.2 i q (by simpa using hq)
      rwa [show k + 1 + i = k + (i + 1) by omega] at this

theorem chkAll_get {ops : Array Oper} {n : Nat} : ∀ {l : List (Oper × Foot)} {done : List (Oper × Foot)}, chkAll ops n done l = true → ∀ j q, l[j]? = some q →
    (∀ i r, (done ++ l)[i]? = some r → i < done.length + j → noConf ops r.1 q.1 r.2 q.2 = true ∨ prec ops n i (done.length + j) = true) ∧
    (∀ d, d ∈ q.1.after.toList → Region.binds .any d = true → d.on < done.length + j)
  | [], _, _, j, q, h => by simp at h
  | (y, g) :: l, done, h, j, q, hq => by
    simp only [chkAll, Bool.and_eq_true] at h
    obtain ⟨⟨h1, h2⟩, h3⟩ := h
    cases j with
    | zero =>
      simp at hq; subst hq
      refine ⟨fun i r hi hlt => ?_, fun d hd hb => ?_⟩
      · have hlt : i < done.length := by omega
        rw [List.getElem?_append_left hlt] at hi
        have := chkOne_get h1 i r hi
        rwa [Nat.zero_add] at this
      · have := List.all_eq_true.1 h2 d hd
        rw [hb] at this
        simp only [Bool.not_true, Bool.false_or] at this
        have : (d.on + 1).ble done.length = true := this
        exact Nat.le_of_ble_eq_true this
    | succ j =>
      have := chkAll_get h3 j q (by simpa using hq)
      simp only [List.append_assoc, List.cons_append, List.nil_append, List.length_append, List.length_cons, List.length_nil] at this
      rw [show done.length + (0 + 1) + j = done.length + (j + 1) by omega] at this
      exact this

/-- What is listed is listed with all that comes ahead of it. -/
def Down (ops : Array Oper) (S : Nat → Bool) : Prop := ∀ j o, ops[j]? = some o → S j = true → ∀ d, d ∈ o.after.toList → Region.binds .any d = true → S d.on = true

theorem prec_in {ops : Array Oper} {S : Nat → Bool} (hd : Down ops S) : ∀ {f i j : Nat}, prec ops f i j = true → (∀ o, ops[j]? = some o → ∀ d, d ∈ o.after.toList → Region.binds .any d = true → S d.on = true) → S i = true
  | 0, _, _, h, _ => by simp [prec] at h
  | f + 1, i, j, h, hj => by
    unfold prec at h
    split at h
    · rename_i o ho
      obtain ⟨d, hd1, hd2⟩ := List.any_eq_true.1 h
      simp only [Bool.and_eq_true, Bool.or_eq_true] at hd2
      have hS := hj o ho d hd1 hd2.1
      rcases hd2.2 with h3 | h3
      · rw [← Nat.eq_of_beq_eq_true h3]; exact hS
      · exact prec_in hd h3 fun o' ho' d' hd' hb' => hd d.on o' ho' hS d' hd' hb'
    · cases h

section
variable {n : Nat} {ops : Array Oper} {w : World} {g : G} {e e' : Env} {s s' : Store} {xs : List Step} {Q : Exit → Act → World → Prop}

theorem drawn_run (hops : xs.map (·.o) = ops.toList) (hc : Chain n xs e s e' s') (hdo : ∀ x, x ∈ xs → Does P n ops x) (hchk : chkAll ops ops.size [] (xs.map fun x => (x.o, x.f)) = true) (hG0 : Gk P w g (getO s)) (hfr : ∀ id, g.C id → id < s.length)
    (hq : ∀ w' g' a', Inv w' g' (getO s') → (∀ id, g'.C id → g.C id ∨ (s.length ≤ id ∧ id < s'.length)) → EnvR w' g' (getO s') e' a'.tmps → a'.tmps.size = n → a'.defers = [] → Ext w g (getO s) w' g' (getO s') → Q .normal a' w') :
    ∀ (fuel : Nat) (listed : Array Bool) (a1 : Act) (w1 : World) (g1 : G), listed.size = ops.size → Down ops (fun k => listed.getD k false) → unl ops.size listed ≤ fuel → D w g s e xs n (fun k => listed.getD k false) w1 g1 a1 → wpAny P .any ops Q fuel listed a1 w1 := by
  have hlen : xs.length = ops.size := by
    have := congrArg List.length hops
    simpa using this
  have hget : ∀ {k : Nat} {x : Step}, xs[k]? = some x → ops[k]? = some x.o := fun {k x} h => by
    rw [← Array.getElem?_toList, ← hops, List.getElem?_map, h]; rfl
  have hfine : ∀ x, x ∈ xs → Fine x := fun x hx => (hdo x hx).fine
  -- all listed: the end
  have last : ∀ (listed : Array Bool) (a1 : Act) (w1 : World) (g1 : G), (∀ k, k < ops.size → listed.getD k false = true) → D w g s e xs n (fun k => listed.getD k false) w1 g1 a1 → Q .normal a1 w1 := by
    intro listed a1 w1 g1 hall d
    have h1 := upto_state (k := 0) hc hfine (Nat.le_refl _)
    rw [stateAt_end hc] at h1
    have hE : envF (fun k => listed.getD k false) 0 xs e = e' := by
      refine Eq.trans ?_ h1.1
      funext t
      refine envF_eq (fun k y hk _ => ?_) rfl
      have hlt : k < xs.length := (List.getElem?_eq_some_iff.1 hk).1
      rw [Nat.zero_add, hall k (by omega)]; simp [hlt]
    have hσ : stF (fun k => listed.getD k false) 0 xs (getO s) = getO s' := by
      refine Eq.trans ?_ h1.2
      funext t
      refine stF_eq (fun k y hk _ => ?_) rfl
      have hlt : k < xs.length := (List.getElem?_eq_some_iff.1 hk).1
      rw [Nat.zero_add, hall k (by omega)]; simp [hlt]
    have d1 := d.inv; have d2 := d.env; have d3 := d.ext
    rw [hσ] at d1 d2 d3
    rw [hE] at d2
    refine hq w1 g1 a1 d1 (fun id hid => ?_) d2 d.size d.defers d3
    rcases d.new id hid with h | ⟨k, x, h, _, h8⟩
    · exact .inl h
    · have := chain_mono hc hfine h; exact .inr ⟨by omega, by omega⟩
  -- nothing is ready: all is listed
  have stuck : ∀ (listed : Array Bool), listed.size = ops.size → Region.ready .any ops listed = [] → ∀ k, k < ops.size → listed.getD k false = true := by
    intro listed hsz hr k
    induction k using Nat.strongRecOn with
    | _ k ih =>
      intro hk
      cases hl : listed.getD k false with
      | true => rfl
      | false =>
        have hk' : k < xs.length := by omega
        have hx : xs[k]? = some xs[k] := List.getElem?_eq_getElem hk'
        have : k ∈ Region.ready .any ops listed := by
          rw [mem_ready]
          refine ⟨?_, _, hget hx, fun d hd hb => ?_⟩
          · simp [Array.getD, hsz, hk] at hl ⊢; exact hl
          · have := (chkAll_get hchk k (xs[k].o, xs[k].f) (by rw [List.getElem?_map, hx]; rfl)).2 d (by simpa using hd) hb
            simp at this
            exact ih d.on this (by omega)
        rw [hr] at this; cases this
  intro fuel
  induction fuel with
  | zero =>
    intro listed a1 w1 g1 hsz hdown hun d
    have hall : ∀ k, k < ops.size → listed.getD k false = true := by
      intro k hk
      have h0 : unl ops.size listed = 0 := by omega
      unfold unl at h0
      rw [List.countP_eq_zero] at h0
      have := h0 k (List.mem_range.2 hk)
      simpa using this
    refine ⟨?_, last listed a1 w1 g1 hall d⟩
    rw [List.eq_nil_iff_forall_not_mem]
    intro k hk
    rw [mem_ready] at hk
    obtain ⟨h1, o, h2, _⟩ := hk
    have hlt : k < ops.size := (Array.getElem?_eq_some_iff.1 h2).1
    have := hall k hlt
    simp [Array.getD, hsz, hlt] at this h1
    rw [this] at h1; cases h1
  | succ fuel ih =>
    intro listed a1 w1 g1 hsz hdown hun d
    refine ⟨fun hr => last listed a1 w1 g1 (stuck listed hsz hr) d, fun i hi => ?_⟩
    rw [mem_ready] at hi
    obtain ⟨h1, o, h2, h3⟩ := hi
    have hlt : i < ops.size := (Array.getElem?_eq_some_iff.1 h2).1
    have hx : xs[i]? = some xs[i] := List.getElem?_eq_getElem (by omega)
    generalize xs[i] = x at hx
    have ho : o = x.o := by have := hget hx; rw [h2] at this; exact Option.some.inj this
    subst ho
    have hout : listed.getD i false = false := by simp [Array.getD, hsz, hlt] at h1 ⊢; exact h1
    have hpre : ∀ o', ops[i]? = some o' → ∀ d, d ∈ o'.after.toList → Region.binds .any d = true → listed.getD d.on false = true := fun o' ho' dd hd hb => by
      rw [h2] at ho'; cases ho'; exact h3 dd (by simpa using hd) hb
    have m : Mid ops n xs e s e' s' (fun k => listed.getD k false) i x := {
      chain := hc
      fine := hfine
      at_ := hx
      out := hout
      agree := fun k y hk hki hcf => by
        by_cases hlt : k < i
        · have := (chkAll_get hchk i (x.o, x.f) (by rw [List.getElem?_map, hx]; rfl)).1 k (y.o, y.f) (by simp [hk]) (by simpa using hlt)
          rcases this with h | h
          · rw [show noConf ops y.o x.o y.f x.f = true from h] at hcf; cases hcf
          · have := prec_in (S := fun k => listed.getD k false) hdown h (by simpa using hpre)
            simpa [hlt] using this
        · have hik : i < k := by omega
          have hcf' : noConf ops x.o y.o x.f y.f = false := by
            cases hb : noConf ops x.o y.o x.f y.f with
            | false => rfl
            | true => rw [noConf_symm hb] at hcf; cases hcf
          have := (chkAll_get hchk k (y.o, y.f) (by rw [List.getElem?_map, hk]; rfl)).1 i (x.o, x.f) (by simp [hx]) (by simpa using hik)
          rcases this with h | h
          · rw [show noConf ops x.o y.o x.f y.f = true from h] at hcf'; cases hcf'
          · have hn : ¬ k < i := hlt
            simp only [hn, decide_false]
            cases hS : listed.getD k false with
            | false => rfl
            | true =>
              have := prec_in (S := fun k => listed.getD k false) hdown h (fun o' ho' dd hd hb => hdown k o' (by simpa using ho') hS dd hd hb)
              have this : listed.getD i false = true := this
              rw [hout] at this; cases this }
    have hS' : (fun k => (listed.setIfInBounds i true).getD k false) = also (fun k => listed.getD k false) i := by
      funext k
      unfold also
      by_cases hki : k = i
      · subst hki; simp [Array.getD, hsz, hlt]
      · simp only [Array.getD_eq_getD_getElem?, Array.getElem?_setIfInBounds_ne (Ne.symm hki)]
        simp [hki]
    have next : ∀ y w2, Beh w1 g1 (stF (fun k => listed.getD k false) 0 xs (getO s)) (stF (also (fun k => listed.getD k false) i) 0 xs (getO s)) x y w2 → wpAny P .any ops Q fuel (listed.setIfInBounds i true) (a1.put x.o.dst y) w2 := by
      intro y w2 hb
      obtain ⟨g2, d2⟩ := m.fin d hb
      rw [← hS'] at d2
      refine ih _ _ _ g2 (by simpa using hsz) ?_ ?_ d2
      · intro j o' hj hS dd hd hbb
        show (listed.setIfInBounds i true).getD dd.on false = true
        have hS : (listed.setIfInBounds i true).getD j false = true := hS
        have e1 := congrFun hS' j
        have e2 := congrFun hS' dd.on
        simp only [also] at e1 e2
        rw [e1] at hS
        rw [e2]
        simp only [Bool.or_eq_true, decide_eq_true_eq] at hS ⊢
        rcases hS with hS | hS
        · exact .inl (hdown j o' hj hS dd hd hbb)
        · subst hS; exact .inl (hpre o' hj dd hd hbb)
      · have := unl_set hlt hsz hout
        omega
    unfold wpOp
    rw [h2]
    simp only []
    have hD := hdo x m.mem
    have hrun : StepSem P x → x.o.wp P a1 w1 (wpAny P .any ops Q fuel (listed.setIfInBounds i true)) Q := fun hs => (m.run d hG0 hfr hs).wp fun y w2 hb => next y w2 hb
    unfold Does at hD
    split at hD
    · rename_i hg
      rw [if_pos (by simp [Region.wanted, hg])]
      exact .inl (hrun hD)
    · rename_i j want hg
      obtain ⟨t, b, ht, htn, hev, hcase⟩ := hD
      have hlook : t ∈ x.o.looksAt ops := by
        unfold Oper.looksAt
        refine List.mem_append_right _ ?_
        rw [hg]; simp [ht]
      have hv := d.env t
      rw [m.env0 hlook, hev] at hv
      have hv := hv.inv_bool
      have hy : yielded ops a1.tmps j = some b := by
        unfold yielded
        rw [ht]
        have : a1.tmps[t]? = some (.bool b) := by
          rw [Array.getD_eq_getD_getElem?] at hv
          have hs : t < a1.tmps.size := by rw [d.size]; exact htn
          rw [Array.getElem?_eq_getElem hs] at hv ⊢
          simpa using hv
        simp [this]
      rcases hcase with ⟨hb, hs⟩ | ⟨hb, hv0, hs1, hf⟩
      · have hbw : b = want := by simpa using hb
        rw [if_pos (by simp [Region.wanted, hg, hy, hbw])]
        exact .inl (hrun hs)
      · have hbw : b ≠ want := by simpa using hb
        rw [if_neg (by simp [Region.wanted, hg, hy, hbw])]
        refine next undef w1 ⟨g1, ?_, ?_, ?_, fun id h => .inl h⟩
        · rw [hv0]; exact .undef _
        all_goals
          have hσ : stF (also (fun k => listed.getD k false) i) 0 xs (getO s) = stF (fun k => listed.getD k false) 0 xs (getO s) := funext fun id => m.st2 (by
            rw [Bool.eq_false_iff]; intro hw; rw [isWr_iff, mem_news, hf] at hw; simp at hw; omega)
          rw [hσ]
        · exact d.inv
        · exact .refl _ _ _

theorem drawn_sound {K : Env → Store → Prop} {a : Act} {id : Nat} (h : adops P n ops ops.toList [] K e s) (hm : P.follows .mixedOrders = true) (hinv : Inv w g (getO s)) (hG0 : Gk P w g (getO s)) (hfr : ∀ id, g.C id → id < s.length) (henv : EnvR w g (getO s) e a.tmps) (hsz : a.tmps.size = n) (hdf : a.defers = [])
    (hq : ∀ w' g' e' s' a', K e' s' → Inv w' g' (getO s') → (∀ id, g'.C id → g.C id ∨ (s.length ≤ id ∧ id < s'.length)) → EnvR w' g' (getO s') e' a'.tmps → a'.tmps.size = n → a'.defers = [] → Ext w g (getO s) w' g' (getO s') → s.length ≤ s'.length → Q .normal a' w') :
    (Code.region id ops true).wp P Q a w := by
  obtain ⟨xs, e', s', k1, k2, k3, k4, k5⟩ := adops_trace h
  refine wp_region_any hm ?_
  have hx : Ext w g (getO s) { w with drawn := w.drawn + 1 } g (getO s) :=
    ⟨Nat.le_refl _, rfl, rfl, rfl, fun _ _ _ => rfl, fun _ _ => rfl, rfl, fun _ h => h, fun _ _ h => h, fun _ _ o h => ⟨o, h, .refl o⟩, fun _ _ _ => ⟨rfl, .rfl⟩, fun _ _ _ _ _ _ _ _ _ _ => ⟨rfl, .rfl⟩, Nat.le_succ _⟩
  have hS0 : ∀ k, (Array.replicate ops.size false).getD k false = false := fun k => by
    by_cases hk : k < ops.size <;> simp [Array.getD, hk]
  have hE : envF (fun k => (Array.replicate ops.size false).getD k false) 0 xs e = e := envF_stop fun i _ => hS0 i
  have hσ : stF (fun k => (Array.replicate ops.size false).getD k false) 0 xs (getO s) = getO s := stF_stop fun i _ => hS0 i
  refine drawn_run (w := w) (g := g) k1 k2 k3 (by simpa using k4) hG0 hfr (fun w' g' a' q1 q2 q3 q4 q5 q6 => hq w' g' e' s' a' k5 q1 q2 q3 q4 q5 q6 (chain_mono.chain_len k2 fun x hx => (k3 x hx).fine))
    ops.size _ a _ g (by simp) (fun j o hj hS => by simp only [hS0] at hS; cases hS) ?_ ?_
  · unfold unl
    exact Nat.le_trans List.countP_le_length (by simp)
  · refine ⟨?_, ?_, hsz, hdf, ?_, fun id h => .inl h⟩
    · rw [hσ]
      exact ⟨hinv.made, hinv.lies, hinv.xlt, hinv.inj, fun id o h hr => hx.repO rfl (hinv.rep id o h hr), hinv.void⟩
    · rw [hσ, hE]; exact fun t => hx.repA (henv t)
    · rw [hσ]; exact hx
end
end Go.Proofs.Ytneheklmkbhieaa.AW
