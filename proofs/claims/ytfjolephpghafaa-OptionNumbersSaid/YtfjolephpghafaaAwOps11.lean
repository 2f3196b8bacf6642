import Derived.Test.YtfjolephpghafaaAwOps10
namespace Go.Proofs.Ytfjolephpghafaa.AW
section ops
variable {P : Program} {o : Oper} {e : Env} {s : Store} {K : AV → Store → Prop} {w : World} {g : G} {σ : St} {a : Act} {T : Nat → Prop} {N : Prop}

theorem madeCells_eq (zc : Array Value) : ∀ n, (madeCells zc (n * zc.size)).toList = (List.replicate n zc.toList).flatten := by
  intro n
  unfold madeCells
  rw [← List.toArray_range, List.map_toArray]
  show (List.range (n * zc.size)).map (fun j => zc[j % zc.size]!) = _
  induction n with
  | zero => simp
  | succ n ih =>
    rw [Nat.succ_mul, List.range_add, List.map_append, ih, List.replicate_succ', List.flatten_append]
    congr 1
    simp only [List.flatten_cons, List.flatten_nil, List.append_nil]
    apply List.ext_getElem
    · simp
    · intro i h1 h2
      simp at h1
      simp only [List.getElem_map, List.getElem_range, Nat.mul_add_mod_self_right, Nat.mod_eq_of_lt h1]
      rw [getElem!_pos zc i h1]
      simp

theorem flat_rep {B : Nat → Prop} {z : PV} {zs : List Value} (h : RepPs w B z.cells zs) : ∀ n, RepPs w B (flat (List.replicate n z)) (List.replicate n zs).flatten
  | 0 => .nil
  | n + 1 => by
    rw [List.replicate_succ, List.replicate_succ, List.flatten_cons]
    show RepPs w B (z.cells ++ flat (List.replicate n z)) _
    exact h.append (flat_rep h n)

theorem ok_makeSlice {t : Nat} {l m : Operand} (ho : o.op = .makeSlice t l m) (h : aop P (.makeSlice t l m) e s K) (hN : ∀ v s', K v s' → s.length < s'.length → N) (c : Cx w g σ s T N) (he : EnvR w g σ e a.tmps) : OpOk P o a w (Rs w g σ s T K) := by
  simp only [aop] at h
  have hl := ev_rep he l
  have hm := ev_rep he m
  split at h
  · rename_i el k1 n k2 n2 hd hel hem
    have hu := und hd (by simp)
    rw [hel] at hl; rw [hem] at hm
    split at h
    · rename_i i z hi hz
      obtain ⟨zv, _, hzr, it, hit, hzv⟩ := zeroT_run (w := w) (g := g) (σ := σ) hz
      rw [hi] at hit; cases hit
      split at h
      · rename_i hb1 hb2
        simp only [Bool.and_eq_true] at hb1
        have hzl := Nat.eq_of_beq_eq_true hb1.1
        have hs1 := Nat.le_of_ble_eq_true hb2
        rw [snoc_eq] at h
        unfold Ob at h
        obtain ⟨⟨h0, hnm, hbb, h63⟩, hk⟩ := h
        subst hnm
        have hrun := run_make (P := P) w t el i zv hu hi hzv k1 k2 n n h0 (Int.le_refl _) (by rw [Int.mul_comm]; omega) (by omega)
        have hzs : zv.cells.size = i.size := by rw [← hzl]; exact zcells hzr
        have m := More.alloc w (.cells (madeCells zv.cells (n.toNat * i.size)) el)
        refine .value (v := .slice (some ⟨w.heap.size, 0, none⟩) n.toNat n.toNat) (w' := w.alloc (.cells (madeCells zv.cells (n.toNat * i.size)) el)) ?_ ?_
        · simp [execOp, ho, hl.inv_int, hm.inv_int, hrun]
        · have hvs : (madeCells zv.cells (n.toNat * i.size)).toList = (List.replicate n.toNat zv.cells.toList).flatten := by
            rw [← hzs]; exact madeCells_eq _ _
          have hfl : RepPs w (Lv g σ) (flat (List.replicate n.toNat z)) (madeCells zv.cells (n.toNat * i.size)).toList := by
            rw [hvs]
            refine flat_rep ?_ _
            have := repPs_flat (RepPs.cons _ _ _ _ hzr.inv_p .nil)
            simpa [flat] using this
          have hlen : (madeCells zv.cells (n.toNat * i.size)).toList.length = i.size * (List.replicate n.toNat z).length := by
            simp [size_madeCells, Nat.mul_comm]
          have hn : N := hN _ _ hk (by simp)
          refine Rs.new c m (o := .buf i.size (List.replicate n.toNat z)) ?_ ?_ hk hn
          · refine .buf _ _ (madeCells zv.cells (n.toNat * i.size)).toList (by omega) (fun q hq => ?_) (by omega) ?_ ⟨el, (0, 0), by simpa using m.at, fun i _ => by simp⟩
            · rw [(List.mem_replicate.1 hq).2]; exact ⟨hzl, hb1.2⟩
            · rw [← hlen, List.take_of_length_le (Nat.le_refl _)]
              exact (c.ext_new m _ hn).repPs hfl
          · have hrl : (List.replicate n.toNat z).length = n.toNat := by simp
            have := RepA.osl (w := w.alloc (.cells (madeCells zv.cells (n.toNat * i.size)) el)) (g := g.new s.length w.heap.size) (σ := σ.put s.length (.buf i.size (List.replicate n.toNat z))) s.length (List.replicate n.toNat z).length 0 n.toNat
              ⟨w.heap.size, 0, none⟩ n.toNat rfl (.inr rfl) (fun sz zs q => by simp [St.put] at q; rw [← q.2]; simp) (fun sz zs q _ => by
                simp [St.put] at q
                obtain ⟨rfl, rfl⟩ := q
                refine ⟨Nat.le_refl _, by rw [hrl]; omega, fun _ => ⟨by simp [G.new], ?_⟩⟩
                have hsh : (w.alloc (.cells (madeCells zv.cells (n.toNat * i.size)) el)).shape? w.heap.size = some (el, (madeCells zv.cells (n.toNat * i.size)).size) := by
                  simp only [World.shape?, m.at]
                exact ⟨el, _, by simpa [G.new] using hsh, by rw [size_madeCells, Nat.zero_add]; exact Nat.le_refl _⟩)
            have hv : AV.osl s.length (List.replicate n.toNat z).length 0 (List.replicate n.toNat z).length = AV.osl s.length (List.replicate n.toNat z).length 0 n.toNat := by rw [hrl]
            rw [hv]; exact this
      · exact h.elim
    · exact h.elim
  · exact h.elim

theorem callFunc_enter {f : Nat} {fn : Func} (hf : P.funcs[f]? = some fn) (hn : (fn.name == "runtime.NumGoroutine") = false) (hb : fn.body.isSome = true) (args : Array Value) :
    (callFunc f args).run P w = .ok (.enter f args) w := by
  have hn' : ¬ fn.name = "runtime.NumGoroutine" := by simpa using hn
  have hb' : ¬ fn.body = none := by intro e; simp [e] at hb
  simp [callFunc, hf, hn', hb']

/-- A call, in a store that is known whole. -/
theorem ok_call {f : Nat} {x : Operand} {args : Array Operand} {ts : Array TypeId} {caps : List AV} (ho : o.op = .call ⟨.value x, args, ts⟩) (hx : ev e x = .clos f caps)
    (h : Cal P f (args.toList.map (ev e) ++ caps) s K) (c : Cx w g (getO s) s (fun _ => True) N) (hfresh : ∀ id, g.C id → id < s.length) (he : EnvR w g (getO s) e a.tmps) : OpOk P o a w (Rs w g (getO s) s (fun _ => True) K) := by
  unfold Cal at h
  obtain ⟨⟨fn, hf, hn, hb⟩, h⟩ := h
  have hxr := ev_rep he x
  rw [hx] at hxr
  obtain ⟨ys, hp, hr⟩ := hxr.inv_clos
  have hargs := (evs_rep (w := w) (g := g) (σ := getO s) he args.toList).append hr
  have hc := h w g _ c.inv hfresh hargs
  have hrun : (execOp a.eval o).run P w = .ok (.enter f (args.toList.map a.eval ++ ys).toArray) w := by
    have := callFunc_enter (w := w) hf hn hb (args.toList.map a.eval ++ ys).toArray
    rw [← this]
    simp only [execOp, ho, resolve, Sem.run_bind, hp, Deferred.ofValue, Sem.run_pure, Result.andThen_ok, invoke]
    congr 2
    simp
  unfold OpOk
  rw [hrun]
  refine Calls.mono hc fun e' w' hpost => ?_
  obtain ⟨r, v, s', g', rfl, hk, hl, hrep, hinv, hext, hC⟩ := hpost
  have hov : ovr (fun _ => True) s s' (getO s) = getO s' := by funext i; simp [ovr]
  refine ⟨r, s', g', hk, hl, fun id hid => absurd trivial hid, by rw [hov]; exact hrep, by rw [hov]; exact hinv, by rw [hov]; exact hext, hC⟩
end ops
end Go.Proofs.Ytfjolephpghafaa.AW
