import Derived.Test.YtfjolephpghafaaAwOps
namespace Go.Proofs.Ytfjolephpghafaa.AW
section ops
variable {P : Program} {o : Oper} {e : Env} {s : Store} {K : AV → Store → Prop} {w : World} {g : G} {σ : St} {a : Act} {T : Nat → Prop} {N : Prop}

theorem ok_nilCheck {x : Operand} (ho : o.op = .nilCheck x) (h : aop P (.nilCheck x) e s K) (c : Cx w g σ s T N) (he : EnvR w g σ e a.tmps) : OpOk P o a w (Rs w g σ s T K) := by
  simp only [aop] at h
  have hx := ev_rep he x
  have fin : ∀ v, ev e x = v → K v s → ((match a.eval x with | .pointer none | .nilIface | .nilFunc => False | .func _ _ _ => False | _ => True)) → OpOk P o a w (Rs w g σ s T K) := by
    intro v hv hk hn
    refine .value (v := a.eval x) (w' := w) ?_ (.pure c hk (hv ▸ hx))
    simp only [execOp, ho]
    generalize a.eval x = y at *
    cases y <;> first | rfl | exact hn.elim | (rename_i q; cases q <;> first | rfl | exact hn.elim)
  split at h
  · rename_i id off hev; exact fin _ hev h (by rw [hev] at hx; rw [hx.inv_ref.1]; trivial)
  · rename_i id tot i sub hev
    refine fin _ hev h ?_
    rw [hev] at hx
    generalize a.eval x = y at *
    cases hx; trivial
  · rename_i cs hev
    refine fin _ hev h ?_
    rw [hev] at hx
    obtain ⟨b, off, hp, _⟩ := hx.inv_pto
    rw [hp]; trivial
  · rename_i t v hev
    refine fin _ hev h ?_
    rw [hev] at hx
    generalize a.eval x = y at *
    cases hx; trivial
  · rename_i t v hev
    refine fin _ hev h ?_
    rw [hev] at hx
    generalize a.eval x = y at *
    cases hx.inv_p; trivial
  · exact h.elim

theorem ok_extract {x : Operand} {i : Nat} (ho : o.op = .extract x i) (h : aop P (.extract x i) e s K) (c : Cx w g σ s T N) (he : EnvR w g σ e a.tmps) : OpOk P o a w (Rs w g σ s T K) := by
  simp only [aop] at h
  have hx := ev_rep he x
  split at h
  · rename_i vs hev
    rw [hev] at hx
    obtain ⟨ys, hp, hr⟩ := hx.inv_tup
    split at h
    · rename_i v hv
      rw [force_eq] at h
      obtain ⟨y, hy, hry⟩ := hr.get hv
      refine .value (v := y) (w' := w) ?_ (.pure c h hry)
      simp [execOp, ho, Instr.extract, hp, hy]
    · exact h.elim
  · exact h.elim

theorem und {P : Program} {t : Nat} {d : TypeDesc} (h : dsc P t = d) (hd : d ≠ .invalid) : P.underlying t = some d := by
  unfold dsc at h
  cases hu : P.underlying t with
  | none => rw [hu] at h; exact absurd h.symm hd
  | some u => rw [hu] at h; simp at h; rw [h]

theorem ok_field {t f : Nat} {x : Operand} (ho : o.op = .field t x f) (h : aop P (.field t x f) e s K) (c : Cx w g σ s T N) (he : EnvR w g σ e a.tmps) : OpOk P o a w (Rs w g σ s T K) := by
  simp only [aop] at h
  have hx := ev_rep he x
  split at h
  · rename_i fd hf
    unfold fldT at hf
    split at hf
    · rename_i fs hd
      have hu := und hd (by simp)
      have key : ∀ {agg : Bool} {sz : Nat} {cs : List AV} {xs : List Value}, kd P fd.type = some (agg, sz) → a.eval x = .agg xs.toArray → RepAs w g σ cs xs → valK agg sz (cs.drop fd.offset) (fun v => K v s) → OpOk P o a w (Rs w g σ s T K) := by
        intro agg sz cs xs hk hp hr hv
        unfold kd at hk
        split at hk
        · rename_i d i hd' hi
          cases hk
          have hagg : (isAgg fd.type).run P w = .ok (aggD d) w := by
            simp [isAgg, underlying, hd']
            cases d <;> simp [aggD]
          have hr' := hr.drop fd.offset
          unfold valK at hv
          cases hb : aggD d with
          | true =>
            simp only [hb] at hv
            split at hv
            · rename_i hle
              rw [force_eq] at hv
              have hle := Nat.le_of_ble_eq_true hle
              have hm := mkAgg_rep (hr'.take i.size)
              refine .value (v := .agg ((xs.drop fd.offset).take i.size).toArray) (w' := w) ?_ (.pure c hv hm)
              simp [execOp, ho, Instr.field, underlying, hu, hf, part, hagg, hb, sizeOf, typeInfo, hi, asAgg, hp]
            · exact hv.elim
          | false =>
            simp only [hb] at hv
            split at hv
            · rename_i v r hcs
              rw [force_eq] at hv
              have h0 : (cs.drop fd.offset)[0]? = some v := by rw [hcs]; rfl
              obtain ⟨y, hy, hry⟩ := hr'.get h0
              refine .value (v := y) (w' := w) ?_ (.pure c hv hry)
              rw [List.getElem?_drop, Nat.add_zero] at hy
              simp [execOp, ho, Instr.field, underlying, hu, hf, part, hagg, hb, asAgg, hp, hy]
            · exact hv.elim
        · cases hk
      split at h
      · rename_i agg sz cs hk hev
        rw [hev] at hx
        obtain ⟨y, hy⟩ : ∃ y, a.eval x = y := ⟨_, rfl⟩
        rw [hy] at hx
        cases hx.inv_p with
        | agg _ xs hs => exact key hk hy hs.repAs (by simpa using h)
      · rename_i agg sz cs hk hev
        rw [hev] at hx
        obtain ⟨xs, hp, hr⟩ := hx.inv_agg
        exact key hk hp hr h
      · exact h.elim
    · cases hf
  · exact h.elim

theorem ok_makeFunc {fn : Fn} {first caps : Array Operand} (ho : o.op = .makeFunc fn first caps) (h : aop P (.makeFunc fn first caps) e s K) (c : Cx w g σ s T N) (he : EnvR w g σ e a.tmps) : OpOk P o a w (Rs w g σ s T K) := by
  cases fn <;> simp only [aop] at h <;> try exact h.elim
  rename_i f
  split at h
  · rename_i hf
    have hf : first = #[] := by cases first; simp_all
    refine .value (v := .func (.func f) #[] (caps.toList.map a.eval).toArray) (w' := w) ?_ (.pure c h (.clos f _ _ (evs_rep he _)))
    simp [execOp, ho, Instr.makeFunc, hf]
    rw [← Array.toList_map]
  · exact h.elim

theorem ok_makeInterface {t : Nat} {x : Operand} (ho : o.op = .makeInterface t x) (h : aop P (.makeInterface t x) e s K) (c : Cx w g σ s T N) (he : EnvR w g σ e a.tmps) : OpOk P o a w (Rs w g σ s T K) := by
  simp only [aop] at h
  have hx := ev_rep he x
  have fin : ∀ {d : TypeDesc} {v : AV}, P.underlying t = some d → (∀ ms, d ≠ .interface ms) → K v s → RepA w g σ v (.iface t (a.eval x)) → OpOk P o a w (Rs w g σ s T K) := by
    intro d v hd hn hk hr
    refine .value (v := .iface t (a.eval x)) (w' := w) ?_ (.pure c hk hr)
    simp only [execOp, ho, Instr.makeInterface, underlying]
    cases d <;> simp [hd] <;> exact absurd rfl (hn _)
  split at h
  · exact h.elim
  · exact h.elim
  · rename_i d hn hd
    split at h
    · rename_i v hev; exact fin hd (fun ms e => hn ms e) h (by rw [hev] at hx; exact .p _ _ (.iface _ _ _ hx.inv_p))
    · rename_i id off hev; exact fin hd (fun ms e => hn ms e) h (by rw [hev] at hx; exact .ifc _ _ _ hx)
    · exact h.elim

theorem ok_unOp {op : UnOp} {t : Nat} {x : Operand} (ho : o.op = .unOp op t x) (h : aop P (.unOp op t x) e s K) (c : Cx w g σ s T N) (he : EnvR w g σ e a.tmps) : OpOk P o a w (Rs w g σ s T K) := by
  simp only [aop] at h
  have hx := ev_rep he x
  split at h
  · rename_i b hev
    rw [hev] at hx
    refine .value (v := .bool (!b)) (w' := w) ?_ (.pure c h (.mkBool _))
    simp [execOp, ho, Op.unary, hx.inv_bool]
  · rename_i k n hev
    rw [hev] at hx
    refine .value (v := .int k (k.wrap (0 - n))) (w' := w) ?_ (.pure c h (.mkInt _ _))
    simp [execOp, ho, Op.unary, hx.inv_int, Op.intArith]
  · rename_i k n hev
    rw [hev] at hx
    refine .value (v := .int k (bits .xor k (if k.signed then -1 else k.max) n)) (w' := w) ?_ (.pure c h (.mkInt _ _))
    simp [execOp, ho, Op.unary, hx.inv_int, Op.intBits, bits]
  · exact h.elim
end ops
end Go.Proofs.Ytfjolephpghafaa.AW
