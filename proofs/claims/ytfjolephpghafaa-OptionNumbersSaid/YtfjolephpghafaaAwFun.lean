import Derived.Test.YtfjolephpghafaaAwCode
namespace Go.Proofs.Ytfjolephpghafaa.AW
variable {P : Program}

theorem loadA_run {t : Nat} {av : AV} {x : Value} {s : Store} {K : AV → Prop} {w : World} {g : G} (h : loadA P t av s K) (hx : RepA w g (getO s) av x) (hinv : Inv w g (getO s)) :
    ∃ b off v y, x = .pointer (some ⟨b, off, none⟩) ∧ K v ∧ RepA w g (getO s) v y ∧ (loadVar t ⟨b, off, none⟩).run P w = .ok y w := by
  simp only [loadA] at h
  split at h
  · exact h.elim
  · rename_i agg sz hkd
    split at h
    · rename_i id off
      obtain ⟨hp, _, _⟩ := hx.inv_ref
      split at h
      · rename_i cs hs
        cases hinv.rep _ _ hs with
        | cells _ xs hcs hare =>
          obtain ⟨v, y, h1, h2, h3⟩ := valK_load hkd (hcs.drop off) (fun j y hj => by
            rw [cell_of_are hare]; simpa using hj) h
          exact ⟨_, _, v, y, hp, h1, h2, h3⟩
      · exact h.elim
    · rename_i cs
      obtain ⟨b, off, hp, hc, _⟩ := hx.inv_pto
      obtain ⟨ys, h1, h2⟩ := hc.values
      obtain ⟨v, y, k1, k2, k3⟩ := valK_load hkd h1.repAs h2 h
      exact ⟨_, _, v, y, hp, k1, k2, k3⟩
    · rename_i id tot i sub
      split at h
      · rename_i sz' xs hs
        unfold Ob Idx at h
        obtain ⟨htot, _, y, hy, hval⟩ := h
        have hp := hx.inv_eptr hs htot
        cases hinv.rep _ _ hs with
        | buf _ _ ys hz hsz hn hr hare =>
          have hd := flat_drop hsz (by simpa using hy : xs[i]? = some y)
          have hr2 := (hr.drop (i * sz' + sub)).take (y.cells.drop sub).length
          have e1 : ((flat xs).drop (i * sz' + sub)).take (y.cells.drop sub).length = y.cells.drop sub := by
            rw [← List.drop_drop, hd]
            by_cases hle : sub ≤ y.cells.length
            · rw [List.drop_append_of_le_length hle, List.take_left']; rfl
            · have : y.cells.drop sub = [] := List.drop_eq_nil_of_le (by omega)
              simp [this]
          rw [e1] at hr2
          obtain ⟨v, z, k1, k2, k3⟩ := valK_load (b := g.ι id) (off := i * sz' + sub) hkd hr2.repAs (fun j z hj => by
            rw [cell_of_are hare]
            rw [List.getElem?_take] at hj
            split at hj
            · rw [List.getElem?_drop, List.getElem?_take] at hj
              split at hj
              · exact hj
              · cases hj
            · cases hj) hval
          exact ⟨_, _, v, z, hp, k1, k2, k3⟩
      · exact h.elim
    · exact h.elim

def resOne (tmps : Array Value) : ResultVar → Sem Value
  | .tmp t => pure (tmps.getD t undef)
  | .cell a t => do loadVar t (← asAddr (tmps.getD a undef))

theorem resA_run {n : Nat} {w : World} {g : G} {e : Env} {s : Store} {a : Act} (hst : Sts n w g e s a) : ∀ {rs : List ResultVar} {K : List AV → Prop}, resA P rs e s K →
    ∃ vs ys, K vs ∧ RepAs w g (getO s) vs ys ∧ (rs.mapM (resOne a.tmps)).run P w = .ok ys w
  | [], K, h => ⟨[], [], h, .nil, rfl⟩
  | .tmp t :: r, K, h => by
    obtain ⟨vs, ys, h1, h2, h3⟩ := resA_run hst (rs := r) h
    refine ⟨_, _, h1, .cons _ _ _ _ (hst.env t) h2, ?_⟩
    rw [List.mapM_cons]; simp [resOne, h3]
  | .cell q t :: r, K, h => by
    obtain ⟨b, off, v, y, hp, h1, h2, h3⟩ := loadA_run h (hst.env q) hst.inv
    obtain ⟨vs, ys, k1, k2, k3⟩ := resA_run hst (rs := r) h1
    refine ⟨_, _, k1, .cons _ _ _ _ h2 k2, ?_⟩
    rw [List.mapM_cons]
    simp [resOne, hp, asAddr, h3, k3]

theorem oneOf_rep {w : World} {g : G} {σ : St} {vs : List AV} {ys : List Value} (h : RepAs w g σ vs ys) : RepA w g σ (oneOf vs) (if hh : ys.toArray.size = 1 then ys.toArray[0] else .tuple ys.toArray) := by
  cases h with
  | nil => exact .tup [] [] .nil
  | cons v x vs xs h hs =>
    cases hs with
    | nil => exact h
    | cons v2 x2 vs xs h2 hs =>
      rw [dif_neg (by simp)]
      exact .tup _ _ (.cons _ _ _ _ h (.cons _ _ _ _ h2 hs))

theorem args_env {w : World} {g : G} {σ : St} : ∀ {args : List AV} {vs : List Value} (k t : Nat), RepAs w g σ args vs → RepA w g σ (mk (argsE k args) (k + t)) (vs.getD t undef)
  | _, _, k, t, .nil => .undef _
  | _, _, k, 0, .cons v x vs xs h hs => by
    simp only [argsE, mk, upd, Nat.add_zero, Nat.beq_refl]
    simpa using h
  | _, _, k, t + 1, .cons v x vs xs h hs => by
    have hne : Nat.beq k (k + (t + 1)) = false := by
      cases hb : Nat.beq k (k + (t + 1)) with
      | false => rfl
      | true => have := Nat.eq_of_beq_eq_true hb; omega
    simp only [argsE, mk, upd, hne]
    rw [show k + (t + 1) = k + 1 + t by omega]
    simpa using args_env (k + 1) t hs

/-- **A call of a function, by its text.** -/
theorem Cal.intro {f : Nat} {fn : Func} {c : Code} {args : List AV} {s : Store} {K : AV → Store → Prop} (hf : P.funcs[f]? = some fn) (hname : (fn.name == "runtime.NumGoroutine") = false) (hb : fn.body = some c)
    (hn : Nat.ble args.length fn.ntmps = true) (h : aw P fn.ntmps c (retA P fn.results.toList K) (mk (argsE 0 args)) s) : Cal P f args s K := by
  unfold Cal
  refine ⟨⟨fn, hf, hname, by rw [hb]; rfl⟩, fun w g vs hinv hfresh hargs => ?_⟩
  have hn := Nat.le_of_ble_eq_true hn
  refine calls_of_wp hf hb ?_
  have hst : Sts fn.ntmps w g (mk (argsE 0 args)) s { tmps := vs.toArray ++ Array.replicate (fn.ntmps - vs.toArray.size) undef, defers := [] } := by
    refine ⟨hinv, hfresh, fun t => ?_, ?_, rfl⟩
    · have := args_env 0 t hargs
      rw [Nat.zero_add] at this
      have e : (vs.toArray ++ Array.replicate (fn.ntmps - vs.toArray.size) undef).getD t undef = vs.getD t undef := by
        rw [Array.getD_eq_getD_getElem?, List.getD_eq_getElem?_getD]
        by_cases ht : t < vs.length
        · rw [Array.getElem?_append_left (by simpa using ht)]; simp
        · rw [Array.getElem?_append_right (by simp; omega), List.getElem?_eq_none (by omega)]
          rw [Array.getElem?_replicate]
          split <;> rfl
      rw [e]; exact this
    · have := hargs.len
      simp; omega
  refine aw_sound h hst fun out w' g' e' s' a' hk hst' hfr => ?_
  have fin : ∀ vs', K (oneOf vs') s' → ∀ ys, RepAs w' g' (getO s') vs' ys → (fn.results.toList.mapM (resOne a'.tmps)).run P w' = .ok ys w' →
      a'.defers = [] ∧ ∃ v, (results fn a'.tmps).run P w' = .ok v w' ∧ CalPost w g s K (.returned v) w' := by
    intro vs' hK ys hr hrun
    refine ⟨hst'.defers, _, ?_, oneOf vs', _, s', g', rfl, hK, hfr.len, oneOf_rep hr, hst'.inv, hfr.ext, hfr.new⟩
    unfold results
    rw [Array.mapM_eq_mapM_toList]
    simp only [Sem.run_bind, Sem.run_map, Sem.run_pure]
    show (((List.mapM (resOne a'.tmps) fn.results.toList).run P w').andThen _).andThen _ = _
    rw [hrun]
    rfl
  cases out with
  | normal =>
    obtain ⟨vs', ys, h1, h2, h3⟩ := resA_run hst' hk
    exact fin vs' h1 ys h2 h3
  | ret =>
    obtain ⟨vs', ys, h1, h2, h3⟩ := resA_run hst' hk
    exact fin vs' h1 ys h2 h3
  | exit id => exact hk.elim
end Go.Proofs.Ytfjolephpghafaa.AW
