import Derived.Test.YtfjolephpghafaaAwOps9
namespace Go.Proofs.Ytfjolephpghafaa.AW
section ops
variable {P : Program} {o : Oper} {e : Env} {s : Store} {K : AV → Store → Prop} {w : World} {g : G} {σ : St} {a : Act} {T : Nat → Prop} {N : Prop}

theorem foldl_set (vs : List Value) : ∀ (k off : Nat) (xs : List Value), off + k + vs.length ≤ xs.length →
    (vs.zipIdx k).foldl (fun (cs : Array Value) (q : Value × Nat) => cs.setIfInBounds (off + q.2) q.1) xs.toArray = (spliceV xs (off + k) vs).toArray := by
  induction vs with
  | nil => intro k off xs _; simp [spliceV]
  | cons v r ih =>
    intro k off xs hl
    simp only [List.length_cons] at hl
    rw [List.zipIdx_cons, List.foldl_cons]
    have : (xs.toArray.setIfInBounds (off + k) v) = (xs.set (off + k) v).toArray := by simp
    simp only [this]
    rw [ih (k + 1) off (xs.set (off + k) v) (by simp; omega)]
    congr 1
    unfold spliceV
    rw [List.drop_set_of_lt (by omega), show off + (k + 1) = off + k + 1 by omega, List.take_succ_eq_append_getElem (by simp; omega)]
    simp only [List.getElem_set_self, List.take_set_of_le (Nat.le_refl _), List.append_assoc, List.cons_append, List.nil_append, List.length_cons]
    rw [show off + k + (r.length + 1) = off + k + 1 + r.length by omega]

theorem fill_rep {place : Nat → Option (Nat × Nat)} : ∀ {parts : List (Nat × Operand)} {cs ds : List AV} {xs : List Value}, EnvR w g σ e a.tmps → fillA place cs (parts.map fun q => (q.1, ev e q.2)) = some ds → RepAs w g σ cs xs →
    ∃ ys, Instr.fill place xs.toArray (parts.map fun q => (q.1, a.eval q.2)) = some ys.toArray ∧ RepAs w g σ ds ys
  | [], cs, ds, xs, _, h, hr => by simp [fillA] at h; subst h; exact ⟨xs, rfl, hr⟩
  | q :: r, cs, ds, xs, he, h, hr => by
    simp only [List.map_cons, fillA] at h
    split at h
    · cases h
    · rename_i off size hp
      split at h
      · rename_i h1 h2 h3
        have h1 := Nat.eq_of_beq_eq_true h1
        have h2 := Nat.le_of_ble_eq_true h2
        have hv := cells_rep (ev_rep he q.2) h3
        have hl : (a.eval q.2).cells.toList.length = size := by rw [← hv.len, h1]
        obtain ⟨ys, k1, k2⟩ := fill_rep (parts := r) he h (splice_rep hr hv off)
        refine ⟨ys, ?_, k2⟩
        rw [List.map_cons, Instr.fill, hp]
        have hsz : (a.eval q.2).cells.size = size := by rw [← hl]; simp
        have hc : ¬ ((decide ((a.eval q.2).cells.size ≠ size) || decide (off + (a.eval q.2).cells.size > xs.toArray.size)) = true) := by
          rw [hsz]; simp; rw [← hr.len]; omega
        simp only []
        rw [if_neg hc, ← k1]
        congr 1
        have := foldl_set (a.eval q.2).cells.toList 0 off xs (by rw [hl, ← hr.len]; omega)
        rw [Nat.add_zero] at this
        rw [← this, ← Array.foldl_toList, Array.toList_zipIdx]
      · cases h

theorem zc_rep {z : PV} {v : Value} (hr : RepA w g σ (.p z) v) : RepAs w g σ (AV.cells (.p z)) v.cells.toList := by
  have h := hr.inv_p
  cases h <;> first
    | exact .cons _ _ _ _ hr .nil
    | (rename_i cs a hs; simpa [AV.cells, Value.cells] using hs.repAs)
    | (rename_i hl
       have : v.cells = #[v] := by cases v <;> first | rfl | exact hl.elim
       rw [this]; exact .cons _ _ _ _ hr .nil)

theorem ok_build {t : Nat} {ps : Array (Nat × Operand)} (ho : o.op = .build t ps) (h : aop P (.build t ps) e s K) (c : Cx w g σ s T N) (he : EnvR w g σ e a.tmps) : OpOk P o a w (Rs w g σ s T K) := by
  simp only [aop] at h
  have fin : ∀ {cs : List AV} {ys : List Value}, P.built t (ps.map fun (i, x) => (i, a.eval x)).toList = some ys.toArray → RepAs w g σ cs ys → K (mkAgg cs) s → OpOk P o a w (Rs w g σ s T K) := by
    intro cs ys hb hr hk
    refine .value (v := .agg ys.toArray) (w' := w) ?_ (.pure c hk (mkAgg_rep hr))
    simp [execOp, ho, run_build w t _ _ hb]
  split at h
  · rename_i z fs hz hd
    have hu := und hd (by simp)
    obtain ⟨zv, _, hzr, it, hit, hzv⟩ := zeroT_run (w := w) (g := g) (σ := σ) hz
    split at h
    · rename_i hall
      split at h
      · rename_i cs hf
        have hzc := zc_rep hzr
        obtain ⟨ys, k1, k2⟩ := fill_rep he hf hzc
        rw [Array.toArray_toList] at k1
        refine fin ?_ k2 h
        have hplaces : fs.toList.mapM (fun f => (P.info? f.type).map fun i => (f.offset, i.size)) = some (fs.toList.map fun f => (f.offset, szT P f.type)) := by
          generalize fs.toList = l at hall
          induction l with
          | nil => rfl
          | cons f r ih =>
            simp only [List.all_cons, Bool.and_eq_true] at hall
            obtain ⟨i, hi⟩ := Option.isSome_iff_exists.1 hall.1
            rw [List.mapM_cons, ih hall.2]
            simp [hi, szT]
        simp only [Program.built, hit, hu, hzv, hplaces]
        have hpl : (fun x : Nat => (fs.toList.map fun (f : Field) => (f.offset, szT P f.type)).toArray[x]?) = (fun i : Nat => match fs[i]? with | some f => some (f.offset, szT P f.type) | none => none) := by
          funext i
          simp only [List.getElem?_toArray, List.getElem?_map, Array.getElem?_toList]
          cases fs[i]? <;> rfl
        rw [hpl]
        have hm : (ps.map fun (i, x) => (i, a.eval x)).toList = ps.toList.map fun q => (q.1, a.eval q.2) := by simp
        rw [hm]; exact k1
      · exact h.elim
    · exact h.elim
  · rename_i z n el hz hd
    have hu := und hd (by simp)
    obtain ⟨zv, _, hzr, it, hit, hzv⟩ := zeroT_run (w := w) (g := g) (σ := σ) hz
    split at h
    · rename_i i cs hi hf
      have hzc := zc_rep hzr
      obtain ⟨ys, k1, k2⟩ := fill_rep he hf hzc
      rw [Array.toArray_toList] at k1
      refine fin ?_ k2 h
      simp only [Program.built, hit, hu, hzv, hi]
      have hm : (ps.map fun (i, x) => (i, a.eval x)).toList = ps.toList.map fun q => (q.1, a.eval q.2) := by simp
      have hsz : szT P el = i.size := by simp [szT, hi]
      rw [hm, ← k1, hsz]
    · exact h.elim
  · exact h.elim

theorem fill_all {size : Nat} : ∀ {vs : List Value} {k : Nat} {A Z : List Value}, A.length = k * size → Z.length = vs.length * size → (∀ v, v ∈ vs → v.cells.size = size) →
    Instr.fill (fun i => some (i * size, size)) (A ++ Z).toArray ((vs.zipIdx k).map fun q => (q.2, q.1)) = some (A ++ vs.flatMap fun v => v.cells.toList).toArray
  | [], k, A, Z, hA, hZ, _ => by simp at hZ; subst hZ; simp [Instr.fill]
  | v :: r, k, A, Z, hA, hZ, hv => by
    have hvs := hv v (by simp)
    rw [List.zipIdx_cons, List.map_cons, Instr.fill]
    simp only []
    have hZ' : Z.length = size + r.length * size := by rw [hZ, List.length_cons, Nat.succ_mul]; omega
    have hc : ¬ ((decide (v.cells.size ≠ size) || decide (k * size + v.cells.size > (A ++ Z).toArray.size)) = true) := by
      rw [hvs]; simp; omega
    rw [if_neg hc]
    have hl : v.cells.toList.length = size := by rw [← hvs]; simp
    have e1 : v.cells.zipIdx.foldl (fun cs (c, j) => cs.setIfInBounds (k * size + j) c) (A ++ Z).toArray = (A ++ v.cells.toList ++ Z.drop size).toArray := by
      have := foldl_set v.cells.toList 0 (k * size) (A ++ Z) (by rw [hl]; simp; omega)
      rw [← Array.foldl_toList, Array.toList_zipIdx]
      rw [this]
      unfold spliceV
      rw [hl, Nat.add_zero, List.take_left' hA]
      congr 2
      rw [← List.drop_drop, List.drop_left' hA]
    rw [e1]
    have := fill_all (size := size) (vs := r) (k := k + 1) (A := A ++ v.cells.toList) (Z := Z.drop size) (by rw [List.length_append, hA, hl, Nat.succ_mul]) (by rw [List.length_drop]; omega) (fun q hq => hv q (List.mem_cons_of_mem _ hq))
    rw [this]
    simp

theorem repPs_flat : ∀ {ps : List PV} {xs : List Value} {B : Nat → Prop}, RepPs w B ps xs → RepPs w B (flat ps) (xs.flatMap fun v => v.cells.toList)
  | _, _, _, .nil => .nil
  | _, _, _, .cons v x vs xs h hs => by
    show RepPs w _ (v.cells ++ flat vs) (x.cells.toList ++ _)
    refine RepPs.append ?_ (repPs_flat hs)
    cases h <;> first
      | exact .cons _ _ _ _ (by assumption) .nil
      | (rename_i cs a hs; simpa [PV.cells, Value.cells] using hs)
      | (rename_i hl; have : x.cells = #[x] := by cases x <;> first | rfl | exact hl.elim
         rw [this]; exact .cons _ _ _ _ (.lit _ hl) .nil)
      | exact .cons _ _ _ _ (.bool _) .nil
      | exact .cons _ _ _ _ (.int _ _) .nil
      | exact .cons _ _ _ _ (.str _) .nil
      | exact .cons _ _ _ _ (.nil _) .nil
      | (rename_i a b; exact .cons _ _ _ _ (.iface _ _ _ (by assumption)) .nil)
      | exact .cons _ _ _ _ (.sl _ _ _ _ _ _ (by assumption) (by assumption) (by assumption) (by assumption) (by assumption) (by assumption)) .nil
      | exact .cons _ _ _ _ (.pto _ _ _ (by assumption) (by assumption)) .nil

theorem RepP.size {B : Nat → Prop} {v : PV} {x : Value} (h : RepP w B v x) : x.cells.size = v.cells.length := by
  cases h <;> first
    | rfl
    | (rename_i cs a hs; simp [Value.cells, PV.cells, hs.len])
    | (rename_i hl; cases x <;> first | rfl | exact hl.elim)

theorem zipIdx_map {α β : Type} (f : α → β) (l : List (Nat × α)) (k : Nat) (h : l.map (·.1) = List.range' k l.length) : l.map (fun q => (q.1, f q.2)) = ((l.map fun q => f q.2).zipIdx k).map fun q => (q.2, q.1) := by
  induction l generalizing k with
  | nil => rfl
  | cons q r ih =>
    simp only [List.map_cons, List.length_cons, List.range'_succ, List.cons.injEq] at h
    simp only [List.map_cons, List.zipIdx_cons, h.1]
    rw [ih (k + 1) h.2]

theorem ok_buildSlice {t n : Nat} {ps : Array (Nat × Operand)} (ho : o.op = .buildSlice t n ps) (h : aop P (.buildSlice t n ps) e s K) (c : Cx w g σ s T N) (hT : ∀ q, q ∈ ps.toList → ∀ id, id ∈ ids (ev e q.2) → T id) (he : EnvR w g σ e a.tmps) : OpOk P o a w (Rs w g σ s T K) := by
  simp only [aop] at h
  split at h
  · rename_i el hd hrange
    have hu := und hd (by simp)
    have hrange : ps.toList.map (·.1) = List.range n := by simpa using hrange
    have hn : ps.toList.length = n := by have := congrArg List.length hrange; simpa using this
    split at h
    · rename_i i z hi hz
      obtain ⟨zv, hzrun, hzr, it, hit, hzv⟩ := zeroT_run (w := w) (g := g) (σ := σ) hz
      rw [hi] at hit; cases hit
      split at h
      · rename_i hb1 hb2
        have hb1 := Nat.le_of_ble_eq_true hb1
        have hb2 := Nat.eq_of_beq_eq_true hb2
        have hargs : RepAs w g σ (ps.toList.map fun q => ev e q.2) (ps.toList.map fun q => a.eval q.2) := by
          have := evs_rep (w := w) (g := g) (σ := σ) he (ps.toList.map (·.2))
          simpa [List.map_map, Function.comp_def] using this
        obtain ⟨xs, s', hk, hf, hp⟩ := partsP_tree hargs c (fun v hv id hid => by
          obtain ⟨q, hq, rfl⟩ := List.mem_map.1 hv
          exact hT q hq id hid) h
        split at hk
        · rename_i hall
          have hel : ∀ x, x ∈ xs → El i.size x := fun x hx => by
            have := List.all_eq_true.1 hall x hx
            simp only [Bool.and_eq_true] at this
            exact ⟨Nat.eq_of_beq_eq_true this.1, this.2⟩
          have hsz : ∀ v, v ∈ ps.toList.map (fun q => a.eval q.2) → v.cells.size = i.size := by
            intro v hv
            have key : ∀ {xs : List PV} {vs : List Value}, RepPs w (Lv g (Go.Proofs.Ytfjolephpghafaa.AW.ovr T s s' σ)) xs vs → (∀ x, x ∈ xs → El i.size x) → ∀ v, v ∈ vs → v.cells.size = i.size := by
              intro xs vs hr
              induction vs generalizing xs with
              | nil => intro _ v hv; cases hv
              | cons y ys ih =>
                intro hel v hv
                cases hr with
                | cons x _ xs _ hx hs =>
                  rcases List.mem_cons.1 hv with rfl | hv
                  · rw [hx.size]; exact (hel x (by simp)).1
                  · exact ih hs (fun q hq => hel q (by simp [hq])) v hv
            exact key hp hel v hv
          have hxl : xs.length = n := by rw [hp.len]; simp [hn]
          have hzs : zv.cells.size = i.size := by rw [← hb2]; exact zcells hzr
          -- the row
          have hfill : Instr.fill (fun j => some (j * i.size, i.size)) ((Array.range (n * i.size)).map fun j => zv.cells[j % zv.cells.size]!) (ps.map fun (j, x) => (j, a.eval x)).toList = some ((ps.toList.map fun q => a.eval q.2).flatMap fun v => v.cells.toList).toArray := by
            have hm : (ps.map fun (j, x) => (j, a.eval x)).toList = ((ps.toList.map fun q => a.eval q.2).zipIdx 0).map fun q => (q.2, q.1) := by
              have := zipIdx_map a.eval ps.toList 0 (by rw [hrange, hn, List.range_eq_range'])
              rw [← this]; simp
            rw [hm]
            have := fill_all (size := i.size) (vs := ps.toList.map fun q => a.eval q.2) (k := 0) (A := []) (Z := (List.range (n * i.size)).map fun j => zv.cells[j % zv.cells.size]!) (by simp) (by simp [hn]) hsz
            rw [List.nil_append, List.nil_append] at this
            rw [← this, ← List.toArray_range, List.map_toArray]
          have hrun : (Instr.buildSlice t n (ps.map fun (j, x) => (j, a.eval x))).run P w = .ok (.slice (some ⟨w.heap.size, 0, none⟩) n n) (w.alloc (.cells ((ps.toList.map fun q => a.eval q.2).flatMap fun v => v.cells.toList).toArray el)) := by
            have hnb : ¬ n * i.size > 2 ^ 24 := by omega
            have hfill2 : ∀ zc : Array Value, (n * i.size ≠ 0 → zc = zv.cells) → Instr.fill (fun j => some (j * i.size, i.size)) ((Array.range (n * i.size)).map fun j => zc[j % zc.size]!) (ps.map fun (j, x) => (j, a.eval x)).toList = some ((ps.toList.map fun q => a.eval q.2).flatMap fun v => v.cells.toList).toArray := by
              intro zc hzc
              by_cases h0 : n * i.size = 0
              · have e0 : ∀ f : Nat → Value, (Array.range 0).map f = #[] := fun f => by rw [Array.range_zero']; simp
                rw [← hfill, h0, e0, e0]
              · rw [hzc h0, hfill]
            have hnb' : ¬ 2 ^ 24 < n * i.size := hnb
            by_cases h0 : n * i.size = 0
            · have h1 := hfill2 #[] (fun q => absurd h0 q)
              simp only [Instr.buildSlice, Sem.run_bind, run_underlying hu, Result.andThen_ok, sizeOf, typeInfo, run_program, hi, Sem.run_pure, if_neg hnb, if_pos h0, h1]
              rfl
            · have h1 := hfill2 zv.cells (fun _ => rfl)
              simp only [Instr.buildSlice, Sem.run_bind, run_underlying hu, Result.andThen_ok, sizeOf, typeInfo, run_program, hi, Sem.run_pure, if_neg hnb, if_neg h0, hzrun, h1]
              rfl
          have m := More.alloc w (.cells ((ps.toList.map fun q => a.eval q.2).flatMap fun v => v.cells.toList).toArray el)
          have c' := hf.cx c
          obtain ⟨v, s2, g2, R⟩ := Rs.more (K := K) (x := .slice (some ⟨w.heap.size, 0, none⟩) n n) c' m hk (by
            have := RepP.sl (w := w.alloc (.cells ((ps.toList.map fun q => a.eval q.2).flatMap fun v => v.cells.toList).toArray el)) (B := Lv g (Go.Proofs.Ytfjolephpghafaa.AW.ovr T s s' σ)) .clip i.size xs w.heap.size 0 n (by decide) (fun _ => hxl.symm) (by omega) hel (fun _ => c'.freshB) (by
              refine cellsP_of ((c'.ext_more m).repPs (repPs_flat hp)) (fun j y hj => ?_)
              rw [Nat.zero_add]
              simp only [World.cell?, m.at]
              simpa using hj)
            rw [hxl] at this
            exact .p _ _ this)
          refine .value (v := .slice (some ⟨w.heap.size, 0, none⟩) n n) (w' := w.alloc (.cells ((ps.toList.map fun q => a.eval q.2).flatMap fun v => v.cells.toList).toArray el)) (by simp [execOp, ho, hrun]) ⟨v, s2, g2, ?_⟩
          have hov := hf.ovr (s'' := s2)
          have r1 := R.rep; have r2 := R.inv; have r3 := R.ext
          rw [hov] at r1 r2 r3
          refine ⟨R.K, by have := R.len; rw [hf.len] at this; exact this, fun id hid hl => ?_, r1, r2, hf.ext.trans r3, fun id hid => ?_⟩
          · rw [R.same id hid (by rw [hf.len]; exact hl), hf.same id hid hl]
          · have := R.new id hid; rw [hf.len] at this; exact this
        · exact hk.elim
      · exact h.elim
    · exact h.elim
  · exact h.elim
end ops
end Go.Proofs.Ytfjolephpghafaa.AW
