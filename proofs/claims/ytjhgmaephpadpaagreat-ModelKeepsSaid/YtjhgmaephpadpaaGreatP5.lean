/- A part of the proof: AW/Ops10, AW/Ops11, AW/Ren, AW/Drawn1, AW/Drawn2. -/
import Derived.Test.YtjhgmaephpadpaaGreatP4
import Derived.Orders
namespace Go.Proofs.YtjhgmaephpadpaaGreat.AW
set_option linter.unusedSimpArgs false
set_option linter.unusedVariables false
section ops
variable {P : Program} {o : Oper} {e : Env} {s : Store} {K : AV → Store → Prop} {w : World} {g : G} {σ : St} {a : Act} {T : Nat → Prop} {N : Prop}

theorem ok_makeInterface {t : Nat} {x : Operand} (ho : o.op = .makeInterface t x) (h : aop P (.makeInterface t x) e s K) (c : Cx w g σ s T N) (hT : ∀ id, id ∈ footT e (.makeInterface t x) → T id) (he : EnvR w g σ e a.tmps) : OpOk P o a w (Rs w g σ s T K) := by
  simp only [aop] at h
  have hx := ev_rep he x
  have fin : ∀ {d : TypeDesc} {v : AV}, P.underlying t = some d → (∀ ms, d ≠ .interface ms) → K v s → RepA w g σ v (.iface t (a.eval x)) → OpOk P o a w (Rs w g σ s T K) := by
    intro d v hd hn hk hr
    refine .value (v := .iface t (a.eval x)) (w' := w) ?_ (.pure c hk hr)
    simp only [execOp, ho, Instr.makeInterface, underlying]
    cases d <;> simp [hd] <;> exact absurd rfl (hn _)
  split at h
  · exact h.elim
  · exact h.elim
  · rename_i d hn hd
    split at h
    · rename_i v hev; exact fin hd (fun ms e => hn ms e) h (by rw [hev] at hx; exact .p _ _ (.iface _ _ _ hx.inv_p))
    · rename_i id off hev; exact fin hd (fun ms e => hn ms e) h (by rw [hev] at hx; exact .ifc _ _ _ hx)
    · rename_i id tot off len hev
      rw [hev] at hx
      obtain ⟨p, s', hk, hf, hp⟩ := toP_tree hx c (fun i hi => hT i (by simp only [footT, hev]; simpa [ids, ids1] using hi)) h
      have hr : Rs w g σ s T K (.iface t (a.eval x)) w := ⟨.p (.iface t p), s', g, hk, by rw [hf.len]; exact Nat.le_refl _, hf.same, .p _ _ (.iface _ _ _ hp), hf.inv, hf.ext, fun id h => .inl h⟩
      refine .value (v := .iface t (a.eval x)) (w' := w) ?_ hr
      simp only [execOp, ho, Instr.makeInterface, underlying]
      cases d <;> simp [hd] <;> exact absurd rfl (hn _)
    · exact h.elim

theorem foldl_set (vs : List Value) : ∀ (k off : Nat) (xs : List Value), off + k + vs.length ≤ xs.length →
    (vs.zipIdx k).foldl (fun (cs : Array Value) (q : Value × Nat) => cs.setIfInBounds (off + q.2) q.1) xs.toArray = (spliceV xs (off + k) vs).toArray := by
  induction vs with
  | nil => intro k off xs _; simp [spliceV]
  | cons v r ih =>
    intro k off xs hl
    simp only [List.length_cons] at hl
    rw [List.zipIdx_cons, List.foldl_cons]
    have : (xs.toArray.setIfInBounds (off + k) v) = (xs.set (off + k) v).toArray := by simp
    simp only [this]
    rw [ih (k + 1) off (xs.set (off + k) v) (by simp; omega)]
    congr 1
    unfold spliceV
    rw [List.drop_set_of_lt (by omega), show off + (k + 1) = off + k + 1 by omega, List.take_succ_eq_append_getElem (by simp; omega)]
    simp only [List.getElem_set_self, List.take_set_of_le (Nat.le_refl _), List.append_assoc, List.cons_append, List.nil_append, List.length_cons]
    rw [show off + k + (r.length + 1) = off + k + 1 + r.length by omega]

theorem fill_rep {place : Nat → Option (Nat × Nat)} : ∀ {parts : List (Nat × Operand)} {cs ds : List AV} {xs : List Value}, EnvR w g σ e a.tmps → fillA place cs (parts.map fun q => (q.1, ev e q.2)) = some ds → RepAs w g σ cs xs →
    ∃ ys, Instr.fill place xs.toArray (parts.map fun q => (q.1, a.eval q.2)) = some ys.toArray ∧ RepAs w g σ ds ys
  | [], cs, ds, xs, _, h, hr => by simp [fillA] at h; subst h; exact ⟨xs, rfl, hr⟩
  | q :: r, cs, ds, xs, he, h, hr => by
    simp only [List.map_cons, fillA] at h
    split at h
    · cases h
    · rename_i off size hp
      split at h
      · rename_i h1 h2 h3
        have h1 := Nat.eq_of_beq_eq_true h1
        have h2 := Nat.le_of_ble_eq_true h2
        have hv := cells_rep (ev_rep he q.2) h3
        have hl : (a.eval q.2).cells.toList.length = size := by rw [← hv.len, h1]
        obtain ⟨ys, k1, k2⟩ := fill_rep (parts := r) he h (splice_rep hr hv off)
        refine ⟨ys, ?_, k2⟩
        rw [List.map_cons, Instr.fill, hp]
        have hsz : (a.eval q.2).cells.size = size := by rw [← hl]; simp
        have hc : ¬ ((decide ((a.eval q.2).cells.size ≠ size) || decide (off + (a.eval q.2).cells.size > xs.toArray.size)) = true) := by
          rw [hsz]; simp; rw [← hr.len]; omega
        simp only []
        rw [if_neg hc, ← k1]
        congr 1
        have := foldl_set (a.eval q.2).cells.toList 0 off xs (by rw [hl, ← hr.len]; omega)
        rw [Nat.add_zero] at this
        rw [← this, ← Array.foldl_toList, Array.toList_zipIdx]
      · cases h

theorem zc_rep {z : PV} {v : Value} (hr : RepA w g σ (.p z) v) : RepAs w g σ (AV.cells (.p z)) v.cells.toList := by
  have h := hr.inv_p
  cases h <;> first
    | exact .cons _ _ _ _ hr .nil
    | (rename_i cs a hs; simpa [AV.cells, Value.cells] using hs.repAs)
    | (rename_i hl
       have : v.cells = #[v] := by cases v <;> first | rfl | exact hl.elim
       rw [this]; exact .cons _ _ _ _ hr .nil)

theorem ok_build {t : Nat} {ps : Array (Nat × Operand)} (ho : o.op = .build t ps) (h : aop P (.build t ps) e s K) (c : Cx w g σ s T N) (he : EnvR w g σ e a.tmps) : OpOk P o a w (Rs w g σ s T K) := by
  simp only [aop, fillK_eq] at h
  have fin : ∀ {cs : List AV} {ys : List Value}, P.built t (ps.map fun (i, x) => (i, a.eval x)).toList = some ys.toArray → RepAs w g σ cs ys → K (mkAgg cs) s → OpOk P o a w (Rs w g σ s T K) := by
    intro cs ys hb hr hk
    refine .value (v := .agg ys.toArray) (w' := w) ?_ (.pure c hk (mkAgg_rep hr))
    simp [execOp, ho, run_build w t _ _ hb]
  split at h
  · rename_i z fs hz hd
    have hu := und hd (by simp)
    obtain ⟨zv, _, hzr, it, hit, hzv⟩ := zeroT_run (w := w) (g := g) (σ := σ) hz
    split at h
    · rename_i hall
      split at h
      · rename_i cs hf
        have hzc := zc_rep hzr
        obtain ⟨ys, k1, k2⟩ := fill_rep he hf hzc
        rw [Array.toArray_toList] at k1
        refine fin ?_ k2 h
        have hplaces : fs.toList.mapM (fun f => (P.info? f.type).map fun i => (f.offset, i.size)) = some (fs.toList.map fun f => (f.offset, szT P f.type)) := by
          generalize fs.toList = l at hall
          induction l with
          | nil => rfl
          | cons f r ih =>
            simp only [List.all_cons, Bool.and_eq_true] at hall
            obtain ⟨i, hi⟩ := Option.isSome_iff_exists.1 hall.1
            rw [List.mapM_cons, ih hall.2]
            simp [hi, szT]
        simp only [Program.built, hit, hu, hzv, hplaces]
        have hpl : (fun x : Nat => (fs.toList.map fun (f : Field) => (f.offset, szT P f.type)).toArray[x]?) = (fun i : Nat => match fs[i]? with | some f => some (f.offset, szT P f.type) | none => none) := by
          funext i
          simp only [List.getElem?_toArray, List.getElem?_map, Array.getElem?_toList]
          cases fs[i]? <;> rfl
        rw [hpl]
        have hm : (ps.map fun (i, x) => (i, a.eval x)).toList = ps.toList.map fun q => (q.1, a.eval q.2) := by simp
        rw [hm]; exact k1
      · exact h.elim
    · exact h.elim
  · rename_i z n el hz hd
    have hu := und hd (by simp)
    obtain ⟨zv, _, hzr, it, hit, hzv⟩ := zeroT_run (w := w) (g := g) (σ := σ) hz
    split at h
    · rename_i i hi
      split at h
      · rename_i cs hf
        have hzc := zc_rep hzr
        obtain ⟨ys, k1, k2⟩ := fill_rep he hf hzc
        rw [Array.toArray_toList] at k1
        refine fin ?_ k2 h
        simp only [Program.built, hit, hu, hzv, hi]
        have hm : (ps.map fun (i, x) => (i, a.eval x)).toList = ps.toList.map fun q => (q.1, a.eval q.2) := by simp
        have hsz : szT P el = i.size := by simp [szT, hi]
        rw [hm, ← k1, hsz]
      · exact h.elim
    · exact h.elim
  · exact h.elim

theorem fill_all {size : Nat} : ∀ {vs : List Value} {k : Nat} {A Z : List Value}, A.length = k * size → Z.length = vs.length * size → (∀ v, v ∈ vs → v.cells.size = size) →
    Instr.fill (fun i => some (i * size, size)) (A ++ Z).toArray ((vs.zipIdx k).map fun q => (q.2, q.1)) = some (A ++ vs.flatMap fun v => v.cells.toList).toArray
  | [], k, A, Z, hA, hZ, _ => by simp at hZ; subst hZ; simp [Instr.fill]
  | v :: r, k, A, Z, hA, hZ, hv => by
    have hvs := hv v (by simp)
    rw [List.zipIdx_cons, List.map_cons, Instr.fill]
    simp only []
    have hZ' : Z.length = size + r.length * size := by rw [hZ, List.length_cons, Nat.succ_mul]; omega
    have hc : ¬ ((decide (v.cells.size ≠ size) || decide (k * size + v.cells.size > (A ++ Z).toArray.size)) = true) := by
      rw [hvs]; simp; omega
    rw [if_neg hc]
    have hl : v.cells.toList.length = size := by rw [← hvs]; simp
    have e1 : v.cells.zipIdx.foldl (fun cs (c, j) => cs.setIfInBounds (k * size + j) c) (A ++ Z).toArray = (A ++ v.cells.toList ++ Z.drop size).toArray := by
      have := foldl_set v.cells.toList 0 (k * size) (A ++ Z) (by rw [hl]; simp; omega)
      rw [← Array.foldl_toList, Array.toList_zipIdx]
      rw [this]
      unfold spliceV
      rw [hl, Nat.add_zero, List.take_left' hA]
      congr 2
      rw [← List.drop_drop, List.drop_left' hA]
    rw [e1]
    have := fill_all (size := size) (vs := r) (k := k + 1) (A := A ++ v.cells.toList) (Z := Z.drop size) (by rw [List.length_append, hA, hl, Nat.succ_mul]) (by rw [List.length_drop]; omega) (fun q hq => hv q (List.mem_cons_of_mem _ hq))
    rw [this]
    simp

theorem repPs_flat : ∀ {ps : List PV} {xs : List Value} {B : Nat → Prop}, RepPs w B ps xs → RepPs w B (flat ps) (xs.flatMap fun v => v.cells.toList)
  | _, _, _, .nil => .nil
  | _, _, _, .cons v x vs xs h hs => by
    show RepPs w _ (v.cells ++ flat vs) (x.cells.toList ++ _)
    refine RepPs.append ?_ (repPs_flat hs)
    cases h <;> first
      | exact .cons _ _ _ _ (by assumption) .nil
      | (rename_i cs a hs; simpa [PV.cells, Value.cells] using hs)
      | (rename_i hl; have : x.cells = #[x] := by cases x <;> first | rfl | exact hl.elim
         rw [this]; exact .cons _ _ _ _ (.lit _ hl) .nil)
      | exact .cons _ _ _ _ (.bool _) .nil
      | exact .cons _ _ _ _ (.int _ _) .nil
      | exact .cons _ _ _ _ (.str _) .nil
      | exact .cons _ _ _ _ (.nil _ _) .nil
      | exact .cons _ _ _ _ (.spt _ _ _ (by assumption)) .nil
      | (rename_i a b; exact .cons _ _ _ _ (.iface _ _ _ (by assumption)) .nil)
      | exact .cons _ _ _ _ (.sl _ _ _ _ _ _ (by assumption) (by assumption) (by assumption) (by assumption) (by assumption) (by assumption)) .nil
      | exact .cons _ _ _ _ (.pto _ _ _ (by assumption) (by assumption)) .nil

theorem RepP.size {B : Nat → Prop} {v : PV} {x : Value} (h : RepP w B v x) : x.cells.size = v.cells.length := by
  cases h <;> first
    | rfl
    | (rename_i cs a hs; simp [Value.cells, PV.cells, hs.len])
    | (rename_i hl; cases x <;> first | rfl | exact hl.elim)

theorem zipIdx_map {α β : Type} (f : α → β) (l : List (Nat × α)) (k : Nat) (h : l.map (·.1) = List.range' k l.length) : l.map (fun q => (q.1, f q.2)) = ((l.map fun q => f q.2).zipIdx k).map fun q => (q.2, q.1) := by
  induction l generalizing k with
  | nil => rfl
  | cons q r ih =>
    simp only [List.map_cons, List.length_cons, List.range'_succ, List.cons.injEq] at h
    simp only [List.map_cons, List.zipIdx_cons, h.1]
    rw [ih (k + 1) h.2]

theorem el_sizes {B : Nat → Prop} {sz : Nat} : ∀ {xs : List PV} {vs : List Value}, RepPs w B xs vs → (∀ x, x ∈ xs → El sz x) → ∀ v, v ∈ vs → v.cells.size = sz
  | _, _, .nil, _, v, hv => by cases hv
  | _, _, .cons x y xs ys hx hs, hel, v, hv => by
    rcases List.mem_cons.1 hv with rfl | hv
    · rw [hx.size]; exact (hel x (by simp)).1
    · exact el_sizes hs (fun q hq => hel q (by simp [hq])) v hv

theorem run_bs {t n el : Nat} {ps : Array (Nat × Operand)} {i : TypeInfo} {zv : Value} (hu : P.underlying t = some (.slice el)) (hrange : ps.toList.map (·.1) = List.range n) (hn : ps.toList.length = n) (hi : P.info? el = some i)
    (hzrun : (zeroValue el).run P w = .ok zv w) (hb1 : n * i.size ≤ 16777216) (hsz : ∀ v, v ∈ ps.toList.map (fun q => a.eval q.2) → v.cells.size = i.size) :
    (Instr.buildSlice t n (ps.map fun (j, x) => (j, a.eval x))).run P w = .ok (.slice (some ⟨w.heap.size, 0, none⟩) n n) (w.alloc (.cells ((ps.toList.map fun q => a.eval q.2).flatMap fun v => v.cells.toList).toArray el)) := by
  have hfill : Instr.fill (fun j => some (j * i.size, i.size)) ((Array.range (n * i.size)).map fun j => zv.cells[j % zv.cells.size]!) (ps.map fun (j, x) => (j, a.eval x)).toList = some ((ps.toList.map fun q => a.eval q.2).flatMap fun v => v.cells.toList).toArray := by
    have hm : (ps.map fun (j, x) => (j, a.eval x)).toList = ((ps.toList.map fun q => a.eval q.2).zipIdx 0).map fun q => (q.2, q.1) := by
      have := zipIdx_map a.eval ps.toList 0 (by rw [hrange, hn, List.range_eq_range'])
      rw [← this]; simp
    rw [hm]
    have := fill_all (size := i.size) (vs := ps.toList.map fun q => a.eval q.2) (k := 0) (A := []) (Z := (List.range (n * i.size)).map fun j => zv.cells[j % zv.cells.size]!) (by simp) (by simp [hn]) hsz
    rw [List.nil_append, List.nil_append] at this
    rw [← this, ← List.toArray_range, List.map_toArray]
  have hnb : ¬ n * i.size > 2 ^ 24 := by omega
  have hfill2 : ∀ zc : Array Value, (n * i.size ≠ 0 → zc = zv.cells) → Instr.fill (fun j => some (j * i.size, i.size)) ((Array.range (n * i.size)).map fun j => zc[j % zc.size]!) (ps.map fun (j, x) => (j, a.eval x)).toList = some ((ps.toList.map fun q => a.eval q.2).flatMap fun v => v.cells.toList).toArray := by
    intro zc hzc
    by_cases h0 : n * i.size = 0
    · have e0 : ∀ f : Nat → Value, (Array.range 0).map f = #[] := fun f => by rw [Array.range_zero']; simp
      rw [← hfill, h0, e0, e0]
    · rw [hzc h0, hfill]
  have hnb' : ¬ 2 ^ 24 < n * i.size := hnb
  by_cases h0 : n * i.size = 0
  · have h1 := hfill2 #[] (fun q => absurd h0 q)
    simp only [Instr.buildSlice, Sem.run_bind, run_underlying hu, Result.andThen_ok, sizeOf, typeInfo, run_program, hi, Sem.run_pure, if_neg hnb, if_pos h0, h1]
    rfl
  · have h1 := hfill2 zv.cells (fun _ => rfl)
    simp only [Instr.buildSlice, Sem.run_bind, run_underlying hu, Result.andThen_ok, sizeOf, typeInfo, run_program, hi, Sem.run_pure, if_neg hnb, if_neg h0, hzrun, h1]
    rfl

theorem oneCell_cells {x : Value} (h : x.oneCell' = true) : x.cells = #[x] := by
  cases x <;> first | rfl | (simp [Value.oneCell'] at h)
theorem onesV_flat : ∀ {xs : List Value}, (∀ x, x ∈ xs → x.oneCell' = true) → (xs.flatMap fun v => v.cells.toList) = xs
  | [], _ => rfl
  | x :: xs, h => by
    rw [List.flatMap_cons, oneCell_cells (h x (by simp)), onesV_flat fun y hy => h y (by simp [hy])]; rfl

theorem ok_buildSlice {t n : Nat} {ps : Array (Nat × Operand)} (ho : o.op = .buildSlice t n ps) (h : aop P (.buildSlice t n ps) e s K) (hN : ∀ v s', K v s' → s.length < s'.length → N) (c : Cx w g σ s T N) (hT : ∀ q, q ∈ ps.toList → ∀ id, id ∈ ids (ev e q.2) → T id) (he : EnvR w g σ e a.tmps) : OpOk P o a w (Rs w g σ s T K) := by
  simp only [aop] at h
  split at h
  · rename_i el hd hrange
    have hu := und hd (by simp)
    have hrange : ps.toList.map (·.1) = List.range n := by simpa using hrange
    have hn : ps.toList.length = n := by have := congrArg List.length hrange; simpa using this
    split at h
    · rename_i i z hi hz
      obtain ⟨zv, hzrun, hzr, it, hit, hzv⟩ := zeroT_run (w := w) (g := g) (σ := σ) hz
      rw [hi] at hit; cases hit
      split at h
      · rename_i hb1 hb2
        have hb1 := Nat.le_of_ble_eq_true hb1
        have hb2 := Nat.eq_of_beq_eq_true hb2
        have hargs : RepAs w g σ (ps.toList.map fun q => ev e q.2) (ps.toList.map fun q => a.eval q.2) := by
          have := evs_rep (w := w) (g := g) (σ := σ) he (ps.toList.map (·.2))
          simpa [List.map_map, Function.comp_def] using this
        have elOf : ∀ {xs : List PV}, (xs.all (fun x => Nat.beq x.cells.length i.size && x.cells.all PV.one)) = true → ∀ x, x ∈ xs → El i.size x := fun hall x hx => by
          have := List.all_eq_true.1 hall x hx
          simp only [Bool.and_eq_true] at this
          exact ⟨Nat.eq_of_beq_eq_true this.1, this.2⟩
        have old : (partsP s (ps.toList.map fun q => ev e q.2) fun xs s' => (match xs.all (fun x => Nat.beq x.cells.length i.size && x.cells.all PV.one) with
            | true => K (.p (.sl .clip i.size xs)) s'
            | false => False)) → OpOk P o a w (Rs w g σ s T K) := by
          intro h
          obtain ⟨xs, s', hk, hf, hp⟩ := partsP_tree hargs c (fun v hv id hid => by
            obtain ⟨q, hq, rfl⟩ := List.mem_map.1 hv
            exact hT q hq id hid) h
          split at hk
          · rename_i hall
            have hel := elOf hall
            have hxl : xs.length = n := by rw [hp.len]; simp [hn]
            have hrun := run_bs (P := P) (w := w) (a := a) hu hrange hn hi hzrun hb1 (el_sizes hp hel)
            have m := More.alloc w (.cells ((ps.toList.map fun q => a.eval q.2).flatMap fun v => v.cells.toList).toArray el)
            have c' := hf.cx c
            obtain ⟨v, s2, g2, R⟩ := Rs.more (K := K) (x := .slice (some ⟨w.heap.size, 0, none⟩) n n) c' m hk (by
              have := RepP.sl (w := w.alloc (.cells ((ps.toList.map fun q => a.eval q.2).flatMap fun v => v.cells.toList).toArray el)) (B := Lv g (Go.Proofs.YtjhgmaephpadpaaGreat.AW.ovr T s s' σ)) .clip i.size xs w.heap.size 0 n (by decide) (fun _ => hxl.symm) (by omega) hel (fun _ => c'.freshB) (by
                refine cellsP_of ((c'.ext_more m).repPs (repPs_flat hp)) (fun j y hj => ?_)
                rw [Nat.zero_add]
                simp only [World.cell?, m.at]
                simpa using hj)
              rw [hxl] at this
              exact .p _ _ this)
            refine .value (v := .slice (some ⟨w.heap.size, 0, none⟩) n n) (w' := w.alloc (.cells ((ps.toList.map fun q => a.eval q.2).flatMap fun v => v.cells.toList).toArray el)) (by simp [execOp, ho, hrun]) ⟨v, s2, g2, ?_⟩
            have hov := hf.ovr (s'' := s2)
            have r1 := R.rep; have r2 := R.inv; have r3 := R.ext
            rw [hov] at r1 r2 r3
            refine ⟨R.K, by have := R.len; rw [hf.len] at this; exact this, fun id hid hl => ?_, r1, r2, hf.ext.trans r3, fun id hid => ?_⟩
            · rw [R.same id hid (by rw [hf.len]; exact hl), hf.same id hid hl]
            · have := R.new id hid; rw [hf.len] at this; exact this
          · exact hk.elim
        split at h
        · rename_i u xs htag hall
          rcases h with h | h
          · exact old h
          · split at h
            · rename_i hall2 hs1
              rw [snoc_eq] at h
              have hs1 := Nat.le_of_ble_eq_true hs1
              have hel := elOf hall2
              have hp := allP_rep hargs hall
              have hxl : xs.length = n := by rw [hp.len]; simp [hn]
              have hrun := run_bs (P := P) (w := w) (a := a) hu hrange hn hi hzrun hb1 (el_sizes hp hel)
              have m := More.alloc w (.cells ((ps.toList.map fun q => a.eval q.2).flatMap fun v => v.cells.toList).toArray el)
              have hnN : N := hN _ _ h (by simp)
              have hu2 := tagB_eq htag
              have hfl := repPs_flat hp
              have hlen : ((ps.toList.map fun q => a.eval q.2).flatMap fun v => v.cells.toList).length = i.size * xs.length := by
                rw [← hfl.len, flat_len hel]
              have hsh0 : (w.alloc (.cells ((ps.toList.map fun q => a.eval q.2).flatMap fun v => v.cells.toList).toArray el)).shape? w.heap.size = some (el, i.size * xs.length) := by
                simp only [World.shape?, m.at]
                rw [← hlen]; simp
              refine .value (v := .slice (some ⟨w.heap.size, 0, none⟩) n n) (w' := w.alloc (.cells ((ps.toList.map fun q => a.eval q.2).flatMap fun v => v.cells.toList).toArray el)) (by simp [execOp, ho, hrun]) ?_
              refine Rs.new c m (o := .buf i.size xs (some u)) ?_ ?_ h hnN
              · refine .buf _ _ ((ps.toList.map fun q => a.eval q.2).flatMap fun v => v.cells.toList) (by omega) hel (by omega) ?_ ⟨el, (0, 0), by simpa using m.at, .inl rfl⟩ _ (fun u' hu' => by cases hu'; rw [hu2]; exact ⟨_, hsh0⟩)
                rw [← hlen, List.take_of_length_le (Nat.le_refl _)]
                exact (c.ext_new m _ hnN).repPs hfl
              · have := RepA.osl (w := w.alloc (.cells ((ps.toList.map fun q => a.eval q.2).flatMap fun v => v.cells.toList).toArray el)) (g := g.new s.length w.heap.size) (σ := σ.put s.length (.buf i.size xs (some u))) s.length xs.length 0 n
                  (.slice (some ⟨w.heap.size, 0, none⟩) n n) (.inr rfl) ⟨_, _, rfl, fun q => by cases q⟩ (fun sz zs ty q => by simp [St.put] at q; rw [← q.2.1]; omega) (fun sz zs ty q _ => by
                    simp [St.put] at q
                    obtain ⟨rfl, rfl, _⟩ := q
                    refine ⟨by omega, fun q => absurd (.inl rfl) q, fun _ => ⟨_, _, rfl, rfl, Nat.le_refl _, fun _ => ⟨by simp [G.new], ?_⟩⟩⟩
                    exact ⟨el, _, by simpa [G.new] using hsh0, by rw [Nat.zero_add, ← hxl, Nat.mul_comm]; exact Nat.le_refl _⟩)
                have hv : AV.osl s.length xs.length 0 xs.length = AV.osl s.length xs.length 0 n := by rw [hxl]
                rw [hv]; exact this
            · exact h.elim
        · exact old h
        · rcases h with h | h
          · exact old h
          · split at h
            · rename_i hone hs1
              rw [snoc_eq] at h
              have hs1 := Nat.eq_of_beq_eq_true hs1
              have hones := oneCells_rep hargs hone
              have hfl := onesV_flat hones
              have hrun := run_bs (P := P) (w := w) (a := a) hu hrange hn hi hzrun hb1 (fun v hv => by rw [oneCell_cells (hones v hv), hs1]; rfl)
              rw [hfl] at hrun
              have m := More.alloc w (.cells (ps.toList.map fun q => a.eval q.2).toArray el)
              have hnN : N := hN _ _ h (by simp)
              refine .value (v := .slice (some ⟨w.heap.size, 0, none⟩) n n) (w' := w.alloc (.cells (ps.toList.map fun q => a.eval q.2).toArray el)) (by simp [execOp, ho, hrun]) ?_
              refine Rs.new c m (o := .cells (ps.toList.map fun q => ev e q.2)) (.cells _ _ (ps.toList.map fun q => a.eval q.2) ((c.ext_new m _ hnN).repAs hargs) ⟨el, by simpa using m.at⟩ (by simp)) ?_ h hnN
              have := RepA.oslc (w := w.alloc (.cells (ps.toList.map fun q => a.eval q.2).toArray el)) (g := g.new s.length w.heap.size) (σ := σ.put s.length (.cells (ps.toList.map fun q => ev e q.2))) s.length n (.inr rfl) (by simp [St.put])
              simpa [G.new] using this
            · exact h.elim
      · exact h.elim
    · exact h.elim
  · exact h.elim
/-- A store; an owned slice goes into an element as a tree. -/
theorem ok_store {t : Nat} {x y : Operand} (ho : o.op = .store t x y) (h : aop P (.store t x y) e s K) (c : Cx w g σ s T N) (hT : ∀ id, id ∈ ids (ev e x) → T id) (hT2 : ∀ i j k l id b c d, ev e x = .eptr i j k l → ev e y = .osl id b c d → T id) (he : EnvR w g σ e a.tmps) : OpOk P o a w (Rs w g σ s T K) := by
  simp only [aop] at h
  have hx := ev_rep he x
  have hy := ev_rep he y
  unfold storeS at h
  split at h
  · rename_i id tot i sub id2 b c' d hex hey
    obtain ⟨p, s', h1, hf, hp⟩ := toP_tree (v := .osl id2 b c' d) (by rw [← hey]; exact hy) c (fun q hq => by
      simp only [ids, ids1, List.mem_singleton] at hq
      subst hq
      exact hT2 _ _ _ _ _ _ _ _ hex hey) h
    have hx' := hf.ext.repA hx
    rw [hex] at hx' hT
    refine (ok_storeA (fx := fun _ => .eptr id tot i sub) (fy := fun _ => .p p) ho h1 (hf.cx c) hT hx' (.p _ _ hp)).imp fun v w' hq => ?_
    obtain ⟨v2, s2, g2, R⟩ := hq
    have hov := hf.ovr (s'' := s2)
    have r1 := R.rep; have r2 := R.inv; have r3 := R.ext
    rw [hov] at r1 r2 r3
    exact ⟨v2, s2, g2, R.K, by have := R.len; rw [hf.len] at this; exact this, fun q hq hl => by rw [R.same q hq (by rw [hf.len]; exact hl), hf.same q hq hl], r1, r2, hf.ext.trans r3, fun q hq => by have := R.new q hq; rw [hf.len] at this; exact this⟩
  · exact ok_storeA (fx := fun _ => ev e x) (fy := fun _ => ev e y) ho h c hT hx hy
end ops
end Go.Proofs.YtjhgmaephpadpaaGreat.AW

namespace Go.Proofs.YtjhgmaephpadpaaGreat.AW
set_option linter.unusedSimpArgs false
set_option linter.unusedVariables false
section ops
variable {P : Program} {o : Oper} {e : Env} {s : Store} {K : AV → Store → Prop} {w : World} {g : G} {σ : St} {a : Act} {T : Nat → Prop} {N : Prop}

theorem madeCells_eq (zc : Array Value) : ∀ n, (madeCells zc (n * zc.size)).toList = (List.replicate n zc.toList).flatten := by
  intro n
  unfold madeCells
  rw [← List.toArray_range, List.map_toArray]
  show (List.range (n * zc.size)).map (fun j => zc[j % zc.size]!) = _
  induction n with
  | zero => simp
  | succ n ih =>
    rw [Nat.succ_mul, List.range_add, List.map_append, ih, List.replicate_succ', List.flatten_append]
    congr 1
    simp only [List.flatten_cons, List.flatten_nil, List.append_nil]
    apply List.ext_getElem
    · simp
    · intro i h1 h2
      simp at h1
      simp only [List.getElem_map, List.getElem_range, Nat.mul_add_mod_self_right, Nat.mod_eq_of_lt h1]
      rw [getElem!_pos zc i h1]
      simp

theorem flat_rep {B : Nat → Prop} {z : PV} {zs : List Value} (h : RepPs w B z.cells zs) : ∀ n, RepPs w B (flat (List.replicate n z)) (List.replicate n zs).flatten
  | 0 => .nil
  | n + 1 => by
    rw [List.replicate_succ, List.replicate_succ, List.flatten_cons]
    show RepPs w B (z.cells ++ flat (List.replicate n z)) _
    exact h.append (flat_rep h n)

theorem ok_makeSlice {t : Nat} {l m : Operand} (ho : o.op = .makeSlice t l m) (h : aop P (.makeSlice t l m) e s K) (hN : ∀ v s', K v s' → s.length < s'.length → N) (c : Cx w g σ s T N) (he : EnvR w g σ e a.tmps) : OpOk P o a w (Rs w g σ s T K) := by
  simp only [aop] at h
  have hl := ev_rep he l
  have hm := ev_rep he m
  split at h
  · rename_i el k1 n k2 n2 hd hel hem
    have hu := und hd (by simp)
    rw [hel] at hl; rw [hem] at hm
    split at h
    · rename_i i z hi hz
      obtain ⟨zv, _, hzr, it, hit, hzv⟩ := zeroT_run (w := w) (g := g) (σ := σ) hz
      rw [hi] at hit; cases hit
      split at h
      · rename_i hb1 hb2
        simp only [Bool.and_eq_true] at hb1
        have hzl := Nat.eq_of_beq_eq_true hb1.1
        have hs1 := Nat.le_of_ble_eq_true hb2
        rw [snoc_eq] at h
        unfold Ob at h
        obtain ⟨⟨h0, hnm, hbb, h63⟩, hk⟩ := h
        subst hnm
        have hrun := run_make (P := P) w t el i zv hu hi hzv k1 k2 n n h0 (Int.le_refl _) (by rw [Int.mul_comm]; omega) (by omega)
        have hzs : zv.cells.size = i.size := by rw [← hzl]; exact zcells hzr
        have m := More.alloc w (.cells (madeCells zv.cells (n.toNat * i.size)) el)
        refine .value (v := .slice (some ⟨w.heap.size, 0, none⟩) n.toNat n.toNat) (w' := w.alloc (.cells (madeCells zv.cells (n.toNat * i.size)) el)) ?_ ?_
        · simp [execOp, ho, hl.inv_int, hm.inv_int, hrun]
        · have hvs : (madeCells zv.cells (n.toNat * i.size)).toList = (List.replicate n.toNat zv.cells.toList).flatten := by
            rw [← hzs]; exact madeCells_eq _ _
          have hfl : RepPs w (Lv g σ) (flat (List.replicate n.toNat z)) (madeCells zv.cells (n.toNat * i.size)).toList := by
            rw [hvs]
            refine flat_rep ?_ _
            have := repPs_flat (RepPs.cons _ _ _ _ hzr.inv_p .nil)
            simpa [flat] using this
          have hlen : (madeCells zv.cells (n.toNat * i.size)).toList.length = i.size * (List.replicate n.toNat z).length := by
            simp [size_madeCells, Nat.mul_comm]
          have hn : N := hN _ _ hk (by simp)
          have hsh0 : (w.alloc (.cells (madeCells zv.cells (n.toNat * i.size)) el)).shape? w.heap.size = some (el, (madeCells zv.cells (n.toNat * i.size)).size) := by
            simp only [World.shape?, m.at]
          refine Rs.new c m (o := .buf i.size (List.replicate n.toNat z) (tagB P el)) ?_ ?_ hk hn
          · refine .buf _ _ (madeCells zv.cells (n.toNat * i.size)).toList (by omega) (fun q hq => ?_) (by omega) ?_ ⟨el, (0, 0), by simpa using m.at, .inl rfl⟩ _ (fun u hu => by rw [tagB_eq hu]; exact ⟨_, hsh0⟩)
            · rw [(List.mem_replicate.1 hq).2]; exact ⟨hzl, hb1.2⟩
            · rw [← hlen, List.take_of_length_le (Nat.le_refl _)]
              exact (c.ext_new m _ hn).repPs hfl
          · have hrl : (List.replicate n.toNat z).length = n.toNat := by simp
            have := RepA.osl (w := w.alloc (.cells (madeCells zv.cells (n.toNat * i.size)) el)) (g := g.new s.length w.heap.size) (σ := σ.put s.length (.buf i.size (List.replicate n.toNat z) (tagB P el))) s.length (List.replicate n.toNat z).length 0 n.toNat
              (.slice (some ⟨w.heap.size, 0, none⟩) n.toNat n.toNat) (.inr rfl) ⟨_, _, rfl, fun q => by cases q⟩ (fun sz zs ty q => by simp [St.put] at q; rw [← q.2.1]; simp) (fun sz zs ty q _ => by
                simp [St.put] at q
                obtain ⟨rfl, rfl, _⟩ := q
                refine ⟨by rw [hrl]; omega, fun q => absurd (.inl rfl) q, fun _ => ⟨_, _, rfl, rfl, Nat.le_refl _, fun _ => ⟨by simp [G.new], ?_⟩⟩⟩
                have hsh : (w.alloc (.cells (madeCells zv.cells (n.toNat * i.size)) el)).shape? w.heap.size = some (el, (madeCells zv.cells (n.toNat * i.size)).size) := by
                  simp only [World.shape?, m.at]
                exact ⟨el, _, by simpa [G.new] using hsh, by rw [size_madeCells, Nat.zero_add]; exact Nat.le_refl _⟩)
            have hv : AV.osl s.length (List.replicate n.toNat z).length 0 (List.replicate n.toNat z).length = AV.osl s.length (List.replicate n.toNat z).length 0 n.toNat := by rw [hrl]
            rw [hv]; exact this
      · exact h.elim
    · exact h.elim
  · exact h.elim

theorem callFunc_enter {f : Nat} {fn : Func} (hf : P.funcs[f]? = some fn) (hn : (fn.name == "runtime.NumGoroutine") = false) (hb : fn.body.isSome = true) (args : Array Value) :
    (callFunc f args).run P w = .ok (.enter f args) w := by
  have hn' : ¬ fn.name = "runtime.NumGoroutine" := by simpa using hn
  have hb' : ¬ fn.body = none := by intro e; simp [e] at hb
  simp [callFunc, hf, hn', hb']

/-- A call, in a store that is known whole. -/
theorem ok_call {f : Nat} {x : Operand} {args : Array Operand} {ts : Array TypeId} {caps : List AV} (ho : o.op = .call ⟨.value x, args, ts⟩) (hx : ev e x = .clos f caps)
    (h : Cal P f (args.toList.map (ev e) ++ caps) s K) (c : Cx w g (getO s) s (fun _ => True) N) (hG : Gk P w g (getO s)) (hfresh : ∀ id, g.C id → id < s.length) (he : EnvR w g (getO s) e a.tmps) : OpOk P o a w (Rs w g (getO s) s (fun _ => True) K) := by
  unfold Cal at h
  have hxr := ev_rep he x
  rw [hx] at hxr
  obtain ⟨ys, hp, hr⟩ := hxr.inv_clos
  have hargs := (evs_rep (w := w) (g := g) (σ := getO s) he args.toList).append hr
  have hc := h w g _ c.inv hG hfresh hargs
  have heq : (execOp a.eval o).run P w = (callFunc f (args.toList.map a.eval ++ ys).toArray).run P w := by
    simp only [execOp, ho, resolve, Sem.run_bind, hp, Deferred.ofValue, Sem.run_pure, Result.andThen_ok, invoke]
    congr 2
    simp
  have fin : ∀ v' w', CalPost w g s K (.returned v') w' → Rs w g (getO s) s (fun _ => True) K v' w' := by
    intro v' w' hpost
    obtain ⟨r, v, s', g', hv, hk, hl, hrep, hinv, hext, hC⟩ := hpost
    cases hv
    have hov : ovr (fun _ => True) s s' (getO s) = getO s' := by funext i; simp [ovr]
    exact ⟨r, s', g', hk, hl, fun id hid => absurd trivial hid, by rw [hov]; exact hrep, by rw [hov]; exact hinv, by rw [hov]; exact hext, hC⟩
  rcases hc with ⟨⟨fn, hf, hn, hb⟩, hc⟩ | ⟨v, w', hrun, hpost⟩
  · have hrun : (execOp a.eval o).run P w = .ok (.enter f (args.toList.map a.eval ++ ys).toArray) w := by
      rw [heq]; exact callFunc_enter (w := w) hf hn hb (args.toList.map a.eval ++ ys).toArray
    unfold OpOk
    rw [hrun]
    refine Calls.mono hc fun e' w' hpost => ?_
    have hpost' := hpost
    obtain ⟨r, v, s', g', rfl, _⟩ := hpost'
    exact fin _ _ hpost
  · exact .value (by rw [heq]; exact hrun) (fin _ _ hpost)
end ops
end Go.Proofs.YtjhgmaephpadpaaGreat.AW

namespace Go.Proofs.YtjhgmaephpadpaaGreat.AW
set_option linter.unusedSimpArgs false
set_option linter.unusedVariables false
variable {P : Program}

theorem memB_iff {x : Nat} : ∀ {l : List Nat}, memB x l = true ↔ x ∈ l
  | [] => by simp [memB]
  | y :: r => by
    simp only [memB, Bool.or_eq_true, memB_iff (l := r), List.mem_cons]
    exact ⟨fun h => h.imp (fun h => Nat.eq_of_beq_eq_true h) id, fun h => h.imp (fun h => by subst h; simp) id⟩

theorem blt_lt {a b : Nat} (h : Nat.blt a b = true) : a < b := by
  have : (a + 1).ble b = true := h
  exact Nat.le_of_ble_eq_true this

structure Ren (g1 : G) (σ1 : St) (g2 : G) (σ2 : St) (ρ : Nat → Nat) : Prop where
  ι : ∀ i, g2.ι (ρ i) = g1.ι i
  C : ∀ i, g2.C (ρ i) ↔ g1.C i
  R : ∀ i, g2.R (ρ i) ↔ g1.R i
  obj : ∀ i, σ2 (ρ i) = renO ρ (σ1 i)
  lv : ∀ b, Lv g1 σ1 b ↔ Lv g2 σ2 b

theorem renO_buf {ρ : Nat → Nat} {o : Option AObj} {sz : Nat} {xs : List PV} {ty : Option Nat} : renO ρ o = some (.buf sz xs ty) ↔ o = some (.buf sz xs ty) := by
  cases o with
  | none => simp [renO]
  | some o => cases o <;> simp [renO, AObj.ren]
theorem renO_none {ρ : Nat → Nat} {o : Option AObj} : renO ρ o = none ↔ o = none := by cases o <;> simp [renO]

variable {w : World} {g1 g2 : G} {σ1 σ2 : St} {ρ : Nat → Nat}
theorem Ren.buf (h : Ren g1 σ1 g2 σ2 ρ) {i sz : Nat} {xs : List PV} {ty : Option Nat} : σ2 (ρ i) = some (.buf sz xs ty) ↔ σ1 i = some (.buf sz xs ty) := by rw [h.obj]; exact renO_buf
theorem Ren.oslV (h : Ren g1 σ1 g2 σ2 ρ) {id sz tot off len : Nat} {x : Value} : OslV w g2 (ρ id) sz tot off len x ↔ OslV w g1 id sz tot off len x := by
  unfold OslV
  rw [h.ι, h.R]

mutual
theorem Ren.push (h : Ren g1 σ1 g2 σ2 ρ) : ∀ {v : AV} {x : Value}, RepA w g1 σ1 v x → RepA w g2 σ2 (v.ren ρ) x
  | _, _, .p v x hr => .p v x (hr.keep (fun _ _ _ => rfl) (fun b _ hb => (h.lv b).2 hb))
  | _, _, .ref id off hc hb => by
    have := RepA.ref (w := w) (g := g2) (σ := σ2) (ρ id) off ((h.C id).2 hc) (fun sz xs ty e => hb sz xs ty (h.buf.1 e))
    rw [h.ι] at this; exact this
  | _, _, .osl id tot off len x hc hx ht hr hot => .osl (ρ id) tot off len x ((h.C id).2 hc) hx (fun sz xs ty e => ht sz xs ty (h.buf.1 e)) (fun sz xs ty e hl => h.oslV.2 (hr sz xs ty (h.buf.1 e) hl)) hot
  | _, _, .oslc id n hc hb => by
    have := RepA.oslc (w := w) (g := g2) (σ := σ2) (ρ id) n ((h.C id).2 hc) (fun sz xs ty e => hb sz xs ty (h.buf.1 e))
    rw [h.ι] at this; exact this
  | _, _, .eptr id tot i sub a hc ht hr => .eptr (ρ id) tot i sub a ((h.C id).2 hc) (fun sz xs ty e => ht sz xs ty (h.buf.1 e)) (fun sz xs ty e hl => by
      obtain ⟨k1, k2⟩ := hr sz xs ty (h.buf.1 e) hl
      rw [h.ι]; exact ⟨k1, (h.R id).2 k2⟩)
  | _, _, .map id hc hb => by
    have := RepA.map (w := w) (g := g2) (σ := σ2) (ρ id) ((h.C id).2 hc) (fun sz xs ty e => hb sz xs ty (h.buf.1 e))
    rw [h.ι] at this; exact this
  | _, _, .it id hc hb => by
    have := RepA.it (w := w) (g := g2) (σ := σ2) (ρ id) ((h.C id).2 hc) (fun sz xs ty e => hb sz xs ty (h.buf.1 e))
    rw [h.ι] at this; exact this
  | _, _, .agg cs a hr => .agg _ a (Ren.pushs h hr)
  | _, _, .tup cs a hr => .tup _ a (Ren.pushs h hr)
  | _, _, .clos f cs a hr => .clos f _ a (Ren.pushs h hr)
  | _, _, .ifc t v x hr => .ifc t _ x (Ren.push h hr)
  | _, _, .undef x => .undef x
theorem Ren.pushs (h : Ren g1 σ1 g2 σ2 ρ) : ∀ {vs : List AV} {xs : List Value}, RepAs w g1 σ1 vs xs → RepAs w g2 σ2 (rens ρ vs) xs
  | _, _, .nil => .nil
  | _, _, .cons v x vs xs hr hs => .cons _ x _ xs (Ren.push h hr) (Ren.pushs h hs)
end

mutual
theorem Ren.pull (h : Ren g1 σ1 g2 σ2 ρ) : ∀ (v : AV) {x : Value}, RepA w g2 σ2 (v.ren ρ) x → RepA w g1 σ1 v x
  | .p v, _, hr => by
    simp only [AV.ren] at hr
    exact .p _ _ (hr.inv_p.keep (fun _ _ _ => rfl) (fun b _ hb => (h.lv b).1 hb))
  | .ref id off, _, hr => by
    simp only [AV.ren] at hr
    obtain ⟨rfl, hc, hb⟩ := hr.inv_ref
    rw [h.ι]; exact .ref id off ((h.C id).1 hc) (fun sz xs ty e => hb sz xs ty (h.buf.2 e))
  | .osl id tot off len, _, hr => by
    simp only [AV.ren] at hr
    cases hr with
    | osl _ _ _ _ _ hc hx ht hv hot =>
      exact .osl id tot off len _ ((h.C id).1 hc) hx (fun sz xs ty e => ht sz xs ty (h.buf.2 e)) (fun sz xs ty e hl => h.oslV.1 (hv sz xs ty (h.buf.2 e) hl)) hot
    | oslc _ _ hc hb =>
      rw [h.ι]; exact .oslc id len ((h.C id).1 hc) (fun sz xs ty e => hb sz xs ty (h.buf.2 e))
  | .eptr id tot i sub, _, hr => by
    simp only [AV.ren] at hr
    obtain ⟨ad, rfl, hc, ht, hv⟩ := hr.inv_eptr2
    refine .eptr id tot i sub _ ((h.C id).1 hc) (fun sz xs ty e => ht sz xs ty (h.buf.2 e)) (fun sz xs ty e hl => ?_)
    obtain ⟨k1, k2⟩ := hv sz xs ty (h.buf.2 e) hl
    rw [h.ι] at k1; exact ⟨k1, (h.R id).1 k2⟩
  | .map id, _, hr => by
    simp only [AV.ren] at hr
    cases hr with
    | map _ hc hb => rw [h.ι]; exact .map id ((h.C id).1 hc) (fun sz xs ty e => hb sz xs ty (h.buf.2 e))
  | .it id, _, hr => by
    simp only [AV.ren] at hr
    cases hr with
    | it _ hc hb => rw [h.ι]; exact .it id ((h.C id).1 hc) (fun sz xs ty e => hb sz xs ty (h.buf.2 e))
  | .agg cs, _, hr => by
    simp only [AV.ren] at hr
    cases hr with
    | agg _ a hs => exact .agg _ a (Ren.pulls h cs hs)
  | .tup cs, _, hr => by
    simp only [AV.ren] at hr
    cases hr with
    | tup _ a hs => exact .tup _ a (Ren.pulls h cs hs)
  | .clos f cs, _, hr => by
    simp only [AV.ren] at hr
    cases hr with
    | clos _ _ a hs => exact .clos f _ a (Ren.pulls h cs hs)
  | .ifc t v, _, hr => by
    simp only [AV.ren] at hr
    cases hr with
    | ifc _ _ x hv => exact .ifc t _ x (Ren.pull h v hv)
  | .undef, _, _ => .undef _
theorem Ren.pulls (h : Ren g1 σ1 g2 σ2 ρ) : ∀ (vs : List AV) {xs : List Value}, RepAs w g2 σ2 (rens ρ vs) xs → RepAs w g1 σ1 vs xs
  | [], _, hr => by
    simp only [rens] at hr
    cases hr; exact .nil
  | v :: r, _, hr => by
    simp only [rens] at hr
    cases hr with
    | cons _ x _ xs hv hs => exact .cons _ _ _ _ (Ren.pull h v hv) (Ren.pulls h r hs)
end

theorem Ren.repO (h : Ren g1 σ1 g2 σ2 ρ) {b : Nat} {o : AObj} (hr : RepO w g1 σ1 b o) : RepO w g2 σ2 b (o.ren ρ) := by
  cases hr with
  | cells cs ty xs hc hb ht => exact .cells _ ty xs (h.pushs hc) hb ht
  | buf sz es xs hz hs hn hc hb ty ht => exact .buf sz es xs hz hs hn (hc.keep (fun _ _ _ => rfl) (fun b _ hb => (h.lv b).2 hb)) hb ty ht
  | iterS s pos x hx hp hb => exact .iterS s pos x hx hp hb
  | map kk es clock xs he hw hk hc hn => exact .map kk es clock xs (he.keep (fun _ _ _ => rfl) (fun b _ hb => (h.lv b).2 hb)) hw hk hc hn
  | iterM mid bs left since last seen hC hm hl hs hw => exact .iterM (ρ mid) bs left since last seen ((h.C mid).2 hC) (fun sz xs ty e => hm sz xs ty (h.buf.1 e)) hl hs (by rw [hw, h.ι])
theorem Ren.unO (h : Ren g1 σ1 g2 σ2 ρ) {b : Nat} {o : AObj} (hr : RepO w g2 σ2 b (o.ren ρ)) : RepO w g1 σ1 b o := by
  cases o with
  | cells cs ty =>
    simp only [AObj.ren] at hr
    cases hr with
    | cells _ _ xs hc hb ht => exact .cells _ ty xs (h.pulls cs hc) hb ht
  | buf sz es ty =>
    simp only [AObj.ren] at hr
    cases hr with
    | buf _ _ xs hz hs hn hc hb _ ht => exact .buf sz es xs hz hs hn (hc.keep (fun _ _ _ => rfl) (fun b _ hb => (h.lv b).1 hb)) hb ty ht
  | iterS s pos =>
    simp only [AObj.ren] at hr
    cases hr with
    | iterS _ _ x hx hp hb => exact .iterS s pos x hx hp hb
  | map kk es clock =>
    simp only [AObj.ren] at hr
    cases hr with
    | map _ _ _ xs he hw hk hc hn => exact .map kk es clock xs (he.keep (fun _ _ _ => rfl) (fun b _ hb => (h.lv b).1 hb)) hw hk hc hn
  | iterM mid bs left =>
    simp only [AObj.ren] at hr
    cases hr with
    | iterM _ _ _ since last seen hC hm hl hs hw => exact .iterM mid bs left since last seen ((h.C mid).1 hC) (fun sz xs ty e => hm sz xs ty (h.buf.2 e)) hl hs (by rw [hw, h.ι])
theorem sameKind_ren {ρ : Nat → Nat} {a b : AObj} (h : sameKind a b) : sameKind (a.ren ρ) (b.ren ρ) := by
  have hl : ∀ (l : List AV), (rens ρ l).length = l.length := fun l => by
    induction l with
    | nil => rfl
    | cons v r ih => simp [rens, ih]
  cases a <;> cases b <;> simp_all [sameKind, AObj.ren]

theorem place_lt : ∀ {is : List Nat} {m i : Nat}, nodupLt is m = true → i < is.length → place is m i < m ∧ place is m i ∈ is
  | j :: r, m, 0, h, _ => by
    simp only [nodupLt, Bool.and_eq_true] at h
    exact ⟨blt_lt h.1.1, by simp [place]⟩
  | j :: r, m, i + 1, h, hi => by
    simp only [nodupLt, Bool.and_eq_true] at h
    obtain ⟨h1, h2⟩ := place_lt (is := r) (i := i) h.2 (by simpa using hi)
    exact ⟨h1, by simp only [place]; exact List.mem_cons_of_mem _ h2⟩
theorem place_ge : ∀ {is : List Nat} {m i : Nat}, is.length ≤ i → place is m i = m + (i - is.length)
  | [], m, i, _ => by simp [place]
  | j :: r, m, 0, h => by simp at h
  | j :: r, m, i + 1, h => by
    simp only [place]
    rw [place_ge (is := r) (by simpa using h)]
    simp
theorem place_mem : ∀ {is : List Nat} {m j : Nat}, j ∈ is → ∃ i, i < is.length ∧ place is m i = j
  | a :: r, m, j, h => by
    rcases List.mem_cons.1 h with rfl | h
    · exact ⟨0, by simp, rfl⟩
    · obtain ⟨i, h1, h2⟩ := place_mem (m := m) h
      exact ⟨i + 1, by simpa using h1, h2⟩
theorem place_get : ∀ {is : List Nat} {m i : Nat}, i < is.length → is[i]? = some (place is m i)
  | j :: r, m, 0, _ => rfl
  | j :: r, m, i + 1, hi => by
    simp only [List.getElem?_cons_succ, place]
    exact place_get (by simpa using hi)
theorem place_inj : ∀ {is : List Nat} {m i k : Nat}, nodupLt is m = true → place is m i = place is m k → i = k
  | [], m, i, k, _, h => by simp [place] at h; exact h
  | j :: r, m, i, k, hn, h => by
    have hn0 := hn
    simp only [nodupLt, Bool.and_eq_true] at hn
    have hj : ∀ i, place r m i ≠ j := fun i e => by
      by_cases hi : i < r.length
      · have := (place_lt hn.2 hi).2
        rw [e] at this
        have := memB_iff.2 this
        simp [this] at hn
      · rw [place_ge (by omega)] at e
        have := blt_lt hn.1.1; omega
    cases i with
    | zero =>
      cases k with
      | zero => rfl
      | succ k => exact absurd h.symm (hj k)
    | succ i =>
      cases k with
      | zero => exact absurd h (hj i)
      | succ k => rw [place_inj hn.2 h]


/-! ### The frame, laid open -/
theorem renK_eq (ρ : Nat → Nat) (v : AV) (K : AV → Prop) : renK ρ v K = K (v.ren ρ) := by cases v <;> rfl
theorem renOK_eq (ρ : Nat → Nat) (o : Option AObj) (K : Option AObj → Prop) : renOK ρ o K = K (renO ρ o) := by
  cases o with
  | none => rfl
  | some o => cases o <;> rfl
theorem mapK_eq (ρ : Nat → Nat) (s0 : Store) (K : Store → Prop) : mapK ρ s0 K = K (s0.map (renO ρ)) := by
  induction s0 generalizing K with
  | nil => rfl
  | cons o r ih => simp only [mapK, renOK_eq, ih]; rfl
theorem appK_eq (ρ : Nat → Nat) (s s0 : Store) (K : Store → Prop) : appK ρ s s0 K = K (s ++ s0.map (renO ρ)) := by
  induction s generalizing K with
  | nil => exact mapK_eq ρ s0 K
  | cons x r ih => simp only [appK, ih]; rfl
theorem putOK_eq (s : Store) (id : Nat) (o : Option AObj) (K : Store → Prop) : putOK s id o K = K (s.set id o) := by
  induction s generalizing id K with
  | nil => rfl
  | cons x r ih => cases id with
    | zero => rfl
    | succ id => simp only [putOK, ih]; rfl
theorem mergeK_eq (ρ : Nat → Nat) : ∀ (is : List Nat) (s s0 : Store) (K : Store → Prop), mergeK ρ is s s0 K = K (mergeO ρ is s s0)
  | [], s, s0, K => by simp only [mergeK, appK_eq]; rfl
  | j :: r, s, o :: s0, K => by simp only [mergeK, renOK_eq, putOK_eq, mergeK_eq ρ r]; rfl
  | _ :: _, _, [], _ => rfl

theorem getO_set' (s : Store) (id : Nat) (o : Option AObj) (j : Nat) (h : id < s.length) : getO (s.set id o) j = if j = id then o else getO s j := getO_set s id o j h
theorem getO_app (s t : Store) (j : Nat) : getO (s ++ t) j = if j < s.length then getO s j else getO t (j - s.length) := by
  unfold getO
  by_cases h : j < s.length
  · rw [if_pos h, List.getElem?_append_left h]
  · rw [if_neg h, List.getElem?_append_right (by omega)]
theorem getO_map (ρ : Nat → Nat) (s : Store) (j : Nat) : getO (s.map (renO ρ)) j = renO ρ (getO s j) := by
  unfold getO
  rw [List.getElem?_map]
  cases s[j]? <;> rfl

theorem merge_len {ρ : Nat → Nat} : ∀ {is : List Nat} {s s0 : Store}, is.length ≤ s0.length → (mergeO ρ is s s0).length = s.length + (s0.length - is.length)
  | [], s, s0, _ => by simp [mergeO]
  | j :: r, s, o :: s0, h => by
    simp only [mergeO]
    rw [merge_len (by simpa using h)]; simp
  | _ :: _, _, [], h => by simp at h

theorem merge_at {ρ : Nat → Nat} : ∀ {is : List Nat} {s s0 : Store} {m : Nat}, s.length = m → nodupLt is m = true → is.length ≤ s0.length →
    (∀ i, getO (mergeO ρ is s s0) (place is m i) = renO ρ (getO s0 i)) ∧ ∀ j, j < m → ¬ j ∈ is → getO (mergeO ρ is s s0) j = getO s j
  | [], s, s0, m, hm, _, _ => by
    subst hm
    refine ⟨fun i => ?_, fun j hj _ => ?_⟩
    · simp only [mergeO, place]
      rw [getO_app, if_neg (by omega), getO_map]; congr 2; omega
    · simp only [mergeO]; rw [getO_app, if_pos hj]
  | j :: r, s, o :: s0, m, hm, hn, hl => by
    simp only [nodupLt, Bool.and_eq_true] at hn
    have hj := blt_lt hn.1.1
    have hnr : ¬ j ∈ r := fun q => by have := memB_iff.2 q; simp [this] at hn
    obtain ⟨h1, h2⟩ := merge_at (ρ := ρ) (is := r) (s := s.set j (renO ρ o)) (s0 := s0) (m := m) (by simpa using hm) hn.2 (by simpa using hl)
    refine ⟨fun i => ?_, fun k hk hnk => ?_⟩
    · cases i with
      | zero =>
        simp only [place, mergeO]
        rw [h2 j hj hnr, getO_set' s j _ j (by omega), if_pos rfl]; rfl
      | succ i => simp only [place, mergeO]; rw [h1 i]; rfl
    · simp only [mergeO]
      rw [h2 k hk (fun q => hnk (List.mem_cons_of_mem _ q)), getO_set' s j _ k (by omega), if_neg (fun q => hnk (by rw [q]; simp))]
  | _ :: _, _, [], _, _, _, h => by simp at h


/-! ### Names that agree -/
mutual
theorem ren_congr {ρ ρ' : Nat → Nat} {N : Nat} (h : ∀ i, i < N → ρ i = ρ' i) : ∀ v : AV, v.under N = true → v.ren ρ = v.ren ρ'
  | .p v, _ => rfl
  | .ref id off, hu => by simp only [AV.ren, h id (blt_lt (by simpa [AV.under] using hu))]
  | .osl id tot off len, hu => by simp only [AV.ren, h id (blt_lt (by simpa [AV.under] using hu))]
  | .eptr id tot i sub, hu => by simp only [AV.ren, h id (blt_lt (by simpa [AV.under] using hu))]
  | .map id, hu => by simp only [AV.ren, h id (blt_lt (by simpa [AV.under] using hu))]
  | .it id, hu => by simp only [AV.ren, h id (blt_lt (by simpa [AV.under] using hu))]
  | .agg cs, hu => by simp only [AV.ren, rens_congr h cs (by simpa [AV.under] using hu)]
  | .tup cs, hu => by simp only [AV.ren, rens_congr h cs (by simpa [AV.under] using hu)]
  | .clos f cs, hu => by simp only [AV.ren, rens_congr h cs (by simpa [AV.under] using hu)]
  | .ifc t v, hu => by simp only [AV.ren, ren_congr h v (by simpa [AV.under] using hu)]
  | .undef, _ => rfl
theorem rens_congr {ρ ρ' : Nat → Nat} {N : Nat} (h : ∀ i, i < N → ρ i = ρ' i) : ∀ vs : List AV, unders N vs = true → rens ρ vs = rens ρ' vs
  | [], _ => rfl
  | v :: r, hu => by
    simp only [unders, Bool.and_eq_true] at hu
    simp only [rens, ren_congr h v hu.1, rens_congr h r hu.2]
end
theorem renO_congr {ρ ρ' : Nat → Nat} {N : Nat} (h : ∀ i, i < N → ρ i = ρ' i) (o : Option AObj) (hu : objUnder N o = true) : renO ρ o = renO ρ' o := by
  cases o with
  | none => rfl
  | some o =>
    cases o with
    | cells cs ty => simp only [renO, AObj.ren, rens_congr h cs (by simpa [objUnder] using hu)]
    | iterM mid a l => simp only [renO, AObj.ren, h mid (blt_lt (by simpa [objUnder] using hu))]
    | _ => rfl
theorem getO_under {N : Nat} {s : Store} (h : s.all (objUnder N) = true) (i : Nat) : objUnder N (getO s i) = true := by
  unfold getO
  cases hi : s[i]? with
  | none => rfl
  | some o => exact List.all_eq_true.1 h o (List.mem_of_getElem? hi)

/-- **A call beside a small store, in the midst of others**: the state is a function; what is new is laid at m and behind. -/
theorem Cal.framed {f : Nat} {args0 : List AV} {s0 s0' : Store} {v0 : AV} {w : World} {g : G} {σ : St} {vs : List Value} {is : List Nat} {m : Nat} (B : Nat)
    (h : Cal P f args0 s0 fun r s' => r = v0 ∧ s' = s0') (hinv : Inv w g σ) (hG : Gk P w g σ) (hlen : s0.length = is.length) (hle : s0.length ≤ s0'.length) (hn : nodupLt is m = true)
    (hobj0 : ∀ i, i < is.length → σ (place is m i) = renO (place is m) (getO s0 i)) (hnew : ∀ j, m ≤ j → j < m + (s0'.length - s0.length) → σ j = none ∧ ¬ g.C j)
    (hB : ∀ j, B ≤ j → σ j = none ∧ ¬ g.C j) (hmB : m + (s0'.length - s0.length) ≤ B)
    (ua : unders s0.length args0 = true) (us : s0.all (objUnder s0.length) = true) (uv : v0.under s0'.length = true) (us' : s0'.all (objUnder s0'.length) = true)
    (hargs : RepAs w g σ (rens (place is m) args0) vs) :
    CallsX P f vs.toArray w fun e w' => ∃ v g' σ', e = .returned v ∧ RepA w' g' σ' (v0.ren (place is m)) v ∧ Inv w' g' σ' ∧ Ext w g σ w' g' σ' ∧ (∀ j, g'.C j → g.C j ∨ (m ≤ j ∧ j < m + (s0'.length - s0.length))) ∧
      (∀ i, i < s0'.length → σ' (place is m i) = renO (place is m) (getO s0' i)) ∧ (∀ j, (∀ i, i < s0'.length → place is m i ≠ j) → σ' j = σ j) := by
  unfold Cal at h
  obtain ⟨ρ, hρ⟩ : ∃ ρ : Nat → Nat, ∀ i, ρ i = if i < s0'.length then place is m i else B + i := ⟨_, fun _ => rfl⟩
  have hρ1 : ∀ i, i < s0'.length → ρ i = place is m i := fun i hi => by rw [hρ, if_pos hi]
  have hρ2 : ∀ i, s0'.length ≤ i → ρ i = B + i := fun i hi => by rw [hρ, if_neg (by omega)]
  have hpl : ∀ i, i < s0'.length → place is m i < B := fun i hi => by
    by_cases h1 : i < is.length
    · have := (place_lt hn h1).1; omega
    · rw [place_ge (by omega)]; omega
  have hinj : ∀ i k, ρ i = ρ k → i = k := fun i k e => by
    by_cases hi : i < s0'.length
    · by_cases hk : k < s0'.length
      · rw [hρ1 i hi, hρ1 k hk] at e; exact place_inj hn e
      · rw [hρ1 i hi, hρ2 k (by omega)] at e; have := hpl i hi; omega
    · by_cases hk : k < s0'.length
      · rw [hρ2 i (by omega), hρ1 k hk] at e; have := hpl k hk; omega
      · rw [hρ2 i (by omega), hρ2 k (by omega)] at e; omega
  have hobj : ∀ i, σ (ρ i) = renO ρ (getO s0 i) := fun i => by
    by_cases hi : i < is.length
    · rw [hρ1 i (by omega), hobj0 i hi]
      exact renO_congr (N := s0.length) (fun k hk => (hρ1 k (by omega)).symm) _ (getO_under us i)
    · rw [getO_out (by omega)]
      by_cases hi2 : i < s0'.length
      · rw [hρ1 i hi2, place_ge (by omega)]; exact (hnew _ (by omega) (by omega)).1
      · rw [hρ2 i (by omega)]; exact (hB _ (by omega)).1
  have hCn : ∀ i, is.length ≤ i → ¬ g.C (ρ i) := fun i hi => by
    by_cases hi2 : i < s0'.length
    · rw [hρ1 i hi2, place_ge hi]; exact (hnew _ (by omega) (by omega)).2
    · rw [hρ2 i (by omega)]; exact (hB _ (by omega)).2
  rw [rens_congr (ρ := place is m) (ρ' := ρ) (N := s0.length) (fun k hk => (hρ1 k (by omega)).symm) args0 ua] at hargs
  let im : Nat → Prop := fun j => ∃ i, ρ i = j
  -- the small world
  let out : Nat → Prop := fun b => ∃ j, ¬ im j ∧ σ j ≠ none ∧ g.R j ∧ g.ι j = b
  let g0 : G := { ι := fun i => g.ι (ρ i), X := fun b => g.X b ∨ out b, C := fun i => g.C (ρ i), R := fun i => g.R (ρ i) }
  have hown : ∀ b, Own g σ b ↔ (out b ∨ Own g0 (getO s0) b) := fun b => by
    constructor
    · rintro ⟨j, h1, h2, h3⟩
      by_cases hj : im j
      · obtain ⟨i, rfl⟩ := hj
        exact .inr ⟨i, fun e => h1 (by rw [hobj, e]; rfl), h2, h3⟩
      · exact .inl ⟨j, hj, h1, h2, h3⟩
    · rintro (⟨j, _, h1, h2, h3⟩ | ⟨i, h1, h2, h3⟩)
      · exact ⟨j, h1, h2, h3⟩
      · exact ⟨ρ i, fun e => h1 (renO_none.1 (by rw [← hobj]; exact e)), h2, h3⟩
  have hren : Ren g0 (getO s0) g σ ρ := ⟨fun _ => rfl, fun _ => .rfl, fun _ => .rfl, hobj, fun b => by
    unfold Lv
    rw [hown b]
    exact or_assoc⟩
  have hoj : ∀ i o, getO s0 i = some o → σ (ρ i) = some (o.ren ρ) := fun i o ho => by rw [hobj, ho]; rfl
  have hinv0 : Inv w g0 (getO s0) := by
    refine ⟨fun i o ho => hinv.made _ _ (hoj i o ho), fun i o ho hr => ?_, fun b hb => ?_, fun i k hi hk hri hrk e => ?_, fun i o ho hr => hren.unO (hinv.rep _ _ (hoj i o ho) hr), fun i o ho hr => ?_⟩
    · obtain ⟨h1, h2⟩ := hinv.lies _ _ (hoj i o ho) hr
      refine ⟨h1, ?_⟩
      rintro (h3 | ⟨j, h3, h4, h5, h6⟩)
      · exact h2 h3
      · have := hinv.inj j (ρ i) h4 (by rw [hoj i o ho]; simp) h5 hr h6
        exact h3 ⟨i, this.symm⟩
    · rcases hb with hb | ⟨j, _, h4, h5, h6⟩
      · exact hinv.xlt b hb
      · obtain ⟨o, ho⟩ := Option.ne_none_iff_exists'.1 h4
        rw [← h6]; exact (hinv.lies j o ho h5).1
    · refine hinj _ _ (hinv.inj _ _ (fun q => hi ?_) (fun q => hk ?_) hri hrk e)
      · rw [hobj] at q; exact renO_none.1 q
      · rw [hobj] at q; exact renO_none.1 q
    · obtain ⟨sz, ty, hz, h2⟩ := hinv.void _ _ (hoj i o ho) hr
      refine ⟨sz, ty, hz, ?_⟩
      have h3 : renO ρ (some o) = some (.buf sz [] ty) := congrArg some h2
      exact Option.some.inj (renO_buf.1 h3)
  have hfr0 : ∀ i, g0.C i → i < s0.length := fun i hi => Nat.lt_of_not_le fun hle => hCn i (by omega) hi
  have hG0 : Gk P w g0 (getO s0) := fun i cs hi => by
    obtain ⟨q1, q2, q3⟩ := hG i cs hi
    exact ⟨q1, fun hl => q2 ((hren.lv _).1 hl), q3.keep (fun _ _ _ => rfl) (fun b _ hb => (hren.lv b).1 hb) (fun _ => q2)⟩
  refine (h w g0 vs hinv0 hG0 hfr0 (hren.pulls args0 hargs)).mono fun e w' hpost => ?_
  obtain ⟨r, v, s1, g0', rfl, ⟨rfl, rfl⟩, _, hrep, hinv', hext, hC⟩ := hpost
  -- back
  let inv : Nat → Nat := fun j => open Classical in if hh : ∃ i, ρ i = j then hh.choose else 0
  have hinvρ : ∀ i, inv (ρ i) = i := fun i => by
    have hh : ∃ k, ρ k = ρ i := ⟨i, rfl⟩
    simp only [inv, dif_pos hh]
    exact hinj _ _ hh.choose_spec
  obtain ⟨σ', hσ'⟩ : ∃ σ' : St, ∀ j, σ' j = open Classical in if im j then renO ρ (getO s1 (inv j)) else σ j := ⟨_, fun _ => rfl⟩
  let g' : G := { ι := fun j => open Classical in if im j then g0'.ι (inv j) else g.ι j, X := g.X, C := fun j => (im j ∧ g0'.C (inv j)) ∨ (¬ im j ∧ g.C j), R := fun j => (im j ∧ g0'.R (inv j)) ∨ (¬ im j ∧ g.R j) }
  have imρ : ∀ i, im (ρ i) := fun i => ⟨i, rfl⟩
  have hat : ∀ i, σ' (ρ i) = renO ρ (getO s1 i) := fun i => by rw [hσ', if_pos (imρ i), hinvρ]
  have hsame : ∀ j, ¬ im j → σ' j = σ j := fun j hj => by rw [hσ', if_neg hj]
  have gι : ∀ i, g'.ι (ρ i) = g0'.ι i := fun i => by simp only [g', if_pos (imρ i), hinvρ]
  have gιo : ∀ j, ¬ im j → g'.ι j = g.ι j := fun j hj => by simp only [g', if_neg hj]
  have gC : ∀ i, g'.C (ρ i) ↔ g0'.C i := fun i => by simp [g', imρ i, hinvρ]
  have gCo : ∀ j, ¬ im j → (g'.C j ↔ g.C j) := fun j hj => by simp [g', hj]
  have gR : ∀ i, g'.R (ρ i) ↔ g0'.R i := fun i => by simp [g', imρ i, hinvρ]
  have gRo : ∀ j, ¬ im j → (g'.R j ↔ g.R j) := fun j hj => by simp [g', hj]
  have hX0 : ∀ b, g0'.X b ↔ (g.X b ∨ out b) := fun b => by rw [hext.X]
  have hout' : ∀ b, out b → ¬ Own g0' (getO s1) b := by
    rintro b hb ⟨i, h1, h2, h3⟩
    obtain ⟨o, ho⟩ := Option.ne_none_iff_exists'.1 h1
    exact (hinv'.lies i o ho h2).2 ((hX0 _).2 (.inr (h3 ▸ hb)))
  have hown' : ∀ b, Own g' σ' b ↔ (out b ∨ Own g0' (getO s1) b) := fun b => by
    constructor
    · rintro ⟨j, h1, h2, h3⟩
      by_cases hj : im j
      · obtain ⟨i, rfl⟩ := hj
        exact .inr ⟨i, fun e => h1 (by rw [hat, e]; rfl), (gR i).1 h2, by rw [← gι]; exact h3⟩
      · exact .inl ⟨j, hj, by rw [← hsame j hj]; exact h1, (gRo j hj).1 h2, by rw [← gιo j hj]; exact h3⟩
    · rintro (⟨j, hj, h1, h2, h3⟩ | ⟨i, h1, h2, h3⟩)
      · exact ⟨j, by rw [hsame j hj]; exact h1, (gRo j hj).2 h2, by rw [gιo j hj]; exact h3⟩
      · exact ⟨ρ i, fun e => h1 (renO_none.1 (by rw [← hat]; exact e)), (gR i).2 h2, by rw [gι]; exact h3⟩
  have hren' : Ren g0' (getO s1) g' σ' ρ := ⟨gι, gC, gR, hat, fun b => by
    unfold Lv
    rw [hown' b, hX0 b]
    exact or_assoc⟩
  have hext' : Ext w g σ w' g' σ' := by
    refine ⟨hext.size, hext.os, hext.tape, hext.output, fun b hb hno => hext.frame b hb fun q => hno ((hown b).2 (.inr q)), hext.shape, rfl, fun j hc => ?_, fun b hb hb2 => ?_, fun j hc o' ho' => ?_, fun j hc hnb => ?_, fun j sz xs xs' ty ty' hc h1 h2 h3 => ?_, hext.drawn⟩
    · by_cases hj : im j
      · obtain ⟨i, rfl⟩ := hj; exact (gC i).2 (hext.C i hc)
      · exact (gCo j hj).2 hc
    · rcases (hown' b).1 hb2 with q | q
      · exact (hown b).2 (.inl q)
      · exact (hown b).2 (.inr (hext.own b hb q))
    · by_cases hj : im j
      · obtain ⟨i, rfl⟩ := hj
        rw [hat] at ho'
        cases hq : getO s1 i with
        | none => rw [hq] at ho'; cases ho'
        | some o0' =>
          rw [hq] at ho'; cases ho'
          obtain ⟨o0, k1, k2⟩ := hext.obj i hc _ hq
          exact ⟨o0.ren ρ, hoj i o0 k1, sameKind_ren k2⟩
      · rw [hsame j hj] at ho'; exact ⟨o', ho', .refl _⟩
    · by_cases hj : im j
      · obtain ⟨i, rfl⟩ := hj
        obtain ⟨k1, k2⟩ := hext.ι1 i hc (fun sz xs ty e => hnb sz xs ty (hren.buf.2 e))
        exact ⟨(gι i).trans k1, (gR i).trans k2⟩
      · exact ⟨gιo j hj, gRo j hj⟩
    · by_cases hj : im j
      · obtain ⟨i, rfl⟩ := hj
        obtain ⟨k1, k2⟩ := hext.ι2 i sz xs xs' ty ty' hc (hren.buf.1 h1) (hren'.buf.1 h2) h3
        exact ⟨(gι i).trans k1, (gR i).trans k2⟩
      · exact ⟨gιo j hj, gRo j hj⟩
  have hsz := hext.size
  have hinvF : Inv w' g' σ' := by
    have hmix : ∀ i j, getO s1 i ≠ none → g0'.R i → ¬ im j → σ j ≠ none → g.R j → g0'.ι i ≠ g.ι j := fun i j h1 h2 h3 h4 h5 e =>
      hout' (g.ι j) ⟨j, h3, h4, h5, rfl⟩ ⟨i, h1, h2, e⟩
    have n0 : ∀ i, σ' (ρ i) ≠ none → getO s1 i ≠ none := fun i h e => h (by rw [hat, e]; rfl)
    have inO : ∀ i o, σ' (ρ i) = some o → ∃ o0, getO s1 i = some o0 ∧ o = o0.ren ρ := fun i o ho => by
      rw [hat] at ho
      cases hq : getO s1 i with
      | none => rw [hq] at ho; cases ho
      | some o0 => rw [hq] at ho; cases ho; exact ⟨o0, rfl, rfl⟩
    refine ⟨fun j o ho => ?_, fun j o ho hr => ?_, fun b hb => by have := hinv.xlt b hb; omega, fun j k hj hk hrj hrk e => ?_, fun j o ho hr => ?_, fun j o ho hr => ?_⟩
    · by_cases hj : im j
      · obtain ⟨i, rfl⟩ := hj
        obtain ⟨o0, h1, _⟩ := inO i o ho
        exact (gC i).2 (hinv'.made i o0 h1)
      · rw [hsame j hj] at ho; exact (gCo j hj).2 (hinv.made j o ho)
    · by_cases hj : im j
      · obtain ⟨i, rfl⟩ := hj
        obtain ⟨o0, h1, _⟩ := inO i o ho
        obtain ⟨k1, k2⟩ := hinv'.lies i o0 h1 ((gR i).1 hr)
        rw [gι]
        exact ⟨k1, fun q => k2 ((hX0 _).2 (.inl q))⟩
      · rw [hsame j hj] at ho
        obtain ⟨k1, k2⟩ := hinv.lies j o ho ((gRo j hj).1 hr)
        rw [gιo j hj]; exact ⟨by omega, k2⟩
    · by_cases hij : im j
      · obtain ⟨i, rfl⟩ := hij
        by_cases hik : im k
        · obtain ⟨l, rfl⟩ := hik
          rw [gι, gι] at e
          rw [hinv'.inj i l (n0 i hj) (n0 l hk) ((gR i).1 hrj) ((gR l).1 hrk) e]
        · rw [gι, gιo k hik] at e
          exact absurd e (hmix i k (n0 i hj) ((gR i).1 hrj) hik (by rw [← hsame k hik]; exact hk) ((gRo k hik).1 hrk))
      · by_cases hik : im k
        · obtain ⟨l, rfl⟩ := hik
          rw [gι, gιo j hij] at e
          exact absurd e.symm (hmix l j (n0 l hk) ((gR l).1 hrk) hij (by rw [← hsame j hij]; exact hj) ((gRo j hij).1 hrj))
        · rw [gιo j hij, gιo k hik] at e
          exact hinv.inj j k (by rw [← hsame j hij]; exact hj) (by rw [← hsame k hik]; exact hk) ((gRo j hij).1 hrj) ((gRo k hik).1 hrk) e
    · by_cases hj : im j
      · obtain ⟨i, rfl⟩ := hj
        obtain ⟨o0, h1, rfl⟩ := inO i o ho
        rw [gι]
        exact hren'.repO (hinv'.rep i o0 h1 ((gR i).1 hr))
      · rw [hsame j hj] at ho
        have hr' := (gRo j hj).1 hr
        rw [gιo j hj]
        refine hext'.repO (hext.frame _ (hinv.lies j o ho hr').1 fun q => ?_) (hinv.rep j o ho hr')
        obtain ⟨i, h1, h2, h3⟩ := q
        have h4 : σ (ρ i) ≠ none := fun e => h1 (renO_none.1 (by rw [← hobj]; exact e))
        have := hinv.inj (ρ i) j h4 (by rw [ho]; simp) h2 hr' h3
        exact hj ⟨i, this⟩
    · by_cases hj : im j
      · obtain ⟨i, rfl⟩ := hj
        obtain ⟨o0, h1, rfl⟩ := inO i o ho
        obtain ⟨sz, ty, k1, rfl⟩ := hinv'.void i o0 h1 (fun q => hr ((gR i).2 q))
        exact ⟨sz, ty, k1, rfl⟩
      · rw [hsame j hj] at ho
        exact hinv.void j o ho (fun q => hr ((gRo j hj).2 q))
  refine ⟨v, g', σ', rfl, ?_, hinvF, hext', fun j hj => ?_, fun i hi => ?_, fun j hj => ?_⟩
  · have := hren'.push hrep
    rw [ren_congr (ρ := ρ) (ρ' := place is m) (N := s1.length) (fun k hk => hρ1 k hk) _ uv] at this
    exact this
  · by_cases hij : im j
    · obtain ⟨i, rfl⟩ := hij
      rcases hC i ((gC i).1 hj) with q | q
      · exact .inl q
      · rw [hρ1 i q.2, place_ge (by omega)]; exact .inr ⟨by omega, by omega⟩
    · exact .inl ((gCo j hij).1 hj)
  · rw [← hρ1 i hi, hat]
    exact renO_congr (N := s1.length) (fun k hk => hρ1 k hk) _ (getO_under us' i)
  · by_cases hij : im j
    · obtain ⟨i, rfl⟩ := hij
      have hi : s1.length ≤ i := Nat.le_of_not_lt fun hi => hj i hi (hρ1 i hi).symm
      rw [hat, getO_out hi, hρ2 i hi, (hB _ (by omega)).1]; rfl
    · exact hsame j hij
end Go.Proofs.YtjhgmaephpadpaaGreat.AW

namespace Go.Proofs.YtjhgmaephpadpaaGreat.AW
set_option linter.unusedSimpArgs false
set_option linter.unusedVariables false
variable {P : Program}

theorem map_ev {e e' : Env} {xs : List Operand} (h : ∀ x, x ∈ xs → ev e x = ev e' x) : xs.map (ev e) = xs.map (ev e') := List.map_congr_left h

theorem bnd_congr {e e' : Env} {x : Option Operand} (h : ∀ y, x = some y → ev e y = ev e' y) (d : Int) (K : Int → Prop) : bnd e x d K = bnd e' x d K := by
  cases x with
  | none => rfl
  | some y => simp only [bnd, h y rfl]

theorem aop_congr {op : Op} {e e' : Env} (h : ∀ x, x ∈ op.operands.toList → ev e x = ev e' x) (s : Store) (K : AV → Store → Prop) : aop P op e s K = aop P op e' s K := by
  cases op
  case move x => simp only [aop, h x (by simp [Op.operands])]
  case assign x => simp only [aop, h x (by simp [Op.operands])]
  case pick x y z => simp only [aop, h x (by simp [Op.operands]), h y (by simp [Op.operands]), h z (by simp [Op.operands])]
  case box t x => simp only [aop, h x (by simp [Op.operands])]
  case load t x => simp only [aop, h x (by simp [Op.operands])]
  case nilCheck x => simp only [aop, h x (by simp [Op.operands])]
  case unOp o t x => simp only [aop, h x (by simp [Op.operands])]
  case convert a b x => simp only [aop, h x (by simp [Op.operands])]
  case makeInterface t x => simp only [aop, h x (by simp [Op.operands])]
  case fieldAddr t x f => simp only [aop, h x (by simp [Op.operands])]
  case field t x f => simp only [aop, h x (by simp [Op.operands])]
  case range t x => simp only [aop, h x (by simp [Op.operands])]
  case next x b => simp only [aop, h x (by simp [Op.operands])]
  case lookup t x y ok => simp only [aop, h x (by simp [Op.operands]), h y (by simp [Op.operands])]
  case mapUpdate t x y z => simp only [aop, h x (by simp [Op.operands]), h y (by simp [Op.operands]), h z (by simp [Op.operands])]
  case typeAssert x a b c => simp only [aop, h x (by simp [Op.operands])]
  case entry x => simp only [aop, h x (by simp [Op.operands])]
  case extract x i => simp only [aop, h x (by simp [Op.operands])]
  case store t x y => simp only [aop, h x (by simp [Op.operands]), h y (by simp [Op.operands])]
  case binOp a t x y u => simp only [aop, h x (by simp [Op.operands]), h y (by simp [Op.operands])]
  case makeSlice t x y => simp only [aop, h x (by simp [Op.operands]), h y (by simp [Op.operands])]
  case indexAddr t x y => simp only [aop, h x (by simp [Op.operands]), h y (by simp [Op.operands])]
  case index t x y => simp only [aop, h x (by simp [Op.operands]), h y (by simp [Op.operands])]
  case build t ps =>
    have : (ps.toList.map fun q => (q.1, ev e q.2)) = ps.toList.map fun q => (q.1, ev e' q.2) := List.map_congr_left fun q hq => by
      rw [h q.2 (by simp only [Op.operands]; exact List.mem_map_of_mem (f := fun q : Nat × Operand => q.2) hq)]
    simp only [aop, this]
  case buildSlice t n ps =>
    have : (ps.toList.map fun q => ev e q.2) = ps.toList.map fun q => ev e' q.2 := List.map_congr_left fun q hq => by
      rw [h q.2 (by simp only [Op.operands]; exact List.mem_map_of_mem (f := fun q : Nat × Operand => q.2) hq)]
    simp only [aop, this]
  case makeFunc f first caps =>
    have : caps.toList.map (ev e) = caps.toList.map (ev e') := map_ev fun x hx => h x (by simp only [Op.operands, Array.toList_append]; exact List.mem_append_right _ hx)
    cases f <;> simp only [aop, this]
  case slice t x lo hi mx =>
    have hx := h x (by simp [Op.operands])
    have hlo := fun d K => bnd_congr (e := e) (e' := e') (x := lo) (fun y hy => h y (by subst hy; simp [Op.operands])) d K
    have hhi := fun d K => bnd_congr (e := e) (e' := e') (x := hi) (fun y hy => h y (by subst hy; simp [Op.operands])) d K
    have hmx := fun d K => bnd_congr (e := e) (e' := e') (x := mx) (fun y hy => h y (by subst hy; simp [Op.operands])) d K
    simp only [aop, sliceA, hx, hlo, hhi, hmx]
    cases mx with
    | none => cases hi <;> rfl
    | some m => cases hi <;> first | rfl | simp only [hmx]
  case call c =>
    obtain ⟨callee, args, ts⟩ := c
    have ha : args.toList.map (ev e) = args.toList.map (ev e') := map_ev fun x hx => h x (by simp only [Op.operands, Call.operands, Array.toList_append]; exact List.mem_append_right _ hx)
    cases callee with
    | builtin b => simp only [aop, callA, ha]
    | value f => simp only [aop, callA, ha, h f (by simp [Op.operands, Call.operands])]
    | invoke r n => simp only [aop, callA]
  all_goals rfl

theorem footT_congr {op : Op} {e e' : Env} (h : ∀ x, x ∈ op.operands.toList → ev e x = ev e' x) : footT e op = footT e' op := by
  cases op
  case load t x => simp only [footT, h x (by simp [Op.operands])]
  case convert a b x => simp only [footT, h x (by simp [Op.operands])]
  case binOp a t x y u => simp only [footT, h x (by simp [Op.operands]), h y (by simp [Op.operands])]
  case makeInterface a x => simp only [footT, h x (by simp [Op.operands])]
  case indexAddr t x y => simp only [footT, h x (by simp [Op.operands])]
  case slice t x lo hi mx => simp only [footT, h x (by simp [Op.operands])]
  case store t x y => simp only [footT, h x (by simp [Op.operands]), h y (by simp [Op.operands])]
  case next x b => simp only [footT, h x (by simp [Op.operands])]
  case range t x => simp only [footT, h x (by simp [Op.operands])]
  case lookup t x y ok => simp only [footT, h x (by simp [Op.operands])]
  case mapUpdate t x y z => simp only [footT, h x (by simp [Op.operands]), h z (by simp [Op.operands])]
  case buildSlice t n ps =>
    have : (ps.toList.map fun q => ev e q.2) = ps.toList.map fun q => ev e' q.2 := List.map_congr_left fun q hq => by
      rw [h q.2 (by simp only [Op.operands]; exact List.mem_map_of_mem (f := fun q : Nat × Operand => q.2) hq)]
    have h2 : ∀ e : Env, (ps.toList.flatMap fun q => ids (ev e q.2)) = (ps.toList.map fun q => ev e q.2).flatMap ids := fun e => by rw [List.flatMap_map]
    simp only [footT, h2, this]
  case call c =>
    have ha : c.args.toList.map (ev e) = c.args.toList.map (ev e') := map_ev fun x hx => h x (by simp only [Op.operands, Call.operands, Array.toList_append]; exact List.mem_append_right _ hx)
    have h2 : ∀ e : Env, (c.args.toList.flatMap fun q => ids (ev e q)) = (c.args.toList.map (ev e)).flatMap ids := fun e => by rw [List.flatMap_map]
    simp only [footT, h2, ha]
  all_goals rfl

/-! ### What an operation leaves -/
def Same (f : List Nat) (s s' : Store) : Prop := s.length ≤ s'.length ∧ ∀ id, ¬ id ∈ f → id < s.length → getO s' id = getO s id

theorem Same.refl (f : List Nat) (s : Store) : Same f s s := ⟨Nat.le_refl _, fun _ _ _ => rfl⟩
theorem Same.snoc (f : List Nat) (s : Store) (o : AObj) : Same f s (s ++ [some o]) := ⟨by simp, fun id _ h => by rw [getO_snoc, if_neg (by omega)]⟩
theorem Same.set {f : List Nat} {s : Store} {id : Nat} (o : Option AObj) (h : id ∈ f) : Same f s (s.set id o) := ⟨by simp, fun i hi hlt => by
  unfold getO; rw [List.getElem?_set_ne (fun e => hi (by rw [← e]; exact h))]⟩
theorem Same.trans {f : List Nat} {s s' s'' : Store} (h : Same f s s') (k : Same f s' s'') : Same f s s'' :=
  ⟨Nat.le_trans h.1 k.1, fun id h1 h2 => (k.2 id h1 (Nat.lt_of_lt_of_le h2 h.1)).trans (h.2 id h1 h2)⟩

theorem cellsP_same {f : List Nat} : ∀ {cs : List AV} {s : Store} {K : List PV → Store → Prop}, toP.cellsP s cs K → (∀ v, v ∈ cs → ∀ id, id ∈ ids1 v → id ∈ f) → ∃ ps s', K ps s' ∧ Same f s s'
  | [], s, K, h, _ => ⟨[], s, h, .refl _ _⟩
  | v :: r, s, K, h, hf => by
    unfold toP.cellsP at h
    split at h
    · rename_i hc; cases hc
    · rename_i x r' hc; cases hc
      obtain ⟨ps, s', h1, h2⟩ := cellsP_same h (fun v hv => hf v (List.mem_cons_of_mem _ hv))
      exact ⟨_, s', h1, h2⟩
    · rename_i id tot off len r' hc; cases hc
      split at h
      · rw [killK_eq] at h
        unfold Ob at h
        obtain ⟨ps, s', h1, h2⟩ := cellsP_same h.2 (fun v hv => hf v (List.mem_cons_of_mem _ hv))
        exact ⟨_, s', h1, (Same.set none (hf (.osl id tot off len) (by simp) id (by simp [ids1]))).trans h2⟩
      · exact h.elim
    · exact h.elim

theorem toP_same {f : List Nat} {v : AV} {s : Store} {K : PV → Store → Prop} (h : toP s v K) (hf : ∀ id, id ∈ ids v → id ∈ f) : ∃ p s', K p s' ∧ Same f s s' := by
  unfold toP at h
  split at h
  · exact ⟨_, s, h, .refl _ _⟩
  · split at h
    · rw [killK_eq] at h; unfold Ob at h
      exact ⟨_, _, h.2, .set none (hf _ (by simp [ids, ids1]))⟩
    · exact h.elim
  · split at h
    · split at h
      · rw [killK_eq] at h
        exact ⟨_, _, h, .set none (hf _ (by simp [ids, ids1]))⟩
      · exact h.elim
    · exact h.elim
  · obtain ⟨ps, s', h1, h2⟩ := cellsP_same h (fun v hv id hid => hf id (by simp only [ids]; exact List.mem_flatMap.2 ⟨v, hv, hid⟩))
    exact ⟨_, s', h1, h2⟩
  · split at h
    · split at h
      · rw [killK_eq] at h
        exact ⟨_, _, h, .set none (hf _ (by simp [ids, ids1]))⟩
      · exact h.elim
    · exact h.elim
  · exact h.elim

theorem partsP_same {f : List Nat} : ∀ {vs : List AV} {s : Store} {K : List PV → Store → Prop}, partsP s vs K → (∀ v, v ∈ vs → ∀ id, id ∈ ids v → id ∈ f) → ∃ ps s', K ps s' ∧ Same f s s'
  | [], s, K, h, _ => ⟨[], s, h, .refl _ _⟩
  | v :: r, s, K, h, hf => by
    unfold partsP at h
    obtain ⟨p, s1, h1, h2⟩ := toP_same h (hf v (by simp))
    obtain ⟨ps, s2, h3, h4⟩ := partsP_same h1 (fun v hv => hf v (List.mem_cons_of_mem _ hv))
    exact ⟨_, s2, h3, h2.trans h4⟩

theorem appA_same {f : List Nat} {t : Nat} {x : AV} {ysz : Nat} {ys : List PV} {s : Store} {K : AV → Store → Prop} (h : appA P t x ysz ys s K) (hf : ∀ id, id ∈ ids x → id ∈ f) : ∃ v s', K v s' ∧ Same f s s' := by
  unfold appA at h
  repeat' split at h
  all_goals first
    | exact h.elim
    | skip
  all_goals try simp only [snoc_eq, setK_eq] at h
  all_goals first
    | (unfold Ob at h; exact ⟨_, _, h.2, .refl _ _⟩)
    | (unfold Ob at h; exact ⟨_, _, h.2, .set _ (hf _ (by simp [ids, ids1]))⟩)
    | (unfold BrL Ob at h
       by_cases hy : ys = []
       · exact ⟨_, _, h.1 hy, .refl _ _⟩
       · exact ⟨_, _, (h.2 hy).2, .snoc _ _ _⟩)

theorem aop_same {op : Op} {e : Env} {s : Store} {K : AV → Store → Prop} (h : aop P op e s K) (hs : stays op = false) (hnv : ∀ f args ts, op ≠ .call ⟨.value f, args, ts⟩) (hnm : offDraw op = false) : ∃ v s', K v s' ∧ Same (footT e op) s s' := by
  cases op
  case makeMap t r =>
    simp only [aop, snoc_eq] at h
    split at h
    · exact ⟨_, _, h, .snoc _ _ _⟩
    · exact h.elim
  case mapUpdate t x y z =>
    simp only [aop, mapUpdateA] at h
    split at h
    · rename_i hx _
      obtain ⟨p, s1, hq, h2⟩ := toP_same (f := footT e (.mapUpdate t x y z)) h (fun id hid => by simp only [footT]; exact List.mem_append_right _ hid)
      split at hq
      · split at hq
        · rw [setK_eq] at hq
          exact ⟨_, _, hq, h2.trans (.set _ (by simp only [footT, hx]; simp [ids, ids1]))⟩
        · exact hq.elim
      · exact hq.elim
    · exact h.elim
  case store t x y =>
    simp only [aop] at h
    unfold storeS at h
    have main : ∀ {s0 : Store} {vv : AV}, (storeA P t (ev e x) vv s0 fun s' => K .undef s') → ∃ v s', K v s' ∧ Same (footT e (.store t x y)) s0 s' := by
     intro s0 vv h
     simp only [storeA] at h
     split at h
     · exact h.elim
     · split at h
       · rename_i hx
         split at h
         · rw [normK_eq, setK_eq] at h
           unfold Ob at h
           exact ⟨_, _, h.2, .set _ (by simp only [footT, hx]; simp [ids, ids1])⟩
         · exact h.elim
       · rename_i hx
         split at h
         · split at h
           · rw [setK_eq] at h
             unfold Ob at h
             exact ⟨_, _, h.2, .set _ (by simp only [footT, hx]; simp [ids, ids1])⟩
           · unfold Ob Idx at h
             obtain ⟨_, _, q, _, hk⟩ := h
             rw [setK_eq] at hk
             exact ⟨_, _, hk, .set _ (by simp only [footT, hx]; simp [ids, ids1])⟩
           · exact h.elim
         · exact h.elim
       · exact h.elim
    split at h
    · rename_i id tot i sub id2 b c d hex hey
      obtain ⟨p, s1, h1, h2⟩ := toP_same (f := footT e (.store t x y)) h (fun q hq => by
        simp only [footT, hex, hey]
        simp only [ids, ids1] at hq
        exact List.mem_append_right _ (by simpa using hq))
      obtain ⟨v, s2, h3, h4⟩ := main (by rw [hex]; exact h1)
      exact ⟨v, s2, h3, h2.trans h4⟩
    · exact main h
  case next x b =>
    simp only [aop] at h
    split at h
    · rename_i hx
      split at h
      · rw [setK_eq] at h
        unfold BrL at h
        by_cases hy : ‹List UInt8› = []
        · exact ⟨_, _, h.1 hy, .refl _ _⟩
        · exact ⟨_, _, h.2 hy, .set _ (by simp only [footT, hx]; simp [ids, ids1])⟩
      · exact h.elim
    · simp [offDraw] at hnm
    · exact h.elim
  case entry x => simp [offDraw] at hnm
  case alloc t =>
    simp only [aop, snoc_eq] at h
    split at h
    · split at h
      · rcases h with h | h
        · exact ⟨_, _, h, .snoc _ _ _⟩
        · exact ⟨_, _, h, .snoc _ _ _⟩
      · exact ⟨_, _, h, .snoc _ _ _⟩
    · exact h.elim
  case box t x =>
    simp only [aop, snoc_eq] at h
    split at h
    · exact ⟨_, _, h, .snoc _ _ _⟩
    · exact h.elim
  case makeSlice t x y =>
    simp only [aop, snoc_eq] at h
    repeat' split at h
    all_goals first
      | exact h.elim
      | skip
    unfold Ob at h
    exact ⟨_, _, h.2, .snoc _ _ _⟩
  case range t x =>
    simp only [aop, snoc_eq] at h
    split at h
    · exact ⟨_, _, h, .snoc _ _ _⟩
    · split at h
      · exact ⟨_, _, h, .snoc _ _ _⟩
      · exact h.elim
    · exact h.elim
  case buildSlice t n ps =>
    simp only [aop] at h
    have old : ∀ {sz : Nat}, (partsP s (ps.toList.map fun q => ev e q.2) fun xs s' => (match xs.all (fun x => Nat.beq x.cells.length sz && x.cells.all PV.one) with
        | true => K (.p (.sl .clip sz xs)) s'
        | false => False)) → ∃ v s', K v s' ∧ Same (footT e (.buildSlice t n ps)) s s' := by
      intro sz h
      obtain ⟨xs, s', h1, h2⟩ := partsP_same (f := footT e (.buildSlice t n ps)) h (fun v hv id hid => by
        obtain ⟨q, hq, rfl⟩ := List.mem_map.1 hv
        simp only [footT]; exact List.mem_flatMap.2 ⟨q, hq, hid⟩)
      split at h1
      · exact ⟨_, _, h1, h2⟩
      · exact h1.elim
    split at h
    · split at h
      · split at h
        · split at h
          · rcases h with h | h
            · exact old h
            · split at h
              · rw [snoc_eq] at h; exact ⟨_, _, h, .snoc _ _ _⟩
              · exact h.elim
          · exact old h
          · rcases h with h | h
            · exact old h
            · split at h
              · rw [snoc_eq] at h; exact ⟨_, _, h, .snoc _ _ _⟩
              · exact h.elim
        · exact h.elim
      · exact h.elim
    · exact h.elim
  case call c =>
    obtain ⟨callee, args, ts⟩ := c
    cases callee with
    | value f => exact absurd rfl (hnv f args ts)
    | invoke r n => simp only [aop, callA] at h
    | builtin b =>
      have hb : b = .append ∨ b = .unsafeString ∨ b = .delete := by cases b <;> first | exact .inl rfl | exact .inr (.inl rfl) | exact .inr (.inr rfl) | (simp [stays] at hs)
      rcases hb with rfl | rfl | rfl
      rotate_left 1
      rotate_left 1
      · simp only [aop, callA, builtinA] at h
        generalize hts : ts.toList = tl at h
        generalize has : args.toList.map (ev e) = al at h
        have hfoot : ∀ {v : AV}, v ∈ al → ∀ id, id ∈ ids v → id ∈ footT e (.call ⟨.builtin .delete, args, ts⟩) := fun {v} hv id hid => by
          rw [← has] at hv
          obtain ⟨x, hx, rfl⟩ := List.mem_map.1 hv
          simp only [footT]; exact List.mem_flatMap.2 ⟨x, hx, hid⟩
        split at h
        all_goals first
          | contradiction
          | skip
        · unfold deleteA at h
          split at h
          · split at h
            · split at h
              · rw [setK_eq] at h
                exact ⟨_, _, h, .set _ (hfoot List.mem_cons_self _ (by simp [ids, ids1]))⟩
              · exact h.elim
            · exact h.elim
          · exact h.elim
      rotate_left 1
      · simp only [aop, callA, builtinA] at h
        generalize hts : ts.toList = tl at h
        generalize has : args.toList.map (ev e) = al at h
        have hfoot : ∀ {v : AV}, v ∈ al → ∀ id, id ∈ ids v → id ∈ footT e (.call ⟨.builtin .unsafeString, args, ts⟩) := fun {v} hv id hid => by
          rw [← has] at hv
          obtain ⟨x, hx, rfl⟩ := List.mem_map.1 hv
          simp only [footT]; exact List.mem_flatMap.2 ⟨x, hx, hid⟩
        split at h
        all_goals first
          | contradiction
          | skip
        · split at h
          · unfold Ob at h
            exact ⟨_, _, h.2, .refl _ _⟩
          · split at h
            · split at h
              · unfold Ob at h
                obtain ⟨_, l, _, h⟩ := h
                rw [killK_eq] at h
                refine ⟨_, _, h, .set _ (hfoot List.mem_cons_self _ ?_)⟩
                simp [ids, ids1]
              · exact h.elim
            · exact h.elim
          · exact h.elim
      simp only [aop, callA, builtinA] at h
      generalize hts : ts.toList = tl at h
      generalize has : args.toList.map (ev e) = al at h
      have hfoot : ∀ {v : AV}, v ∈ al → ∀ id, id ∈ ids v → id ∈ footT e (.call ⟨.builtin .append, args, ts⟩) := fun {v} hv id hid => by
        rw [← has] at hv
        obtain ⟨x, hx, rfl⟩ := List.mem_map.1 hv
        simp only [footT]; exact List.mem_flatMap.2 ⟨x, hx, hid⟩
      repeat' split at h
      all_goals first
        | exact h.elim
        | contradiction
        | exact appA_same h (hfoot (by simp))
        | skip
      · rw [snoc_eq] at h
        unfold Ob at h
        exact ⟨_, _, h.2, .snoc _ _ _⟩
      unfold elems at h
      repeat' split at h
      all_goals first
        | exact h.elim
        | exact appA_same h (hfoot (by simp))
        | (unfold Ob at h; exact appA_same h.2 (hfoot (by simp)))
  all_goals (simp [stays] at hs)
end Go.Proofs.YtjhgmaephpadpaaGreat.AW

namespace Go.Proofs.YtjhgmaephpadpaaGreat.AW
set_option linter.unusedSimpArgs false
set_option linter.unusedVariables false
variable {P : Program}

theorem aop_local {o : Oper} {e : Env} {s : Store} {K : AV → Store → Prop} {w : World} {g : G} {σ : St} {a : Act} {T : Nat → Prop} {N : Prop} (h : aop P o.op e s K) (hnv : ∀ f args ts, o.op ≠ .call ⟨.value f, args, ts⟩) (hnm : offDraw o.op = false)
    (hN : ∀ v s', K v s' → s.length < s'.length → N) (c : Cx w g σ s T N) (hG : Gk P w g σ) (hT : ∀ id, id ∈ footT e o.op → T id) (he : EnvR w g σ e a.tmps) : OpOk P o a w (Rs w g σ s T K) := by
  generalize hop : o.op = op at h
  rw [hop] at hT hnv hnm
  cases op
  case move => exact ok_move (.inl hop) (by simpa [aop] using h) c he
  case assign => exact ok_move (.inr hop) (by simpa [aop] using h) c he
  case pick => exact ok_pick hop h c he
  case alloc => exact ok_alloc hop h hN c
  case box => exact ok_box hop h hN c he
  case build => exact ok_build hop h c he
  case buildSlice => exact ok_buildSlice hop h hN c (fun q hq id hid => hT id (by simp only [footT]; exact List.mem_flatMap.2 ⟨q, hq, hid⟩)) he
  case load => exact ok_load hop h c (fun id hid => hT id hid) he
  case store => exact ok_store hop h c (fun id hid => hT id (by simp only [footT]; exact List.mem_append_left _ hid)) (fun i j k l id b c d h1 h2 => hT id (by simp only [footT, h1, h2]; simp)) he
  case nilCheck => exact ok_nilCheck hop h c he
  case binOp => exact ok_binOp hop h c (fun i q j r h1 h2 => ⟨hT i (by simp only [footT, h1, h2]; simp), hT j (by simp only [footT, h1, h2]; simp)⟩) he
  case unOp => exact ok_unOp hop h c he
  case convert => exact ok_convert hop h c (fun id hid => hT id hid) he
  case makeInterface => exact ok_makeInterface hop h c (fun id hid => hT id hid) he
  case makeFunc => exact ok_makeFunc hop h c he
  case makeSlice => exact ok_makeSlice hop h hN c he
  case slice => exact ok_slice hop h c (fun id hid => hT id hid) he
  case fieldAddr => exact ok_fieldAddr hop h c he
  case field => exact ok_field hop h c he
  case indexAddr => exact ok_indexAddr hop h c hG (fun id hid => hT id hid) he
  case index => exact ok_index hop h c he
  case range => exact ok_range hop h hN c (fun id hid => hT id hid) he
  case makeMap => exact ok_makeMap hop h hN c
  case lookup => exact ok_lookup hop h c (fun id hid => hT id hid) he
  case mapUpdate => exact ok_mapUpdate hop h c (fun id hid => hT id hid) he
  case next x isS => exact ok_next hop h c (fun id hid => hT id hid) (fun _ _ _ _ hf _ _ => by subst hf; simp [offDraw] at hnm) he
  case entry x => simp [offDraw] at hnm
  case typeAssert => exact ok_typeAssert hop h c he
  case extract => exact ok_extract hop h c he
  case call cl =>
    obtain ⟨callee, args, ts⟩ := cl
    simp only [aop, callA] at h
    cases callee with
    | builtin b => exact ok_builtin hop h hN c (fun x hx id hid => hT id (by simp only [footT]; exact List.mem_flatMap.2 ⟨x, hx, hid⟩)) he
    | value f => exact absurd rfl (hnv f args ts)
    | invoke r n => exact h.elim
  all_goals (simp only [aop] at h)

/-! ### The steps in the order of the text -/
structure Step where
  o : Oper
  v : AV
  e0 : Env
  s0 : Store
  s1 : Store
  f : Foot

def StepSem (P : Program) (x : Step) : Prop := dop P x.o x.e0 x.s0 fun v s' f => v = x.v ∧ s' = x.s1 ∧ f = x.f

def Does (P : Program) (n : Nat) (ops : Array Oper) (x : Step) : Prop := match x.o.guard with
  | none => StepSem P x
  | some (j, want) => ∃ t b, (ops[j]?).bind (·.dst) = some t ∧ t < n ∧ x.e0 t = .p (.bool b) ∧
      ((b == want) = true ∧ StepSem P x ∨ (b == want) = false ∧ x.v = .undef ∧ x.s1 = x.s0 ∧ x.f = ⟨[], false, x.s0.length, x.s0.length, false⟩)

theorem framedK_elim {k : Nat} {as : List AV} {s : Store} {K : AV → Store → Foot → Prop} (h : framedK P k as s K) : ∃ v s' f, framedK P k as s (fun v' s'' f' => v' = v ∧ s'' = s' ∧ f' = f) ∧ K v s' f := by
  unfold framedK at h
  obtain ⟨is, args0, s0, v0, s0', h1, h2, h3, h4, h5⟩ := h
  rw [renK_eq, mergeK_eq] at h5
  refine ⟨_, _, _, ⟨is, args0, s0, v0, s0', h1, h2, h3, h4, ?_⟩, h5⟩
  rw [renK_eq, mergeK_eq]
  exact ⟨rfl, rfl, rfl⟩
theorem framedR_elim {k : Nat} {as : List AV} {s : Store} {K : AV → Store → Foot → Prop} (h : framedR P k as s K) : ∃ v s' f, framedR P k as s (fun v' s'' f' => v' = v ∧ s'' = s' ∧ f' = f) ∧ K v s' f := by
  unfold framedR at h
  obtain ⟨is, args0, s0, v0, h1, h2, h3, h4, h5⟩ := h
  rw [renK_eq] at h5
  refine ⟨_, _, _, ⟨is, args0, s0, v0, h1, h2, h3, h4, ?_⟩, h5⟩
  rw [renK_eq]
  exact ⟨rfl, rfl, rfl⟩
structure FramedR (P : Program) (k : Nat) (as : List AV) (x : Step) : Prop where
  ex : ∃ is args0 s0 v0, Cal P k args0 s0 (fun v s' => v = v0 ∧ s' = s0) ∧ as = rens (place is x.s0.length) args0 ∧ is.map (getO x.s0) = s0.map (renO (place is x.s0.length)) ∧ nodupLt is x.s0.length = true ∧
    unders s0.length args0 = true ∧ s0.all (objUnder s0.length) = true ∧ v0.under s0.length = true ∧ x.v = v0.ren (place is x.s0.length) ∧ x.s1 = x.s0 ∧ x.f = ⟨is, false, x.s0.length, x.s0.length, false⟩
theorem framedR_of {k : Nat} {as : List AV} {x : Step} (h : framedR P k as x.s0 fun v s' f => v = x.v ∧ s' = x.s1 ∧ f = x.f) : FramedR P k as x := by
  unfold framedR at h
  obtain ⟨is, args0, s0, v0, h1, h2, h3, h4, h5⟩ := h
  rw [renK_eq] at h5
  obtain ⟨k1, k2, k3⟩ := h5
  simp only [Bool.and_eq_true] at h4
  obtain ⟨a1, a3, a4, a5⟩ := h4
  exact ⟨is, args0, s0, v0, h1, h2, h3, a1, a3, a4, a5, k1.symm, k2.symm, k3.symm⟩
/-- What a framed call is, in words. -/
structure Framed (P : Program) (k : Nat) (as : List AV) (x : Step) : Prop where
  ex : ∃ is args0 s0 v0 s0', Cal P k args0 s0 (fun v s' => v = v0 ∧ s' = s0') ∧ as = rens (place is x.s0.length) args0 ∧ is.map (getO x.s0) = s0.map (renO (place is x.s0.length)) ∧ nodupLt is x.s0.length = true ∧ s0.length ≤ s0'.length ∧
    unders s0.length args0 = true ∧ s0.all (objUnder s0.length) = true ∧ v0.under s0'.length = true ∧ s0'.all (objUnder s0'.length) = true ∧ x.v = v0.ren (place is x.s0.length) ∧ x.s1 = mergeO (place is x.s0.length) is x.s0 s0' ∧ x.f = ⟨is, true, x.s0.length, x.s1.length, false⟩
theorem framed_of {k : Nat} {as : List AV} {x : Step} (h : framedK P k as x.s0 fun v s' f => v = x.v ∧ s' = x.s1 ∧ f = x.f) : Framed P k as x := by
  unfold framedK at h
  obtain ⟨is, args0, s0, v0, s0', h1, h2, h3, h4, h5⟩ := h
  rw [renK_eq, mergeK_eq] at h5
  obtain ⟨k1, k2, k3⟩ := h5
  simp only [Bool.and_eq_true] at h4
  obtain ⟨a1, a2, a3, a4, a5, a6⟩ := h4
  exact ⟨is, args0, s0, v0, s0', h1, h2, h3, a1, Nat.le_of_ble_eq_true a2, a3, a4, a5, a6, k1.symm, k2.symm, by rw [← k3, ← k2]⟩
theorem Framed.len {k : Nat} {as : List AV} {x : Step} {is : List Nat} {s0 s0' : Store} (h3 : is.map (getO x.s0) = s0.map (renO (place is x.s0.length))) (hle : s0.length ≤ s0'.length) (h1 : x.s1 = mergeO (place is x.s0.length) is x.s0 s0') :
    s0.length = is.length ∧ x.s1.length = x.s0.length + (s0'.length - s0.length) := by
  have hl : s0.length = is.length := by have := congrArg List.length h3; simpa using this.symm
  exact ⟨hl, by rw [h1, merge_len (by omega), hl]⟩

theorem dop_elim {o : Oper} {e : Env} {s : Store} {K : AV → Store → Foot → Prop} (h : dop P o e s K) : ∃ v s' f, dop P o e s (fun v' s'' f' => v' = v ∧ s'' = s' ∧ f' = f) ∧ K v s' f := by
  unfold dop at h ⊢
  split at h
  · split at h
    · split at h
      · rcases h with ⟨v0, h1, h2, h3⟩ | h
        · exact ⟨v0, _, _, .inl ⟨v0, h1, h2, rfl, rfl, rfl⟩, h3⟩
        · rcases h with h | h
          · obtain ⟨v, s', f, h1, h2⟩ := framedK_elim h
            exact ⟨v, s', f, .inr (.inl h1), h2⟩
          · obtain ⟨v, s', f, h1, h2⟩ := framedR_elim h
            exact ⟨v, s', f, .inr (.inr h1), h2⟩
      · rcases h with ⟨v0, s0, h1, h2, h3⟩ | h
        · exact ⟨v0, _, _, .inl ⟨v0, s0, h1, h2, rfl, rfl, rfl⟩, h3⟩
        · rcases h with h | h
          · obtain ⟨v, s', f, h1, h2⟩ := framedK_elim h
            exact ⟨v, s', f, .inr (.inl h1), h2⟩
          · obtain ⟨v, s', f, h1, h2⟩ := framedR_elim h
            exact ⟨v, s', f, .inr (.inr h1), h2⟩
    · exact h.elim
  · exact h.elim
  · exact h.elim
  · exact h.elim
  · split at h
    · obtain ⟨v0, h1, h3⟩ := h
      exact ⟨v0, _, _, ⟨v0, h1, rfl, rfl, rfl⟩, h3⟩
    · obtain ⟨v0, s0, h1, h2, h3⟩ := h
      exact ⟨v0, _, _, ⟨v0, s0, h1, h2, rfl, rfl, rfl⟩, h3⟩

def Chain (n : Nat) : List Step → Env → Store → Env → Store → Prop
  | [], e, s, e', s' => e = e' ∧ s = s'
  | x :: r, e, s, e', s' => x.e0 = e ∧ x.s0 = s ∧ (∀ t, x.o.dst = some t → t < n) ∧ Chain n r (put e x.o.dst x.v) x.s1 e' s'

theorem putK_put {n : Nat} {e : Env} {dst : Option Nat} {v : AV} {K : Env → Prop} (h : putK n e dst v K) : (∀ t, dst = some t → t < n) ∧ K (put e dst v) := by
  unfold putK at h
  split at h
  · exact ⟨(fun _ h => nomatch h), h⟩
  · split at h
    · rename_i hb
      refine ⟨fun t ht => ?_, h⟩
      cases ht
      have : (_ + 1).ble n = true := hb
      exact Nat.le_of_ble_eq_true this
    · exact h.elim

theorem adops_trace {n : Nat} {ops : Array Oper} {K : Env → Store → Prop} : ∀ {l : List Oper} {tr : List (Oper × Foot)} {e : Env} {s : Store}, adops P n ops l tr K e s →
    ∃ xs e' s', xs.map (·.o) = l ∧ Chain n xs e s e' s' ∧ (∀ x, x ∈ xs → Does P n ops x) ∧ chkAll ops ops.size [] (tr ++ xs.map fun x => (x.o, x.f)) = true ∧ K e' s' := by
  intro l
  induction l with
  | nil =>
    intro tr e s h
    rw [adops_nil] at h
    unfold Chk at h
    obtain ⟨hb, h⟩ := h
    simp only [Bool.and_eq_true] at hb
    exact ⟨[], e, s, rfl, ⟨rfl, rfl⟩, (fun x hx => nomatch hx), by simpa using hb.1, h⟩
  | cons o rest ih =>
    intro tr e s h
    have go : ∀ (x : Step), x.o = o → x.e0 = e → x.s0 = s → Does P n ops x → (putK n e o.dst x.v fun e' => adops P n ops rest (tr ++ [(o, x.f)]) K e' x.s1) →
        ∃ xs e' s', xs.map (·.o) = o :: rest ∧ Chain n xs e s e' s' ∧ (∀ x, x ∈ xs → Does P n ops x) ∧ chkAll ops ops.size [] (tr ++ xs.map fun x => (x.o, x.f)) = true ∧ K e' s' := by
      intro x h1 h2 h3 h4 h5
      obtain ⟨h6, h7⟩ := putK_put h5
      obtain ⟨xs, e', s', k1, k2, k3, k4, k5⟩ := ih h7
      refine ⟨x :: xs, e', s', by simp [h1, k1], ⟨h2, h3, by rw [h1]; exact h6, by rw [h1]; exact k2⟩, fun y hy => ?_, by simpa [h1] using k4, k5⟩
      rcases List.mem_cons.1 hy with rfl | hy
      · exact h4
      · exact k3 y hy
    rw [adops_cons] at h
    split at h
    · rename_i hg
      obtain ⟨v, s', f, h1, h2⟩ := dop_elim h
      exact go ⟨o, v, e, s, s', f⟩ rfl rfl rfl (by unfold Does; rw [hg]; exact h1) h2
    · rename_i j want hg
      split at h
      · rename_i t ht
        split at h
        · rename_i b hlt hev
          have hlt : t < n := by
            have : (t + 1).ble n = true := hlt
            exact Nat.le_of_ble_eq_true this
          unfold Br at h
          cases hb : (b == want) with
          | true =>
            obtain ⟨v, s', f, h1, h2⟩ := dop_elim (h.1 hb)
            exact go ⟨o, v, e, s, s', f⟩ rfl rfl rfl (by unfold Does; rw [hg]; exact ⟨t, b, ht, hlt, hev, .inl ⟨hb, h1⟩⟩) h2
          | false =>
            exact go ⟨o, .undef, e, s, s, ⟨[], false, s.length, s.length, false⟩⟩ rfl rfl rfl (by unfold Does; rw [hg]; exact ⟨t, b, ht, hlt, hev, .inr ⟨hb, rfl, rfl, rfl⟩⟩) (h.2 hb)
        · exact h.elim
      · exact h.elim

/-! ### What a step touches -/
def isWr (x : Step) (id : Nat) : Bool := x.f.all || memB id x.f.write

theorem mem_news {f : Foot} {id : Nat} : id ∈ f.news ↔ f.n0 ≤ id ∧ id < f.n1 := by
  unfold Foot.news
  simp only [List.mem_map, List.mem_range]
  exact ⟨fun ⟨k, h1, h2⟩ => by omega, fun ⟨h1, h2⟩ => ⟨id - f.n0, by omega, by omega⟩⟩

/-- What is known of a step's stores. -/
structure Fine (x : Step) : Prop where
  len : x.s0.length ≤ x.s1.length
  n0 : x.f.n0 = x.s0.length
  n1 : x.f.n1 = x.s1.length
  same : ∀ id, isWr x id = false → getO x.s1 id = getO x.s0 id

theorem mem_write {f : Foot} {id : Nat} : id ∈ f.write ↔ (f.wr = true ∧ id ∈ f.t) ∨ id ∈ f.news := by
  unfold Foot.write
  cases f.wr <;> simp

theorem isWr_iff {x : Step} {id : Nat} : isWr x id = true ↔ x.f.all = true ∨ (x.f.wr = true ∧ id ∈ x.f.t) ∨ id ∈ x.f.news := by
  unfold isWr
  rw [Bool.or_eq_true, memB_iff, mem_write]

theorem notNext {o : Oper} (hop : offDraw o.op = true) {e : Env} {s : Store} {K : AV → Store → Foot → Prop} (h : dop P o e s K) : False := by
  unfold dop at h
  unfold offDraw at hop
  split at hop
  · rename_i q; rw [q] at h; exact h
  · rename_i q; rw [q] at h; exact h
  · rename_i q; rw [q] at h; exact h
  · cases hop
theorem notCall {o : Oper} (h : ∀ f args ts, o.op ≠ .call ⟨.value f, args, ts⟩) (hm : offDraw o.op = false) {e : Env} {s : Store} {K : AV → Store → Foot → Prop} : dop P o e s K = (match stays o.op with
    | true => ∃ v0, aop P o.op e s (fun v s' => v = v0 ∧ s' = s) ∧ K v0 s ⟨footT e o.op, false, s.length, s.length, false⟩
    | false => ∃ v0 s0, aop P o.op e s (fun v s' => v = v0 ∧ s' = s0) ∧ Nat.ble s.length s0.length = true ∧ K v0 s0 ⟨footT e o.op, true, s.length, s0.length, false⟩) := by
  unfold dop
  split
  · rename_i hop; exact absurd hop (h _ _ _)
  · rename_i hop; rw [hop] at hm; simp [offDraw] at hm
  · rename_i hop; rw [hop] at hm; simp [offDraw] at hm
  · rename_i hop; rw [hop] at hm; simp [offDraw] at hm
  · rfl

theorem StepSem.fine {x : Step} (h : StepSem P x) : Fine x := by
  unfold StepSem at h
  by_cases hc : ∃ f args ts, x.o.op = .call ⟨.value f, args, ts⟩
  · obtain ⟨f, args, ts, hop⟩ := hc
    unfold dop at h
    rw [hop] at h
    simp only [] at h
    split at h
    · have hframed : ∀ {k : Nat} {as : List AV}, (framedK P k as x.s0 fun v s' f => v = x.v ∧ s' = x.s1 ∧ f = x.f) → Fine x := fun hk => by
        obtain ⟨is, args0, s0, v0, s0', _, _, h3, hn, hle, _, _, _, _, _, h1, h2⟩ := (framed_of hk).ex
        obtain ⟨l1, l2⟩ := Framed.len (k := 0) (as := []) h3 hle h1
        refine ⟨by omega, by rw [h2], by rw [h2], fun id hid => ?_⟩
        have hnot : ¬ isWr x id = true := by simp [hid]
        rw [isWr_iff, mem_news, h2] at hnot
        have h4 : ¬ id ∈ is := fun q => hnot (.inr (.inl ⟨rfl, q⟩))
        have h5 : ¬ (x.s0.length ≤ id ∧ id < x.s1.length) := fun q => hnot (.inr (.inr q))
        by_cases hlt : id < x.s0.length
        · rw [h1]; exact (merge_at rfl hn (by omega)).2 id hlt h4
        · rw [getO_out (by omega), getO_out (by omega)]
      have hframedR : ∀ {k : Nat} {as : List AV}, (framedR P k as x.s0 fun v s' f => v = x.v ∧ s' = x.s1 ∧ f = x.f) → Fine x := fun hk => by
        obtain ⟨is, args0, s0, v0, _, _, h3, hn, _, _, _, _, h1, h2⟩ := (framedR_of hk).ex
        exact ⟨by rw [h1]; exact Nat.le_refl _, by rw [h2], by rw [h2, h1], fun id _ => by rw [h1]⟩
      split at h
      · rcases h with ⟨v0, _, _, _, h1, h2⟩ | h | h
        rotate_left
        · exact hframed h
        · exact hframedR h
        exact ⟨by rw [← h1]; exact Nat.le_refl _, by rw [← h2], by rw [← h2, ← h1], fun id _ => by rw [← h1]⟩
      · rcases h with ⟨v0, s0, _, hle, _, h1, h2⟩ | h | h
        rotate_left
        · exact hframed h
        · exact hframedR h
        subst h1
        exact ⟨Nat.le_of_ble_eq_true hle, by rw [← h2], by rw [← h2], fun id hid => by
          have : isWr x id = true := isWr_iff.2 (.inl (by rw [← h2]))
          rw [this] at hid; cases hid⟩
    · exact h.elim
  · have hnv : ∀ f args ts, x.o.op ≠ .call ⟨.value f, args, ts⟩ := fun f args ts e => hc ⟨f, args, ts, e⟩
    by_cases hnx : offDraw x.o.op = true
    · exact (notNext hnx h).elim
    have hnm : offDraw x.o.op = false := by simpa using hnx
    rw [notCall hnv hnm] at h
    split at h
    · obtain ⟨v0, _, _, h1, h2⟩ := h
      exact ⟨by rw [← h1]; exact Nat.le_refl _, by rw [← h2], by rw [← h2, ← h1], fun id _ => by rw [← h1]⟩
    · rename_i hst
      obtain ⟨v0, s0, ha, hle, _, h1, h2⟩ := h
      subst h1
      obtain ⟨v, s', ⟨_, rfl⟩, hsame⟩ := aop_same ha hst hnv hnm
      refine ⟨hsame.1, by rw [← h2], by rw [← h2], fun id hid => ?_⟩
      have hnot : ¬ isWr x id = true := by simp [hid]
      rw [isWr_iff] at hnot
      have h3 : ¬ id ∈ x.f.news := fun hx => hnot (.inr (.inr hx))
      have h4 : ¬ id ∈ x.f.t := fun hx => hnot (.inr (.inl ⟨by rw [← h2], hx⟩))
      rw [mem_news, ← h2] at h3
      rw [← h2] at h4
      simp only [] at h3
      by_cases hlt : id < x.s0.length
      · exact hsame.2 id h4 hlt
      · rw [getO_out (by omega), getO_out (by omega)]

theorem Does.fine {n : Nat} {ops : Array Oper} {x : Step} (h : Does P n ops x) : Fine x := by
  unfold Does at h
  split at h
  · exact h.fine
  · obtain ⟨t, b, _, _, _, h⟩ := h
    rcases h with ⟨_, h⟩ | ⟨_, _, h1, h2⟩
    · exact h.fine
    · exact ⟨by rw [h1]; exact Nat.le_refl _, by rw [h2], by rw [h2, h1], fun id _ => by rw [h1]⟩

/-! ### Some of the steps, in the order of the text -/
def envF (S : Nat → Bool) : Nat → List Step → Env → Env
  | _, [], e => e
  | k, x :: r, e => envF S (k + 1) r (if S k then put e x.o.dst x.v else e)
def stF (S : Nat → Bool) : Nat → List Step → St → St
  | _, [], σ => σ
  | k, x :: r, σ => stF S (k + 1) r (if S k then (fun id => if isWr x id then getO x.s1 id else σ id) else σ)

theorem put_ne {e : Env} {dst : Option Nat} {v : AV} {t : Nat} (h : dst ≠ some t) : put e dst v t = e t := by
  cases dst with
  | none => rfl
  | some d =>
    simp only [put, upd]
    split
    · rename_i hb; exact absurd (congrArg some (Nat.eq_of_beq_eq_true hb)) h
    · rfl
theorem put_eq {e : Env} {v : AV} {t : Nat} : put e (some t) v t = v := by simp [put, upd]

theorem envF_eq {S S' : Nat → Bool} {t : Nat} : ∀ {xs : List Step} {k : Nat} {e e' : Env}, (∀ i x, xs[i]? = some x → x.o.dst = some t → S (k + i) = S' (k + i)) → e t = e' t → envF S k xs e t = envF S' k xs e' t
  | [], _, _, _, _, h => h
  | x :: r, k, e, e', hs, h => by
    unfold envF
    refine envF_eq (fun i y hi hy => ?_) ?_
    · have := hs (i + 1) y (by simpa using hi) hy
      rwa [show k + (i + 1) = k + 1 + i by omega] at this
    · by_cases hd : x.o.dst = some t
      · have := hs 0 x (by simp) hd
        simp only [Nat.add_zero] at this
        rw [this]
        split
        · rw [hd, put_eq, put_eq]
        · exact h
      · have : ∀ (e : Env) (b : Bool), (if b then put e x.o.dst x.v else e) t = e t := fun e b => by cases b <;> simp [put_ne hd]
        rw [this, this]; exact h

theorem stF_eq {S S' : Nat → Bool} {id : Nat} : ∀ {xs : List Step} {k : Nat} {σ σ' : St}, (∀ i x, xs[i]? = some x → isWr x id = true → S (k + i) = S' (k + i)) → σ id = σ' id → stF S k xs σ id = stF S' k xs σ' id
  | [], _, _, _, _, h => h
  | x :: r, k, σ, σ', hs, h => by
    unfold stF
    refine stF_eq (fun i y hi hy => ?_) ?_
    · have := hs (i + 1) y (by simpa using hi) hy
      rwa [show k + (i + 1) = k + 1 + i by omega] at this
    · by_cases hd : isWr x id = true
      · have := hs 0 x (by simp) hd
        simp only [Nat.add_zero] at this
        rw [this]
        split
        · simp only [hd, if_true]
        · exact h
      · have : ∀ (σ : St) (b : Bool), (if b then (fun id => if isWr x id then getO x.s1 id else σ id) else σ) id = σ id := fun e b => by cases b <;> simp [hd]
        rw [this, this]; exact h

def stateAt : List Step → Env → Store → Nat → Env × Store
  | _, e, s, 0 => (e, s)
  | [], e, s, _ + 1 => (e, s)
  | x :: r, e, _, j + 1 => stateAt r (put e x.o.dst x.v) x.s1 j

theorem stateAt_get {n : Nat} : ∀ {xs : List Step} {e : Env} {s : Store} {e' : Env} {s' : Store} {j : Nat} {x : Step}, Chain n xs e s e' s' → xs[j]? = some x → stateAt xs e s j = (x.e0, x.s0) ∧ stateAt xs e s (j + 1) = (put x.e0 x.o.dst x.v, x.s1)
  | [], _, _, _, _, _, _, _, h => by simp at h
  | y :: r, e, s, e', s', 0, x, hc, h => by
    simp at h; subst h
    obtain ⟨h1, h2, _, h3⟩ := hc
    simp [stateAt, h1, h2]
  | y :: r, e, s, e', s', j + 1, x, hc, h => by
    obtain ⟨h1, h2, _, h3⟩ := hc
    exact stateAt_get (j := j) h3 (by simpa using h)

theorem stateAt_end {n : Nat} : ∀ {xs : List Step} {e : Env} {s : Store} {e' : Env} {s' : Store}, Chain n xs e s e' s' → stateAt xs e s xs.length = (e', s')
  | [], e, s, e', s', h => by simp [stateAt, h.1, h.2]
  | x :: r, e, s, e', s', h => stateAt_end (xs := r) h.2.2.2

theorem envF_stop {S : Nat → Bool} : ∀ {xs : List Step} {k : Nat} {e : Env}, (∀ i, k ≤ i → S i = false) → envF S k xs e = e
  | [], _, _, _ => rfl
  | x :: r, k, e, h => by unfold envF; rw [h k (Nat.le_refl _)]; exact envF_stop fun i hi => h i (by omega)
theorem stF_stop {S : Nat → Bool} : ∀ {xs : List Step} {k : Nat} {σ : St}, (∀ i, k ≤ i → S i = false) → stF S k xs σ = σ
  | [], _, _, _ => rfl
  | x :: r, k, σ, h => by unfold stF; rw [h k (Nat.le_refl _)]; exact stF_stop fun i hi => h i (by omega)

theorem upto_state {n : Nat} : ∀ {xs : List Step} {e : Env} {s : Store} {e' : Env} {s' : Store} {j k : Nat}, Chain n xs e s e' s' → (∀ x, x ∈ xs → Fine x) → j ≤ xs.length →
    envF (fun i => decide (i < k + j)) k xs e = (stateAt xs e s j).1 ∧ stF (fun i => decide (i < k + j)) k xs (getO s) = getO (stateAt xs e s j).2
  | xs, e, s, e', s', 0, k, _, _, _ => by
    have h : ∀ i, k ≤ i → decide (i < k + 0) = false := fun i hi => by simp; omega
    cases xs <;> exact ⟨envF_stop h, stF_stop h⟩
  | [], _, _, _, _, j + 1, _, _, _, h => by simp at h
  | x :: r, e, s, e', s', j + 1, k, hc, hf, hl => by
    obtain ⟨h1, h2, _, h3⟩ := hc
    have ih := upto_state (j := j) (k := k + 1) h3 (fun y hy => hf y (List.mem_cons_of_mem _ hy)) (by simpa using hl)
    rw [show k + 1 + j = k + (j + 1) by omega] at ih
    unfold envF stF stateAt
    have hk : decide (k < k + (j + 1)) = true := by simp
    simp only [hk, if_true]
    have : (fun id => if isWr x id then getO x.s1 id else getO s id) = getO x.s1 := by
      funext id
      split
      · rfl
      · rename_i hw
        rw [← h2]; exact ((hf x (by simp)).same id (by simpa using hw)).symm
    rw [this]
    exact ih

theorem chain_mono {n : Nat} : ∀ {xs : List Step} {e : Env} {s : Store} {e' : Env} {s' : Store} {i : Nat} {x : Step}, Chain n xs e s e' s' → (∀ x, x ∈ xs → Fine x) → xs[i]? = some x → s.length ≤ x.s0.length ∧ x.s1.length ≤ s'.length
  | [], _, _, _, _, _, _, _, _, h => by simp at h
  | y :: r, e, s, e', s', 0, x, ⟨h1, h2, _, h3⟩, hf, h => by
    simp at h; subst h
    refine ⟨by rw [h2]; exact Nat.le_refl _, ?_⟩
    have := chain_len h3 (fun y hy => hf y (List.mem_cons_of_mem _ hy))
    exact this
  | y :: r, e, s, e', s', i + 1, x, ⟨h1, h2, _, h3⟩, hf, h => by
    have h4 := chain_mono (i := i) h3 (fun y hy => hf y (List.mem_cons_of_mem _ hy)) (by simpa using h)
    have := (hf y (by simp)).len
    rw [h2] at this
    exact ⟨by omega, h4.2⟩
where
  chain_len {n : Nat} : ∀ {xs : List Step} {e : Env} {s : Store} {e' : Env} {s' : Store}, Chain n xs e s e' s' → (∀ x, x ∈ xs → Fine x) → s.length ≤ s'.length
  | [], _, _, _, _, ⟨_, h⟩, _ => by rw [h]; exact Nat.le_refl _
  | y :: r, e, s, e', s', ⟨h1, h2, _, h3⟩, hf => by
    have h4 := chain_len h3 (fun y hy => hf y (List.mem_cons_of_mem _ hy))
    have := (hf y (by simp)).len
    rw [h2] at this
    omega

theorem chain_lt {n : Nat} {e' : Env} {s' : Store} {x y : Step} : ∀ {xs : List Step} {e : Env} {s : Store} {i j : Nat}, Chain n xs e s e' s' → (∀ x, x ∈ xs → Fine x) → xs[i]? = some x → xs[j]? = some y → i < j → x.s1.length ≤ y.s0.length := by
  intro xs
  induction xs with
  | nil => intro e s i j _ _ h; simp at h
  | cons z r ih =>
    intro e s i j hc hf h k hij
    have hf' : ∀ x, x ∈ r → Fine x := fun y hy => hf y (List.mem_cons_of_mem _ hy)
    cases j with
    | zero => omega
    | succ j =>
      cases i with
      | zero =>
        simp at h; subst h
        exact (chain_mono hc.2.2.2 hf' (by simpa using k)).1
      | succ i => exact ih hc.2.2.2 hf' (by simpa using h) (by simpa using k) (by omega)

theorem chain_dst {n : Nat} {e' : Env} {s' : Store} {x : Step} : ∀ {xs : List Step} {e : Env} {s : Store}, Chain n xs e s e' s' → x ∈ xs → ∀ t, x.o.dst = some t → t < n := by
  intro xs
  induction xs with
  | nil => intro e s _ h; cases h
  | cons z r ih =>
    intro e s hc hx
    rcases List.mem_cons.1 hx with rfl | hx
    · exact hc.2.2.1
    · exact ih hc.2.2.2 hx
end Go.Proofs.YtjhgmaephpadpaaGreat.AW
