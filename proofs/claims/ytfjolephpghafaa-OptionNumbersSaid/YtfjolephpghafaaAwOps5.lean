import Derived.Test.YtfjolephpghafaaAwOps4
namespace Go.Proofs.Ytfjolephpghafaa.AW
section ops
variable {P : Program} {o : Oper} {e : Env} {s : Store} {K : AV → Store → Prop} {w : World} {g : G} {σ : St} {a : Act} {T : Nat → Prop} {N : Prop}

theorem CellsP.drop {B : Nat → Prop} {b : Nat} : ∀ (n : Nat) {cs : List PV} {off : Nat}, CellsP w B b off cs → CellsP w B b (off + n) (cs.drop n)
  | 0, _, _, h => h
  | n + 1, _, off, .nil _ _ => .nil _ _
  | n + 1, _, off, .cons _ _ v x vs hc h hs => by
    rw [show off + (n + 1) = off + 1 + n by omega]; exact hs.drop n
theorem CellsP.take {B : Nat → Prop} {b : Nat} : ∀ (n : Nat) {cs : List PV} {off : Nat}, CellsP w B b off cs → CellsP w B b off (cs.take n)
  | 0, _, _, _ => .nil _ _
  | _n + 1, _, _off, .nil _ _ => .nil _ _
  | n + 1, _, _off, .cons _ _ v x vs hc h hs => .cons _ _ v x _ hc h (hs.take n)

theorem flat_dropN {sz : Nat} : ∀ (n : Nat) (l : List PV), (∀ z, z ∈ l → El sz z) → flat (l.drop n) = (flat l).drop (n * sz)
  | 0, l, _ => by simp
  | n + 1, [], _ => by simp [flat]
  | n + 1, z :: l, hl => by
    have hz := (hl z (by simp)).1
    rw [List.drop_succ_cons, flat_dropN n l (fun q hq => hl q (List.mem_cons_of_mem _ hq))]
    show _ = (z.cells ++ flat l).drop _
    rw [show (n + 1) * sz = z.cells.length + n * sz by rw [hz, Nat.succ_mul]; omega, ← List.drop_drop, List.drop_left' rfl]
theorem flat_takeN {sz : Nat} : ∀ (n : Nat) (l : List PV), (∀ z, z ∈ l → El sz z) → flat (l.take n) = (flat l).take (n * sz)
  | 0, l, _ => by simp [flat]
  | n + 1, [], _ => by simp [flat]
  | n + 1, z :: l, hl => by
    have hz := (hl z (by simp)).1
    rw [List.take_succ_cons]
    show z.cells ++ flat (l.take n) = (z.cells ++ flat l).take _
    rw [flat_takeN n l (fun q hq => hl q (List.mem_cons_of_mem _ hq)), show (n + 1) * sz = z.cells.length + n * sz by rw [hz, Nat.succ_mul]; omega, List.take_append, List.take_of_length_le (l := z.cells) (Nat.le_add_right _ _), Nat.add_sub_cancel_left]

theorem inf_und {t : Nat} {i : TypeInfo} (_hi : P.info? t = some i) : True := trivial

theorem ok_fieldAddr {t f : Nat} {x : Operand} (ho : o.op = .fieldAddr t x f) (h : aop P (.fieldAddr t x f) e s K) (c : Cx w g σ s T N) (he : EnvR w g σ e a.tmps) : OpOk P o a w (Rs w g σ s T K) := by
  simp only [aop] at h
  have hx := ev_rep he x
  split at h
  · rename_i fd hf
    unfold fldT at hf
    split at hf
    · rename_i fs hd
      have hu := und hd (by simp)
      split at h
      · rename_i i hi
        have fin : ∀ {b : Addr} {v : AV}, Nat.ble 1 i.size = true → a.eval x = .pointer (some b) → K v s → RepA w g σ v (.pointer (some (b.add fd.offset))) → OpOk P o a w (Rs w g σ s T K) := by
          intro b v h1 hp hk hr
          have h1 := Nat.le_of_ble_eq_true h1
          refine .value (v := .pointer (some (b.add fd.offset))) (w' := w) ?_ (.pure c hk hr)
          have : ¬ i.size = 0 := by omega
          simp [execOp, ho, Instr.fieldAt, underlying, hu, hf, Instr.sureAddr, hp, fieldPlace, sizeOf, typeInfo, hi, this]
        split at h
        · rename_i id off h1 hev
          rw [hev] at hx
          obtain ⟨hp, hc, hb⟩ := hx.inv_ref
          exact fin h1 hp h (by rw [add_addr]; exact .ref id _ hc hb)
        · rename_i id tot j sub h1 hev
          rw [hev] at hx
          generalize hax : a.eval x = ax at *
          cases hx with
          | eptr _ _ _ _ ad hc ht hh =>
            refine fin h1 rfl h (.eptr id tot j _ _ hc ht (fun sz xs hs hl => ?_))
            rw [hh sz xs hs hl, add_addr, Nat.add_assoc]
        · rename_i cs h1 hev
          rw [hev] at hx
          obtain ⟨b, off, hp, hc, hb⟩ := hx.inv_pto
          refine fin h1 hp h ?_
          rw [add_addr]
          refine .p _ _ (.pto _ b _ (fun hne => hb (fun e => hne (by rw [e]; simp))) (hc.drop _))
        · exact h.elim
      · exact h.elim
    · cases hf
  · exact h.elim

theorem ok_indexAddr {t : Nat} {x ix : Operand} (ho : o.op = .indexAddr t x ix) (h : aop P (.indexAddr t x ix) e s K) (c : Cx w g σ s T N) (hT : ∀ id, id ∈ ids (ev e x) → T id) (he : EnvR w g σ e a.tmps) : OpOk P o a w (Rs w g σ s T K) := by
  simp only [aop] at h
  have hx := ev_rep he x
  have hi := ev_rep he ix
  split at h
  · rename_i k i hevi
    rw [hevi] at hi
    have hi := hi.inv_int
    split at h
    · rename_i n el id off hd hev
      have hu := und hd (by simp)
      rw [hev] at hx
      obtain ⟨hp, hc, hb⟩ := hx.inv_ref
      split at h
      · rename_i inf hinf
        unfold Ob at h
        obtain ⟨⟨h0, h1⟩, hk⟩ := h
        refine .value (v := .pointer (some ((⟨g.ι id, off, none⟩ : Addr).add (i.toNat * inf.size)))) (w' := w) ?_ (.pure c hk (by rw [add_addr]; exact .ref id _ hc hb))
        simp [execOp, ho, Instr.indexAt, hi, asIntOf, underlying, hu, hp, Instr.sureAddr, h0, h1, sizeOf, typeInfo, hinf]
      · exact h.elim
    · rename_i el k' sz xs hd hev
      have hu := und hd (by simp)
      rw [hev] at hx
      split at h
      · rename_i inf hinf
        split at h
        · rename_i hsz
          have hsz := Nat.eq_of_beq_eq_true hsz
          unfold Idx at h
          obtain ⟨h0, y, hy, hk⟩ := h
          generalize hax : a.eval x = ax at *
          cases hx.inv_p with
          | nil => simp at hy
          | sl _ _ _ b off cap hk' hc hl hs hb hcells =>
            have hlt : i.toNat < xs.length := (List.getElem?_eq_some_iff.1 hy).1
            refine .value (v := .pointer (some ((⟨b, off, none⟩ : Addr).add (i.toNat * inf.size)))) (w' := w) ?_ (.pure c hk ?_)
            · have h1 : i < (xs.length : Int) := by omega
              simp [execOp, ho, hax, Instr.indexAt, hi, asIntOf, underlying, hu, h0, h1, sizeOf, typeInfo, hinf]
            · rw [add_addr, hsz]
              have hd' := flat_drop hs hy
              have hne : ∀ q : y.cells ≠ [], flat xs ≠ [] := fun q e => by
                rw [e] at hd'; simp at hd'; exact q hd'.1
              have := (hcells.drop (i.toNat * sz)).take y.cells.length
              rw [hd', List.take_left' rfl] at this
              exact .p _ _ (.pto _ b _ (fun q => hb (hne q)) this)
        · exact h.elim
      · exact h.elim
    · rename_i el id tot off len hd hev
      have hu := und hd (by simp)
      rw [hev] at hx
      split at h
      · rename_i inf sz xs hinf hg
        split at h
        · rename_i hsz
          have hsz := Nat.eq_of_beq_eq_true hsz
          unfold Ob at h
          obtain ⟨⟨ht, h0, h1⟩, hk⟩ := h
          have hs : σ id = some (.buf sz xs) := (c.agree id (hT id (by rw [hev]; simp [ids, ids1]))).trans hg
          obtain ⟨ad, cap, ⟨hy, _⟩, hC, htt, hd'⟩ := hx.inv_osl
          obtain ⟨q1, q2, q3⟩ := hd' _ _ hs ht
          obtain ⟨rfl, _⟩ := q3 (by omega)
          refine .value (v := .pointer (some ((⟨g.ι id, off * sz, none⟩ : Addr).add (i.toNat * inf.size)))) (w' := w) ?_ (.pure c hk ?_)
          · simp [execOp, ho, hy, Instr.indexAt, hi, asIntOf, underlying, hu, h0, h1, sizeOf, typeInfo, hinf]
          · rw [add_addr, hsz]
            refine .eptr id tot _ _ _ hC htt (fun sz' xs' hs' hl' => ?_)
            rw [hs] at hs'; cases hs'
            rw [Nat.add_mul, Nat.add_zero]
        · exact h.elim
      · exact h.elim
    · exact h.elim
  · exact h.elim

theorem ok_index {t : Nat} {x ix : Operand} (ho : o.op = .index t x ix) (h : aop P (.index t x ix) e s K) (c : Cx w g σ s T N) (he : EnvR w g σ e a.tmps) : OpOk P o a w (Rs w g σ s T K) := by
  simp only [aop] at h
  have hx := ev_rep he x
  have hi := ev_rep he ix
  split at h
  · rename_i k i hevi
    rw [hevi] at hi
    have hi := hi.inv_int
    split at h
    · rename_i l hd hev
      have hu := und hd (by simp)
      rw [hev] at hx
      obtain ⟨b, hb, rfl⟩ := hx.inv_str
      unfold IdxB at h
      obtain ⟨h0, y, hy, hk⟩ := h
      refine .value (v := .int .u8 y.toNat) (w' := w) ?_ (.pure c hk (.mkInt _ _))
      have hlt : i.toNat < b.size := by have := (List.getElem?_eq_some_iff.1 hy).1; simpa using this
      have hby : b[i.toNat]? = some y := by
        rw [getElem?_pos b i.toNat hlt]
        have : b[i.toNat] = b.data.toList[i.toNat]'(by simpa using hlt) := by simp [ByteArray.getElem_eq_getElem_data]
        rw [this, ← hy]; simp [hlt]
      simp [execOp, ho, Instr.index, hi, asIntOf, underlying, hu, hb, h0, hby]
    · rename_i n el cs hd hev
      have hu := und hd (by simp)
      rw [hev] at hx
      split at h
      · rename_i hkd
        unfold Ob Idx at h
        obtain ⟨h1, h0, y, hy, hk⟩ := h
        generalize hax : a.eval x = ax at *
        cases hx.inv_p with
        | agg _ xs hs =>
          obtain ⟨z, hz, hr⟩ := hs.get hy
          refine .value (v := z) (w' := w) ?_ (.pure c hk (.p _ _ hr))
          unfold kd at hkd
          split at hkd
          · rename_i d inf hde hinf
            simp only [Option.some.injEq, Prod.mk.injEq] at hkd
            obtain ⟨p1, p2⟩ := part_run (P := P) (w := w) hde hinf xs i.toNat
            simp [execOp, ho, hax, Instr.index, hi, asIntOf, underlying, hu, h0, h1, sizeOf, typeInfo, hinf, hkd.2, p2 hkd.1 z hz]
          · cases hkd
      · exact h.elim
    · exact h.elim
  · exact h.elim

theorem ok_range {t : Nat} {x : Operand} (ho : o.op = .range t x) (h : aop P (.range t x) e s K) (hN : ∀ v s', K v s' → s.length < s'.length → N) (c : Cx w g σ s T N) (he : EnvR w g σ e a.tmps) : OpOk P o a w (Rs w g σ s T K) := by
  simp only [aop] at h
  have hx := ev_rep he x
  split at h
  · rename_i l hd hev
    have hu := und hd (by simp)
    rw [hev] at hx
    rw [snoc_eq] at h
    obtain ⟨b, hb, rfl⟩ := hx.inv_str
    have m := More.alloc w (.stringIter b 0)
    refine .value (v := .pointer (some ⟨w.heap.size, 0, none⟩)) (w' := w.alloc (.stringIter b 0)) ?_ ?_
    · simp [execOp, ho, Instr.range, underlying, hu, hb]
    · refine Rs.new c m (o := .iterS b.data.toList 0) (.iterS _ 0 b (by simp) (by omega) m.at) ?_ h (hN _ _ h (by simp))
      have := RepA.it (w := w.alloc (.stringIter b 0)) (g := g.new s.length w.heap.size) (σ := σ.put s.length (.iterS b.data.toList 0)) s.length (.inr rfl) (by simp [St.put])
      simpa [G.new] using this
  · exact h.elim

theorem ok_next {x : Operand} {isS : Bool} (ho : o.op = .next x isS) (h : aop P (.next x isS) e s K) (c : Cx w g σ s T N) (hT : ∀ id, id ∈ ids (ev e x) → T id) (he : EnvR w g σ e a.tmps) : OpOk P o a w (Rs w g σ s T K) := by
  simp only [aop] at h
  have hx := ev_rep he x
  split at h
  · rename_i id hev
    rw [hev] at hx
    obtain ⟨hp, hC⟩ := hx.inv_it
    split at h
    · rename_i rest pos hg
      have hTi := hT id (by rw [hev]; simp [ids, ids1])
      have hs : σ id = some (.iterS rest pos) := (c.agree id hTi).trans hg
      rw [setK_eq] at h
      unfold BrL at h
      cases c.inv.rep _ _ hs with
      | iterS _ _ b hb hpos hw =>
        by_cases hne : rest = []
        · have hk := h.1 hne
          have hge : ¬ pos < b.size := by
            intro hlt
            rw [hne] at hb
            have := congrArg List.length hb; simp at this; omega
          refine .value (v := .tuple #[.bool false]) (w' := w) ?_ (.pure c hk (.tup _ [_] (.cons _ _ _ _ (.mkBool _) .nil)))
          simp [execOp, ho, Instr.next, hp, getObj, Sem.run, hw, hge]
        · have hk := h.2 hne
          have hlt : pos < b.size := by
            refine Nat.lt_of_not_le (fun hle => hne ?_)
            rw [← hb]; exact List.drop_eq_nil_of_le (by simpa using hle)
          have hdec : Utf8.decode b pos = decode rest := by rw [← hb, decode_drop]
          refine .value (v := .tuple #[.bool true, .int .i64 pos, .int .i32 (decode rest).1]) (w' := { w with heap := w.heap.setIfInBounds (g.ι id) (.stringIter b (pos + (decode rest).2)) }) ?_ ?_
          · simp [execOp, ho, Instr.next, hp, getObj, setObj, Sem.run, hw, hlt, hdec, goInt]
          · have hsz := (c.inv.lies _ _ hs).1
            have hat : (w.heap.setIfInBounds (g.ι id) (.stringIter b (pos + (decode rest).2)))[g.ι id]? = some (.stringIter b (pos + (decode rest).2)) := by simp [hsz]
            refine Rs.set c hTi hg (o' := .iterS (rest.drop (decode rest).2) (pos + (decode rest).2)) trivial ⟨by simp, rfl, rfl, rfl, fun k hk' => ?_, ?_⟩ (fun hx => ?_) (fun hx => ?_) hk
            · simp [Array.getElem?_setIfInBounds_ne (Ne.symm hk')]
            · simp [World.shape?, hat, hw]
            · refine .iterS _ _ b (by rw [← hb, List.drop_drop]) ?_ hat
              -- the width stays inside
              have : pos + (Utf8.decode b pos).2 ≤ b.size := by
                unfold Utf8.decode
                simp only []
                repeat' split
                all_goals simp_all
                all_goals omega
              rw [← hdec]; exact this
            · exact .tup _ [_, _, _] (.cons _ _ _ _ (.mkBool _) (.cons _ _ _ _ (.mkInt _ _) (.cons _ _ _ _ (.mkInt _ _) .nil)))
    · exact h.elim
  · exact h.elim

theorem zeroT_run {t : Nat} {z : PV} (hz : zeroT P t = some z) : ∃ v, (zeroValue t).run P w = .ok v w ∧ RepA w g σ (.p z) v ∧ (∃ i, P.info? t = some i ∧ i.zero = some v) := by
  unfold zeroT at hz
  split at hz
  · rename_i i hi
    split at hz
    · rename_i v hv
      exact ⟨v, by simp [zeroValue, typeInfo, hi, hv], .p _ _ ((absP_rep w _ 200).1 v z hz), i, hi, hv⟩
    · cases hz
  · cases hz

theorem ok_typeAssert {x : Operand} {u t : Nat} {ok : Bool} (ho : o.op = .typeAssert x u t ok) (h : aop P (.typeAssert x u t ok) e s K) (c : Cx w g σ s T N) (he : EnvR w g σ e a.tmps) : OpOk P o a w (Rs w g σ s T K) := by
  simp only [aop] at h
  have hx := ev_rep he x
  split at h
  · exact h.elim
  · exact h.elim
  · rename_i d hni hd
    have hnot : ∀ ms, d ≠ .interface ms := fun ms e => hni ms (by rw [e])
    have yes : ∀ {v : PV} {y : Value}, a.eval x = .iface t y → RepP w (Lv g σ) v y → (ok = true → K (.tup [.p v, .p (.bool true)]) s) → (ok = false → K (.p v) s) → OpOk P o a w (Rs w g σ s T K) := by
      intro v y hp hr h1 h2
      cases hb : ok with
      | true =>
        refine .value (v := .tuple #[y, .bool true]) (w' := w) ?_ (.pure c (h1 hb) (.tup _ [_, _] (.cons _ _ _ _ (.p _ _ hr) (.cons _ _ _ _ (.mkBool _) .nil))))
        subst hb
        cases d <;> first | exact absurd rfl (hnot _) | simp [execOp, ho, Instr.typeAssert, underlying, hd, hp]
      | false =>
        refine .value (v := y) (w' := w) ?_ (.pure c (h2 hb) (.p _ _ hr))
        subst hb
        cases d <;> first | exact absurd rfl (hnot _) | simp [execOp, ho, Instr.typeAssert, underlying, hd, hp]
    have no : ∀ {z : PV}, ok = true → (a.eval x = .nilIface ∨ ∃ t' y, a.eval x = .iface t' y ∧ t' ≠ t) → zeroT P t = some z → K (.tup [.p z, .p (.bool false)]) s → OpOk P o a w (Rs w g σ s T K) := by
      intro z hb hp hz hk
      obtain ⟨v, hv, hr, _⟩ := zeroT_run (w := w) (g := g) (σ := σ) hz
      refine .value (v := .tuple #[v, .bool false]) (w' := w) ?_ (.pure c hk (.tup _ [_, _] (.cons _ _ _ _ hr (.cons _ _ _ _ (.mkBool _) .nil))))
      subst hb
      rcases hp with hp | ⟨t', y, hp, hne⟩
      · cases d <;> first | exact absurd rfl (hnot _) | simp [execOp, ho, Instr.typeAssert, underlying, hd, hp, hv]
      · cases d <;> first | exact absurd rfl (hnot _) | simp [execOp, ho, Instr.typeAssert, underlying, hd, hp, hv, hne]
    split at h
    · rename_i t' v hev
      rw [hev] at hx
      have : ∃ y, a.eval x = .iface t' y ∧ RepP w (Lv g σ) v y := by
        generalize a.eval x = ax at *
        cases hx.inv_p; exact ⟨_, rfl, by assumption⟩
      obtain ⟨y, hp, hr⟩ := this
      split at h
      · rename_i hb
        have := Nat.eq_of_beq_eq_true hb; subst this
        exact yes hp hr (fun _ => h) (fun q => by cases q)
      · rename_i hb
        have := Nat.eq_of_beq_eq_true hb; subst this
        exact yes hp hr (fun q => by cases q) (fun _ => h)
      · rename_i hb
        split at h
        · rename_i z hz; exact no rfl (.inr ⟨t', y, hp, fun e => by subst e; simp at hb⟩) hz h
        · exact h.elim
      · exact h.elim
    · rename_i hev
      rw [hev] at hx
      split at h
      · rename_i z hz; exact no rfl (.inl hx.inv_lit.1) hz h
      · exact h.elim
    · exact h.elim
end ops
end Go.Proofs.Ytfjolephpghafaa.AW
