import Derived.Test.YtfjolephpghafaaAwOps5
namespace Go.Proofs.Ytfjolephpghafaa.AW
section ops
variable {P : Program} {o : Oper} {e : Env} {s : Store} {K : AV → Store → Prop} {w : World} {g : G} {σ : St} {a : Act} {T : Nat → Prop} {N : Prop}

theorem sb_run (isS : Bool) (len cap : Nat) (lo hi : Option Value) (i j : Int) (hlo : (lo = none ∧ i = 0) ∨ ∃ k, lo = some (.int k i)) (hhi : (hi = none ∧ j = len) ∨ ∃ k, hi = some (.int k j))
    (h0 : 0 ≤ i) (h1 : i ≤ j) (h2 : j ≤ cap) : (Instr.sliceBounds isS len cap lo hi none).run P w = .ok (i.toNat, j.toNat, cap) w := by
  have hj : i ≤ (j.toNat : Int) := by omega
  have hj0 : 0 ≤ j := by omega
  rcases hlo with ⟨rfl, rfl⟩ | ⟨k, rfl⟩ <;> rcases hhi with ⟨rfl, rfl⟩ | ⟨k', rfl⟩
  · simp [Instr.sliceBounds]
  · simp [Instr.sliceBounds, run_sliceBound, hj0, h2]
  · simp [Instr.sliceBounds, run_sliceBound, h0, h1]
  · have e1 := fun code => run_sliceBound (P := P) (w := w) k i j.toNat code h0 hj
    simp [Instr.sliceBounds, run_sliceBound, hj0, h2, e1]

theorem sb_run3 (isS : Bool) (len cap : Nat) (lo : Option Value) (i j m : Int) (k' k'' : IntKind) (hlo : (lo = none ∧ i = 0) ∨ ∃ k, lo = some (.int k i))
    (h0 : 0 ≤ i) (h1 : i ≤ j) (h2 : j ≤ m) (h3 : m ≤ cap) : (Instr.sliceBounds isS len cap lo (some (.int k' j)) (some (.int k'' m))).run P w = .ok (i.toNat, j.toNat, m.toNat) w := by
  have hj : i ≤ (j.toNat : Int) := by omega
  have hj0 : 0 ≤ j := by omega
  have hm0 : 0 ≤ m := by omega
  have hjm : j ≤ (m.toNat : Int) := by omega
  rcases hlo with ⟨rfl, rfl⟩ | ⟨k, rfl⟩
  · have e2 := fun code => run_sliceBound (P := P) (w := w) k' j m.toNat code hj0 hjm
    simp [Instr.sliceBounds, run_sliceBound, hm0, h3, e2]
  · have e1 := fun code => run_sliceBound (P := P) (w := w) k i j.toNat code h0 hj
    have e2 := fun code => run_sliceBound (P := P) (w := w) k' j m.toNat code hj0 hjm
    simp [Instr.sliceBounds, run_sliceBound, hm0, h3, e1, e2]

theorem cutK_ne {k : SK} (h : k ≠ .nil) : cutK k ≠ .nil := by cases k <;> simp_all [cutK]
theorem capK_ne {k : SK} (h : k ≠ .nil) : capK k ≠ .nil := by cases k <;> simp_all [capK]
theorem cutK_clip (k : SK) : cutK k ≠ .clip := by cases k <;> simp [cutK]

theorem bnd_rep {x : Option Operand} {d : Int} {K' : Int → Prop} (he : EnvR w g σ e a.tmps) (h : bnd e x d K') : ∃ i, K' i ∧ ((x = none ∧ x.map a.eval = none ∧ i = d) ∨ (x ≠ none ∧ ∃ k, x.map a.eval = some (.int k i))) := by
  unfold bnd at h
  split at h
  · exact ⟨d, h, .inl ⟨rfl, rfl, rfl⟩⟩
  · rename_i y
    have hy := ev_rep he y
    split at h
    · rename_i k n hev
      rw [hev] at hy
      exact ⟨n, h, .inr ⟨by simp, k, by simp [hy.inv_int]⟩⟩
    · exact h.elim

theorem ok_slice {t : Nat} {x : Operand} {lo hi mx : Option Operand} (ho : o.op = .slice t x lo hi mx) (h : aop P (.slice t x lo hi mx) e s K) (c : Cx w g σ s T N) (hT : ∀ id, id ∈ ids (ev e x) → T id) (he : EnvR w g σ e a.tmps) : OpOk P o a w (Rs w g σ s T K) := by
  simp only [aop, sliceA] at h
  have hx := ev_rep he x
  split at h
  · rename_i hd
    have hu := und hd (by simp)
    split at h
    · rename_i l hev
      rw [hev] at hx
      obtain ⟨b, hb, rfl⟩ := hx.inv_str
      obtain ⟨i, h, hi'⟩ := bnd_rep (a := a) he h
      obtain ⟨j, h, hj'⟩ := bnd_rep (a := a) he h
      unfold Ob at h
      obtain ⟨⟨h0, h1, h2⟩, hk⟩ := h
      have hlen : (b.data.toList.length : Int) = b.size := by simp
      rw [hlen] at h2 hj'
      have hsb := sb_run (P := P) (w := w) false b.size b.size (lo.map a.eval) (hi.map a.eval) i j
        (by rcases hi' with ⟨_, q1, q2⟩ | ⟨_, k, q⟩ <;> first | exact .inl ⟨q1, q2⟩ | exact .inr ⟨k, q⟩) (by rcases hj' with ⟨_, q1, q2⟩ | ⟨_, k, q⟩ <;> first | exact .inl ⟨q1, q2⟩ | exact .inr ⟨k, q⟩) h0 h1 h2
      refine .value (v := .string (b.extract i.toNat j.toNat)) (w' := w) ?_ (.pure c hk (.p _ _ ?_))
      · simp [execOp, ho, Instr.sliceAt, Instr.slice, underlying, hu, hb, hsb]
      · have := RepP.str (w := w) (B := Lv g σ) (b.extract i.toNat j.toNat)
        have e1 : (b.extract i.toNat j.toNat).data.toList = (b.data.toList.take j.toNat).drop i.toNat := by
          rw [ByteArray.data_extract]; simp [List.drop_take]
        rw [e1] at this; exact this
    · exact h.elim
  · rename_i el hd
    have hu := und hd (by simp)
    split at h
    · exact h.elim
    · rename_i inf hinf
      split at h
      · rename_i k sz xs hev
        rw [hev] at hx
        generalize hax : a.eval x = ax at *
        split at h
        · exact h.elim
        · rename_i hsz
          obtain ⟨i, h, hi'⟩ := bnd_rep (a := a) he h
          obtain ⟨j, h, hj'⟩ := bnd_rep (a := a) he h
          have hlo : (lo.map a.eval = none ∧ i = 0) ∨ ∃ k, lo.map a.eval = some (.int k i) := by
            rcases hi' with ⟨_, q1, q2⟩ | ⟨_, k, q⟩ <;> first | exact .inl ⟨q1, q2⟩ | exact .inr ⟨k, q⟩
          have hhi : (hi.map a.eval = none ∧ j = xs.length) ∨ ∃ k, hi.map a.eval = some (.int k j) := by
            rcases hj' with ⟨_, q1, q2⟩ | ⟨_, k, q⟩ <;> first | exact .inl ⟨q1, q2⟩ | exact .inr ⟨k, q⟩
          -- one cut, whatever the bounds
          have cut : ∀ (k2 : SK) (m : Nat → Int), (k = .nil → k2 = .nil) → (k ≠ .nil → k2 ≠ .nil) → 0 ≤ i → i ≤ j → j ≤ xs.length →
              (∀ cap, xs.length ≤ cap → (k = .clip → cap = xs.length) → j ≤ m cap ∧ m cap ≤ cap ∧ (k2 = .clip → m cap = j) ∧ (Instr.sliceBounds true xs.length cap (lo.map a.eval) (hi.map a.eval) (mx.map a.eval)).run P w = .ok (i.toNat, j.toNat, (m cap).toNat) w) →
              K (.p (.sl k2 sz ((xs.take j.toNat).drop i.toNat))) s → OpOk P o a w (Rs w g σ s T K) := by
            intro k2 m hk1 hk2 h0 h1 h2 hm hk
            cases hx.inv_p with
            | nil =>
              obtain ⟨q1, q2, q3, q4⟩ := hm 0 (by simp) (fun q => by cases q)
              simp only [List.length_nil] at q4 h2
              have hi0 : i = 0 := by simp at h2; omega
              have hj0 : j = 0 := by simp at h2; omega
              subst hi0; subst hj0
              have hm0 : (m 0).toNat = 0 := by omega
              rw [hm0] at q4
              rw [hk1 rfl] at hk
              refine .value (v := .slice none 0 0) (w' := w) ?_ (.pure c hk (.p _ _ (by simpa using RepP.nil sz)))
              simp only [Int.toNat_zero] at q4
              simp [execOp, ho, hax, Instr.sliceAt, Instr.slice, underlying, hu, q4, sizeOf, typeInfo, hinf]
            | sl _ _ _ b off cap hk' hc hl hs hb hcells =>
              obtain ⟨q1, q2, q3, q4⟩ := hm cap hl hc
              have hsz' : inf.size = sz := by
                have : (k == SK.nil) = false := by simpa using hk'
                rw [this, Bool.false_or] at hsz
                exact Nat.eq_of_beq_eq_true hsz
              have hnl : ((xs.take j.toNat).drop i.toNat).length = j.toNat - i.toNat := by simp; omega
              have hmem : ∀ z, z ∈ (xs.take j.toNat).drop i.toNat → El sz z := fun z hz => hs z (List.mem_of_mem_take (List.mem_of_mem_drop hz))
              have hfl : flat ((xs.take j.toNat).drop i.toNat) = ((flat xs).take (j.toNat * sz)).drop (i.toNat * sz) := by
                rw [flat_dropN _ _ (fun z hz => hs z (List.mem_of_mem_take hz)), flat_takeN _ _ hs]
              have hcut : CellsP w (Lv g σ) b (off + i.toNat * sz) (flat ((xs.take j.toNat).drop i.toNat)) := by
                rw [hfl]; exact (hcells.take _).drop _
              have hne : flat ((xs.take j.toNat).drop i.toNat) ≠ [] → ¬ Lv g σ b := fun q => hb (fun e => q (by rw [hfl, e]; simp))
              refine .value (v := .slice (some (if (m cap).toNat = i.toNat then ⟨b, off, none⟩ else (⟨b, off, none⟩ : Addr).add (i.toNat * inf.size))) (j.toNat - i.toNat) ((m cap).toNat - i.toNat)) (w' := w) ?_ (.pure c hk (.p _ _ ?_))
              · simp only [execOp, ho, hax, Instr.sliceAt, Instr.slice, underlying, run_program, Sem.run_bind, hu, Result.andThen_ok, Sem.run_pure, q4, sizeOf, typeInfo, hinf]
                split <;> simp
              · rw [← hnl]
                split
                · rename_i hmi
                  have hz : (xs.take j.toNat).drop i.toNat = [] := List.eq_nil_of_length_eq_zero (by rw [hnl]; omega)
                  have := RepP.sl (w := w) (B := Lv g σ) k2 sz ((xs.take j.toNat).drop i.toNat) b off ((m cap).toNat - i.toNat) (hk2 hk') (fun q => by rw [hnl, q3 q]) (by rw [hnl]; omega) hmem hne (by rw [hz]; exact .nil _ _)
                  exact this
                · rw [add_addr, hsz']
                  exact .sl k2 sz _ b _ _ (hk2 hk') (fun q => by rw [hnl, q3 q]) (by rw [hnl]; omega) hmem hne hcut
          split at h
          · unfold Ob at h
            obtain ⟨⟨h0, h1⟩, hk⟩ := h
            have hj : j = xs.length := by rcases hj' with ⟨_, _, q⟩ | ⟨q, _⟩ <;> first | exact q | exact absurd rfl q
            refine cut k (fun cap => cap) (fun q => q) (fun q => q) h0 h1 (by omega) (fun cap hc1 hc2 => ⟨by omega, by omega, fun q => by rw [hc2 q, hj], ?_⟩) ?_
            · have := sb_run (P := P) (w := w) true xs.length cap (lo.map a.eval) none i j hlo (.inl ⟨rfl, hj⟩) h0 h1 (by omega)
              simpa using this
            · have : xs.take j.toNat = xs := List.take_of_length_le (by omega)
              rw [this]; exact hk
          · unfold Ob at h
            obtain ⟨⟨h0, h1, h2⟩, hk⟩ := h
            refine cut (cutK k) (fun cap => cap) (fun q => by rw [q]; rfl) (fun q => cutK_ne q) h0 h1 h2 (fun cap hc1 hc2 => ⟨by omega, by omega, (fun q => absurd q (cutK_clip k)), ?_⟩) hk
            have := sb_run (P := P) (w := w) true xs.length cap (lo.map a.eval) _ i j hlo hhi h0 h1 (by omega)
            simpa using this
          · obtain ⟨m, h, hm'⟩ := bnd_rep (a := a) he h
            unfold Ob at h
            obtain ⟨⟨h0, h1, hbm, h2⟩, hk⟩ := h
            subst hbm
            rcases hj' with ⟨q, _⟩ | ⟨_, k1, hk1⟩
            · cases q
            rcases hm' with ⟨q, _⟩ | ⟨_, k3, hk3⟩
            · cases q
            refine cut (capK k) (fun _ => j) (fun q => by rw [q]; rfl) (fun q => capK_ne q) h0 h1 h2 (fun cap hc1 hc2 => ⟨by omega, by omega, fun _ => rfl, ?_⟩) hk
            rw [hk1, hk3]
            exact sb_run3 (P := P) (w := w) true xs.length cap (lo.map a.eval) i j j k1 k3 hlo h0 h1 (by omega) (by omega)
          · exact h.elim
      · rename_i id tot off len hev
        rw [hev] at hx
        split at h
        · rename_i sz xs hg
          split at h
          · rename_i hsz
            have hsz := Nat.eq_of_beq_eq_true hsz
            obtain ⟨i, h, hi'⟩ := bnd_rep (a := a) he h
            obtain ⟨j, h, hj'⟩ := bnd_rep (a := a) he h
            unfold Ob at h
            obtain ⟨⟨ht, h0, h1, h2⟩, hk⟩ := h
            have hs : σ id = some (.buf sz xs) := (c.agree id (hT id (by rw [hev]; simp [ids, ids1]))).trans hg
            obtain ⟨ad, cap, ⟨hy, hsp⟩, hC, htt, hd'⟩ := hx.inv_osl
            obtain ⟨q1, q2, q3⟩ := hd' _ _ hs ht
            have hsb := sb_run (P := P) (w := w) true len cap (lo.map a.eval) (hi.map a.eval) i j
              (by rcases hi' with ⟨_, q1, q2⟩ | ⟨_, k, q⟩ <;> first | exact .inl ⟨q1, q2⟩ | exact .inr ⟨k, q⟩) (by rcases hj' with ⟨_, q1, q2⟩ | ⟨_, k, q⟩ <;> first | exact .inl ⟨q1, q2⟩ | exact .inr ⟨k, q⟩) h0 h1 (by omega)
            refine .value (v := .slice (some (if cap = i.toNat then ad else ad.add (i.toNat * inf.size))) (j.toNat - i.toNat) (cap - i.toNat)) (w' := w) ?_ (.pure c hk ?_)
            · simp only [execOp, ho, hy, Instr.sliceAt, Instr.slice, underlying, run_program, Sem.run_bind, hu, Result.andThen_ok, Sem.run_pure, Option.map_none, hsb, sizeOf, typeInfo, hinf]
              split <;> simp
            · rw [show j.toNat - i.toNat = (j - i).toNat by omega]
              refine .osl id tot _ _ _ _ (by split <;> first | exact hsp | (unfold Addr.add; split <;> first | exact hsp | rfl)) hC htt (fun sz' xs' hs' hl' => ?_)
              rw [hs] at hs'; cases hs'
              refine ⟨by omega, by omega, fun hc0 => ?_⟩
              have hcap : ¬ cap = i.toNat := by omega
              obtain ⟨rfl, hroom⟩ := q3 (by omega)
              refine ⟨?_, ?_⟩
              · rw [if_neg hcap, add_addr, hsz, Nat.add_mul]
              · rw [show off + i.toNat + (cap - i.toNat) = off + cap by omega]; exact hroom
          · exact h.elim
        · exact h.elim
      · exact h.elim
  · exact h.elim
end ops
end Go.Proofs.Ytfjolephpghafaa.AW
