import Derived.Test.YtfjolephpghafaaAwOps2
namespace Go.Proofs.Ytfjolephpghafaa.AW

theorem i64max : IntKind.i64.max = 9223372036854775807 := by decide

theorem part_run {P : Program} {w : World} {t : Nat} {d : TypeDesc} {i : TypeInfo} (hd : P.underlying t = some d) (hi : P.info? t = some i) (xs : List Value) (off : Nat) :
    (aggD d = true → (part t xs.toArray off).run P w = .ok (.agg ((xs.drop off).take i.size).toArray) w) ∧
    (aggD d = false → ∀ x, xs[off]? = some x → (part t xs.toArray off).run P w = .ok x w) := by
  have hagg : (isAgg t).run P w = .ok (aggD d) w := by
    simp [isAgg, underlying, hd]
    cases d <;> simp [aggD]
  refine ⟨fun hb => ?_, fun hb x hx => ?_⟩
  · simp [part, hagg, hb, sizeOf, typeInfo, hi]
  · simp [part, hagg, hb, hx]

/-- A value of a type, out of its cells. -/
def valD (d : TypeDesc) (xs : List Value) : Option Value := match aggD d with | true => some (.agg xs.toArray) | false => xs.head?

theorem eqT_sound {P : Program} (w : World) (B : Nat → Prop) : ∀ d,
    (∀ t cs ds xs ys b D, eqT P d t cs ds = some b → eqTy P D t = true → RepPs w B cs xs → RepPs w B ds ys →
      ∀ dd, P.underlying t = some dd → ∃ x y, valD dd xs = some x ∧ valD dd ys = some y ∧ ∀ n, D ≤ n → (Op.equalIn n t x y).run P w = .ok b w) ∧
    (∀ fs cs ds xs ys b D, eqF P d fs cs ds = some b → fs.all (fun f => f.name != "_" && eqTy P D f.type) = true → RepPs w B cs xs → RepPs w B ds ys →
      ∀ n, D ≤ n → (Op.eqFields n xs.toArray ys.toArray fs).run P w = .ok b w) := by
  intro d
  induction d with
  | zero => exact ⟨fun t cs ds xs ys b D h => by simp [eqT] at h, fun fs cs ds xs ys b D h => by simp [eqF] at h⟩
  | succ d ih =>
    refine ⟨fun t cs ds xs ys b D h hty hx hy dd hdd => ?_, fun fs cs ds xs ys b D h hty hx hy n hn => ?_⟩
    · cases D with
      | zero => simp [eqTy] at hty
      | succ D =>
        simp only [eqT, hdd] at h
        cases dd <;> simp only [] at h <;> try (cases h)
        case bool =>
          split at h
          · cases h
            cases hx with | cons _ x _ xs hx hxs => cases hy with | cons _ y _ ys hy hys =>
            cases hx; cases hy
            refine ⟨_, _, rfl, rfl, fun n hn => ?_⟩
            obtain ⟨n, rfl⟩ : ∃ m, n = m + 1 := ⟨n - 1, by omega⟩
            exact run_equalIn_bool' w n t _ _ hdd
          · cases h
        case int k0 =>
          split at h
          · split at h
            · rename_i hk
              cases h
              have hk := of_decide_eq_true hk
              subst hk
              cases hx with | cons _ x _ xs hx hxs => cases hy with | cons _ y _ ys hy hys =>
              cases hx; cases hy
              refine ⟨_, _, rfl, rfl, fun n hn => ?_⟩
              obtain ⟨n, rfl⟩ : ∃ m, n = m + 1 := ⟨n - 1, by omega⟩
              exact run_equalIn_int w n t _ _ _ _ hdd
            · cases h
          · cases h
        case string =>
          split at h
          · cases h
            cases hx with | cons _ x _ xs hx hxs => cases hy with | cons _ y _ ys hy hys =>
            cases hx with | str x => cases hy with | str y =>
            refine ⟨_, _, rfl, rfl, fun n hn => ?_⟩
            obtain ⟨n, rfl⟩ : ∃ m, n = m + 1 := ⟨n - 1, by omega⟩
            rw [run_equalIn_string w n t _ _ hdd, ByteArray.toList_eq, ByteArray.toList_eq]
          · cases h
        case struct fs =>
          simp only [eqTy, hdd, Bool.and_eq_true, Bool.not_eq_true'] at hty
          refine ⟨_, _, rfl, rfl, fun n hn => ?_⟩
          obtain ⟨n, rfl⟩ : ∃ m, n = m + 1 := ⟨n - 1, by omega⟩
          have hf : P.fieldsOf t = fs := by simp [Program.fieldsOf, hdd]
          rw [run_equalIn_struct w n t _ _ (by rw [hf]; exact hdd) hty.1, hf]
          exact ih.2 fs.toList cs ds xs ys b D h hty.2 hx hy n (by omega)
    · cases fs with
      | nil => simp [eqF] at h; subst h; simp [Op.eqFields]
      | cons f r =>
        simp only [eqF] at h
        split at h
        · rename_i i hi
          split at h
          · rename_i a b' ha hb
            cases h
            simp only [List.all_cons, Bool.and_eq_true] at hty
            obtain ⟨⟨hname, hf⟩, hr⟩ := hty
            have hname : f.name ≠ "_" := by simpa using hname
            -- the field's type
            cases hdd : P.underlying f.type with
            | none => cases d <;> simp [eqT, hdd] at ha
            | some dd =>
              obtain ⟨x, y, hx1, hy1, hrun⟩ := ih.1 f.type _ _ _ _ a D ha hf ((hx.drop f.offset).take i.size) ((hy.drop f.offset).take i.size) dd hdd
              have hp : ∀ (zs : List Value) (z : Value), valD dd ((zs.drop f.offset).take i.size) = some z → (part f.type zs.toArray f.offset).run P w = .ok z w := by
                intro zs z hz
                obtain ⟨p1, p2⟩ := part_run (w := w) hdd hi zs f.offset
                unfold valD at hz
                cases hb : aggD dd with
                | true => rw [hb] at hz; cases hz; exact p1 hb
                | false =>
                  rw [hb] at hz
                  refine p2 hb z ?_
                  simp only [List.head?_eq_getElem?, List.getElem?_take] at hz
                  split at hz
                  · simpa using hz
                  · cases hz
              have hn' := hrun n hn
              have hrest := ih.2 r cs ds xs ys b' D hb hr hx hy n hn
              simp only [Op.eqFields, if_pos hname, Sem.run_bind, hp _ _ hx1, hp _ _ hy1, Result.andThen_ok, hn']
              cases a
              · simp
              · simpa using hrest
          · cases h
        · cases h

section ops
variable {P : Program} {o : Oper} {e : Env} {s : Store} {K : AV → Store → Prop} {w : World} {g : G} {σ : St} {a : Act} {T : Nat → Prop} {N : Prop}

theorem intBin_run {op : BinOp} {t : Nat} {k k' : IntKind} {x y : Int} {K' : PV → Prop} (hk : (op ≠ .shl ∧ op ≠ .shr) → k = k') (h : intBin op k x y K') :
    ∃ v r, K' v ∧ (binOp op t (.int k x) (.int k' y)).run P w = .ok r w ∧ RepP w (Lv g σ) v r := by
  cases op
  case shl =>
    unfold intBin Ob at h
    obtain ⟨h0, hk'⟩ := h
    exact ⟨_, _, hk', by simp [binOp, Op.shift, Int.not_lt.2 h0], .int _ _⟩
  case shr =>
    unfold intBin Ob at h
    obtain ⟨h0, hk'⟩ := h
    exact ⟨_, _, hk', by simp [binOp, Op.shift, Int.not_lt.2 h0], .int _ _⟩
  all_goals
    obtain rfl := hk ⟨by decide, by decide⟩
    simp only [intBin] at h
  case quo => unfold Ob at h; exact ⟨_, _, h.2, by simp [binOp, Op.intDiv, h.1], .int _ _⟩
  case rem => unfold Ob at h; exact ⟨_, _, h.2, by simp [binOp, Op.intDiv, h.1], .int _ _⟩
  case add => exact ⟨_, _, h, by simp [binOp, Op.intArith], .int _ _⟩
  case sub => exact ⟨_, _, h, by simp [binOp, Op.intArith], .int _ _⟩
  case mul => exact ⟨_, _, h, by simp [binOp, Op.intArith], .int _ _⟩
  case and => exact ⟨_, _, h, by simp [binOp, Op.intBits, bits], .int _ _⟩
  case or => exact ⟨_, _, h, by simp [binOp, Op.intBits, bits], .int _ _⟩
  case xor => exact ⟨_, _, h, by simp [binOp, Op.intBits, bits], .int _ _⟩
  case andNot => exact ⟨_, _, h, by simp [binOp, Op.intBits, bits], .int _ _⟩
  all_goals exact ⟨_, _, h, by simp [binOp, Op.intCmp], .bool _⟩

theorem strBin_run {op : BinOp} {t : Nat} {x y : ByteArray} {K' : PV → Prop} (h : strBin op x.data.toList y.data.toList K') :
    ∃ v r, K' v ∧ (binOp op t (.string x) (.string y)).run P w = .ok r w ∧ RepP w (Lv g σ) v r := by
  cases op <;> simp only [strBin] at h <;> try exact h.elim
  case add =>
    unfold Ob at h
    refine ⟨_, .string (x ++ y), h.2, ?_, ?_⟩
    · have : ¬ (((x.size + y.size : Nat) : Int) > IntKind.i64.max) := by
        rw [i64max]
        have h1 : x.data.toList.length = x.size := by simp
        have h2 : y.data.toList.length = y.size := by simp
        have := h.1
        omega
      simp only [binOp, Op.stringOp, if_neg this, Sem.run_pure]
    · have := RepP.str (w := w) (B := Lv g σ) (x ++ y)
      simpa [ByteArray.data_append] using this
  all_goals
    refine ⟨_, _, h, ?_, .bool _⟩
    simp [binOp, Op.stringOp, ByteArray.toList_eq]

theorem eqGuard_c (op : BinOp) (t : Nat) (x y : Operand) (h : (isC x || isC y) = true) : (eqGuard op t x y .nilIface .nilIface).run P w = .ok () w := by
  cases x <;> cases y <;> simp [isC] at h <;> cases op <;> simp [eqGuard]
theorem equal_of {t : Nat} {q z : Value} {r : Result Bool} (h : ∀ d, (Op.equalIn (d + 1) t q z).run P w = r) : (Op.equal t q z).run P w = r := h 9999
theorem eqIn_ptr1 {t u : Nat} (hu : P.underlying t = some (.pointer u)) (c : Option Addr) (d : Nat) : (Op.equalIn (d + 1) t (.pointer none) (.pointer c)).run P w = .ok c.isNone w := by
  simp [Op.equalIn, underlying, hu]
theorem eqIn_ptr2 {t u : Nat} (hu : P.underlying t = some (.pointer u)) (c : Addr) (d : Nat) : (Op.equalIn (d + 1) t (.pointer (some c)) (.pointer none)).run P w = .ok false w := by
  simp [Op.equalIn, underlying, hu]
theorem eqIn_sl1 {t u : Nat} (hu : P.underlying t = some (.slice u)) (c : Option Addr) (l k l' k' : Nat) (d : Nat) : (Op.equalIn (d + 1) t (.slice none l k) (.slice c l' k')).run P w = .ok c.isNone w := by
  simp [Op.equalIn, underlying, hu]
theorem eqIn_sl2 {t u : Nat} (hu : P.underlying t = some (.slice u)) (c : Addr) (l k l' k' : Nat) (d : Nat) : (Op.equalIn (d + 1) t (.slice (some c) l k) (.slice none l' k')).run P w = .ok false w := by
  simp [Op.equalIn, underlying, hu]
theorem eqIn_if0 {t : Nat} {ms} (hu : P.underlying t = some (.interface ms)) (d : Nat) : (Op.equalIn (d + 1) t .nilIface .nilIface).run P w = .ok true w := by
  simp [Op.equalIn, underlying, hu]
theorem eqIn_if1 {t : Nat} {ms} (hu : P.underlying t = some (.interface ms)) (u : Nat) (v : Value) (d : Nat) : (Op.equalIn (d + 1) t .nilIface (.iface u v)).run P w = .ok false w := by
  simp [Op.equalIn, underlying, hu]
theorem eqIn_if2 {t : Nat} {ms} (hu : P.underlying t = some (.interface ms)) (u : Nat) (v : Value) (d : Nat) : (Op.equalIn (d + 1) t (.iface u v) .nilIface).run P w = .ok false w := by
  simp [Op.equalIn, underlying, hu]

theorem ok_binOp {op : BinOp} {t u : Nat} {x y : Operand} (ho : o.op = .binOp op t x y u) (h : aop P (.binOp op t x y u) e s K) (c : Cx w g σ s T N) (he : EnvR w g σ e a.tmps) : OpOk P o a w (Rs w g σ s T K) := by
  simp only [aop, binA] at h
  have hx := ev_rep he x
  have hy := ev_rep he y
  have fin : ∀ {v : AV} {r : Value}, K v s → (eqGuard op t x y (a.eval x) (a.eval y)).run P w = .ok () w → (binOp op t (a.eval x) (a.eval y)).run P w = .ok r w → RepA w g σ v r → OpOk P o a w (Rs w g σ s T K) := by
    intro v r hk hg hr hrep
    refine .value (v := r) (w' := w) ?_ (.pure c hk hrep)
    simp [execOp, ho, hg, hr]
  split at h
  · rename_i k m k' n hex hey
    rw [hex] at hx; rw [hey] at hy
    have hgd : (eqGuard op t x y (a.eval x) (a.eval y)).run P w = .ok () w := by
      rw [hx.inv_int, hy.inv_int]; cases op <;> simp [eqGuard]
    have : ∃ hk : (op ≠ .shl ∧ op ≠ .shr) → k = k', intBin op k m n (fun v => K (.p v) s) := by
      split at h
      · exact ⟨fun q => absurd rfl q.1, h⟩
      · exact ⟨fun q => absurd rfl q.2, h⟩
      · split at h
        · rename_i hd; exact ⟨fun _ => by simpa using hd, h⟩
        · exact h.elim
    obtain ⟨hk, hb⟩ := this
    obtain ⟨v, r, h1, h2, h3⟩ := intBin_run (P := P) (w := w) (g := g) (σ := σ) (t := t) (k' := k') hk hb
    exact fin h1 hgd (by rw [hx.inv_int, hy.inv_int]; exact h2) (.p _ _ h3)
  · rename_i m n hex hey
    rw [hex] at hx; rw [hey] at hy
    obtain ⟨bx, hx1, rfl⟩ := hx.inv_str
    obtain ⟨bY, hy1, rfl⟩ := hy.inv_str
    have hgd : (eqGuard op t x y (a.eval x) (a.eval y)).run P w = .ok () w := by
      rw [hx1, hy1]; cases op <;> simp [eqGuard]
    obtain ⟨v, r, h1, h2, h3⟩ := strBin_run (P := P) (w := w) (g := g) (σ := σ) (t := t) h
    exact fin h1 hgd (by rw [hx1, hy1]; exact h2) (.p _ _ h3)
  · rename_i hni hns
    have key : ∀ K' : Bool → Prop, eqAV P t (isC x || isC y) (ev e x) (ev e y) K' → (op = .eql ∨ op = .neq) →
        ∃ b, K' b ∧ (eqGuard op t x y (a.eval x) (a.eval y)).run P w = .ok () w ∧ (Op.equal t (a.eval x) (a.eval y)).run P w = .ok b w ∧ (∀ z, z = a.eval x → ∀ q, q = a.eval y → (binOp .eql t z q = do pure (.bool (← Op.equal t z q))) ∧ (binOp .neq t z q = do pure (.bool (!(← Op.equal t z q))))) := by
      intro K' hq hop
      unfold eqAV at hq
      have plain : ∀ {q z : Value} {b : Bool}, a.eval x = q → a.eval y = z → K' b → (eqGuard op t x y q z).run P w = .ok () w → (Op.equal t q z).run P w = .ok b w →
          (binOp .eql t q z = (do pure (.bool (← Op.equal t q z))) ∧ binOp .neq t q z = (do pure (.bool (!(← Op.equal t q z))))) →
          ∃ b, K' b ∧ (eqGuard op t x y (a.eval x) (a.eval y)).run P w = .ok () w ∧ (Op.equal t (a.eval x) (a.eval y)).run P w = .ok b w ∧ (∀ z, z = a.eval x → ∀ q, q = a.eval y → (binOp .eql t z q = do pure (.bool (← Op.equal t z q))) ∧ (binOp .neq t z q = do pure (.bool (!(← Op.equal t z q))))) := by
        intro q z b h1 h2 h3 h4 h5 h6
        exact ⟨b, h3, by rw [h1, h2]; exact h4, by rw [h1, h2]; exact h5, fun z' hz' q' hq' => by rw [hz', hq', h1, h2]; exact h6⟩
      split at hq
      · rename_i hu
        split at hq
        · rename_i b1 b2 hex hey
          rw [hex] at hx; rw [hey] at hy
          refine plain hx.inv_bool hy.inv_bool hq (by rcases hop with rfl | rfl <;> simp [eqGuard]) (run_equalIn_bool' w _ t _ _ hu) ⟨rfl, rfl⟩
        · exact hq.elim
      · rename_i fs hu
        split at hq
        · rename_i xs ys hex hey
          rw [hex] at hx; rw [hey] at hy
          split at hq
          · rename_i b heq
            unfold Ob at hq
            obtain ⟨⟨hty, hgt⟩, hk⟩ := hq
            generalize hax : a.eval x = ax at *
            generalize hay : a.eval y = ay at *
            cases hx.inv_p with | agg _ xs hxs => cases hy.inv_p with | agg _ ys hys =>
            obtain ⟨x', y', h1, h2, h3⟩ := (eqT_sound (P := P) w (Lv g σ) 100).1 t _ _ _ _ b 100 heq hty hxs hys _ hu
            unfold valD at h1 h2; cases h1; cases h2
            exact plain rfl rfl hk (by rcases hop with rfl | rfl <;> exact run_eqGuard_agg w _ t x y _ _ hgt) (h3 _ (by decide)) ⟨rfl, rfl⟩
          · exact hq.elim
        · exact hq.elim
      · rename_i u hu
        have hE : ∀ q z, (∃ c, q = Value.pointer c) → (∃ c, z = Value.pointer c) → ∀ b, ((q = .pointer none ∧ ∃ c, z = .pointer c ∧ b = c.isNone) ∨ (z = .pointer none ∧ ∃ c, q = .pointer (some c) ∧ b = false)) → a.eval x = q → a.eval y = z → K' b → _ := fun q z hq1 hz1 b hb h1 h2 h3 => plain (q := q) (z := z) h1 h2 h3
          (by obtain ⟨c1, rfl⟩ := hq1; obtain ⟨c2, rfl⟩ := hz1; rcases hop with rfl | rfl <;> simp [eqGuard])
          (by rcases hb with ⟨rfl, c2, rfl, rfl⟩ | ⟨rfl, c2, rfl, rfl⟩
              · exact equal_of (eqIn_ptr1 hu c2)
              · exact equal_of (eqIn_ptr2 hu c2))
          (by obtain ⟨c1, rfl⟩ := hq1; obtain ⟨c2, rfl⟩ := hz1; exact ⟨rfl, rfl⟩)
        split at hq
        · rename_i hex hey
          rw [hex] at hx; rw [hey] at hy
          exact hE _ _ ⟨none, rfl⟩ ⟨none, rfl⟩ true (.inl ⟨rfl, none, rfl, rfl⟩) hx.inv_lit.1 hy.inv_lit.1 hq
        · rename_i id off hex hey
          rw [hex] at hx; rw [hey] at hy
          exact hE _ _ ⟨none, rfl⟩ ⟨_, rfl⟩ false (.inl ⟨rfl, _, rfl, rfl⟩) hx.inv_lit.1 hy.inv_ref.1 hq
        · rename_i id off hex hey
          rw [hex] at hx; rw [hey] at hy
          exact hE _ _ ⟨_, rfl⟩ ⟨none, rfl⟩ false (.inr ⟨rfl, _, rfl, rfl⟩) hx.inv_ref.1 hy.inv_lit.1 hq
        · rename_i cs hex hey
          rw [hex] at hx; rw [hey] at hy
          obtain ⟨b, off, hp, _⟩ := hy.inv_pto
          exact hE _ _ ⟨none, rfl⟩ ⟨_, rfl⟩ false (.inl ⟨rfl, _, rfl, rfl⟩) hx.inv_lit.1 hp hq
        · rename_i cs hex hey
          rw [hex] at hx; rw [hey] at hy
          obtain ⟨b, off, hp, _⟩ := hx.inv_pto
          exact hE _ _ ⟨_, rfl⟩ ⟨none, rfl⟩ false (.inr ⟨rfl, _, rfl, rfl⟩) hp hy.inv_lit.1 hq
        · exact hq.elim
      · rename_i u hu
        have hE : ∀ (q z : Option Addr) (l c l' c' : Nat) (b : Bool), ((q = none ∧ b = z.isNone) ∨ (z = none ∧ b = q.isNone ∧ q ≠ none)) → a.eval x = .slice q l c → a.eval y = .slice z l' c' → K' b → _ := fun q z l c' l' c'' b hb h1 h2 h3 => plain h1 h2 h3
          (by rcases hop with rfl | rfl <;> simp [eqGuard])
          (by rcases hb with ⟨rfl, rfl⟩ | ⟨rfl, rfl, hne⟩
              · exact equal_of (eqIn_sl1 hu z _ _ _ _)
              · cases q with
                | none => exact absurd rfl hne
                | some q => exact equal_of (eqIn_sl2 hu q _ _ _ _))
          ⟨rfl, rfl⟩
        have nilS : ∀ {z : Value} {sz : Nat} {xs : List PV}, RepA w g σ (.p (.sl .nil sz xs)) z → z = .slice none 0 0 := by
          intro z sz xs hz
          cases hz.inv_p with
          | nil => rfl
          | sl _ _ _ b off cap hk => exact absurd rfl hk
        have someS : ∀ {z : Value} {k : SK} {sz : Nat} {xs : List PV}, k ≠ .nil → RepA w g σ (.p (.sl k sz xs)) z → ∃ ad l c, z = .slice (some ad) l c := by
          intro z k sz xs hk hz
          cases hz.inv_p with
          | nil => exact absurd rfl hk
          | sl _ _ _ b off cap hk => exact ⟨_, _, _, rfl⟩
        split at hq
        · rename_i hex hey
          rw [hex] at hx; rw [hey] at hy
          exact hE _ _ _ _ _ _ true (.inl ⟨rfl, rfl⟩) (nilS hx) (nilS hy) hq
        · rename_i hex hey
          rw [hex] at hx; rw [hey] at hy
          obtain ⟨ad, l, c, hz⟩ := someS (by decide) hy
          exact hE _ _ _ _ _ _ false (.inl ⟨rfl, rfl⟩) (nilS hx) hz hq
        · rename_i hex hey
          rw [hex] at hx; rw [hey] at hy
          obtain ⟨ad, l, c, hz⟩ := someS (by decide) hy
          exact hE _ _ _ _ _ _ false (.inl ⟨rfl, rfl⟩) (nilS hx) hz hq
        · rename_i hex hey
          rw [hex] at hx; rw [hey] at hy
          obtain ⟨ad, l, c, hz⟩ := someS (by decide) hx
          exact hE _ _ _ _ _ _ false (.inr ⟨rfl, rfl, by simp⟩) hz (nilS hy) hq
        · rename_i hex hey
          rw [hex] at hx; rw [hey] at hy
          obtain ⟨ad, l, c, hz⟩ := someS (by decide) hx
          exact hE _ _ _ _ _ _ false (.inr ⟨rfl, rfl, by simp⟩) hz (nilS hy) hq
        · rename_i hex hey
          rw [hex] at hx; rw [hey] at hy
          obtain ⟨ad, cap, ⟨hz, _⟩, _⟩ := hx.inv_osl
          exact hE _ _ _ _ _ _ false (.inr ⟨rfl, rfl, by simp⟩) hz (nilS hy) hq
        · exact hq.elim
      · rename_i ms hu
        split at hq
        · rename_i hex hey
          rw [hex] at hx; rw [hey] at hy
          split at hq
          · rename_i hc
            exact plain hx.inv_lit.1 hy.inv_lit.1 hq (eqGuard_c op t x y hc) (equal_of (eqIn_if0 hu)) ⟨rfl, rfl⟩
          · exact hq.elim
        · rename_i t' v' hex hey
          rw [hex] at hx; rw [hey] at hy
          have : ∃ z, a.eval y = .iface t' z := by
            generalize a.eval y = z at *
            cases hy.inv_p; exact ⟨_, rfl⟩
          obtain ⟨z, hz⟩ := this
          exact plain hx.inv_lit.1 hz hq (by rcases hop with rfl | rfl <;> simp [eqGuard]) (equal_of (eqIn_if1 hu _ _)) ⟨rfl, rfl⟩
        · rename_i t' v' hex hey
          rw [hex] at hx; rw [hey] at hy
          have : ∃ z, a.eval x = .iface t' z := by
            generalize a.eval x = z at *
            cases hx.inv_p; exact ⟨_, rfl⟩
          obtain ⟨z, hz⟩ := this
          exact plain hz hy.inv_lit.1 hq (by rcases hop with rfl | rfl <;> simp [eqGuard]) (equal_of (eqIn_if2 hu _ _)) ⟨rfl, rfl⟩
        · rename_i t' v' hex hey
          rw [hex] at hx; rw [hey] at hy
          have : ∃ z, a.eval x = .iface t' z := by
            generalize a.eval x = z at *
            cases hx; exact ⟨_, rfl⟩
          obtain ⟨z, hz⟩ := this
          exact plain hz hy.inv_lit.1 hq (by rcases hop with rfl | rfl <;> simp [eqGuard]) (equal_of (eqIn_if2 hu _ _)) ⟨rfl, rfl⟩
        · exact hq.elim
      · exact hq.elim
    split at h
    · obtain ⟨b, h1, h2, h3, h4⟩ := key _ h (.inl rfl)
      refine fin h1 h2 ?_ (.mkBool b)
      rw [(h4 _ rfl _ rfl).1]; simp [h3]
    · obtain ⟨b, h1, h2, h3, h4⟩ := key _ h (.inr rfl)
      refine fin h1 h2 ?_ (.mkBool (!b))
      rw [(h4 _ rfl _ rfl).2]; simp [h3]
    · exact h.elim
end ops
end Go.Proofs.Ytfjolephpghafaa.AW
