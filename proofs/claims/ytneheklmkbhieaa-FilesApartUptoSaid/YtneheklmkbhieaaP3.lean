/- A part of the proof: AW/OpsM0, AW/OpsM1, AW/Ops5, AW/Ops6, AW/Ops7, AW/OpsZ. -/
import Derived.Test.YtneheklmkbhieaaP2
import Derived.Lib.AppendStr
namespace Go.Proofs.Ytneheklmkbhieaa.AW
set_option linter.unusedSimpArgs false
set_option linter.unusedVariables false
section ops
variable {P : Program} {o : Oper} {e : Env} {s : Store} {K : AV → Store → Prop} {w : World} {g : G} {σ : St} {a : Act} {T : Nat → Prop} {N : Prop}

/-! ### Maps -/
theorem RepA.inv_map {id : Nat} {x : Value} (h : RepA w g σ (.map id) x) : x = .map (some (g.ι id)) ∧ g.C id ∧ ∀ sz xs ty, σ id ≠ some (.buf sz xs ty) := by
  cases h with
  | map _ hc hb => exact ⟨rfl, hc, hb⟩

theorem ba_beq (a b : ByteArray) : (a.data.toList == b.data.toList) = (a == b) := by
  obtain ⟨⟨x⟩⟩ := a
  obtain ⟨⟨y⟩⟩ := b
  show (x == y) = ((⟨x⟩ : Array UInt8) == ⟨y⟩)
  rw [Bool.eq_iff_iff, beq_iff_eq, beq_iff_eq]
  exact ⟨fun q => by rw [q], fun q => by cases q; rfl⟩
theorem ba_eq {a b : ByteArray} (h : (a.data.toList == b.data.toList) = true) : a = b := by
  obtain ⟨⟨x⟩⟩ := a
  obtain ⟨⟨y⟩⟩ := b
  have : x = y := beq_iff_eq.1 h
  subst this; rfl

/-- A key, as the model has it. -/
inductive KeyV : KK → PV → Value → Prop
  | str (x : ByteArray) : KeyV .str (.str x.data.toList) (.string x)
  | int (k : IntKind) (n : Int) : KeyV (.int k) (.int k n) (.int k n)
theorem keyV {B : Nat → Prop} {kk : KK} {p : PV} {x : Value} (h : RepP w B p x) (hk : keyIs kk p = true) : KeyV kk p x := by
  cases h with
  | str x => cases kk with
    | str => exact .str x
    | int k => simp [keyIs] at hk
  | int k n => cases kk with
    | str => simp [keyIs] at hk
    | int k' =>
      have : k' = k := by simpa [keyIs] using hk
      subst this; exact .int _ _
  | _ => cases kk <;> simp [keyIs] at hk
def kindOk : KK → TypeDesc → Prop
  | .str, d => d = .string
  | .int k, d => d = .int k
theorem KeyV.same {kk : KK} {p q : PV} {x y : Value} {d : TypeDesc} (h : KeyV kk p x) (k : KeyV kk q y) (hd : kindOk kk d) : Instr.sameNow d x y = some (keyEq p q) ∧ (keyEq p q = true → p = q ∧ x = y) := by
  cases h with
  | str a => cases k with
    | str b =>
      have hd : d = .string := hd
      subst hd
      refine ⟨by show some (a == b) = some (a.data.toList == b.data.toList); rw [ba_beq], fun q => ?_⟩
      have q := ba_eq (show (a.data.toList == b.data.toList) = true from q)
      subst q
      exact ⟨rfl, rfl⟩
  | int k n => cases k with
    | int _ m =>
      have hd : d = .int _ := hd
      subst hd
      refine ⟨by simp [Instr.sameNow, keyEq], fun q => ?_⟩
      have q : (n == m) = true := q
      have q := beq_iff_eq.1 q
      subst q
      exact ⟨rfl, rfl⟩
theorem KeyV.stays {kk : KK} {p : PV} {x : Value} (h : KeyV kk p x) : Instr.sameBits 10000 x x = true := by
  cases h with
  | str a => show (a == a) = true; rw [← ba_beq]; exact beq_self_eq_true _
  | int k n => show (k == k && n == n) = true; simp
theorem KeyV.checkN {kk : KK} {p : PV} {x : Value} (h : KeyV kk p x) {d : TypeDesc} {kt : Nat} (hd : kindOk kk d) (hu : P.underlying kt = some d) (b : Bool) (n : Nat) : (Instr.checkKey b (n + 1) kt x).run P w = .ok () w := by
  cases h with
  | str a =>
    have hd : d = .string := hd
    subst hd
    simp [Instr.checkKey, underlying, hu]
  | int k m =>
    have hd : d = .int _ := hd
    subst hd
    simp [Instr.checkKey, underlying, hu]
theorem KeyV.check {kk : KK} {p : PV} {x : Value} (h : KeyV kk p x) {d : TypeDesc} {kt : Nat} (hd : kindOk kk d) (hu : P.underlying kt = some d) (b : Bool) : (Instr.checkKey b 10000 kt x).run P w = .ok () w := h.checkN hd hu b 9999

theorem EntsP.len {B : Nat → Prop} : ∀ {es : List (Nat × PV × PV)} {xs : List MapEntry}, EntsP w B es xs → xs.length = es.length
  | _, _, .nil => rfl
  | _, _, .cons _ _ _ _ _ _ _ _ _ h => by simp [h.len]
theorem EntsP.app {B : Nat → Prop} : ∀ {es fs : List (Nat × PV × PV)} {xs ys : List MapEntry}, EntsP w B es xs → EntsP w B fs ys → EntsP w B (es ++ fs) (xs ++ ys)
  | _, _, _, _, .nil, k => k
  | _, _, _, _, .cons n p v x y es xs hk hv h, k => .cons n p v x y _ _ hk hv (h.app k)
theorem EntsP.borns {B : Nat → Prop} : ∀ {es : List (Nat × PV × PV)} {xs : List MapEntry}, EntsP w B es xs → xs.map (·.born) = es.map (·.1)
  | _, _, .nil => rfl
  | _, _, .cons _ _ _ _ _ _ _ _ _ h => by simp [h.borns]
theorem EntsP.mem {B : Nat → Prop} : ∀ {es : List (Nat × PV × PV)} {xs : List MapEntry}, EntsP w B es xs → ∀ x, x ∈ xs → ∃ k v, (x.born, k, v) ∈ es ∧ RepP w B k x.key ∧ RepP w B v x.val
  | _, _, .cons n k v x y es xs hk hv h, z, hz => by
    rcases List.mem_cons.1 hz with rfl | hz
    · exact ⟨k, v, by simp, hk, hv⟩
    · obtain ⟨k', v', h1, h2, h3⟩ := h.mem z hz
      exact ⟨k', v', List.mem_cons_of_mem _ h1, h2, h3⟩

theorem mSet_fst (key x : PV) : ∀ es : List (Nat × PV × PV), (mSet es key x).map (·.1) = es.map (·.1)
  | [] => rfl
  | (n, k, v) :: r => by
    unfold mSet
    split <;> simp [mSet_fst key x r]
theorem mSet_keys {kk : KK} {key x : PV} (hk : keyIs kk key = true) : ∀ {es : List (Nat × PV × PV)}, (∀ q, q ∈ es → keyIs kk q.2.1 = true) → ∀ q, q ∈ mSet es key x → keyIs kk q.2.1 = true
  | (n, k, v) :: r, h, q, hq => by
    unfold mSet at hq
    split at hq
    · rcases List.mem_cons.1 hq with rfl | hq
      · exact hk
      · exact h q (List.mem_cons_of_mem _ hq)
    · rcases List.mem_cons.1 hq with rfl | hq
      · exact h _ (by simp)
      · exact mSet_keys hk (fun z hz => h z (List.mem_cons_of_mem _ hz)) q hq
theorem mDel_mem {key : PV} : ∀ {es : List (Nat × PV × PV)}, ∀ q, q ∈ mDel es key → q ∈ es
  | (n, k, v) :: r, q, hq => by
    unfold mDel at hq
    split at hq
    · exact List.mem_cons_of_mem _ hq
    · rcases List.mem_cons.1 hq with rfl | hq
      · simp
      · exact List.mem_cons_of_mem _ (mDel_mem q hq)
theorem mDel_sub (key : PV) : ∀ es : List (Nat × PV × PV), (mDel es key).Sublist es
  | [] => .slnil
  | (n, k, v) :: r => by
    unfold mDel
    split
    · exact List.sublist_cons_self _ _
    · exact (mDel_sub key r).cons_cons _

/-- A key is looked for. -/
theorem find_ents {B : Nat → Prop} {kk : KK} {key : PV} {kv : Value} {d : TypeDesc} (hkv : KeyV kk key kv) (hd : kindOk kk d) (hkr : RepP w B key kv) : ∀ {es : List (Nat × PV × PV)} {xs : List MapEntry}, EntsP w B es xs → (∀ q, q ∈ es → keyIs kk q.2.1 = true) → ∀ i : Nat,
    (Instr.findNow d kv xs i = some none ∧ mGet es key = none) ∨
    (∃ j v x, j < xs.length ∧ Instr.findNow d kv xs i = some (some (i + j, x)) ∧ mGet es key = some v ∧ RepP w B v x ∧ (∃ z, xs[j]? = some z ∧ z.key = kv) ∧
      (∀ nv y, RepP w B nv y → EntsP w B (mSet es key nv) (xs.modify j fun z => { z with key := kv, val := y })) ∧ EntsP w B (mDel es key) (xs.eraseIdx j))
  | _, _, .nil, _, i => .inl ⟨rfl, rfl⟩
  | _, _, .cons n k v x y es xs hk hv h, hall, i => by
    have hq := keyV hk (hall _ (by simp : (n, k, v) ∈ (n, k, v) :: es))
    obtain ⟨h1, h2⟩ := hkv.same hq hd
    cases hc : keyEq key k with
    | true =>
      rw [hc] at h1
      obtain ⟨e1, e2⟩ := h2 hc
      refine .inr ⟨0, v, y, by simp, by simp [Instr.findNow, h1], by simp [mGet, hc], hv, ⟨_, rfl, e2.symm⟩, fun nv z hz => ?_, ?_⟩
      · simp only [mSet, hc, List.modify_zero_cons]
        exact .cons _ _ _ _ _ _ _ hkr hz h
      · simp only [mDel, hc, List.eraseIdx_zero, List.tail_cons]; exact h
    | false =>
      rw [hc] at h1
      rcases find_ents hkv hd hkr h (fun q hq => hall q (List.mem_cons_of_mem _ hq)) (i + 1) with ⟨k1, k2⟩ | ⟨j, v', x', k1, k2, k3, k4, ⟨z, k5, k6⟩, k7, k8⟩
      · exact .inl ⟨by simp [Instr.findNow, h1, k1], by simp [mGet, hc, k2]⟩
      · refine .inr ⟨j + 1, v', x', by simp; omega, ?_, by simp [mGet, hc, k3], k4, ⟨z, by simpa using k5, k6⟩, fun nv q hq => ?_, ?_⟩
        · simp only [Instr.findNow, h1, k2]
          rw [show i + 1 + j = i + (j + 1) by omega]
        · simp only [mSet, hc, List.modify_succ_cons]
          exact .cons _ _ _ _ _ _ _ hk hv (k7 nv q hq)
        · simp only [mDel, hc, List.eraseIdx_cons_succ]
          exact .cons _ _ _ _ _ _ _ hk hv k8
theorem run_findKey {kt : Nat} {d : TypeDesc} {kv : Value} {xs : List MapEntry} {r : Option (Nat × Value)} (hu : P.underlying kt = some d) (h : Instr.findNow d kv xs 0 = some r) : (Instr.findKey kt kv xs).run P w = .ok r w := by
  unfold Instr.findKey
  simp [underlying, hu, h]
theorem mapT_und {t : Nat} {kk : KK} {vt : Nat} (h : mapT P t = some (kk, vt)) : ∃ kt d, P.underlying t = some (.map kt vt) ∧ P.underlying kt = some d ∧ kindOk kk d := by
  unfold mapT at h
  split at h
  · rename_i kt vt' hu
    split at h
    · rename_i kk' hk
      cases h
      unfold kkOf at hk
      split at hk
      · rename_i hd; cases hk; exact ⟨kt, _, hu, hd, rfl⟩
      · rename_i k hd; cases hk; exact ⟨kt, _, hu, hd, rfl⟩
      · cases hk
    · cases h
  · cases h

theorem ok_makeMap {t : Nat} {r : Option Operand} (ho : o.op = .makeMap t r) (h : aop P (.makeMap t r) e s K) (hN : ∀ v s', K v s' → s.length < s'.length → N) (c : Cx w g σ s T N) : OpOk P o a w (Rs w g σ s T K) := by
  simp only [aop] at h
  split at h
  · rename_i kk vt ht
    rw [snoc_eq] at h
    have m := More.alloc w (.map #[] 0)
    refine .value (v := .map (some w.heap.size)) (w' := w.alloc (.map #[] 0)) ?_ ?_
    · simp [execOp, ho, Instr.makeMap]
    · refine Rs.new c m (o := .map kk [] 0) (.map kk [] 0 [] .nil m.at (fun q hq => nomatch hq) (fun q hq => nomatch hq) .nil) ?_ h (hN _ _ h (by simp))
      have := RepA.map (w := w.alloc (.map #[] 0)) (g := g.new s.length w.heap.size) (σ := σ.put s.length (.map kk [] 0)) s.length (.inr rfl) (by simp [St.put])
      simpa [G.new] using this
  · exact h.elim
end ops
end Go.Proofs.Ytneheklmkbhieaa.AW

namespace Go.Proofs.Ytneheklmkbhieaa.AW
set_option linter.unusedSimpArgs false
set_option linter.unusedVariables false
section ops
variable {P : Program} {o : Oper} {e : Env} {s : Store} {K : AV → Store → Prop} {w : World} {g : G} {σ : St} {a : Act} {T : Nat → Prop} {N : Prop}

theorem zeroT_run' {t : Nat} {z : PV} (hz : zeroT P t = some z) : ∃ v, (zeroValue t).run P w = .ok v w ∧ RepA w g σ (.p z) v := by
  unfold zeroT at hz
  split at hz
  · rename_i i hi
    split at hz
    · rename_i v hv
      exact ⟨v, by simp [zeroValue, typeInfo, hi, hv], .p _ _ ((absP_rep w _ 200).1 v z hz)⟩
    · cases hz
  · cases hz

theorem ok_lookup {t : Nat} {x ix : Operand} {ok : Bool} (ho : o.op = .lookup t x ix ok) (h : aop P (.lookup t x ix ok) e s K) (c : Cx w g σ s T N) (hT : ∀ id, id ∈ ids (ev e x) → T id) (he : EnvR w g σ e a.tmps) : OpOk P o a w (Rs w g σ s T K) := by
  simp only [aop, lookupA] at h
  have hx := ev_rep he x
  have hi := ev_rep he ix
  split at h
  · rename_i kk vt ht
    obtain ⟨kt, d, hu, hd, hkd⟩ := mapT_und ht
    split at h
    · rename_i z key hz hkey
      rw [hkey] at hi
      have hkr := hi.inv_p
      obtain ⟨zv, hzr, hzp⟩ := zeroT_run' (w := w) (g := g) (σ := σ) hz
      split at h
      · rename_i id hev
        rw [hev] at hx
        obtain ⟨hp, hC, hb⟩ := hx.inv_map
        split at h
        · rename_i kk' es clock hg
          split at h
          · rename_i hc
            simp only [Bool.and_eq_true, decide_eq_true_eq] at hc
            obtain ⟨rfl, hkk⟩ := hc
            have hkv := keyV hkr hkk
            have hTi := hT id (by rw [hev]; simp [ids, ids1])
            have hs : σ id = some (.map kk' es clock) := (c.agree id hTi).trans hg
            unfold Opt at h
            cases c.inv.rep _ _ hs (c.inv.real hs (by simp)) with
            | map _ _ _ xs hE hw hk hcl hn =>
              have hchk := fun b => hkv.check (P := P) (w := w) hkd hd b
              rcases find_ents hkv hkd hkr hE hk 0 with ⟨h1, h2⟩ | ⟨j, v, y, _, h1, h2, h3, _⟩
              · have hf := run_findKey (w := w) hd h1
                have hk := h.2 h2
                cases ok with
                | true =>
                  refine .value (v := .tuple #[zv, .bool false]) (w' := w) ?_ (.pure c hk (.tup _ [_, _] (.cons _ _ _ _ hzp (.cons _ _ _ _ (.mkBool _) .nil))))
                  simp [execOp, ho, Instr.lookup, underlying, hu, hp, getObj, Sem.run, hw, hchk, hf, hzr]
                | false =>
                  refine .value (v := zv) (w' := w) ?_ (.pure c hk hzp)
                  simp [execOp, ho, Instr.lookup, underlying, hu, hp, getObj, Sem.run, hw, hchk, hf, hzr]
              · have hf := run_findKey (w := w) hd h1
                have hk := h.1 v h2
                cases ok with
                | true =>
                  refine .value (v := .tuple #[y, .bool true]) (w' := w) ?_ (.pure c hk (.tup _ [_, _] (.cons _ _ _ _ (.p _ _ h3) (.cons _ _ _ _ (.mkBool _) .nil))))
                  simp [execOp, ho, Instr.lookup, underlying, hu, hp, getObj, Sem.run, hw, hchk, hf]
                | false =>
                  refine .value (v := y) (w' := w) ?_ (.pure c hk (.p _ _ h3))
                  simp [execOp, ho, Instr.lookup, underlying, hu, hp, getObj, Sem.run, hw, hchk, hf]
          · exact h.elim
        · exact h.elim
      · rename_i hev
        rw [hev] at hx
        have hpx : a.eval x = .map none := by
          generalize a.eval x = ax at *
          cases hx.inv_p; rfl
        have hnil : (Instr.findKey kt (a.eval ix) []).run P w = .ok none w := run_findKey (w := w) hd rfl
        split at h
        · rename_i hkk
          have hchk := fun b => (keyV hkr hkk).check (P := P) (w := w) hkd hd b
          refine .value (v := .tuple #[zv, .bool false]) (w' := w) ?_ (.pure c h (.tup _ [_, _] (.cons _ _ _ _ hzp (.cons _ _ _ _ (.mkBool _) .nil))))
          simp [execOp, ho, Instr.lookup, underlying, hu, hpx, hchk, hnil, hzr]
        · rename_i hkk
          have hchk := fun b => (keyV hkr hkk).check (P := P) (w := w) hkd hd b
          refine .value (v := zv) (w' := w) ?_ (.pure c h hzp)
          simp [execOp, ho, Instr.lookup, underlying, hu, hpx, hchk, hnil, hzr]
        · exact h.elim
      · exact h.elim
    · exact h.elim
  · exact h.elim

/-- A map's block bears other entries. -/
theorem Rs.setMap {x : Value} {v : AV} (c : Cx w g σ s T N) {id : Nat} {kk : KK} {es es' : List (Nat × PV × PV)} {clock clock' : Nat} (hT : T id) (hs : getO s id = some (.map kk es clock)) (hR : g.R id) {xs' : List MapEntry}
    (hE : EntsP w (Lv g σ) es' xs') (hk : ∀ q, q ∈ es' → keyIs kk q.2.1 = true) (hc : ∀ q, q ∈ es' → q.1 < clock') (hn : (es'.map (·.1)).Nodup) (hw : ∃ ys cl, w.heap[g.ι id]? = some (.map ys cl)) (hv : RepA w g σ v x) (hK : K v (s.set id (some (.map kk es' clock')))) :
    Rs w g σ s T K x { w with heap := w.heap.setIfInBounds (g.ι id) (.map xs'.toArray clock') } := by
  have hσ : σ id = some (.map kk es clock) := (c.agree id hT).trans hs
  have hsz := (c.inv.lies _ _ hσ hR).1
  obtain ⟨ys, cl, hw⟩ := hw
  have hat : (w.heap.setIfInBounds (g.ι id) (.map xs'.toArray clock'))[g.ι id]? = some (.map xs'.toArray clock') := by simp [hsz]
  refine Rs.set c hT hs hR (o' := .map kk es' clock') rfl ⟨by simp, rfl, rfl, rfl, fun k hk' => ?_, ?_, Nat.le_refl _⟩ (fun hx => ?_) (fun hx => hx.repA hv) hK
  · simp [Array.getElem?_setIfInBounds_ne (Ne.symm hk')]
  · simp [World.shape?, hat, hw]
  · exact .map kk es' clock' xs' (hE.keep hx.mem hx.lv) hat hk hc hn

theorem delete_run {t : Nat} {args : Array Operand} {ts : Array TypeId} {rest : List TypeId} {x ix : Operand} (ho : o.op = .call ⟨.builtin .delete, args, ts⟩) (hargs : args = #[x, ix]) (hts : ts.toList = t :: rest) (h : deleteA P t (ev e x) (ev e ix) s K) (c : Cx w g σ s T N)
    (hT : ∀ id, id ∈ ids (ev e x) → T id) (he : EnvR w g σ e a.tmps) : OpOk P o a w (Rs w g σ s T K) := by
  have hts' : ts[0]? = some t := by rw [← Array.getElem?_toList, hts]; rfl
  subst hargs
  unfold deleteA at h
  have hx := ev_rep he x
  have hi := ev_rep he ix
  split at h
  · rename_i kk vt id key ht hev hkey
    obtain ⟨kt, d, hu, hd, hkd⟩ := mapT_und ht
    rw [hev] at hx
    rw [hkey] at hi
    have hkr := hi.inv_p
    obtain ⟨hp, hC, hb⟩ := hx.inv_map
    split at h
    · rename_i kk' es clock hg
      split at h
      · rename_i hc
        simp only [Bool.and_eq_true, decide_eq_true_eq] at hc
        obtain ⟨rfl, hkk⟩ := hc
        have hkv := keyV hkr hkk
        have hTi := hT id (by rw [hev]; simp [ids, ids1])
        have hs : σ id = some (.map kk' es clock) := (c.agree id hTi).trans hg
        have hR := c.inv.real hs (by simp)
        rw [setK_eq] at h
        cases c.inv.rep _ _ hs hR with
        | map _ _ _ xs hE hw hk hcl hn =>
          have hchk := fun b => hkv.check (P := P) (w := w) hkd hd b
          rcases find_ents hkv hkd hkr hE hk 0 with ⟨h1, h2⟩ | ⟨j, v, y, hj, h1, h2, h3, _, _, h8⟩
          · have hf := run_findKey (w := w) hd h1
            have hne : mDel es key = es := by
              clear h hE hw hk hcl hn h1 hf hs hg
              induction es with
              | nil => rfl
              | cons q r ih =>
                obtain ⟨n, k, v⟩ := q
                unfold mGet at h2
                split at h2
                · cases h2
                · rename_i hq
                  unfold mDel; rw [hq]; simp only; rw [ih h2]
            rw [hne] at h
            refine .value (v := .tuple #[]) (w' := { w with heap := w.heap.setIfInBounds (g.ι id) (.map xs.toArray clock) }) ?_ (Rs.setMap c hTi hg hR hE hk hcl hn ⟨_, _, hw⟩ (.tup _ [] .nil) h)
            simp [execOp, ho, resolve, invoke, builtin, Builtin.delete_, hts', underlying, hu, hp, getObj, setObj, Sem.run, hw, hchk, hf]
          · have hf := run_findKey (w := w) hd h1
            rw [Nat.zero_add] at hf
            refine .value (v := .tuple #[]) (w' := { w with heap := w.heap.setIfInBounds (g.ι id) (.map (xs.eraseIdx j).toArray clock) }) ?_
              (Rs.setMap c hTi hg hR h8 (fun q hq => hk q (mDel_mem q hq)) (fun q hq => hcl q (mDel_mem q hq)) (((mDel_sub key es).map _).nodup hn) ⟨_, _, hw⟩ (.tup _ [] .nil) h)
            simp [execOp, ho, resolve, invoke, builtin, Builtin.delete_, hts', underlying, hu, hp, getObj, setObj, Sem.run, hw, hchk, hf]
      · exact h.elim
    · exact h.elim
  · exact h.elim

/-! ### Ranging over a map -/
theorem rangeM {t k u : Nat} {x : Operand} {id : Nat} {kk : KK} {es : List (Nat × PV × PV)} {clock : Nat} (ho : o.op = .range t x) (hu : P.underlying t = some (.map k u)) (hev : ev e x = .map id) (hg : getO s id = some (.map kk es clock))
    (h : K (.it s.length) (s ++ [some (.iterM id (es.map (·.1)) (es.map (·.1), none))])) (hN : N) (c : Cx w g σ s T N) (hT : T id) (he : EnvR w g σ e a.tmps) : OpOk P o a w (Rs w g σ s T K) := by
  have hx := ev_rep he x
  rw [hev] at hx
  obtain ⟨hp, hC, hb⟩ := hx.inv_map
  have hs : σ id = some (.map kk es clock) := (c.agree id hT).trans hg
  cases c.inv.rep _ _ hs (c.inv.real hs (by simp)) with
  | map _ _ _ xs hE hw hk hcl hn =>
    have m := More.alloc w (.mapIter (some (g.ι id)) clock #[] clock)
    have hlt := getO_lt hg
    have hne : id ≠ s.length := by omega
    refine .value (v := .pointer (some ⟨w.heap.size, 0, none⟩)) (w' := w.alloc (.mapIter (some (g.ι id)) clock #[] clock)) ?_ ?_
    · simp [execOp, ho, Instr.range, underlying, hu, hp, getObj, Sem.run, hw]
    · refine Rs.new c m (o := .iterM id (es.map (·.1)) (es.map (·.1), none)) ?_ ?_ h hN
      · refine .iterM id _ _ clock clock #[] (.inl hC) ?_ ?_ ?_ ?_
        · simp only [St.put, if_neg hne]; exact hb
        · exact ⟨by rw [eq_comm, List.filter_eq_self]; intro y _; simp, fun b c q => by cases q⟩
        · intro y hy
          obtain ⟨q, hq, rfl⟩ := List.mem_map.1 hy
          exact ⟨hcl q hq, hcl q hq⟩
        · have := m.at
          simpa [G.new, hne] using this
      · have := RepA.it (w := w.alloc (.mapIter (some (g.ι id)) clock #[] clock)) (g := g.new s.length w.heap.size) (σ := σ.put s.length (.iterM id (es.map (·.1)) (es.map (·.1), none))) s.length (.inr rfl) (by simp [St.put])
        simpa [G.new] using this

theorem run_pick (n : Nat) (hn : 1 ≤ n) : ∃ j w1, j < n ∧ (choose (.mapNext n)).run P w = .ok j w1 ∧ w1.heap = w.heap ∧ w1.os = w.os ∧ w1.tape = w.tape ∧ w1.output = w.output ∧ w.drawn ≤ w1.drawn := by
  rw [run_choose]
  by_cases hf : (Question.mapNext n).forced = true
  · rw [if_pos hf]; exact ⟨0, w, by omega, rfl, rfl, rfl, rfl, rfl, Nat.le_refl _⟩
  · rw [if_neg hf]
    exact ⟨_, _, Nat.mod_lt _ (by omega), rfl, rfl, rfl, rfl, rfl, Nat.le_succ _⟩

theorem nextM {x : Operand} {id mid : Nat} {bs : List Nat} {left : List Nat × Option (Nat × Nat)} {kk : KK} {es : List (Nat × PV × PV)} {clock : Nat} (ho : o.op = .next x false) (hev : ev e x = .it id) (hg : getO s id = some (.iterM mid bs left)) (hgm : getO s mid = some (.map kk es clock))
    (h : Ob (es.map (·.1) = bs) (BrL left.1 (K (.tup [.p (.bool false)]) s)
            (Any left.1 es fun b k v => setK s id (.iterM mid bs (left.1.filter fun x => !(x == b), some (b, clock))) (K (.tup [.p (.bool true), .p k, .p v])))))
    (c : Cx w g σ s T N) (hT : T id) (hTm : T mid) (he : EnvR w g σ e a.tmps) : OpOk P o a w (Rs w g σ s T K) := by
  have hx := ev_rep he x
  rw [hev] at hx
  obtain ⟨hp, hC⟩ := hx.inv_it
  unfold Ob at h
  obtain ⟨hbs, h⟩ := h
  unfold BrL Any at h
  have hs : σ id = some (.iterM mid bs left) := (c.agree id hT).trans hg
  have hsm : σ mid = some (.map kk es clock) := (c.agree mid hTm).trans hgm
  have hR := c.inv.real hs (by simp)
  cases c.inv.rep _ _ hsm (c.inv.real hsm (by simp)) with
  | map _ _ _ xs hE hwm hk hcl hn =>
    cases c.inv.rep _ _ hs hR with
    | iterM _ _ _ since last seen hCm hnm hl hsn hw =>
      have hborn := hE.borns
      -- what is left, as the model has it
      obtain ⟨lf, hlf⟩ : ∃ lf, lf = xs.filter fun z => !seen.contains z.born := ⟨_, rfl⟩
      obtain ⟨hl, _⟩ := hl
      have hlb : lf.map (·.born) = left.1 := by
        rw [hl, hlf, ← hbs, ← hborn, List.filter_map]; rfl
      have hall : ∀ z, z ∈ lf → z.born < since ∧ z.born < last := fun z hz => by
        rw [hlf] at hz
        have hz := (List.mem_filter.1 hz).1
        exact hsn _ (by rw [← hbs, ← hborn]; exact List.mem_map.2 ⟨z, hz, rfl⟩)
      have hxall : ∀ z, z ∈ xs → z.born < since ∧ z.born < last := fun z hz => hsn _ (by rw [← hbs, ← hborn]; exact List.mem_map.2 ⟨z, hz, rfl⟩)
      have hgone : (!seen.isEmpty && !xs.toArray.isEmpty && xs.toArray.all (fun z => decide (z.born ≥ last))) = false := by
        cases xs with
        | nil => simp
        | cons z r =>
          have := (hxall z (by simp)).2
          have hz : decide (z.born ≥ last) = false := decide_eq_false (by omega)
          simp [hz]
      have hleft : (xs.toArray.filter fun z => !seen.contains z.born) = lf.toArray := by rw [hlf]; simp
      have hold : (lf.toArray.filter fun z => decide (z.born < since)) = lf.toArray := by
        apply Array.toList_inj.1
        simp only [Array.toList_filter]
        rw [List.filter_eq_self]
        exact fun z hz => decide_eq_true (hall z hz).1
      have hnew : (lf.toArray.filter fun z => decide (z.born ≥ since)) = #[] := by
        apply Array.toList_inj.1
        simp only [Array.toList_filter]
        rw [List.filter_eq_nil_iff]
        intro z hz q
        have := (hall z hz).1
        have := of_decide_eq_true q
        omega
      have hget : (getObj (g.ι id)).run P w = .ok (.mapIter (some (g.ι mid)) since seen last) w := by simp [getObj, Sem.run, hw]
      have hgetm : (getObj (g.ι mid)).run P w = .ok (.map xs.toArray clock) w := by simp [getObj, Sem.run, hwm]
      by_cases hne : left.1 = []
      · have hk0 := h.1 hne
        have hlf0 : lf = [] := by
          have := congrArg List.length hlb
          rw [hne] at this; simpa using this
        subst hlf0
        refine .value (v := .tuple #[.bool false]) (w' := w) ?_ (.pure c hk0 (.tup _ [_] (.cons _ _ _ _ (.mkBool _) .nil)))
        have hrun : (Instr.next (.pointer (some ⟨g.ι id, 0, none⟩)) false o.type).run P w = .ok (.tuple #[.bool false]) w := by
          unfold Instr.next
          simp only [Sem.run_bind, hget, hgetm, Result.andThen_ok, hgone, Bool.false_eq_true, if_false, hleft, hold, hnew]
          have e0 : ((if (#[] : Array MapEntry).isEmpty = true then #[none] else #[]) ++ Array.map some (#[] ++ #[])) = (#[none] : Array (Option MapEntry)) := by simp
          rw [e0]
          have hch : (choose (.mapNext (#[none] : Array (Option MapEntry)).size)).run P w = .ok 0 w := by simp [Question.forced]
          rw [hch]
          simp
        simp [execOp, ho, hp, hrun]
      · have hk1 := h.2 hne
        have hlen : lf.length = left.1.length := by rw [← hlb, List.length_map]
        have hpos : 1 ≤ lf.length := by
          have := List.length_pos_iff.2 hne; omega
        obtain ⟨j, w1, hj, hch, w1h, w1o, w1t, w1u, w1d⟩ := run_pick (P := P) (w := w) lf.length hpos
        obtain ⟨z, hz⟩ : ∃ z, lf[j]? = some z := ⟨_, List.getElem?_eq_getElem hj⟩
        have hzl := List.mem_of_getElem? hz
        have hzx : z ∈ xs := by rw [hlf] at hzl; exact (List.mem_filter.1 hzl).1
        obtain ⟨k, v, hkv, hrk, hrv⟩ := hE.mem z hzx
        have hbl : z.born ∈ left.1 := by rw [← hlb]; exact List.mem_map.2 ⟨z, hzl, rfl⟩
        have hk2 := hk1 z.born k v hbl hkv
        simp only [setK_eq] at hk2
        have hrun : (Instr.next (.pointer (some ⟨g.ι id, 0, none⟩)) false o.type).run P w = .ok (.tuple #[.bool true, z.key, z.val]) { w1 with heap := w1.heap.setIfInBounds (g.ι id) (.mapIter (some (g.ι mid)) since (seen.push z.born) clock) } := by
          unfold Instr.next
          simp only [Sem.run_bind, hget, hgetm, Result.andThen_ok, hgone, Bool.false_eq_true, if_false, hleft, hold, hnew]
          have e0 : ((if lf.toArray.isEmpty = true then #[none] else #[]) ++ Array.map some (lf.toArray ++ #[])) = (lf.map some).toArray := by
            have : lf ≠ [] := fun q => by rw [q] at hpos; simp at hpos
            have q : lf.toArray.isEmpty = false := by simpa using this
            rw [q]; simp
          rw [e0]
          have e1 : (lf.map some).toArray.size = lf.length := by simp
          rw [e1, hch]
          have e2 : (lf.map some).toArray[j]? = some (some z) := by simp [hz]
          simp only [Result.andThen_ok, e2]
          simp [setObj, Sem.run, w1h, hw]
        refine .value (v := .tuple #[.bool true, z.key, z.val]) (w' := { w1 with heap := w1.heap.setIfInBounds (g.ι id) (.mapIter (some (g.ι mid)) since (seen.push z.born) clock) }) (by simp [execOp, ho, hp, hrun]) ?_
        have hsz := (c.inv.lies _ _ hs hR).1
        have hat : (w1.heap.setIfInBounds (g.ι id) (.mapIter (some (g.ι mid)) since (seen.push z.born) clock))[g.ι id]? = some (.mapIter (some (g.ι mid)) since (seen.push z.born) clock) := by rw [w1h]; simp [hsz]
        refine Rs.set c hT hg hR (o' := .iterM mid bs (left.1.filter fun x => !(x == z.born), some (z.born, clock))) trivial ⟨by simp [w1h], w1o, w1t, w1u, fun q hq => ?_, ?_, w1d⟩ (fun hx => ?_) (fun hx => ?_) hk2
        · show (w1.heap.setIfInBounds _ _)[q]? = _
          rw [w1h]; simp [Array.getElem?_setIfInBounds_ne (Ne.symm hq)]
        · simp [World.shape?, hat, hw]
        · refine .iterM mid bs _ since clock (seen.push z.born) hCm ?_ ?_ (fun y hy => ⟨(hsn y hy).1, ?_⟩) hat
          · exact hx.notBuf hCm hnm
          · refine ⟨?_, fun b c q => by cases q; exact ⟨by simp, rfl⟩⟩
            show left.1.filter (fun x => !(x == z.born)) = _
            rw [hl, List.filter_filter]
            apply List.filter_congr
            intro y _
            simp only [Array.contains_push]
            cases hyz : (y == z.born) <;> cases seen.contains y <;> simp
          · rw [← hbs] at hy
            obtain ⟨q, hq, rfl⟩ := List.mem_map.1 hy
            exact hcl q hq
        · exact .tup _ [_, _, _] (.cons _ _ _ _ (.mkBool _) (.cons _ _ _ _ (.p _ _ (hx.repP hrk)) (.cons _ _ _ _ (.p _ _ (hx.repP hrv)) .nil)))

theorem entryM {x : Operand} {id mid : Nat} {bs l : List Nat} {b cl : Nat} {kk : KK} {es : List (Nat × PV × PV)} {clock : Nat} (ho : o.op = .entry x) (hev : ev e x = .it id) (hg : getO s id = some (.iterM mid bs (l, some (b, cl)))) (hgm : getO s mid = some (.map kk es clock))
    (h : Ob (cl = clock) (∃ k v, Ob ((b, k, v) ∈ es) (K (.tup [.p k, .p v]) s))) (c : Cx w g σ s T N) (hT : T id) (hTm : T mid) (he : EnvR w g σ e a.tmps) : OpOk P o a w (Rs w g σ s T K) := by
  have hx := ev_rep he x
  rw [hev] at hx
  obtain ⟨hp, hC⟩ := hx.inv_it
  unfold Ob at h
  obtain ⟨hcl0, k, v, hmem, hk⟩ := h
  subst hcl0
  have hs : σ id = some (.iterM mid bs (l, some (b, cl))) := (c.agree id hT).trans hg
  have hsm : σ mid = some (.map kk es cl) := (c.agree mid hTm).trans hgm
  have hR := c.inv.real hs (by simp)
  cases c.inv.rep _ _ hsm (c.inv.real hsm (by simp)) with
  | map _ _ _ xs hE hwm hkk hcl hn =>
    cases c.inv.rep _ _ hs hR with
    | iterM _ _ _ since last seen hCm hnm hl hsn hw =>
      obtain ⟨hb, hlast⟩ := hl.2 b cl rfl
      subst hlast
      have hget : (getObj (g.ι id)).run P w = .ok (.mapIter (some (g.ι mid)) since seen last) w := by simp [getObj, Sem.run, hw]
      have hgetm : (getObj (g.ι mid)).run P w = .ok (.map xs.toArray last) w := by simp [getObj, Sem.run, hwm]
      have find : ∀ {es : List (Nat × PV × PV)} {xs : List MapEntry}, EntsP w (Lv g σ) es xs → (es.map (·.1)).Nodup → (b, k, v) ∈ es → ∃ z, xs.find? (fun z => z.born == b) = some z ∧ RepP w (Lv g σ) k z.key ∧ RepP w (Lv g σ) v z.val := by
        intro es xs hE
        induction hE with
        | nil => intro _ hm; cases hm
        | cons n p q x y es xs hp hq h ih =>
          intro hn hm
          rw [List.map_cons, List.nodup_cons] at hn
          by_cases hnb : n = b
          · subst hnb
            rcases List.mem_cons.1 hm with hm | hm
            · cases hm; exact ⟨_, by rw [List.find?_cons_of_pos (by simp)], hp, hq⟩
            · exact absurd (List.mem_map.2 ⟨_, hm, rfl⟩) hn.1
          · rcases List.mem_cons.1 hm with hm | hm
            · cases hm; exact absurd rfl hnb
            · obtain ⟨z, h1, h2⟩ := ih hn.2 hm
              exact ⟨z, by rw [List.find?_cons_of_neg (by simpa using hnb)]; exact h1, h2⟩
      obtain ⟨z, hz, hrk, hrv⟩ := find hE hn hmem
      refine .value (v := .tuple #[z.key, z.val]) (w' := w) ?_ (.pure c hk (.tup _ [_, _] (.cons _ _ _ _ (.p _ _ hrk) (.cons _ _ _ _ (.p _ _ hrv) .nil))))
      have hrun : (Instr.entry (.pointer (some ⟨g.ι id, 0, none⟩))).run P w = .ok (.tuple #[z.key, z.val]) w := by
        unfold Instr.entry
        have hz' : xs.toArray.find? (fun z => z.born == b) = some z := by simpa using hz
        simp only [Sem.run_bind, hget, hgetm, Result.andThen_ok, hb, bne_self_eq_false, Bool.false_eq_true, if_false, hz']
        rfl
      simp [execOp, ho, hp, hrun]
end ops
end Go.Proofs.Ytneheklmkbhieaa.AW

namespace Go.Proofs.Ytneheklmkbhieaa.AW
set_option linter.unusedSimpArgs false
set_option linter.unusedVariables false
section ops
variable {P : Program} {o : Oper} {e : Env} {s : Store} {K : AV → Store → Prop} {w : World} {g : G} {σ : St} {a : Act} {T : Nat → Prop} {N : Prop}

theorem CellsP.drop {B : Nat → Prop} {b : Nat} : ∀ (n : Nat) {cs : List PV} {off : Nat}, CellsP w B b off cs → CellsP w B b (off + n) (cs.drop n)
  | 0, _, _, h => h
  | n + 1, _, off, .nil _ _ => .nil _ _
  | n + 1, _, off, .cons _ _ v x vs hc h hs => by
    rw [show off + (n + 1) = off + 1 + n by omega]; exact hs.drop n
theorem CellsP.take {B : Nat → Prop} {b : Nat} : ∀ (n : Nat) {cs : List PV} {off : Nat}, CellsP w B b off cs → CellsP w B b off (cs.take n)
  | 0, _, _, _ => .nil _ _
  | _n + 1, _, _off, .nil _ _ => .nil _ _
  | n + 1, _, _off, .cons _ _ v x vs hc h hs => .cons _ _ v x _ hc h (hs.take n)

theorem flat_dropN {sz : Nat} : ∀ (n : Nat) (l : List PV), (∀ z, z ∈ l → El sz z) → flat (l.drop n) = (flat l).drop (n * sz)
  | 0, l, _ => by simp
  | n + 1, [], _ => by simp [flat]
  | n + 1, z :: l, hl => by
    have hz := (hl z (by simp)).1
    rw [List.drop_succ_cons, flat_dropN n l (fun q hq => hl q (List.mem_cons_of_mem _ hq))]
    show _ = (z.cells ++ flat l).drop _
    rw [show (n + 1) * sz = z.cells.length + n * sz by rw [hz, Nat.succ_mul]; omega, ← List.drop_drop, List.drop_left' rfl]
theorem flat_takeN {sz : Nat} : ∀ (n : Nat) (l : List PV), (∀ z, z ∈ l → El sz z) → flat (l.take n) = (flat l).take (n * sz)
  | 0, l, _ => by simp [flat]
  | n + 1, [], _ => by simp [flat]
  | n + 1, z :: l, hl => by
    have hz := (hl z (by simp)).1
    rw [List.take_succ_cons]
    show z.cells ++ flat (l.take n) = (z.cells ++ flat l).take _
    rw [flat_takeN n l (fun q hq => hl q (List.mem_cons_of_mem _ hq)), show (n + 1) * sz = z.cells.length + n * sz by rw [hz, Nat.succ_mul]; omega, List.take_append, List.take_of_length_le (l := z.cells) (Nat.le_add_right _ _), Nat.add_sub_cancel_left]

theorem inf_und {t : Nat} {i : TypeInfo} (_hi : P.info? t = some i) : True := trivial

theorem ok_fieldAddr {t f : Nat} {x : Operand} (ho : o.op = .fieldAddr t x f) (h : aop P (.fieldAddr t x f) e s K) (c : Cx w g σ s T N) (he : EnvR w g σ e a.tmps) : OpOk P o a w (Rs w g σ s T K) := by
  simp only [aop] at h
  have hx := ev_rep he x
  split at h
  · rename_i fd hf
    unfold fldT at hf
    split at hf
    · rename_i fs hd
      have hu := und hd (by simp)
      split at h
      · rename_i i hi
        have fin : ∀ {b : Addr} {v : AV}, Nat.ble 1 i.size = true → a.eval x = .pointer (some b) → K v s → RepA w g σ v (.pointer (some (b.add fd.offset))) → OpOk P o a w (Rs w g σ s T K) := by
          intro b v h1 hp hk hr
          have h1 := Nat.le_of_ble_eq_true h1
          refine .value (v := .pointer (some (b.add fd.offset))) (w' := w) ?_ (.pure c hk hr)
          have : ¬ i.size = 0 := by omega
          simp [execOp, ho, Instr.fieldAt, underlying, hu, hf, Instr.sureAddr, hp, fieldPlace, sizeOf, typeInfo, hi, this]
        split at h
        · rename_i id off h1 hev
          rw [hev] at hx
          obtain ⟨hp, hc, hb⟩ := hx.inv_ref
          exact fin h1 hp h (by rw [add_addr]; exact .ref id _ hc hb)
        · rename_i id tot j sub h1 hev
          rw [hev] at hx
          generalize hax : a.eval x = ax at *
          cases hx with
          | eptr _ _ _ _ ad hc ht hh =>
            refine fin h1 rfl h (.eptr id tot j _ _ hc ht (fun sz xs ty hs hl => ?_))
            obtain ⟨k1, k2⟩ := hh sz xs ty hs hl
            exact ⟨by rw [k1, add_addr, Nat.add_assoc], k2⟩
        · rename_i cs h1 hev
          rw [hev] at hx
          obtain ⟨b, off, hp, hc, hb⟩ := hx.inv_pto
          refine fin h1 hp h ?_
          rw [add_addr]
          refine .p _ _ (.pto _ b _ (fun hne => hb (fun e => hne (by rw [e]; simp))) (hc.drop _))
        · exact h.elim
      · exact h.elim
    · cases hf
  · exact h.elim

theorem ok_indexAddr {t : Nat} {x ix : Operand} (ho : o.op = .indexAddr t x ix) (h : aop P (.indexAddr t x ix) e s K) (c : Cx w g σ s T N) (hG : Gk P w g σ) (hT : ∀ id, id ∈ ids (ev e x) → T id) (he : EnvR w g σ e a.tmps) : OpOk P o a w (Rs w g σ s T K) := by
  simp only [aop] at h
  have hx := ev_rep he x
  have hi := ev_rep he ix
  split at h
  · rename_i gi hgi
    have hxg : x = .global gi := by cases x <;> simp [globalOf] at hgi; rw [hgi]
    subst hxg
    unfold idxG at h
    split at h
    · rename_i k i n el hevi hd
      rw [hevi] at hi
      have hi := hi.inv_int
      have hu := und hd (by simp)
      split at h
      · rename_i inf hinf
        split at h
        case h_2 => exact h.elim
        rename_i hsz
        have hsz := Nat.eq_of_beq_eq_true hsz
        obtain ⟨cs, hgl, hk⟩ := h
        unfold Ob Idx at hk
        obtain ⟨⟨h0, h1⟩, _, y, hy, hk⟩ := hk
        obtain ⟨q1, q2, q3⟩ := hG gi cs hgl
        have hone : (cs.drop i.toNat).take 1 = [y] := by
          rw [List.drop_eq_getElem_cons (List.getElem?_eq_some_iff.1 hy).1]
          simp [(List.getElem?_eq_some_iff.1 hy).2]
        refine .value (v := .pointer (some ((⟨gi, 0, none⟩ : Addr).add (i.toNat * inf.size)))) (w' := w) ?_ (.pure c hk (by
          rw [add_addr, hsz, Nat.mul_one]
          have := (q3.drop i.toNat).take 1
          rw [hone] at this
          exact .p _ _ (.pto _ gi _ (fun _ => q2) this)))
        have hgv : a.eval (.global gi) = .pointer (some ⟨gi, 0, none⟩) := rfl
        simp [execOp, ho, Instr.indexAt, hi, asIntOf, underlying, hu, hgv, Instr.sureAddr, h0, h1, sizeOf, typeInfo, hinf]
      · exact h.elim
    · exact h.elim
  split at h
  · rename_i k i hevi
    rw [hevi] at hi
    have hi := hi.inv_int
    split at h
    · rename_i n el id off hd hev
      have hu := und hd (by simp)
      rw [hev] at hx
      obtain ⟨hp, hc, hb⟩ := hx.inv_ref
      split at h
      · rename_i inf hinf
        unfold Ob at h
        obtain ⟨⟨h0, h1⟩, hk⟩ := h
        refine .value (v := .pointer (some ((⟨g.ι id, off, none⟩ : Addr).add (i.toNat * inf.size)))) (w' := w) ?_ (.pure c hk (by rw [add_addr]; exact .ref id _ hc hb))
        simp [execOp, ho, Instr.indexAt, hi, asIntOf, underlying, hu, hp, Instr.sureAddr, h0, h1, sizeOf, typeInfo, hinf]
      · exact h.elim
    · rename_i n el id tot hd hev
      have hu := und hd (by simp)
      rw [hev] at hx
      split at h
      · rename_i inf sz xs ty hinf hg
        split at h
        · rename_i hsz
          have hsz := Nat.eq_of_beq_eq_true hsz
          unfold Ob at h
          obtain ⟨⟨ht, h0, h1⟩, hk⟩ := h
          have hs : σ id = some (.buf sz xs ty) := (c.agree id (hT id (by rw [hev]; simp [ids, ids1]))).trans hg
          have hp := hx.inv_eptr hs ht
          simp only [Nat.zero_mul, Nat.zero_add] at hp
          refine .value (v := .pointer (some ((⟨g.ι id, 0, none⟩ : Addr).add (i.toNat * inf.size)))) (w' := w) ?_ (.pure c hk ?_)
          · simp [execOp, ho, Instr.indexAt, hi, asIntOf, underlying, hu, hp, Instr.sureAddr, h0, h1, sizeOf, typeInfo, hinf]
          · rw [add_addr, hsz]
            obtain ⟨ad, _, hC, htt, hd'⟩ := hx.inv_eptr2
            refine .eptr id tot _ _ _ hC htt (fun sz' xs' ty' hs' hl' => ?_)
            have hR := (hd' _ _ _ hs' hl').2
            rw [hs] at hs'; cases hs'
            exact ⟨by simp, hR⟩
        · exact h.elim
      · exact h.elim
    · rename_i n el cs hd hev
      have hu := und hd (by simp)
      rw [hev] at hx
      obtain ⟨b, off, hp, hcs, hnb⟩ := hx.inv_pto
      split at h
      · rename_i inf hinf
        unfold Ob at h
        obtain ⟨⟨h0, h1⟩, hk⟩ := h
        refine .value (v := .pointer (some ((⟨b, off, none⟩ : Addr).add (i.toNat * inf.size)))) (w' := w) ?_ (.pure c hk ?_)
        · simp [execOp, ho, Instr.indexAt, hi, asIntOf, underlying, hu, hp, Instr.sureAddr, h0, h1, sizeOf, typeInfo, hinf]
        · rw [add_addr]
          exact .p _ _ (.pto _ b _ (fun hne => hnb (fun e => hne (by rw [e]; simp))) (hcs.drop _))
      · exact h.elim
    · rename_i el k' sz xs hd hev
      have hu := und hd (by simp)
      rw [hev] at hx
      split at h
      · rename_i inf hinf
        split at h
        · rename_i hsz
          have hsz := Nat.eq_of_beq_eq_true hsz
          unfold Idx at h
          obtain ⟨h0, y, hy, hk⟩ := h
          generalize hax : a.eval x = ax at *
          cases hx.inv_p with
          | nil => simp at hy
          | spt => simp at hy
          | sl _ _ _ b off cap hk' hc hl hs hb hcells =>
            have hlt : i.toNat < xs.length := (List.getElem?_eq_some_iff.1 hy).1
            refine .value (v := .pointer (some ((⟨b, off, none⟩ : Addr).add (i.toNat * inf.size)))) (w' := w) ?_ (.pure c hk ?_)
            · have h1 : i < (xs.length : Int) := by omega
              simp [execOp, ho, hax, Instr.indexAt, hi, asIntOf, underlying, hu, h0, h1, sizeOf, typeInfo, hinf]
            · rw [add_addr, hsz]
              have hd' := flat_drop hs hy
              have hne : ∀ q : y.cells ≠ [], flat xs ≠ [] := fun q e => by
                rw [e] at hd'; simp at hd'; exact q hd'.1
              have := (hcells.drop (i.toNat * sz)).take y.cells.length
              rw [hd', List.take_left' rfl] at this
              exact .p _ _ (.pto _ b _ (fun q => hb (hne q)) this)
        · exact h.elim
      · exact h.elim
    · rename_i el id tot off len hd hev
      have hu := und hd (by simp)
      rw [hev] at hx
      split at h
      · rename_i inf sz xs ty hinf hg
        split at h
        · rename_i hsz
          have hsz := Nat.eq_of_beq_eq_true hsz
          unfold Ob at h
          obtain ⟨⟨ht, h0, h1⟩, hk⟩ := h
          have hs : σ id = some (.buf sz xs ty) := (c.agree id (hT id (by rw [hev]; simp [ids, ids1]))).trans hg
          obtain ⟨hq0, hC, htt, hd'⟩ := hx.inv_osl
          have hV := hd' _ _ _ hs ht
          have hR := hV.pos hq0 (by omega)
          obtain ⟨ad, cap, ⟨hy, _⟩, q1, q2, q3⟩ := hV.real hR
          obtain ⟨rfl, _⟩ := q3 (by omega)
          refine .value (v := .pointer (some ((⟨g.ι id, off * sz, none⟩ : Addr).add (i.toNat * inf.size)))) (w' := w) ?_ (.pure c hk ?_)
          · simp [execOp, ho, hy, Instr.indexAt, hi, asIntOf, underlying, hu, h0, h1, sizeOf, typeInfo, hinf]
          · rw [add_addr, hsz]
            refine .eptr id tot _ _ _ hC htt (fun sz' xs' ty' hs' hl' => ?_)
            rw [hs] at hs'; cases hs'
            exact ⟨by rw [Nat.add_mul, Nat.add_zero], hR⟩
        · exact h.elim
      · exact h.elim
    · exact h.elim
  · exact h.elim

theorem ok_index {t : Nat} {x ix : Operand} (ho : o.op = .index t x ix) (h : aop P (.index t x ix) e s K) (c : Cx w g σ s T N) (he : EnvR w g σ e a.tmps) : OpOk P o a w (Rs w g σ s T K) := by
  simp only [aop] at h
  have hx := ev_rep he x
  have hi := ev_rep he ix
  split at h
  · rename_i k i hevi
    rw [hevi] at hi
    have hi := hi.inv_int
    split at h
    · rename_i l hd hev
      have hu := und hd (by simp)
      rw [hev] at hx
      obtain ⟨b, hb, rfl⟩ := hx.inv_str
      unfold IdxB at h
      obtain ⟨h0, y, hy, hk⟩ := h
      refine .value (v := .int .u8 y.toNat) (w' := w) ?_ (.pure c hk (.mkInt _ _))
      have hlt : i.toNat < b.size := by have := (List.getElem?_eq_some_iff.1 hy).1; simpa using this
      have hby : b[i.toNat]? = some y := by
        rw [getElem?_pos b i.toNat hlt]
        have : b[i.toNat] = b.data.toList[i.toNat]'(by simpa using hlt) := by simp [ByteArray.getElem_eq_getElem_data]
        rw [this, ← hy]; simp [hlt]
      simp [execOp, ho, Instr.index, hi, asIntOf, underlying, hu, hb, h0, hby]
    · rename_i n el cs hd hev
      have hu := und hd (by simp)
      rw [hev] at hx
      split at h
      · rename_i hkd
        unfold Ob Idx at h
        obtain ⟨h1, h0, y, hy, hk⟩ := h
        generalize hax : a.eval x = ax at *
        cases hx.inv_p with
        | agg _ xs hs =>
          obtain ⟨z, hz, hr⟩ := hs.get hy
          refine .value (v := z) (w' := w) ?_ (.pure c hk (.p _ _ hr))
          unfold kd at hkd
          split at hkd
          · rename_i d inf hde hinf
            simp only [Option.some.injEq, Prod.mk.injEq] at hkd
            obtain ⟨p1, p2⟩ := part_run (P := P) (w := w) hde hinf xs i.toNat
            simp [execOp, ho, hax, Instr.index, hi, asIntOf, underlying, hu, h0, h1, sizeOf, typeInfo, hinf, hkd.2, p2 hkd.1 z hz]
          · cases hkd
      · exact h.elim
    · exact h.elim
  · exact h.elim

theorem ok_range {t : Nat} {x : Operand} (ho : o.op = .range t x) (h : aop P (.range t x) e s K) (hN : ∀ v s', K v s' → s.length < s'.length → N) (c : Cx w g σ s T N) (hT : ∀ id, id ∈ ids (ev e x) → T id) (he : EnvR w g σ e a.tmps) : OpOk P o a w (Rs w g σ s T K) := by
  simp only [aop] at h
  have hx := ev_rep he x
  split at h
  · rename_i l hd hev
    have hu := und hd (by simp)
    rw [hev] at hx
    rw [snoc_eq] at h
    obtain ⟨b, hb, rfl⟩ := hx.inv_str
    have m := More.alloc w (.stringIter b 0)
    refine .value (v := .pointer (some ⟨w.heap.size, 0, none⟩)) (w' := w.alloc (.stringIter b 0)) ?_ ?_
    · simp [execOp, ho, Instr.range, underlying, hu, hb]
    · refine Rs.new c m (o := .iterS b.data.toList 0) (.iterS _ 0 b (by simp) (by omega) m.at) ?_ h (hN _ _ h (by simp))
      have := RepA.it (w := w.alloc (.stringIter b 0)) (g := g.new s.length w.heap.size) (σ := σ.put s.length (.iterS b.data.toList 0)) s.length (.inr rfl) (by simp [St.put])
      simpa [G.new] using this
  · rename_i kt vt id hd hev
    split at h
    · rename_i kk es clock hg
      rw [snoc_eq] at h
      exact rangeM ho (und hd (by simp)) hev hg h (hN _ _ h (by simp)) c (hT id (by rw [hev]; simp [ids, ids1])) he
    · exact h.elim
  · exact h.elim

theorem ok_next {x : Operand} {isS : Bool} (ho : o.op = .next x isS) (h : aop P (.next x isS) e s K) (c : Cx w g σ s T N) (hT : ∀ id, id ∈ ids (ev e x) → T id) (hTm : ∀ id mid bs left, isS = false → ev e x = .it id → getO s id = some (.iterM mid bs left) → T mid) (he : EnvR w g σ e a.tmps) : OpOk P o a w (Rs w g σ s T K) := by
  simp only [aop] at h
  have hx := ev_rep he x
  split at h
  · rename_i id hev
    rw [hev] at hx
    obtain ⟨hp, hC⟩ := hx.inv_it
    split at h
    · rename_i rest pos hg
      have hTi := hT id (by rw [hev]; simp [ids, ids1])
      have hs : σ id = some (.iterS rest pos) := (c.agree id hTi).trans hg
      rw [setK_eq] at h
      unfold BrL at h
      have hR := c.inv.real hs (by simp)
      cases c.inv.rep _ _ hs hR with
      | iterS _ _ b hb hpos hw =>
        by_cases hne : rest = []
        · have hk := h.1 hne
          have hge : ¬ pos < b.size := by
            intro hlt
            rw [hne] at hb
            have := congrArg List.length hb; simp at this; omega
          refine .value (v := .tuple #[.bool false]) (w' := w) ?_ (.pure c hk (.tup _ [_] (.cons _ _ _ _ (.mkBool _) .nil)))
          simp [execOp, ho, Instr.next, hp, getObj, Sem.run, hw, hge]
        · have hk := h.2 hne
          have hlt : pos < b.size := by
            refine Nat.lt_of_not_le (fun hle => hne ?_)
            rw [← hb]; exact List.drop_eq_nil_of_le (by simpa using hle)
          have hdec : Utf8.decode b pos = decode rest := by rw [← hb, decode_drop]
          refine .value (v := .tuple #[.bool true, .int .i64 pos, .int .i32 (decode rest).1]) (w' := { w with heap := w.heap.setIfInBounds (g.ι id) (.stringIter b (pos + (decode rest).2)) }) ?_ ?_
          · simp [execOp, ho, Instr.next, hp, getObj, setObj, Sem.run, hw, hlt, hdec, goInt]
          · have hsz := (c.inv.lies _ _ hs hR).1
            have hat : (w.heap.setIfInBounds (g.ι id) (.stringIter b (pos + (decode rest).2)))[g.ι id]? = some (.stringIter b (pos + (decode rest).2)) := by simp [hsz]
            refine Rs.set c hTi hg hR (o' := .iterS (rest.drop (decode rest).2) (pos + (decode rest).2)) trivial ⟨by simp, rfl, rfl, rfl, fun k hk' => ?_, ?_, Nat.le_refl _⟩ (fun hx => ?_) (fun hx => ?_) hk
            · simp [Array.getElem?_setIfInBounds_ne (Ne.symm hk')]
            · simp [World.shape?, hat, hw]
            · refine .iterS _ _ b (by rw [← hb, List.drop_drop]) ?_ hat
              -- the width stays inside
              have : pos + (Utf8.decode b pos).2 ≤ b.size := by
                unfold Utf8.decode
                simp only []
                repeat' split
                all_goals simp_all
                all_goals omega
              rw [← hdec]; exact this
            · exact .tup _ [_, _, _] (.cons _ _ _ _ (.mkBool _) (.cons _ _ _ _ (.mkInt _ _) (.cons _ _ _ _ (.mkInt _ _) .nil)))
    · exact h.elim
  · rename_i id hev
    split at h
    · rename_i mid bs left hg
      split at h
      · rename_i kk es clock hgm
        exact nextM ho hev hg hgm h c (hT id (by rw [hev]; simp [ids, ids1])) (hTm id mid bs left rfl hev hg) he
      · exact h.elim
    · exact h.elim
  · exact h.elim

theorem zeroT_run {t : Nat} {z : PV} (hz : zeroT P t = some z) : ∃ v, (zeroValue t).run P w = .ok v w ∧ RepA w g σ (.p z) v ∧ (∃ i, P.info? t = some i ∧ i.zero = some v) := by
  unfold zeroT at hz
  split at hz
  · rename_i i hi
    split at hz
    · rename_i v hv
      exact ⟨v, by simp [zeroValue, typeInfo, hi, hv], .p _ _ ((absP_rep w _ 200).1 v z hz), i, hi, hv⟩
    · cases hz
  · cases hz

theorem ok_typeAssert {x : Operand} {u t : Nat} {ok : Bool} (ho : o.op = .typeAssert x u t ok) (h : aop P (.typeAssert x u t ok) e s K) (c : Cx w g σ s T N) (he : EnvR w g σ e a.tmps) : OpOk P o a w (Rs w g σ s T K) := by
  simp only [aop] at h
  have hx := ev_rep he x
  split at h
  · exact h.elim
  · exact h.elim
  · rename_i d hni hd
    have hnot : ∀ ms, d ≠ .interface ms := fun ms e => hni ms (by rw [e])
    have yes : ∀ {v : PV} {y : Value}, a.eval x = .iface t y → RepP w (Lv g σ) v y → (ok = true → K (.tup [.p v, .p (.bool true)]) s) → (ok = false → K (.p v) s) → OpOk P o a w (Rs w g σ s T K) := by
      intro v y hp hr h1 h2
      cases hb : ok with
      | true =>
        refine .value (v := .tuple #[y, .bool true]) (w' := w) ?_ (.pure c (h1 hb) (.tup _ [_, _] (.cons _ _ _ _ (.p _ _ hr) (.cons _ _ _ _ (.mkBool _) .nil))))
        subst hb
        cases d <;> first | exact absurd rfl (hnot _) | simp [execOp, ho, Instr.typeAssert, underlying, hd, hp]
      | false =>
        refine .value (v := y) (w' := w) ?_ (.pure c (h2 hb) (.p _ _ hr))
        subst hb
        cases d <;> first | exact absurd rfl (hnot _) | simp [execOp, ho, Instr.typeAssert, underlying, hd, hp]
    have no : ∀ {z : PV}, ok = true → (a.eval x = .nilIface ∨ ∃ t' y, a.eval x = .iface t' y ∧ t' ≠ t) → zeroT P t = some z → K (.tup [.p z, .p (.bool false)]) s → OpOk P o a w (Rs w g σ s T K) := by
      intro z hb hp hz hk
      obtain ⟨v, hv, hr, _⟩ := zeroT_run (w := w) (g := g) (σ := σ) hz
      refine .value (v := .tuple #[v, .bool false]) (w' := w) ?_ (.pure c hk (.tup _ [_, _] (.cons _ _ _ _ hr (.cons _ _ _ _ (.mkBool _) .nil))))
      subst hb
      rcases hp with hp | ⟨t', y, hp, hne⟩
      · cases d <;> first | exact absurd rfl (hnot _) | simp [execOp, ho, Instr.typeAssert, underlying, hd, hp, hv]
      · cases d <;> first | exact absurd rfl (hnot _) | simp [execOp, ho, Instr.typeAssert, underlying, hd, hp, hv, hne]
    split at h
    · rename_i t' v hev
      rw [hev] at hx
      have : ∃ y, a.eval x = .iface t' y ∧ RepP w (Lv g σ) v y := by
        generalize a.eval x = ax at *
        cases hx.inv_p; exact ⟨_, rfl, by assumption⟩
      obtain ⟨y, hp, hr⟩ := this
      split at h
      · rename_i hb
        have := Nat.eq_of_beq_eq_true hb; subst this
        exact yes hp hr (fun _ => h) (fun q => by cases q)
      · rename_i hb
        have := Nat.eq_of_beq_eq_true hb; subst this
        exact yes hp hr (fun q => by cases q) (fun _ => h)
      · rename_i hb
        split at h
        · rename_i z hz; exact no rfl (.inr ⟨t', y, hp, fun e => by subst e; simp at hb⟩) hz h
        · exact h.elim
      · exact h.elim
    · rename_i hev
      rw [hev] at hx
      split at h
      · rename_i z hz; exact no rfl (.inl hx.inv_lit.1) hz h
      · exact h.elim
    · exact h.elim
end ops
end Go.Proofs.Ytneheklmkbhieaa.AW

namespace Go.Proofs.Ytneheklmkbhieaa.AW
set_option linter.unusedSimpArgs false
set_option linter.unusedVariables false
section ops
variable {P : Program} {o : Oper} {e : Env} {s : Store} {K : AV → Store → Prop} {w : World} {g : G} {σ : St} {a : Act} {T : Nat → Prop} {N : Prop}

theorem sb_run (isS : Bool) (len cap : Nat) (lo hi : Option Value) (i j : Int) (hlo : (lo = none ∧ i = 0) ∨ ∃ k, lo = some (.int k i)) (hhi : (hi = none ∧ j = len) ∨ ∃ k, hi = some (.int k j))
    (h0 : 0 ≤ i) (h1 : i ≤ j) (h2 : j ≤ cap) : (Instr.sliceBounds isS len cap lo hi none).run P w = .ok (i.toNat, j.toNat, cap) w := by
  have hj : i ≤ (j.toNat : Int) := by omega
  have hj0 : 0 ≤ j := by omega
  rcases hlo with ⟨rfl, rfl⟩ | ⟨k, rfl⟩ <;> rcases hhi with ⟨rfl, rfl⟩ | ⟨k', rfl⟩
  · simp [Instr.sliceBounds]
  · simp [Instr.sliceBounds, run_sliceBound, hj0, h2]
  · simp [Instr.sliceBounds, run_sliceBound, h0, h1]
  · have e1 := fun code => run_sliceBound (P := P) (w := w) k i j.toNat code h0 hj
    simp [Instr.sliceBounds, run_sliceBound, hj0, h2, e1]

theorem sb_run3 (isS : Bool) (len cap : Nat) (lo : Option Value) (i j m : Int) (k' k'' : IntKind) (hlo : (lo = none ∧ i = 0) ∨ ∃ k, lo = some (.int k i))
    (h0 : 0 ≤ i) (h1 : i ≤ j) (h2 : j ≤ m) (h3 : m ≤ cap) : (Instr.sliceBounds isS len cap lo (some (.int k' j)) (some (.int k'' m))).run P w = .ok (i.toNat, j.toNat, m.toNat) w := by
  have hj : i ≤ (j.toNat : Int) := by omega
  have hj0 : 0 ≤ j := by omega
  have hm0 : 0 ≤ m := by omega
  have hjm : j ≤ (m.toNat : Int) := by omega
  rcases hlo with ⟨rfl, rfl⟩ | ⟨k, rfl⟩
  · have e2 := fun code => run_sliceBound (P := P) (w := w) k' j m.toNat code hj0 hjm
    simp [Instr.sliceBounds, run_sliceBound, hm0, h3, e2]
  · have e1 := fun code => run_sliceBound (P := P) (w := w) k i j.toNat code h0 hj
    have e2 := fun code => run_sliceBound (P := P) (w := w) k' j m.toNat code hj0 hjm
    simp [Instr.sliceBounds, run_sliceBound, hm0, h3, e1, e2]

theorem cutK_ne {k : SK} (h : k ≠ .nil) : cutK k ≠ .nil := by cases k <;> simp_all [cutK]
theorem capK_ne {k : SK} (h : k ≠ .nil) : capK k ≠ .nil := by cases k <;> simp_all [capK]
theorem cutK_clip (k : SK) : cutK k ≠ .clip := by cases k <;> simp [cutK]

theorem bnd_rep {x : Option Operand} {d : Int} {K' : Int → Prop} (he : EnvR w g σ e a.tmps) (h : bnd e x d K') : ∃ i, K' i ∧ ((x = none ∧ x.map a.eval = none ∧ i = d) ∨ (x ≠ none ∧ ∃ k, x.map a.eval = some (.int k i))) := by
  unfold bnd at h
  split at h
  · exact ⟨d, h, .inl ⟨rfl, rfl, rfl⟩⟩
  · rename_i y
    have hy := ev_rep he y
    split at h
    · rename_i k n hev
      rw [hev] at hy
      exact ⟨n, h, .inr ⟨by simp, k, by simp [hy.inv_int]⟩⟩
    · exact h.elim

theorem ok_slice {t : Nat} {x : Operand} {lo hi mx : Option Operand} (ho : o.op = .slice t x lo hi mx) (h : aop P (.slice t x lo hi mx) e s K) (c : Cx w g σ s T N) (hT : ∀ id, id ∈ ids (ev e x) → T id) (he : EnvR w g σ e a.tmps) : OpOk P o a w (Rs w g σ s T K) := by
  simp only [aop, sliceA] at h
  have hx := ev_rep he x
  split at h
  · rename_i hd
    have hu := und hd (by simp)
    split at h
    · rename_i l hev
      rw [hev] at hx
      obtain ⟨b, hb, rfl⟩ := hx.inv_str
      obtain ⟨i, h, hi'⟩ := bnd_rep (a := a) he h
      obtain ⟨j, h, hj'⟩ := bnd_rep (a := a) he h
      unfold Ob at h
      obtain ⟨⟨h0, h1, h2⟩, hk⟩ := h
      have hlen : (b.data.toList.length : Int) = b.size := by simp
      rw [hlen] at h2 hj'
      have hsb := sb_run (P := P) (w := w) false b.size b.size (lo.map a.eval) (hi.map a.eval) i j
        (by rcases hi' with ⟨_, q1, q2⟩ | ⟨_, k, q⟩ <;> first | exact .inl ⟨q1, q2⟩ | exact .inr ⟨k, q⟩) (by rcases hj' with ⟨_, q1, q2⟩ | ⟨_, k, q⟩ <;> first | exact .inl ⟨q1, q2⟩ | exact .inr ⟨k, q⟩) h0 h1 h2
      refine .value (v := .string (b.extract i.toNat j.toNat)) (w' := w) ?_ (.pure c hk (.p _ _ ?_))
      · simp [execOp, ho, Instr.sliceAt, Instr.slice, underlying, hu, hb, hsb]
      · have := RepP.str (w := w) (B := Lv g σ) (b.extract i.toNat j.toNat)
        have e1 : (b.extract i.toNat j.toNat).data.toList = (b.data.toList.take j.toNat).drop i.toNat := by
          rw [ByteArray.data_extract]; simp [List.drop_take]
        rw [e1] at this; exact this
    · exact h.elim
  · rename_i el hd
    have hu := und hd (by simp)
    split at h
    · exact h.elim
    · rename_i inf hinf
      split at h
      · rename_i k sz xs hev
        rw [hev] at hx
        generalize hax : a.eval x = ax at *
        split at h
        · exact h.elim
        · rename_i hsz
          obtain ⟨i, h, hi'⟩ := bnd_rep (a := a) he h
          obtain ⟨j, h, hj'⟩ := bnd_rep (a := a) he h
          have hlo : (lo.map a.eval = none ∧ i = 0) ∨ ∃ k, lo.map a.eval = some (.int k i) := by
            rcases hi' with ⟨_, q1, q2⟩ | ⟨_, k, q⟩ <;> first | exact .inl ⟨q1, q2⟩ | exact .inr ⟨k, q⟩
          have hhi : (hi.map a.eval = none ∧ j = xs.length) ∨ ∃ k, hi.map a.eval = some (.int k j) := by
            rcases hj' with ⟨_, q1, q2⟩ | ⟨_, k, q⟩ <;> first | exact .inl ⟨q1, q2⟩ | exact .inr ⟨k, q⟩
          -- one cut, whatever the bounds
          have cut : ∀ (k2 : SK) (m : Nat → Int), (k = .nil → k2 = .nil) → (k ≠ .nil → k2 ≠ .nil) → 0 ≤ i → i ≤ j → j ≤ xs.length →
              (∀ cap, xs.length ≤ cap → (k = .clip → cap = xs.length) → j ≤ m cap ∧ m cap ≤ cap ∧ (k2 = .clip → m cap = j) ∧ (Instr.sliceBounds true xs.length cap (lo.map a.eval) (hi.map a.eval) (mx.map a.eval)).run P w = .ok (i.toNat, j.toNat, (m cap).toNat) w) →
              K (.p (.sl k2 sz ((xs.take j.toNat).drop i.toNat))) s → OpOk P o a w (Rs w g σ s T K) := by
            intro k2 m hk1 hk2 h0 h1 h2 hm hk
            cases hx.inv_p with
            | nil =>
              obtain ⟨q1, q2, q3, q4⟩ := hm 0 (by simp) (fun q => by simp)
              simp only [List.length_nil] at q4 h2
              have hi0 : i = 0 := by simp at h2; omega
              have hj0 : j = 0 := by simp at h2; omega
              subst hi0; subst hj0
              have hm0 : (m 0).toNat = 0 := by omega
              rw [hm0] at q4
              refine .value (v := .slice none 0 0) (w' := w) ?_ (.pure c hk (.p _ _ (by simpa using RepP.nil k2 sz)))
              simp only [Int.toNat_zero] at q4
              simp [execOp, ho, hax, Instr.sliceAt, Instr.slice, underlying, hu, q4, sizeOf, typeInfo, hinf]
            | spt _ _ ad hk' =>
              obtain ⟨q1, q2, q3, q4⟩ := hm 0 (by simp) (fun q => by simp)
              simp only [List.length_nil] at q4 h2
              have hi0 : i = 0 := by simp at h2; omega
              have hj0 : j = 0 := by simp at h2; omega
              subst hi0; subst hj0
              have hm0 : (m 0).toNat = 0 := by omega
              rw [hm0] at q4
              refine .value (v := .slice (some ad) 0 0) (w' := w) ?_ (.pure c hk (.p _ _ (by simpa using RepP.spt k2 sz ad (hk2 hk'))))
              simp only [Int.toNat_zero] at q4
              simp [execOp, ho, hax, Instr.sliceAt, Instr.slice, underlying, hu, q4, sizeOf, typeInfo, hinf]
            | sl _ _ _ b off cap hk' hc hl hs hb hcells =>
              obtain ⟨q1, q2, q3, q4⟩ := hm cap hl hc
              have hsz' : inf.size = sz := by
                have : (k == SK.nil) = false := by simpa using hk'
                rw [this, Bool.false_or] at hsz
                exact Nat.eq_of_beq_eq_true hsz
              have hnl : ((xs.take j.toNat).drop i.toNat).length = j.toNat - i.toNat := by simp; omega
              have hmem : ∀ z, z ∈ (xs.take j.toNat).drop i.toNat → El sz z := fun z hz => hs z (List.mem_of_mem_take (List.mem_of_mem_drop hz))
              have hfl : flat ((xs.take j.toNat).drop i.toNat) = ((flat xs).take (j.toNat * sz)).drop (i.toNat * sz) := by
                rw [flat_dropN _ _ (fun z hz => hs z (List.mem_of_mem_take hz)), flat_takeN _ _ hs]
              have hcut : CellsP w (Lv g σ) b (off + i.toNat * sz) (flat ((xs.take j.toNat).drop i.toNat)) := by
                rw [hfl]; exact (hcells.take _).drop _
              have hne : flat ((xs.take j.toNat).drop i.toNat) ≠ [] → ¬ Lv g σ b := fun q => hb (fun e => q (by rw [hfl, e]; simp))
              refine .value (v := .slice (some (if (m cap).toNat = i.toNat then ⟨b, off, none⟩ else (⟨b, off, none⟩ : Addr).add (i.toNat * inf.size))) (j.toNat - i.toNat) ((m cap).toNat - i.toNat)) (w' := w) ?_ (.pure c hk (.p _ _ ?_))
              · simp only [execOp, ho, hax, Instr.sliceAt, Instr.slice, underlying, run_program, Sem.run_bind, hu, Result.andThen_ok, Sem.run_pure, q4, sizeOf, typeInfo, hinf]
                split <;> simp
              · rw [← hnl]
                split
                · rename_i hmi
                  have hz : (xs.take j.toNat).drop i.toNat = [] := List.eq_nil_of_length_eq_zero (by rw [hnl]; omega)
                  have := RepP.sl (w := w) (B := Lv g σ) k2 sz ((xs.take j.toNat).drop i.toNat) b off ((m cap).toNat - i.toNat) (hk2 hk') (fun q => by rw [hnl, q3 q]) (by rw [hnl]; omega) hmem hne (by rw [hz]; exact .nil _ _)
                  exact this
                · rw [add_addr, hsz']
                  exact .sl k2 sz _ b _ _ (hk2 hk') (fun q => by rw [hnl, q3 q]) (by rw [hnl]; omega) hmem hne hcut
          split at h
          · unfold Ob at h
            obtain ⟨⟨h0, h1⟩, hk⟩ := h
            have hj : j = xs.length := by rcases hj' with ⟨_, _, q⟩ | ⟨q, _⟩ <;> first | exact q | exact absurd rfl q
            refine cut k (fun cap => cap) (fun q => q) (fun q => q) h0 h1 (by omega) (fun cap hc1 hc2 => ⟨by omega, by omega, fun q => by rw [hc2 q, hj], ?_⟩) ?_
            · have := sb_run (P := P) (w := w) true xs.length cap (lo.map a.eval) none i j hlo (.inl ⟨rfl, hj⟩) h0 h1 (by omega)
              simpa using this
            · have : xs.take j.toNat = xs := List.take_of_length_le (by omega)
              rw [this]; exact hk
          · unfold Ob at h
            obtain ⟨⟨h0, h1, h2⟩, hk⟩ := h
            refine cut (cutK k) (fun cap => cap) (fun q => by rw [q]; rfl) (fun q => cutK_ne q) h0 h1 h2 (fun cap hc1 hc2 => ⟨by omega, by omega, (fun q => absurd q (cutK_clip k)), ?_⟩) hk
            have := sb_run (P := P) (w := w) true xs.length cap (lo.map a.eval) _ i j hlo hhi h0 h1 (by omega)
            simpa using this
          · obtain ⟨m, h, hm'⟩ := bnd_rep (a := a) he h
            unfold Ob at h
            obtain ⟨⟨h0, h1, hbm, h2⟩, hk⟩ := h
            subst hbm
            rcases hj' with ⟨q, _⟩ | ⟨_, k1, hk1⟩
            · cases q
            rcases hm' with ⟨q, _⟩ | ⟨_, k3, hk3⟩
            · cases q
            refine cut (capK k) (fun _ => j) (fun q => by rw [q]; rfl) (fun q => capK_ne q) h0 h1 h2 (fun cap hc1 hc2 => ⟨by omega, by omega, fun _ => rfl, ?_⟩) hk
            rw [hk1, hk3]
            exact sb_run3 (P := P) (w := w) true xs.length cap (lo.map a.eval) i j j k1 k3 hlo h0 h1 (by omega) (by omega)
          · exact h.elim
      · rename_i id tot off len hev
        rw [hev] at hx
        split at h
        · rename_i sz xs ty hg
          split at h
          · rename_i hsz
            have hsz := Nat.eq_of_beq_eq_true hsz
            obtain ⟨i, h, hi'⟩ := bnd_rep (a := a) he h
            obtain ⟨j, h, hj'⟩ := bnd_rep (a := a) he h
            unfold Ob at h
            obtain ⟨⟨ht, h0, h1, h2⟩, hk⟩ := h
            have hs : σ id = some (.buf sz xs ty) := (c.agree id (hT id (by rw [hev]; simp [ids, ids1]))).trans hg
            obtain ⟨hq0, hC, htt, hd'⟩ := hx.inv_osl
            have hV := hd' _ _ _ hs ht
            by_cases hR : g.R id
            rotate_left 1
            · obtain ⟨hy, ho0⟩ := hV.2.1 hR
              have hl0 : len = 0 := by
                obtain ⟨q, cp, e, hq⟩ := hq0
                rw [hy] at e; cases e; rfl
              subst hl0; subst ho0
              have hi0 : i = 0 := by omega
              have hj0 : j = 0 := by omega
              subst hi0; subst hj0
              have hsb := sb_run (P := P) (w := w) true 0 0 (lo.map a.eval) (hi.map a.eval) 0 0
                (by rcases hi' with ⟨_, q1, q2⟩ | ⟨_, k, q⟩ <;> first | exact .inl ⟨q1, q2⟩ | exact .inr ⟨k, q⟩) (by rcases hj' with ⟨_, q1, q2⟩ | ⟨_, k, q⟩ <;> first | exact .inl ⟨q1, q2⟩ | exact .inr ⟨k, q⟩) (by omega) (by omega) (by omega)
              refine .value (v := .slice none 0 0) (w' := w) ?_ (.pure c hk ?_)
              · simp only [Int.toNat_zero] at hsb
                simp [execOp, ho, hy, Instr.sliceAt, Instr.slice, underlying, hu, hsb, sizeOf, typeInfo, hinf]
              · rw [hy] at hx; exact hx
            obtain ⟨ad, cap, ⟨hy, hsp⟩, q1, q2, q3⟩ := hV.real hR
            have hsb := sb_run (P := P) (w := w) true len cap (lo.map a.eval) (hi.map a.eval) i j
              (by rcases hi' with ⟨_, q1, q2⟩ | ⟨_, k, q⟩ <;> first | exact .inl ⟨q1, q2⟩ | exact .inr ⟨k, q⟩) (by rcases hj' with ⟨_, q1, q2⟩ | ⟨_, k, q⟩ <;> first | exact .inl ⟨q1, q2⟩ | exact .inr ⟨k, q⟩) h0 h1 (by omega)
            refine .value (v := .slice (some (if cap = i.toNat then ad else ad.add (i.toNat * inf.size))) (j.toNat - i.toNat) (cap - i.toNat)) (w' := w) ?_ (.pure c hk ?_)
            · simp only [execOp, ho, hy, Instr.sliceAt, Instr.slice, underlying, run_program, Sem.run_bind, hu, Result.andThen_ok, Sem.run_pure, Option.map_none, hsb, sizeOf, typeInfo, hinf]
              split <;> simp
            · rw [show j.toNat - i.toNat = (j - i).toNat by omega]
              refine .osl id tot _ _ _ hC ⟨_, _, rfl, fun q => by cases q⟩ htt (fun sz' xs' ty' hs' hl' => ?_)
              rw [hs] at hs'; cases hs'
              refine ⟨by omega, fun q => absurd hR q, fun _ => ⟨_, _, rfl, (by split <;> first | exact hsp | (unfold Addr.add; split <;> first | exact hsp | rfl)), by omega, fun hc0 => ?_⟩⟩
              have hcap : ¬ cap = i.toNat := by omega
              obtain ⟨rfl, hroom⟩ := q3 (by omega)
              refine ⟨?_, ?_⟩
              · rw [if_neg hcap, add_addr, hsz, Nat.add_mul]
              · rw [show off + i.toNat + (cap - i.toNat) = off + cap by omega]; exact hroom
          · exact h.elim
        · exact h.elim
      · exact h.elim
  · rename_i n el hd
    have hu := und hd (by simp)
    split at h
    · rename_i id tot hev
      rw [hev] at hx
      split at h
      · rename_i inf sz xs ty hinf hg
        split at h
        · rename_i hsz
          have hsz := Nat.eq_of_beq_eq_true hsz
          obtain ⟨i, h, hi'⟩ := bnd_rep (a := a) he h
          obtain ⟨j, h, hj'⟩ := bnd_rep (a := a) he h
          unfold Ob at h
          obtain ⟨⟨ht, hnt, h0, h1, h2⟩, hk⟩ := h
          have hs : σ id = some (.buf sz xs ty) := (c.agree id (hT id (by rw [hev]; simp [ids, ids1]))).trans hg
          have hp := hx.inv_eptr hs ht
          simp only [Nat.zero_mul, Nat.zero_add] at hp
          obtain ⟨_, _, hC, htt, hRR⟩ := hx.inv_eptr2
          have hR := (hRR _ _ _ hs ht).2
          have hsb := sb_run (P := P) (w := w) false n n (lo.map a.eval) (hi.map a.eval) i j
            (by rcases hi' with ⟨_, q1, q2⟩ | ⟨_, k, q⟩ <;> first | exact .inl ⟨q1, q2⟩ | exact .inr ⟨k, q⟩) (by rcases hj' with ⟨_, q1, q2⟩ | ⟨_, k, q⟩ <;> first | exact .inl ⟨q1, q2⟩ | exact .inr ⟨k, q⟩) h0 h1 (by omega)
          refine .value (v := .slice (some (if n = i.toNat then ⟨g.ι id, 0, none⟩ else (⟨g.ι id, 0, none⟩ : Addr).add (i.toNat * inf.size))) (j.toNat - i.toNat) (n - i.toNat)) (w' := w) ?_ (.pure c hk ?_)
          · simp [execOp, ho, hp, Instr.sliceAt, underlying, hu, hsb, sizeOf, typeInfo, hinf, Instr.sureAddr]
          · rw [show j.toNat - i.toNat = (j - i).toNat by omega]
            refine .osl id tot _ _ _ hC ⟨_, _, rfl, fun q => by cases q⟩ htt (fun sz' xs' ty' hs' hl' => ?_)
            rw [hs] at hs'; cases hs'
            refine ⟨by omega, fun q => absurd hR q, fun _ => ⟨_, _, rfl, (by split <;> first | rfl | (unfold Addr.add; split <;> rfl)), by omega, fun hc0 => ?_⟩⟩
            have hcap : ¬ n = i.toNat := by omega
            refine ⟨?_, ?_⟩
            · rw [if_neg hcap, add_addr, hsz, Nat.zero_add]
            · rw [show i.toNat + (n - i.toNat) = n by omega]
              cases c.inv.rep _ _ hs hR with
              | buf _ _ vs hz hsz' hn hr hare _ _ =>
                obtain ⟨e1, f1, hh, _⟩ := hare
                refine ⟨e1, vs.length, by unfold World.shape?; rw [hh]; simp, ?_⟩
                have e2 : n = xs.length := by omega
                rw [e2, Nat.mul_comm]; exact hn
        · exact h.elim
      · exact h.elim
    · exact h.elim
  · exact h.elim
end ops
end Go.Proofs.Ytneheklmkbhieaa.AW

namespace Go.Proofs.Ytneheklmkbhieaa.AW
set_option linter.unusedSimpArgs false
set_option linter.unusedVariables false
section ops
variable {P : Program} {o : Oper} {e : Env} {s : Store} {K : AV → Store → Prop} {w : World} {g : G} {σ : St} {a : Act} {T : Nat → Prop} {N : Prop}

/-- Not a number's type (append's second argument). -/
def notInt (P : Program) (u : Nat) : Prop := ∃ d, P.underlying u = some d ∧ ∀ k, d ≠ .int k

set_option maxHeartbeats 2000000 in
theorem run_app_grow {ts : Array TypeId} {t u ty el : Nat} (hts : ts[0]? = some t ∧ ts[1]? = some u) {i : TypeInfo} {z : Value} (ht : P.underlying t = some (.slice el)) (hi : P.info? el = some i) (hz : i.zero = some z) (hu : notInt P u)
    {base : Option Addr} {sLen sCap n : Nat} {x : Value} {olds news : List Value} (hn : (Builtin.lenOf x).run P w = .ok n w)
    (hold : ∀ w', (∀ b, b < w.heap.size → w'.heap[b]? = w.heap[b]?) → (Builtin.firstCells i.size sLen (.slice base sLen sCap)).run P w' = .ok olds.toArray w')
    (hnew : ∀ w', (∀ b, b < w.heap.size → w'.heap[b]? = w.heap[b]?) → (Builtin.firstCells i.size n x).run P w' = .ok news.toArray w')
    (hgrow : sCap < sLen + n) (hb : (sLen + n) * i.bytes ≤ 140737488355328) (hb1 : 1 ≤ i.bytes) :
    ∃ cap, sLen + n ≤ cap ∧ (Builtin.append_ ts ty #[.slice base sLen sCap, x]).run P w =
      .ok (.slice (some ⟨w.heap.size, 0, none⟩) (sLen + n) cap) (w.drew.alloc (.cells (olds.toArray ++ (news.toArray ++ Builtin.zeroCells z.cells (cap - (sLen + n)))) el)) := by
  refine ⟨grownCap w (sLen + n) sCap el, grownCap_ge _ _ _ _, ?_⟩
  obtain ⟨d, hd, hdi⟩ := hu
  have hf := growslice_fits hgrow hb
  have hnr : ¬ sLen + n ≤ sCap := by omega
  have hnf : ¬ 2 ^ 48 < Builtin.nextslicecap (sLen + n) sCap * i.bytes := by omega
  have hb0 : ¬ i.bytes = 0 := by omega
  have ho := hold w.drew (fun _ _ => rfl)
  have hw := hnew w.drew (fun _ _ => rfl)
  cases d <;> first
    | exact absurd rfl (hdi _)
    | simp [Builtin.append_, hts.1, hts.2, run_underlying ht, run_underlying hd, sizeOf, typeInfo, hi, hn, hnr, hnf, hb0, Question.forced, grownCap, zeroValue, hz, newRow, ho, hw, Result.andThen]

set_option maxHeartbeats 2000000 in
theorem run_app_room {ts : Array TypeId} {t u ty el : Nat} (hts : ts[0]? = some t ∧ ts[1]? = some u) {i : TypeInfo} (ht : P.underlying t = some (.slice el)) (hi : P.info? el = some i) (hu : notInt P u)
    {base : Option Addr} {sLen sCap n : Nat} {x : Value} {news : List Value} (hn : (Builtin.lenOf x).run P w = .ok n w)
    (hnew : (Builtin.firstCells i.size n x).run P w = .ok news.toArray w) (hroom : sLen + n ≤ sCap) {w' : World}
    (hst : ∀ ad, base = some ad → (storeCells (ad.add (sLen * i.size)) news 0).run P w = .ok () w') (hnone : base = none → w' = w) :
    (Builtin.append_ ts ty #[.slice base sLen sCap, x]).run P w = .ok (.slice base (sLen + n) sCap) w' := by
  obtain ⟨d, hd, hdi⟩ := hu
  cases base with
  | none =>
    have := hnone rfl
    subst this
    cases d <;> first
      | exact absurd rfl (hdi _)
      | simp [Builtin.append_, hts.1, hts.2, run_underlying ht, run_underlying hd, sizeOf, typeInfo, hi, hn, hroom, hnew, Result.andThen]
  | some ad =>
    have := hst ad rfl
    cases d <;> first
      | exact absurd rfl (hdi _)
      | simp [Builtin.append_, hts.1, hts.2, run_underlying ht, run_underlying hd, sizeOf, typeInfo, hi, hn, hroom, hnew, this, Result.andThen]

theorem bytes_cells (l : List UInt8) (B : Nat → Prop) : RepPs w B (flat (bytesP l)) (l.map fun b => Value.int .u8 b.toNat) := by
  rw [bytesP_eq, flat_ints]
  have := ints_rep .u8 (l.map fun b => (b.toNat : Int)) w B
  have e : (l.map fun b => (b.toNat : Int)).map (Value.int .u8) = l.map fun b => Value.int .u8 b.toNat := by rw [List.map_map]; rfl
  rw [← e]; exact this

/-- The second argument of append: its elements. -/
structure Second (P : Program) (w : World) (g : G) (σ : St) (size : Nat) (x : Value) (ys : List PV) (news : List Value) : Prop where
  len : (Builtin.lenOf x).run P w = .ok ys.length w
  rep : RepPs w (Lv g σ) (flat ys) news
  cells : ∀ y, y ∈ ys → El size y
  read : ∀ w', (∀ b, b < w.heap.size → w'.heap[b]? = w.heap[b]?) → (Builtin.firstCells size ys.length x).run P w' = .ok news.toArray w'

theorem RepP.one {B : Nat → Prop} {v : PV} {x : Value} (h : RepP w B v x) (hv : v.one = true) : x.oneCell' = true := by
  cases h <;> first
    | rfl
    | (simp [PV.one] at hv; done)
    | (rename_i hl; cases x <;> first | rfl | exact hl.elim)

theorem RepPs.ones {B : Nat → Prop} : ∀ {vs : List PV} {xs : List Value}, RepPs w B vs xs → (∀ c, c ∈ vs → c.one = true) → ∀ x ∈ xs, x.oneCell' = true
  | _, _, .nil, _, x, hx => by cases hx
  | _, _, .cons v y vs ys h hs, hv, x, hx => by
    rcases List.mem_cons.1 hx with rfl | hx
    · exact h.one (hv _ (by simp))
    · exact hs.ones (fun c hc => hv c (by simp [hc])) x hx

theorem flat_one {sz : Nat} {ys : List PV} (h : ∀ y, y ∈ ys → El sz y) : ∀ c, c ∈ flat ys → c.one = true := by
  intro c hc
  obtain ⟨y, hy, hcy⟩ := List.mem_flatMap.1 hc
  exact List.all_eq_true.1 (h y hy).2 c hcy

theorem Second.one {size : Nat} {x : Value} {ys : List PV} {news : List Value} (h : Second P w g σ size x ys news) : ∀ v ∈ news, v.oneCell' = true := h.rep.ones (flat_one h.cells)
theorem Second.newsLen {size : Nat} {x : Value} {ys : List PV} {news : List Value} (h : Second P w g σ size x ys news) : news.length = size * ys.length := by
  rw [← h.rep.len, flat_len h.cells]

theorem zcells {z : PV} {v : Value} (h : RepA w g σ (.p z) v) : v.cells.size = z.cells.length := by
  cases h.inv_p <;> first
    | rfl
    | (rename_i cs a hs; simp [Value.cells, PV.cells, hs.len])
    | (rename_i hl; cases v <;> first | rfl | exact hl.elim)

theorem flat_append (xs ys : List PV) : flat (xs ++ ys) = flat xs ++ flat ys := by simp [flat]

/-- A row that has moved: the object's block is a new one. -/
theorem tagB_eq {el u : Nat} (h : tagB P el = some u) : u = el := by
  unfold tagB at h
  split at h
  · cases h; rfl
  · cases h
theorem tyOk_eq {ty : Option Nat} {el u : Nat} (h : tyOk ty el = true) (hu : ty = some u) : u = el := by
  subst hu; exact Nat.eq_of_beq_eq_true h

theorem Rs.move {x : Value} {v : AV} (c : Cx w g σ s T N) {w' : World} {ob : Obj} (m : More w w' ob) {id sz : Nat} {xs xs' : List PV} {ty : Option Nat} (hT : T id) (hs : getO s id = some (.buf sz xs ty)) (hlt : xs.length < xs'.length)
    (hO : ∀ g' σ', Ext w g σ w' g' σ' → RepO w' g' σ' w.heap.size (.buf sz xs' ty)) (hv : ∀ g' σ', g'.C id → g'.R id → g'.ι id = w.heap.size → σ' id = some (.buf sz xs' ty) → RepA w' g' σ' v x) (hk : K v (s.set id (some (.buf sz xs' ty)))) : Rs w g σ s T K x w' := by
  have hσ : σ id = some (.buf sz xs ty) := (c.agree id hT).trans hs
  have hC := c.inv.made id _ hσ
  have hl : id < s.length := getO_lt hs
  have hov : ovr T s (s.set id (some (.buf sz xs' ty))) σ = σ.put id (.buf sz xs' ty) := c.ovr_set hT hl _
  let g' : G := { ι := fun i => if i = id then w.heap.size else g.ι i, X := g.X, C := g.C, R := fun i => i = id ∨ g.R i }
  have hRo : ∀ i, i ≠ id → (g'.R i ↔ g.R i) := fun i hi => by simp [g', hi]
  have hι : ∀ i, i ≠ id → g'.ι i = g.ι i := fun i hi => by simp [g', hi]
  have hι0 : g'.ι id = w.heap.size := by simp [g']
  have hsome : ∀ i, σ.put id (.buf sz xs' ty) i ≠ none → σ i ≠ none := fun i h => by
    by_cases hi : i = id
    · subst hi; rw [hσ]; simp
    · simpa [St.put, hi] using h
  have hext : Ext w g σ w' g' (σ.put id (.buf sz xs' ty)) := {
    drawn := m.drawn
    size := by rw [m.size]; omega
    os := m.os
    tape := m.tape
    output := m.output
    frame := fun b hb _ => m.old hb
    shape := fun b hb => shape_same (m.old hb)
    X := rfl
    C := fun _ h => h
    own := fun b hb ⟨i, h1, hr, h2⟩ => by
      by_cases hi : i = id
      · subst hi; rw [hι0] at h2; omega
      · rw [hι i hi] at h2; exact ⟨i, hsome i h1, (hRo i hi).1 hr, h2⟩
    obj := fun i hc oo ho => by
      by_cases hi : i = id
      · subst hi; simp [St.put] at ho; subst ho; exact ⟨_, hσ, rfl, by omega, rfl⟩
      · simp [St.put, hi] at ho; exact ⟨oo, ho, .refl _⟩
    ι1 := fun i _ hn => ⟨hι i (fun e => hn _ _ _ (e ▸ hσ)), hRo i (fun e => hn _ _ _ (e ▸ hσ))⟩
    ι2 := fun i sz' ys ys' ty1 ty2 _ h1 h2 h3 => by
      by_cases hi : i = id
      · subst hi; rw [hσ] at h1; cases h1; simp [St.put] at h2; have e2 : xs' = ys' := by simp_all
        subst e2; omega
      · exact ⟨hι i hi, hRo i hi⟩ }
  refine ⟨v, s.set id (some (.buf sz xs' ty)), g', hk, by simp, fun i hi hlt => ?_, ?_, ?_, ?_, fun i h => .inl h⟩
  · rw [getO_set s id _ i hl, if_neg (fun (e : i = id) => hi (by rw [e]; exact hT))]
  · rw [hov]; exact hv g' _ hC (.inl rfl) hι0 (by simp [St.put])
  · rw [hov]
    refine ⟨fun i oo h => ?_, fun i oo h hr => ?_, fun b hb => by rw [m.size]; have := c.inv.xlt b hb; omega, fun i j h k hri hrj hij => ?_, fun i oo h hr => ?_, fun i oo h hr => ?_⟩
    · obtain ⟨o2, ho2⟩ := Option.ne_none_iff_exists'.1 (hsome i (by rw [h]; simp)); exact c.inv.made _ _ ho2
    · by_cases hi : i = id
      · subst hi; rw [hι0, m.size]; exact ⟨by omega, fun hx => by have := c.inv.xlt _ hx; omega⟩
      · rw [hι i hi, m.size]
        obtain ⟨o2, ho2⟩ := Option.ne_none_iff_exists'.1 (hsome i (by rw [h]; simp))
        have := c.inv.lies _ _ ho2 ((hRo i hi).1 hr); exact ⟨by omega, this.2⟩
    · by_cases hi : i = id
      · by_cases hj : j = id
        · rw [hi, hj]
        · subst hi; rw [hι0, hι j hj] at hij
          obtain ⟨o2, ho2⟩ := Option.ne_none_iff_exists'.1 (hsome j k)
          have := (c.inv.lies _ _ ho2 ((hRo j hj).1 hrj)).1; omega
      · by_cases hj : j = id
        · subst hj; rw [hι0, hι i hi] at hij
          obtain ⟨o2, ho2⟩ := Option.ne_none_iff_exists'.1 (hsome i h)
          have := (c.inv.lies _ _ ho2 ((hRo i hi).1 hri)).1; omega
        · rw [hι i hi, hι j hj] at hij
          exact c.inv.inj i j (hsome i h) (hsome j k) ((hRo i hi).1 hri) ((hRo j hj).1 hrj) hij
    · by_cases hi : i = id
      · subst hi; rw [hι0]; simp [St.put] at h; subst h; exact hO g' _ hext
      · simp [St.put, hi] at h; rw [hι i hi]
        have hr' := (hRo i hi).1 hr
        exact hext.repO (m.old (c.inv.lies _ _ h hr').1) (c.inv.rep _ _ h hr')
    · by_cases hi : i = id
      · exact absurd (.inl hi) hr
      · simp [St.put, hi] at h
        exact c.inv.void _ _ h (fun q => hr ((hRo i hi).2 q))
  · rw [hov]; exact hext

theorem firstCells_of {ad : Addr} {n m cap : Nat} {size : Nat} {vs : List Value} (hl : vs.length = n * size) (w' : World) (h : ∀ j v, vs[j]? = some v → w'.cell? (ad.add j) = some v) :
    (Builtin.firstCells size n (.slice (some ad) m cap)).run P w' = .ok vs.toArray w' := run_firstCells_some (P := P) w' size n ad m cap vs hl h

theorem ok_app {t u el : Nat} {x y : Operand} {ts : Array TypeId} {ysz : Nat} {ys : List PV} {news : List Value} (ho : o.op = .call ⟨.builtin .append, #[x, y], ts⟩) (hts : ts[0]? = some t ∧ ts[1]? = some u)
    (h : appA P t (ev e x) ysz ys s K) (hN : ∀ v s', K v s' → s.length < s'.length → N) (hy : ∀ i, P.info? el = some i → P.underlying t = some (.slice el) → ysz = i.size → Second P w g σ i.size (a.eval y) ys news)
    (c : Cx w g σ s T N) (hT : ∀ id, id ∈ ids (ev e x) → T id) (he : EnvR w g σ e a.tmps) (hu : notInt P u) (hel : P.underlying t = some (.slice el)) : OpOk P o a w (Rs w g σ s T K) := by
  unfold appA at h
  have hx := ev_rep he x
  have hd : dsc P t = .slice el := by simp [dsc, hel]
  rw [hd] at h
  simp only [] at h
  have fin : ∀ {r : Value} {w' : World}, (Builtin.append_ ts o.type #[a.eval x, a.eval y]).run P w = .ok r w' → Rs w g σ s T K r w' → OpOk P o a w (Rs w g σ s T K) := by
    intro r w' hr hR
    refine .value (v := r) (w' := w') ?_ hR
    simp [execOp, ho, resolve, invoke, builtin, hr]
  split at h
  · rename_i i z' hi hz
    obtain ⟨zv, _, hzr, i', hi', hzv⟩ := zeroT_run (w := w) (g := g) (σ := σ) hz
    rw [hi] at hi'; cases hi'
    split at h
    · rename_i hb1 hb2
      simp only [Bool.and_eq_true] at hb1
      have hsz := Nat.eq_of_beq_eq_true hb1.1.1
      have hb := Nat.le_of_ble_eq_true hb1.1.2
      have hs1 := Nat.le_of_ble_eq_true hb2
      have hzs : zv.cells.size = i.size := by
        rw [← Nat.eq_of_beq_eq_true hb1.2]
        exact zcells hzr
      subst hsz
      have S := hy i hi hel rfl
      have grow : ∀ {base : Option Addr} {sLen sCap : Nat} {olds : List Value} {xs : List PV}, a.eval x = .slice base sLen sCap → xs.length = sLen → (∀ z, z ∈ xs → El i.size z) → RepPs w (Lv g σ) (flat xs) olds →
          (∀ w', (∀ b, b < w.heap.size → w'.heap[b]? = w.heap[b]?) → (Builtin.firstCells i.size sLen (.slice base sLen sCap)).run P w' = .ok olds.toArray w') →
          sCap < sLen + ys.length → (sLen + ys.length) * i.bytes ≤ 140737488355328 → K (.osl s.length (xs ++ ys).length 0 (xs ++ ys).length) (s ++ [some (.buf i.size (xs ++ ys) (tagB P el))]) → OpOk P o a w (Rs w g σ s T K) := by
        intro base sLen sCap olds xs hp hxl hel' hr hread hg hbb hk
        obtain ⟨cap, hcap, hrun⟩ := run_app_grow (P := P) (w := w) (ty := o.type) hts hel hi hzv hu S.len hread S.read hg hbb hb
        have m : More w (w.drew.alloc (.cells (olds.toArray ++ (news.toArray ++ Builtin.zeroCells zv.cells (cap - (sLen + ys.length)))) el)) (.cells (olds.toArray ++ (news.toArray ++ Builtin.zeroCells zv.cells (cap - (sLen + ys.length)))) el (0, 0)) := ⟨rfl, rfl, rfl, rfl, Nat.le_succ _⟩
        refine fin (by rw [hp]; exact hrun) ?_
        have hlen : (olds ++ news).length = i.size * (xs ++ ys).length := by
          rw [List.length_append, S.newsLen, ← hr.len, flat_len hel', List.length_append, Nat.mul_add]
        have hn : N := hN _ _ hk (by simp)
        have hsh0 : (w.drew.alloc (.cells (olds.toArray ++ (news.toArray ++ Builtin.zeroCells zv.cells (cap - (sLen + ys.length)))) el)).shape? w.heap.size = some (el, (olds.toArray ++ (news.toArray ++ Builtin.zeroCells zv.cells (cap - (sLen + ys.length)))).size) := by
          simp only [World.shape?, m.at]
        refine Rs.new c m (o := .buf i.size (xs ++ ys) (tagB P el)) ?_ ?_ hk hn
        · refine .buf i.size (xs ++ ys) ((olds ++ news) ++ (Builtin.zeroCells zv.cells (cap - (sLen + ys.length))).toList) (by omega) (fun q hq => ?_) ?_ ?_ ⟨el, (0, 0), ?_, .inl rfl⟩ _ (fun u hu => by rw [tagB_eq hu]; exact ⟨_, hsh0⟩)
          · rcases List.mem_append.1 hq with hq | hq
            · exact hel' q hq
            · exact S.cells q hq
          · rw [← hlen, List.length_append (as := olds ++ news)]; omega
          · rw [← hlen, List.take_left' rfl, flat_append]
            exact ((c.ext_new m _ hn).repPs hr).append ((c.ext_new m _ hn).repPs S.rep)
          · rw [m.at]; simp
        · have := RepA.osl (w := w.drew.alloc (.cells (olds.toArray ++ (news.toArray ++ Builtin.zeroCells zv.cells (cap - (sLen + ys.length)))) el)) (g := g.new s.length w.heap.size) (σ := σ.put s.length (.buf i.size (xs ++ ys) (tagB P el))) s.length (xs ++ ys).length 0 (xs ++ ys).length
            (.slice (some ⟨w.heap.size, 0, none⟩) (xs ++ ys).length cap) (.inr rfl) ⟨_, _, rfl, fun q => by cases q⟩ (fun sz zs ty q => by simp [St.put] at q; rw [← q.2.1]; simp) (fun sz zs ty q _ => by
              simp [St.put] at q
              obtain ⟨rfl, rfl, _⟩ := q
              refine ⟨by omega, fun q => absurd (.inl rfl) q, fun _ => ⟨_, _, rfl, rfl, by rw [List.length_append, hxl]; exact hcap, fun _ => ⟨by simp [G.new], ?_⟩⟩⟩
              have hsh : (w.drew.alloc (.cells (olds.toArray ++ (news.toArray ++ Builtin.zeroCells zv.cells (cap - (sLen + ys.length)))) el)).shape? w.heap.size = some (el, (olds.toArray ++ (news.toArray ++ Builtin.zeroCells zv.cells (cap - (sLen + ys.length)))).size) := by
                simp only [World.shape?, m.at]
              refine ⟨el, _, by simpa [G.new] using hsh, ?_⟩
              have h1 : olds.length = i.size * sLen := by rw [← hr.len, flat_len hel', hxl]
              have h2 := S.newsLen
              simp only [size_zeroCells, hzs, h1, h2]
              rw [Nat.zero_add, Nat.mul_comm (cap - (sLen + ys.length)), ← Nat.mul_add, ← Nat.mul_add, Nat.mul_comm]
              exact Nat.mul_le_mul_left _ (by omega))
          rw [List.length_append, hxl] at this
          rw [List.length_append, hxl]
          exact this
      have nochange : ∀ {v : AV} {base : Option Addr} {sLen sCap : Nat}, a.eval x = .slice base sLen sCap → ys = [] → sLen ≤ sCap → K v s → RepA w g σ v (.slice base sLen sCap) → OpOk P o a w (Rs w g σ s T K) := by
        intro v base sLen sCap hp hys hc hk hr
        subst hys
        have hn0 : news = [] := by have := S.newsLen; simpa using this
        subst hn0
        have := run_app_room (P := P) (w := w) (w' := w) (ty := o.type) (base := base) (sLen := sLen) (sCap := sCap) hts hel hi hu S.len (by simpa using S.read w (fun _ _ => rfl)) (by simpa using hc) (fun _ _ => rfl) (fun _ => rfl)
        refine fin (by rw [hp]; exact this) (.pure c hk (by simpa using hr))
      split at h
      · rename_i sz xs hev
        rw [hev] at hx
        unfold Ob at h
        generalize hax : a.eval x = ax at *
        cases hx.inv_p with
        | nil => exact nochange rfl h.1 (Nat.le_refl _) h.2 hx
        | spt => exact nochange rfl h.1 (Nat.le_refl _) h.2 hx
        | sl _ _ _ b off cap hk' hc' hl' hs' hb' hcells => exact nochange rfl h.1 hl' h.2 hx
      · rename_i sz xs hev
        rw [hev] at hx
        rw [snoc_eq] at h
        unfold BrL Ob at h
        have hp : a.eval x = .slice none 0 0 := by
          generalize a.eval x = ax at *
          cases hx.inv_p with
          | nil => rfl
          | sl _ _ _ b off cap hk' => exact absurd rfl hk'
          | spt _ _ _ hk => exact absurd rfl hk
        by_cases hys : ys = []
        · exact nochange hp hys (Nat.le_refl _) (h.1 hys) (.p _ _ (.nil .nil 0))
        · obtain ⟨hbb, hk⟩ := h.2 hys
          have hpos : 0 < ys.length := List.length_pos_iff.2 hys
          exact grow (xs := []) hp rfl (fun z hz => by cases hz) .nil (fun w' _ => by simp [Builtin.firstCells]) (by omega) (by simpa using hbb) (by simpa using hk)
      · rename_i sz xs hev
        rw [hev] at hx
        split at h
        · rename_i hsz
          have hsz := Nat.eq_of_beq_eq_true hsz
          rw [snoc_eq] at h
          unfold BrL Ob at h
          generalize hax : a.eval x = ax at *
          cases hx.inv_p with
          | nil =>
            by_cases hys : ys = []
            · exact nochange rfl hys (Nat.le_refl _) (h.1 hys) hx
            · obtain ⟨hbb, hk⟩ := h.2 hys
              have hpos : 0 < ys.length := List.length_pos_iff.2 hys
              subst hsz
              exact grow (xs := []) rfl rfl (fun z hz => by cases hz) .nil (fun w' _ => by simp [Builtin.firstCells]) (by omega) (by simpa using hbb) (by simpa using hk)
          | spt =>
            by_cases hys : ys = []
            · exact nochange rfl hys (Nat.le_refl _) (h.1 hys) hx
            · obtain ⟨hbb, hk⟩ := h.2 hys
              have hpos : 0 < ys.length := List.length_pos_iff.2 hys
              subst hsz
              exact grow (xs := []) rfl rfl (fun z hz => by cases hz) .nil (fun w' _ => firstCells_of (by simp) w' (fun j v hj => by simp at hj)) (by omega) (by simpa using hbb) (by simpa using hk)
          | sl _ _ _ b off cap hk' hc' hl' hs' hb' hcells =>
            have hcap := hc' rfl
            by_cases hys : ys = []
            · exact nochange rfl hys hl' (h.1 hys) hx
            · obtain ⟨hbb, hk⟩ := h.2 hys
              have hpos : 0 < ys.length := List.length_pos_iff.2 hys
              subst hsz
              obtain ⟨olds, h1, h2⟩ := hcells.values
              have hol : olds.length = xs.length * i.size := by rw [← h1.len, flat_len hs', Nat.mul_comm]
              refine grow (xs := xs) rfl rfl hs' h1 (fun w' hw' => ?_) (by omega) hbb hk
              refine firstCells_of hol w' (fun j v hj => ?_)
              rw [add_addr]
              have hcl := h2 j v hj
              rw [cell_same (hw' b (lt_of_cell hcl))]; exact hcl
        · exact h.elim
      · rename_i id tot off len hev
        rw [hev] at hx
        split at h
        · rename_i sz xs ty hg
          split at h
          · rename_i hsz
            simp only [Bool.and_eq_true] at hsz
            have hty := hsz.2
            have hsz := Nat.eq_of_beq_eq_true hsz.1
            subst hsz
            rw [setK_eq] at h
            unfold Ob at h
            obtain ⟨⟨ht, ho0, hlt, hbb⟩, hk⟩ := h
            subst ho0
            have hTi : T id := hT id (by rw [hev]; simp [ids, ids1])
            have hs : σ id = some (.buf i.size xs ty) := (c.agree id hTi).trans hg
            obtain ⟨hq0, hC, htt, hd'⟩ := hx.inv_osl
            have hV := hd' _ _ _ hs ht
            by_cases hR : g.R id
            rotate_left 1
            · obtain ⟨hp, _⟩ := hV.2.1 hR
              obtain ⟨sz', ty', hz0, e⟩ := c.inv.void _ _ hs hR
              cases e
              have hl0 : len = 0 := by rw [hlt, ← ht]; rfl
              subst hl0
              by_cases hys : ys = []
              · subst hys
                refine nochange hp rfl (Nat.le_refl _) (v := .osl id tot 0 0) ?_ (by rw [hp] at hx; exact hx)
                rw [List.append_nil, set_same hg] at hk
                rw [← ht]; exact hk
              · have hpos : 0 < ys.length := List.length_pos_iff.2 hys
                obtain ⟨cap', hcap', hrun⟩ := run_app_grow (P := P) (w := w) (ty := o.type) (base := none) (sLen := 0) (sCap := 0) (olds := []) hts hel hi hzv hu S.len (fun w' _ => by simp [Builtin.firstCells]) S.read (by omega) hbb hb
                have m : More w (w.drew.alloc (.cells (([] : List Value).toArray ++ (news.toArray ++ Builtin.zeroCells zv.cells (cap' - (0 + ys.length)))) el)) (.cells (([] : List Value).toArray ++ (news.toArray ++ Builtin.zeroCells zv.cells (cap' - (0 + ys.length)))) el (0, 0)) := ⟨rfl, rfl, rfl, rfl, Nat.le_succ _⟩
                have h2 := S.newsLen
                refine fin (by rw [hp]; exact hrun) (Rs.move c m hTi hg (by simpa using hpos) (fun g' σ' hx' => ?_) (fun g' σ' hC' hR' hι' hσ' => ?_) hk)
                · refine .buf i.size ([] ++ ys) (news ++ (Builtin.zeroCells zv.cells (cap' - (0 + ys.length))).toList) hz0 (fun q hq => S.cells q (by simpa using hq)) ?_ ?_ ⟨el, (0, 0), ?_, .inl rfl⟩ _ (fun u hu => by rw [tyOk_eq hty hu]; exact ⟨_, (by simp only [World.shape?, m.at]; rfl)⟩)
                  · rw [List.nil_append, ← h2, List.length_append]; omega
                  · rw [List.nil_append, ← h2, List.take_left' rfl]
                    exact hx'.repPs S.rep
                  · rw [m.at]; simp
                · have hxy : 0 + ys.length = ([] ++ ys).length := by simp
                  have hval : Value.slice (some ⟨w.heap.size, 0, none⟩) (0 + ys.length) cap' = Value.slice (some ⟨w.heap.size, 0, none⟩) ([] ++ ys).length cap' := by rw [hxy]
                  rw [hval]
                  refine .osl id _ 0 _ _ hC' ⟨_, _, rfl, fun q => by cases q⟩ (fun sz zs ty q => by rw [hσ'] at q; cases q; exact Nat.le_refl _) (fun sz zs ty q ql => ?_)
                  rw [hσ'] at q; cases q
                  refine ⟨by omega, fun q => absurd hR' q, fun _ => ⟨_, _, rfl, rfl, by simpa using hcap', fun _ => ⟨by rw [hι']; simp, ?_⟩⟩⟩
                  rw [hι']
                  have hsh : (w.drew.alloc (.cells (([] : List Value).toArray ++ (news.toArray ++ Builtin.zeroCells zv.cells (cap' - (0 + ys.length)))) el)).shape? w.heap.size = some (el, (([] : List Value).toArray ++ (news.toArray ++ Builtin.zeroCells zv.cells (cap' - (0 + ys.length)))).size) := by
                    simp only [World.shape?, m.at]
                  refine ⟨el, _, hsh, ?_⟩
                  simp only [Array.size_append, List.size_toArray, size_zeroCells, hzs, h2]
                  rw [Nat.zero_add, Nat.zero_add, Nat.mul_comm i.size ys.length, List.length_nil, Nat.zero_add, ← Nat.add_mul]
                  exact Nat.mul_le_mul_right _ (by omega)
            obtain ⟨ad, cap, ⟨hp, hsp⟩, q1, q2, q3⟩ := hV.real hR
            cases c.inv.rep _ _ hs hR with
            | buf _ _ vs hz0 hs' hn hr hare _ htyp =>
              by_cases hroom : len + ys.length ≤ cap
              · -- in place
                have hst : ∃ w', (∀ q, some ad = some q → (storeCells (q.add (len * i.size)) news 0).run P w = .ok () w') ∧ cellsAre w' (g.ι id) (spliceV vs (len * i.size) news) ∧ Turned w w' (g.ι id) := by
                  by_cases hc0 : 0 < cap
                  · obtain ⟨had, e', m', hsh, hm'⟩ := q3 hc0
                    have hvl : m' = vs.length := by
                      obtain ⟨e2, f2, hb1', _⟩ := hare
                      simp only [World.shape?, hb1', Option.some.injEq, Prod.mk.injEq] at hsh
                      rw [← hsh.2]; simp
                    obtain ⟨w', k1, k2, k3⟩ := run_storeCells (P := P) (w := w) (b := g.ι id) news (off := len * i.size) (i := 0) hare (by
                      rw [S.newsLen, ← hvl]
                      have : (len + ys.length) * i.size ≤ (0 + cap) * i.size := Nat.mul_le_mul_right _ (by omega)
                      rw [Nat.add_mul] at this
                      rw [Nat.mul_comm i.size ys.length]; omega) S.one
                    refine ⟨w', fun q hq => ?_, by simpa using k2, k3⟩
                    cases hq
                    rw [had, add_addr, show 0 * i.size + len * i.size = len * i.size by omega]
                    exact k1
                  · have h0 : ys.length = 0 := by omega
                    have hn0 : news = [] := List.eq_nil_of_length_eq_zero (by rw [S.newsLen, h0]; simp)
                    subst hn0
                    exact ⟨w, fun q _ => rfl, by simpa [spliceV] using hare, .refl _ _⟩
                obtain ⟨w', hrun, hare', hturn⟩ := hst
                have := run_app_room (P := P) (w := w) (w' := w') (ty := o.type) (base := some ad) (sLen := len) (sCap := cap) hts hel hi hu S.len (S.read w (fun _ _ => rfl)) hroom hrun (fun q => by cases q)
                refine fin (by rw [hp]; exact this) (Rs.set c hTi hg hR (o' := .buf i.size (xs ++ ys) ty) ⟨rfl, by simp, rfl⟩ hturn (fun hx' => ?_) (fun hx' => ?_) hk)
                · refine .buf _ _ (spliceV vs (len * i.size) news) hz0 (fun q hq => ?_) ?_ ?_ hare' _ (fun u hu => by obtain ⟨n, hn⟩ := htyp u hu; exact ⟨n, hturn.shape.trans hn⟩)
                  · rcases List.mem_append.1 hq with hq | hq
                    · exact hs' q hq
                    · exact S.cells q hq
                  · have hsl : (spliceV vs (len * i.size) news).length = vs.length := by
                      obtain ⟨e1, f1, g1, _⟩ := hare
                      obtain ⟨e2, f2, g2, _⟩ := hare'
                      have hsh := hturn.shape
                      simp only [World.shape?, g1, g2, Option.some.injEq, Prod.mk.injEq] at hsh
                      simpa using hsh.2
                    have h2 := S.newsLen
                    have : (spliceV vs (len * i.size) news).length ≥ len * i.size + news.length := by
                      unfold spliceV; simp
                      have : len * i.size ≤ vs.length := by rw [hlt, ← ht, Nat.mul_comm]; exact hn
                      omega
                    rw [List.length_append, Nat.mul_add, ← h2, ht, ← hlt, Nat.mul_comm i.size len]; exact this
                  · have e1 : (spliceV vs (len * i.size) news).take (i.size * (xs ++ ys).length) = vs.take (i.size * xs.length) ++ news := by
                      unfold spliceV
                      have hle : len * i.size = i.size * xs.length := by rw [hlt, ← ht, Nat.mul_comm]
                      rw [hle, List.length_append, Nat.mul_add, ← S.newsLen]
                      rw [List.take_append_of_le_length (by simp; omega)]
                      rw [List.take_of_length_le (by simp; omega)]
                    rw [e1, flat_append]
                    exact (hx'.repPs hr).append (hx'.repPs S.rep)
                · have hxy : len + ys.length = (xs ++ ys).length := by rw [List.length_append]; omega
                  rw [hxy] at hroom ⊢
                  refine .osl id _ 0 _ _ hC ⟨_, _, rfl, fun q => by cases q⟩ (fun sz zs ty q => ?_) (fun sz zs ty q ql => ?_)
                  · simp [St.put] at q; rw [← q.2.1]; simp
                  · simp [St.put] at q
                    obtain ⟨rfl, rfl, _⟩ := q
                    refine ⟨by omega, fun q => absurd hR q, fun _ => ⟨ad, cap, rfl, hsp, hroom, fun hc0 => ?_⟩⟩
                    obtain ⟨r1, r2⟩ := q3 hc0
                    exact ⟨r1, r2.keep hturn.shape⟩
              · -- a new row
                have hgr : cap < len + ys.length := by omega
                have hol : (vs.take (i.size * xs.length)).length = len * i.size := by rw [← hr.len, flat_len hs', ht, hlt, Nat.mul_comm]
                have hread : ∀ w', (∀ b, b < w.heap.size → w'.heap[b]? = w.heap[b]?) → (Builtin.firstCells i.size len (.slice (some ad) len cap)).run P w' = .ok (vs.take (i.size * xs.length)).toArray w' := by
                  intro w' hw'
                  refine firstCells_of hol w' (fun j v hj => ?_)
                  have hlen0 : 0 < len := by
                    have := (List.getElem?_eq_some_iff.1 hj).1
                    rw [hol] at this
                    exact Nat.pos_of_ne_zero (fun e => by subst e; omega)
                  obtain ⟨had, _⟩ := q3 (by omega)
                  rw [had, add_addr, show 0 * i.size + j = j by omega, cell_same (hw' _ (c.inv.lies _ _ hs hR).1), cell_of_are hare]
                  rw [List.getElem?_take] at hj
                  split at hj
                  · exact hj
                  · cases hj
                obtain ⟨cap', hcap', hrun⟩ := run_app_grow (P := P) (w := w) (ty := o.type) hts hel hi hzv hu S.len hread S.read hgr hbb hb
                have m : More w (w.drew.alloc (.cells ((vs.take (i.size * xs.length)).toArray ++ (news.toArray ++ Builtin.zeroCells zv.cells (cap' - (len + ys.length)))) el)) (.cells ((vs.take (i.size * xs.length)).toArray ++ (news.toArray ++ Builtin.zeroCells zv.cells (cap' - (len + ys.length)))) el (0, 0)) := ⟨rfl, rfl, rfl, rfl, Nat.le_succ _⟩
                have hlen : (vs.take (i.size * xs.length) ++ news).length = i.size * (xs ++ ys).length := by
                  rw [List.length_append, S.newsLen, ← hr.len, flat_len hs', List.length_append, Nat.mul_add]
                have hys : 0 < ys.length := by omega
                refine fin (by rw [hp]; exact hrun) (Rs.move c m hTi hg (by simp; omega) (fun g' σ' hx' => ?_) (fun g' σ' hC' hR' hι' hσ' => ?_) hk)
                · refine .buf i.size (xs ++ ys) ((vs.take (i.size * xs.length) ++ news) ++ (Builtin.zeroCells zv.cells (cap' - (len + ys.length))).toList) hz0 (fun q hq => ?_) ?_ ?_ ⟨el, (0, 0), ?_, .inl rfl⟩ _ (fun u hu => by rw [tyOk_eq hty hu]; exact ⟨_, (by simp only [World.shape?, m.at]; rfl)⟩)
                  · rcases List.mem_append.1 hq with hq | hq
                    · exact hs' q hq
                    · exact S.cells q hq
                  · rw [← hlen, List.length_append (as := vs.take (i.size * xs.length) ++ news)]; omega
                  · rw [← hlen, List.take_left' rfl, flat_append]
                    exact (hx'.repPs hr).append (hx'.repPs S.rep)
                  · rw [m.at]; simp
                · have hxy : len + ys.length = (xs ++ ys).length := by rw [List.length_append]; omega
                  have hval : Value.slice (some ⟨w.heap.size, 0, none⟩) (len + ys.length) cap' = Value.slice (some ⟨w.heap.size, 0, none⟩) (xs ++ ys).length cap' := by rw [hxy]
                  rw [hval]
                  refine .osl id _ 0 _ _ hC' ⟨_, _, rfl, fun q => by cases q⟩ (fun sz zs ty q => by rw [hσ'] at q; cases q; exact Nat.le_refl _) (fun sz zs ty q ql => ?_)
                  rw [hσ'] at q; cases q
                  refine ⟨by omega, fun q => absurd hR' q, fun _ => ⟨_, _, rfl, rfl, by omega, fun _ => ⟨by rw [hι']; simp, ?_⟩⟩⟩
                  rw [hι']
                  have hsh : (w.drew.alloc (.cells ((vs.take (i.size * xs.length)).toArray ++ (news.toArray ++ Builtin.zeroCells zv.cells (cap' - (len + ys.length)))) el)).shape? w.heap.size = some (el, ((vs.take (i.size * xs.length)).toArray ++ (news.toArray ++ Builtin.zeroCells zv.cells (cap' - (len + ys.length)))).size) := by
                    simp only [World.shape?, m.at]
                  refine ⟨el, _, hsh, ?_⟩
                  have h2 := S.newsLen
                  simp only [Array.size_append, List.size_toArray, size_zeroCells, hzs, hol, h2]
                  rw [Nat.zero_add, Nat.mul_comm i.size ys.length, ← Nat.add_mul, ← Nat.add_mul]
                  exact Nat.mul_le_mul_right _ (by omega)
          · exact h.elim
        · exact h.elim
      · exact h.elim
    · exact h.elim
  · exact h.elim
end ops
end Go.Proofs.Ytneheklmkbhieaa.AW

namespace Go.Proofs.Ytneheklmkbhieaa.AW
set_option linter.unusedSimpArgs false
set_option linter.unusedVariables false
section ops
variable {P : Program} {o : Oper} {e : Env} {s : Store} {K : AV → Store → Prop} {w : World} {g : G} {σ : St} {a : Act} {T : Nat → Prop} {N : Prop}

theorem zeroCells_one (z : Value) (n : Nat) : Builtin.zeroCells #[z] n = Array.replicate n z := by
  unfold Builtin.zeroCells
  apply Array.ext
  · simp
  · intro i h1 h2
    simp [Nat.mod_one]

set_option maxRecDepth 10000 in
set_option maxHeartbeats 2000000 in
theorem run_app_zero {ts : Array TypeId} {t u ty el : Nat} (hts : ts[0]? = some t ∧ ts[1]? = some u) {i : TypeInfo} {z : Value} (ht : P.underlying t = some (.slice el)) (hi : P.info? el = some i) (hz : i.zero = some z) (hzc : z.cells = #[z]) {k : IntKind} (hu : P.underlying u = some (.int k)) (hs : i.size = 1)
    {n : Nat} (hn : 1 ≤ n) (hb : n * i.bytes ≤ 140737488355328) (hb1 : 1 ≤ i.bytes) :
    ∃ cap, n ≤ cap ∧ (Builtin.append_ ts ty #[.slice none 0 0, .int .i64 n]).run P w = .ok (.slice (some ⟨w.heap.size, 0, none⟩) n cap) (w.drew.alloc (.cells (Array.replicate n z ++ Array.replicate (cap - n) z) el)) := by
  refine ⟨grownCap w n 0 el, grownCap_ge _ _ _ _, ?_⟩
  have hle : n ≤ 140737488355328 := Nat.le_trans (Nat.le_mul_of_pos_right n hb1) hb
  have hw : IntKind.i64.wrap (n : Int) = n := by rw [IntKind.wrap_i64]; omega
  have h1 : ¬ (n : Int) < 0 := by omega
  have h2 : ¬ (281474976710656 : Int) < (n : Int) * (i.bytes : Int) := by
    have : ((n * i.bytes : Nat) : Int) ≤ ((140737488355328 : Nat) : Int) := Int.ofNat_le.2 hb
    rw [Int.natCast_mul] at this; omega
  have h3 : ¬ n ≤ 0 := by omega
  have h4 : Builtin.nextslicecap n 0 = n := by unfold Builtin.nextslicecap; rw [if_pos (by omega)]
  have h5 : ¬ 281474976710656 < n * i.bytes := by omega
  have h6 : ¬ (9223372036854775807 : Int) < (n : Int) := by omega
  have h7 : ¬ n = 0 := by omega
  have h8 : IntKind.i64.max = 9223372036854775807 := by decide
  have hai : ∀ w, (asInt (.int .i64 (n : Int))).run P w = .ok (n : Int) w := fun w => by simp [asInt, asIntOf]
  simp [Builtin.append_, hts.1, hts.2, run_underlying ht, run_underlying hu, sizeOf, typeInfo, hi, hs, hai, hw, h1, h2, h3, h4, h5, h6, h7, h8, hb1, Question.forced, grownCap, zeroValue, hz, newRow, Builtin.firstCells, hzc, zeroCells_one, Result.andThen]


theorem replicate_rep {B : Nat → Prop} {z : PV} {v : Value} (h : RepP w B z v) : ∀ n, RepPs w B (List.replicate n z) (List.replicate n v)
  | 0 => .nil
  | n + 1 => .cons _ _ _ _ h (replicate_rep h n)
theorem zflat_one : ∀ {xs : List PV}, (∀ x, x ∈ xs → x.one = true) → flat xs = xs
  | [], _ => rfl
  | x :: r, h => by
    have hx := h x (by simp)
    have : x.cells = [x] := by cases x <;> first | rfl | simp [PV.one] at hx
    show x.cells ++ flat r = x :: r
    rw [this, zflat_one fun y hy => h y (by simp [hy])]; rfl

theorem ok_app_zero {ts : Array TypeId} {t u el : Nat} {x y : Operand} (ho : o.op = .call ⟨.builtin .append, #[x, y], ts⟩) (hts : ts[0]? = some t ∧ ts[1]? = some u) (ht : P.underlying t = some (.slice el)) {i : TypeInfo} {z : PV} (hi : P.info? el = some i) (hz : zeroT P el = some z) {k : IntKind} (hu : P.underlying u = some (.int k))
    (hb1 : 1 ≤ i.bytes) (hone : z.one = true) (hs : i.size = 1) (hx : a.eval x = .slice none 0 0) {n : Int} (hy : a.eval y = .int .i64 n) (hn : 1 ≤ n) (hb : n * i.bytes ≤ 140737488355328)
    (h : K (.osl s.length (List.replicate n.toNat z).length 0 (List.replicate n.toNat z).length) (s ++ [some (.buf 1 (List.replicate n.toNat z) (tagB P el))])) (hN : ∀ v s', K v s' → s.length < s'.length → N) (c : Cx w g σ s T N) : OpOk P o a w (Rs w g σ s T K) := by
  obtain ⟨zv, _, hzr, i', hi', hzv⟩ := zeroT_run (w := w) (g := g) (σ := σ) hz
  rw [hi] at hi'; cases hi'
  obtain ⟨m, rfl⟩ : ∃ m : Nat, n = (m : Int) := ⟨n.toNat, by omega⟩
  rw [Int.toNat_natCast] at h
  have hzc : zv.cells = #[zv] := by
    have := hzr.inv_p
    cases this with
    | agg => simp [PV.one] at hone
    | lit _ hl => cases zv <;> first | rfl | exact hl.elim
    | _ => rfl
  have hbm : m * i.bytes ≤ 140737488355328 := by
    have : ((m * i.bytes : Nat) : Int) ≤ 140737488355328 := by rw [Int.natCast_mul]; exact hb
    omega
  obtain ⟨cap, hcap, hrun⟩ := run_app_zero (P := P) (w := w) (ty := o.type) hts ht hi hzv hzc hu hs (by omega : 1 ≤ m) hbm hb1
  have mo : More w (w.drew.alloc (.cells (Array.replicate m zv ++ Array.replicate (cap - m) zv) el)) (.cells (Array.replicate m zv ++ Array.replicate (cap - m) zv) el (0, 0)) := ⟨rfl, rfl, rfl, rfl, Nat.le_succ _⟩
  have hmem : ∀ q, q ∈ List.replicate m z → q = z := fun q hq => (List.mem_replicate.1 hq).2
  have hel : El 1 z := by
    constructor
    · cases z <;> first | rfl | simp [PV.one] at hone
    · cases z <;> first | rfl | simp [PV.one] at hone
  have hsh0 : (w.drew.alloc (.cells (Array.replicate m zv ++ Array.replicate (cap - m) zv) el)).shape? w.heap.size = some (el, (Array.replicate m zv ++ Array.replicate (cap - m) zv).size) := by
    simp only [World.shape?, mo.at]
  refine .value (v := .slice (some ⟨w.heap.size, 0, none⟩) m cap) (w' := w.drew.alloc (.cells (Array.replicate m zv ++ Array.replicate (cap - m) zv) el)) (by simp only [execOp, ho, resolve, invoke, builtin]; simp [hx, hy, hrun]) ?_
  refine Rs.new c mo (o := .buf 1 (List.replicate m z) (tagB P el)) ?_ ?_ h (hN _ _ h (by simp))
  · refine .buf 1 (List.replicate m z) (List.replicate m zv ++ List.replicate (cap - m) zv) (by decide) (fun q hq => by rw [hmem q hq]; exact hel) (by simp) ?_ ⟨el, (0, 0), ?_, .inl rfl⟩ _ (fun u' hu' => by rw [tagB_eq hu']; exact ⟨_, hsh0⟩)
    · rw [zflat_one (fun q hq => by rw [hmem q hq]; exact hone), List.length_replicate, Nat.one_mul, List.take_left' (by simp)]
      exact (c.ext_new mo _ (hN _ _ h (by simp))).repPs (replicate_rep hzr.inv_p m)
    · rw [mo.at]; simp
  · refine .osl s.length _ 0 _ _ (.inr rfl) ⟨_, _, by rw [List.length_replicate], fun q => by cases q⟩ (fun sz zs ty q => by simp [St.put] at q; rw [← q.2.1]; simp) (fun sz zs ty q _ => ?_)
    simp [St.put] at q
    obtain ⟨rfl, rfl, _⟩ := q
    refine ⟨by simp, fun q => absurd (.inl rfl) q, fun _ => ⟨_, _, by rw [List.length_replicate], rfl, by simpa using hcap, fun _ => ⟨by simp [G.new], el, _, by simpa [G.new] using hsh0, ?_⟩⟩⟩
    simp; omega
end ops
end Go.Proofs.Ytneheklmkbhieaa.AW
