/- A part of the proof: AW/Ops7, AW/OpsZ, AW/OpsC, AW/Ops8, AW/Ops9, AW/OpsM. -/
import Derived.Test.YtjhgmaephpadpaaGreatP3
import Derived.Lib.AppendStr
import Derived.Lib.UnsafeStr
namespace Go.Proofs.YtjhgmaephpadpaaGreat.AW
set_option linter.unusedSimpArgs false
set_option linter.unusedVariables false
section ops
variable {P : Program} {o : Oper} {e : Env} {s : Store} {K : AV → Store → Prop} {w : World} {g : G} {σ : St} {a : Act} {T : Nat → Prop} {N : Prop}

/-- Not a number's type (append's second argument). -/
def notInt (P : Program) (u : Nat) : Prop := ∃ d, P.underlying u = some d ∧ ∀ k, d ≠ .int k

set_option maxHeartbeats 2000000 in
theorem run_app_grow {ts : Array TypeId} {t u ty el : Nat} (hts : ts[0]? = some t ∧ ts[1]? = some u) {i : TypeInfo} {z : Value} (ht : P.underlying t = some (.slice el)) (hi : P.info? el = some i) (hz : i.zero = some z) (hu : notInt P u)
    {base : Option Addr} {sLen sCap n : Nat} {x : Value} {olds news : List Value} (hn : (Builtin.lenOf x).run P w = .ok n w)
    (hold : ∀ w', (∀ b, b < w.heap.size → w'.heap[b]? = w.heap[b]?) → (Builtin.firstCells i.size sLen (.slice base sLen sCap)).run P w' = .ok olds.toArray w')
    (hnew : ∀ w', (∀ b, b < w.heap.size → w'.heap[b]? = w.heap[b]?) → (Builtin.firstCells i.size n x).run P w' = .ok news.toArray w')
    (hgrow : sCap < sLen + n) (hb : (sLen + n) * i.bytes ≤ 140737488355328) (hb1 : 1 ≤ i.bytes) :
    ∃ cap, sLen + n ≤ cap ∧ (Builtin.append_ ts ty #[.slice base sLen sCap, x]).run P w =
      .ok (.slice (some ⟨w.heap.size, 0, none⟩) (sLen + n) cap) (w.drew.alloc (.cells (olds.toArray ++ (news.toArray ++ Builtin.zeroCells z.cells (cap - (sLen + n)))) el)) := by
  refine ⟨grownCap w (sLen + n) sCap el, grownCap_ge _ _ _ _, ?_⟩
  obtain ⟨d, hd, hdi⟩ := hu
  have hf := growslice_fits hgrow hb
  have hnr : ¬ sLen + n ≤ sCap := by omega
  have hnf : ¬ 2 ^ 48 < Builtin.nextslicecap (sLen + n) sCap * i.bytes := by omega
  have hb0 : ¬ i.bytes = 0 := by omega
  have ho := hold w.drew (fun _ _ => rfl)
  have hw := hnew w.drew (fun _ _ => rfl)
  cases d <;> first
    | exact absurd rfl (hdi _)
    | simp [Builtin.append_, hts.1, hts.2, run_underlying ht, run_underlying hd, sizeOf, typeInfo, hi, hn, hnr, hnf, hb0, Question.forced, grownCap, zeroValue, hz, newRow, ho, hw, Result.andThen]

set_option maxHeartbeats 2000000 in
theorem run_app_room {ts : Array TypeId} {t u ty el : Nat} (hts : ts[0]? = some t ∧ ts[1]? = some u) {i : TypeInfo} (ht : P.underlying t = some (.slice el)) (hi : P.info? el = some i) (hu : notInt P u)
    {base : Option Addr} {sLen sCap n : Nat} {x : Value} {news : List Value} (hn : (Builtin.lenOf x).run P w = .ok n w)
    (hnew : (Builtin.firstCells i.size n x).run P w = .ok news.toArray w) (hroom : sLen + n ≤ sCap) {w' : World}
    (hst : ∀ ad, base = some ad → (storeCells (ad.add (sLen * i.size)) news 0).run P w = .ok () w') (hnone : base = none → w' = w) :
    (Builtin.append_ ts ty #[.slice base sLen sCap, x]).run P w = .ok (.slice base (sLen + n) sCap) w' := by
  obtain ⟨d, hd, hdi⟩ := hu
  cases base with
  | none =>
    have := hnone rfl
    subst this
    cases d <;> first
      | exact absurd rfl (hdi _)
      | simp [Builtin.append_, hts.1, hts.2, run_underlying ht, run_underlying hd, sizeOf, typeInfo, hi, hn, hroom, hnew, Result.andThen]
  | some ad =>
    have := hst ad rfl
    cases d <;> first
      | exact absurd rfl (hdi _)
      | simp [Builtin.append_, hts.1, hts.2, run_underlying ht, run_underlying hd, sizeOf, typeInfo, hi, hn, hroom, hnew, this, Result.andThen]

theorem bytes_cells (l : List UInt8) (B : Nat → Prop) : RepPs w B (flat (bytesP l)) (l.map fun b => Value.int .u8 b.toNat) := by
  rw [bytesP_eq, flat_ints]
  have := ints_rep .u8 (l.map fun b => (b.toNat : Int)) w B
  have e : (l.map fun b => (b.toNat : Int)).map (Value.int .u8) = l.map fun b => Value.int .u8 b.toNat := by rw [List.map_map]; rfl
  rw [← e]; exact this

/-- The second argument of append: its elements. -/
structure Second (P : Program) (w : World) (g : G) (σ : St) (size : Nat) (x : Value) (ys : List PV) (news : List Value) : Prop where
  len : (Builtin.lenOf x).run P w = .ok ys.length w
  rep : RepPs w (Lv g σ) (flat ys) news
  cells : ∀ y, y ∈ ys → El size y
  read : ∀ w', (∀ b, b < w.heap.size → w'.heap[b]? = w.heap[b]?) → (Builtin.firstCells size ys.length x).run P w' = .ok news.toArray w'

theorem RepP.one {B : Nat → Prop} {v : PV} {x : Value} (h : RepP w B v x) (hv : v.one = true) : x.oneCell' = true := by
  cases h <;> first
    | rfl
    | (simp [PV.one] at hv; done)
    | (rename_i hl; cases x <;> first | rfl | exact hl.elim)

theorem RepPs.ones {B : Nat → Prop} : ∀ {vs : List PV} {xs : List Value}, RepPs w B vs xs → (∀ c, c ∈ vs → c.one = true) → ∀ x ∈ xs, x.oneCell' = true
  | _, _, .nil, _, x, hx => by cases hx
  | _, _, .cons v y vs ys h hs, hv, x, hx => by
    rcases List.mem_cons.1 hx with rfl | hx
    · exact h.one (hv _ (by simp))
    · exact hs.ones (fun c hc => hv c (by simp [hc])) x hx

theorem flat_one {sz : Nat} {ys : List PV} (h : ∀ y, y ∈ ys → El sz y) : ∀ c, c ∈ flat ys → c.one = true := by
  intro c hc
  obtain ⟨y, hy, hcy⟩ := List.mem_flatMap.1 hc
  exact List.all_eq_true.1 (h y hy).2 c hcy

theorem Second.one {size : Nat} {x : Value} {ys : List PV} {news : List Value} (h : Second P w g σ size x ys news) : ∀ v ∈ news, v.oneCell' = true := h.rep.ones (flat_one h.cells)
theorem Second.newsLen {size : Nat} {x : Value} {ys : List PV} {news : List Value} (h : Second P w g σ size x ys news) : news.length = size * ys.length := by
  rw [← h.rep.len, flat_len h.cells]

theorem zcells {z : PV} {v : Value} (h : RepA w g σ (.p z) v) : v.cells.size = z.cells.length := by
  cases h.inv_p <;> first
    | rfl
    | (rename_i cs a hs; simp [Value.cells, PV.cells, hs.len])
    | (rename_i hl; cases v <;> first | rfl | exact hl.elim)

theorem flat_append (xs ys : List PV) : flat (xs ++ ys) = flat xs ++ flat ys := by simp [flat]

/-- A row that has moved: the object's block is a new one. -/
theorem tagB_eq {el u : Nat} (h : tagB P el = some u) : u = el := by
  unfold tagB at h
  split at h
  · cases h; rfl
  · cases h
theorem tyOk_eq {ty : Option Nat} {el u : Nat} (h : tyOk ty el = true) (hu : ty = some u) : u = el := by
  subst hu; exact Nat.eq_of_beq_eq_true h

theorem Rs.move {x : Value} {v : AV} (c : Cx w g σ s T N) {w' : World} {ob : Obj} (m : More w w' ob) {id sz : Nat} {xs xs' : List PV} {ty : Option Nat} (hT : T id) (hs : getO s id = some (.buf sz xs ty)) (hlt : xs.length < xs'.length)
    (hO : ∀ g' σ', Ext w g σ w' g' σ' → RepO w' g' σ' w.heap.size (.buf sz xs' ty)) (hv : ∀ g' σ', g'.C id → g'.R id → g'.ι id = w.heap.size → σ' id = some (.buf sz xs' ty) → RepA w' g' σ' v x) (hk : K v (s.set id (some (.buf sz xs' ty)))) : Rs w g σ s T K x w' := by
  have hσ : σ id = some (.buf sz xs ty) := (c.agree id hT).trans hs
  have hC := c.inv.made id _ hσ
  have hl : id < s.length := getO_lt hs
  have hov : ovr T s (s.set id (some (.buf sz xs' ty))) σ = σ.put id (.buf sz xs' ty) := c.ovr_set hT hl _
  let g' : G := { ι := fun i => if i = id then w.heap.size else g.ι i, X := g.X, C := g.C, R := fun i => i = id ∨ g.R i }
  have hRo : ∀ i, i ≠ id → (g'.R i ↔ g.R i) := fun i hi => by simp [g', hi]
  have hι : ∀ i, i ≠ id → g'.ι i = g.ι i := fun i hi => by simp [g', hi]
  have hι0 : g'.ι id = w.heap.size := by simp [g']
  have hsome : ∀ i, σ.put id (.buf sz xs' ty) i ≠ none → σ i ≠ none := fun i h => by
    by_cases hi : i = id
    · subst hi; rw [hσ]; simp
    · simpa [St.put, hi] using h
  have hext : Ext w g σ w' g' (σ.put id (.buf sz xs' ty)) := {
    drawn := m.drawn
    size := by rw [m.size]; omega
    os := m.os
    tape := m.tape
    output := m.output
    frame := fun b hb _ => m.old hb
    shape := fun b hb => shape_same (m.old hb)
    X := rfl
    C := fun _ h => h
    own := fun b hb ⟨i, h1, hr, h2⟩ => by
      by_cases hi : i = id
      · subst hi; rw [hι0] at h2; omega
      · rw [hι i hi] at h2; exact ⟨i, hsome i h1, (hRo i hi).1 hr, h2⟩
    obj := fun i hc oo ho => by
      by_cases hi : i = id
      · subst hi; simp [St.put] at ho; subst ho; exact ⟨_, hσ, rfl, by omega, rfl⟩
      · simp [St.put, hi] at ho; exact ⟨oo, ho, .refl _⟩
    ι1 := fun i _ hn => ⟨hι i (fun e => hn _ _ _ (e ▸ hσ)), hRo i (fun e => hn _ _ _ (e ▸ hσ))⟩
    ι2 := fun i sz' ys ys' ty1 ty2 _ h1 h2 h3 => by
      by_cases hi : i = id
      · subst hi; rw [hσ] at h1; cases h1; simp [St.put] at h2; have e2 : xs' = ys' := by simp_all
        subst e2; omega
      · exact ⟨hι i hi, hRo i hi⟩ }
  refine ⟨v, s.set id (some (.buf sz xs' ty)), g', hk, by simp, fun i hi hlt => ?_, ?_, ?_, ?_, fun i h => .inl h⟩
  · rw [getO_set s id _ i hl, if_neg (fun (e : i = id) => hi (by rw [e]; exact hT))]
  · rw [hov]; exact hv g' _ hC (.inl rfl) hι0 (by simp [St.put])
  · rw [hov]
    refine ⟨fun i oo h => ?_, fun i oo h hr => ?_, fun b hb => by rw [m.size]; have := c.inv.xlt b hb; omega, fun i j h k hri hrj hij => ?_, fun i oo h hr => ?_, fun i oo h hr => ?_⟩
    · obtain ⟨o2, ho2⟩ := Option.ne_none_iff_exists'.1 (hsome i (by rw [h]; simp)); exact c.inv.made _ _ ho2
    · by_cases hi : i = id
      · subst hi; rw [hι0, m.size]; exact ⟨by omega, fun hx => by have := c.inv.xlt _ hx; omega⟩
      · rw [hι i hi, m.size]
        obtain ⟨o2, ho2⟩ := Option.ne_none_iff_exists'.1 (hsome i (by rw [h]; simp))
        have := c.inv.lies _ _ ho2 ((hRo i hi).1 hr); exact ⟨by omega, this.2⟩
    · by_cases hi : i = id
      · by_cases hj : j = id
        · rw [hi, hj]
        · subst hi; rw [hι0, hι j hj] at hij
          obtain ⟨o2, ho2⟩ := Option.ne_none_iff_exists'.1 (hsome j k)
          have := (c.inv.lies _ _ ho2 ((hRo j hj).1 hrj)).1; omega
      · by_cases hj : j = id
        · subst hj; rw [hι0, hι i hi] at hij
          obtain ⟨o2, ho2⟩ := Option.ne_none_iff_exists'.1 (hsome i h)
          have := (c.inv.lies _ _ ho2 ((hRo i hi).1 hri)).1; omega
        · rw [hι i hi, hι j hj] at hij
          exact c.inv.inj i j (hsome i h) (hsome j k) ((hRo i hi).1 hri) ((hRo j hj).1 hrj) hij
    · by_cases hi : i = id
      · subst hi; rw [hι0]; simp [St.put] at h; subst h; exact hO g' _ hext
      · simp [St.put, hi] at h; rw [hι i hi]
        have hr' := (hRo i hi).1 hr
        exact hext.repO (m.old (c.inv.lies _ _ h hr').1) (c.inv.rep _ _ h hr')
    · by_cases hi : i = id
      · exact absurd (.inl hi) hr
      · simp [St.put, hi] at h
        exact c.inv.void _ _ h (fun q => hr ((hRo i hi).2 q))
  · rw [hov]; exact hext

theorem firstCells_of {ad : Addr} {n m cap : Nat} {size : Nat} {vs : List Value} (hl : vs.length = n * size) (w' : World) (h : ∀ j v, vs[j]? = some v → w'.cell? (ad.add j) = some v) :
    (Builtin.firstCells size n (.slice (some ad) m cap)).run P w' = .ok vs.toArray w' := run_firstCells_some (P := P) w' size n ad m cap vs hl h

theorem ok_app {t u el : Nat} {x y : Operand} {ts : Array TypeId} {ysz : Nat} {ys : List PV} {news : List Value} (ho : o.op = .call ⟨.builtin .append, #[x, y], ts⟩) (hts : ts[0]? = some t ∧ ts[1]? = some u)
    (h : appA P t (ev e x) ysz ys s K) (hN : ∀ v s', K v s' → s.length < s'.length → N) (hy : ∀ i, P.info? el = some i → P.underlying t = some (.slice el) → ysz = i.size → Second P w g σ i.size (a.eval y) ys news)
    (c : Cx w g σ s T N) (hT : ∀ id, id ∈ ids (ev e x) → T id) (he : EnvR w g σ e a.tmps) (hu : notInt P u) (hel : P.underlying t = some (.slice el)) : OpOk P o a w (Rs w g σ s T K) := by
  unfold appA at h
  have hx := ev_rep he x
  have hd : dsc P t = .slice el := by simp [dsc, hel]
  rw [hd] at h
  simp only [] at h
  have fin : ∀ {r : Value} {w' : World}, (Builtin.append_ ts o.type #[a.eval x, a.eval y]).run P w = .ok r w' → Rs w g σ s T K r w' → OpOk P o a w (Rs w g σ s T K) := by
    intro r w' hr hR
    refine .value (v := r) (w' := w') ?_ hR
    simp [execOp, ho, resolve, invoke, builtin, hr]
  split at h
  · rename_i i z' hi hz
    obtain ⟨zv, _, hzr, i', hi', hzv⟩ := zeroT_run (w := w) (g := g) (σ := σ) hz
    rw [hi] at hi'; cases hi'
    split at h
    · rename_i hb1 hb2
      simp only [Bool.and_eq_true] at hb1
      have hsz := Nat.eq_of_beq_eq_true hb1.1.1
      have hb := Nat.le_of_ble_eq_true hb1.1.2
      have hs1 := Nat.le_of_ble_eq_true hb2
      have hzs : zv.cells.size = i.size := by
        rw [← Nat.eq_of_beq_eq_true hb1.2]
        exact zcells hzr
      subst hsz
      have S := hy i hi hel rfl
      have grow : ∀ {base : Option Addr} {sLen sCap : Nat} {olds : List Value} {xs : List PV}, a.eval x = .slice base sLen sCap → xs.length = sLen → (∀ z, z ∈ xs → El i.size z) → RepPs w (Lv g σ) (flat xs) olds →
          (∀ w', (∀ b, b < w.heap.size → w'.heap[b]? = w.heap[b]?) → (Builtin.firstCells i.size sLen (.slice base sLen sCap)).run P w' = .ok olds.toArray w') →
          sCap < sLen + ys.length → (sLen + ys.length) * i.bytes ≤ 140737488355328 → K (.osl s.length (xs ++ ys).length 0 (xs ++ ys).length) (s ++ [some (.buf i.size (xs ++ ys) (tagB P el))]) → OpOk P o a w (Rs w g σ s T K) := by
        intro base sLen sCap olds xs hp hxl hel' hr hread hg hbb hk
        obtain ⟨cap, hcap, hrun⟩ := run_app_grow (P := P) (w := w) (ty := o.type) hts hel hi hzv hu S.len hread S.read hg hbb hb
        have m : More w (w.drew.alloc (.cells (olds.toArray ++ (news.toArray ++ Builtin.zeroCells zv.cells (cap - (sLen + ys.length)))) el)) (.cells (olds.toArray ++ (news.toArray ++ Builtin.zeroCells zv.cells (cap - (sLen + ys.length)))) el (0, 0)) := ⟨rfl, rfl, rfl, rfl, Nat.le_succ _⟩
        refine fin (by rw [hp]; exact hrun) ?_
        have hlen : (olds ++ news).length = i.size * (xs ++ ys).length := by
          rw [List.length_append, S.newsLen, ← hr.len, flat_len hel', List.length_append, Nat.mul_add]
        have hn : N := hN _ _ hk (by simp)
        have hsh0 : (w.drew.alloc (.cells (olds.toArray ++ (news.toArray ++ Builtin.zeroCells zv.cells (cap - (sLen + ys.length)))) el)).shape? w.heap.size = some (el, (olds.toArray ++ (news.toArray ++ Builtin.zeroCells zv.cells (cap - (sLen + ys.length)))).size) := by
          simp only [World.shape?, m.at]
        refine Rs.new c m (o := .buf i.size (xs ++ ys) (tagB P el)) ?_ ?_ hk hn
        · refine .buf i.size (xs ++ ys) ((olds ++ news) ++ (Builtin.zeroCells zv.cells (cap - (sLen + ys.length))).toList) (by omega) (fun q hq => ?_) ?_ ?_ ⟨el, (0, 0), ?_, .inl rfl⟩ _ (fun u hu => by rw [tagB_eq hu]; exact ⟨_, hsh0⟩)
          · rcases List.mem_append.1 hq with hq | hq
            · exact hel' q hq
            · exact S.cells q hq
          · rw [← hlen, List.length_append (as := olds ++ news)]; omega
          · rw [← hlen, List.take_left' rfl, flat_append]
            exact ((c.ext_new m _ hn).repPs hr).append ((c.ext_new m _ hn).repPs S.rep)
          · rw [m.at]; simp
        · have := RepA.osl (w := w.drew.alloc (.cells (olds.toArray ++ (news.toArray ++ Builtin.zeroCells zv.cells (cap - (sLen + ys.length)))) el)) (g := g.new s.length w.heap.size) (σ := σ.put s.length (.buf i.size (xs ++ ys) (tagB P el))) s.length (xs ++ ys).length 0 (xs ++ ys).length
            (.slice (some ⟨w.heap.size, 0, none⟩) (xs ++ ys).length cap) (.inr rfl) ⟨_, _, rfl, fun q => by cases q⟩ (fun sz zs ty q => by simp [St.put] at q; rw [← q.2.1]; simp) (fun sz zs ty q _ => by
              simp [St.put] at q
              obtain ⟨rfl, rfl, _⟩ := q
              refine ⟨by omega, fun q => absurd (.inl rfl) q, fun _ => ⟨_, _, rfl, rfl, by rw [List.length_append, hxl]; exact hcap, fun _ => ⟨by simp [G.new], ?_⟩⟩⟩
              have hsh : (w.drew.alloc (.cells (olds.toArray ++ (news.toArray ++ Builtin.zeroCells zv.cells (cap - (sLen + ys.length)))) el)).shape? w.heap.size = some (el, (olds.toArray ++ (news.toArray ++ Builtin.zeroCells zv.cells (cap - (sLen + ys.length)))).size) := by
                simp only [World.shape?, m.at]
              refine ⟨el, _, by simpa [G.new] using hsh, ?_⟩
              have h1 : olds.length = i.size * sLen := by rw [← hr.len, flat_len hel', hxl]
              have h2 := S.newsLen
              simp only [size_zeroCells, hzs, h1, h2]
              rw [Nat.zero_add, Nat.mul_comm (cap - (sLen + ys.length)), ← Nat.mul_add, ← Nat.mul_add, Nat.mul_comm]
              exact Nat.mul_le_mul_left _ (by omega))
          rw [List.length_append, hxl] at this
          rw [List.length_append, hxl]
          exact this
      have nochange : ∀ {v : AV} {base : Option Addr} {sLen sCap : Nat}, a.eval x = .slice base sLen sCap → ys = [] → sLen ≤ sCap → K v s → RepA w g σ v (.slice base sLen sCap) → OpOk P o a w (Rs w g σ s T K) := by
        intro v base sLen sCap hp hys hc hk hr
        subst hys
        have hn0 : news = [] := by have := S.newsLen; simpa using this
        subst hn0
        have := run_app_room (P := P) (w := w) (w' := w) (ty := o.type) (base := base) (sLen := sLen) (sCap := sCap) hts hel hi hu S.len (by simpa using S.read w (fun _ _ => rfl)) (by simpa using hc) (fun _ _ => rfl) (fun _ => rfl)
        refine fin (by rw [hp]; exact this) (.pure c hk (by simpa using hr))
      split at h
      · rename_i sz xs hev
        rw [hev] at hx
        unfold Ob at h
        generalize hax : a.eval x = ax at *
        cases hx.inv_p with
        | nil => exact nochange rfl h.1 (Nat.le_refl _) h.2 hx
        | spt => exact nochange rfl h.1 (Nat.le_refl _) h.2 hx
        | sl _ _ _ b off cap hk' hc' hl' hs' hb' hcells => exact nochange rfl h.1 hl' h.2 hx
      · rename_i sz xs hev
        rw [hev] at hx
        rw [snoc_eq] at h
        unfold BrL Ob at h
        have hp : a.eval x = .slice none 0 0 := by
          generalize a.eval x = ax at *
          cases hx.inv_p with
          | nil => rfl
          | sl _ _ _ b off cap hk' => exact absurd rfl hk'
          | spt _ _ _ hk => exact absurd rfl hk
        by_cases hys : ys = []
        · exact nochange hp hys (Nat.le_refl _) (h.1 hys) (.p _ _ (.nil .nil 0))
        · obtain ⟨hbb, hk⟩ := h.2 hys
          have hpos : 0 < ys.length := List.length_pos_iff.2 hys
          exact grow (xs := []) hp rfl (fun z hz => by cases hz) .nil (fun w' _ => by simp [Builtin.firstCells]) (by omega) (by simpa using hbb) (by simpa using hk)
      · rename_i sz xs hev
        rw [hev] at hx
        split at h
        · rename_i hsz
          have hsz := Nat.eq_of_beq_eq_true hsz
          rw [snoc_eq] at h
          unfold BrL Ob at h
          generalize hax : a.eval x = ax at *
          cases hx.inv_p with
          | nil =>
            by_cases hys : ys = []
            · exact nochange rfl hys (Nat.le_refl _) (h.1 hys) hx
            · obtain ⟨hbb, hk⟩ := h.2 hys
              have hpos : 0 < ys.length := List.length_pos_iff.2 hys
              subst hsz
              exact grow (xs := []) rfl rfl (fun z hz => by cases hz) .nil (fun w' _ => by simp [Builtin.firstCells]) (by omega) (by simpa using hbb) (by simpa using hk)
          | spt =>
            by_cases hys : ys = []
            · exact nochange rfl hys (Nat.le_refl _) (h.1 hys) hx
            · obtain ⟨hbb, hk⟩ := h.2 hys
              have hpos : 0 < ys.length := List.length_pos_iff.2 hys
              subst hsz
              exact grow (xs := []) rfl rfl (fun z hz => by cases hz) .nil (fun w' _ => firstCells_of (by simp) w' (fun j v hj => by simp at hj)) (by omega) (by simpa using hbb) (by simpa using hk)
          | sl _ _ _ b off cap hk' hc' hl' hs' hb' hcells =>
            have hcap := hc' rfl
            by_cases hys : ys = []
            · exact nochange rfl hys hl' (h.1 hys) hx
            · obtain ⟨hbb, hk⟩ := h.2 hys
              have hpos : 0 < ys.length := List.length_pos_iff.2 hys
              subst hsz
              obtain ⟨olds, h1, h2⟩ := hcells.values
              have hol : olds.length = xs.length * i.size := by rw [← h1.len, flat_len hs', Nat.mul_comm]
              refine grow (xs := xs) rfl rfl hs' h1 (fun w' hw' => ?_) (by omega) hbb hk
              refine firstCells_of hol w' (fun j v hj => ?_)
              rw [add_addr]
              have hcl := h2 j v hj
              rw [cell_same (hw' b (lt_of_cell hcl))]; exact hcl
        · exact h.elim
      · rename_i id tot off len hev
        rw [hev] at hx
        split at h
        · rename_i sz xs ty hg
          split at h
          · rename_i hsz
            simp only [Bool.and_eq_true] at hsz
            have hty := hsz.2
            have hsz := Nat.eq_of_beq_eq_true hsz.1
            subst hsz
            rw [setK_eq] at h
            unfold Ob at h
            obtain ⟨⟨ht, ho0, hlt, hbb⟩, hk⟩ := h
            subst ho0
            have hTi : T id := hT id (by rw [hev]; simp [ids, ids1])
            have hs : σ id = some (.buf i.size xs ty) := (c.agree id hTi).trans hg
            obtain ⟨hq0, hC, htt, hd'⟩ := hx.inv_osl
            have hV := hd' _ _ _ hs ht
            by_cases hR : g.R id
            rotate_left 1
            · obtain ⟨hp, _⟩ := hV.2.1 hR
              obtain ⟨sz', ty', hz0, e⟩ := c.inv.void _ _ hs hR
              cases e
              have hl0 : len = 0 := by rw [hlt, ← ht]; rfl
              subst hl0
              by_cases hys : ys = []
              · subst hys
                refine nochange hp rfl (Nat.le_refl _) (v := .osl id tot 0 0) ?_ (by rw [hp] at hx; exact hx)
                rw [List.append_nil, set_same hg] at hk
                rw [← ht]; exact hk
              · have hpos : 0 < ys.length := List.length_pos_iff.2 hys
                obtain ⟨cap', hcap', hrun⟩ := run_app_grow (P := P) (w := w) (ty := o.type) (base := none) (sLen := 0) (sCap := 0) (olds := []) hts hel hi hzv hu S.len (fun w' _ => by simp [Builtin.firstCells]) S.read (by omega) hbb hb
                have m : More w (w.drew.alloc (.cells (([] : List Value).toArray ++ (news.toArray ++ Builtin.zeroCells zv.cells (cap' - (0 + ys.length)))) el)) (.cells (([] : List Value).toArray ++ (news.toArray ++ Builtin.zeroCells zv.cells (cap' - (0 + ys.length)))) el (0, 0)) := ⟨rfl, rfl, rfl, rfl, Nat.le_succ _⟩
                have h2 := S.newsLen
                refine fin (by rw [hp]; exact hrun) (Rs.move c m hTi hg (by simpa using hpos) (fun g' σ' hx' => ?_) (fun g' σ' hC' hR' hι' hσ' => ?_) hk)
                · refine .buf i.size ([] ++ ys) (news ++ (Builtin.zeroCells zv.cells (cap' - (0 + ys.length))).toList) hz0 (fun q hq => S.cells q (by simpa using hq)) ?_ ?_ ⟨el, (0, 0), ?_, .inl rfl⟩ _ (fun u hu => by rw [tyOk_eq hty hu]; exact ⟨_, (by simp only [World.shape?, m.at]; rfl)⟩)
                  · rw [List.nil_append, ← h2, List.length_append]; omega
                  · rw [List.nil_append, ← h2, List.take_left' rfl]
                    exact hx'.repPs S.rep
                  · rw [m.at]; simp
                · have hxy : 0 + ys.length = ([] ++ ys).length := by simp
                  have hval : Value.slice (some ⟨w.heap.size, 0, none⟩) (0 + ys.length) cap' = Value.slice (some ⟨w.heap.size, 0, none⟩) ([] ++ ys).length cap' := by rw [hxy]
                  rw [hval]
                  refine .osl id _ 0 _ _ hC' ⟨_, _, rfl, fun q => by cases q⟩ (fun sz zs ty q => by rw [hσ'] at q; cases q; exact Nat.le_refl _) (fun sz zs ty q ql => ?_)
                  rw [hσ'] at q; cases q
                  refine ⟨by omega, fun q => absurd hR' q, fun _ => ⟨_, _, rfl, rfl, by simpa using hcap', fun _ => ⟨by rw [hι']; simp, ?_⟩⟩⟩
                  rw [hι']
                  have hsh : (w.drew.alloc (.cells (([] : List Value).toArray ++ (news.toArray ++ Builtin.zeroCells zv.cells (cap' - (0 + ys.length)))) el)).shape? w.heap.size = some (el, (([] : List Value).toArray ++ (news.toArray ++ Builtin.zeroCells zv.cells (cap' - (0 + ys.length)))).size) := by
                    simp only [World.shape?, m.at]
                  refine ⟨el, _, hsh, ?_⟩
                  simp only [Array.size_append, List.size_toArray, size_zeroCells, hzs, h2]
                  rw [Nat.zero_add, Nat.zero_add, Nat.mul_comm i.size ys.length, List.length_nil, Nat.zero_add, ← Nat.add_mul]
                  exact Nat.mul_le_mul_right _ (by omega)
            obtain ⟨ad, cap, ⟨hp, hsp⟩, q1, q2, q3⟩ := hV.real hR
            cases c.inv.rep _ _ hs hR with
            | buf _ _ vs hz0 hs' hn hr hare _ htyp =>
              by_cases hroom : len + ys.length ≤ cap
              · -- in place
                have hst : ∃ w', (∀ q, some ad = some q → (storeCells (q.add (len * i.size)) news 0).run P w = .ok () w') ∧ cellsAre w' (g.ι id) (spliceV vs (len * i.size) news) ∧ Turned w w' (g.ι id) := by
                  by_cases hc0 : 0 < cap
                  · obtain ⟨had, e', m', hsh, hm'⟩ := q3 hc0
                    have hvl : m' = vs.length := by
                      obtain ⟨e2, f2, hb1', _⟩ := hare
                      simp only [World.shape?, hb1', Option.some.injEq, Prod.mk.injEq] at hsh
                      rw [← hsh.2]; simp
                    obtain ⟨w', k1, k2, k3⟩ := run_storeCells (P := P) (w := w) (b := g.ι id) news (off := len * i.size) (i := 0) hare (by
                      rw [S.newsLen, ← hvl]
                      have : (len + ys.length) * i.size ≤ (0 + cap) * i.size := Nat.mul_le_mul_right _ (by omega)
                      rw [Nat.add_mul] at this
                      rw [Nat.mul_comm i.size ys.length]; omega) S.one
                    refine ⟨w', fun q hq => ?_, by simpa using k2, k3⟩
                    cases hq
                    rw [had, add_addr, show 0 * i.size + len * i.size = len * i.size by omega]
                    exact k1
                  · have h0 : ys.length = 0 := by omega
                    have hn0 : news = [] := List.eq_nil_of_length_eq_zero (by rw [S.newsLen, h0]; simp)
                    subst hn0
                    exact ⟨w, fun q _ => rfl, by simpa [spliceV] using hare, .refl _ _⟩
                obtain ⟨w', hrun, hare', hturn⟩ := hst
                have := run_app_room (P := P) (w := w) (w' := w') (ty := o.type) (base := some ad) (sLen := len) (sCap := cap) hts hel hi hu S.len (S.read w (fun _ _ => rfl)) hroom hrun (fun q => by cases q)
                refine fin (by rw [hp]; exact this) (Rs.set c hTi hg hR (o' := .buf i.size (xs ++ ys) ty) ⟨rfl, by simp, rfl⟩ hturn (fun hx' => ?_) (fun hx' => ?_) hk)
                · refine .buf _ _ (spliceV vs (len * i.size) news) hz0 (fun q hq => ?_) ?_ ?_ hare' _ (fun u hu => by obtain ⟨n, hn⟩ := htyp u hu; exact ⟨n, hturn.shape.trans hn⟩)
                  · rcases List.mem_append.1 hq with hq | hq
                    · exact hs' q hq
                    · exact S.cells q hq
                  · have hsl : (spliceV vs (len * i.size) news).length = vs.length := by
                      obtain ⟨e1, f1, g1, _⟩ := hare
                      obtain ⟨e2, f2, g2, _⟩ := hare'
                      have hsh := hturn.shape
                      simp only [World.shape?, g1, g2, Option.some.injEq, Prod.mk.injEq] at hsh
                      simpa using hsh.2
                    have h2 := S.newsLen
                    have : (spliceV vs (len * i.size) news).length ≥ len * i.size + news.length := by
                      unfold spliceV; simp
                      have : len * i.size ≤ vs.length := by rw [hlt, ← ht, Nat.mul_comm]; exact hn
                      omega
                    rw [List.length_append, Nat.mul_add, ← h2, ht, ← hlt, Nat.mul_comm i.size len]; exact this
                  · have e1 : (spliceV vs (len * i.size) news).take (i.size * (xs ++ ys).length) = vs.take (i.size * xs.length) ++ news := by
                      unfold spliceV
                      have hle : len * i.size = i.size * xs.length := by rw [hlt, ← ht, Nat.mul_comm]
                      rw [hle, List.length_append, Nat.mul_add, ← S.newsLen]
                      rw [List.take_append_of_le_length (by simp; omega)]
                      rw [List.take_of_length_le (by simp; omega)]
                    rw [e1, flat_append]
                    exact (hx'.repPs hr).append (hx'.repPs S.rep)
                · have hxy : len + ys.length = (xs ++ ys).length := by rw [List.length_append]; omega
                  rw [hxy] at hroom ⊢
                  refine .osl id _ 0 _ _ hC ⟨_, _, rfl, fun q => by cases q⟩ (fun sz zs ty q => ?_) (fun sz zs ty q ql => ?_)
                  · simp [St.put] at q; rw [← q.2.1]; simp
                  · simp [St.put] at q
                    obtain ⟨rfl, rfl, _⟩ := q
                    refine ⟨by omega, fun q => absurd hR q, fun _ => ⟨ad, cap, rfl, hsp, hroom, fun hc0 => ?_⟩⟩
                    obtain ⟨r1, r2⟩ := q3 hc0
                    exact ⟨r1, r2.keep hturn.shape⟩
              · -- a new row
                have hgr : cap < len + ys.length := by omega
                have hol : (vs.take (i.size * xs.length)).length = len * i.size := by rw [← hr.len, flat_len hs', ht, hlt, Nat.mul_comm]
                have hread : ∀ w', (∀ b, b < w.heap.size → w'.heap[b]? = w.heap[b]?) → (Builtin.firstCells i.size len (.slice (some ad) len cap)).run P w' = .ok (vs.take (i.size * xs.length)).toArray w' := by
                  intro w' hw'
                  refine firstCells_of hol w' (fun j v hj => ?_)
                  have hlen0 : 0 < len := by
                    have := (List.getElem?_eq_some_iff.1 hj).1
                    rw [hol] at this
                    exact Nat.pos_of_ne_zero (fun e => by subst e; omega)
                  obtain ⟨had, _⟩ := q3 (by omega)
                  rw [had, add_addr, show 0 * i.size + j = j by omega, cell_same (hw' _ (c.inv.lies _ _ hs hR).1), cell_of_are hare]
                  rw [List.getElem?_take] at hj
                  split at hj
                  · exact hj
                  · cases hj
                obtain ⟨cap', hcap', hrun⟩ := run_app_grow (P := P) (w := w) (ty := o.type) hts hel hi hzv hu S.len hread S.read hgr hbb hb
                have m : More w (w.drew.alloc (.cells ((vs.take (i.size * xs.length)).toArray ++ (news.toArray ++ Builtin.zeroCells zv.cells (cap' - (len + ys.length)))) el)) (.cells ((vs.take (i.size * xs.length)).toArray ++ (news.toArray ++ Builtin.zeroCells zv.cells (cap' - (len + ys.length)))) el (0, 0)) := ⟨rfl, rfl, rfl, rfl, Nat.le_succ _⟩
                have hlen : (vs.take (i.size * xs.length) ++ news).length = i.size * (xs ++ ys).length := by
                  rw [List.length_append, S.newsLen, ← hr.len, flat_len hs', List.length_append, Nat.mul_add]
                have hys : 0 < ys.length := by omega
                refine fin (by rw [hp]; exact hrun) (Rs.move c m hTi hg (by simp; omega) (fun g' σ' hx' => ?_) (fun g' σ' hC' hR' hι' hσ' => ?_) hk)
                · refine .buf i.size (xs ++ ys) ((vs.take (i.size * xs.length) ++ news) ++ (Builtin.zeroCells zv.cells (cap' - (len + ys.length))).toList) hz0 (fun q hq => ?_) ?_ ?_ ⟨el, (0, 0), ?_, .inl rfl⟩ _ (fun u hu => by rw [tyOk_eq hty hu]; exact ⟨_, (by simp only [World.shape?, m.at]; rfl)⟩)
                  · rcases List.mem_append.1 hq with hq | hq
                    · exact hs' q hq
                    · exact S.cells q hq
                  · rw [← hlen, List.length_append (as := vs.take (i.size * xs.length) ++ news)]; omega
                  · rw [← hlen, List.take_left' rfl, flat_append]
                    exact (hx'.repPs hr).append (hx'.repPs S.rep)
                  · rw [m.at]; simp
                · have hxy : len + ys.length = (xs ++ ys).length := by rw [List.length_append]; omega
                  have hval : Value.slice (some ⟨w.heap.size, 0, none⟩) (len + ys.length) cap' = Value.slice (some ⟨w.heap.size, 0, none⟩) (xs ++ ys).length cap' := by rw [hxy]
                  rw [hval]
                  refine .osl id _ 0 _ _ hC' ⟨_, _, rfl, fun q => by cases q⟩ (fun sz zs ty q => by rw [hσ'] at q; cases q; exact Nat.le_refl _) (fun sz zs ty q ql => ?_)
                  rw [hσ'] at q; cases q
                  refine ⟨by omega, fun q => absurd hR' q, fun _ => ⟨_, _, rfl, rfl, by omega, fun _ => ⟨by rw [hι']; simp, ?_⟩⟩⟩
                  rw [hι']
                  have hsh : (w.drew.alloc (.cells ((vs.take (i.size * xs.length)).toArray ++ (news.toArray ++ Builtin.zeroCells zv.cells (cap' - (len + ys.length)))) el)).shape? w.heap.size = some (el, ((vs.take (i.size * xs.length)).toArray ++ (news.toArray ++ Builtin.zeroCells zv.cells (cap' - (len + ys.length)))).size) := by
                    simp only [World.shape?, m.at]
                  refine ⟨el, _, hsh, ?_⟩
                  have h2 := S.newsLen
                  simp only [Array.size_append, List.size_toArray, size_zeroCells, hzs, hol, h2]
                  rw [Nat.zero_add, Nat.mul_comm i.size ys.length, ← Nat.add_mul, ← Nat.add_mul]
                  exact Nat.mul_le_mul_right _ (by omega)
          · exact h.elim
        · exact h.elim
      · exact h.elim
    · exact h.elim
  · exact h.elim
end ops
end Go.Proofs.YtjhgmaephpadpaaGreat.AW

namespace Go.Proofs.YtjhgmaephpadpaaGreat.AW
set_option linter.unusedSimpArgs false
set_option linter.unusedVariables false
section ops
variable {P : Program} {o : Oper} {e : Env} {s : Store} {K : AV → Store → Prop} {w : World} {g : G} {σ : St} {a : Act} {T : Nat → Prop} {N : Prop}

theorem zeroCells_one (z : Value) (n : Nat) : Builtin.zeroCells #[z] n = Array.replicate n z := by
  unfold Builtin.zeroCells
  apply Array.ext
  · simp
  · intro i h1 h2
    simp [Nat.mod_one]

set_option maxRecDepth 10000 in
set_option maxHeartbeats 2000000 in
theorem run_app_zero {ts : Array TypeId} {t u ty el : Nat} (hts : ts[0]? = some t ∧ ts[1]? = some u) {i : TypeInfo} {z : Value} (ht : P.underlying t = some (.slice el)) (hi : P.info? el = some i) (hz : i.zero = some z) (hzc : z.cells = #[z]) {k : IntKind} (hu : P.underlying u = some (.int k)) (hs : i.size = 1)
    {n : Nat} (hn : 1 ≤ n) (hb : n * i.bytes ≤ 140737488355328) (hb1 : 1 ≤ i.bytes) :
    ∃ cap, n ≤ cap ∧ (Builtin.append_ ts ty #[.slice none 0 0, .int .i64 n]).run P w = .ok (.slice (some ⟨w.heap.size, 0, none⟩) n cap) (w.drew.alloc (.cells (Array.replicate n z ++ Array.replicate (cap - n) z) el)) := by
  refine ⟨grownCap w n 0 el, grownCap_ge _ _ _ _, ?_⟩
  have hle : n ≤ 140737488355328 := Nat.le_trans (Nat.le_mul_of_pos_right n hb1) hb
  have hw : IntKind.i64.wrap (n : Int) = n := by rw [IntKind.wrap_i64]; omega
  have h1 : ¬ (n : Int) < 0 := by omega
  have h2 : ¬ (281474976710656 : Int) < (n : Int) * (i.bytes : Int) := by
    have : ((n * i.bytes : Nat) : Int) ≤ ((140737488355328 : Nat) : Int) := Int.ofNat_le.2 hb
    rw [Int.natCast_mul] at this; omega
  have h3 : ¬ n ≤ 0 := by omega
  have h4 : Builtin.nextslicecap n 0 = n := by unfold Builtin.nextslicecap; rw [if_pos (by omega)]
  have h5 : ¬ 281474976710656 < n * i.bytes := by omega
  have h6 : ¬ (9223372036854775807 : Int) < (n : Int) := by omega
  have h7 : ¬ n = 0 := by omega
  have h8 : IntKind.i64.max = 9223372036854775807 := by decide
  have hai : ∀ w, (asInt (.int .i64 (n : Int))).run P w = .ok (n : Int) w := fun w => by simp [asInt, asIntOf]
  simp [Builtin.append_, hts.1, hts.2, run_underlying ht, run_underlying hu, sizeOf, typeInfo, hi, hs, hai, hw, h1, h2, h3, h4, h5, h6, h7, h8, hb1, Question.forced, grownCap, zeroValue, hz, newRow, Builtin.firstCells, hzc, zeroCells_one, Result.andThen]


theorem replicate_rep {B : Nat → Prop} {z : PV} {v : Value} (h : RepP w B z v) : ∀ n, RepPs w B (List.replicate n z) (List.replicate n v)
  | 0 => .nil
  | n + 1 => .cons _ _ _ _ h (replicate_rep h n)
theorem zflat_one : ∀ {xs : List PV}, (∀ x, x ∈ xs → x.one = true) → flat xs = xs
  | [], _ => rfl
  | x :: r, h => by
    have hx := h x (by simp)
    have : x.cells = [x] := by cases x <;> first | rfl | simp [PV.one] at hx
    show x.cells ++ flat r = x :: r
    rw [this, zflat_one fun y hy => h y (by simp [hy])]; rfl

theorem ok_app_zero {ts : Array TypeId} {t u el : Nat} {x y : Operand} (ho : o.op = .call ⟨.builtin .append, #[x, y], ts⟩) (hts : ts[0]? = some t ∧ ts[1]? = some u) (ht : P.underlying t = some (.slice el)) {i : TypeInfo} {z : PV} (hi : P.info? el = some i) (hz : zeroT P el = some z) {k : IntKind} (hu : P.underlying u = some (.int k))
    (hb1 : 1 ≤ i.bytes) (hone : z.one = true) (hs : i.size = 1) (hx : a.eval x = .slice none 0 0) {n : Int} (hy : a.eval y = .int .i64 n) (hn : 1 ≤ n) (hb : n * i.bytes ≤ 140737488355328)
    (h : K (.osl s.length (List.replicate n.toNat z).length 0 (List.replicate n.toNat z).length) (s ++ [some (.buf 1 (List.replicate n.toNat z) (tagB P el))])) (hN : ∀ v s', K v s' → s.length < s'.length → N) (c : Cx w g σ s T N) : OpOk P o a w (Rs w g σ s T K) := by
  obtain ⟨zv, _, hzr, i', hi', hzv⟩ := zeroT_run (w := w) (g := g) (σ := σ) hz
  rw [hi] at hi'; cases hi'
  obtain ⟨m, rfl⟩ : ∃ m : Nat, n = (m : Int) := ⟨n.toNat, by omega⟩
  rw [Int.toNat_natCast] at h
  have hzc : zv.cells = #[zv] := by
    have := hzr.inv_p
    cases this with
    | agg => simp [PV.one] at hone
    | lit _ hl => cases zv <;> first | rfl | exact hl.elim
    | _ => rfl
  have hbm : m * i.bytes ≤ 140737488355328 := by
    have : ((m * i.bytes : Nat) : Int) ≤ 140737488355328 := by rw [Int.natCast_mul]; exact hb
    omega
  obtain ⟨cap, hcap, hrun⟩ := run_app_zero (P := P) (w := w) (ty := o.type) hts ht hi hzv hzc hu hs (by omega : 1 ≤ m) hbm hb1
  have mo : More w (w.drew.alloc (.cells (Array.replicate m zv ++ Array.replicate (cap - m) zv) el)) (.cells (Array.replicate m zv ++ Array.replicate (cap - m) zv) el (0, 0)) := ⟨rfl, rfl, rfl, rfl, Nat.le_succ _⟩
  have hmem : ∀ q, q ∈ List.replicate m z → q = z := fun q hq => (List.mem_replicate.1 hq).2
  have hel : El 1 z := by
    constructor
    · cases z <;> first | rfl | simp [PV.one] at hone
    · cases z <;> first | rfl | simp [PV.one] at hone
  have hsh0 : (w.drew.alloc (.cells (Array.replicate m zv ++ Array.replicate (cap - m) zv) el)).shape? w.heap.size = some (el, (Array.replicate m zv ++ Array.replicate (cap - m) zv).size) := by
    simp only [World.shape?, mo.at]
  refine .value (v := .slice (some ⟨w.heap.size, 0, none⟩) m cap) (w' := w.drew.alloc (.cells (Array.replicate m zv ++ Array.replicate (cap - m) zv) el)) (by simp only [execOp, ho, resolve, invoke, builtin]; simp [hx, hy, hrun]) ?_
  refine Rs.new c mo (o := .buf 1 (List.replicate m z) (tagB P el)) ?_ ?_ h (hN _ _ h (by simp))
  · refine .buf 1 (List.replicate m z) (List.replicate m zv ++ List.replicate (cap - m) zv) (by decide) (fun q hq => by rw [hmem q hq]; exact hel) (by simp) ?_ ⟨el, (0, 0), ?_, .inl rfl⟩ _ (fun u' hu' => by rw [tagB_eq hu']; exact ⟨_, hsh0⟩)
    · rw [zflat_one (fun q hq => by rw [hmem q hq]; exact hone), List.length_replicate, Nat.one_mul, List.take_left' (by simp)]
      exact (c.ext_new mo _ (hN _ _ h (by simp))).repPs (replicate_rep hzr.inv_p m)
    · rw [mo.at]; simp
  · refine .osl s.length _ 0 _ _ (.inr rfl) ⟨_, _, by rw [List.length_replicate], fun q => by cases q⟩ (fun sz zs ty q => by simp [St.put] at q; rw [← q.2.1]; simp) (fun sz zs ty q _ => ?_)
    simp [St.put] at q
    obtain ⟨rfl, rfl, _⟩ := q
    refine ⟨by simp, fun q => absurd (.inl rfl) q, fun _ => ⟨_, _, by rw [List.length_replicate], rfl, by simpa using hcap, fun _ => ⟨by simp [G.new], el, _, by simpa [G.new] using hsh0, ?_⟩⟩⟩
    simp; omega
end ops
end Go.Proofs.YtjhgmaephpadpaaGreat.AW

namespace Go.Proofs.YtjhgmaephpadpaaGreat.AW
set_option linter.unusedSimpArgs false
set_option linter.unusedVariables false
section ops
variable {P : Program} {o : Oper} {e : Env} {s : Store} {K : AV → Store → Prop} {w : World} {g : G} {σ : St} {a : Act} {T : Nat → Prop} {N : Prop}

theorem zeroCells_eq (zc : Array Value) : ∀ n, (Builtin.zeroCells zc n).toList = (List.replicate n zc.toList).flatten := by
  intro n
  unfold Builtin.zeroCells
  rw [← List.toArray_range, List.map_toArray]
  show (List.range (n * zc.size)).map (fun j => zc[j % zc.size]!) = _
  induction n with
  | zero => simp
  | succ n ih =>
    rw [Nat.succ_mul, List.range_add, List.map_append, ih, List.replicate_succ', List.flatten_append]
    congr 1
    simp only [List.flatten_cons, List.flatten_nil, List.append_nil]
    apply List.ext_getElem
    · simp
    · intro i h1 h2
      simp at h1
      simp only [List.getElem_map, List.getElem_range, Nat.mul_add_mod_self_right, Nat.mod_eq_of_lt h1]
      rw [getElem!_pos zc i h1]
      simp
theorem flat_rep0 {B : Nat → Prop} {z : PV} {zs : List Value} (h : RepPs w B z.cells zs) : ∀ n, RepPs w B (flat (List.replicate n z)) (List.replicate n zs).flatten
  | 0 => .nil
  | n + 1 => by
    rw [List.replicate_succ, List.replicate_succ, List.flatten_cons]
    show RepPs w B (z.cells ++ flat (List.replicate n z)) _
    exact h.append (flat_rep0 h n)
theorem flat_takeK {sz : Nat} : ∀ {xs : List PV} (n : Nat), (∀ x, x ∈ xs → El sz x) → flat (xs.take n) = (flat xs).take (n * sz)
  | [], n, _ => by simp [flat]
  | x :: r, 0, _ => by simp [flat]
  | x :: r, n + 1, h => by
    have hx := (h x (by simp)).1
    have ih := flat_takeK (xs := r) n (fun y hy => h y (by simp [hy]))
    show x.cells ++ flat (r.take n) = (x.cells ++ flat r).take ((n + 1) * sz)
    rw [ih, Nat.succ_mul, List.take_append, List.take_of_length_le (l := x.cells) (by rw [hx]; omega), hx, Nat.add_sub_cancel]
theorem flat_dropK {sz : Nat} : ∀ {xs : List PV} (n : Nat), (∀ x, x ∈ xs → El sz x) → flat (xs.drop n) = (flat xs).drop (n * sz)
  | [], n, _ => by simp [flat]
  | x :: r, 0, _ => by simp [flat]
  | x :: r, n + 1, h => by
    have hx := (h x (by simp)).1
    have ih := flat_dropK (xs := r) n (fun y hy => h y (by simp [hy]))
    show flat (r.drop n) = (x.cells ++ flat r).drop ((n + 1) * sz)
    rw [ih, Nat.succ_mul, show n * sz + sz = x.cells.length + n * sz by omega, ← List.drop_drop, List.drop_left]

theorem clear_run {t : Nat} {args : Array Operand} {ts : Array TypeId} {rest : List TypeId} {x : Operand} (ho : o.op = .call ⟨.builtin .clear, args, ts⟩) (hargs : args = #[x]) (hts : ts.toList = t :: rest) (h : clearA P t (ev e x) s K) (c : Cx w g σ s T N)
    (hT : ∀ id, id ∈ ids (ev e x) → T id) (he : EnvR w g σ e a.tmps) : OpOk P o a w (Rs w g σ s T K) := by
  have hts' : ts[0]? = some t := by rw [← Array.getElem?_toList, hts]; rfl
  subst hargs
  unfold clearA at h
  have hx := ev_rep he x
  split at h
  · rename_i el id tot off len hd hev
    have hu := und hd (by simp)
    rw [hev] at hx
    split at h
    · rename_i z sz xs ty hz hg
      split at h
      · rename_i hzc
        simp only [Bool.and_eq_true] at hzc
        have hzl := Nat.eq_of_beq_eq_true hzc.1
        rw [setK_eq] at h
        unfold Ob at h
        obtain ⟨⟨htot, hol⟩, hk⟩ := h
        obtain ⟨zv, hzr, hzrep, i, hi, hiz⟩ := zeroT_run (w := w) (g := g) (σ := σ) hz
        have hTi : T id := hT id (by rw [hev]; simp [ids, ids1])
        have hs : σ id = some (.buf sz xs ty) := (c.agree id hTi).trans hg
        obtain ⟨⟨q0, cap0, hq0, hq1⟩, hC, htt, hd'⟩ := hx.inv_osl
        have hV := hd' _ _ _ hs htot
        have same : xs.take off ++ (List.replicate 0 z ++ xs.drop (off + 0)) = xs := by simp
        have hset : ∀ {ys}, ys = xs → s.set id (some (.buf sz ys ty)) = s := fun {ys} e => by
          subst e
          have hg' := hg
          unfold getO at hg'
          apply List.ext_getElem?
          intro k
          by_cases hk : k = id
          · subst hk
            have hl := getO_lt hg
            rw [List.getElem?_set_self (by omega)]
            cases hq : s[k]? with
            | none => rw [hq] at hg'; cases hg'
            | some o => rw [hq] at hg'; dsimp only at hg'; rw [hg']
          · rw [List.getElem?_set_ne (by omega)]
        have idle : len = 0 → OpOk P o a w (Rs w g σ s T K) := fun hl => by
          subst hl
          rw [hset same] at hk
          refine .value (v := .tuple #[]) (w' := w) ?_ (.pure c hk (.tup _ [] .nil))
          rw [hq0] at hx
          have : (Builtin.clear_ ts o.type #[a.eval x]).run P w = .ok (.tuple #[]) w := by
            rw [hq0]
            cases q0 <;> simp [Builtin.clear_, hts', underlying, hu]
          simp [execOp, ho, resolve, invoke, builtin, this]
        by_cases hl : len = 0
        · exact idle hl
        · by_cases hR : g.R id
          · obtain ⟨ad, cap, hp, _, hlc, hpos⟩ := hV.2.2 hR
            obtain ⟨hadr, _⟩ := hpos (by omega)
            subst hadr
            have hne : xs ≠ [] := fun q => by rw [q] at htot; simp at htot; omega
            cases c.inv.repR hs (by simp [hne]) with
            | buf _ _ vs hz0 hsz hn hr hare _ hty =>
              have hpc := pcells hzrep.inv_p
              have hzs : zv.cells.size = sz := by have := hpc.len; rw [hzl] at this; simpa using this.symm
              have hone : ∀ v ∈ (Builtin.zeroCells zv.cells len).toList, v.oneCell' = true := by
                rw [zeroCells_eq]
                have h1 := hpc.ones (fun q hq => List.all_eq_true.1 hzc.2 q hq)
                intro v hv
                obtain ⟨l, hl, hvl⟩ := List.mem_flatten.1 hv
                rw [(List.mem_replicate.1 hl).2] at hvl
                exact h1 v hvl
              have hzlen : (Builtin.zeroCells zv.cells len).toList.length = len * sz := by
                unfold Builtin.zeroCells; simp [hzs]
              have hmul : off * sz + len * sz ≤ sz * xs.length := by
                rw [← Nat.add_mul, Nat.mul_comm]; exact Nat.mul_le_mul_left _ (by omega)
              obtain ⟨w', k1, k2, k3⟩ := run_storeCells (P := P) (Builtin.zeroCells zv.cells len).toList (off := off * sz) (i := 0) hare (by rw [hzlen]; omega) hone
              refine .value (v := .tuple #[]) (w' := w') ?_ ?_
              · have : (Builtin.clear_ ts o.type #[a.eval x]).run P w = .ok (.tuple #[]) w' := by
                  rw [hp]
                  obtain ⟨n, rfl⟩ : ∃ n, len = n + 1 := ⟨len - 1, by omega⟩
                  simp [Builtin.clear_, hts', underlying, hu, hzr, k1]
                simp [execOp, ho, resolve, invoke, builtin, this]
              · have hlen2 : (xs.take off ++ (List.replicate len z ++ xs.drop (off + len))).length = xs.length := by
                  simp only [List.length_append, List.length_take, List.length_replicate, List.length_drop]; omega
                refine Rs.set c hTi hg (c.inv.real hs (by simp [hne])) (o' := .buf sz (xs.take off ++ (List.replicate len z ++ xs.drop (off + len))) ty) ⟨rfl, by rw [hlen2]; exact Nat.le_refl _, rfl⟩ k3 (fun hx' => ?_) (fun _ => .tup _ [] .nil) hk
                refine .buf _ _ _ hz0 (fun q hq => ?_) ?_ ?_ (by simpa using k2) _ (fun u hu => by obtain ⟨n, hn⟩ := hty u hu; exact ⟨n, k3.shape.trans hn⟩)
                · rcases List.mem_append.1 hq with hq | hq
                  · exact hsz q (List.mem_of_mem_take hq)
                  · rcases List.mem_append.1 hq with hq | hq
                    · rw [(List.mem_replicate.1 hq).2]; exact ⟨hzl, hzc.2⟩
                    · exact hsz q (List.mem_of_mem_drop hq)
                · rw [hlen2]
                  show _ ≤ (spliceV vs (off * sz) (Builtin.zeroCells zv.cells len).toList).length
                  unfold spliceV
                  simp only [List.length_append, List.length_take, List.length_drop, hzlen]
                  omega
                · rw [hlen2, take_splice (by rw [hzlen]; exact hmul) hn, hzlen]
                  have e1 : flat (xs.take off ++ (List.replicate len z ++ xs.drop (off + len))) = (flat xs).take (off * sz) ++ flat (List.replicate len z) ++ (flat xs).drop (off * sz + len * sz) := by
                    rw [flat_append, flat_append, flat_takeK off hsz, flat_dropK (off + len) hsz, Nat.add_mul, List.append_assoc]
                  rw [e1]
                  refine hx'.repPs (((hr.take (off * sz)).append ?_).append (hr.drop (off * sz + len * sz)))
                  rw [zeroCells_eq]
                  exact flat_rep0 hpc len
          · have := (hV.2.1 hR).1
            rw [hq0] at this
            cases this
            exact absurd rfl hl
      · exact h.elim
    · exact h.elim
  · rename_i el k sz hd hev
    have hu := und hd (by simp)
    rw [hev] at hx
    refine .value (v := .tuple #[]) (w' := w) ?_ (.pure c h (.tup _ [] .nil))
    have : (Builtin.clear_ ts o.type #[a.eval x]).run P w = .ok (.tuple #[]) w := by
      generalize a.eval x = ax at *
      cases hx.inv_p <;> simp [Builtin.clear_, hts', underlying, hu]
    simp [execOp, ho, resolve, invoke, builtin, this]
  · exact h.elim
end ops
end Go.Proofs.YtjhgmaephpadpaaGreat.AW

namespace Go.Proofs.YtjhgmaephpadpaaGreat.AW
set_option linter.unusedSimpArgs false
set_option linter.unusedVariables false
section ops
variable {P : Program} {o : Oper} {e : Env} {s : Store} {K : AV → Store → Prop} {w : World} {g : G} {σ : St} {a : Act} {T : Nat → Prop} {N : Prop}

theorem second_str {i : TypeInfo} {b : ByteArray} {x : Value} (hx : x = .string b) (hsz : 1 = i.size) : Second P w g σ i.size x (bytesP b.data.toList) (b.data.toList.map fun c => Value.int .u8 c.toNat) := by
  subst hx
  rw [← hsz]
  refine ⟨?_, bytes_cells _ _, fun y hy => ?_, fun w' _ => ?_⟩
  · simp [Builtin.lenOf, bytesP]
  · simp [bytesP] at hy; obtain ⟨c, _, rfl⟩ := hy; exact ⟨rfl, rfl⟩
  · have hl : (bytesP b.data.toList).length = b.size := by simp [bytesP]
    rw [hl]
    have : b.extract 0 b.size = b := by
      apply ByteArray.ext; rw [ByteArray.data_extract]; simp
    simp only [Builtin.firstCells, Sem.run_pure, this]
    congr 1
    apply Array.ext'; simp

theorem second_sl {x : Value} (c : Cx w g σ s T N) {av : AV} (hx : RepA w g σ av x) (hT : ∀ id, id ∈ ids av → T id) {K' : Nat → List PV → Prop} (h : elems s av K') :
    ∃ sz ys, K' sz ys ∧ ∀ size, sz = size → ∃ news, Second P w g σ size x ys news := by
  obtain ⟨sz, ys, hk, hel, hlay⟩ := elems_rep hx c hT h
  refine ⟨sz, ys, hk, fun size hsz => ?_⟩
  subst hsz
  rcases hlay with ⟨hy, rfl⟩ | ⟨ad, cap, vs, hy, hcap, hr, hcell⟩
  · subst hy
    exact ⟨[], by simp [Builtin.lenOf], .nil, (fun q hq => by cases hq), (fun w' _ => by simp [Builtin.firstCells])⟩
  · subst hy
    refine ⟨vs, by simp [Builtin.lenOf], hr, hel, fun w' hw' => ?_⟩
    refine firstCells_of (by rw [← hr.len, flat_len hel, Nat.mul_comm]) w' (fun j v hj => ?_)
    have hc := hcell j v hj
    have hlt := block_lt_of_cell hc
    rw [← hc]
    exact World.cell?_of_block (w := w) (hw' _ hlt)

theorem foldI_rep (f : Int → Int → Int) (m : Value → Value → Sem Value) (k : IntKind) (hm : ∀ a b, m (.int k a) (.int k b) = pure (.int k (f a b))) : ∀ {r : List AV} {ys : List Value} {x : Int} {n : Int}, foldI f k x r = some n → RepAs w g σ r ys →
    (ys.foldlM m (.int k x)).run P w = .ok (.int k n) w
  | [], _, x, n, h, .nil => by simp [foldI] at h; subst h; rfl
  | v :: r, _, x, n, h, .cons _ y _ ys hv hs => by
    unfold foldI at h
    split at h
    case h_1 heq => cases heq
    case h_3 => cases h
    rename_i k' b r' heq
    cases heq
    split at h
    · rename_i hk
      have := of_decide_eq_true hk; subst this
      have hv := hv.inv_int; subst hv
      rw [List.foldlM_cons, hm]
      exact foldI_rep f m k hm h hs
    · cases h

def St.kill (σ : St) (id : Nat) : St := fun i => if i = id then none else σ i

/-- An object is gone; its block may have turned. -/
theorem Rs.gone {x : Value} {v : AV} (c : Cx w g σ s T N) {w' : World} {id : Nat} {ob : AObj} (hT : T id) (hs : getO s id = some ob) (hR : g.R id)
    (m : Turned w w' (g.ι id)) (hv : RepA w' g (σ.kill id) v x) (hk : K v (s.set id none)) : Rs w g σ s T K x w' := by
  have hσ : σ id = some ob := (c.agree id hT).trans hs
  have hl : id < s.length := getO_lt hs
  have hov : ovr T s (s.set id none) σ = σ.kill id := by
    funext i
    unfold ovr St.kill
    by_cases hi : i = id
    · subst hi
      rw [if_pos (.inl hT), if_pos rfl, getO_set s i none i hl, if_pos rfl]
    · rw [if_neg hi]
      split
      · rename_i hh
        rw [getO_set s id none i hl, if_neg hi]
        rcases hh with hh | ⟨h1, h2⟩
        · exact (c.agree i hh).symm
        · simp at h2; omega
      · rfl
  have hsub : ∀ i oo, σ.kill id i = some oo → σ i = some oo ∧ i ≠ id := fun i oo h => by
    by_cases hi : i = id
    · simp [St.kill, hi] at h
    · exact ⟨by simpa [St.kill, hi] using h, hi⟩
  have hne : ∀ i, σ.kill id i ≠ none → σ i ≠ none := fun i h => by
    obtain ⟨oo, ho⟩ := Option.ne_none_iff_exists'.1 h
    rw [(hsub i oo ho).1]; simp
  have hext : Ext w g σ w' g (σ.kill id) := {
    drawn := m.drawn
    size := by rw [m.size]; exact Nat.le_refl _
    os := m.os
    tape := m.tape
    output := m.output
    frame := fun b hb ho => m.other b (fun e => ho ⟨id, by rw [hσ]; simp, hR, e.symm⟩)
    shape := fun b hb => by
      by_cases hbi : b = g.ι id
      · rw [hbi]; exact m.shape
      · exact shape_same (m.other b hbi)
    X := rfl
    C := fun _ h => h
    own := fun b hb ⟨i, h1, hr, h2⟩ => ⟨i, hne i h1, hr, h2⟩
    obj := fun i hc oo ho => ⟨oo, (hsub i oo ho).1, .refl _⟩
    ι1 := fun _ _ _ => ⟨rfl, .rfl⟩
    ι2 := fun _ _ _ _ _ _ _ _ _ _ => ⟨rfl, .rfl⟩ }
  refine ⟨v, s.set id none, g, hk, by simp, fun i hi hlt => ?_, ?_, ?_, ?_, fun i h => .inl h⟩
  · rw [getO_set s id _ i hl, if_neg (fun (e : i = id) => hi (by rw [e]; exact hT))]
  · rw [hov]; exact hv
  · rw [hov]
    refine ⟨fun i oo h => c.inv.made i oo (hsub i oo h).1, fun i oo h hr => by rw [m.size]; exact c.inv.lies i oo (hsub i oo h).1 hr, fun b hb => by rw [m.size]; exact c.inv.xlt b hb, fun i j h k => c.inv.inj i j (hne i h) (hne j k), fun i oo h hr => ?_, fun i oo h hr => c.inv.void i oo (hsub i oo h).1 hr⟩
    obtain ⟨h1, h2⟩ := hsub i oo h
    refine hext.repO (m.other _ (fun e => h2 ?_)) (c.inv.rep i oo h1 hr)
    exact c.inv.inj _ _ (by rw [h1]; simp) (by rw [hσ]; simp) hr hR e
  · rw [hov]; exact hext

theorem bytes_vals {B : Nat → Prop} : ∀ {l : List UInt8} {zs : List Value}, RepPs w B (flat (bytesP l)) zs → zs = l.map fun b => Value.int .u8 b.toNat
  | [], _, h => by cases h; rfl
  | b :: r, _, h => by
    have e : flat (bytesP (b :: r)) = .int .u8 b.toNat :: flat (bytesP r) := rfl
    rw [e] at h
    cases h with
    | cons v x vs xs h hs =>
      cases h
      rw [bytes_vals hs]; rfl

theorem freeze_turned (w : World) (b n : Nat) : Turned w (w.freeze ⟨b, 0, none⟩ n) b := by
  unfold World.freeze
  split
  · exact .refl w b
  · refine ⟨by simp, rfl, rfl, rfl, fun k hk => ?_, ?_, Nat.le_refl _⟩
    · simp only [Array.getElem?_modify]; rw [if_neg (by omega)]
    · unfold World.shape?
      simp only [Array.getElem?_modify, if_true]
      cases w.heap[b]? with
      | none => rfl
      | some o => cases o <;> rfl

theorem ok_builtin {b : Builtin} {args : Array Operand} {ts : Array TypeId} (ho : o.op = .call ⟨.builtin b, args, ts⟩) (h : builtinA P b ts.toList (args.toList.map (ev e)) s K)
    (hN : ∀ v s', K v s' → s.length < s'.length → N) (c : Cx w g σ s T N) (hT : ∀ x, x ∈ args.toList → ∀ id, id ∈ ids (ev e x) → T id) (he : EnvR w g σ e a.tmps) : OpOk P o a w (Rs w g σ s T K) := by
  unfold builtinA at h
  have hargs := evs_rep (w := w) (g := g) (σ := σ) he args.toList
  split at h
  · rename_i t rest x hts hxs
    have hts' : ts[0]? = some t := by rw [← Array.getElem?_toList, hts]; rfl
    obtain ⟨y, hy, hyx⟩ : ∃ y, args.toList = [y] ∧ ev e y = x := by
      cases hl : args.toList with
      | nil => rw [hl] at hxs; simp at hxs
      | cons q r => cases r with
        | nil => rw [hl] at hxs; simp at hxs; exact ⟨q, rfl, hxs⟩
        | cons => rw [hl] at hxs; simp at hxs
    have hargs0 : args = #[y] := by cases args; simp at hy; rw [hy]
    subst hargs0
    have hx := ev_rep he y
    have fin : ∀ {n : Int}, (Builtin.len_ ts o.type #[a.eval y]).run P w = .ok (.int .i64 n) w → K (.p (.int .i64 n)) s → OpOk P o a w (Rs w g σ s T K) := by
      intro n hr hk
      refine .value (v := .int .i64 n) (w' := w) ?_ (.pure c hk (.mkInt _ _))
      simp [execOp, ho, resolve, invoke, builtin, hr]
    split at h
    · rename_i l hd
      have hu := und hd (by simp)
      rw [hyx] at hx
      obtain ⟨bb, hb, rfl⟩ := hx.inv_str
      refine fin ?_ h
      simp [Builtin.len_, hts', underlying, hu, hb, goInt]
    · rename_i k sz xs u hd
      have hu := und hd (by simp)
      rw [hyx] at hx
      refine fin ?_ h
      generalize a.eval y = ay at *
      cases hx.inv_p <;> simp [Builtin.len_, hts', underlying, hu, goInt]
    · rename_i id tot off len u hd
      have hu := und hd (by simp)
      rw [hyx] at hx
      obtain ⟨⟨ad, cap, hp, _⟩, _⟩ := hx.inv_osl
      refine fin ?_ h
      simp [Builtin.len_, hts', underlying, hu, hp, goInt]
    · rename_i n el hd
      have hu := und hd (by simp)
      refine fin ?_ h
      simp [Builtin.len_, hts', underlying, hu, goInt]
    · rename_i kt vt id hd
      have hu := und hd (by simp)
      split at h
      · rename_i kk es clock hg
        rw [hyx] at hx
        obtain ⟨hp, _, _⟩ := hx.inv_map
        have hs := (c.agree id (hT y (by simp) id (by rw [hyx]; simp [ids, ids1]))).trans hg
        cases c.inv.rep _ _ hs (c.inv.real hs (by simp)) with
        | map _ _ _ xs hE hw _ _ _ =>
          refine fin ?_ h
          simp [Builtin.len_, hts', underlying, hu, hp, getObj, Sem.run, hw, goInt, hE.len]
      · exact h.elim
    · exact h.elim
  · rename_i t rest x key hts hxs
    obtain ⟨p, q, hpq, hpx, hqy⟩ : ∃ p q, args.toList = [p, q] ∧ ev e p = x ∧ ev e q = key := by
      cases hl : args.toList with
      | nil => rw [hl] at hxs; simp at hxs
      | cons p r => cases r with
        | nil => rw [hl] at hxs; simp at hxs
        | cons q r => cases r with
          | nil => rw [hl] at hxs; simp at hxs; exact ⟨p, q, rfl, hxs.1, hxs.2⟩
          | cons => rw [hl] at hxs; simp at hxs
    have hargs0 : args = #[p, q] := by cases args; simp at hpq; rw [hpq]
    refine delete_run ho hargs0 hts (by rw [hpx, hqy]; exact h) c (fun id hid => hT p (by rw [hpq]; simp) id hid) he
  · rename_i t rest x hts hxs
    obtain ⟨y, hy, hyx⟩ : ∃ y, args.toList = [y] ∧ ev e y = x := by
      cases hl : args.toList with
      | nil => rw [hl] at hxs; simp at hxs
      | cons q r => cases r with
        | nil => rw [hl] at hxs; simp at hxs; exact ⟨q, rfl, hxs⟩
        | cons => rw [hl] at hxs; simp at hxs
    have hargs0 : args = #[y] := by cases args; simp at hy; rw [hy]
    exact clear_run ho hargs0 hts (by rw [hyx]; exact h) c (fun id hid => hT y (by rw [hy]; simp) id hid) he
  · rename_i t rest x hts hxs
    have hts' : ts[0]? = some t := by rw [← Array.getElem?_toList, hts]; rfl
    obtain ⟨y, hy, hyx⟩ : ∃ y, args.toList = [y] ∧ ev e y = x := by
      cases hl : args.toList with
      | nil => rw [hl] at hxs; simp at hxs
      | cons q r => cases r with
        | nil => rw [hl] at hxs; simp at hxs; exact ⟨q, rfl, hxs⟩
        | cons => rw [hl] at hxs; simp at hxs
    have hargs0 : args = #[y] := by cases args; simp at hy; rw [hy]
    subst hargs0
    have hx := ev_rep he y
    split at h
    · rename_i sz xs u hd
      have hu := und hd (by simp)
      rw [hyx] at hx
      have hp : a.eval y = .slice none 0 0 := by
        generalize a.eval y = ay at *
        cases hx.inv_p with
        | nil => rfl
        | sl _ _ _ _ _ _ hk => exact absurd rfl hk
        | spt _ _ _ hk => exact absurd rfl hk
      refine .value (v := .int .i64 0) (w' := w) ?_ (.pure c h (.mkInt _ _))
      simp [execOp, ho, resolve, invoke, builtin, Builtin.cap_, hts', underlying, hu, hp, goInt]
    · exact h.elim
  · rename_i t u rest x y hts hxs
    obtain ⟨p, q, hpq, hpx, hqy⟩ : ∃ p q, args.toList = [p, q] ∧ ev e p = x ∧ ev e q = y := by
      cases hl : args.toList with
      | nil => rw [hl] at hxs; simp at hxs
      | cons p r => cases r with
        | nil => rw [hl] at hxs; simp at hxs
        | cons q r => cases r with
          | nil => rw [hl] at hxs; simp at hxs; exact ⟨p, q, rfl, hxs.1, hxs.2⟩
          | cons => rw [hl] at hxs; simp at hxs
    have hargs0 : args = #[p, q] := by cases args; simp at hpq; rw [hpq]
    subst hargs0
    have hts2 : ∃ rest, ts.toList = t :: u :: rest := ⟨rest, hts⟩
    have hq := ev_rep he q
    rw [hqy] at hq
    have happ : ∀ {ysz : Nat} {ys : List PV}, appA P t (ev e p) ysz ys s K → notInt P u → (∀ el i, P.info? el = some i → P.underlying t = some (.slice el) → ysz = i.size → ∃ news, Second P w g σ i.size (a.eval q) ys news) → OpOk P o a w (Rs w g σ s T K) := by
      intro ysz ys h hu hS
      have hdt : ∃ el, P.underlying t = some (.slice el) := by
        unfold appA at h
        split at h
        · rename_i el hd; exact ⟨el, und hd (by simp)⟩
        · exact h.elim
      obtain ⟨el, hel⟩ := hdt
      have hinf : ∃ i, P.info? el = some i ∧ ysz = i.size := by
        unfold appA at h
        have hd : dsc P t = .slice el := by simp [dsc, hel]
        rw [hd] at h
        simp only [] at h
        split at h
        · rename_i i z' hi hz
          split at h
          · rename_i hb1 hb2
            simp only [Bool.and_eq_true] at hb1
            exact ⟨i, hi, Nat.eq_of_beq_eq_true hb1.1.1⟩
          · exact h.elim
        · exact h.elim
      obtain ⟨i, hi, hsz⟩ := hinf
      obtain ⟨news, S⟩ := hS el i hi hel hsz
      refine ok_app (t := t) (u := u) (el := el) (x := p) (y := q) (ysz := ysz) (ys := ys) (news := news) ho ⟨by rw [← Array.getElem?_toList, hts]; rfl, by rw [← Array.getElem?_toList, hts]; rfl⟩ h hN (fun i' hi' _ _ => by rw [hi] at hi'; cases hi'; exact S) c (fun id hid => hT p (by simp) id hid) he hu hel
    rw [← hpx] at h
    split at h
    · rename_i k n hd
      have hu := und hd (by simp)
      split at h
      · rename_i sz xs el hd2 hevp
        have hel := und hd2 (by simp)
        split at h
        · rename_i i z hi hz
          split at h
          · rename_i h1 h2
            simp only [Bool.and_eq_true] at h1
            rw [snoc_eq] at h
            unfold Ob at h
            have hp := ev_rep (w := w) (g := g) (σ := σ) he p
            rw [hevp] at hp
            have hpn : a.eval p = .slice none 0 0 := by
              generalize a.eval p = ap at *
              cases hp.inv_p with
              | nil => rfl
              | sl _ _ _ b off cap hk' => exact absurd rfl hk'
              | spt _ _ _ hk => exact absurd rfl hk
            exact ok_app_zero ho ⟨by rw [← Array.getElem?_toList, hts]; rfl, by rw [← Array.getElem?_toList, hts]; rfl⟩ hel hi hz hu (Nat.le_of_ble_eq_true h1.1) h1.2 (Nat.eq_of_beq_eq_true h2) hpn hq.inv_int h.1.1 h.1.2 h.2 hN c
          · exact h.elim
        · exact h.elim
      · exact h.elim
    · rename_i l hd
      have hu := und hd (by simp)
      obtain ⟨bb, hb, rfl⟩ := hq.inv_str
      exact happ h ⟨_, hu, fun k => by simp⟩ (fun el i hi hel hsz => ⟨_, second_str hb hsz⟩)
    · rename_i sz xs v hd
      have hu := und hd (by simp)
      split at h
      · rename_i el hd2
        have hel := und hd2 (by simp)
        refine happ h ⟨_, hu, fun k => by simp⟩ (fun el' i hi hel' hsz => ?_)
        have hp : a.eval q = .slice none 0 0 := by
          generalize a.eval q = aq at *
          cases hq.inv_p with
          | nil => rfl
          | sl _ _ _ b off cap hk' => exact absurd rfl hk'
          | spt _ _ _ hk => exact absurd rfl hk
        rw [hp]
        exact ⟨[], by simp [Builtin.lenOf], .nil, (fun q hq => by cases hq), (fun w' _ => by simp [Builtin.firstCells])⟩
      · exact h.elim
    · rename_i v hd hnn
      have hu := und hd (by simp)
      obtain ⟨sz, ys, hk, hS⟩ := second_sl (P := P) c hq (fun id hid => hT q (by simp) id (by rw [hqy]; exact hid)) h
      exact happ hk ⟨_, hu, fun k => by simp⟩ (fun el i hi hel hsz => hS _ hsz)
    · exact h.elim
  · rename_i t k n r hxs
    split at h
    · rename_i m hm
      obtain ⟨q, rs, hq, hqx, hrx⟩ : ∃ q rs, args.toList = q :: rs ∧ ev e q = .p (.int k n) ∧ rs.map (ev e) = r := by
        cases hl : args.toList with
        | nil => rw [hl] at hxs; simp at hxs
        | cons q rs => rw [hl] at hxs; simp at hxs; exact ⟨q, rs, rfl, hxs.1, hxs.2⟩
      have hv := ev_rep (w := w) (g := g) (σ := σ) he q
      rw [hqx] at hv
      have hrs := evs_rep (w := w) (g := g) (σ := σ) he rs
      rw [hrx] at hrs
      have hf := foldI_rep (P := P) (fun x y => if y < x then y else x) Builtin.min2 k (fun a b => rfl) hm hrs
      refine .value (v := .int k m) (w' := w) ?_ (.pure c h (.mkInt _ _))
      have hm' : args.toList.map a.eval = .int k n :: rs.map a.eval := by rw [hq, List.map_cons, hv.inv_int]
      simp [execOp, ho, resolve, invoke, builtin, Builtin.min_, hm', hf]
    · exact h.elim
  · rename_i t k n r hxs
    split at h
    · rename_i m hm
      obtain ⟨q, rs, hq, hqx, hrx⟩ : ∃ q rs, args.toList = q :: rs ∧ ev e q = .p (.int k n) ∧ rs.map (ev e) = r := by
        cases hl : args.toList with
        | nil => rw [hl] at hxs; simp at hxs
        | cons q rs => rw [hl] at hxs; simp at hxs; exact ⟨q, rs, rfl, hxs.1, hxs.2⟩
      have hv := ev_rep (w := w) (g := g) (σ := σ) he q
      rw [hqx] at hv
      have hrs := evs_rep (w := w) (g := g) (σ := σ) he rs
      rw [hrx] at hrs
      have hf := foldI_rep (P := P) (fun x y => if y > x then y else x) Builtin.max2 k (fun a b => rfl) hm hrs
      refine .value (v := .int k m) (w' := w) ?_ (.pure c h (.mkInt _ _))
      have hm' : args.toList.map a.eval = .int k n :: rs.map a.eval := by rw [hq, List.map_cons, hv.inv_int]
      simp [execOp, ho, resolve, invoke, builtin, Builtin.max_, hm', hf]
    · exact h.elim
  · rename_i x hxs
    obtain ⟨y, hy, hyx⟩ : ∃ y, args.toList = [y] ∧ ev e y = x := by
      cases hl : args.toList with
      | nil => rw [hl] at hxs; simp at hxs
      | cons q r => cases r with
        | nil => rw [hl] at hxs; simp at hxs; exact ⟨q, rfl, hxs⟩
        | cons => rw [hl] at hxs; simp at hxs
    have hargs0 : args = #[y] := by cases args; simp at hy; rw [hy]
    subst hargs0
    have hx := ev_rep he y
    split at h
    · rename_i sz xs
      rw [hyx] at hx
      generalize hay : a.eval y = ay at *
      cases hx.inv_p with
      | nil =>
        refine .value (v := .pointer none) (w' := w) ?_ (.pure c h (.p _ _ (.lit _ trivial)))
        have hsd : (Builtin.unsafeSliceData_ ts o.type #[.slice none 0 0]).run P w = .ok (.pointer none) w := rfl
        simp [execOp, ho, resolve, invoke, builtin, hay, hsd]
      | sl _ _ _ _ _ _ hk => exact absurd rfl hk
      | spt _ _ _ hk => exact absurd rfl hk
    · rename_i id tot off len
      split at h
      · rename_i sz xs ty hg
        rw [hyx] at hx
        unfold Ob at h
        obtain ⟨⟨ht, hlen⟩, hk⟩ := h
        have hs : σ id = some (.buf sz xs ty) := (c.agree id (hT y (by simp) id (by rw [hyx]; simp [ids, ids1]))).trans hg
        obtain ⟨hq0, hC, htt, hd'⟩ := hx.inv_osl
        have hV := hd' _ _ _ hs ht
        have hR := hV.pos hq0 (by omega)
        obtain ⟨ad, cap, ⟨hp, hsp⟩, q1, q2, q3⟩ := hV.real hR
        obtain ⟨rfl, _⟩ := q3 (by omega)
        have hcap : cap ≠ 0 := by omega
        refine .value (v := .pointer (some ⟨g.ι id, off * sz, none⟩)) (w' := w) ?_ (.pure c hk ?_)
        · have hsd : (Builtin.unsafeSliceData_ ts o.type #[.slice (some ⟨g.ι id, off * sz, none⟩) len cap]).run P w = .ok (.pointer (some ⟨g.ι id, off * sz, none⟩)) w := by
            unfold Builtin.unsafeSliceData_
            show (if cap ≠ 0 then pure (.pointer (some ⟨g.ι id, off * sz, none⟩)) else _ : Sem Value).run P w = _
            rw [if_pos hcap]; rfl
          simp [execOp, ho, resolve, invoke, builtin, hp, hsd]
        · refine .eptr id tot _ _ _ hC htt (fun sz' xs' ty' hs' hl' => ?_)
          rw [hs] at hs'; cases hs'; exact ⟨rfl, hR⟩
      · exact h.elim
    · exact h.elim
  · rename_i t u x n hts hxs
    have hts' : ts = #[t, u] := by cases ts; simp at hts; rw [hts]
    obtain ⟨p, q, hpq, hpx, hqy⟩ : ∃ p q, args.toList = [p, q] ∧ ev e p = x ∧ ev e q = .p (.int .i64 n) := by
      cases hl : args.toList with
      | nil => rw [hl] at hxs; simp at hxs
      | cons q r => cases r with
        | nil => rw [hl] at hxs; simp at hxs
        | cons q2 r => cases r with
          | nil => rw [hl] at hxs; simp at hxs; exact ⟨q, q2, rfl, hxs.1, hxs.2⟩
          | cons => rw [hl] at hxs; simp at hxs
    have hargs0 : args = #[p, q] := by cases args; simp at hpq; rw [hpq]
    subst hargs0
    subst hts'
    have hx := ev_rep he p
    have hq := ev_rep he q
    rw [hqy] at hq
    have hq := hq.inv_int
    split at h
    · unfold Ob at h
      obtain ⟨rfl, hk⟩ := h
      rw [hpx] at hx
      have hp := hx.inv_lit.1
      refine .value (v := .string .empty) (w' := w) ?_ (.pure c hk (.p _ _ (by simpa using RepP.str (w := w) (B := Lv g σ) .empty)))
      have := Go.Lib.run_unsafeString_none (P := P) w t u o.type none
      simp [execOp, ho, resolve, invoke, builtin, hp, hq, this]
    · rename_i id tot
      split at h
      · rename_i u' xs ty hut hg
        split at h
        · rename_i hb
          simp only [Bool.and_eq_true] at hb
          have h1 := Nat.eq_of_beq_eq_true hb.1
          have h2 := Nat.eq_of_beq_eq_true hb.2
          subst h1
          unfold Ob at h
          obtain ⟨⟨ht, hn1, hn2, hn3⟩, l, hl, hk⟩ := h
          rw [killK_eq] at hk
          rw [hpx] at hx
          have hTi : T id := hT p (by simp) id (by rw [hpx]; simp [ids, ids1])
          have hs : σ id = some (.buf 1 xs (some u')) := (c.agree id hTi).trans hg
          have hp := hx.inv_eptr hs ht
          simp only [Nat.zero_mul, Nat.zero_add] at hp
          have hll : l.length = n.toNat := by
            have := congrArg List.length hl
            simp [bytesP] at this; omega
          have hln : (l.length : Int) = n := by omega
          have hR : g.R id := by
            obtain ⟨_, _, _, _, q⟩ := hx.inv_eptr2
            exact (q _ _ _ hs ht).2
          cases c.inv.rep _ _ hs hR with
          | buf _ _ vs hz hsz hn hr hare _ hty =>
            obtain ⟨m, hm⟩ := hty u' rfl
            have hmv : m = vs.length := by
              obtain ⟨e1, f1, hh, _⟩ := hare
              unfold World.shape? at hm
              rw [hh] at hm
              simp at hm; exact hm.2.symm
            have hc1 : P.cellsOf u' = 1 := by
              unfold szT at h2
              unfold Program.cellsOf
              split at h2
              · rename_i i hi; rw [hi]; simpa using h2
              · cases h2
            have hbytes : RepPs w (Lv g σ) (flat (bytesP l)) ((vs.take (1 * xs.length)).take l.length) := by
              have := hr.take l.length
              have e1 : (flat xs).take l.length = flat (bytesP l) := by
                rw [← hl, hll]
                have := flat_takeN n.toNat xs hsz
                rw [this, Nat.mul_one]
              rwa [e1] at this
            have hcell : ∀ j y, l[j]? = some y → w.cell? ((⟨g.ι id, 0, none⟩ : Addr).add j) = some (.int .u8 y.toNat) := by
              intro j y hj
              have hjl : j < l.length := (List.getElem?_eq_some_iff.1 hj).1
              rw [add_addr, Nat.zero_add, cell_of_are hare]
              have := bytes_vals hbytes
              have e2 : ((vs.take (1 * xs.length)).take l.length)[j]? = some (.int .u8 y.toNat) := by rw [this]; simp [hj]
              rw [List.getElem?_take, if_pos hjl, List.getElem?_take] at e2
              split at e2
              · exact e2
              · cases e2
            have hrun := Go.Lib.run_unsafeString_row (P := P) w t u o.type u' hut hc1 (g.ι id) m hm l (by intro e; subst e; simp at hll; omega) (by omega) (by omega) hcell
            rw [hln] at hrun
            refine .value (v := .string ⟨l.toArray⟩) (w' := w.freeze ⟨g.ι id, 0, none⟩ l.length) ?_ (Rs.gone c hTi hg hR (freeze_turned w _ _) (.p _ _ (by simpa using RepP.str (w := w.freeze ⟨g.ι id, 0, none⟩ l.length) (B := Lv g (σ.kill id)) ⟨l.toArray⟩)) hk)
            simp [execOp, ho, resolve, invoke, builtin, hp, hq, hrun]
        · exact h.elim
      · exact h.elim
    · exact h.elim
  · exact h.elim
end ops
end Go.Proofs.YtjhgmaephpadpaaGreat.AW

namespace Go.Proofs.YtjhgmaephpadpaaGreat.AW
set_option linter.unusedSimpArgs false
set_option linter.unusedVariables false
section ops
variable {P : Program} {o : Oper} {e : Env} {s : Store} {K : AV → Store → Prop} {w : World} {g : G} {σ : St} {a : Act} {T : Nat → Prop} {N : Prop}

/-! ### What is handed into a tree -/

theorem Cx.kill (c : Cx w g σ s T N) {id : Nat} {ob : AObj} (hT : T id) (hs : getO s id = some ob) : Cx w g (σ.kill id) (s.set id none) T N ∧ Ext w g σ w g (σ.kill id) ∧ (g.R id → ¬ Lv g (σ.kill id) (g.ι id)) ∧
    (∀ s', ovr T (s.set id none) s' (σ.kill id) = ovr T s s' σ) := by
  have hσ : σ id = some ob := (c.agree id hT).trans hs
  have hl : id < s.length := getO_lt hs
  have hsub : ∀ i oo, σ.kill id i = some oo → σ i = some oo := fun i oo h => by
    by_cases hi : i = id
    · simp [St.kill, hi] at h
    · simpa [St.kill, hi] using h
  have hne : ∀ i, σ.kill id i ≠ none → σ i ≠ none := fun i h => by
    obtain ⟨oo, ho⟩ := Option.ne_none_iff_exists'.1 h
    rw [hsub i oo ho]; simp
  have hext : Ext w g σ w g (σ.kill id) := ⟨Nat.le_refl _, rfl, rfl, rfl, fun _ _ _ => rfl, fun _ _ => rfl, rfl, fun _ h => h, fun b _ ⟨i, h1, hr, h2⟩ => ⟨i, hne i h1, hr, h2⟩,
    fun i _ oo h => ⟨oo, hsub i oo h, .refl _⟩, fun _ _ _ => ⟨rfl, .rfl⟩, fun _ _ _ _ _ _ _ _ _ _ => ⟨rfl, .rfl⟩, Nat.le_refl _⟩
  refine ⟨⟨⟨fun i oo h => c.inv.made i oo (hsub i oo h), fun i oo h => c.inv.lies i oo (hsub i oo h), c.inv.xlt, fun i j h k => c.inv.inj i j (hne i h) (hne j k), fun i oo h hr => hext.repO rfl (c.inv.rep i oo (hsub i oo h) hr), fun i oo h hr => c.inv.void i oo (hsub i oo h) hr⟩, fun i hi => ?_, fun hn => by simpa using c.fresh hn⟩, hext, fun hR => ?_, fun s' => ?_⟩
  · rw [getO_set s id none i hl]
    by_cases h : i = id
    · simp [St.kill, h]
    · simp only [St.kill, if_neg h]; exact c.agree i hi
  · rintro (h | ⟨i, h1, hr, h2⟩)
    · exact (c.inv.lies id _ hσ hR).2 h
    · have := c.inv.inj i id (hne i h1) (by rw [hσ]; simp) hr hR h2
      subst this; simp [St.kill] at h1
  · funext i
    have hl2 : (s.set id none).length = s.length := by simp
    unfold ovr
    by_cases h : T i ∨ (s.length ≤ i ∧ i < s'.length)
    · rw [if_pos (by rw [hl2]; exact h), if_pos h]
    · rw [if_neg (by rw [hl2]; exact h), if_neg h]
      have : i ≠ id := fun e => h (.inl (by rw [e]; exact hT))
      simp [St.kill, this]

structure Fz (w : World) (g : G) (σ : St) (s : Store) (T : Nat → Prop) (s' : Store) : Prop where
  len : s'.length = s.length
  same : ∀ id, ¬ T id → id < s.length → getO s' id = getO s id
  inv : Inv w g (ovr T s s' σ)
  ext : Ext w g σ w g (ovr T s s' σ)
  gone : ∀ id, getO s id = Option.none → getO s' id = Option.none

theorem Fz.refl (c : Cx w g σ s T N) : Fz w g σ s T s := ⟨rfl, fun _ _ _ => rfl, by rw [c.ovr_self]; exact c.inv, by rw [c.ovr_self]; exact .refl _ _ _, fun _ h => h⟩

theorem Fz.kill (c : Cx w g σ s T N) {id : Nat} {ob : AObj} (hT : T id) (hs : getO s id = some ob) {s' : Store} (h : Fz w g (σ.kill id) (s.set id Option.none) T s') : Fz w g σ s T s' := by
  obtain ⟨_, k2, _, k4⟩ := c.kill hT hs
  have hl : id < s.length := getO_lt hs
  refine ⟨h.len.trans (by simp), fun i hi hlt => ?_, by rw [← k4]; exact h.inv, by rw [← k4]; exact k2.trans h.ext, fun i hi => h.gone i ?_⟩
  · rw [h.same i hi (by simpa using hlt), getO_set s id _ i hl, if_neg (fun (e : i = id) => hi (by rw [e]; exact hT))]
  · rw [getO_set s id _ i hl]; split
    · rfl
    · exact hi

theorem cellsP_of_values {B : Nat → Prop} {b : Nat} {xs : List PV} {vs : List Value} {off : Nat} (hr : RepPs w B xs vs) (h : ∀ j v, vs[j]? = some v → w.cell? ⟨b, off + j, none⟩ = some v) : CellsP w B b off xs := cellsP_of hr h

/-- A row handed into a tree. -/
theorem osl_tree (c : Cx w g σ s T N) {id tot off len sz : Nat} {xs : List PV} {ty : Option Nat} {x : Value} (hT : T id) (hs : getO s id = some (.buf sz xs ty)) (ht : xs.length = tot) (hx : RepA w g σ (.osl id tot off len) x) :
    RepP w (Lv g (σ.kill id)) (.sl .shr sz ((xs.drop off).take len)) x := by
  obtain ⟨_, k2, k3, _⟩ := c.kill hT hs
  have hσ : σ id = some (.buf sz xs ty) := (c.agree id hT).trans hs
  obtain ⟨_, _, _, hd⟩ := hx.inv_osl
  have hV := hd _ _ _ hσ ht
  by_cases hR : g.R id
  rotate_left 1
  · obtain ⟨hy, _⟩ := hV.2.1 hR
    obtain ⟨sz', ty', _, e⟩ := c.inv.void _ _ hσ hR
    cases e
    rw [hy]
    simpa using RepP.nil (w := w) (B := Lv g (σ.kill id)) .shr sz
  have k3 := k3 hR
  obtain ⟨ad, cap, ⟨hy, hsp⟩, h1, h2, h3⟩ := hV.real hR
  subst hy
  have hlen : ((xs.drop off).take len).length = len := by simp; omega
  cases c.inv.rep _ _ hσ hR with
  | buf _ _ vs hz hsz hn hr hare =>
    have hmem : ∀ z, z ∈ (xs.drop off).take len → El sz z := fun z hz => hsz z (List.mem_of_mem_drop (List.mem_of_mem_take hz))
    by_cases hc0 : 0 < cap
    · obtain ⟨rfl, _⟩ := h3 hc0
      have := RepP.sl (w := w) (B := Lv g (σ.kill id)) .shr sz ((xs.drop off).take len) (g.ι id) (off * sz) cap (by decide) (fun q => by cases q) (by omega) hmem (fun _ => k3) (by
        refine cellsP_of_values (vs := ((vs.take (sz * xs.length)).drop (off * sz)).take (len * sz)) ?_ (fun j v hj => ?_)
        · rw [flat_takeN _ _ (fun q hq => hsz q (List.mem_of_mem_drop hq)), flat_dropN _ _ hsz]
          exact k2.repPs ((hr.drop _).take _)
        · rw [cell_of_are hare]
          rw [List.getElem?_take] at hj
          split at hj
          · rw [List.getElem?_drop, List.getElem?_take] at hj
            split at hj
            · exact hj
            · cases hj
          · cases hj)
      rw [hlen] at this; exact this
    · have hl0 : len = 0 := by omega
      have hc : cap = 0 := by omega
      subst hl0; subst hc
      have hnil : (xs.drop off).take 0 = [] := by simp
      rw [hnil]
      obtain ⟨b, o, sp⟩ := ad
      subst hsp
      exact .sl .shr sz [] b o 0 (by decide) (fun q => by cases q) (Nat.le_refl _) (fun z hz => by cases hz) (fun q => absurd rfl q) (.nil _ _)

theorem cells_tree (c : Cx w g σ s T N) {id : Nat} {cs : List AV} {ty : Option Nat} {ps : List PV} (hT : T id) (hs : getO s id = some (.cells cs ty)) (hp : allP cs = some ps) :
    RepP w (Lv g (σ.kill id)) (.pto ps) (.pointer (some ⟨g.ι id, 0, none⟩)) := by
  obtain ⟨_, k2, k3, _⟩ := c.kill hT hs
  have hσ : σ id = some (.cells cs ty) := (c.agree id hT).trans hs
  have hR := c.inv.real hσ (by simp)
  have k3 := k3 hR
  cases c.inv.rep _ _ hσ hR with
  | cells _ _ xs hr hare _ =>
    have hflat := hare
    have hare := hare.are
    refine .pto ps _ _ (fun _ => k3) (cellsP_of_values (k2.repPs (allP_rep hr hp)) (fun j v hj => ?_))
    rw [Nat.zero_add, cell_of_are hare]; exact hj

theorem cellsP_tree : ∀ {cs : List AV} {xs : List Value} {s : Store} {σ : St}, RepAs w g σ cs xs → Cx w g σ s T N → (∀ v, v ∈ cs → ∀ id, id ∈ ids1 v → T id) → ∀ {K : List PV → Store → Prop}, toP.cellsP s cs K →
    ∃ ps s', K ps s' ∧ Fz w g σ s T s' ∧ RepPs w (Lv g (ovr T s s' σ)) ps xs := by
  intro cs
  induction cs with
  | nil =>
    intro xs s σ hr c _ K h
    cases hr
    exact ⟨[], s, h, .refl c, .nil⟩
  | cons v r ih =>
    intro xs s σ hr c hT K h
    cases hr with
    | cons _ x _ xs hv hs =>
      unfold toP.cellsP at h
      split at h
      · rename_i heq; cases heq
      · rename_i y r' heq
        cases heq
        obtain ⟨ps, s', hk, hf, hp⟩ := ih hs c (fun v hv => hT v (List.mem_cons_of_mem _ hv)) h
        exact ⟨_, s', hk, hf, .cons _ _ _ _ (hf.ext.repP hv.inv_p) hp⟩
      · rename_i id tot off len r' heq
        cases heq
        split at h
        · rename_i sz zs hg
          rw [killK_eq] at h
          unfold Ob at h
          obtain ⟨ht, h⟩ := h
          have hTi : T id := hT (.osl id tot off len) (by simp) id (by simp [ids1])
          obtain ⟨k1, k2, k3, k4⟩ := c.kill hTi hg
          have htree := osl_tree c hTi hg ht hv
          obtain ⟨ps, s', hk, hf, hp⟩ := ih (k2.repAs hs) k1 (fun v hv => hT v (List.mem_cons_of_mem _ hv)) h
          refine ⟨_, s', hk, hf.kill c hTi hg, ?_⟩
          rw [k4] at hp
          have he := hf.ext
          rw [k4] at he
          exact .cons _ _ _ _ (he.repP htree) hp
        · exact h.elim
      · exact h.elim

theorem toP_tree {v : AV} {x : Value} {s : Store} {σ : St} (hr : RepA w g σ v x) (c : Cx w g σ s T N) (hT : ∀ id, id ∈ ids v → T id) {K : PV → Store → Prop} (h : toP s v K) :
    ∃ p s', K p s' ∧ Fz w g σ s T s' ∧ RepP w (Lv g (ovr T s s' σ)) p x := by
  unfold toP at h
  split at h
  · exact ⟨_, s, h, .refl c, by rw [c.ovr_self]; exact hr.inv_p⟩
  · rename_i id tot off len
    split at h
    · rename_i sz zs hg
      rw [killK_eq] at h
      unfold Ob at h
      have hTi : T id := hT id (by simp [ids, ids1])
      obtain ⟨k1, k2, k3, k4⟩ := c.kill hTi hg
      refine ⟨_, _, h.2, (Fz.refl k1).kill c hTi hg, ?_⟩
      rw [← k4, k1.ovr_self]; exact osl_tree c hTi hg h.1 hr
    · exact h.elim
  · rename_i id
    split at h
    · rename_i cs hg
      split at h
      · rename_i ps hp
        rw [killK_eq] at h
        have hTi : T id := hT id (by simp [ids, ids1])
        obtain ⟨k1, k2, k3, k4⟩ := c.kill hTi hg
        refine ⟨_, _, h, (Fz.refl k1).kill c hTi hg, ?_⟩
        rw [← k4, k1.ovr_self, hr.inv_ref.1]; exact cells_tree c hTi hg hp
      · exact h.elim
    · exact h.elim
  · rename_i cs
    obtain ⟨ys, hy, hs⟩ := hr.inv_agg
    subst hy
    obtain ⟨ps, s', hk, hf, hp⟩ := cellsP_tree hs c (fun v hv id hid => hT id (by simp only [ids, List.mem_flatMap]; exact ⟨v, hv, hid⟩)) h
    exact ⟨_, s', hk, hf, .agg _ _ hp⟩
  · rename_i t id
    split at h
    · rename_i cs hg
      split at h
      · rename_i ps hp
        rw [killK_eq] at h
        have hTi : T id := hT id (by simp [ids, ids1])
        obtain ⟨k1, k2, k3, k4⟩ := c.kill hTi hg
        refine ⟨_, _, h, (Fz.refl k1).kill c hTi hg, ?_⟩
        rw [← k4, k1.ovr_self]
        cases hr with
        | ifc _ _ y hy => rw [hy.inv_ref.1]; exact .iface _ _ _ (cells_tree c hTi hg hp)
      · exact h.elim
    · exact h.elim
  · exact h.elim

theorem Fz.cx {s' : Store} (c : Cx w g σ s T N) (h : Fz w g σ s T s') : Cx w g (ovr T s s' σ) s' T N where
  inv := h.inv
  agree id hid := by unfold ovr; rw [if_pos (.inl hid)]
  fresh hn := by rw [h.len]; exact c.fresh hn

theorem Fz.ovr {s' s'' : Store} (h : Fz w g σ s T s') : ovr T s' s'' (ovr T s s' σ) = ovr T s s'' σ := by
  funext i
  unfold Go.Proofs.YtjhgmaephpadpaaGreat.AW.ovr
  by_cases hc : T i ∨ (s.length ≤ i ∧ i < s''.length)
  · rw [if_pos (by rw [h.len]; exact hc), if_pos hc]
  · rw [if_neg (by rw [h.len]; exact hc), if_neg hc, if_neg]
    rintro (h1 | h1)
    · exact hc (.inl h1)
    · have := h.len; omega

theorem Fz.trans {s' s'' : Store} (h : Fz w g σ s T s') (k : Fz w g (Go.Proofs.YtjhgmaephpadpaaGreat.AW.ovr T s s' σ) s' T s'') : Fz w g σ s T s'' := by
  have e := h.ovr (s'' := s'')
  refine ⟨k.len.trans h.len, fun i hi hl => (k.same i hi (by rw [h.len]; exact hl)).trans (h.same i hi hl), by rw [← e]; exact k.inv, by rw [← e]; exact h.ext.trans k.ext, fun i hi => k.gone i (h.gone i hi)⟩

theorem partsP_tree : ∀ {vs : List AV} {xs : List Value} {s : Store} {σ : St}, RepAs w g σ vs xs → Cx w g σ s T N → (∀ v, v ∈ vs → ∀ id, id ∈ ids v → T id) → ∀ {K : List PV → Store → Prop}, partsP s vs K →
    ∃ ps s', K ps s' ∧ Fz w g σ s T s' ∧ RepPs w (Lv g (Go.Proofs.YtjhgmaephpadpaaGreat.AW.ovr T s s' σ)) ps xs := by
  intro vs
  induction vs with
  | nil =>
    intro xs s σ hr c _ K h
    cases hr
    exact ⟨[], s, h, .refl c, .nil⟩
  | cons v r ih =>
    intro xs s σ hr c hT K h
    cases hr with
    | cons _ x _ xs hv hs =>
      unfold partsP at h
      obtain ⟨p, s1, h1, hf1, hp1⟩ := toP_tree hv c (hT v (by simp)) h
      obtain ⟨ps, s2, h2, hf2, hp2⟩ := ih (hf1.ext.repAs hs) (hf1.cx c) (fun v hv => hT v (List.mem_cons_of_mem _ hv)) h1
      have e := hf1.ovr (s'' := s2)
      refine ⟨_, s2, h2, hf1.trans hf2, ?_⟩
      rw [e] at hp2
      have he := hf2.ext
      rw [e] at he
      exact .cons _ _ _ _ (he.repP hp1) hp2
end ops
end Go.Proofs.YtjhgmaephpadpaaGreat.AW

namespace Go.Proofs.YtjhgmaephpadpaaGreat.AW
set_option linter.unusedSimpArgs false
set_option linter.unusedVariables false
section ops
variable {P : Program} {o : Oper} {e : Env} {s : Store} {K : AV → Store → Prop} {w : World} {g : G} {σ : St} {a : Act} {T : Nat → Prop} {N : Prop}

theorem Rs.after {s1 : Store} {x : Value} {w' : World} (hf : Fz w g σ s T s1) (h : Rs w g (ovr T s s1 σ) s1 T K x w') : Rs w g σ s T K x w' := by
  obtain ⟨v, s', g', h⟩ := h
  have e := hf.ovr (s'' := s')
  refine ⟨v, s', g', h.K, by have := h.len; have := hf.len; omega, fun i hi hl => (h.same i hi (by rw [hf.len]; exact hl)).trans (hf.same i hi hl), ?_, ?_, ?_, fun i hi => (h.new i hi).imp id fun q => by rw [← hf.len]; exact q⟩
  · rw [← e]; exact h.rep
  · rw [← e]; exact h.inv
  · rw [← e]; exact hf.ext.trans h.ext

theorem OpOk.imp {R R' : Value → World → Prop} (h : OpOk P o a w R) (hr : ∀ x w', R x w' → R' x w') : OpOk P o a w R' := by
  unfold OpOk at h ⊢
  generalize (execOp a.eval o).run P w = res at h ⊢
  match res, h with
  | .ok (.value v) w', h => exact hr _ _ h
  | .ok .skip w', h => exact hr _ _ h
  | .ok (.enter f args) w', h =>
    refine Calls.mono h fun e w'' hq => ?_
    match e, hq with
    | .returned v, hq => exact hr _ _ hq

theorem ok_mapUpdate {t : Nat} {m k v : Operand} (ho : o.op = .mapUpdate t m k v) (h : aop P (.mapUpdate t m k v) e s K) (c : Cx w g σ s T N) (hT : ∀ id, id ∈ footT e (.mapUpdate t m k v) → T id) (he : EnvR w g σ e a.tmps) : OpOk P o a w (Rs w g σ s T K) := by
  simp only [aop, mapUpdateA] at h
  have hx := ev_rep he m
  have hi := ev_rep he k
  have hv := ev_rep he v
  split at h
  · rename_i kk vt id key ht hev hkey
    obtain ⟨kt, d, hu, hd, hkd⟩ := mapT_und ht
    rw [hev] at hx
    rw [hkey] at hi
    obtain ⟨hp, _, _⟩ := hx.inv_map
    obtain ⟨y, s1, hq, hf, hy⟩ := toP_tree hv c (fun i hi => hT i (by simp only [footT]; exact List.mem_append_right _ hi)) h
    have hTi : T id := hT id (by simp only [footT]; rw [hev]; simp [ids, ids1])
    have c1 := hf.cx c
    have hkr := (hf.ext.repA hi).inv_p
    refine OpOk.imp ?_ fun x w' hr => Rs.after hf hr
    clear h
    split at hq
    · rename_i kk' es clock hg
      split at hq
      · rename_i hc
        simp only [Bool.and_eq_true, decide_eq_true_eq] at hc
        obtain ⟨rfl, hkk⟩ := hc
        have hkv := keyV hkr hkk
        have hs : ovr T s s1 σ id = some (.map kk' es clock) := (c1.agree id hTi).trans hg
        have hR := c1.inv.real hs (by simp)
        rw [setK_eq] at hq
        cases c1.inv.rep _ _ hs hR with
        | map _ _ _ xs hE hw hk hcl hn =>
          have hchk := fun b => hkv.check (P := P) (w := w) hkd hd b
          rcases find_ents hkv hkd hkr hE hk 0 with ⟨h1, h2⟩ | ⟨j, v', x', hj, h1, h2, h3, ⟨z, h5, h6⟩, h7, h8⟩
          · have hfk := run_findKey (w := w) hd h1
            have e1 : mPut es clock key y = es ++ [(clock, key, y)] := by unfold mPut; rw [h2]
            have e2 : mClock es clock key = clock + 1 := by unfold mClock; rw [h2]
            rw [e1, e2] at hq
            refine OpOk.skip (w' := { w with heap := w.heap.setIfInBounds (g.ι id) (.map (xs ++ [({ key := a.eval k, val := a.eval v, born := clock } : MapEntry)]).toArray (clock + 1)) }) ?_
              (Rs.setMap c1 hTi hg hR (hE.app (.cons _ _ _ _ _ _ _ hkr hy .nil)) (fun q hq => ?_) (fun q hq => ?_) ?_ ⟨_, _, hw⟩ (.undef _) hq)
            · simp [execOp, ho, Instr.mapUpdate, underlying, hu, hp, getObj, setObj, Sem.run, hw, hchk, hfk]
            · rcases List.mem_append.1 hq with hq | hq
              · exact hk q hq
              · have := List.mem_singleton.1 hq; subst this; exact hkk
            · rcases List.mem_append.1 hq with hq | hq
              · exact Nat.lt_succ_of_lt (hcl q hq)
              · have := List.mem_singleton.1 hq; subst this; exact Nat.lt_succ_self _
            · rw [List.map_append, List.nodup_append]
              refine ⟨hn, by simp, fun a ha b hb => ?_⟩
              obtain ⟨q, hq, rfl⟩ := List.mem_map.1 ha
              have hb : b = clock := by simpa using hb
              have := hcl q hq
              omega
          · have hfk := run_findKey (w := w) hd h1
            rw [Nat.zero_add] at hfk
            have e1 : mPut es clock key y = mSet es key y := by unfold mPut; rw [h2]
            have e2 : mClock es clock key = clock := by unfold mClock; rw [h2]
            rw [e1, e2] at hq
            have hst : (Instr.keyThatStays ((Option.map (fun x => x.key) xs[j]?).getD (a.eval k)) (a.eval k)).run P w = .ok (a.eval k) w := by
              rw [h5]
              show (Instr.keyThatStays z.key (a.eval k)).run P w = _
              rw [h6]
              unfold Instr.keyThatStays
              rw [if_pos hkv.stays]; rfl
            refine OpOk.skip (w' := { w with heap := w.heap.setIfInBounds (g.ι id) (.map (xs.modify j fun z => { z with key := a.eval k, val := a.eval v }).toArray clock) }) ?_
              (Rs.setMap c1 hTi hg hR (h7 y _ hy) (mSet_keys hkk hk) (fun q hq => ?_) (by rw [mSet_fst]; exact hn) ⟨_, _, hw⟩ (.undef _) hq)
            · simp [execOp, ho, Instr.mapUpdate, underlying, hu, hp, getObj, setObj, Sem.run, hw, hchk, hfk, hst]
            · have : q.1 ∈ (mSet es key y).map (·.1) := List.mem_map.2 ⟨q, hq, rfl⟩
              rw [mSet_fst] at this
              obtain ⟨q', hq', e'⟩ := List.mem_map.1 this
              rw [← e']; exact hcl q' hq'
      · exact hq.elim
    · exact hq.elim
  · exact h.elim
end ops
end Go.Proofs.YtjhgmaephpadpaaGreat.AW
