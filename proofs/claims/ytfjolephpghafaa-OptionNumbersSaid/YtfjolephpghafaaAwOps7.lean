import Derived.Test.YtfjolephpghafaaAwOps6
import Derived.Lib.AppendStr
namespace Go.Proofs.Ytfjolephpghafaa.AW
section ops
variable {P : Program} {o : Oper} {e : Env} {s : Store} {K : AV → Store → Prop} {w : World} {g : G} {σ : St} {a : Act} {T : Nat → Prop} {N : Prop}

/-- Not a number's type (append's second argument). -/
def notInt (P : Program) (u : Nat) : Prop := ∃ d, P.underlying u = some d ∧ ∀ k, d ≠ .int k

set_option maxHeartbeats 2000000 in
theorem run_app_grow {ts : Array TypeId} {t u ty el : Nat} (hts : ts[0]? = some t ∧ ts[1]? = some u) {i : TypeInfo} {z : Value} (ht : P.underlying t = some (.slice el)) (hi : P.info? el = some i) (hz : i.zero = some z) (hu : notInt P u)
    {base : Option Addr} {sLen sCap n : Nat} {x : Value} {olds news : List Value} (hn : (Builtin.lenOf x).run P w = .ok n w)
    (hold : ∀ w', (∀ b, b < w.heap.size → w'.heap[b]? = w.heap[b]?) → (Builtin.firstCells i.size sLen (.slice base sLen sCap)).run P w' = .ok olds.toArray w')
    (hnew : ∀ w', (∀ b, b < w.heap.size → w'.heap[b]? = w.heap[b]?) → (Builtin.firstCells i.size n x).run P w' = .ok news.toArray w')
    (hgrow : sCap < sLen + n) (hb : (sLen + n) * i.bytes ≤ 140737488355328) (hb1 : 1 ≤ i.bytes) :
    ∃ cap, sLen + n ≤ cap ∧ (Builtin.append_ ts ty #[.slice base sLen sCap, x]).run P w =
      .ok (.slice (some ⟨w.heap.size, 0, none⟩) (sLen + n) cap) (w.drew.alloc (.cells (olds.toArray ++ (news.toArray ++ Builtin.zeroCells z.cells (cap - (sLen + n)))) el)) := by
  refine ⟨grownCap w (sLen + n) sCap el, grownCap_ge _ _ _ _, ?_⟩
  obtain ⟨d, hd, hdi⟩ := hu
  have hf := growslice_fits hgrow hb
  have hnr : ¬ sLen + n ≤ sCap := by omega
  have hnf : ¬ 2 ^ 48 < Builtin.nextslicecap (sLen + n) sCap * i.bytes := by omega
  have hb0 : ¬ i.bytes = 0 := by omega
  have ho := hold w.drew (fun _ _ => rfl)
  have hw := hnew w.drew (fun _ _ => rfl)
  cases d <;> first
    | exact absurd rfl (hdi _)
    | simp [Builtin.append_, hts.1, hts.2, run_underlying ht, run_underlying hd, sizeOf, typeInfo, hi, hn, hnr, hnf, hb0, Question.forced, grownCap, zeroValue, hz, newRow, ho, hw, Result.andThen]

set_option maxHeartbeats 2000000 in
theorem run_app_room {ts : Array TypeId} {t u ty el : Nat} (hts : ts[0]? = some t ∧ ts[1]? = some u) {i : TypeInfo} (ht : P.underlying t = some (.slice el)) (hi : P.info? el = some i) (hu : notInt P u)
    {base : Option Addr} {sLen sCap n : Nat} {x : Value} {news : List Value} (hn : (Builtin.lenOf x).run P w = .ok n w)
    (hnew : (Builtin.firstCells i.size n x).run P w = .ok news.toArray w) (hroom : sLen + n ≤ sCap) {w' : World}
    (hst : ∀ ad, base = some ad → (storeCells (ad.add (sLen * i.size)) news 0).run P w = .ok () w') (hnone : base = none → w' = w) :
    (Builtin.append_ ts ty #[.slice base sLen sCap, x]).run P w = .ok (.slice base (sLen + n) sCap) w' := by
  obtain ⟨d, hd, hdi⟩ := hu
  cases base with
  | none =>
    have := hnone rfl
    subst this
    cases d <;> first
      | exact absurd rfl (hdi _)
      | simp [Builtin.append_, hts.1, hts.2, run_underlying ht, run_underlying hd, sizeOf, typeInfo, hi, hn, hroom, hnew, Result.andThen]
  | some ad =>
    have := hst ad rfl
    cases d <;> first
      | exact absurd rfl (hdi _)
      | simp [Builtin.append_, hts.1, hts.2, run_underlying ht, run_underlying hd, sizeOf, typeInfo, hi, hn, hroom, hnew, this, Result.andThen]

theorem bytes_cells (l : List UInt8) (B : Nat → Prop) : RepPs w B (flat (bytesP l)) (l.map fun b => Value.int .u8 b.toNat) := by
  rw [bytesP_eq, flat_ints]
  have := ints_rep .u8 (l.map fun b => (b.toNat : Int)) w B
  have e : (l.map fun b => (b.toNat : Int)).map (Value.int .u8) = l.map fun b => Value.int .u8 b.toNat := by rw [List.map_map]; rfl
  rw [← e]; exact this

/-- The second argument of append: its elements. -/
structure Second (P : Program) (w : World) (g : G) (σ : St) (size : Nat) (x : Value) (ys : List PV) (news : List Value) : Prop where
  len : (Builtin.lenOf x).run P w = .ok ys.length w
  rep : RepPs w (Lv g σ) (flat ys) news
  cells : ∀ y, y ∈ ys → El size y
  read : ∀ w', (∀ b, b < w.heap.size → w'.heap[b]? = w.heap[b]?) → (Builtin.firstCells size ys.length x).run P w' = .ok news.toArray w'

theorem RepP.one {B : Nat → Prop} {v : PV} {x : Value} (h : RepP w B v x) (hv : v.one = true) : x.oneCell' = true := by
  cases h <;> first
    | rfl
    | (simp [PV.one] at hv; done)
    | (rename_i hl; cases x <;> first | rfl | exact hl.elim)

theorem RepPs.ones {B : Nat → Prop} : ∀ {vs : List PV} {xs : List Value}, RepPs w B vs xs → (∀ c, c ∈ vs → c.one = true) → ∀ x ∈ xs, x.oneCell' = true
  | _, _, .nil, _, x, hx => by cases hx
  | _, _, .cons v y vs ys h hs, hv, x, hx => by
    rcases List.mem_cons.1 hx with rfl | hx
    · exact h.one (hv _ (by simp))
    · exact hs.ones (fun c hc => hv c (by simp [hc])) x hx

theorem flat_one {sz : Nat} {ys : List PV} (h : ∀ y, y ∈ ys → El sz y) : ∀ c, c ∈ flat ys → c.one = true := by
  intro c hc
  obtain ⟨y, hy, hcy⟩ := List.mem_flatMap.1 hc
  exact List.all_eq_true.1 (h y hy).2 c hcy

theorem Second.one {size : Nat} {x : Value} {ys : List PV} {news : List Value} (h : Second P w g σ size x ys news) : ∀ v ∈ news, v.oneCell' = true := h.rep.ones (flat_one h.cells)
theorem Second.newsLen {size : Nat} {x : Value} {ys : List PV} {news : List Value} (h : Second P w g σ size x ys news) : news.length = size * ys.length := by
  rw [← h.rep.len, flat_len h.cells]

theorem zcells {z : PV} {v : Value} (h : RepA w g σ (.p z) v) : v.cells.size = z.cells.length := by
  cases h.inv_p <;> first
    | rfl
    | (rename_i cs a hs; simp [Value.cells, PV.cells, hs.len])
    | (rename_i hl; cases v <;> first | rfl | exact hl.elim)

theorem flat_append (xs ys : List PV) : flat (xs ++ ys) = flat xs ++ flat ys := by simp [flat]

/-- A row that has moved: the object's block is a new one. -/
theorem Rs.move {x : Value} {v : AV} (c : Cx w g σ s T N) {w' : World} {ob : Obj} (m : More w w' ob) {id sz : Nat} {xs xs' : List PV} (hT : T id) (hs : getO s id = some (.buf sz xs)) (hlt : xs.length < xs'.length)
    (hO : ∀ g' σ', Ext w g σ w' g' σ' → RepO w' g' σ' w.heap.size (.buf sz xs')) (hv : ∀ g' σ', g'.C id → g'.ι id = w.heap.size → σ' id = some (.buf sz xs') → RepA w' g' σ' v x) (hk : K v (s.set id (some (.buf sz xs')))) : Rs w g σ s T K x w' := by
  have hσ : σ id = some (.buf sz xs) := (c.agree id hT).trans hs
  have hC := c.inv.made id _ hσ
  have hl : id < s.length := getO_lt hs
  have hov : ovr T s (s.set id (some (.buf sz xs'))) σ = σ.put id (.buf sz xs') := c.ovr_set hT hl _
  let g' : G := { ι := fun i => if i = id then w.heap.size else g.ι i, X := g.X, C := g.C }
  have hι : ∀ i, i ≠ id → g'.ι i = g.ι i := fun i hi => by simp [g', hi]
  have hι0 : g'.ι id = w.heap.size := by simp [g']
  have hsome : ∀ i, σ.put id (.buf sz xs') i ≠ none → σ i ≠ none := fun i h => by
    by_cases hi : i = id
    · subst hi; rw [hσ]; simp
    · simpa [St.put, hi] using h
  have hext : Ext w g σ w' g' (σ.put id (.buf sz xs')) := {
    size := by rw [m.size]; omega
    os := m.os
    tape := m.tape
    output := m.output
    frame := fun b hb _ => m.old hb
    shape := fun b hb => shape_same (m.old hb)
    X := rfl
    C := fun _ h => h
    own := fun b hb ⟨i, h1, h2⟩ => by
      by_cases hi : i = id
      · subst hi; rw [hι0] at h2; omega
      · rw [hι i hi] at h2; exact ⟨i, hsome i h1, h2⟩
    obj := fun i hc oo ho => by
      by_cases hi : i = id
      · subst hi; simp [St.put] at ho; subst ho; exact ⟨_, hσ, rfl, by omega⟩
      · simp [St.put, hi] at ho; exact ⟨oo, ho, .refl _⟩
    ι1 := fun i _ hn => hι i (fun e => hn _ _ (e ▸ hσ))
    ι2 := fun i sz' ys ys' _ h1 h2 h3 => by
      by_cases hi : i = id
      · subst hi; rw [hσ] at h1; cases h1; simp [St.put] at h2; obtain ⟨_, rfl⟩ := h2; omega
      · exact hι i hi }
  refine ⟨v, s.set id (some (.buf sz xs')), g', hk, by simp, fun i hi hlt => ?_, ?_, ?_, ?_, fun i h => .inl h⟩
  · rw [getO_set s id _ i hl, if_neg (fun (e : i = id) => hi (by rw [e]; exact hT))]
  · rw [hov]; exact hv g' _ hC hι0 (by simp [St.put])
  · rw [hov]
    refine ⟨fun i oo h => ?_, fun i oo h => ?_, fun b hb => by rw [m.size]; have := c.inv.xlt b hb; omega, fun i j h k hij => ?_, fun i oo h => ?_⟩
    · obtain ⟨o2, ho2⟩ := Option.ne_none_iff_exists'.1 (hsome i (by rw [h]; simp)); exact c.inv.made _ _ ho2
    · by_cases hi : i = id
      · subst hi; rw [hι0, m.size]; exact ⟨by omega, fun hx => by have := c.inv.xlt _ hx; omega⟩
      · rw [hι i hi, m.size]
        obtain ⟨o2, ho2⟩ := Option.ne_none_iff_exists'.1 (hsome i (by rw [h]; simp))
        have := c.inv.lies _ _ ho2; exact ⟨by omega, this.2⟩
    · by_cases hi : i = id
      · by_cases hj : j = id
        · rw [hi, hj]
        · subst hi; rw [hι0, hι j hj] at hij
          obtain ⟨o2, ho2⟩ := Option.ne_none_iff_exists'.1 (hsome j k)
          have := (c.inv.lies _ _ ho2).1; omega
      · by_cases hj : j = id
        · subst hj; rw [hι0, hι i hi] at hij
          obtain ⟨o2, ho2⟩ := Option.ne_none_iff_exists'.1 (hsome i h)
          have := (c.inv.lies _ _ ho2).1; omega
        · rw [hι i hi, hι j hj] at hij
          exact c.inv.inj i j (hsome i h) (hsome j k) hij
    · by_cases hi : i = id
      · subst hi; rw [hι0]; simp [St.put] at h; subst h; exact hO g' _ hext
      · simp [St.put, hi] at h; rw [hι i hi]
        exact hext.repO (m.old (c.inv.lies _ _ h).1) (c.inv.rep _ _ h)
  · rw [hov]; exact hext

theorem firstCells_of {ad : Addr} {n m cap : Nat} {size : Nat} {vs : List Value} (hl : vs.length = n * size) (w' : World) (h : ∀ j v, vs[j]? = some v → w'.cell? (ad.add j) = some v) :
    (Builtin.firstCells size n (.slice (some ad) m cap)).run P w' = .ok vs.toArray w' := run_firstCells_some (P := P) w' size n ad m cap vs hl h

theorem ok_app {t u el : Nat} {x y : Operand} {ts : Array TypeId} {ysz : Nat} {ys : List PV} {news : List Value} (ho : o.op = .call ⟨.builtin .append, #[x, y], ts⟩) (hts : ts[0]? = some t ∧ ts[1]? = some u)
    (h : appA P t (ev e x) ysz ys s K) (hN : ∀ v s', K v s' → s.length < s'.length → N) (hy : ∀ i, P.info? el = some i → P.underlying t = some (.slice el) → ysz = i.size → Second P w g σ i.size (a.eval y) ys news)
    (c : Cx w g σ s T N) (hT : ∀ id, id ∈ ids (ev e x) → T id) (he : EnvR w g σ e a.tmps) (hu : notInt P u) (hel : P.underlying t = some (.slice el)) : OpOk P o a w (Rs w g σ s T K) := by
  unfold appA at h
  have hx := ev_rep he x
  have hd : dsc P t = .slice el := by simp [dsc, hel]
  rw [hd] at h
  simp only [] at h
  have fin : ∀ {r : Value} {w' : World}, (Builtin.append_ ts o.type #[a.eval x, a.eval y]).run P w = .ok r w' → Rs w g σ s T K r w' → OpOk P o a w (Rs w g σ s T K) := by
    intro r w' hr hR
    refine .value (v := r) (w' := w') ?_ hR
    simp [execOp, ho, resolve, invoke, builtin, hr]
  split at h
  · rename_i i z' hi hz
    obtain ⟨zv, _, hzr, i', hi', hzv⟩ := zeroT_run (w := w) (g := g) (σ := σ) hz
    rw [hi] at hi'; cases hi'
    split at h
    · rename_i hb1 hb2
      simp only [Bool.and_eq_true] at hb1
      have hsz := Nat.eq_of_beq_eq_true hb1.1.1
      have hb := Nat.le_of_ble_eq_true hb1.1.2
      have hs1 := Nat.le_of_ble_eq_true hb2
      have hzs : zv.cells.size = i.size := by
        rw [← Nat.eq_of_beq_eq_true hb1.2]
        exact zcells hzr
      subst hsz
      have S := hy i hi hel rfl
      have grow : ∀ {base : Option Addr} {sLen sCap : Nat} {olds : List Value} {xs : List PV}, a.eval x = .slice base sLen sCap → xs.length = sLen → (∀ z, z ∈ xs → El i.size z) → RepPs w (Lv g σ) (flat xs) olds →
          (∀ w', (∀ b, b < w.heap.size → w'.heap[b]? = w.heap[b]?) → (Builtin.firstCells i.size sLen (.slice base sLen sCap)).run P w' = .ok olds.toArray w') →
          sCap < sLen + ys.length → (sLen + ys.length) * i.bytes ≤ 140737488355328 → K (.osl s.length (xs ++ ys).length 0 (xs ++ ys).length) (s ++ [some (.buf i.size (xs ++ ys))]) → OpOk P o a w (Rs w g σ s T K) := by
        intro base sLen sCap olds xs hp hxl hel' hr hread hg hbb hk
        obtain ⟨cap, hcap, hrun⟩ := run_app_grow (P := P) (w := w) (ty := o.type) hts hel hi hzv hu S.len hread S.read hg hbb hb
        have m : More w (w.drew.alloc (.cells (olds.toArray ++ (news.toArray ++ Builtin.zeroCells zv.cells (cap - (sLen + ys.length)))) el)) (.cells (olds.toArray ++ (news.toArray ++ Builtin.zeroCells zv.cells (cap - (sLen + ys.length)))) el (0, 0)) := ⟨rfl, rfl, rfl, rfl⟩
        refine fin (by rw [hp]; exact hrun) ?_
        have hlen : (olds ++ news).length = i.size * (xs ++ ys).length := by
          rw [List.length_append, S.newsLen, ← hr.len, flat_len hel', List.length_append, Nat.mul_add]
        have hn : N := hN _ _ hk (by simp)
        refine Rs.new c m (o := .buf i.size (xs ++ ys)) ?_ ?_ hk hn
        · refine .buf i.size (xs ++ ys) ((olds ++ news) ++ (Builtin.zeroCells zv.cells (cap - (sLen + ys.length))).toList) (by omega) (fun q hq => ?_) ?_ ?_ ⟨el, (0, 0), ?_, fun i _ => by simp⟩
          · rcases List.mem_append.1 hq with hq | hq
            · exact hel' q hq
            · exact S.cells q hq
          · rw [← hlen, List.length_append (as := olds ++ news)]; omega
          · rw [← hlen, List.take_left' rfl, flat_append]
            exact ((c.ext_new m _ hn).repPs hr).append ((c.ext_new m _ hn).repPs S.rep)
          · rw [m.at]; simp
        · have := RepA.osl (w := w.drew.alloc (.cells (olds.toArray ++ (news.toArray ++ Builtin.zeroCells zv.cells (cap - (sLen + ys.length)))) el)) (g := g.new s.length w.heap.size) (σ := σ.put s.length (.buf i.size (xs ++ ys))) s.length (xs ++ ys).length 0 (xs ++ ys).length
            ⟨w.heap.size, 0, none⟩ cap rfl (.inr rfl) (fun sz zs q => by simp [St.put] at q; rw [← q.2]; simp) (fun sz zs q _ => by
              simp [St.put] at q
              obtain ⟨rfl, rfl⟩ := q
              refine ⟨by rw [List.length_append, hxl]; exact hcap, by omega, fun _ => ⟨by simp [G.new], ?_⟩⟩
              have hsh : (w.drew.alloc (.cells (olds.toArray ++ (news.toArray ++ Builtin.zeroCells zv.cells (cap - (sLen + ys.length)))) el)).shape? w.heap.size = some (el, (olds.toArray ++ (news.toArray ++ Builtin.zeroCells zv.cells (cap - (sLen + ys.length)))).size) := by
                simp only [World.shape?, m.at]
              refine ⟨el, _, by simpa [G.new] using hsh, ?_⟩
              have h1 : olds.length = i.size * sLen := by rw [← hr.len, flat_len hel', hxl]
              have h2 := S.newsLen
              simp only [size_zeroCells, hzs, h1, h2]
              rw [Nat.zero_add, Nat.mul_comm (cap - (sLen + ys.length)), ← Nat.mul_add, ← Nat.mul_add, Nat.mul_comm]
              exact Nat.mul_le_mul_left _ (by omega))
          rw [List.length_append, hxl] at this
          rw [List.length_append, hxl]
          exact this
      have nochange : ∀ {v : AV} {base : Option Addr} {sLen sCap : Nat}, a.eval x = .slice base sLen sCap → ys = [] → sLen ≤ sCap → K v s → RepA w g σ v (.slice base sLen sCap) → OpOk P o a w (Rs w g σ s T K) := by
        intro v base sLen sCap hp hys hc hk hr
        subst hys
        have hn0 : news = [] := by have := S.newsLen; simpa using this
        subst hn0
        have := run_app_room (P := P) (w := w) (w' := w) (ty := o.type) (base := base) (sLen := sLen) (sCap := sCap) hts hel hi hu S.len (by simpa using S.read w (fun _ _ => rfl)) (by simpa using hc) (fun _ _ => rfl) (fun _ => rfl)
        refine fin (by rw [hp]; exact this) (.pure c hk (by simpa using hr))
      split at h
      · rename_i sz xs hev
        rw [hev] at hx
        unfold Ob at h
        generalize hax : a.eval x = ax at *
        cases hx.inv_p with
        | sl _ _ _ b off cap hk' hc' hl' hs' hb' hcells => exact nochange rfl h.1 hl' h.2 hx
      · rename_i sz xs hev
        rw [hev] at hx
        rw [snoc_eq] at h
        unfold BrL Ob at h
        have hp : a.eval x = .slice none 0 0 := by
          generalize a.eval x = ax at *
          cases hx.inv_p with
          | nil => rfl
          | sl _ _ _ b off cap hk' => exact absurd rfl hk'
        by_cases hys : ys = []
        · exact nochange hp hys (Nat.le_refl _) (h.1 hys) (.p _ _ (.nil 0))
        · obtain ⟨hbb, hk⟩ := h.2 hys
          have hpos : 0 < ys.length := List.length_pos_iff.2 hys
          exact grow (xs := []) hp rfl (fun z hz => by cases hz) .nil (fun w' _ => by simp [Builtin.firstCells]) (by omega) (by simpa using hbb) (by simpa using hk)
      · rename_i sz xs hev
        rw [hev] at hx
        split at h
        · rename_i hsz
          have hsz := Nat.eq_of_beq_eq_true hsz
          rw [snoc_eq] at h
          unfold BrL Ob at h
          generalize hax : a.eval x = ax at *
          cases hx.inv_p with
          | sl _ _ _ b off cap hk' hc' hl' hs' hb' hcells =>
            have hcap := hc' rfl
            by_cases hys : ys = []
            · exact nochange rfl hys hl' (h.1 hys) hx
            · obtain ⟨hbb, hk⟩ := h.2 hys
              have hpos : 0 < ys.length := List.length_pos_iff.2 hys
              subst hsz
              obtain ⟨olds, h1, h2⟩ := hcells.values
              have hol : olds.length = xs.length * i.size := by rw [← h1.len, flat_len hs', Nat.mul_comm]
              refine grow (xs := xs) rfl rfl hs' h1 (fun w' hw' => ?_) (by omega) hbb hk
              refine firstCells_of hol w' (fun j v hj => ?_)
              rw [add_addr]
              have hcl := h2 j v hj
              rw [cell_same (hw' b (lt_of_cell hcl))]; exact hcl
        · exact h.elim
      · rename_i id tot off len hev
        rw [hev] at hx
        split at h
        · rename_i sz xs hg
          split at h
          · rename_i hsz
            have hsz := Nat.eq_of_beq_eq_true hsz
            subst hsz
            rw [setK_eq] at h
            unfold Ob at h
            obtain ⟨⟨ht, ho0, hlt, hbb⟩, hk⟩ := h
            subst ho0
            have hTi : T id := hT id (by rw [hev]; simp [ids, ids1])
            have hs : σ id = some (.buf i.size xs) := (c.agree id hTi).trans hg
            obtain ⟨ad, cap, ⟨hp, hsp⟩, hC, htt, hd'⟩ := hx.inv_osl
            obtain ⟨q1, q2, q3⟩ := hd' _ _ hs ht
            cases c.inv.rep _ _ hs with
            | buf _ _ vs hz0 hs' hn hr hare =>
              by_cases hroom : len + ys.length ≤ cap
              · -- in place
                have hst : ∃ w', (∀ q, some ad = some q → (storeCells (q.add (len * i.size)) news 0).run P w = .ok () w') ∧ cellsAre w' (g.ι id) (spliceV vs (len * i.size) news) ∧ Turned w w' (g.ι id) := by
                  by_cases hc0 : 0 < cap
                  · obtain ⟨had, e', m', hsh, hm'⟩ := q3 hc0
                    have hvl : m' = vs.length := by
                      obtain ⟨e2, f2, hb1', _⟩ := hare
                      simp only [World.shape?, hb1', Option.some.injEq, Prod.mk.injEq] at hsh
                      rw [← hsh.2]; simp
                    obtain ⟨w', k1, k2, k3⟩ := run_storeCells (P := P) (w := w) (b := g.ι id) news (off := len * i.size) (i := 0) hare (by
                      rw [S.newsLen, ← hvl]
                      have : (len + ys.length) * i.size ≤ (0 + cap) * i.size := Nat.mul_le_mul_right _ (by omega)
                      rw [Nat.add_mul] at this
                      rw [Nat.mul_comm i.size ys.length]; omega) S.one
                    refine ⟨w', fun q hq => ?_, by simpa using k2, k3⟩
                    cases hq
                    rw [had, add_addr, show 0 * i.size + len * i.size = len * i.size by omega]
                    exact k1
                  · have h0 : ys.length = 0 := by omega
                    have hn0 : news = [] := List.eq_nil_of_length_eq_zero (by rw [S.newsLen, h0]; simp)
                    subst hn0
                    exact ⟨w, fun q _ => rfl, by simpa [spliceV] using hare, .refl _ _⟩
                obtain ⟨w', hrun, hare', hturn⟩ := hst
                have := run_app_room (P := P) (w := w) (w' := w') (ty := o.type) (base := some ad) (sLen := len) (sCap := cap) hts hel hi hu S.len (S.read w (fun _ _ => rfl)) hroom hrun (fun q => by cases q)
                refine fin (by rw [hp]; exact this) (Rs.set c hTi hg (o' := .buf i.size (xs ++ ys)) ⟨rfl, by simp⟩ hturn (fun hx' => ?_) (fun hx' => ?_) hk)
                · refine .buf _ _ (spliceV vs (len * i.size) news) hz0 (fun q hq => ?_) ?_ ?_ hare'
                  · rcases List.mem_append.1 hq with hq | hq
                    · exact hs' q hq
                    · exact S.cells q hq
                  · have hsl : (spliceV vs (len * i.size) news).length = vs.length := by
                      obtain ⟨e1, f1, g1, _⟩ := hare
                      obtain ⟨e2, f2, g2, _⟩ := hare'
                      have hsh := hturn.shape
                      simp only [World.shape?, g1, g2, Option.some.injEq, Prod.mk.injEq] at hsh
                      simpa using hsh.2
                    have h2 := S.newsLen
                    have : (spliceV vs (len * i.size) news).length ≥ len * i.size + news.length := by
                      unfold spliceV; simp
                      have : len * i.size ≤ vs.length := by rw [hlt, ← ht, Nat.mul_comm]; exact hn
                      omega
                    rw [List.length_append, Nat.mul_add, ← h2, ht, ← hlt, Nat.mul_comm i.size len]; exact this
                  · have e1 : (spliceV vs (len * i.size) news).take (i.size * (xs ++ ys).length) = vs.take (i.size * xs.length) ++ news := by
                      unfold spliceV
                      have hle : len * i.size = i.size * xs.length := by rw [hlt, ← ht, Nat.mul_comm]
                      rw [hle, List.length_append, Nat.mul_add, ← S.newsLen]
                      rw [List.take_append_of_le_length (by simp; omega)]
                      rw [List.take_of_length_le (by simp; omega)]
                    rw [e1, flat_append]
                    exact (hx'.repPs hr).append (hx'.repPs S.rep)
                · have hxy : len + ys.length = (xs ++ ys).length := by rw [List.length_append]; omega
                  rw [hxy] at hroom ⊢
                  refine .osl id _ 0 _ ad cap hsp hC (fun sz zs q => ?_) (fun sz zs q ql => ?_)
                  · simp [St.put] at q; rw [← q.2]; simp
                  · simp [St.put] at q
                    obtain ⟨rfl, rfl⟩ := q
                    refine ⟨hroom, by omega, fun hc0 => ?_⟩
                    obtain ⟨r1, r2⟩ := q3 hc0
                    exact ⟨r1, r2.keep hturn.shape⟩
              · -- a new row
                have hgr : cap < len + ys.length := by omega
                have hol : (vs.take (i.size * xs.length)).length = len * i.size := by rw [← hr.len, flat_len hs', ht, hlt, Nat.mul_comm]
                have hread : ∀ w', (∀ b, b < w.heap.size → w'.heap[b]? = w.heap[b]?) → (Builtin.firstCells i.size len (.slice (some ad) len cap)).run P w' = .ok (vs.take (i.size * xs.length)).toArray w' := by
                  intro w' hw'
                  refine firstCells_of hol w' (fun j v hj => ?_)
                  have hlen0 : 0 < len := by
                    have := (List.getElem?_eq_some_iff.1 hj).1
                    rw [hol] at this
                    exact Nat.pos_of_ne_zero (fun e => by subst e; omega)
                  obtain ⟨had, _⟩ := q3 (by omega)
                  rw [had, add_addr, show 0 * i.size + j = j by omega, cell_same (hw' _ (c.inv.lies _ _ hs).1), cell_of_are hare]
                  rw [List.getElem?_take] at hj
                  split at hj
                  · exact hj
                  · cases hj
                obtain ⟨cap', hcap', hrun⟩ := run_app_grow (P := P) (w := w) (ty := o.type) hts hel hi hzv hu S.len hread S.read hgr hbb hb
                have m : More w (w.drew.alloc (.cells ((vs.take (i.size * xs.length)).toArray ++ (news.toArray ++ Builtin.zeroCells zv.cells (cap' - (len + ys.length)))) el)) (.cells ((vs.take (i.size * xs.length)).toArray ++ (news.toArray ++ Builtin.zeroCells zv.cells (cap' - (len + ys.length)))) el (0, 0)) := ⟨rfl, rfl, rfl, rfl⟩
                have hlen : (vs.take (i.size * xs.length) ++ news).length = i.size * (xs ++ ys).length := by
                  rw [List.length_append, S.newsLen, ← hr.len, flat_len hs', List.length_append, Nat.mul_add]
                have hys : 0 < ys.length := by omega
                refine fin (by rw [hp]; exact hrun) (Rs.move c m hTi hg (by simp; omega) (fun g' σ' hx' => ?_) (fun g' σ' hC' hι' hσ' => ?_) hk)
                · refine .buf i.size (xs ++ ys) ((vs.take (i.size * xs.length) ++ news) ++ (Builtin.zeroCells zv.cells (cap' - (len + ys.length))).toList) hz0 (fun q hq => ?_) ?_ ?_ ⟨el, (0, 0), ?_, fun i _ => by simp⟩
                  · rcases List.mem_append.1 hq with hq | hq
                    · exact hs' q hq
                    · exact S.cells q hq
                  · rw [← hlen, List.length_append (as := vs.take (i.size * xs.length) ++ news)]; omega
                  · rw [← hlen, List.take_left' rfl, flat_append]
                    exact (hx'.repPs hr).append (hx'.repPs S.rep)
                  · rw [m.at]; simp
                · have hxy : len + ys.length = (xs ++ ys).length := by rw [List.length_append]; omega
                  have hval : Value.slice (some ⟨w.heap.size, 0, none⟩) (len + ys.length) cap' = Value.slice (some ⟨w.heap.size, 0, none⟩) (xs ++ ys).length cap' := by rw [hxy]
                  rw [hval]
                  refine .osl id _ 0 _ _ cap' rfl hC' (fun sz zs q => by rw [hσ'] at q; cases q; exact Nat.le_refl _) (fun sz zs q ql => ?_)
                  rw [hσ'] at q; cases q
                  refine ⟨by omega, by omega, fun _ => ⟨by rw [hι']; simp, ?_⟩⟩
                  rw [hι']
                  have hsh : (w.drew.alloc (.cells ((vs.take (i.size * xs.length)).toArray ++ (news.toArray ++ Builtin.zeroCells zv.cells (cap' - (len + ys.length)))) el)).shape? w.heap.size = some (el, ((vs.take (i.size * xs.length)).toArray ++ (news.toArray ++ Builtin.zeroCells zv.cells (cap' - (len + ys.length)))).size) := by
                    simp only [World.shape?, m.at]
                  refine ⟨el, _, hsh, ?_⟩
                  have h2 := S.newsLen
                  simp only [Array.size_append, List.size_toArray, size_zeroCells, hzs, hol, h2]
                  rw [Nat.zero_add, Nat.mul_comm i.size ys.length, ← Nat.add_mul, ← Nat.add_mul]
                  exact Nat.mul_le_mul_right _ (by omega)
          · exact h.elim
        · exact h.elim
      · exact h.elim
    · exact h.elim
  · exact h.elim
end ops
end Go.Proofs.Ytfjolephpghafaa.AW
