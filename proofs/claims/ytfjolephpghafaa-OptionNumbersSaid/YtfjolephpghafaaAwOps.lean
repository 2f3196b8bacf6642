import Derived.Test.YtfjolephpghafaaAwEv
namespace Go.Proofs.Ytfjolephpghafaa.AW

/-! ### One operation, in memory -/
def OpOk (P : Program) (o : Oper) (a : Act) (w : World) (R : Value → World → Prop) : Prop :=
  match (execOp a.eval o).run P w with
  | .ok (.value v) w' => R v w'
  | .ok .skip w' => R undef w'
  | .ok (.enter f args) w' => Calls P f args w' fun
    | .returned v, w'' => R v w''
    | _, _ => False
  | _ => False

theorem OpOk.value {P : Program} {o : Oper} {a : Act} {w : World} {R : Value → World → Prop} {v : Value} {w' : World} (h : (execOp a.eval o).run P w = .ok (.value v) w') (hr : R v w') : OpOk P o a w R := by
  unfold OpOk; rw [h]; exact hr
theorem OpOk.skip {P : Program} {o : Oper} {a : Act} {w : World} {R : Value → World → Prop} {w' : World} (h : (execOp a.eval o).run P w = .ok .skip w') (hr : R undef w') : OpOk P o a w R := by
  unfold OpOk; rw [h]; exact hr

theorem OpOk.wp {P : Program} {o : Oper} {a : Act} {w : World} {R : Value → World → Prop} (h : OpOk P o a w R) {next : Act → World → Prop} {Q : Exit → Act → World → Prop}
    (hn : ∀ v w', R v w' → next (a.put o.dst v) w') : o.wp P a w next Q := by
  unfold OpOk at h
  unfold Oper.wp
  generalize (execOp a.eval o).run P w = r at *
  cases r with
  | ok n w' =>
    cases n <;> first
      | exact hn _ _ h
      | exact Calls.mono h (fun e w'' he => by cases e <;> first | exact hn _ _ he | exact he.elim)
      | exact h.elim
  | halt x w' => exact h.elim

/-! ### A store in which an operation has turned what it touches -/
noncomputable def ovr (T : Nat → Prop) (s s' : Store) (σ : St) : St := fun id => open Classical in if T id ∨ (s.length ≤ id ∧ id < s'.length) then getO s' id else σ id

structure Cx (w : World) (g : G) (σ : St) (s : Store) (T : Nat → Prop) (N : Prop) : Prop where
  inv : Inv w g σ
  agree : ∀ id, T id → σ id = getO s id
  fresh : N → ¬ g.C s.length

theorem getO_out {s : Store} {id : Nat} (h : s.length ≤ id) : getO s id = none := by
  unfold getO; rw [List.getElem?_eq_none h]

theorem getO_lt {s : Store} {id : Nat} {o : AObj} (h : getO s id = some o) : id < s.length := by
  refine Nat.lt_of_not_le fun hle => ?_
  rw [getO_out hle] at h; cases h

theorem Cx.ovr_self {w g σ s T} {N : Prop} (c : Cx w g σ s T N) : ovr T s s σ = σ := by
  funext id
  unfold ovr
  split
  · rename_i h
    rcases h with h | h
    · exact (c.agree id h).symm
    · omega
  · rfl

/-- What is known behind an operation. -/
structure Res (w : World) (g : G) (σ : St) (s : Store) (T : Nat → Prop) (K : AV → Store → Prop) (x : Value) (w' : World) (v : AV) (s' : Store) (g' : G) : Prop where
  K : K v s'
  len : s.length ≤ s'.length
  same : ∀ id, ¬ T id → id < s.length → getO s' id = getO s id
  rep : RepA w' g' (ovr T s s' σ) v x
  inv : Inv w' g' (ovr T s s' σ)
  ext : Ext w g σ w' g' (ovr T s s' σ)
  new : ∀ id, g'.C id → g.C id ∨ (s.length ≤ id ∧ id < s'.length)

def Rs (w : World) (g : G) (σ : St) (s : Store) (T : Nat → Prop) (K : AV → Store → Prop) (x : Value) (w' : World) : Prop :=
  ∃ v s' g', Res w g σ s T K x w' v s' g'

theorem Rs.pure {w g σ s T} {N : Prop} {K : AV → Store → Prop} {x : Value} {v : AV} (c : Cx w g σ s T N) (hk : K v s) (hr : RepA w g σ v x) : Rs w g σ s T K x w := by
  refine ⟨v, s, g, hk, Nat.le_refl _, fun _ _ _ => rfl, ?_, ?_, ?_, fun id h => .inl h⟩
  · rw [c.ovr_self]; exact hr
  · rw [c.ovr_self]; exact c.inv
  · rw [c.ovr_self]; exact .refl _ _ _

/-! ### Operands -/
def EnvR (w : World) (g : G) (σ : St) (e : Env) (tmps : Array Value) : Prop := ∀ t, RepA w g σ (e t) (tmps.getD t undef)

theorem absP_rep (w : World) (B : Nat → Prop) : ∀ n, (∀ v x, absP n v = some x → RepP w B x v) ∧ (∀ vs xs, absP.absPs n vs = some xs → RepPs w B xs vs) := by
  intro n
  induction n with
  | zero =>
    refine ⟨fun v x h => by simp [absP] at h, fun vs xs h => ?_⟩
    cases vs with
    | nil => simp [absP.absPs] at h; subst h; exact .nil
    | cons => simp [absP.absPs] at h
  | succ n ih =>
    refine ⟨fun v x h => ?_, fun vs xs h => ?_⟩
    · simp only [absP] at h
      split at h
      case h_1 b => cases h; exact .bool _
      case h_2 k m => cases h; exact .int _ _
      case h_3 s => cases h; exact .str _
      case h_4 cs =>
        cases hp : absP.absPs n cs.toList with
        | none => rw [hp] at h; cases h
        | some ys =>
          rw [hp] at h; cases h
          exact .agg ys cs.toList (ih.2 _ _ hp)
      case h_5 t y =>
        cases hp : absP n y with
        | none => rw [hp] at h; cases h
        | some z => rw [hp] at h; cases h; exact .iface _ _ _ (ih.1 _ _ hp)
      case h_6 => cases h; exact .nil 0
      case h_7 => cases h; exact .lit _ trivial
      case h_8 => cases h; exact .lit _ trivial
      case h_9 => cases h; exact .lit _ trivial
      case h_10 => cases h; exact .lit _ trivial
      case h_11 => cases h; exact .lit _ trivial
      case h_12 => cases h
    · cases vs with
      | nil => simp [absP.absPs] at h; subst h; exact .nil
      | cons v r =>
        simp only [absP.absPs] at h
        split at h
        · rename_i y ys hy hys
          cases h
          exact .cons _ _ _ _ (ih.1 _ _ hy) (ih.2 _ _ hys)
        · cases h

theorem ev_rep {w : World} {g : G} {σ : St} {e : Env} {a : Act} (he : EnvR w g σ e a.tmps) (x : Operand) : RepA w g σ (ev e x) (a.eval x) := by
  cases x with
  | tmp t => exact he t
  | const v =>
    simp only [ev, Act.eval]
    cases h : absP 200 v with
    | none => exact .undef _
    | some y => exact .p _ _ ((absP_rep w _ 200).1 v y h)
  | global n => exact .undef _
  | func f => exact .clos f [] [] .nil

theorem evs_rep {w : World} {g : G} {σ : St} {e : Env} {a : Act} (he : EnvR w g σ e a.tmps) : ∀ xs : List Operand, RepAs w g σ (xs.map (ev e)) (xs.map a.eval)
  | [] => .nil
  | x :: r => .cons _ _ _ _ (ev_rep he x) (evs_rep he r)

/-! ### Reading what a tree says -/
section
variable {w : World} {g : G} {σ : St} {x : Value}
theorem RepA.inv_p {v : PV} (h : RepA w g σ (.p v) x) : RepP w (Lv g σ) v x := by cases h; assumption
theorem RepA.inv_bool {b : Bool} (h : RepA w g σ (.p (.bool b)) x) : x = .bool b := by cases h.inv_p; rfl
theorem RepA.inv_int {k : IntKind} {n : Int} (h : RepA w g σ (.p (.int k n)) x) : x = .int k n := by cases h.inv_p; rfl
theorem RepA.inv_str {s : List UInt8} (h : RepA w g σ (.p (.str s)) x) : ∃ b : ByteArray, x = .string b ∧ b.data.toList = s := by cases h.inv_p; exact ⟨_, rfl, rfl⟩
theorem RepA.inv_lit {v : Value} (h : RepA w g σ (.p (.lit v)) x) : x = v ∧ litOk v := by cases h.inv_p; exact ⟨rfl, by assumption⟩
theorem RepA.inv_ref {id off : Nat} (h : RepA w g σ (.ref id off) x) : x = .pointer (some ⟨g.ι id, off, none⟩) ∧ g.C id ∧ ∀ sz xs, σ id ≠ some (.buf sz xs) := by
  cases h with | ref _ _ hc hb => exact ⟨rfl, hc, hb⟩
theorem RepA.inv_pto {cs : List PV} (h : RepA w g σ (.p (.pto cs)) x) : ∃ b off, x = .pointer (some ⟨b, off, none⟩) ∧ CellsP w (Lv g σ) b off cs ∧ (cs ≠ [] → ¬ Lv g σ b) := by
  cases h.inv_p with | pto _ b off hb hc => exact ⟨b, off, rfl, hc, hb⟩
theorem RepA.inv_eptr {id tot i sub sz : Nat} {xs : List PV} (h : RepA w g σ (.eptr id tot i sub) x) (hs : σ id = some (.buf sz xs)) (ht : xs.length = tot) : x = .pointer (some ⟨g.ι id, i * sz + sub, none⟩) := by
  cases h with | eptr _ _ _ _ a hc ht' h => rw [h _ _ hs ht]
theorem RepA.inv_osl {id tot off len : Nat} (h : RepA w g σ (.osl id tot off len) x) : ∃ ad cap, (x = .slice (some ad) len cap ∧ ad.spot = none) ∧ g.C id ∧ (∀ sz xs, σ id = some (.buf sz xs) → tot ≤ xs.length) ∧
    ∀ sz xs, σ id = some (.buf sz xs) → xs.length = tot → len ≤ cap ∧ off + len ≤ tot ∧ (0 < cap → ad = ⟨g.ι id, off * sz, none⟩ ∧ Room w (g.ι id) ((off + cap) * sz)) := by
  cases h with | osl _ _ _ _ ad cap hsp hc ht h => exact ⟨ad, cap, ⟨rfl, hsp⟩, hc, ht, h⟩
theorem RepA.inv_it {id : Nat} (h : RepA w g σ (.it id) x) : x = .pointer (some ⟨g.ι id, 0, none⟩) ∧ g.C id := by
  cases h with | it _ hc hb => exact ⟨rfl, hc⟩
theorem RepA.inv_clos {f : Nat} {caps : List AV} (h : RepA w g σ (.clos f caps) x) : ∃ ys, x = .func (.func f) #[] ys.toArray ∧ RepAs w g σ caps ys := by
  cases h with | clos _ _ ys h => exact ⟨ys, rfl, h⟩
theorem RepA.inv_tup {vs : List AV} (h : RepA w g σ (.tup vs) x) : ∃ ys, x = .tuple ys.toArray ∧ RepAs w g σ vs ys := by
  cases h with | tup _ ys h => exact ⟨ys, rfl, h⟩
theorem RepA.inv_agg {vs : List AV} (h : RepA w g σ (.agg vs) x) : ∃ ys, x = .agg ys.toArray ∧ RepAs w g σ vs ys := by
  cases h with | agg _ ys h => exact ⟨ys, rfl, h⟩
theorem RepA.mkStr (s : List UInt8) : RepA w g σ (.p (.str s)) (.string ⟨s.toArray⟩) := .p _ _ (by have := RepP.str (w := w) (B := Lv g σ) ⟨s.toArray⟩; simpa using this)
theorem RepA.mkInt (k : IntKind) (n : Int) : RepA w g σ (.p (.int k n)) (.int k n) := .p _ _ (.int k n)
theorem RepA.mkBool (b : Bool) : RepA w g σ (.p (.bool b)) (.bool b) := .p _ _ (.bool b)
end

/-! ### A new object -/
def St.put (σ : St) (id : Nat) (o : AObj) : St := fun i => if i = id then some o else σ i
def G.new (g : G) (id b : Nat) : G := { ι := fun i => if i = id then b else g.ι i, X := g.X, C := fun i => g.C i ∨ i = id }

theorem getO_snoc (s : Store) (o : AObj) (id : Nat) : getO (s ++ [some o]) id = if id = s.length then some o else getO s id := by
  unfold getO
  by_cases h : id < s.length
  · rw [List.getElem?_append_left h, if_neg (by omega)]
  · by_cases h2 : id = s.length
    · subst h2; simp
    · rw [if_neg h2, List.getElem?_eq_none (by simp; omega), List.getElem?_eq_none (by omega)]

theorem Cx.ovr_snoc {w g σ s T} {N : Prop} (c : Cx w g σ s T N) (o : AObj) : ovr T s (s ++ [some o]) σ = σ.put s.length o := by
  funext id
  unfold ovr St.put
  rw [getO_snoc]
  by_cases h2 : id = s.length
  · rw [if_pos (Or.inr (by simp; omega)), if_pos h2, if_pos h2]
  · simp only [if_neg h2]
    split
    · rename_i h
      rcases h with h | h
      · exact (c.agree id h).symm
      · simp at h; omega
    · rfl

/-- One block more, and nothing else. -/
structure More (w w' : World) (ob : Obj) : Prop where
  heap : w'.heap = w.heap.push ob
  os : w'.os = w.os
  tape : w'.tape = w.tape
  output : w'.output = w.output

theorem More.alloc (w : World) (ob : Obj) : More w (w.alloc ob) ob := ⟨rfl, rfl, rfl, rfl⟩
theorem More.old {w w' : World} {ob : Obj} (h : More w w' ob) {b : Nat} (hb : b < w.heap.size) : w'.heap[b]? = w.heap[b]? := by
  rw [h.heap, Array.getElem?_push, if_neg (by omega)]
theorem More.at {w w' : World} {ob : Obj} (h : More w w' ob) : w'.heap[w.heap.size]? = some ob := by
  rw [h.heap, Array.getElem?_push, if_pos rfl]
theorem More.size {w w' : World} {ob : Obj} (h : More w w' ob) : w'.heap.size = w.heap.size + 1 := by rw [h.heap]; simp

theorem shape_same {w w' : World} {b : Nat} (h : w'.heap[b]? = w.heap[b]?) : w'.shape? b = w.shape? b := by unfold World.shape?; rw [h]

theorem Cx.ext_new {w g σ s T} {N : Prop} (c : Cx w g σ s T N) {w' : World} {ob : Obj} (m : More w w' ob) (o : AObj) (hn : N) :
    Ext w g σ w' (g.new s.length w.heap.size) (σ.put s.length o) where
  size := by rw [m.size]; omega
  os := m.os
  tape := m.tape
  output := m.output
  frame b hb _ := m.old hb
  shape b hb := shape_same (m.old hb)
  X := rfl
  C id h := .inl h
  own b hb h := by
    obtain ⟨id, h1, h2⟩ := h
    by_cases he : id = s.length
    · simp [G.new, he] at h2; omega
    · simp [G.new, he] at h2; simp [St.put, he] at h1; exact ⟨id, h1, h2⟩
  obj id hc o' ho := by
    have he : id ≠ s.length := fun e => c.fresh hn (e ▸ hc)
    simp [St.put, he] at ho; exact ⟨o', ho, .refl _⟩
  ι1 id hc _ := by
    have he : id ≠ s.length := fun e => c.fresh hn (e ▸ hc)
    simp [G.new, he]
  ι2 id _ _ _ hc _ _ _ := by
    have he : id ≠ s.length := fun e => c.fresh hn (e ▸ hc)
    simp [G.new, he]

theorem Rs.new {w g σ s T} {N : Prop} {K : AV → Store → Prop} {x : Value} {v : AV} (c : Cx w g σ s T N) {w' : World} {ob : Obj} (m : More w w' ob) {o : AObj}
    (hO : RepO w' (g.new s.length w.heap.size) (σ.put s.length o) w.heap.size o)
    (hv : RepA w' (g.new s.length w.heap.size) (σ.put s.length o) v x) (hk : K v (s ++ [some o])) (hn : N) : Rs w g σ s T K x w' := by
  have hext := c.ext_new m o hn
  refine ⟨v, s ++ [some o], g.new s.length w.heap.size, hk, by simp, fun id _ hlt => ?_, ?_, ?_, ?_, fun id h => ?_⟩
  · rw [getO_snoc, if_neg (by omega)]
  · rw [c.ovr_snoc]; exact hv
  · rw [c.ovr_snoc]
    have hι : ∀ id, id ≠ s.length → (g.new s.length w.heap.size).ι id = g.ι id := fun id he => by simp [G.new, he]
    have hι0 : (g.new s.length w.heap.size).ι s.length = w.heap.size := by simp [G.new]
    refine ⟨fun id o' h => ?_, fun id o' h => ?_, fun b hb => by rw [m.size]; have := c.inv.xlt b hb; omega, fun id jd h k hij => ?_, fun id o' h => ?_⟩
    · by_cases he : id = s.length
      · exact .inr he
      · simp [St.put, he] at h; exact .inl (c.inv.made _ _ h)
    · by_cases he : id = s.length
      · subst he; rw [hι0, m.size]
        exact ⟨by omega, fun hx => by have := c.inv.xlt _ hx; omega⟩
      · simp [St.put, he] at h; rw [hι id he, m.size]
        obtain ⟨h1, h2⟩ := c.inv.lies _ _ h
        exact ⟨by omega, h2⟩
    · by_cases he : id = s.length
      · by_cases hj : jd = s.length
        · rw [he, hj]
        · subst he; rw [hι0, hι jd hj] at hij
          simp [St.put, hj] at k
          obtain ⟨o', ho'⟩ := Option.ne_none_iff_exists'.1 k
          have := (c.inv.lies _ _ ho').1; omega
      · by_cases hj : jd = s.length
        · subst hj; rw [hι0, hι id he] at hij
          simp [St.put, he] at h
          obtain ⟨o', ho'⟩ := Option.ne_none_iff_exists'.1 h
          have := (c.inv.lies _ _ ho').1; omega
        · rw [hι id he, hι jd hj] at hij
          simp [St.put, he] at h; simp [St.put, hj] at k
          exact c.inv.inj _ _ h k hij
    · by_cases he : id = s.length
      · subst he; rw [hι0]
        simp [St.put] at h; subst h; exact hO
      · simp [St.put, he] at h; rw [hι id he]
        exact hext.repO (m.old (c.inv.lies _ _ h).1) (c.inv.rep _ _ h)
  · rw [c.ovr_snoc]; exact hext
  · rcases h with h | h
    · exact .inl h
    · subst h; exact .inr ⟨Nat.le_refl _, by simp⟩

/-! ### Cells -/
section
variable {w : World} {g : G} {σ : St} {x : Value}
theorem RepPs.up {B : Nat → Prop} : ∀ {ps : List PV} {xs : List Value}, B = Lv g σ → RepPs w B ps xs → RepAs w g σ (ps.map .p) xs
  | _, _, _, .nil => .nil
  | _, _, hB, .cons v x vs xs h hs => .cons _ _ _ _ (.p v x (hB ▸ h)) (RepPs.up hB hs)
theorem RepPs.repAs {ps : List PV} {xs : List Value} (h : RepPs w (Lv g σ) ps xs) : RepAs w g σ (ps.map .p) xs := h.up rfl
theorem RepAs.len : ∀ {cs : List AV} {xs : List Value}, RepAs w g σ cs xs → cs.length = xs.length
  | _, _, .nil => rfl
  | _, _, .cons _ _ _ _ _ hs => congrArg (· + 1) hs.len
theorem RepPs.len {B : Nat → Prop} : ∀ {cs : List PV} {xs : List Value}, RepPs w B cs xs → cs.length = xs.length
  | _, _, .nil => rfl
  | _, _, .cons _ _ _ _ _ hs => congrArg (· + 1) hs.len
theorem RepAs.drop : ∀ (n : Nat) {cs : List AV} {xs : List Value}, RepAs w g σ cs xs → RepAs w g σ (cs.drop n) (xs.drop n)
  | 0, _, _, h => h
  | _ + 1, _, _, .nil => .nil
  | n + 1, _, _, .cons _ _ _ _ _ hs => hs.drop n
theorem RepAs.take : ∀ (n : Nat) {cs : List AV} {xs : List Value}, RepAs w g σ cs xs → RepAs w g σ (cs.take n) (xs.take n)
  | 0, _, _, _ => .nil
  | _ + 1, _, _, .nil => .nil
  | n + 1, _, _, .cons _ _ _ _ h hs => .cons _ _ _ _ h (hs.take n)
theorem RepAs.append : ∀ {cs ds : List AV} {xs ys : List Value}, RepAs w g σ cs xs → RepAs w g σ ds ys → RepAs w g σ (cs ++ ds) (xs ++ ys)
  | _, _, _, _, .nil, k => k
  | _, _, _, _, .cons _ _ _ _ h hs, k => .cons _ _ _ _ h (hs.append k)
theorem RepPs.append {B : Nat → Prop} : ∀ {cs ds : List PV} {xs ys : List Value}, RepPs w B cs xs → RepPs w B ds ys → RepPs w B (cs ++ ds) (xs ++ ys)
  | _, _, _, _, .nil, k => k
  | _, _, _, _, .cons _ _ _ _ h hs, k => .cons _ _ _ _ h (hs.append k)
theorem RepPs.drop {B : Nat → Prop} : ∀ (n : Nat) {cs : List PV} {xs : List Value}, RepPs w B cs xs → RepPs w B (cs.drop n) (xs.drop n)
  | 0, _, _, h => h
  | _ + 1, _, _, .nil => .nil
  | n + 1, _, _, .cons _ _ _ _ _ hs => hs.drop n
theorem RepPs.take {B : Nat → Prop} : ∀ (n : Nat) {cs : List PV} {xs : List Value}, RepPs w B cs xs → RepPs w B (cs.take n) (xs.take n)
  | 0, _, _, _ => .nil
  | _ + 1, _, _, .nil => .nil
  | n + 1, _, _, .cons _ _ _ _ h hs => .cons _ _ _ _ h (hs.take n)
theorem RepAs.get : ∀ {cs : List AV} {xs : List Value} {i : Nat} {v : AV}, RepAs w g σ cs xs → cs[i]? = some v → ∃ x, xs[i]? = some x ∧ RepA w g σ v x
  | _, _, 0, _, .cons _ _ _ _ h _, hv => by simp at hv; subst hv; exact ⟨_, rfl, h⟩
  | _, _, i + 1, _, .cons _ _ _ _ _ hs, hv => by simp at hv; obtain ⟨x, h1, h2⟩ := hs.get hv; exact ⟨x, by simpa using h1, h2⟩
theorem RepPs.get {B : Nat → Prop} : ∀ {cs : List PV} {xs : List Value} {i : Nat} {v : PV}, RepPs w B cs xs → cs[i]? = some v → ∃ x, xs[i]? = some x ∧ RepP w B v x
  | _, _, 0, _, .cons _ _ _ _ h _, hv => by simp at hv; subst hv; exact ⟨_, rfl, h⟩
  | _, _, i + 1, _, .cons _ _ _ _ _ hs, hv => by simp at hv; obtain ⟨x, h1, h2⟩ := hs.get hv; exact ⟨x, by simpa using h1, h2⟩

theorem allP_rep : ∀ {cs : List AV} {xs : List Value}, RepAs w g σ cs xs → ∀ {ps : List PV}, allP cs = some ps → RepPs w (Lv g σ) ps xs
  | _, _, .nil, _, hp => by simp [allP] at hp; subst hp; exact .nil
  | _, _, .cons v x vs xs h hs, _, hp => by
    cases v <;> simp [allP] at hp
    obtain ⟨qs, hq, rfl⟩ := hp
    exact .cons _ _ _ _ h.inv_p (allP_rep hs hq)
theorem mkAgg_rep {cs : List AV} {xs : List Value} (h : RepAs w g σ cs xs) : RepA w g σ (mkAgg cs) (.agg xs.toArray) := by
  unfold mkAgg
  split
  · rename_i ps hp; exact .p _ _ (.agg _ _ (allP_rep h hp))
  · exact .agg _ _ h

theorem cells_rep {v : AV} (h : RepA w g σ v x) (hne : v.cells.all AV.oneCell = true) : RepAs w g σ v.cells x.cells.toList := by
  cases h with
  | p v x hp =>
    cases hp with
    | agg cs a hs => simpa [AV.cells, Value.cells] using hs.repAs
    | lit v hl =>
      have : x.cells = #[x] := by cases x <;> first | rfl | exact hl.elim
      rw [this]; exact .cons _ _ _ _ (.p _ _ (.lit _ hl)) .nil
    | bool b => exact .cons _ _ _ _ (.p _ _ (.bool b)) .nil
    | int k n => exact .cons _ _ _ _ (.p _ _ (.int k n)) .nil
    | str y => exact .cons _ _ _ _ (.p _ _ (.str y)) .nil
    | iface t v x h => exact .cons _ _ _ _ (.p _ _ (.iface t v x h)) .nil
    | nil sz => exact .cons _ _ _ _ (.p _ _ (.nil sz)) .nil
    | sl k sz xs b off cap hk hc hl hs hb h => exact .cons _ _ _ _ (.p _ _ (.sl k sz xs b off cap hk hc hl hs hb h)) .nil
    | pto cs b off hb h => exact .cons _ _ _ _ (.p _ _ (.pto cs b off hb h)) .nil
  | ref id off hc hb => exact .cons _ _ _ _ (.ref id off hc hb) .nil
  | osl id tot off len a cap hsp hc ht h => exact .cons _ _ _ _ (.osl id tot off len a cap hsp hc ht h) .nil
  | eptr id tot i sub a hc ht h => exact .cons _ _ _ _ (.eptr id tot i sub a hc ht h) .nil
  | map id hc hb => exact .cons _ _ _ _ (.map id hc hb) .nil
  | it id hc hb => exact .cons _ _ _ _ (.it id hc hb) .nil
  | agg cs a h => simpa [AV.cells, Value.cells] using h
  | tup vs a h => simp [AV.cells, AV.oneCell] at hne
  | clos f caps a h => exact .cons _ _ _ _ (.clos f caps a h) .nil
  | ifc t v x h => exact .cons _ _ _ _ (.ifc t v x h) .nil
  | undef => simp [AV.cells, AV.oneCell] at hne

theorem cell_of_are {b i : Nat} {xs : List Value} (h : cellsAre w b xs) : w.cell? ⟨b, i, none⟩ = xs[i]? := by
  obtain ⟨e, f, h1, _⟩ := h
  simp [World.cell?, h1]
theorem frozen_of_are {b i : Nat} {xs : List Value} (h : cellsAre w b xs) (hi : i < xs.length) : w.frozen? ⟨b, i, none⟩ = false := by
  obtain ⟨e, f, h1, h2⟩ := h
  have := h2 i hi
  simp only [World.frozen?, h1]
  simpa using this
end

theorem add_addr (b off j : Nat) : (⟨b, off, none⟩ : Addr).add j = ⟨b, off + j, none⟩ := by
  unfold Addr.add; split
  · rename_i h; subst h; rfl
  · rfl

/-- What a load gives. -/
theorem run_loadVar_cells {P : Program} {w : World} {t : Nat} {agg : Bool} {sz b off : Nat} (hk : kd P t = some (agg, sz)) {ys : List Value}
    (h : ∀ j y, ys[j]? = some y → w.cell? ⟨b, off + j, none⟩ = some y) :
    (agg = true → sz ≤ ys.length → (loadVar t ⟨b, off, none⟩).run P w = .ok (.agg (ys.take sz).toArray) w) ∧
    (agg = false → ∀ y r, ys = y :: r → (loadVar t ⟨b, off, none⟩).run P w = .ok y w) := by
  unfold kd at hk
  split at hk
  · rename_i d i hd hi
    cases hk
    have hagg : (isAgg t).run P w = .ok (aggD d) w := by
      simp [isAgg, underlying, hd]
      cases d <;> simp [aggD]
    refine ⟨fun ha hl => ?_, fun ha y r hy => ?_⟩
    · have hc := run_loadCells_list (P := P) (w := w) ⟨b, off, none⟩ (ys.take i.size) (fun j v hv => by
        rw [add_addr]
        rw [List.getElem?_take] at hv
        split at hv
        · exact h j v hv
        · cases hv)
      rw [List.length_take, Nat.min_eq_left hl] at hc
      simp [loadVar, hagg, ha, sizeOf, typeInfo, hi, hc]
    · subst hy
      have h0 : w.cell? ⟨b, off, none⟩ = some y := by simpa using h 0 y rfl
      simp [loadVar, hagg, ha, h0]
  · cases hk

/-- The value at the head of cells that lie in memory. -/
theorem valK_load {P : Program} {w : World} {g : G} {σ : St} {t : Nat} {agg : Bool} {sz b off : Nat} (hk : kd P t = some (agg, sz)) {cs : List AV} {ys : List Value} (hr : RepAs w g σ cs ys)
    (h : ∀ j y, ys[j]? = some y → w.cell? ⟨b, off + j, none⟩ = some y) {K : AV → Prop} (hv : valK agg sz cs K) :
    ∃ v x, K v ∧ RepA w g σ v x ∧ (loadVar t ⟨b, off, none⟩).run P w = .ok x w := by
  obtain ⟨h1, h2⟩ := run_loadVar_cells hk h
  unfold valK at hv
  cases agg with
  | true =>
    simp only [] at hv
    split at hv
    · rename_i hle
      rw [force_eq] at hv
      have hle := Nat.le_of_ble_eq_true hle
      exact ⟨_, _, hv, mkAgg_rep (hr.take sz), h1 rfl (by rw [← hr.len]; exact hle)⟩
    · exact hv.elim
  | false =>
    simp only [] at hv
    cases hr with
    | nil => exact hv.elim
    | cons v x vs xs hx hs => simp only [force_eq] at hv; exact ⟨v, x, hv, hx, h2 rfl x xs rfl⟩

section ops
variable {P : Program} {o : Oper} {e : Env} {s : Store} {K : AV → Store → Prop} {w : World} {g : G} {σ : St} {a : Act} {T : Nat → Prop} {N : Prop}

theorem ok_move {x : Operand} (ho : o.op = .move x ∨ o.op = .assign x) (h : force (ev e x) fun v => K v s) (c : Cx w g σ s T N) (he : EnvR w g σ e a.tmps) : OpOk P o a w (Rs w g σ s T K) := by
  rw [force_eq] at h
  refine .value (v := a.eval x) (w' := w) ?_ (.pure c h (ev_rep he x))
  rcases ho with ho | ho <;> simp [execOp, ho]

theorem ok_pick {x y z : Operand} (ho : o.op = .pick x y z) (h : aop P (.pick x y z) e s K) (c : Cx w g σ s T N) (he : EnvR w g σ e a.tmps) : OpOk P o a w (Rs w g σ s T K) := by
  simp only [aop] at h
  split at h
  · rename_i t ht
    have hc := ev_rep he x
    rw [ht] at hc
    have hx := hc.inv_bool
    unfold Br at h
    refine .value (v := if t then a.eval y else a.eval z) (w' := w) ?_ ?_
    · simp [execOp, ho, hx, asBool]
    · cases t
      · have := h.2 rfl; rw [force_eq] at this; exact .pure c this (ev_rep he z)
      · have := h.1 rfl; rw [force_eq] at this; exact .pure c this (ev_rep he y)
  · exact h.elim

theorem ok_alloc {t : Nat} (ho : o.op = .alloc t) (h : aop P (.alloc t) e s K) (hN : ∀ v s', K v s' → s.length < s'.length → N) (c : Cx w g σ s T N) : OpOk P o a w (Rs w g σ s T K) := by
  simp only [aop] at h
  split at h
  · rename_i z hz
    rw [snoc_eq] at h
    unfold zeroT at hz
    split at hz
    · rename_i i hi
      split at hz
      · rename_i v hv
        have hr : RepA w g σ (.p z) v := .p _ _ ((absP_rep w _ 200).1 v z hz)
        have hcells : RepAs w g σ (AV.cells (.p z)) v.cells.toList := by
          cases hr.inv_p <;> first
            | exact .cons _ _ _ _ hr .nil
            | (rename_i cs a hs; simpa [AV.cells, Value.cells] using hs.repAs)
            | (rename_i hl; have : v.cells = #[v] := by cases v <;> first | rfl | exact hl.elim
               rw [this]; exact .cons _ _ _ _ hr .nil)
        have m := More.alloc w (.cells v.cells t (0, 0))
        refine .value (v := .pointer (some ⟨w.heap.size, 0, none⟩)) (w' := w.alloc (.cells v.cells t (0, 0))) ?_ ?_
        · simp [execOp, ho, Instr.alloc, zeroValue, typeInfo, hi, hv, newVar, newRow]
        · have hn : N := hN _ _ h (by simp)
          refine Rs.new c m (o := .cells (AV.cells (.p z))) (.cells _ v.cells.toList ((c.ext_new m _ hn).repAs hcells) ⟨t, (0, 0), by simpa using m.at, fun i _ => by simp⟩) ?_ h hn
          have := RepA.ref (w := w.alloc (.cells v.cells t (0, 0))) (g := g.new s.length w.heap.size) (σ := σ.put s.length (.cells (AV.cells (.p z)))) s.length 0 (.inr rfl) (by simp [St.put])
          simpa [G.new] using this
      · cases hz
    · cases hz
  · exact h.elim

theorem ok_box {t : Nat} {x : Operand} (ho : o.op = .box t x) (h : aop P (.box t x) e s K) (hN : ∀ v s', K v s' → s.length < s'.length → N) (c : Cx w g σ s T N) (he : EnvR w g σ e a.tmps) : OpOk P o a w (Rs w g σ s T K) := by
  simp only [aop] at h
  split at h
  · rename_i hne
    rw [snoc_eq] at h
    have hcells := cells_rep (ev_rep he x) hne
    have m := More.alloc w (.cells (a.eval x).cells t (0, 0))
    refine .value (v := .pointer (some ⟨w.heap.size, 0, none⟩)) (w' := w.alloc (.cells (a.eval x).cells t (0, 0))) ?_ ?_
    · simp [execOp, ho, Instr.box, newVar, newRow]
    · have hn : N := hN _ _ h (by simp)
      refine Rs.new c m (o := .cells (ev e x).cells) (.cells _ (a.eval x).cells.toList ((c.ext_new m _ hn).repAs hcells) ⟨t, (0, 0), by simpa using m.at, fun i _ => by simp⟩) ?_ h hn
      have := RepA.ref (w := w.alloc (.cells (a.eval x).cells t (0, 0))) (g := g.new s.length w.heap.size) (σ := σ.put s.length (.cells (ev e x).cells)) s.length 0 (.inr rfl) (by simp [St.put])
      simpa [G.new] using this
  · exact h.elim

/-! ### Loads -/
/-- The cells of a tree, as a list of values. -/
theorem CellsP.values : ∀ {cs : List PV} {b off : Nat}, CellsP w (Lv g σ) b off cs → ∃ ys, RepPs w (Lv g σ) cs ys ∧ ∀ j y, ys[j]? = some y → w.cell? ⟨b, off + j, none⟩ = some y := by
  intro cs
  induction cs with
  | nil => intro b off _; exact ⟨[], .nil, fun j y hj => by simp at hj⟩
  | cons v vs ih =>
    intro b off hc
    cases hc with
    | cons _ _ _ x _ hx0 hr hs =>
      obtain ⟨ys, h1, h2⟩ := ih hs
      refine ⟨x :: ys, .cons _ _ _ _ hr h1, fun j y hj => ?_⟩
      cases j with
      | zero => simp at hj; subst hj; exact hx0
      | succ j => have := h2 j y (by simpa using hj); rw [show off + (j + 1) = off + 1 + j by omega]; exact this

theorem flat_drop {sz : Nat} : ∀ {es : List PV} {i : Nat} {y : PV}, (∀ x, x ∈ es → El sz x) → es[i]? = some y → (flat es).drop (i * sz) = y.cells ++ flat (es.drop (i + 1))
  | [], _, _, _, h => by simp at h
  | e :: es, 0, y, hs, h => by simp at h; subst h; simp [flat]
  | e :: es, i + 1, y, hs, h => by
    have h1 := flat_drop (es := es) (i := i) (y := y) (fun x hx => hs x (List.mem_cons_of_mem _ hx)) (by simpa using h)
    have h2 : (flat (e :: es)).drop ((i + 1) * sz) = (flat es).drop (i * sz) := by
      have := (hs e (by simp)).1
      rw [show (i + 1) * sz = e.cells.length + i * sz by rw [this]; rw [Nat.succ_mul]; omega]
      simp [flat, ← List.drop_drop]
    rw [h2, h1]; rfl

theorem flat_len {sz : Nat} : ∀ {es : List PV}, (∀ x, x ∈ es → El sz x) → (flat es).length = sz * es.length
  | [], _ => by simp [flat]
  | e :: es, hs => by
    have h1 := flat_len (es := es) (fun x hx => hs x (List.mem_cons_of_mem _ hx))
    have h2 := (hs e (by simp)).1
    show (e.cells ++ flat es).length = _
    rw [List.length_append, h1, h2, List.length_cons, Nat.mul_succ]; omega

theorem ok_load {t : Nat} {x : Operand} (ho : o.op = .load t x) (h : aop P (.load t x) e s K) (c : Cx w g σ s T N) (hT : ∀ id, id ∈ ids (ev e x) → T id) (he : EnvR w g σ e a.tmps) : OpOk P o a w (Rs w g σ s T K) := by
  simp only [aop, loadA] at h
  have hx := ev_rep he x
  have fin : ∀ {b off : Nat} {v : AV} {y : Value}, a.eval x = .pointer (some ⟨b, off, none⟩) → K v s → RepA w g σ v y → (loadVar t ⟨b, off, none⟩).run P w = .ok y w → OpOk P o a w (Rs w g σ s T K) := by
    intro b off v y hp hk hr hl
    refine .value (v := y) (w' := w) ?_ (.pure c hk hr)
    simp [execOp, ho, Instr.loadAt, Instr.sureAddr, hp, hl]
  split at h
  · exact h.elim
  · rename_i agg sz hkd
    split at h
    · rename_i id off hev
      rw [hev] at hx
      obtain ⟨hp, _, _⟩ := hx.inv_ref
      split at h
      · rename_i cs hg
        have hs : σ id = some (.cells cs) := (c.agree id (hT id (by rw [hev]; simp [ids, ids1]))).trans hg
        cases c.inv.rep _ _ hs with
        | cells _ xs hcs hare =>
          obtain ⟨v, y, h1, h2, h3⟩ := valK_load hkd (hcs.drop off) (fun j y hj => by
            rw [cell_of_are hare]; simpa using hj) h
          exact fin hp h1 h2 h3
      · exact h.elim
    · rename_i cs hev
      rw [hev] at hx
      obtain ⟨b, off, hp, hc, _⟩ := hx.inv_pto
      obtain ⟨ys, h1, h2⟩ := hc.values
      obtain ⟨v, y, k1, k2, k3⟩ := valK_load hkd h1.repAs h2 h
      exact fin hp k1 k2 k3
    · rename_i id tot i sub hev
      rw [hev] at hx
      split at h
      · rename_i sz' xs hg
        have hs : σ id = some (.buf sz' xs) := (c.agree id (hT id (by rw [hev]; simp [ids, ids1]))).trans hg
        unfold Ob Idx at h
        obtain ⟨htot, _, y, hy, hval⟩ := h
        have hp := hx.inv_eptr hs htot
        cases c.inv.rep _ _ hs with
        | buf _ _ ys hz hsz hn hr hare =>
          have hd := flat_drop hsz (by simpa using hy : xs[i]? = some y)
          have hr2 := (hr.drop (i * sz' + sub)).take (y.cells.drop sub).length
          have e1 : ((flat xs).drop (i * sz' + sub)).take (y.cells.drop sub).length = y.cells.drop sub := by
            rw [← List.drop_drop, hd]
            by_cases hle : sub ≤ y.cells.length
            · rw [List.drop_append_of_le_length hle, List.take_left']; rfl
            · have : y.cells.drop sub = [] := List.drop_eq_nil_of_le (by omega)
              simp [this]
          rw [e1] at hr2
          obtain ⟨v, z, k1, k2, k3⟩ := valK_load (b := g.ι id) (off := i * sz' + sub) hkd hr2.repAs (fun j z hj => by
            rw [cell_of_are hare]
            rw [List.getElem?_take] at hj
            split at hj
            · rw [List.getElem?_drop, List.getElem?_take] at hj
              split at hj
              · exact hj
              · cases hj
            · cases hj) hval
          exact fin hp k1 k2 k3
      · exact h.elim
    · exact h.elim
end ops

/-! ### Stores -/
/-- Block b alone has turned, and bears other cells now. -/
structure Turned (w w' : World) (b : Nat) : Prop where
  size : w'.heap.size = w.heap.size
  os : w'.os = w.os
  tape : w'.tape = w.tape
  output : w'.output = w.output
  other : ∀ k, k ≠ b → w'.heap[k]? = w.heap[k]?
  shape : w'.shape? b = w.shape? b

theorem Turned.refl (w : World) (b : Nat) : Turned w w b := ⟨rfl, rfl, rfl, rfl, fun _ _ => rfl, rfl⟩
theorem Turned.trans {w w' w'' : World} {b : Nat} (h : Turned w w' b) (k : Turned w' w'' b) : Turned w w'' b :=
  ⟨k.size.trans h.size, k.os.trans h.os, k.tape.trans h.tape, k.output.trans h.output, fun i hi => (k.other i hi).trans (h.other i hi), k.shape.trans h.shape⟩

theorem setCell_are {w : World} {b off : Nat} {xs : List Value} (h : cellsAre w b xs) (v : Value) (_hlt : off < xs.length) :
    cellsAre (w.setCell ⟨b, off, none⟩ v) b (xs.set off v) ∧ Turned w (w.setCell ⟨b, off, none⟩ v) b := by
  obtain ⟨e, f, h1, h2⟩ := h
  have h3 : (w.setCell ⟨b, off, none⟩ v).heap[b]? = some (.cells (xs.set off v).toArray e f) := by
    simp [World.setCell, Array.getElem?_modify, h1]
  refine ⟨⟨e, f, h3, fun i hi => h2 i (by simpa using hi)⟩, by simp [World.setCell], rfl, rfl, rfl, fun k hk => ?_, ?_⟩
  · simp only [World.setCell, Array.getElem?_modify]; rw [if_neg (by omega)]
  · simp [World.shape?, h3, h1]

def spliceV (xs : List Value) (off : Nat) (vs : List Value) : List Value := xs.take off ++ vs ++ xs.drop (off + vs.length)

theorem run_storeCells {P : Program} {b : Nat} (vs : List Value) : ∀ {w : World} {off i : Nat} {xs : List Value}, cellsAre w b xs → off + i + vs.length ≤ xs.length → (∀ v ∈ vs, v.oneCell' = true) →
    ∃ w', (storeCells ⟨b, off, none⟩ vs i).run P w = .ok () w' ∧ cellsAre w' b (spliceV xs (off + i) vs) ∧ Turned w w' b := by
  induction vs with
  | nil =>
    intro w off i xs h _ _
    exact ⟨w, rfl, by simpa [spliceV] using h, .refl w b⟩
  | cons v r ih =>
    intro w off i xs h hl hv
    have hlt : off + i < xs.length := by simp at hl; omega
    obtain ⟨h1, h2⟩ := setCell_are h v hlt
    obtain ⟨w', k1, k2, k3⟩ := ih (w := w.setCell ⟨b, off + i, none⟩ v) (off := off) (i := i + 1) h1 (by simp at hl ⊢; omega) (fun x hx => hv x (List.mem_cons_of_mem _ hx))
    refine ⟨w', ?_, ?_, h2.trans k3⟩
    · have hc : w.cell? ⟨b, off + i, none⟩ = some xs[off + i] := by rw [cell_of_are h]; simp [hlt]
      have hf := frozen_of_are h hlt
      unfold storeCells
      simp only [add_addr, Sem.run_bind, run_store P w _ v .plain (hv v (by simp)), hc, hf, Bool.false_eq_true, if_false, Result.andThen_ok]
      exact k1
    · have : spliceV xs (off + i) (v :: r) = spliceV (xs.set (off + i) v) (off + (i + 1)) r := by
        unfold spliceV
        rw [List.drop_set_of_lt (by omega), show off + (i + 1) = off + i + 1 by omega, List.take_succ_eq_append_getElem (by simpa using hlt)]
        simp only [List.getElem_set_self, List.take_set_of_le (Nat.le_refl _), List.append_assoc, List.cons_append, List.nil_append, List.length_cons]
        rw [show off + i + (r.length + 1) = off + i + 1 + r.length by omega]
      rw [this]; exact k2

theorem splice_rep {w : World} {g : G} {σ : St} {cs vs : List AV} {xs ys : List Value} (h : RepAs w g σ cs xs) (k : RepAs w g σ vs ys) (off : Nat) : RepAs w g σ (splice cs off vs) (spliceV xs off ys) := by
  unfold splice spliceV
  rw [k.len]
  exact ((h.take off).append k).append (h.drop _)

theorem oneCell_rep {w : World} {g : G} {σ : St} {v : AV} {x : Value} (h : RepA w g σ v x) (hv : v.oneCell = true) : x.oneCell' = true := by
  cases h with
  | p v x hp => cases hp with
    | agg => simp [AV.oneCell] at hv
    | lit _ hl => cases x <;> first | rfl | exact hl.elim
    | _ => rfl
  | agg => simp [AV.oneCell] at hv
  | tup => simp [AV.oneCell] at hv
  | undef => simp [AV.oneCell] at hv
  | _ => rfl
theorem oneCells_rep {w : World} {g : G} {σ : St} : ∀ {vs : List AV} {xs : List Value}, RepAs w g σ vs xs → vs.all AV.oneCell = true → ∀ x ∈ xs, x.oneCell' = true
  | _, _, .nil, _, x, hx => by cases hx
  | _, _, .cons v y vs ys h hs, hall, x, hx => by
    simp only [List.all_cons, Bool.and_eq_true] at hall
    rcases List.mem_cons.1 hx with rfl | hx
    · exact oneCell_rep h hall.1
    · exact oneCells_rep hs hall.2 x hx

theorem getO_set (s : Store) (id : Nat) (o : Option AObj) (j : Nat) (h : id < s.length) : getO (s.set id o) j = if j = id then o else getO s j := by
  unfold getO
  by_cases hj : j = id
  · subst hj; simp [h]
  · rw [List.getElem?_set_ne (by omega), if_neg hj]

theorem Cx.ovr_set {w g σ s T} {N : Prop} (c : Cx w g σ s T N) {id : Nat} (hT : T id) (hl : id < s.length) (o : Option AObj) : ovr T s (s.set id o) σ = fun i => if i = id then o else σ i := by
  funext i
  unfold ovr
  rw [getO_set s id o i hl]
  by_cases hi : i = id
  · subst hi; simp [hT]
  · simp only [if_neg hi]
    split
    · rename_i h
      rcases h with h | h
      · exact (c.agree i h).symm
      · simp at h; omega
    · rfl

/-- An object is turned: its block bears other cells. -/
theorem Rs.set {w g σ s T} {N : Prop} {K : AV → Store → Prop} {x : Value} {v : AV} (c : Cx w g σ s T N) {w' : World} {id : Nat} {o o' : AObj} (hT : T id) (hs : getO s id = some o) (hkind : sameKind o o')
    (m : Turned w w' (g.ι id)) (hO : Ext w g σ w' g (σ.put id o') → RepO w' g (σ.put id o') (g.ι id) o') (hv : Ext w g σ w' g (σ.put id o') → RepA w' g (σ.put id o') v x) (hk : K v (s.set id (some o'))) : Rs w g σ s T K x w' := by
  have hσ : σ id = some o := (c.agree id hT).trans hs
  have hl : id < s.length := getO_lt hs
  have hov : ovr T s (s.set id (some o')) σ = σ.put id o' := c.ovr_set hT hl _
  have hsome : ∀ i, σ.put id o' i ≠ none → σ i ≠ none := fun i h => by
    by_cases hi : i = id
    · subst hi; rw [hσ]; simp
    · simpa [St.put, hi] using h
  have hext : Ext w g σ w' g (σ.put id o') := {
    size := by rw [m.size]; exact Nat.le_refl _
    os := m.os
    tape := m.tape
    output := m.output
    frame := fun b hb ho => m.other b (fun e => ho ⟨id, by rw [hσ]; simp, e.symm⟩)
    shape := fun b hb => by
      by_cases hbi : b = g.ι id
      · rw [hbi]; exact m.shape
      · exact shape_same (m.other b hbi)
    X := rfl
    C := fun _ h => h
    own := fun b hb ⟨i, h1, h2⟩ => ⟨i, hsome i h1, h2⟩
    obj := fun i hc oo ho => by
      by_cases hi : i = id
      · subst hi; simp [St.put] at ho; subst ho; exact ⟨o, hσ, hkind⟩
      · simp [St.put, hi] at ho; exact ⟨oo, ho, .refl _⟩
    ι1 := fun _ _ _ => rfl
    ι2 := fun _ _ _ _ _ _ _ _ => rfl }
  refine ⟨v, s.set id (some o'), g, hk, by simp, fun i hi hlt => ?_, ?_, ?_, ?_, fun i h => .inl h⟩
  · rw [getO_set s id _ i hl, if_neg (fun (e : i = id) => hi (by rw [e]; exact hT))]
  · rw [hov]; exact hv hext
  · rw [hov]
    refine ⟨fun i oo h => ?_, fun i oo h => ?_, fun b hb => by rw [m.size]; exact c.inv.xlt b hb, fun i j h k hij => c.inv.inj i j (hsome i h) (hsome j k) hij, fun i oo h => ?_⟩
    · obtain ⟨o2, ho2⟩ := Option.ne_none_iff_exists'.1 (hsome i (by rw [h]; simp)); exact c.inv.made _ _ ho2
    · obtain ⟨o2, ho2⟩ := Option.ne_none_iff_exists'.1 (hsome i (by rw [h]; simp)); rw [m.size]; exact c.inv.lies _ _ ho2
    · by_cases hi : i = id
      · subst hi; simp [St.put] at h; subst h; exact hO hext
      · simp [St.put, hi] at h
        refine hext.repO (m.other _ (fun e => hi ?_)) (c.inv.rep _ _ h)
        exact c.inv.inj _ _ (by rw [h]; simp) (by rw [hσ]; simp) e
  · rw [hov]; exact hext

section ops
variable {P : Program} {o : Oper} {e : Env} {s : Store} {K : AV → Store → Prop} {w : World} {g : G} {σ : St} {a : Act} {T : Nat → Prop} {N : Prop}

theorem ok_store {t : Nat} {x y : Operand} (ho : o.op = .store t x y) (h : aop P (.store t x y) e s K) (c : Cx w g σ s T N) (hT : ∀ id, id ∈ ids (ev e x) → T id) (he : EnvR w g σ e a.tmps) : OpOk P o a w (Rs w g σ s T K) := by
  simp only [aop, storeA] at h
  have hx := ev_rep he x
  have hy := ev_rep he y
  split at h
  · exact h.elim
  · rename_i agg sz hkd
    split at h
    · rename_i id off hev
      rw [hev] at hx
      obtain ⟨hp, _, _⟩ := hx.inv_ref
      split at h
      · rename_i cs hg
        rw [setK_eq] at h
        unfold Ob at h
        obtain ⟨⟨hsz, hle, hone⟩, hk⟩ := h
        have hTi : T id := hT id (by rw [hev]; simp [ids, ids1])
        have hs : σ id = some (.cells cs) := (c.agree id hTi).trans hg
        have hcells := cells_rep hy hone
        cases c.inv.rep _ _ hs with
        | cells _ xs hcs hare =>
          obtain ⟨w', k1, k2, k3⟩ := run_storeCells (P := P) (a.eval y).cells.toList (off := off) (i := 0) hare (by rw [← hcs.len, ← hcells.len]; omega) (oneCells_rep hcells hone)
          refine .skip (w' := w') ?_ ?_
          · have hsize : (a.eval y).cells.size = sz := by rw [← hsz, hcells.len]; simp
            unfold kd at hkd
            split at hkd
            · rename_i d i hd hi
              cases hkd
              simp [execOp, ho, Instr.storeAt, Instr.sureAddr, hp, storeVar, sizeOf, typeInfo, hi, hsize, k1]
            · cases hkd
          · refine Rs.set c hTi hg (o' := .cells (splice cs off (ev e y).cells)) ?_ k3 (fun hx => ?_) (fun _ => .undef _) hk
            · simp [sameKind, splice]; omega
            · exact .cells _ _ (hx.repAs (splice_rep hcs hcells off)) (by simpa using k2)
      · exact h.elim
    · exact h.elim
end ops
end Go.Proofs.Ytfjolephpghafaa.AW
