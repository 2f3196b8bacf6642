/- A part of the proof: AW/Ops, AW/Ops2, AW/Ops3. -/
import Derived.Test.YtjhgmaephpadpaaGreatP1
import Derived.LaidEql
import Derived.ChangeKeysEq
namespace Go.Proofs.YtjhgmaephpadpaaGreat.AW

set_option linter.unusedSimpArgs false
set_option linter.unusedVariables false
/-! ### One operation, in memory -/
def OpOk (P : Program) (o : Oper) (a : Act) (w : World) (R : Value → World → Prop) : Prop :=
  match (execOp a.eval o).run P w with
  | .ok (.value v) w' => R v w'
  | .ok .skip w' => R undef w'
  | .ok (.enter f args) w' => Calls P f args w' fun
    | .returned v, w'' => R v w''
    | _, _ => False
  | _ => False

theorem OpOk.value {P : Program} {o : Oper} {a : Act} {w : World} {R : Value → World → Prop} {v : Value} {w' : World} (h : (execOp a.eval o).run P w = .ok (.value v) w') (hr : R v w') : OpOk P o a w R := by
  unfold OpOk; rw [h]; exact hr
theorem OpOk.skip {P : Program} {o : Oper} {a : Act} {w : World} {R : Value → World → Prop} {w' : World} (h : (execOp a.eval o).run P w = .ok .skip w') (hr : R undef w') : OpOk P o a w R := by
  unfold OpOk; rw [h]; exact hr

theorem OpOk.wp {P : Program} {o : Oper} {a : Act} {w : World} {R : Value → World → Prop} (h : OpOk P o a w R) {next : Act → World → Prop} {Q : Exit → Act → World → Prop}
    (hn : ∀ v w', R v w' → next (a.put o.dst v) w') : o.wp P a w next Q := by
  unfold OpOk at h
  unfold Oper.wp
  generalize (execOp a.eval o).run P w = r at *
  cases r with
  | ok n w' =>
    cases n <;> first
      | exact hn _ _ h
      | exact Calls.mono h (fun e w'' he => by cases e <;> first | exact hn _ _ he | exact he.elim)
      | exact h.elim
  | halt x w' => exact h.elim

/-! ### A store in which an operation has turned what it touches -/
noncomputable def ovr (T : Nat → Prop) (s s' : Store) (σ : St) : St := fun id => open Classical in if T id ∨ (s.length ≤ id ∧ id < s'.length) then getO s' id else σ id

structure Cx (w : World) (g : G) (σ : St) (s : Store) (T : Nat → Prop) (N : Prop) : Prop where
  inv : Inv w g σ
  agree : ∀ id, T id → σ id = getO s id
  fresh : N → ¬ g.C s.length

theorem getO_out {s : Store} {id : Nat} (h : s.length ≤ id) : getO s id = none := by
  unfold getO; rw [List.getElem?_eq_none h]

theorem getO_lt {s : Store} {id : Nat} {o : AObj} (h : getO s id = some o) : id < s.length := by
  refine Nat.lt_of_not_le fun hle => ?_
  rw [getO_out hle] at h; cases h

theorem Cx.ovr_self {w g σ s T} {N : Prop} (c : Cx w g σ s T N) : ovr T s s σ = σ := by
  funext id
  unfold ovr
  split
  · rename_i h
    rcases h with h | h
    · exact (c.agree id h).symm
    · omega
  · rfl

/-- What is known behind an operation. -/
structure Res (w : World) (g : G) (σ : St) (s : Store) (T : Nat → Prop) (K : AV → Store → Prop) (x : Value) (w' : World) (v : AV) (s' : Store) (g' : G) : Prop where
  K : K v s'
  len : s.length ≤ s'.length
  same : ∀ id, ¬ T id → id < s.length → getO s' id = getO s id
  rep : RepA w' g' (ovr T s s' σ) v x
  inv : Inv w' g' (ovr T s s' σ)
  ext : Ext w g σ w' g' (ovr T s s' σ)
  new : ∀ id, g'.C id → g.C id ∨ (s.length ≤ id ∧ id < s'.length)

def Rs (w : World) (g : G) (σ : St) (s : Store) (T : Nat → Prop) (K : AV → Store → Prop) (x : Value) (w' : World) : Prop :=
  ∃ v s' g', Res w g σ s T K x w' v s' g'

theorem Rs.pure {w g σ s T} {N : Prop} {K : AV → Store → Prop} {x : Value} {v : AV} (c : Cx w g σ s T N) (hk : K v s) (hr : RepA w g σ v x) : Rs w g σ s T K x w := by
  refine ⟨v, s, g, hk, Nat.le_refl _, fun _ _ _ => rfl, ?_, ?_, ?_, fun id h => .inl h⟩
  · rw [c.ovr_self]; exact hr
  · rw [c.ovr_self]; exact c.inv
  · rw [c.ovr_self]; exact .refl _ _ _

/-! ### Operands -/
def EnvR (w : World) (g : G) (σ : St) (e : Env) (tmps : Array Value) : Prop := ∀ t, RepA w g σ (e t) (tmps.getD t undef)

theorem absP_rep (w : World) (B : Nat → Prop) : ∀ n, (∀ v x, absP n v = some x → RepP w B x v) ∧ (∀ vs xs, absP.absPs n vs = some xs → RepPs w B xs vs) := by
  intro n
  induction n with
  | zero =>
    refine ⟨fun v x h => by simp [absP] at h, fun vs xs h => ?_⟩
    cases vs with
    | nil => simp [absP.absPs] at h; subst h; exact .nil
    | cons => simp [absP.absPs] at h
  | succ n ih =>
    refine ⟨fun v x h => ?_, fun vs xs h => ?_⟩
    · simp only [absP] at h
      split at h
      case h_1 b => cases h; exact .bool _
      case h_2 k m => cases h; exact .int _ _
      case h_3 s => cases h; exact .str _
      case h_4 cs =>
        cases hp : absP.absPs n cs.toList with
        | none => rw [hp] at h; cases h
        | some ys =>
          rw [hp] at h; cases h
          exact .agg ys cs.toList (ih.2 _ _ hp)
      case h_5 t y =>
        cases hp : absP n y with
        | none => rw [hp] at h; cases h
        | some z => rw [hp] at h; cases h; exact .iface _ _ _ (ih.1 _ _ hp)
      case h_6 => cases h; exact .nil .nil 0
      case h_7 => cases h; exact .lit _ trivial
      case h_8 => cases h; exact .lit _ trivial
      case h_9 => cases h; exact .lit _ trivial
      case h_10 => cases h; exact .lit _ trivial
      case h_11 => cases h; exact .lit _ trivial
      case h_12 => cases h
    · cases vs with
      | nil => simp [absP.absPs] at h; subst h; exact .nil
      | cons v r =>
        simp only [absP.absPs] at h
        split at h
        · rename_i y ys hy hys
          cases h
          exact .cons _ _ _ _ (ih.1 _ _ hy) (ih.2 _ _ hys)
        · cases h

theorem ev_rep {w : World} {g : G} {σ : St} {e : Env} {a : Act} (he : EnvR w g σ e a.tmps) (x : Operand) : RepA w g σ (ev e x) (a.eval x) := by
  cases x with
  | tmp t => exact he t
  | const v =>
    simp only [ev, Act.eval]
    cases h : absP 200 v with
    | none => exact .undef _
    | some y => exact .p _ _ ((absP_rep w _ 200).1 v y h)
  | global n => exact .undef _
  | func f => exact .clos f [] [] .nil

theorem evs_rep {w : World} {g : G} {σ : St} {e : Env} {a : Act} (he : EnvR w g σ e a.tmps) : ∀ xs : List Operand, RepAs w g σ (xs.map (ev e)) (xs.map a.eval)
  | [] => .nil
  | x :: r => .cons _ _ _ _ (ev_rep he x) (evs_rep he r)

/-! ### Reading what a tree says -/
section
variable {w : World} {g : G} {σ : St} {x : Value}
theorem RepA.inv_p {v : PV} (h : RepA w g σ (.p v) x) : RepP w (Lv g σ) v x := by cases h; assumption
theorem RepA.inv_bool {b : Bool} (h : RepA w g σ (.p (.bool b)) x) : x = .bool b := by cases h.inv_p; rfl
theorem RepA.inv_int {k : IntKind} {n : Int} (h : RepA w g σ (.p (.int k n)) x) : x = .int k n := by cases h.inv_p; rfl
theorem RepA.inv_str {s : List UInt8} (h : RepA w g σ (.p (.str s)) x) : ∃ b : ByteArray, x = .string b ∧ b.data.toList = s := by cases h.inv_p; exact ⟨_, rfl, rfl⟩
theorem RepA.inv_lit {v : Value} (h : RepA w g σ (.p (.lit v)) x) : x = v ∧ litOk v := by cases h.inv_p; exact ⟨rfl, by assumption⟩
theorem RepA.inv_ref {id off : Nat} (h : RepA w g σ (.ref id off) x) : x = .pointer (some ⟨g.ι id, off, none⟩) ∧ g.C id ∧ ∀ sz xs ty, σ id ≠ some (.buf sz xs ty) := by
  cases h with | ref _ _ hc hb => exact ⟨rfl, hc, hb⟩
theorem RepA.inv_pto {cs : List PV} (h : RepA w g σ (.p (.pto cs)) x) : ∃ b off, x = .pointer (some ⟨b, off, none⟩) ∧ CellsP w (Lv g σ) b off cs ∧ (cs ≠ [] → ¬ Lv g σ b) := by
  cases h.inv_p with | pto _ b off hb hc => exact ⟨b, off, rfl, hc, hb⟩
theorem RepA.inv_eptr {id tot i sub sz : Nat} {xs : List PV} {ty : Option Nat} (h : RepA w g σ (.eptr id tot i sub) x) (hs : σ id = some (.buf sz xs ty)) (ht : xs.length = tot) : x = .pointer (some ⟨g.ι id, i * sz + sub, none⟩) := by
  cases h with | eptr _ _ _ _ a hc ht' h => rw [(h _ _ _ hs ht).1]
theorem RepA.inv_eptr2 {id tot i sub : Nat} (h : RepA w g σ (.eptr id tot i sub) x) : ∃ ad, x = .pointer (some ad) ∧ g.C id ∧ (∀ sz xs ty, σ id = some (.buf sz xs ty) → tot ≤ xs.length) ∧ ∀ sz xs ty, σ id = some (.buf sz xs ty) → xs.length = tot → ad = ⟨g.ι id, i * sz + sub, none⟩ ∧ g.R id := by
  cases h with | eptr _ _ _ _ a hc ht h => exact ⟨a, rfl, hc, ht, h⟩
theorem RepA.inv_osl {id tot off len : Nat} (h : RepA w g σ (.osl id tot off len) x) : (∃ q cap, x = .slice q len cap ∧ (q = none → len = 0)) ∧ g.C id ∧ (∀ sz xs ty, σ id = some (.buf sz xs ty) → tot ≤ xs.length) ∧
    ∀ sz xs ty, σ id = some (.buf sz xs ty) → xs.length = tot → OslV w g id sz tot off len x := by
  cases h with
  | osl _ _ _ _ _ hc hx ht h => exact ⟨hx, hc, ht, h⟩
  | oslc _ _ hc hb => exact ⟨⟨_, _, rfl, fun q => by cases q⟩, hc, fun sz xs ty q => absurd q (hb sz xs ty), fun sz xs ty q => absurd q (hb sz xs ty)⟩
theorem RepA.inv_oslc {id n : Nat} (h : RepA w g σ (.osl id 0 1 n) x) : x = .slice (some ⟨g.ι id, 0, none⟩) n n ∧ g.C id ∧ ∀ sz xs ty, σ id ≠ some (.buf sz xs ty) := by
  cases h with
  | osl _ _ _ _ _ _ _ _ _ hot => exact absurd hot (by decide)
  | oslc _ _ hc hb => exact ⟨rfl, hc, hb⟩
theorem OslV.real {id sz tot off len : Nat} (h : OslV w g id sz tot off len x) (hl : g.R id) : ∃ ad cap, (x = .slice (some ad) len cap ∧ ad.spot = none) ∧ len ≤ cap ∧ off + len ≤ tot ∧ (0 < cap → ad = ⟨g.ι id, off * sz, none⟩ ∧ Room w (g.ι id) ((off + cap) * sz)) := by
  obtain ⟨h1, _, h3⟩ := h
  obtain ⟨a, cap, b1, b2, b3, b4⟩ := h3 hl
  exact ⟨a, cap, ⟨b1, b2⟩, b3, h1, b4⟩
theorem OslV.pos {id sz tot off len : Nat} (h : OslV w g id sz tot off len x) (hx : ∃ q cap, x = .slice q len cap ∧ (q = none → len = 0)) (hl : 0 < len) : g.R id := Classical.byContradiction fun hR => by
  obtain ⟨hy, _⟩ := h.2.1 hR
  obtain ⟨q, cp, e, hq⟩ := hx
  rw [hy] at e; cases e
  omega
theorem RepA.inv_it {id : Nat} (h : RepA w g σ (.it id) x) : x = .pointer (some ⟨g.ι id, 0, none⟩) ∧ g.C id := by
  cases h with | it _ hc hb => exact ⟨rfl, hc⟩
theorem RepA.inv_clos {f : Nat} {caps : List AV} (h : RepA w g σ (.clos f caps) x) : ∃ ys, x = .func (.func f) #[] ys.toArray ∧ RepAs w g σ caps ys := by
  cases h with | clos _ _ ys h => exact ⟨ys, rfl, h⟩
theorem RepA.inv_tup {vs : List AV} (h : RepA w g σ (.tup vs) x) : ∃ ys, x = .tuple ys.toArray ∧ RepAs w g σ vs ys := by
  cases h with | tup _ ys h => exact ⟨ys, rfl, h⟩
theorem RepA.inv_agg {vs : List AV} (h : RepA w g σ (.agg vs) x) : ∃ ys, x = .agg ys.toArray ∧ RepAs w g σ vs ys := by
  cases h with | agg _ ys h => exact ⟨ys, rfl, h⟩
theorem RepA.mkStr (s : List UInt8) : RepA w g σ (.p (.str s)) (.string ⟨s.toArray⟩) := .p _ _ (by have := RepP.str (w := w) (B := Lv g σ) ⟨s.toArray⟩; simpa using this)
theorem RepA.mkInt (k : IntKind) (n : Int) : RepA w g σ (.p (.int k n)) (.int k n) := .p _ _ (.int k n)
theorem RepA.mkBool (b : Bool) : RepA w g σ (.p (.bool b)) (.bool b) := .p _ _ (.bool b)
end

/-! ### A new object -/
def St.put (σ : St) (id : Nat) (o : AObj) : St := fun i => if i = id then some o else σ i
def G.new (g : G) (id b : Nat) : G := { ι := fun i => if i = id then b else g.ι i, X := g.X, C := fun i => g.C i ∨ i = id, R := fun i => i = id ∨ g.R i }

theorem getO_snoc (s : Store) (o : AObj) (id : Nat) : getO (s ++ [some o]) id = if id = s.length then some o else getO s id := by
  unfold getO
  by_cases h : id < s.length
  · rw [List.getElem?_append_left h, if_neg (by omega)]
  · by_cases h2 : id = s.length
    · subst h2; simp
    · rw [if_neg h2, List.getElem?_eq_none (by simp; omega), List.getElem?_eq_none (by omega)]

theorem Cx.ovr_snoc {w g σ s T} {N : Prop} (c : Cx w g σ s T N) (o : AObj) : ovr T s (s ++ [some o]) σ = σ.put s.length o := by
  funext id
  unfold ovr St.put
  rw [getO_snoc]
  by_cases h2 : id = s.length
  · rw [if_pos (Or.inr (by simp; omega)), if_pos h2, if_pos h2]
  · simp only [if_neg h2]
    split
    · rename_i h
      rcases h with h | h
      · exact (c.agree id h).symm
      · simp at h; omega
    · rfl

/-- One block more, and nothing else. -/
structure More (w w' : World) (ob : Obj) : Prop where
  heap : w'.heap = w.heap.push ob
  os : w'.os = w.os
  tape : w'.tape = w.tape
  output : w'.output = w.output
  drawn : w.drawn ≤ w'.drawn

theorem More.alloc (w : World) (ob : Obj) : More w (w.alloc ob) ob := ⟨rfl, rfl, rfl, rfl, Nat.le_refl _⟩
theorem More.old {w w' : World} {ob : Obj} (h : More w w' ob) {b : Nat} (hb : b < w.heap.size) : w'.heap[b]? = w.heap[b]? := by
  rw [h.heap, Array.getElem?_push, if_neg (by omega)]
theorem More.at {w w' : World} {ob : Obj} (h : More w w' ob) : w'.heap[w.heap.size]? = some ob := by
  rw [h.heap, Array.getElem?_push, if_pos rfl]
theorem More.size {w w' : World} {ob : Obj} (h : More w w' ob) : w'.heap.size = w.heap.size + 1 := by rw [h.heap]; simp

theorem shape_same {w w' : World} {b : Nat} (h : w'.heap[b]? = w.heap[b]?) : w'.shape? b = w.shape? b := by unfold World.shape?; rw [h]

theorem Cx.ext_new {w g σ s T} {N : Prop} (c : Cx w g σ s T N) {w' : World} {ob : Obj} (m : More w w' ob) (o : AObj) (hn : N) :
    Ext w g σ w' (g.new s.length w.heap.size) (σ.put s.length o) where
  drawn := m.drawn
  size := by rw [m.size]; omega
  os := m.os
  tape := m.tape
  output := m.output
  frame b hb _ := m.old hb
  shape b hb := shape_same (m.old hb)
  X := rfl
  C id h := .inl h
  own b hb h := by
    obtain ⟨id, h1, hr, h2⟩ := h
    by_cases he : id = s.length
    · simp [G.new, he] at h2; omega
    · simp [G.new, he] at h2 hr; simp [St.put, he] at h1; exact ⟨id, h1, hr, h2⟩
  obj id hc o' ho := by
    have he : id ≠ s.length := fun e => c.fresh hn (e ▸ hc)
    simp [St.put, he] at ho; exact ⟨o', ho, .refl _⟩
  ι1 id hc _ := by
    have he : id ≠ s.length := fun e => c.fresh hn (e ▸ hc)
    constructor <;> simp [G.new, he]
  ι2 id _ _ _ _ _ hc _ _ _ := by
    have he : id ≠ s.length := fun e => c.fresh hn (e ▸ hc)
    constructor <;> simp [G.new, he]

theorem Rs.new {w g σ s T} {N : Prop} {K : AV → Store → Prop} {x : Value} {v : AV} (c : Cx w g σ s T N) {w' : World} {ob : Obj} (m : More w w' ob) {o : AObj}
    (hO : RepO w' (g.new s.length w.heap.size) (σ.put s.length o) w.heap.size o)
    (hv : RepA w' (g.new s.length w.heap.size) (σ.put s.length o) v x) (hk : K v (s ++ [some o])) (hn : N) : Rs w g σ s T K x w' := by
  have hext := c.ext_new m o hn
  refine ⟨v, s ++ [some o], g.new s.length w.heap.size, hk, by simp, fun id _ hlt => ?_, ?_, ?_, ?_, fun id h => ?_⟩
  · rw [getO_snoc, if_neg (by omega)]
  · rw [c.ovr_snoc]; exact hv
  · rw [c.ovr_snoc]
    have hι : ∀ id, id ≠ s.length → (g.new s.length w.heap.size).ι id = g.ι id := fun id he => by simp [G.new, he]
    have hι0 : (g.new s.length w.heap.size).ι s.length = w.heap.size := by simp [G.new]
    have hR : ∀ id, id ≠ s.length → (g.new s.length w.heap.size).R id → g.R id := fun id he h => h.elim (fun h => absurd h he) (fun h => h)
    refine ⟨fun id o' h => ?_, fun id o' h hr => ?_, fun b hb => by rw [m.size]; have := c.inv.xlt b hb; omega, fun id jd h k hri hrj hij => ?_, fun id o' h hr => ?_, fun id o' h hr => ?_⟩
    · by_cases he : id = s.length
      · exact .inr he
      · simp [St.put, he] at h; exact .inl (c.inv.made _ _ h)
    · by_cases he : id = s.length
      · subst he; rw [hι0, m.size]
        exact ⟨by omega, fun hx => by have := c.inv.xlt _ hx; omega⟩
      · simp [St.put, he] at h; rw [hι id he, m.size]
        obtain ⟨h1, h2⟩ := c.inv.lies _ _ h (hR id he hr)
        exact ⟨by omega, h2⟩
    · by_cases he : id = s.length
      · by_cases hj : jd = s.length
        · rw [he, hj]
        · subst he; rw [hι0, hι jd hj] at hij
          simp [St.put, hj] at k
          obtain ⟨o', ho'⟩ := Option.ne_none_iff_exists'.1 k
          have := (c.inv.lies _ _ ho' (hR jd hj hrj)).1; omega
      · by_cases hj : jd = s.length
        · subst hj; rw [hι0, hι id he] at hij
          simp [St.put, he] at h
          obtain ⟨o', ho'⟩ := Option.ne_none_iff_exists'.1 h
          have := (c.inv.lies _ _ ho' (hR id he hri)).1; omega
        · rw [hι id he, hι jd hj] at hij
          simp [St.put, he] at h; simp [St.put, hj] at k
          exact c.inv.inj _ _ h k (hR id he hri) (hR jd hj hrj) hij
    · by_cases he : id = s.length
      · subst he; rw [hι0]
        simp [St.put] at h; subst h; exact hO
      · simp [St.put, he] at h; rw [hι id he]
        exact hext.repO (m.old (c.inv.lies _ _ h (hR id he hr)).1) (c.inv.rep _ _ h (hR id he hr))
    · by_cases he : id = s.length
      · exact absurd (.inl he) hr
      · simp [St.put, he] at h
        exact c.inv.void _ _ h (fun q => hr (.inr q))
  · rw [c.ovr_snoc]; exact hext
  · rcases h with h | h
    · exact .inl h
    · subst h; exact .inr ⟨Nat.le_refl _, by simp⟩

/-! ### Cells -/
section
variable {w : World} {g : G} {σ : St} {x : Value}
theorem RepPs.up {B : Nat → Prop} : ∀ {ps : List PV} {xs : List Value}, B = Lv g σ → RepPs w B ps xs → RepAs w g σ (ps.map .p) xs
  | _, _, _, .nil => .nil
  | _, _, hB, .cons v x vs xs h hs => .cons _ _ _ _ (.p v x (hB ▸ h)) (RepPs.up hB hs)
theorem RepPs.repAs {ps : List PV} {xs : List Value} (h : RepPs w (Lv g σ) ps xs) : RepAs w g σ (ps.map .p) xs := h.up rfl
theorem RepAs.len : ∀ {cs : List AV} {xs : List Value}, RepAs w g σ cs xs → cs.length = xs.length
  | _, _, .nil => rfl
  | _, _, .cons _ _ _ _ _ hs => congrArg (· + 1) hs.len
theorem RepPs.len {B : Nat → Prop} : ∀ {cs : List PV} {xs : List Value}, RepPs w B cs xs → cs.length = xs.length
  | _, _, .nil => rfl
  | _, _, .cons _ _ _ _ _ hs => congrArg (· + 1) hs.len
theorem RepAs.drop : ∀ (n : Nat) {cs : List AV} {xs : List Value}, RepAs w g σ cs xs → RepAs w g σ (cs.drop n) (xs.drop n)
  | 0, _, _, h => h
  | _ + 1, _, _, .nil => .nil
  | n + 1, _, _, .cons _ _ _ _ _ hs => hs.drop n
theorem RepAs.take : ∀ (n : Nat) {cs : List AV} {xs : List Value}, RepAs w g σ cs xs → RepAs w g σ (cs.take n) (xs.take n)
  | 0, _, _, _ => .nil
  | _ + 1, _, _, .nil => .nil
  | n + 1, _, _, .cons _ _ _ _ h hs => .cons _ _ _ _ h (hs.take n)
theorem RepAs.append : ∀ {cs ds : List AV} {xs ys : List Value}, RepAs w g σ cs xs → RepAs w g σ ds ys → RepAs w g σ (cs ++ ds) (xs ++ ys)
  | _, _, _, _, .nil, k => k
  | _, _, _, _, .cons _ _ _ _ h hs, k => .cons _ _ _ _ h (hs.append k)
theorem RepPs.append {B : Nat → Prop} : ∀ {cs ds : List PV} {xs ys : List Value}, RepPs w B cs xs → RepPs w B ds ys → RepPs w B (cs ++ ds) (xs ++ ys)
  | _, _, _, _, .nil, k => k
  | _, _, _, _, .cons _ _ _ _ h hs, k => .cons _ _ _ _ h (hs.append k)
theorem RepPs.drop {B : Nat → Prop} : ∀ (n : Nat) {cs : List PV} {xs : List Value}, RepPs w B cs xs → RepPs w B (cs.drop n) (xs.drop n)
  | 0, _, _, h => h
  | _ + 1, _, _, .nil => .nil
  | n + 1, _, _, .cons _ _ _ _ _ hs => hs.drop n
theorem RepPs.take {B : Nat → Prop} : ∀ (n : Nat) {cs : List PV} {xs : List Value}, RepPs w B cs xs → RepPs w B (cs.take n) (xs.take n)
  | 0, _, _, _ => .nil
  | _ + 1, _, _, .nil => .nil
  | n + 1, _, _, .cons _ _ _ _ h hs => .cons _ _ _ _ h (hs.take n)
theorem RepAs.get : ∀ {cs : List AV} {xs : List Value} {i : Nat} {v : AV}, RepAs w g σ cs xs → cs[i]? = some v → ∃ x, xs[i]? = some x ∧ RepA w g σ v x
  | _, _, 0, _, .cons _ _ _ _ h _, hv => by simp at hv; subst hv; exact ⟨_, rfl, h⟩
  | _, _, i + 1, _, .cons _ _ _ _ _ hs, hv => by simp at hv; obtain ⟨x, h1, h2⟩ := hs.get hv; exact ⟨x, by simpa using h1, h2⟩
theorem RepPs.get {B : Nat → Prop} : ∀ {cs : List PV} {xs : List Value} {i : Nat} {v : PV}, RepPs w B cs xs → cs[i]? = some v → ∃ x, xs[i]? = some x ∧ RepP w B v x
  | _, _, 0, _, .cons _ _ _ _ h _, hv => by simp at hv; subst hv; exact ⟨_, rfl, h⟩
  | _, _, i + 1, _, .cons _ _ _ _ _ hs, hv => by simp at hv; obtain ⟨x, h1, h2⟩ := hs.get hv; exact ⟨x, by simpa using h1, h2⟩

theorem allP_rep : ∀ {cs : List AV} {xs : List Value}, RepAs w g σ cs xs → ∀ {ps : List PV}, allP cs = some ps → RepPs w (Lv g σ) ps xs
  | _, _, .nil, _, hp => by simp [allP] at hp; subst hp; exact .nil
  | _, _, .cons v x vs xs h hs, _, hp => by
    cases v <;> simp [allP] at hp
    obtain ⟨qs, hq, rfl⟩ := hp
    exact .cons _ _ _ _ h.inv_p (allP_rep hs hq)
theorem mkAgg_rep {cs : List AV} {xs : List Value} (h : RepAs w g σ cs xs) : RepA w g σ (mkAgg cs) (.agg xs.toArray) := by
  unfold mkAgg
  split
  · rename_i ps hp; exact .p _ _ (.agg _ _ (allP_rep h hp))
  · exact .agg _ _ h

theorem cells_rep {v : AV} (h : RepA w g σ v x) (hne : v.cells.all AV.oneCell = true) : RepAs w g σ v.cells x.cells.toList := by
  cases h with
  | p v x hp =>
    cases hp with
    | agg cs a hs => simpa [AV.cells, Value.cells] using hs.repAs
    | lit v hl =>
      have : x.cells = #[x] := by cases x <;> first | rfl | exact hl.elim
      rw [this]; exact .cons _ _ _ _ (.p _ _ (.lit _ hl)) .nil
    | bool b => exact .cons _ _ _ _ (.p _ _ (.bool b)) .nil
    | int k n => exact .cons _ _ _ _ (.p _ _ (.int k n)) .nil
    | str y => exact .cons _ _ _ _ (.p _ _ (.str y)) .nil
    | iface t v x h => exact .cons _ _ _ _ (.p _ _ (.iface t v x h)) .nil
    | nil k sz => exact .cons _ _ _ _ (.p _ _ (.nil k sz)) .nil
    | spt k sz a hk => exact .cons _ _ _ _ (.p _ _ (.spt k sz a hk)) .nil
    | sl k sz xs b off cap hk hc hl hs hb h => exact .cons _ _ _ _ (.p _ _ (.sl k sz xs b off cap hk hc hl hs hb h)) .nil
    | pto cs b off hb h => exact .cons _ _ _ _ (.p _ _ (.pto cs b off hb h)) .nil
  | ref id off hc hb => exact .cons _ _ _ _ (.ref id off hc hb) .nil
  | osl id tot off len x hc hx ht h hot =>
    obtain ⟨q, cap, rfl, hq⟩ := hx
    exact .cons _ _ _ _ (.osl id tot off len _ hc ⟨q, cap, rfl, hq⟩ ht h hot) .nil
  | oslc id n hc hb => exact .cons _ _ _ _ (.oslc id n hc hb) .nil
  | eptr id tot i sub a hc ht h => exact .cons _ _ _ _ (.eptr id tot i sub a hc ht h) .nil
  | map id hc hb => exact .cons _ _ _ _ (.map id hc hb) .nil
  | it id hc hb => exact .cons _ _ _ _ (.it id hc hb) .nil
  | agg cs a h => simpa [AV.cells, Value.cells] using h
  | tup vs a h => simp [AV.cells, AV.oneCell] at hne
  | clos f caps a h => exact .cons _ _ _ _ (.clos f caps a h) .nil
  | ifc t v x h => exact .cons _ _ _ _ (.ifc t v x h) .nil
  | undef => simp [AV.cells, AV.oneCell] at hne

theorem cell_of_are {b i : Nat} {xs : List Value} (h : cellsAre w b xs) : w.cell? ⟨b, i, none⟩ = xs[i]? := by
  obtain ⟨e, f, h1, _⟩ := h
  simp [World.cell?, h1]
theorem frozen_of_are {b i : Nat} {xs : List Value} (h : cellsAre w b xs) (hi : i < xs.length) : w.frozen? ⟨b, i, none⟩ = false := by
  obtain ⟨e, f, h1, h2⟩ := h
  have : ¬ (f.1 ≤ i ∧ i < f.2) := by omega
  simp only [World.frozen?, h1]
  simpa using this
end

theorem add_addr (b off j : Nat) : (⟨b, off, none⟩ : Addr).add j = ⟨b, off + j, none⟩ := by
  unfold Addr.add; split
  · rename_i h; subst h; rfl
  · rfl

/-- What a load gives. -/
theorem run_loadVar_cells {P : Program} {w : World} {t : Nat} {agg : Bool} {sz b off : Nat} (hk : kd P t = some (agg, sz)) {ys : List Value}
    (h : ∀ j y, ys[j]? = some y → w.cell? ⟨b, off + j, none⟩ = some y) :
    (agg = true → sz ≤ ys.length → (loadVar t ⟨b, off, none⟩).run P w = .ok (.agg (ys.take sz).toArray) w) ∧
    (agg = false → ∀ y r, ys = y :: r → (loadVar t ⟨b, off, none⟩).run P w = .ok y w) := by
  unfold kd at hk
  split at hk
  · rename_i d i hd hi
    cases hk
    have hagg : (isAgg t).run P w = .ok (aggD d) w := by
      simp [isAgg, underlying, hd]
      cases d <;> simp [aggD]
    refine ⟨fun ha hl => ?_, fun ha y r hy => ?_⟩
    · have hc := run_loadCells_list (P := P) (w := w) ⟨b, off, none⟩ (ys.take i.size) (fun j v hv => by
        rw [add_addr]
        rw [List.getElem?_take] at hv
        split at hv
        · exact h j v hv
        · cases hv)
      rw [List.length_take, Nat.min_eq_left hl] at hc
      simp [loadVar, hagg, ha, sizeOf, typeInfo, hi, hc]
    · subst hy
      have h0 : w.cell? ⟨b, off, none⟩ = some y := by simpa using h 0 y rfl
      simp [loadVar, hagg, ha, h0]
  · cases hk

/-- The value at the head of cells that lie in memory. -/
theorem valK_load {P : Program} {w : World} {g : G} {σ : St} {t : Nat} {agg : Bool} {sz b off : Nat} (hk : kd P t = some (agg, sz)) {cs : List AV} {ys : List Value} (hr : RepAs w g σ cs ys)
    (h : ∀ j y, ys[j]? = some y → w.cell? ⟨b, off + j, none⟩ = some y) {K : AV → Prop} (hv : valK agg sz cs K) :
    ∃ v x, K v ∧ RepA w g σ v x ∧ (loadVar t ⟨b, off, none⟩).run P w = .ok x w := by
  obtain ⟨h1, h2⟩ := run_loadVar_cells hk h
  unfold valK at hv
  cases agg with
  | true =>
    simp only [] at hv
    split at hv
    · rename_i hle
      rw [force_eq] at hv
      have hle := Nat.le_of_ble_eq_true hle
      exact ⟨_, _, hv, mkAgg_rep (hr.take sz), h1 rfl (by rw [← hr.len]; exact hle)⟩
    · exact hv.elim
  | false =>
    simp only [] at hv
    cases hr with
    | nil => exact hv.elim
    | cons v x vs xs hx hs => simp only [force_eq] at hv; exact ⟨v, x, hv, hx, h2 rfl x xs rfl⟩

section ops
variable {P : Program} {o : Oper} {e : Env} {s : Store} {K : AV → Store → Prop} {w : World} {g : G} {σ : St} {a : Act} {T : Nat → Prop} {N : Prop}

theorem ok_move {x : Operand} (ho : o.op = .move x ∨ o.op = .assign x) (h : force (ev e x) fun v => K v s) (c : Cx w g σ s T N) (he : EnvR w g σ e a.tmps) : OpOk P o a w (Rs w g σ s T K) := by
  rw [force_eq] at h
  refine .value (v := a.eval x) (w' := w) ?_ (.pure c h (ev_rep he x))
  rcases ho with ho | ho <;> simp [execOp, ho]

theorem ok_pick {x y z : Operand} (ho : o.op = .pick x y z) (h : aop P (.pick x y z) e s K) (c : Cx w g σ s T N) (he : EnvR w g σ e a.tmps) : OpOk P o a w (Rs w g σ s T K) := by
  simp only [aop] at h
  split at h
  · rename_i t ht
    have hc := ev_rep he x
    rw [ht] at hc
    have hx := hc.inv_bool
    unfold Br at h
    refine .value (v := if t then a.eval y else a.eval z) (w' := w) ?_ ?_
    · simp [execOp, ho, hx, asBool]
    · cases t
      · have := h.2 rfl; rw [force_eq] at this; exact .pure c this (ev_rep he z)
      · have := h.1 rfl; rw [force_eq] at this; exact .pure c this (ev_rep he y)
  · exact h.elim

theorem tagT_eq {t u : Nat} (h : tagT P t = some u) : u = t := by
  unfold tagT at h
  split at h
  · split at h
    · split at h
      · split at h
        · cases h; rfl
        · cases h
      · cases h
    · cases h
  · cases h
theorem ones_flat : ∀ {xs : List PV}, xs.all PV.one = true → flat xs = xs ∧ ∀ x, x ∈ xs → El 1 x
  | [], _ => ⟨rfl, by simp⟩
  | x :: r, h => by
    simp only [List.all_cons, Bool.and_eq_true] at h
    have hx : x.cells = [x] := by
      have := h.1
      cases x <;> first | rfl | (simp [PV.one] at this)
    obtain ⟨h1, h2⟩ := ones_flat h.2
    refine ⟨?_, fun y hy => ?_⟩
    · show x.cells ++ flat r = _
      rw [h1, hx]; rfl
    · rcases List.mem_cons.1 hy with rfl | hy
      · exact ⟨by rw [hx]; rfl, by rw [hx]; simp [h.1]⟩
      · exact h2 y hy

theorem ok_alloc {t : Nat} (ho : o.op = .alloc t) (h : aop P (.alloc t) e s K) (hN : ∀ v s', K v s' → s.length < s'.length → N) (c : Cx w g σ s T N) : OpOk P o a w (Rs w g σ s T K) := by
  simp only [aop] at h
  split at h
  · rename_i z hz
    simp only [snoc_eq] at h
    unfold zeroT at hz
    split at hz
    · rename_i i hi
      split at hz
      · rename_i v hv
        have hr : RepA w g σ (.p z) v := .p _ _ ((absP_rep w _ 200).1 v z hz)
        have hcells : RepAs w g σ (AV.cells (.p z)) v.cells.toList := by
          cases hr.inv_p <;> first
            | exact .cons _ _ _ _ hr .nil
            | (rename_i cs a hs; simpa [AV.cells, Value.cells] using hs.repAs)
            | (rename_i hl; have : v.cells = #[v] := by cases v <;> first | rfl | exact hl.elim
               rw [this]; exact .cons _ _ _ _ hr .nil)
        have hzc : RepPs w (Lv g σ) z.cells v.cells.toList := by
          have hp := hr.inv_p
          cases hp with
          | agg cs a hs => simpa [PV.cells, Value.cells] using hs
          | lit _ hl =>
            have : v.cells = #[v] := by cases v <;> first | rfl | exact hl.elim
            rw [this]; exact .cons _ _ _ _ hr.inv_p .nil
          | _ => exact .cons _ _ _ _ hr.inv_p .nil
        have m := More.alloc w (.cells v.cells t (0, 0))
        have hsh : (w.alloc (.cells v.cells t (0, 0))).shape? w.heap.size = some (t, v.cells.size) := by unfold World.shape?; rw [m.at]
        have fin1 : ∀ ty, (∀ u, ty = some u → u = t) → K (.ref s.length 0) (s ++ [some (.cells (AV.cells (.p z)) ty)]) → OpOk P o a w (Rs w g σ s T K) := by
          intro ty hty h
          refine .value (v := .pointer (some ⟨w.heap.size, 0, none⟩)) (w' := w.alloc (.cells v.cells t (0, 0))) ?_ ?_
          · simp [execOp, ho, Instr.alloc, zeroValue, typeInfo, hi, hv, newVar, newRow]
          · have hn : N := hN _ _ h (by simp)
            refine Rs.new c m (o := .cells (AV.cells (.p z)) ty) (.cells _ ty v.cells.toList ((c.ext_new m _ hn).repAs hcells) ⟨t, by simpa using m.at⟩ (fun u hu => by rw [hty u hu]; exact ⟨_, hsh⟩)) ?_ h hn
            have := RepA.ref (w := w.alloc (.cells v.cells t (0, 0))) (g := g.new s.length w.heap.size) (σ := σ.put s.length (.cells (AV.cells (.p z)) ty)) s.length 0 (.inr rfl) (by simp [St.put])
            simpa [G.new] using this
        split at h
        · rename_i hone
          simp only [Bool.and_eq_true] at hone
          rcases h with h | h
          · exact fin1 _ (by simp) h
          · obtain ⟨hfl, hel⟩ := ones_flat hone.2
            refine .value (v := .pointer (some ⟨w.heap.size, 0, none⟩)) (w' := w.alloc (.cells v.cells t (0, 0))) ?_ ?_
            · simp [execOp, ho, Instr.alloc, zeroValue, typeInfo, hi, hv, newVar, newRow]
            · have hn : N := hN _ _ h (by simp)
              have hlen : z.cells.length = v.cells.toList.length := hzc.len
              refine Rs.new c m (o := .buf 1 z.cells) (.buf 1 z.cells v.cells.toList (by omega) hel (by omega) ?_ ⟨t, (0, 0), by simpa using m.at, .inl rfl⟩ _ (by simp)) ?_ h hn
              · rw [hfl, List.take_of_length_le (by omega)]
                exact (c.ext_new m _ hn).repPs hzc
              · have := RepA.eptr (w := w.alloc (.cells v.cells t (0, 0))) (g := g.new s.length w.heap.size) (σ := σ.put s.length (.buf 1 z.cells)) s.length z.cells.length 0 0 ⟨w.heap.size, 0, none⟩ (.inr rfl) (by simp [St.put]) (by simp [St.put, G.new])
                exact this
        · exact fin1 _ (fun u hu => tagT_eq hu) h
      · cases hz
    · cases hz
  · exact h.elim

theorem ok_box {t : Nat} {x : Operand} (ho : o.op = .box t x) (h : aop P (.box t x) e s K) (hN : ∀ v s', K v s' → s.length < s'.length → N) (c : Cx w g σ s T N) (he : EnvR w g σ e a.tmps) : OpOk P o a w (Rs w g σ s T K) := by
  simp only [aop] at h
  split at h
  · rename_i hne
    rw [snoc_eq] at h
    have hcells := cells_rep (ev_rep he x) hne
    have m := More.alloc w (.cells (a.eval x).cells t (0, 0))
    refine .value (v := .pointer (some ⟨w.heap.size, 0, none⟩)) (w' := w.alloc (.cells (a.eval x).cells t (0, 0))) ?_ ?_
    · simp [execOp, ho, Instr.box, newVar, newRow]
    · have hn : N := hN _ _ h (by simp)
      refine Rs.new c m (o := .cells (ev e x).cells) (.cells _ _ (a.eval x).cells.toList ((c.ext_new m _ hn).repAs hcells) ⟨t, by simpa using m.at⟩ (by simp)) ?_ h hn
      have := RepA.ref (w := w.alloc (.cells (a.eval x).cells t (0, 0))) (g := g.new s.length w.heap.size) (σ := σ.put s.length (.cells (ev e x).cells)) s.length 0 (.inr rfl) (by simp [St.put])
      simpa [G.new] using this
  · exact h.elim

/-! ### Loads -/
/-- The cells of a tree, as a list of values. -/
theorem CellsP.values : ∀ {cs : List PV} {b off : Nat}, CellsP w (Lv g σ) b off cs → ∃ ys, RepPs w (Lv g σ) cs ys ∧ ∀ j y, ys[j]? = some y → w.cell? ⟨b, off + j, none⟩ = some y := by
  intro cs
  induction cs with
  | nil => intro b off _; exact ⟨[], .nil, fun j y hj => by simp at hj⟩
  | cons v vs ih =>
    intro b off hc
    cases hc with
    | cons _ _ _ x _ hx0 hr hs =>
      obtain ⟨ys, h1, h2⟩ := ih hs
      refine ⟨x :: ys, .cons _ _ _ _ hr h1, fun j y hj => ?_⟩
      cases j with
      | zero => simp at hj; subst hj; exact hx0
      | succ j => have := h2 j y (by simpa using hj); rw [show off + (j + 1) = off + 1 + j by omega]; exact this

theorem flat_drop {sz : Nat} : ∀ {es : List PV} {i : Nat} {y : PV}, (∀ x, x ∈ es → El sz x) → es[i]? = some y → (flat es).drop (i * sz) = y.cells ++ flat (es.drop (i + 1))
  | [], _, _, _, h => by simp at h
  | e :: es, 0, y, hs, h => by simp at h; subst h; simp [flat]
  | e :: es, i + 1, y, hs, h => by
    have h1 := flat_drop (es := es) (i := i) (y := y) (fun x hx => hs x (List.mem_cons_of_mem _ hx)) (by simpa using h)
    have h2 : (flat (e :: es)).drop ((i + 1) * sz) = (flat es).drop (i * sz) := by
      have := (hs e (by simp)).1
      rw [show (i + 1) * sz = e.cells.length + i * sz by rw [this]; rw [Nat.succ_mul]; omega]
      simp [flat, ← List.drop_drop]
    rw [h2, h1]; rfl

theorem flat_len {sz : Nat} : ∀ {es : List PV}, (∀ x, x ∈ es → El sz x) → (flat es).length = sz * es.length
  | [], _ => by simp [flat]
  | e :: es, hs => by
    have h1 := flat_len (es := es) (fun x hx => hs x (List.mem_cons_of_mem _ hx))
    have h2 := (hs e (by simp)).1
    show (e.cells ++ flat es).length = _
    rw [List.length_append, h1, h2, List.length_cons, Nat.mul_succ]; omega

theorem ok_load {t : Nat} {x : Operand} (ho : o.op = .load t x) (h : aop P (.load t x) e s K) (c : Cx w g σ s T N) (hT : ∀ id, id ∈ ids (ev e x) → T id) (he : EnvR w g σ e a.tmps) : OpOk P o a w (Rs w g σ s T K) := by
  simp only [aop, loadA] at h
  have hx := ev_rep he x
  have fin : ∀ {b off : Nat} {v : AV} {y : Value}, a.eval x = .pointer (some ⟨b, off, none⟩) → K v s → RepA w g σ v y → (loadVar t ⟨b, off, none⟩).run P w = .ok y w → OpOk P o a w (Rs w g σ s T K) := by
    intro b off v y hp hk hr hl
    refine .value (v := y) (w' := w) ?_ (.pure c hk hr)
    simp [execOp, ho, Instr.loadAt, Instr.sureAddr, hp, hl]
  split at h
  · exact h.elim
  · rename_i agg sz hkd
    split at h
    · rename_i id off hev
      rw [hev] at hx
      obtain ⟨hp, _, _⟩ := hx.inv_ref
      split at h
      · rename_i cs ty hg
        have hs : σ id = some (.cells cs ty) := (c.agree id (hT id (by rw [hev]; simp [ids, ids1]))).trans hg
        cases c.inv.repR hs (by simp) with
        | cells _ _ xs hcs hare hty =>
          have hflat := hare
          have hare := hare.are
          obtain ⟨v, y, h1, h2, h3⟩ := valK_load hkd (hcs.drop off) (fun j y hj => by
            rw [cell_of_are hare]; simpa using hj) h
          exact fin hp h1 h2 h3
      · exact h.elim
    · rename_i cs hev
      rw [hev] at hx
      obtain ⟨b, off, hp, hc, _⟩ := hx.inv_pto
      obtain ⟨ys, h1, h2⟩ := hc.values
      obtain ⟨v, y, k1, k2, k3⟩ := valK_load hkd h1.repAs h2 h
      exact fin hp k1 k2 k3
    · rename_i id tot i sub hev
      rw [hev] at hx
      split at h
      · rename_i sz' xs ty hg
        have hs : σ id = some (.buf sz' xs ty) := (c.agree id (hT id (by rw [hev]; simp [ids, ids1]))).trans hg
        unfold Ob Idx at h
        obtain ⟨htot, _, y, hy, hval⟩ := h
        have hp := hx.inv_eptr hs htot
        have hne : xs ≠ [] := fun q => by rw [q] at hy; simp at hy
        cases c.inv.repR hs (by simp [hne]) with
        | buf _ _ ys hz hsz hn hr hare =>
          have hd := flat_drop hsz (by simpa using hy : xs[i]? = some y)
          have hr2 := (hr.drop (i * sz' + sub)).take (y.cells.drop sub).length
          have e1 : ((flat xs).drop (i * sz' + sub)).take (y.cells.drop sub).length = y.cells.drop sub := by
            rw [← List.drop_drop, hd]
            by_cases hle : sub ≤ y.cells.length
            · rw [List.drop_append_of_le_length hle, List.take_left']; rfl
            · have : y.cells.drop sub = [] := List.drop_eq_nil_of_le (by omega)
              simp [this]
          rw [e1] at hr2
          obtain ⟨v, z, k1, k2, k3⟩ := valK_load (b := g.ι id) (off := i * sz' + sub) hkd hr2.repAs (fun j z hj => by
            rw [cell_of_are hare]
            rw [List.getElem?_take] at hj
            split at hj
            · rw [List.getElem?_drop, List.getElem?_take] at hj
              split at hj
              · exact hj
              · cases hj
            · cases hj) hval
          exact fin hp k1 k2 k3
      · exact h.elim
    · exact h.elim
end ops

/-! ### Stores -/
/-- Block b alone has turned, and bears other cells now. -/
structure Turned (w w' : World) (b : Nat) : Prop where
  size : w'.heap.size = w.heap.size
  os : w'.os = w.os
  tape : w'.tape = w.tape
  output : w'.output = w.output
  other : ∀ k, k ≠ b → w'.heap[k]? = w.heap[k]?
  shape : w'.shape? b = w.shape? b
  drawn : w.drawn ≤ w'.drawn

theorem Turned.refl (w : World) (b : Nat) : Turned w w b := ⟨rfl, rfl, rfl, rfl, fun _ _ => rfl, rfl, Nat.le_refl _⟩
theorem Turned.trans {w w' w'' : World} {b : Nat} (h : Turned w w' b) (k : Turned w' w'' b) : Turned w w'' b :=
  ⟨k.size.trans h.size, k.os.trans h.os, k.tape.trans h.tape, k.output.trans h.output, fun i hi => (k.other i hi).trans (h.other i hi), k.shape.trans h.shape, Nat.le_trans h.drawn k.drawn⟩

theorem setCell_are {w : World} {b off : Nat} {xs : List Value} (h : cellsAre w b xs) (v : Value) (_hlt : off < xs.length) :
    cellsAre (w.setCell ⟨b, off, none⟩ v) b (xs.set off v) ∧ Turned w (w.setCell ⟨b, off, none⟩ v) b := by
  obtain ⟨e, f, h1, h2⟩ := h
  have h3 : (w.setCell ⟨b, off, none⟩ v).heap[b]? = some (.cells (xs.set off v).toArray e f) := by
    simp [World.setCell, Array.getElem?_modify, h1]
  refine ⟨⟨e, f, h3, by simpa using h2⟩, by simp [World.setCell], rfl, rfl, rfl, fun k hk => ?_, ?_, Nat.le_refl _⟩
  · simp only [World.setCell, Array.getElem?_modify]; rw [if_neg (by omega)]
  · simp [World.shape?, h3, h1]

def spliceV (xs : List Value) (off : Nat) (vs : List Value) : List Value := xs.take off ++ vs ++ xs.drop (off + vs.length)

theorem run_storeCells {P : Program} {b : Nat} (vs : List Value) : ∀ {w : World} {off i : Nat} {xs : List Value}, cellsAre w b xs → off + i + vs.length ≤ xs.length → (∀ v ∈ vs, v.oneCell' = true) →
    ∃ w', (storeCells ⟨b, off, none⟩ vs i).run P w = .ok () w' ∧ cellsAre w' b (spliceV xs (off + i) vs) ∧ Turned w w' b := by
  induction vs with
  | nil =>
    intro w off i xs h _ _
    exact ⟨w, rfl, by simpa [spliceV] using h, .refl w b⟩
  | cons v r ih =>
    intro w off i xs h hl hv
    have hlt : off + i < xs.length := by simp at hl; omega
    obtain ⟨h1, h2⟩ := setCell_are h v hlt
    obtain ⟨w', k1, k2, k3⟩ := ih (w := w.setCell ⟨b, off + i, none⟩ v) (off := off) (i := i + 1) h1 (by simp at hl ⊢; omega) (fun x hx => hv x (List.mem_cons_of_mem _ hx))
    refine ⟨w', ?_, ?_, h2.trans k3⟩
    · have hc : w.cell? ⟨b, off + i, none⟩ = some xs[off + i] := by rw [cell_of_are h]; simp [hlt]
      have hf := frozen_of_are h hlt
      unfold storeCells
      simp only [add_addr, Sem.run_bind, run_store P w _ v .plain (hv v (by simp)), hc, hf, Bool.false_eq_true, if_false, Result.andThen_ok]
      exact k1
    · have : spliceV xs (off + i) (v :: r) = spliceV (xs.set (off + i) v) (off + (i + 1)) r := by
        unfold spliceV
        rw [List.drop_set_of_lt (by omega), show off + (i + 1) = off + i + 1 by omega, List.take_succ_eq_append_getElem (by simpa using hlt)]
        simp only [List.getElem_set_self, List.take_set_of_le (Nat.le_refl _), List.append_assoc, List.cons_append, List.nil_append, List.length_cons]
        rw [show off + i + (r.length + 1) = off + i + 1 + r.length by omega]
      rw [this]; exact k2

theorem setCell_flat {w : World} {b off : Nat} {xs : List Value} (h : cellsFlat w b xs) (v : Value) (hlt : off < xs.length) :
    cellsFlat (w.setCell ⟨b, off, none⟩ v) b (xs.set off v) ∧ Turned w (w.setCell ⟨b, off, none⟩ v) b := by
  refine ⟨?_, (setCell_are h.are v hlt).2⟩
  obtain ⟨e, h1⟩ := h
  exact ⟨e, by simp [World.setCell, Array.getElem?_modify, h1]⟩
theorem run_storeCells_flat {P : Program} {b : Nat} (vs : List Value) : ∀ {w : World} {off i : Nat} {xs : List Value}, cellsFlat w b xs → off + i + vs.length ≤ xs.length → (∀ v ∈ vs, v.oneCell' = true) →
    ∃ w', (storeCells ⟨b, off, none⟩ vs i).run P w = .ok () w' ∧ cellsFlat w' b (spliceV xs (off + i) vs) ∧ Turned w w' b := by
  induction vs with
  | nil =>
    intro w off i xs h _ _
    exact ⟨w, rfl, by simpa [spliceV] using h, .refl w b⟩
  | cons v r ih =>
    intro w off i xs h hl hv
    have hlt : off + i < xs.length := by simp at hl; omega
    obtain ⟨h1, h2⟩ := setCell_flat h v hlt
    obtain ⟨w', k1, k2, k3⟩ := ih (w := w.setCell ⟨b, off + i, none⟩ v) (off := off) (i := i + 1) h1 (by simp at hl ⊢; omega) (fun x hx => hv x (List.mem_cons_of_mem _ hx))
    refine ⟨w', ?_, ?_, h2.trans k3⟩
    · have hc : w.cell? ⟨b, off + i, none⟩ = some xs[off + i] := by rw [cell_of_are h.are]; simp [hlt]
      have hf := frozen_of_are h.are hlt
      unfold storeCells
      simp only [add_addr, Sem.run_bind, run_store P w _ v .plain (hv v (by simp)), hc, hf, Bool.false_eq_true, if_false, Result.andThen_ok]
      exact k1
    · have : spliceV xs (off + i) (v :: r) = spliceV (xs.set (off + i) v) (off + (i + 1)) r := by
        unfold spliceV
        rw [List.drop_set_of_lt (by omega), show off + (i + 1) = off + i + 1 by omega, List.take_succ_eq_append_getElem (by simpa using hlt)]
        simp only [List.getElem_set_self, List.take_set_of_le (Nat.le_refl _), List.append_assoc, List.cons_append, List.nil_append, List.length_cons]
        rw [show off + i + (r.length + 1) = off + i + 1 + r.length by omega]
      rw [this]; exact k2

theorem splice_rep {w : World} {g : G} {σ : St} {cs vs : List AV} {xs ys : List Value} (h : RepAs w g σ cs xs) (k : RepAs w g σ vs ys) (off : Nat) : RepAs w g σ (splice cs off vs) (spliceV xs off ys) := by
  unfold splice spliceV
  rw [k.len]
  exact ((h.take off).append k).append (h.drop _)

theorem oneCell_rep {w : World} {g : G} {σ : St} {v : AV} {x : Value} (h : RepA w g σ v x) (hv : v.oneCell = true) : x.oneCell' = true := by
  cases h with
  | p v x hp => cases hp with
    | agg => simp [AV.oneCell] at hv
    | lit _ hl => cases x <;> first | rfl | exact hl.elim
    | _ => rfl
  | agg => simp [AV.oneCell] at hv
  | tup => simp [AV.oneCell] at hv
  | undef => simp [AV.oneCell] at hv
  | osl _ _ _ _ _ _ hx => obtain ⟨q, cap, rfl, _⟩ := hx; rfl
  | _ => rfl
theorem oneCells_rep {w : World} {g : G} {σ : St} : ∀ {vs : List AV} {xs : List Value}, RepAs w g σ vs xs → vs.all AV.oneCell = true → ∀ x ∈ xs, x.oneCell' = true
  | _, _, .nil, _, x, hx => by cases hx
  | _, _, .cons v y vs ys h hs, hall, x, hx => by
    simp only [List.all_cons, Bool.and_eq_true] at hall
    rcases List.mem_cons.1 hx with rfl | hx
    · exact oneCell_rep h hall.1
    · exact oneCells_rep hs hall.2 x hx

theorem getO_set (s : Store) (id : Nat) (o : Option AObj) (j : Nat) (h : id < s.length) : getO (s.set id o) j = if j = id then o else getO s j := by
  unfold getO
  by_cases hj : j = id
  · subst hj; simp [h]
  · rw [List.getElem?_set_ne (by omega), if_neg hj]

theorem Cx.ovr_set {w g σ s T} {N : Prop} (c : Cx w g σ s T N) {id : Nat} (hT : T id) (hl : id < s.length) (o : Option AObj) : ovr T s (s.set id o) σ = fun i => if i = id then o else σ i := by
  funext i
  unfold ovr
  rw [getO_set s id o i hl]
  by_cases hi : i = id
  · subst hi; simp [hT]
  · simp only [if_neg hi]
    split
    · rename_i h
      rcases h with h | h
      · exact (c.agree i h).symm
      · simp at h; omega
    · rfl

/-- An object is turned: its block bears other cells. -/
theorem Rs.set {w g σ s T} {N : Prop} {K : AV → Store → Prop} {x : Value} {v : AV} (c : Cx w g σ s T N) {w' : World} {id : Nat} {o o' : AObj} (hT : T id) (hs : getO s id = some o) (hR : g.R id) (hkind : sameKind o o')
    (m : Turned w w' (g.ι id)) (hO : Ext w g σ w' g (σ.put id o') → RepO w' g (σ.put id o') (g.ι id) o') (hv : Ext w g σ w' g (σ.put id o') → RepA w' g (σ.put id o') v x) (hk : K v (s.set id (some o'))) : Rs w g σ s T K x w' := by
  have hσ : σ id = some o := (c.agree id hT).trans hs
  have hl : id < s.length := getO_lt hs
  have hov : ovr T s (s.set id (some o')) σ = σ.put id o' := c.ovr_set hT hl _
  have hsome : ∀ i, σ.put id o' i ≠ none → σ i ≠ none := fun i h => by
    by_cases hi : i = id
    · subst hi; rw [hσ]; simp
    · simpa [St.put, hi] using h
  have hext : Ext w g σ w' g (σ.put id o') := {
    size := by rw [m.size]; exact Nat.le_refl _
    os := m.os
    tape := m.tape
    output := m.output
    frame := fun b hb ho => m.other b (fun e => ho ⟨id, by rw [hσ]; simp, hR, e.symm⟩)
    shape := fun b hb => by
      by_cases hbi : b = g.ι id
      · rw [hbi]; exact m.shape
      · exact shape_same (m.other b hbi)
    X := rfl
    C := fun _ h => h
    own := fun b hb ⟨i, h1, hr, h2⟩ => ⟨i, hsome i h1, hr, h2⟩
    obj := fun i hc oo ho => by
      by_cases hi : i = id
      · subst hi; simp [St.put] at ho; subst ho; exact ⟨o, hσ, hkind⟩
      · simp [St.put, hi] at ho; exact ⟨oo, ho, .refl _⟩
    ι1 := fun _ _ _ => ⟨rfl, .rfl⟩
    ι2 := fun _ _ _ _ _ _ _ _ _ _ => ⟨rfl, .rfl⟩
    drawn := m.drawn }
  refine ⟨v, s.set id (some o'), g, hk, by simp, fun i hi hlt => ?_, ?_, ?_, ?_, fun i h => .inl h⟩
  · rw [getO_set s id _ i hl, if_neg (fun (e : i = id) => hi (by rw [e]; exact hT))]
  · rw [hov]; exact hv hext
  · rw [hov]
    refine ⟨fun i oo h => ?_, fun i oo h hr => ?_, fun b hb => by rw [m.size]; exact c.inv.xlt b hb, fun i j h k ri rj hij => c.inv.inj i j (hsome i h) (hsome j k) ri rj hij, fun i oo h hr => ?_, fun i oo h hr => ?_⟩
    · obtain ⟨o2, ho2⟩ := Option.ne_none_iff_exists'.1 (hsome i (by rw [h]; simp)); exact c.inv.made _ _ ho2
    · obtain ⟨o2, ho2⟩ := Option.ne_none_iff_exists'.1 (hsome i (by rw [h]; simp)); rw [m.size]; exact c.inv.lies _ _ ho2 hr
    · by_cases hi : i = id
      · subst hi; simp [St.put] at h; subst h; exact hO hext
      · simp [St.put, hi] at h
        refine hext.repO (m.other _ (fun e => hi ?_)) (c.inv.rep _ _ h hr)
        exact c.inv.inj _ _ (by rw [h]; simp) (by rw [hσ]; simp) hr hR e
    · by_cases hi : i = id
      · subst hi; exact absurd hR hr
      · simp [St.put, hi] at h
        exact c.inv.void _ _ h hr
  · rw [hov]; exact hext

section ops
variable {P : Program} {o : Oper} {e : Env} {s : Store} {K : AV → Store → Prop} {w : World} {g : G} {σ : St} {a : Act} {T : Nat → Prop} {N : Prop}

theorem pcells {B : Nat → Prop} {y : PV} {v : Value} (h : RepP w B y v) : RepPs w B y.cells v.cells.toList := by
  cases h with
  | agg cs a hs => simpa [PV.cells, Value.cells] using hs
  | lit _ hl =>
    have : v.cells = #[v] := by cases v <;> first | rfl | exact hl.elim
    rw [this]; exact .cons _ _ _ _ (.lit _ hl) .nil
  | bool b => exact .cons _ _ _ _ (.bool b) .nil
  | int k n => exact .cons _ _ _ _ (.int k n) .nil
  | str x => exact .cons _ _ _ _ (.str x) .nil
  | iface t v x h => exact .cons _ _ _ _ (.iface t v x h) .nil
  | nil k sz => exact .cons _ _ _ _ (.nil k sz) .nil
  | spt k sz a hk => exact .cons _ _ _ _ (.spt k sz a hk) .nil
  | sl k sz xs b off cap hk hc hl hs hb h => exact .cons _ _ _ _ (.sl k sz xs b off cap hk hc hl hs hb h) .nil
  | pto cs b off hb h => exact .cons _ _ _ _ (.pto cs b off hb h) .nil

theorem flat_set {sz : Nat} {y : PV} (hy : y.cells.length = sz) : ∀ {xs : List PV} {i : Nat}, (∀ x, x ∈ xs → El sz x) → i < xs.length → flat (xs.set i y) = (flat xs).take (i * sz) ++ y.cells ++ (flat xs).drop (i * sz + sz)
  | x :: r, 0, h, _ => by
    have hx := (h x (by simp)).1
    show y.cells ++ flat r = _
    have : flat (x :: r) = x.cells ++ flat r := rfl
    rw [this, Nat.zero_mul, Nat.zero_add, List.take_zero, List.nil_append, List.drop_left' hx]
  | x :: r, i + 1, h, hi => by
    have hx := (h x (by simp)).1
    have ih := flat_set hy (xs := r) (i := i) (fun z hz => h z (by simp [hz])) (by simpa using hi)
    show x.cells ++ flat (r.set i y) = _
    have : flat (x :: r) = x.cells ++ flat r := rfl
    rw [this, ih]
    have e1 : (i + 1) * sz = x.cells.length + i * sz := by rw [Nat.add_mul, hx]; omega
    rw [e1, List.take_length_add_append, Nat.add_assoc, List.drop_length_add_append]
    simp only [List.append_assoc]

theorem take_splice {xs ys : List Value} {o n : Nat} (h1 : o + ys.length ≤ n) (h2 : n ≤ xs.length) : (spliceV xs o ys).take n = (xs.take n).take o ++ ys ++ (xs.take n).drop (o + ys.length) := by
  unfold spliceV
  have e1 : (xs.take o).length = o := by rw [List.length_take]; omega
  have e2 : (xs.take o ++ ys).length = o + ys.length := by rw [List.length_append, e1]
  rw [List.take_append, List.take_of_length_le (show (xs.take o ++ ys).length ≤ n by omega), e2, List.drop_take, List.take_take, Nat.min_eq_left (show o ≤ n by omega)]

theorem flat_set_sub {bz sub : Nat} {x : PV} {c xs : List PV} {i : Nat} (hs : ∀ z, z ∈ xs → El bz z) (hx : xs[i]? = some x) (hb : sub + c.length ≤ bz) :
    flat (xs.set i (.agg (splP x.cells sub c))) = (flat xs).take (i * bz + sub) ++ c ++ (flat xs).drop (i * bz + sub + c.length) := by
  obtain ⟨hi, hxi⟩ := List.getElem?_eq_some_iff.1 hx
  have hxl : x.cells.length = bz := (hs x (by rw [← hxi]; exact List.getElem_mem _)).1
  have hl : (PV.agg (splP x.cells sub c)).cells.length = bz := by
    show (splP x.cells sub c).length = bz
    unfold splP
    simp only [List.length_append, List.length_take, List.length_drop]
    omega
  have hd := flat_drop hs hx
  have hdr : (flat xs).drop (i * bz + bz) = flat (xs.drop (i + 1)) := by
    rw [← List.drop_drop, hd, List.drop_left' hxl]
  have hd2 : (flat xs).drop (i * bz + sub + c.length) = x.cells.drop (sub + c.length) ++ flat (xs.drop (i + 1)) := by
    rw [Nat.add_assoc, ← List.drop_drop, hd, List.drop_append_of_le_length (by omega)]
  rw [flat_set hl hs hi, hdr, hd2, List.take_add, hd, List.take_append_of_le_length (by omega)]
  show (flat xs).take (i * bz) ++ (x.cells.take sub ++ c ++ x.cells.drop (sub + c.length)) ++ _ = _
  simp only [List.append_assoc]
theorem splP_one {l c : List PV} {o : Nat} (hl : l.all PV.one = true) (hc : c.all PV.one = true) : (splP l o c).all PV.one = true := by
  unfold splP
  rw [List.all_append, List.all_append, hc]
  simp only [Bool.and_true, Bool.and_eq_true, List.all_eq_true] at *
  exact ⟨fun x hx => hl x (List.mem_of_mem_take hx), fun x hx => hl x (List.mem_of_mem_drop hx)⟩

theorem ok_storeA {t : Nat} {x y : Operand} {fx fy : Unit → AV} (ho : o.op = .store t x y) (h : storeA P t (fx ()) (fy ()) s fun s' => K .undef s') (c : Cx w g σ s T N) (hT : ∀ id, id ∈ ids (fx ()) → T id) (hx : RepA w g σ (fx ()) (a.eval x)) (hy : RepA w g σ (fy ()) (a.eval y)) : OpOk P o a w (Rs w g σ s T K) := by
  simp only [storeA] at h
  split at h
  · exact h.elim
  · rename_i agg sz hkd
    split at h
    · rename_i id off hev
      rw [hev] at hx
      obtain ⟨hp, _, _⟩ := hx.inv_ref
      split at h
      · rename_i cs ty hg
        rw [normK_eq, setK_eq] at h
        unfold Ob at h
        obtain ⟨⟨hsz, hle, hone⟩, hk⟩ := h
        have hTi : T id := hT id (by rw [hev]; simp [ids, ids1])
        have hs : σ id = some (.cells cs ty) := (c.agree id hTi).trans hg
        have hcells := cells_rep hy hone
        cases c.inv.repR hs (by simp) with
        | cells _ _ xs hcs hare hty =>
          have hflat := hare
          have hare := hare.are
          obtain ⟨w', k1, k2, k3⟩ := run_storeCells_flat (P := P) (a.eval y).cells.toList (off := off) (i := 0) hflat (by rw [← hcs.len, ← hcells.len]; omega) (oneCells_rep hcells hone)
          refine .skip (w' := w') ?_ ?_
          · have hsize : (a.eval y).cells.size = sz := by rw [← hsz, hcells.len]; simp
            unfold kd at hkd
            split at hkd
            · rename_i d i hd hi
              cases hkd
              simp [execOp, ho, Instr.storeAt, Instr.sureAddr, hp, storeVar, sizeOf, typeInfo, hi, hsize, k1]
            · cases hkd
          · refine Rs.set c hTi hg (c.inv.real hs (by simp)) (o' := .cells (splice cs off (fy ()).cells) ty) ?_ k3 (fun hx => ?_) (fun _ => .undef _) hk
            · simp [sameKind, splice]; omega
            · exact .cells _ _ _ (hx.repAs (splice_rep hcs hcells off)) (by simpa using k2) (fun u hu => by obtain ⟨n, hn⟩ := hty u hu; exact ⟨n, k3.shape.trans hn⟩)
      · exact h.elim
    · rename_i id tot i sub hev
      rw [hev] at hx
      split at h
      · rename_i bz xs ty z hg hyv
        rw [hyv] at hy
        obtain ⟨sb, hsb⟩ : ∃ sb, sb = sub := ⟨_, rfl⟩
        split at h
        · rename_i hbz hzc
          have hbz := Nat.eq_of_beq_eq_true hbz
          subst hbz
          simp only [Bool.and_eq_true] at hzc
          have hzl := Nat.eq_of_beq_eq_true hzc.1
          rw [setK_eq] at h
          unfold Ob at h
          obtain ⟨⟨htot, hi⟩, hk⟩ := h
          have hTi : T id := hT id (by rw [hev]; simp [ids, ids1])
          have hs : σ id = some (.buf bz xs ty) := (c.agree id hTi).trans hg
          have hp := hx.inv_eptr hs htot
          have hpc := pcells hy.inv_p
          have hone : (AV.p z).cells.all AV.oneCell = true := by
            have h2 := hzc.2
            cases z with
            | agg cs =>
              have h3 : cs.all PV.one = true := h2
              show (cs.map AV.p).all AV.oneCell = true
              rw [List.all_map]
              refine List.all_eq_true.2 fun q hq => ?_
              have := List.all_eq_true.1 h3 q hq
              cases q <;> first | rfl | (simp [PV.one] at this)
            | _ => rfl
          have hcells := cells_rep hy hone
          have hne : xs ≠ [] := fun q => by rw [q] at htot; simp at htot; omega
          cases c.inv.repR hs (by simp [hne]) with
          | buf _ _ vs hz hsz hn hr hare _ hty =>
            have hlt : i * bz + bz ≤ bz * xs.length := by
              have : (i + 1) * bz ≤ xs.length * bz := Nat.mul_le_mul_right _ (by omega)
              rw [Nat.add_mul] at this
              rw [Nat.mul_comm bz]; omega
            have hyl : (a.eval y).cells.toList.length = bz := by rw [← hpc.len]; exact hzl
            obtain ⟨w', k1, k2, k3⟩ := run_storeCells (P := P) (a.eval y).cells.toList (off := i * bz) (i := 0) hare (by rw [hyl]; omega) (oneCells_rep hcells hone)
            refine .skip (w' := w') ?_ ?_
            · have hsize : (a.eval y).cells.size = bz := by simpa using hyl
              unfold kd at hkd
              split at hkd
              · rename_i d i' hd hi'
                cases hkd
                simp [execOp, ho, Instr.storeAt, Instr.sureAddr, hp, storeVar, sizeOf, typeInfo, hi', hsize, k1]
              · cases hkd
            · refine Rs.set c hTi hg (c.inv.real hs (by simp [hne])) (o' := .buf bz (xs.set i z) ty) ⟨rfl, by simp, rfl⟩ k3 (fun hx' => ?_) (fun _ => .undef _) hk
              refine .buf _ _ _ hz (fun q hq => ?_) ?_ ?_ (by simpa using k2) _ (fun u hu => by obtain ⟨n, hn⟩ := hty u hu; exact ⟨n, k3.shape.trans hn⟩)
              · rcases List.mem_or_eq_of_mem_set hq with h | rfl
                · exact hsz q h
                · exact ⟨hzl, hzc.2⟩
              · rw [List.length_set]
                show _ ≤ (spliceV vs (i * bz) (a.eval y).cells.toList).length
                unfold spliceV
                simp only [List.length_append, List.length_take, List.length_drop, hyl]
                omega
              · rw [List.length_set, flat_set hzl hsz (by omega), take_splice (by rw [hyl]; exact hlt) hn, hyl]
                exact hx'.repPs (((hr.take (i * bz)).append hpc).append (hr.drop (i * bz + bz)))
        · rename_i hbz hzc
          subst hsb
          simp only [Bool.and_eq_true] at hzc
          have hzl := Nat.eq_of_beq_eq_true hzc.1
          unfold Ob Idx at h
          obtain ⟨⟨htot, hsub⟩, _, q, hq, hk⟩ := h
          rw [setK_eq] at hk
          rw [Int.toNat_natCast] at hq
          have hTi : T id := hT id (by rw [hev]; simp [ids, ids1])
          have hs : σ id = some (.buf bz xs ty) := (c.agree id hTi).trans hg
          have hp := hx.inv_eptr hs htot
          have hpc := pcells hy.inv_p
          have hone : (AV.p z).cells.all AV.oneCell = true := by
            have h2 := hzc.2
            cases z with
            | agg cs =>
              have h3 : cs.all PV.one = true := h2
              show (cs.map AV.p).all AV.oneCell = true
              rw [List.all_map]
              refine List.all_eq_true.2 fun q hq => ?_
              have := List.all_eq_true.1 h3 q hq
              cases q <;> first | rfl | (simp [PV.one] at this)
            | _ => rfl
          have hcells := cells_rep hy hone
          obtain ⟨hi, hqi⟩ := List.getElem?_eq_some_iff.1 hq
          have hne : xs ≠ [] := fun q => by rw [q] at hi; simp at hi
          cases c.inv.repR hs (by simp [hne]) with
          | buf _ _ vs hz hsz hn hr hare _ hty =>
            have hql := hsz q (by rw [← hqi]; exact List.getElem_mem _)
            have hlt : i * bz + bz ≤ bz * xs.length := by
              have : (i + 1) * bz ≤ xs.length * bz := Nat.mul_le_mul_right _ (by omega)
              rw [Nat.add_mul] at this
              rw [Nat.mul_comm bz]; omega
            have hyl : (a.eval y).cells.toList.length = sz := by rw [← hpc.len]; exact hzl
            obtain ⟨w', k1, k2, k3⟩ := run_storeCells (P := P) (a.eval y).cells.toList (off := i * bz + sb) (i := 0) hare (by rw [hyl]; omega) (oneCells_rep hcells hone)
            refine .skip (w' := w') ?_ ?_
            · have hsize : (a.eval y).cells.size = sz := by simpa using hyl
              unfold kd at hkd
              split at hkd
              · rename_i d i' hd hi'
                cases hkd
                simp [execOp, ho, Instr.storeAt, Instr.sureAddr, hp, storeVar, sizeOf, typeInfo, hi', hsize, k1]
              · cases hkd
            · refine Rs.set c hTi hg (c.inv.real hs (by simp [hne])) (o' := .buf bz (xs.set i (.agg (splP q.cells sb z.cells))) ty) ⟨rfl, by simp, rfl⟩ k3 (fun hx' => ?_) (fun _ => .undef _) hk
              refine .buf _ _ _ hz (fun v hv => ?_) ?_ ?_ (by simpa using k2) _ (fun u hu => by obtain ⟨n, hn⟩ := hty u hu; exact ⟨n, k3.shape.trans hn⟩)
              · rcases List.mem_or_eq_of_mem_set hv with h | rfl
                · exact hsz v h
                · refine ⟨?_, splP_one hql.2 hzc.2⟩
                  show (splP q.cells sb z.cells).length = bz
                  have := hql.1
                  unfold splP
                  simp only [List.length_append, List.length_take, List.length_drop]
                  omega
              · rw [List.length_set]
                show _ ≤ (spliceV vs (i * bz + sb) (a.eval y).cells.toList).length
                unfold spliceV
                simp only [List.length_append, List.length_take, List.length_drop, hyl]
                omega
              · rw [List.length_set, flat_set_sub hsz hq (by omega), take_splice (by rw [hyl]; omega) hn, hyl, hzl]
                exact hx'.repPs (((hr.take (i * bz + sb)).append hpc).append (hr.drop (i * bz + sb + sz)))
        · exact h.elim
      · exact h.elim
    · exact h.elim
end ops
end Go.Proofs.YtjhgmaephpadpaaGreat.AW

namespace Go.Proofs.YtjhgmaephpadpaaGreat.AW
set_option linter.unusedSimpArgs false
set_option linter.unusedVariables false
section ops
variable {P : Program} {o : Oper} {e : Env} {s : Store} {K : AV → Store → Prop} {w : World} {g : G} {σ : St} {a : Act} {T : Nat → Prop} {N : Prop}

theorem ok_nilCheck {x : Operand} (ho : o.op = .nilCheck x) (h : aop P (.nilCheck x) e s K) (c : Cx w g σ s T N) (he : EnvR w g σ e a.tmps) : OpOk P o a w (Rs w g σ s T K) := by
  simp only [aop] at h
  have hx := ev_rep he x
  have fin : ∀ v, ev e x = v → K v s → ((match a.eval x with | .pointer none | .nilIface | .nilFunc => False | .func _ _ _ => False | _ => True)) → OpOk P o a w (Rs w g σ s T K) := by
    intro v hv hk hn
    refine .value (v := a.eval x) (w' := w) ?_ (.pure c hk (hv ▸ hx))
    simp only [execOp, ho]
    generalize a.eval x = y at *
    cases y <;> first | rfl | exact hn.elim | (rename_i q; cases q <;> first | rfl | exact hn.elim)
  split at h
  · rename_i id off hev; exact fin _ hev h (by rw [hev] at hx; rw [hx.inv_ref.1]; trivial)
  · rename_i id tot i sub hev
    refine fin _ hev h ?_
    rw [hev] at hx
    generalize a.eval x = y at *
    cases hx; trivial
  · rename_i cs hev
    refine fin _ hev h ?_
    rw [hev] at hx
    obtain ⟨b, off, hp, _⟩ := hx.inv_pto
    rw [hp]; trivial
  · rename_i t v hev
    refine fin _ hev h ?_
    rw [hev] at hx
    generalize a.eval x = y at *
    cases hx; trivial
  · rename_i t v hev
    refine fin _ hev h ?_
    rw [hev] at hx
    generalize a.eval x = y at *
    cases hx.inv_p; trivial
  · exact h.elim

theorem ok_extract {x : Operand} {i : Nat} (ho : o.op = .extract x i) (h : aop P (.extract x i) e s K) (c : Cx w g σ s T N) (he : EnvR w g σ e a.tmps) : OpOk P o a w (Rs w g σ s T K) := by
  simp only [aop] at h
  have hx := ev_rep he x
  split at h
  · rename_i vs hev
    rw [hev] at hx
    obtain ⟨ys, hp, hr⟩ := hx.inv_tup
    split at h
    · rename_i v hv
      rw [force_eq] at h
      obtain ⟨y, hy, hry⟩ := hr.get hv
      refine .value (v := y) (w' := w) ?_ (.pure c h hry)
      simp [execOp, ho, Instr.extract, hp, hy]
    · exact h.elim
  · exact h.elim

theorem und {P : Program} {t : Nat} {d : TypeDesc} (h : dsc P t = d) (hd : d ≠ .invalid) : P.underlying t = some d := by
  unfold dsc at h
  cases hu : P.underlying t with
  | none => rw [hu] at h; exact absurd h.symm hd
  | some u => rw [hu] at h; simp at h; rw [h]

theorem ok_field {t f : Nat} {x : Operand} (ho : o.op = .field t x f) (h : aop P (.field t x f) e s K) (c : Cx w g σ s T N) (he : EnvR w g σ e a.tmps) : OpOk P o a w (Rs w g σ s T K) := by
  simp only [aop] at h
  have hx := ev_rep he x
  split at h
  · rename_i fd hf
    unfold fldT at hf
    split at hf
    · rename_i fs hd
      have hu := und hd (by simp)
      have key : ∀ {agg : Bool} {sz : Nat} {cs : List AV} {xs : List Value}, kd P fd.type = some (agg, sz) → a.eval x = .agg xs.toArray → RepAs w g σ cs xs → valK agg sz (cs.drop fd.offset) (fun v => K v s) → OpOk P o a w (Rs w g σ s T K) := by
        intro agg sz cs xs hk hp hr hv
        unfold kd at hk
        split at hk
        · rename_i d i hd' hi
          cases hk
          have hagg : (isAgg fd.type).run P w = .ok (aggD d) w := by
            simp [isAgg, underlying, hd']
            cases d <;> simp [aggD]
          have hr' := hr.drop fd.offset
          unfold valK at hv
          cases hb : aggD d with
          | true =>
            simp only [hb] at hv
            split at hv
            · rename_i hle
              rw [force_eq] at hv
              have hle := Nat.le_of_ble_eq_true hle
              have hm := mkAgg_rep (hr'.take i.size)
              refine .value (v := .agg ((xs.drop fd.offset).take i.size).toArray) (w' := w) ?_ (.pure c hv hm)
              simp [execOp, ho, Instr.field, underlying, hu, hf, part, hagg, hb, sizeOf, typeInfo, hi, asAgg, hp]
            · exact hv.elim
          | false =>
            simp only [hb] at hv
            split at hv
            · rename_i v r hcs
              rw [force_eq] at hv
              have h0 : (cs.drop fd.offset)[0]? = some v := by rw [hcs]; rfl
              obtain ⟨y, hy, hry⟩ := hr'.get h0
              refine .value (v := y) (w' := w) ?_ (.pure c hv hry)
              rw [List.getElem?_drop, Nat.add_zero] at hy
              simp [execOp, ho, Instr.field, underlying, hu, hf, part, hagg, hb, asAgg, hp, hy]
            · exact hv.elim
        · cases hk
      split at h
      · rename_i agg sz cs hk hev
        rw [hev] at hx
        obtain ⟨y, hy⟩ : ∃ y, a.eval x = y := ⟨_, rfl⟩
        rw [hy] at hx
        cases hx.inv_p with
        | agg _ xs hs => exact key hk hy hs.repAs (by simpa using h)
      · rename_i agg sz cs hk hev
        rw [hev] at hx
        obtain ⟨xs, hp, hr⟩ := hx.inv_agg
        exact key hk hp hr h
      · exact h.elim
    · cases hf
  · exact h.elim

theorem ok_makeFunc {fn : Fn} {first caps : Array Operand} (ho : o.op = .makeFunc fn first caps) (h : aop P (.makeFunc fn first caps) e s K) (c : Cx w g σ s T N) (he : EnvR w g σ e a.tmps) : OpOk P o a w (Rs w g σ s T K) := by
  cases fn <;> simp only [aop] at h <;> try exact h.elim
  rename_i f
  split at h
  · rename_i hf
    have hf : first = #[] := by cases first; simp_all
    refine .value (v := .func (.func f) #[] (caps.toList.map a.eval).toArray) (w' := w) ?_ (.pure c h (.clos f _ _ (evs_rep he _)))
    simp [execOp, ho, Instr.makeFunc, hf]
    rw [← Array.toList_map]
  · exact h.elim

theorem ok_unOp {op : UnOp} {t : Nat} {x : Operand} (ho : o.op = .unOp op t x) (h : aop P (.unOp op t x) e s K) (c : Cx w g σ s T N) (he : EnvR w g σ e a.tmps) : OpOk P o a w (Rs w g σ s T K) := by
  simp only [aop] at h
  have hx := ev_rep he x
  split at h
  · rename_i b hev
    rw [hev] at hx
    refine .value (v := .bool (!b)) (w' := w) ?_ (.pure c h (.mkBool _))
    simp [execOp, ho, Op.unary, hx.inv_bool]
  · rename_i k n hev
    rw [hev] at hx
    refine .value (v := .int k (k.wrap (0 - n))) (w' := w) ?_ (.pure c h (.mkInt _ _))
    simp [execOp, ho, Op.unary, hx.inv_int, Op.intArith]
  · rename_i k n hev
    rw [hev] at hx
    refine .value (v := .int k (bits .xor k (if k.signed then -1 else k.max) n)) (w' := w) ?_ (.pure c h (.mkInt _ _))
    simp [execOp, ho, Op.unary, hx.inv_int, Op.intBits, bits]
  · exact h.elim
end ops
end Go.Proofs.YtjhgmaephpadpaaGreat.AW

namespace Go.Proofs.YtjhgmaephpadpaaGreat.AW

set_option linter.unusedSimpArgs false
set_option linter.unusedVariables false
theorem i64max : IntKind.i64.max = 9223372036854775807 := by decide

theorem part_run {P : Program} {w : World} {t : Nat} {d : TypeDesc} {i : TypeInfo} (hd : P.underlying t = some d) (hi : P.info? t = some i) (xs : List Value) (off : Nat) :
    (aggD d = true → (part t xs.toArray off).run P w = .ok (.agg ((xs.drop off).take i.size).toArray) w) ∧
    (aggD d = false → ∀ x, xs[off]? = some x → (part t xs.toArray off).run P w = .ok x w) := by
  have hagg : (isAgg t).run P w = .ok (aggD d) w := by
    simp [isAgg, underlying, hd]
    cases d <;> simp [aggD]
  refine ⟨fun hb => ?_, fun hb x hx => ?_⟩
  · simp [part, hagg, hb, sizeOf, typeInfo, hi]
  · simp [part, hagg, hb, hx]

/-- A value of a type, out of its cells. -/
def valD (d : TypeDesc) (xs : List Value) : Option Value := match aggD d with | true => some (.agg xs.toArray) | false => xs.head?

theorem eqT_sound {P : Program} (w : World) (B : Nat → Prop) : ∀ d,
    (∀ t cs ds xs ys b D, eqT P d t cs ds = some b → eqTy P D t = true → RepPs w B cs xs → RepPs w B ds ys →
      ∀ dd, P.underlying t = some dd → ∃ x y, valD dd xs = some x ∧ valD dd ys = some y ∧ ∀ n, D ≤ n → (Op.equalIn n t x y).run P w = .ok b w) ∧
    (∀ fs cs ds xs ys b D, eqF P d fs cs ds = some b → fs.all (fun f => f.name != "_" && eqTy P D f.type) = true → RepPs w B cs xs → RepPs w B ds ys →
      ∀ n, D ≤ n → (Op.eqFields n xs.toArray ys.toArray fs).run P w = .ok b w) := by
  intro d
  induction d with
  | zero => exact ⟨fun t cs ds xs ys b D h => by simp [eqT] at h, fun fs cs ds xs ys b D h => by simp [eqF] at h⟩
  | succ d ih =>
    refine ⟨fun t cs ds xs ys b D h hty hx hy dd hdd => ?_, fun fs cs ds xs ys b D h hty hx hy n hn => ?_⟩
    · cases D with
      | zero => simp [eqTy] at hty
      | succ D =>
        simp only [eqT, hdd] at h
        cases dd <;> simp only [] at h <;> try (cases h)
        case bool =>
          split at h
          · cases h
            cases hx with | cons _ x _ xs hx hxs => cases hy with | cons _ y _ ys hy hys =>
            cases hx; cases hy
            refine ⟨_, _, rfl, rfl, fun n hn => ?_⟩
            obtain ⟨n, rfl⟩ : ∃ m, n = m + 1 := ⟨n - 1, by omega⟩
            exact run_equalIn_bool' w n t _ _ hdd
          · cases h
        case int k0 =>
          split at h
          · split at h
            · rename_i hk
              cases h
              have hk := of_decide_eq_true hk
              subst hk
              cases hx with | cons _ x _ xs hx hxs => cases hy with | cons _ y _ ys hy hys =>
              cases hx; cases hy
              refine ⟨_, _, rfl, rfl, fun n hn => ?_⟩
              obtain ⟨n, rfl⟩ : ∃ m, n = m + 1 := ⟨n - 1, by omega⟩
              exact run_equalIn_int w n t _ _ _ _ hdd
            · cases h
          · cases h
        case string =>
          split at h
          · cases h
            cases hx with | cons _ x _ xs hx hxs => cases hy with | cons _ y _ ys hy hys =>
            cases hx with | str x => cases hy with | str y =>
            refine ⟨_, _, rfl, rfl, fun n hn => ?_⟩
            obtain ⟨n, rfl⟩ : ∃ m, n = m + 1 := ⟨n - 1, by omega⟩
            rw [run_equalIn_string w n t _ _ hdd, ByteArray.toList_eq, ByteArray.toList_eq]
          · cases h
        case struct fs =>
          simp only [eqTy, hdd, Bool.and_eq_true, Bool.not_eq_true'] at hty
          refine ⟨_, _, rfl, rfl, fun n hn => ?_⟩
          obtain ⟨n, rfl⟩ : ∃ m, n = m + 1 := ⟨n - 1, by omega⟩
          have hf : P.fieldsOf t = fs := by simp [Program.fieldsOf, hdd]
          rw [run_equalIn_struct w n t _ _ (by rw [hf]; exact hdd) hty.1, hf]
          exact ih.2 fs.toList cs ds xs ys b D h hty.2 hx hy n (by omega)
    · cases fs with
      | nil => simp [eqF] at h; subst h; simp [Op.eqFields]
      | cons f r =>
        simp only [eqF] at h
        split at h
        · rename_i i hi
          split at h
          · rename_i a b' ha hb
            cases h
            simp only [List.all_cons, Bool.and_eq_true] at hty
            obtain ⟨⟨hname, hf⟩, hr⟩ := hty
            have hname : f.name ≠ "_" := by simpa using hname
            -- the field's type
            cases hdd : P.underlying f.type with
            | none => cases d <;> simp [eqT, hdd] at ha
            | some dd =>
              obtain ⟨x, y, hx1, hy1, hrun⟩ := ih.1 f.type _ _ _ _ a D ha hf ((hx.drop f.offset).take i.size) ((hy.drop f.offset).take i.size) dd hdd
              have hp : ∀ (zs : List Value) (z : Value), valD dd ((zs.drop f.offset).take i.size) = some z → (part f.type zs.toArray f.offset).run P w = .ok z w := by
                intro zs z hz
                obtain ⟨p1, p2⟩ := part_run (w := w) hdd hi zs f.offset
                unfold valD at hz
                cases hb : aggD dd with
                | true => rw [hb] at hz; cases hz; exact p1 hb
                | false =>
                  rw [hb] at hz
                  refine p2 hb z ?_
                  simp only [List.head?_eq_getElem?, List.getElem?_take] at hz
                  split at hz
                  · simpa using hz
                  · cases hz
              have hn' := hrun n hn
              have hrest := ih.2 r cs ds xs ys b' D hb hr hx hy n hn
              simp only [Op.eqFields, if_pos hname, Sem.run_bind, hp _ _ hx1, hp _ _ hy1, Result.andThen_ok, hn']
              cases a
              · simp
              · simpa using hrest
          · cases h
        · cases h

theorem eqIs_sound {P : Program} (w : World) (B : Nat → Prop) {el : Nat} {k0 : IntKind} {i : TypeInfo} (hu : P.underlying el = some (.int k0)) (hi : P.info? el = some i) (hs : i.size = 1) (d : Nat) : ∀ (n off : Nat) {cs ds : List PV} {xs ys : List Value} {b : Bool},
    RepPs w B cs (xs.drop off) → RepPs w B ds (ys.drop off) → eqIs n cs ds = some b → (Op.eqItems (d + 1) el 1 xs.toArray ys.toArray (List.range' off n)).run P w = .ok b w
  | 0, off, cs, ds, xs, ys, b, _, _, h => by
    simp [eqIs] at h; subst h; simp [Op.eqItems]
  | n + 1, off, cs, ds, xs, ys, b, hx, hy, h => by
    unfold eqIs at h
    split at h
    · rename_i hc; cases hc
    · rename_i n' k a cs' k' a' ds' hc
      cases hc
      split at h
      · rename_i r hk hr
        have hk := of_decide_eq_true hk
        subst hk
        cases h
        generalize hxs : xs.drop off = xd at hx
        generalize hys : ys.drop off = yd at hy
        cases hx with | cons _ x _ xt hx hxt => cases hy with | cons _ y _ yt hy hyt =>
        cases hx; cases hy
        have hx0 : xs[off]? = some (.int k a) := by have := congrArg (fun l => l[0]?) hxs; simpa using this
        have hy0 : ys[off]? = some (.int k a') := by have := congrArg (fun l => l[0]?) hys; simpa using this
        have hx1 : xs.drop (off + 1) = xt := by rw [← List.drop_drop, hxs]; rfl
        have hy1 : ys.drop (off + 1) = yt := by rw [← List.drop_drop, hys]; rfl
        have ih := eqIs_sound w B hu hi hs d n (off + 1) (cs := cs') (ds := ds') (xs := xs) (ys := ys) (by rw [hx1]; exact hxt) (by rw [hy1]; exact hyt) hr
        have p1 := (part_run (w := w) hu hi xs off).2 rfl _ hx0
        have p2 := (part_run (w := w) hu hi ys off).2 rfl _ hy0
        rw [List.range'_succ]
        simp only [Op.eqItems, Nat.mul_one, Sem.run_bind, p1, p2, Result.andThen_ok, run_equalIn_int w d el _ _ _ _ hu]
        cases hab : (a == a')
        · simp
        · simpa using ih
      · cases h
    · cases h

section ops
variable {P : Program} {o : Oper} {e : Env} {s : Store} {K : AV → Store → Prop} {w : World} {g : G} {σ : St} {a : Act} {T : Nat → Prop} {N : Prop}

theorem intBin_run {op : BinOp} {t : Nat} {k k' : IntKind} {x y : Int} {K' : PV → Prop} (hk : (op ≠ .shl ∧ op ≠ .shr) → k = k') (h : intBin op k x y K') :
    ∃ v r, K' v ∧ (binOp op t (.int k x) (.int k' y)).run P w = .ok r w ∧ RepP w (Lv g σ) v r := by
  cases op
  case shl =>
    unfold intBin Ob at h
    obtain ⟨h0, hk'⟩ := h
    exact ⟨_, _, hk', by simp [binOp, Op.shift, Int.not_lt.2 h0], .int _ _⟩
  case shr =>
    unfold intBin Ob at h
    obtain ⟨h0, hk'⟩ := h
    exact ⟨_, _, hk', by simp [binOp, Op.shift, Int.not_lt.2 h0], .int _ _⟩
  all_goals
    obtain rfl := hk ⟨by decide, by decide⟩
    simp only [intBin] at h
  case quo => unfold Ob at h; exact ⟨_, _, h.2, by simp [binOp, Op.intDiv, h.1], .int _ _⟩
  case rem => unfold Ob at h; exact ⟨_, _, h.2, by simp [binOp, Op.intDiv, h.1], .int _ _⟩
  case add => exact ⟨_, _, h, by simp [binOp, Op.intArith], .int _ _⟩
  case sub => exact ⟨_, _, h, by simp [binOp, Op.intArith], .int _ _⟩
  case mul => exact ⟨_, _, h, by simp [binOp, Op.intArith], .int _ _⟩
  case and => exact ⟨_, _, h, by simp [binOp, Op.intBits, bits], .int _ _⟩
  case or => exact ⟨_, _, h, by simp [binOp, Op.intBits, bits], .int _ _⟩
  case xor => exact ⟨_, _, h, by simp [binOp, Op.intBits, bits], .int _ _⟩
  case andNot => exact ⟨_, _, h, by simp [binOp, Op.intBits, bits], .int _ _⟩
  all_goals exact ⟨_, _, h, by simp [binOp, Op.intCmp], .bool _⟩

theorem strBin_run {op : BinOp} {t : Nat} {x y : ByteArray} {K' : PV → Prop} (h : strBin op x.data.toList y.data.toList K') :
    ∃ v r, K' v ∧ (binOp op t (.string x) (.string y)).run P w = .ok r w ∧ RepP w (Lv g σ) v r := by
  cases op <;> simp only [strBin] at h <;> try exact h.elim
  case add =>
    unfold Ob at h
    refine ⟨_, .string (x ++ y), h.2, ?_, ?_⟩
    · have : ¬ (((x.size + y.size : Nat) : Int) > IntKind.i64.max) := by
        rw [i64max]
        have h1 : x.data.toList.length = x.size := by simp
        have h2 : y.data.toList.length = y.size := by simp
        have := h.1
        omega
      simp only [binOp, Op.stringOp, if_neg this, Sem.run_pure]
    · have := RepP.str (w := w) (B := Lv g σ) (x ++ y)
      simpa [ByteArray.data_append] using this
  all_goals
    refine ⟨_, _, h, ?_, .bool _⟩
    simp [binOp, Op.stringOp, ByteArray.toList_eq]

theorem eqGuard_c (op : BinOp) (t : Nat) (x y : Operand) (h : (isC x || isC y) = true) : (eqGuard op t x y .nilIface .nilIface).run P w = .ok () w := by
  cases x <;> cases y <;> simp [isC] at h <;> cases op <;> simp [eqGuard]
theorem equal_of {t : Nat} {q z : Value} {r : Result Bool} (h : ∀ d, (Op.equalIn (d + 1) t q z).run P w = r) : (Op.equal t q z).run P w = r := h 9999
theorem eqIn_ptr1 {t u : Nat} (hu : P.underlying t = some (.pointer u)) (c : Option Addr) (d : Nat) : (Op.equalIn (d + 1) t (.pointer none) (.pointer c)).run P w = .ok c.isNone w := by
  simp [Op.equalIn, underlying, hu]
theorem eqIn_ptr2 {t u : Nat} (hu : P.underlying t = some (.pointer u)) (c : Addr) (d : Nat) : (Op.equalIn (d + 1) t (.pointer (some c)) (.pointer none)).run P w = .ok false w := by
  simp [Op.equalIn, underlying, hu]
theorem eqIn_sl1 {t u : Nat} (hu : P.underlying t = some (.slice u)) (c : Option Addr) (l k l' k' : Nat) (d : Nat) : (Op.equalIn (d + 1) t (.slice none l k) (.slice c l' k')).run P w = .ok c.isNone w := by
  simp [Op.equalIn, underlying, hu]
theorem eqIn_sl2 {t u : Nat} (hu : P.underlying t = some (.slice u)) (c : Addr) (l k l' k' : Nat) (d : Nat) : (Op.equalIn (d + 1) t (.slice (some c) l k) (.slice none l' k')).run P w = .ok false w := by
  simp [Op.equalIn, underlying, hu]
theorem eqIn_if0 {t : Nat} {ms} (hu : P.underlying t = some (.interface ms)) (d : Nat) : (Op.equalIn (d + 1) t .nilIface .nilIface).run P w = .ok true w := by
  simp [Op.equalIn, underlying, hu]
theorem eqIn_if1 {t : Nat} {ms} (hu : P.underlying t = some (.interface ms)) (u : Nat) (v : Value) (d : Nat) : (Op.equalIn (d + 1) t .nilIface (.iface u v)).run P w = .ok false w := by
  simp [Op.equalIn, underlying, hu]
theorem eqIn_if2 {t : Nat} {ms} (hu : P.underlying t = some (.interface ms)) (u : Nat) (v : Value) (d : Nat) : (Op.equalIn (d + 1) t (.iface u v) .nilIface).run P w = .ok false w := by
  simp [Op.equalIn, underlying, hu]

theorem eqIn_if3 {t u : Nat} {ms} {k : IntKind} {i : TypeInfo} (hu : P.underlying t = some (.interface ms)) (h2 : P.underlying u = some (.int k)) (h3 : P.info? u = some i) (h4 : i.comparable = true) (k' : IntKind) (m n : Int) (d : Nat) : (Op.equalIn (d + 2) t (.iface u (.int k' m)) (.iface u (.int k' n))).run P w = .ok (m == n) w := by
  simp [Op.equalIn, underlying, typeInfo, hu, h2, h3, h4]

theorem ok_binA {op : BinOp} {t u : Nat} {x y : Operand} (ho : o.op = .binOp op t x y u) (h : binA P op t (isC x || isC y) (ev e x) (ev e y) fun v => K v s) (c : Cx w g σ s T N) (he : EnvR w g σ e a.tmps) : OpOk P o a w (Rs w g σ s T K) := by
  simp only [binA] at h
  have hx := ev_rep he x
  have hy := ev_rep he y
  have fin : ∀ {v : AV} {r : Value}, K v s → (eqGuard op t x y (a.eval x) (a.eval y)).run P w = .ok () w → (binOp op t (a.eval x) (a.eval y)).run P w = .ok r w → RepA w g σ v r → OpOk P o a w (Rs w g σ s T K) := by
    intro v r hk hg hr hrep
    refine .value (v := r) (w' := w) ?_ (.pure c hk hrep)
    simp [execOp, ho, hg, hr]
  split at h
  · rename_i k m k' n hex hey
    rw [hex] at hx; rw [hey] at hy
    have hgd : (eqGuard op t x y (a.eval x) (a.eval y)).run P w = .ok () w := by
      rw [hx.inv_int, hy.inv_int]; cases op <;> simp [eqGuard]
    have : ∃ hk : (op ≠ .shl ∧ op ≠ .shr) → k = k', intBin op k m n (fun v => K (.p v) s) := by
      split at h
      · exact ⟨fun q => absurd rfl q.1, h⟩
      · exact ⟨fun q => absurd rfl q.2, h⟩
      · split at h
        · rename_i hd; exact ⟨fun _ => by simpa using hd, h⟩
        · exact h.elim
    obtain ⟨hk, hb⟩ := this
    obtain ⟨v, r, h1, h2, h3⟩ := intBin_run (P := P) (w := w) (g := g) (σ := σ) (t := t) (k' := k') hk hb
    exact fin h1 hgd (by rw [hx.inv_int, hy.inv_int]; exact h2) (.p _ _ h3)
  · rename_i m n hex hey
    rw [hex] at hx; rw [hey] at hy
    obtain ⟨bx, hx1, rfl⟩ := hx.inv_str
    obtain ⟨bY, hy1, rfl⟩ := hy.inv_str
    have hgd : (eqGuard op t x y (a.eval x) (a.eval y)).run P w = .ok () w := by
      rw [hx1, hy1]; cases op <;> simp [eqGuard]
    obtain ⟨v, r, h1, h2, h3⟩ := strBin_run (P := P) (w := w) (g := g) (σ := σ) (t := t) h
    exact fin h1 hgd (by rw [hx1, hy1]; exact h2) (.p _ _ h3)
  · rename_i hni hns
    have key : ∀ K' : Bool → Prop, eqAV P t (isC x || isC y) (ev e x) (ev e y) K' → (op = .eql ∨ op = .neq) →
        ∃ b, K' b ∧ (eqGuard op t x y (a.eval x) (a.eval y)).run P w = .ok () w ∧ (Op.equal t (a.eval x) (a.eval y)).run P w = .ok b w ∧ (∀ z, z = a.eval x → ∀ q, q = a.eval y → (binOp .eql t z q = do pure (.bool (← Op.equal t z q))) ∧ (binOp .neq t z q = do pure (.bool (!(← Op.equal t z q))))) := by
      intro K' hq hop
      unfold eqAV at hq
      have plain : ∀ {q z : Value} {b : Bool}, a.eval x = q → a.eval y = z → K' b → (eqGuard op t x y q z).run P w = .ok () w → (Op.equal t q z).run P w = .ok b w →
          (binOp .eql t q z = (do pure (.bool (← Op.equal t q z))) ∧ binOp .neq t q z = (do pure (.bool (!(← Op.equal t q z))))) →
          ∃ b, K' b ∧ (eqGuard op t x y (a.eval x) (a.eval y)).run P w = .ok () w ∧ (Op.equal t (a.eval x) (a.eval y)).run P w = .ok b w ∧ (∀ z, z = a.eval x → ∀ q, q = a.eval y → (binOp .eql t z q = do pure (.bool (← Op.equal t z q))) ∧ (binOp .neq t z q = do pure (.bool (!(← Op.equal t z q))))) := by
        intro q z b h1 h2 h3 h4 h5 h6
        exact ⟨b, h3, by rw [h1, h2]; exact h4, by rw [h1, h2]; exact h5, fun z' hz' q' hq' => by rw [hz', hq', h1, h2]; exact h6⟩
      split at hq
      · rename_i hu
        split at hq
        · rename_i b1 b2 hex hey
          rw [hex] at hx; rw [hey] at hy
          refine plain hx.inv_bool hy.inv_bool hq (by rcases hop with rfl | rfl <;> simp [eqGuard]) (run_equalIn_bool' w _ t _ _ hu) ⟨rfl, rfl⟩
        · exact hq.elim
      · rename_i fs hu
        split at hq
        · rename_i xs ys hex hey
          rw [hex] at hx; rw [hey] at hy
          split at hq
          · rename_i b heq
            unfold Ob at hq
            obtain ⟨⟨hty, hgt⟩, hk⟩ := hq
            generalize hax : a.eval x = ax at *
            generalize hay : a.eval y = ay at *
            cases hx.inv_p with | agg _ xs hxs => cases hy.inv_p with | agg _ ys hys =>
            obtain ⟨x', y', h1, h2, h3⟩ := (eqT_sound (P := P) w (Lv g σ) 100).1 t _ _ _ _ b 100 heq hty hxs hys _ hu
            unfold valD at h1 h2; cases h1; cases h2
            exact plain rfl rfl hk (by rcases hop with rfl | rfl <;> exact run_eqGuard_agg w _ t x y _ _ hgt) (h3 _ (by decide)) ⟨rfl, rfl⟩
          · exact hq.elim
        · exact hq.elim
      · rename_i n el hu
        split at hq
        · rename_i xs ys hex hey
          rw [hex] at hx; rw [hey] at hy
          split at hq
          · rename_i k0 i hel hi
            split at hq
            · rename_i b hb1 heq
              unfold Ob at hq
              obtain ⟨hgt, hk⟩ := hq
              have hs1 := Nat.eq_of_beq_eq_true hb1
              generalize hax : a.eval x = ax at *
              generalize hay : a.eval y = ay at *
              cases hx.inv_p with | agg _ xs hxs => cases hy.inv_p with | agg _ ys hys =>
              refine plain rfl rfl hk (by rcases hop with rfl | rfl <;> exact run_eqGuard_agg w _ t x y _ _ hgt) ?_ ⟨rfl, rfl⟩
              have hc : P.cellsOf el = 1 := by simp [Program.cellsOf, hi, hs1]
              show (Op.equalIn (9998 + 1 + 1) t _ _).run P w = _
              rw [run_equalIn_array w (9998 + 1) _ _ hu hi, hc, List.range_eq_range']
              exact eqIs_sound w (Lv g σ) hel hi hs1 9998 n 0 (by simpa using hxs) (by simpa using hys) heq
            · exact hq.elim
          · exact hq.elim
        · exact hq.elim
      · rename_i u hu
        have hE : ∀ q z, (∃ c, q = Value.pointer c) → (∃ c, z = Value.pointer c) → ∀ b, ((q = .pointer none ∧ ∃ c, z = .pointer c ∧ b = c.isNone) ∨ (z = .pointer none ∧ ∃ c, q = .pointer (some c) ∧ b = false)) → a.eval x = q → a.eval y = z → K' b → _ := fun q z hq1 hz1 b hb h1 h2 h3 => plain (q := q) (z := z) h1 h2 h3
          (by obtain ⟨c1, rfl⟩ := hq1; obtain ⟨c2, rfl⟩ := hz1; rcases hop with rfl | rfl <;> simp [eqGuard])
          (by rcases hb with ⟨rfl, c2, rfl, rfl⟩ | ⟨rfl, c2, rfl, rfl⟩
              · exact equal_of (eqIn_ptr1 hu c2)
              · exact equal_of (eqIn_ptr2 hu c2))
          (by obtain ⟨c1, rfl⟩ := hq1; obtain ⟨c2, rfl⟩ := hz1; exact ⟨rfl, rfl⟩)
        split at hq
        · rename_i hex hey
          rw [hex] at hx; rw [hey] at hy
          exact hE _ _ ⟨none, rfl⟩ ⟨none, rfl⟩ true (.inl ⟨rfl, none, rfl, rfl⟩) hx.inv_lit.1 hy.inv_lit.1 hq
        · rename_i id off hex hey
          rw [hex] at hx; rw [hey] at hy
          exact hE _ _ ⟨none, rfl⟩ ⟨_, rfl⟩ false (.inl ⟨rfl, _, rfl, rfl⟩) hx.inv_lit.1 hy.inv_ref.1 hq
        · rename_i id off hex hey
          rw [hex] at hx; rw [hey] at hy
          exact hE _ _ ⟨_, rfl⟩ ⟨none, rfl⟩ false (.inr ⟨rfl, _, rfl, rfl⟩) hx.inv_ref.1 hy.inv_lit.1 hq
        · rename_i i q j p hex hey
          rw [hex] at hx; rw [hey] at hy
          split at hq
          · rename_i hij
            simp only [Bool.and_eq_true] at hij
            have h1 := Nat.eq_of_beq_eq_true hij.1.1
            have h2 := Nat.eq_of_beq_eq_true hij.1.2
            subst h1; subst h2
            obtain ⟨inf, hinf⟩ := Option.isSome_iff_exists.1 hij.2
            exact plain (q := .pointer (some ⟨g.ι i, q, none⟩)) (z := .pointer (some ⟨g.ι i, q, none⟩)) hx.inv_ref.1 hy.inv_ref.1 hq (by rcases hop with rfl | rfl <;> simp [eqGuard])
              (equal_of fun d => by simp [Op.equalIn, run_underlying hu, sizeOf, typeInfo, hinf, Go.run_sameAddr_same]) ⟨rfl, rfl⟩
          · exact hq.elim
        · rename_i cs hex hey
          rw [hex] at hx; rw [hey] at hy
          obtain ⟨b, off, hp, _⟩ := hy.inv_pto
          exact hE _ _ ⟨none, rfl⟩ ⟨_, rfl⟩ false (.inl ⟨rfl, _, rfl, rfl⟩) hx.inv_lit.1 hp hq
        · rename_i cs hex hey
          rw [hex] at hx; rw [hey] at hy
          obtain ⟨b, off, hp, _⟩ := hx.inv_pto
          exact hE _ _ ⟨_, rfl⟩ ⟨none, rfl⟩ false (.inr ⟨rfl, _, rfl, rfl⟩) hp hy.inv_lit.1 hq
        · exact hq.elim
      · rename_i u hu
        have hE : ∀ (q z : Option Addr) (l c l' c' : Nat) (b : Bool), ((q = none ∧ b = z.isNone) ∨ (z = none ∧ b = q.isNone ∧ q ≠ none)) → a.eval x = .slice q l c → a.eval y = .slice z l' c' → K' b → _ := fun q z l c' l' c'' b hb h1 h2 h3 => plain h1 h2 h3
          (by rcases hop with rfl | rfl <;> simp [eqGuard])
          (by rcases hb with ⟨rfl, rfl⟩ | ⟨rfl, rfl, hne⟩
              · exact equal_of (eqIn_sl1 hu z _ _ _ _)
              · cases q with
                | none => exact absurd rfl hne
                | some q => exact equal_of (eqIn_sl2 hu q _ _ _ _))
          ⟨rfl, rfl⟩
        have nilS : ∀ {z : Value} {sz : Nat} {xs : List PV}, RepA w g σ (.p (.sl .nil sz xs)) z → z = .slice none 0 0 := by
          intro z sz xs hz
          cases hz.inv_p with
          | nil => rfl
          | sl _ _ _ b off cap hk => exact absurd rfl hk
          | spt _ _ _ hk => exact absurd rfl hk
        have anyS : ∀ {z : Value} {k : SK} {sz : Nat}, RepA w g σ (.p (.sl k sz [])) z → z = .slice none 0 0 ∨ ∃ ad l c, z = .slice (some ad) l c := by
          intro z k sz hz
          cases hz.inv_p with
          | nil => exact .inl rfl
          | sl _ _ _ b off cap hk => exact .inr ⟨_, _, _, rfl⟩
          | spt _ _ _ hk => exact .inr ⟨_, _, _, rfl⟩
        have someS : ∀ {z : Value} {k : SK} {sz : Nat} {v : PV} {xs : List PV}, RepA w g σ (.p (.sl k sz (v :: xs))) z → ∃ ad l c, z = .slice (some ad) l c := by
          intro z k sz v xs hz
          cases hz.inv_p with
          | sl _ _ _ b off cap hk => exact ⟨_, _, _, rfl⟩
        split at hq
        · rename_i hex hey
          rw [hex] at hx; rw [hey] at hy
          exact hE _ _ _ _ _ _ true (.inl ⟨rfl, rfl⟩) (nilS hx) (nilS hy) hq
        · rename_i hex hey
          rw [hex] at hx; rw [hey] at hy
          rcases anyS hx with hz | ⟨ad, l, c, hz⟩
          · exact hE _ _ _ _ _ _ true (.inl ⟨rfl, rfl⟩) hz (nilS hy) hq.1
          · exact hE _ _ _ _ _ _ false (.inr ⟨rfl, rfl, by simp⟩) hz (nilS hy) hq.2
        · rename_i hex hey
          rw [hex] at hx; rw [hey] at hy
          rcases anyS hx with hz | ⟨ad, l, c, hz⟩
          · exact hE _ _ _ _ _ _ true (.inl ⟨rfl, rfl⟩) hz (nilS hy) hq.1
          · exact hE _ _ _ _ _ _ false (.inr ⟨rfl, rfl, by simp⟩) hz (nilS hy) hq.2
        · rename_i hex hey
          rw [hex] at hx; rw [hey] at hy
          obtain ⟨ad, l, c, hz⟩ := someS hy
          exact hE _ _ _ _ _ _ false (.inl ⟨rfl, rfl⟩) (nilS hx) hz hq
        · rename_i hex hey
          rw [hex] at hx; rw [hey] at hy
          obtain ⟨ad, l, c, hz⟩ := someS hy
          exact hE _ _ _ _ _ _ false (.inl ⟨rfl, rfl⟩) (nilS hx) hz hq
        · rename_i hex hey
          rw [hex] at hx; rw [hey] at hy
          obtain ⟨ad, l, c, hz⟩ := someS hx
          exact hE _ _ _ _ _ _ false (.inr ⟨rfl, rfl, by simp⟩) hz (nilS hy) hq
        · rename_i hex hey
          rw [hex] at hx; rw [hey] at hy
          obtain ⟨ad, l, c, hz⟩ := someS hx
          exact hE _ _ _ _ _ _ false (.inr ⟨rfl, rfl, by simp⟩) hz (nilS hy) hq
        · rename_i hex hey
          rw [hex] at hx; rw [hey] at hy
          obtain ⟨⟨ad, cap, hz, hzn⟩, _⟩ := hx.inv_osl
          have hne : ad ≠ none := fun q => by have := hzn q; omega
          exact hE _ _ _ _ _ _ false (.inr ⟨rfl, by cases ad <;> simp_all, hne⟩) hz (nilS hy) hq
        · exact hq.elim
      · rename_i ms hu
        split at hq
        · rename_i hex hey
          rw [hex] at hx; rw [hey] at hy
          split at hq
          · rename_i hc
            exact plain hx.inv_lit.1 hy.inv_lit.1 hq (eqGuard_c op t x y hc) (equal_of (eqIn_if0 hu)) ⟨rfl, rfl⟩
          · exact hq.elim
        · rename_i t' v' hex hey
          rw [hex] at hx; rw [hey] at hy
          have : ∃ z, a.eval y = .iface t' z := by
            generalize a.eval y = z at *
            cases hy.inv_p; exact ⟨_, rfl⟩
          obtain ⟨z, hz⟩ := this
          exact plain hx.inv_lit.1 hz hq (by rcases hop with rfl | rfl <;> simp [eqGuard]) (equal_of (eqIn_if1 hu _ _)) ⟨rfl, rfl⟩
        · rename_i t' v' hex hey
          rw [hex] at hx; rw [hey] at hy
          have : ∃ z, a.eval x = .iface t' z := by
            generalize a.eval x = z at *
            cases hx.inv_p; exact ⟨_, rfl⟩
          obtain ⟨z, hz⟩ := this
          exact plain hz hy.inv_lit.1 hq (by rcases hop with rfl | rfl <;> simp [eqGuard]) (equal_of (eqIn_if2 hu _ _)) ⟨rfl, rfl⟩
        · rename_i t' v' hex hey
          rw [hex] at hx; rw [hey] at hy
          have : ∃ z, a.eval x = .iface t' z := by
            generalize a.eval x = z at *
            cases hx; exact ⟨_, rfl⟩
          obtain ⟨z, hz⟩ := this
          exact plain hz hy.inv_lit.1 hq (by rcases hop with rfl | rfl <;> simp [eqGuard]) (equal_of (eqIn_if2 hu _ _)) ⟨rfl, rfl⟩
        · rename_i u k m u' k' n hex hey
          rw [hex] at hx; rw [hey] at hy
          split at hq
          · rename_i kk i hb hu2 hi
            split at hq
            · rename_i hcmp
              simp only [Bool.and_eq_true, decide_eq_true_eq] at hb
              obtain ⟨hb1, rfl⟩ := hb
              have hb1 := Nat.eq_of_beq_eq_true hb1
              subst hb1
              have z1 : a.eval x = .iface u (.int k m) := by
                have := hx.inv_p
                generalize a.eval x = z at *
                cases this with | iface _ _ y9 h9 => cases h9; rfl
              have z2 : a.eval y = .iface u (.int k n) := by
                have := hy.inv_p
                generalize a.eval y = z at *
                cases this with | iface _ _ y9 h9 => cases h9; rfl
              exact plain z1 z2 hq (by rcases hop with rfl | rfl <;> simp [eqGuard]) (show (Op.equalIn 10000 t _ _).run P w = _ from eqIn_if3 hu hu2 hi hcmp k m n 9998) ⟨rfl, rfl⟩
            · exact hq.elim
          · exact hq.elim
        · exact hq.elim
      · exact hq.elim
    split at h
    · obtain ⟨b, h1, h2, h3, h4⟩ := key _ h (.inl rfl)
      refine fin h1 h2 ?_ (.mkBool b)
      rw [(h4 _ rfl _ rfl).1]; simp [h3]
    · obtain ⟨b, h1, h2, h3, h4⟩ := key _ h (.inr rfl)
      refine fin h1 h2 ?_ (.mkBool (!b))
      rw [(h4 _ rfl _ rfl).2]; simp [h3]
    · exact h.elim
theorem ok_binOp {op : BinOp} {t u : Nat} {x y : Operand} (ho : o.op = .binOp op t x y u) (h : aop P (.binOp op t x y u) e s K) (c : Cx w g σ s T N) (hT : ∀ i q j r, ev e x = .ref i q → ev e y = .ref j r → T i ∧ T j) (he : EnvR w g σ e a.tmps) : OpOk P o a w (Rs w g σ s T K) := by
  simp only [aop] at h
  unfold binS at h
  split at h
  · rename_i i q j r hex hey
    split at h
    · exact ok_binA ho (by rw [hex, hey]; exact h) c he
    · rename_i hij
      have hij : i ≠ j := fun e => by subst e; simp [Nat.beq_eq_true_eq] at hij
      have hx := ev_rep he x
      have hy := ev_rep he y
      rw [hex] at hx; rw [hey] at hy
      obtain ⟨hTi, hTj⟩ := hT _ _ _ _ hex hey
      unfold refNe at h
      split at h
      · rename_i v cs1 ty1 cs2 ty2 hu h1 h2
        split at h
        · rename_i inf hinf
          have hs1 : σ i = some (.cells cs1 ty1) := (c.agree i hTi).trans h1
          have hs2 : σ j = some (.cells cs2 ty2) := (c.agree j hTj).trans h2
          have hne : g.ι i ≠ g.ι j := fun e => hij (c.inv.inj i j (by rw [hs1]; simp) (by rw [hs2]; simp) (c.inv.real hs1 (by simp)) (c.inv.real hs2 (by simp)) e)
          have ha : ∃ cs e, w.heap[g.ι i]? = some (.cells cs e (0, 0)) := by
            cases c.inv.repR hs1 (by simp) with
            | cells _ _ xs _ hf _ => obtain ⟨e, hf⟩ := hf; exact ⟨_, _, hf⟩
          have hb : ∃ cs e, w.heap[g.ι j]? = some (.cells cs e (0, 0)) := by
            cases c.inv.repR hs2 (by simp) with
            | cells _ _ xs _ hf _ => obtain ⟨e, hf⟩ := hf; exact ⟨_, _, hf⟩
          obtain ⟨ca, ta, ha⟩ := ha
          obtain ⟨cb, tb, hb⟩ := hb
          obtain ⟨hp, _, _⟩ := hx.inv_ref
          obtain ⟨hq, _, _⟩ := hy.inv_ref
          have hsz : ∀ b, Nat.beq inf.size 0 = b → b = false → inf.size ≠ 0 := fun b hb1 hb2 e => by rw [e] at hb1; rw [← hb1] at hb2; simp at hb2
          have heq : ∀ {d : Nat}, inf.size ≠ 0 → (Op.equalIn (d + 1) t (.pointer (some ⟨g.ι i, q, none⟩)) (.pointer (some ⟨g.ι j, r, none⟩))).run P w = .ok false w := fun hs => by
            have hne2 : (⟨g.ι i, q, none⟩ : Addr) ≠ ⟨g.ι j, r, none⟩ := fun e => hne (congrArg Addr.block e)
            have hsa := run_sameAddr_other (P := P) w hne2 ha hb
            simp [Op.equalIn, run_underlying hu, sizeOf, typeInfo, hinf, hs, hsa]
          split at h
          · rename_i hz
            have hs := hsz _ hz rfl
            refine .value (v := .bool false) (w' := w) ?_ (.pure c h (.p _ _ (.bool false)))
            simp [execOp, ho, hp, hq, eqGuard, binOp, Op.equal, Op.maxDepth, heq hs]
          · rename_i hz
            have hs := hsz _ hz rfl
            refine .value (v := .bool true) (w' := w) ?_ (.pure c h (.p _ _ (.bool true)))
            simp [execOp, ho, hp, hq, eqGuard, binOp, Op.equal, Op.maxDepth, heq hs]
          · exact h.elim
        · exact h.elim
      · exact h.elim
  · exact ok_binA ho h c he

end ops
end Go.Proofs.YtjhgmaephpadpaaGreat.AW
