import Derived.Test.YtfjolephpghafaaAwDef
namespace Go.Proofs.Ytfjolephpghafaa.AW

/-! ### How a tree lies in memory -/
def litOk : Value → Prop
  | .pointer none | .nilIface | .nilFunc | .map none | .float _ _ => True
  | _ => False

/-- An element of so many cells. -/
def El (sz : Nat) (x : PV) : Prop := x.cells.length = sz ∧ x.cells.all PV.one = true

mutual
inductive RepP (w : World) (B : Nat → Prop) : PV → Value → Prop
  | bool (b : Bool) : RepP w B (.bool b) (.bool b)
  | int (k : IntKind) (n : Int) : RepP w B (.int k n) (.int k n)
  | str (x : ByteArray) : RepP w B (.str x.data.toList) (.string x)
  | lit (v : Value) (h : litOk v) : RepP w B (.lit v) v
  | agg (cs : List PV) (a : List Value) (h : RepPs w B cs a) : RepP w B (.agg cs) (.agg a.toArray)
  | iface (t : Nat) (v : PV) (x : Value) (h : RepP w B v x) : RepP w B (.iface t v) (.iface t x)
  | nil (sz : Nat) : RepP w B (.sl .nil sz []) (.slice none 0 0)
  | sl (k : SK) (sz : Nat) (xs : List PV) (b off cap : Nat) (hk : k ≠ .nil) (hc : k = .clip → cap = xs.length) (hl : xs.length ≤ cap)
      (hs : ∀ x, x ∈ xs → El sz x) (hb : flat xs ≠ [] → ¬ B b) (h : CellsP w B b off (flat xs)) :
      RepP w B (.sl k sz xs) (.slice (some ⟨b, off, none⟩) xs.length cap)
  | pto (cs : List PV) (b off : Nat) (hb : cs ≠ [] → ¬ B b) (h : CellsP w B b off cs) : RepP w B (.pto cs) (.pointer (some ⟨b, off, none⟩))
inductive RepPs (w : World) (B : Nat → Prop) : List PV → List Value → Prop
  | nil : RepPs w B [] []
  | cons (v : PV) (x : Value) (vs : List PV) (xs : List Value) (h : RepP w B v x) (hs : RepPs w B vs xs) : RepPs w B (v :: vs) (x :: xs)
inductive CellsP (w : World) (B : Nat → Prop) : Nat → Nat → List PV → Prop
  | nil (b off : Nat) : CellsP w B b off []
  | cons (b off : Nat) (v : PV) (x : Value) (vs : List PV) (hc : w.cell? ⟨b, off, none⟩ = some x) (h : RepP w B v x) (hs : CellsP w B b (off + 1) vs) : CellsP w B b off (v :: vs)
end

theorem lt_of_cell {w : World} {b off : Nat} {x : Value} (h : w.cell? ⟨b, off, none⟩ = some x) : b < w.heap.size := by
  unfold World.cell? at h
  by_cases hb : b < w.heap.size
  · exact hb
  · rw [Array.getElem?_eq_none (by simpa using hb)] at h; cases h

theorem cell_same {w w' : World} {b off : Nat} (h : w'.heap[b]? = w.heap[b]?) : w'.cell? ⟨b, off, none⟩ = w.cell? ⟨b, off, none⟩ := by
  unfold World.cell?; rw [h]

theorem CellsP.lt {w : World} {B : Nat → Prop} {b off : Nat} {cs : List PV} (hne : cs ≠ []) (h : CellsP w B b off cs) : b < w.heap.size := by
  cases h with
  | nil => exact absurd rfl hne
  | cons _ _ v x vs hc _ _ => exact lt_of_cell hc

mutual
theorem RepP.keep {w w' : World} {B B' : Nat → Prop} (hm : ∀ b, b < w.heap.size → ¬ B b → w'.heap[b]? = w.heap[b]?) (hB : ∀ b, b < w.heap.size → B' b → B b) :
    ∀ {v : PV} {x : Value}, RepP w B v x → RepP w' B' v x
  | _, _, .bool b => .bool b
  | _, _, .int k n => .int k n
  | _, _, .str x => .str x
  | _, _, .lit v h => .lit v h
  | _, _, .agg cs a h => .agg cs a (RepPs.keep hm hB h)
  | _, _, .iface t v x h => .iface t v x (RepP.keep hm hB h)
  | _, _, .nil sz => .nil sz
  | _, _, .sl k sz xs b off cap hk hc hl hs hb h =>
    .sl k sz xs b off cap hk hc hl hs (fun hne hb' => hb hne (hB b (CellsP.lt hne h) hb')) (CellsP.keep hm hB h hb)
  | _, _, .pto cs b off hb h => .pto cs b off (fun hne hb' => hb hne (hB b (CellsP.lt hne h) hb')) (CellsP.keep hm hB h hb)
theorem RepPs.keep {w w' : World} {B B' : Nat → Prop} (hm : ∀ b, b < w.heap.size → ¬ B b → w'.heap[b]? = w.heap[b]?) (hB : ∀ b, b < w.heap.size → B' b → B b) :
    ∀ {vs : List PV} {xs : List Value}, RepPs w B vs xs → RepPs w' B' vs xs
  | _, _, .nil => .nil
  | _, _, .cons v x vs xs h hs => .cons v x vs xs (RepP.keep hm hB h) (RepPs.keep hm hB hs)
theorem CellsP.keep {w w' : World} {B B' : Nat → Prop} (hm : ∀ b, b < w.heap.size → ¬ B b → w'.heap[b]? = w.heap[b]?) (hB : ∀ b, b < w.heap.size → B' b → B b) :
    ∀ {b off : Nat} {cs : List PV}, CellsP w B b off cs → (cs ≠ [] → ¬ B b) → CellsP w' B' b off cs
  | _, _, _, .nil b off, _ => .nil b off
  | _, _, _, .cons b off v x vs hc h hs, hb =>
    .cons b off v x vs ((cell_same (hm b (lt_of_cell hc) (hb (by simp)))).trans hc) (RepP.keep hm hB h) (CellsP.keep hm hB hs (fun _ => hb (by simp)))
end

/-! ### What is beside the trees: names of blocks -/
structure G where
  ι : Nat → Nat
  X : Nat → Prop
  C : Nat → Prop

abbrev St := Nat → Option AObj

/-- A block of one of the store's own objects. -/
def Own (g : G) (σ : St) (b : Nat) : Prop := ∃ id, σ id ≠ none ∧ g.ι id = b
/-- A block that may turn. -/
def Lv (g : G) (σ : St) (b : Nat) : Prop := g.X b ∨ Own g σ b

def Room (w : World) (b n : Nat) : Prop := ∃ e m, w.shape? b = some (e, m) ∧ n ≤ m

mutual
inductive RepA (w : World) (g : G) (σ : St) : AV → Value → Prop
  | p (v : PV) (x : Value) (h : RepP w (Lv g σ) v x) : RepA w g σ (.p v) x
  | ref (id off : Nat) (hc : g.C id) (hb : ∀ sz xs, σ id ≠ some (.buf sz xs)) : RepA w g σ (.ref id off) (.pointer (some ⟨g.ι id, off, none⟩))
  | osl (id tot off len : Nat) (a : Addr) (cap : Nat) (hsp : a.spot = none) (hc : g.C id) (ht : ∀ sz xs, σ id = some (.buf sz xs) → tot ≤ xs.length)
      (h : ∀ sz xs, σ id = some (.buf sz xs) → xs.length = tot → len ≤ cap ∧ off + len ≤ tot ∧ (0 < cap → a = ⟨g.ι id, off * sz, none⟩ ∧ Room w (g.ι id) ((off + cap) * sz))) :
      RepA w g σ (.osl id tot off len) (.slice (some a) len cap)
  | eptr (id tot i sub : Nat) (a : Addr) (hc : g.C id) (ht : ∀ sz xs, σ id = some (.buf sz xs) → tot ≤ xs.length)
      (h : ∀ sz xs, σ id = some (.buf sz xs) → xs.length = tot → a = ⟨g.ι id, i * sz + sub, none⟩) : RepA w g σ (.eptr id tot i sub) (.pointer (some a))
  | map (id : Nat) (hc : g.C id) (hb : ∀ sz xs, σ id ≠ some (.buf sz xs)) : RepA w g σ (.map id) (.map (some (g.ι id)))
  | it (id : Nat) (hc : g.C id) (hb : ∀ sz xs, σ id ≠ some (.buf sz xs)) : RepA w g σ (.it id) (.pointer (some ⟨g.ι id, 0, none⟩))
  | agg (cs : List AV) (a : List Value) (h : RepAs w g σ cs a) : RepA w g σ (.agg cs) (.agg a.toArray)
  | tup (vs : List AV) (a : List Value) (h : RepAs w g σ vs a) : RepA w g σ (.tup vs) (.tuple a.toArray)
  | clos (f : Nat) (caps : List AV) (a : List Value) (h : RepAs w g σ caps a) : RepA w g σ (.clos f caps) (.func (.func f) #[] a.toArray)
  | ifc (t : Nat) (v : AV) (x : Value) (h : RepA w g σ v x) : RepA w g σ (.ifc t v) (.iface t x)
  | undef (x : Value) : RepA w g σ .undef x
inductive RepAs (w : World) (g : G) (σ : St) : List AV → List Value → Prop
  | nil : RepAs w g σ [] []
  | cons (v : AV) (x : Value) (vs : List AV) (xs : List Value) (h : RepA w g σ v x) (hs : RepAs w g σ vs xs) : RepAs w g σ (v :: vs) (x :: xs)
end

/-- What a store's object is in memory. -/
def cellsAre (w : World) (b : Nat) (xs : List Value) : Prop := ∃ e f, w.heap[b]? = some (.cells xs.toArray e f) ∧ ∀ i, i < xs.length → ¬ (f.1 ≤ i ∧ i < f.2)

inductive RepO (w : World) (g : G) (σ : St) (b : Nat) : AObj → Prop
  | cells (cs : List AV) (xs : List Value) (h : RepAs w g σ cs xs) (hb : cellsAre w b xs) : RepO w g σ b (.cells cs)
  | buf (sz : Nat) (es : List PV) (xs : List Value) (hz : 0 < sz) (hs : ∀ x, x ∈ es → El sz x) (hn : sz * es.length ≤ xs.length)
      (h : RepPs w (Lv g σ) (flat es) (xs.take (sz * es.length))) (hb : cellsAre w b xs) : RepO w g σ b (.buf sz es)
  | iterS (s : List UInt8) (pos : Nat) (x : ByteArray) (hx : x.data.toList.drop pos = s) (hp : pos ≤ x.size) (hb : w.heap[b]? = some (.stringIter x pos)) : RepO w g σ b (.iterS s pos)

structure Inv (w : World) (g : G) (σ : St) : Prop where
  made : ∀ id o, σ id = some o → g.C id
  lies : ∀ id o, σ id = some o → g.ι id < w.heap.size ∧ ¬ g.X (g.ι id)
  xlt : ∀ b, g.X b → b < w.heap.size
  inj : ∀ id jd, σ id ≠ none → σ jd ≠ none → g.ι id = g.ι jd → id = jd
  rep : ∀ id o, σ id = some o → RepO w g σ (g.ι id) o

def sameKind : AObj → AObj → Prop
  | .cells a, .cells b => a.length = b.length
  | .buf s xs, .buf t ys => s = t ∧ xs.length ≤ ys.length
  | .map _, .map _ => True
  | .iterS _ _, .iterS _ _ => True
  | .iterM _ _ _, .iterM _ _ _ => True
  | _, _ => False

structure Ext (w : World) (g : G) (σ : St) (w' : World) (g' : G) (σ' : St) : Prop where
  size : w.heap.size ≤ w'.heap.size
  os : w'.os = w.os
  tape : w'.tape = w.tape
  output : w'.output = w.output
  frame : ∀ b, b < w.heap.size → ¬ Own g σ b → w'.heap[b]? = w.heap[b]?
  shape : ∀ b, b < w.heap.size → w'.shape? b = w.shape? b
  X : g'.X = g.X
  C : ∀ id, g.C id → g'.C id
  own : ∀ b, b < w.heap.size → Own g' σ' b → Own g σ b
  obj : ∀ id, g.C id → ∀ o', σ' id = some o' → ∃ o, σ id = some o ∧ sameKind o o'
  ι1 : ∀ id, g.C id → (∀ sz xs, σ id ≠ some (.buf sz xs)) → g'.ι id = g.ι id
  ι2 : ∀ id sz xs xs', g.C id → σ id = some (.buf sz xs) → σ' id = some (.buf sz xs') → xs.length = xs'.length → g'.ι id = g.ι id

theorem sameKind.refl (o : AObj) : sameKind o o := by cases o <;> simp [sameKind]
theorem sameKind.trans {a b c : AObj} (h : sameKind a b) (k : sameKind b c) : sameKind a c := by
  cases a <;> cases b <;> first | exact h.elim | skip
  all_goals cases c <;> first | exact k.elim | exact ⟨h.1.trans k.1, Nat.le_trans h.2 k.2⟩ | exact Eq.trans h k | exact True.intro

theorem Ext.refl (w : World) (g : G) (σ : St) : Ext w g σ w g σ :=
  ⟨Nat.le_refl _, rfl, rfl, rfl, fun _ _ _ => rfl, fun _ _ => rfl, rfl, fun _ h => h, fun _ _ h => h, fun _ _ o h => ⟨o, h, .refl o⟩, fun _ _ _ => rfl, fun _ _ _ _ _ _ _ _ => rfl⟩

theorem Ext.trans {w g σ w' g' σ' w'' g'' σ''} (h : Ext w g σ w' g' σ') (k : Ext w' g' σ' w'' g'' σ'') : Ext w g σ w'' g'' σ'' where
  size := Nat.le_trans h.size k.size
  os := k.os.trans h.os
  tape := k.tape.trans h.tape
  output := k.output.trans h.output
  frame b hb ho := (k.frame b (Nat.lt_of_lt_of_le hb h.size) (fun e => ho (h.own b hb e))).trans (h.frame b hb ho)
  shape b hb := (k.shape b (Nat.lt_of_lt_of_le hb h.size)).trans (h.shape b hb)
  X := k.X.trans h.X
  C id hc := k.C id (h.C id hc)
  own b hb e := h.own b hb (k.own b (Nat.lt_of_lt_of_le hb h.size) e)
  obj id hc o'' ho := by
    obtain ⟨o', ho', hk'⟩ := k.obj id (h.C id hc) o'' ho
    obtain ⟨o, ho, hk⟩ := h.obj id hc o' ho'
    exact ⟨o, ho, hk.trans hk'⟩
  ι1 id hc hn := by
    have hn' : ∀ sz xs, σ' id ≠ some (.buf sz xs) := by
      intro sz xs e
      obtain ⟨o, ho, hk⟩ := h.obj id hc _ e
      cases o <;> simp [sameKind] at hk
      exact hn _ _ ho
    exact (k.ι1 id (h.C id hc) hn').trans (h.ι1 id hc hn)
  ι2 id sz xs xs'' hc hx hx'' hl := by
    obtain ⟨o', ho', hk'⟩ := k.obj id (h.C id hc) _ hx''
    obtain ⟨o, ho, hk⟩ := h.obj id hc _ ho'
    rw [hx] at ho; cases ho
    cases o' <;> try exact hk.elim
    rename_i sz' xs'
    obtain ⟨e1, hk⟩ := hk
    obtain ⟨e2, hk'⟩ := hk'
    subst e1
    have e3 : xs.length = xs'.length := by omega
    have e4 : xs'.length = xs''.length := by omega
    exact (k.ι2 id _ xs' xs'' (h.C id hc) ho' hx'' e4).trans (h.ι2 id _ xs xs' hc hx ho' e3)

theorem Ext.lv {w g σ w' g' σ'} (h : Ext w g σ w' g' σ') (b : Nat) (hb : b < w.heap.size) (hl : Lv g' σ' b) : Lv g σ b := by
  rcases hl with hx | ho
  · exact .inl (h.X ▸ hx)
  · exact .inr (h.own b hb ho)

theorem Ext.mem {w g σ w' g' σ'} (h : Ext w g σ w' g' σ') (b : Nat) (hb : b < w.heap.size) (hl : ¬ Lv g σ b) : w'.heap[b]? = w.heap[b]? :=
  h.frame b hb (fun e => hl (.inr e))

theorem Ext.repP {w g σ w' g' σ'} (h : Ext w g σ w' g' σ') {v : PV} {x : Value} (hr : RepP w (Lv g σ) v x) : RepP w' (Lv g' σ') v x := hr.keep h.mem h.lv
theorem Ext.repPs {w g σ w' g' σ'} (h : Ext w g σ w' g' σ') {v : List PV} {x : List Value} (hr : RepPs w (Lv g σ) v x) : RepPs w' (Lv g' σ') v x := hr.keep h.mem h.lv

theorem Ext.notBuf {w g σ w' g' σ'} (h : Ext w g σ w' g' σ') {id : Nat} (hc : g.C id) (hn : ∀ sz xs, σ id ≠ some (.buf sz xs)) : ∀ sz xs, σ' id ≠ some (.buf sz xs) := by
  intro sz xs e
  obtain ⟨o, ho, hk⟩ := h.obj id hc _ e
  cases o <;> simp [sameKind] at hk
  exact hn _ _ ho

theorem Room.keep {w w' : World} {b n : Nat} (h : Room w b n) (hs : w'.shape? b = w.shape? b) : Room w' b n := by
  obtain ⟨e, m, h1, h2⟩ := h
  exact ⟨e, m, hs.trans h1, h2⟩
theorem Room.lt {w : World} {b n : Nat} (h : Room w b n) : b < w.heap.size := by
  obtain ⟨e, m, h1, _⟩ := h
  unfold World.shape? at h1
  by_cases hb : b < w.heap.size
  · exact hb
  · rw [Array.getElem?_eq_none (by simpa using hb)] at h1; cases h1

mutual
theorem Ext.repA {w : World} {g : G} {σ : St} {w' : World} {g' : G} {σ' : St} (h : Ext w g σ w' g' σ') : ∀ {v : AV} {x : Value}, RepA w g σ v x → RepA w' g' σ' v x
  | _, _, .p v x hr => .p v x (h.repP hr)
  | _, _, .ref id off hc hb => by rw [← h.ι1 id hc hb]; exact .ref id off (h.C id hc) (h.notBuf hc hb)
  | _, _, .osl id tot off len a cap hsp hc ht hr => by
    refine .osl id tot off len a cap hsp (h.C id hc) (fun sz xs' e => ?_) (fun sz xs' e hl => ?_)
    · obtain ⟨o, ho, hk⟩ := h.obj id hc _ e
      cases o <;> simp [sameKind] at hk
      exact Nat.le_trans (ht _ _ ho) hk.2
    · obtain ⟨o, ho, hk⟩ := h.obj id hc _ e
      cases o <;> simp [sameKind] at hk
      obtain ⟨rfl, hk⟩ := hk
      have h1 := ht _ _ ho
      have hi := h.ι2 id _ _ xs' hc ho e (by omega)
      obtain ⟨a1, a2, a3⟩ := hr _ _ ho (by omega)
      refine ⟨a1, a2, fun hc0 => ?_⟩
      obtain ⟨b1, b2⟩ := a3 hc0
      rw [hi]
      exact ⟨b1, b2.keep (h.shape _ b2.lt)⟩
  | _, _, .eptr id tot i sub a hc ht hr => by
    refine .eptr id tot i sub a (h.C id hc) (fun sz xs' e => ?_) (fun sz xs' e hl => ?_)
    · obtain ⟨o, ho, hk⟩ := h.obj id hc _ e
      cases o <;> simp [sameKind] at hk
      exact Nat.le_trans (ht _ _ ho) hk.2
    · obtain ⟨o, ho, hk⟩ := h.obj id hc _ e
      cases o <;> simp [sameKind] at hk
      obtain ⟨rfl, hk⟩ := hk
      have h1 := ht _ _ ho
      rw [h.ι2 id _ _ xs' hc ho e (by omega)]
      exact hr _ _ ho (by omega)
  | _, _, .map id hc hb => by rw [← h.ι1 id hc hb]; exact .map id (h.C id hc) (h.notBuf hc hb)
  | _, _, .it id hc hb => by rw [← h.ι1 id hc hb]; exact .it id (h.C id hc) (h.notBuf hc hb)
  | _, _, .agg cs a hr => .agg cs a (Ext.repAs h hr)
  | _, _, .tup cs a hr => .tup cs a (Ext.repAs h hr)
  | _, _, .clos f cs a hr => .clos f cs a (Ext.repAs h hr)
  | _, _, .ifc t v x hr => .ifc t v x (Ext.repA h hr)
  | _, _, .undef x => .undef x
theorem Ext.repAs {w : World} {g : G} {σ : St} {w' : World} {g' : G} {σ' : St} (h : Ext w g σ w' g' σ') : ∀ {vs : List AV} {xs : List Value}, RepAs w g σ vs xs → RepAs w' g' σ' vs xs
  | _, _, .nil => .nil
  | _, _, .cons v x vs xs hr hs => .cons v x vs xs (Ext.repA h hr) (Ext.repAs h hs)
end

theorem cellsAre.keep {w w' : World} {b : Nat} {xs : List Value} (h : cellsAre w b xs) (hb : w'.heap[b]? = w.heap[b]?) : cellsAre w' b xs := by
  obtain ⟨e, f, h1, h2⟩ := h
  exact ⟨e, f, hb.trans h1, h2⟩

/-- An object whose block did not turn. -/
theorem Ext.repO {w g σ w' g' σ'} (h : Ext w g σ w' g' σ') {b : Nat} (hb : w'.heap[b]? = w.heap[b]?) {o : AObj} (hr : RepO w g σ b o) : RepO w' g' σ' b o := by
  cases hr with
  | cells cs xs hc hx => exact .cells cs xs (h.repAs hc) (hx.keep hb)
  | buf sz es xs hz hs hn hc hx => exact .buf sz es xs hz hs hn (h.repPs hc) (hx.keep hb)
  | iterS s pos x hx hp hw => exact .iterS s pos x hx hp (hb.trans hw)

/-! ### A call -/
def CalPost (w : World) (g : G) (s : Store) (K : AV → Store → Prop) (e : Ending) (w' : World) : Prop :=
  ∃ r v s' g', e = .returned v ∧ K r s' ∧ s.length ≤ s'.length ∧ RepA w' g' (getO s') r v ∧ Inv w' g' (getO s') ∧ Ext w g (getO s) w' g' (getO s') ∧ (∀ id, g'.C id → g.C id ∨ (s.length ≤ id ∧ id < s'.length))

/-- Called with these values, beside this store, the function returns: a value and a store of which K holds. -/
def Cal (P : Program) (f : Nat) (args : List AV) (s : Store) (K : AV → Store → Prop) : Prop :=
  (∃ fn, P.funcs[f]? = some fn ∧ (fn.name == "runtime.NumGoroutine") = false ∧ fn.body.isSome = true) ∧
  ∀ w g vs, Inv w g (getO s) → (∀ id, g.C id → id < s.length) → RepAs w g (getO s) args vs → Calls P f vs.toArray w (CalPost w g s K)
attribute [irreducible] Cal
end Go.Proofs.Ytfjolephpghafaa.AW
