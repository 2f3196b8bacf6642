/- A part of the proof: AW/Def, AW/Rep, AW/Ev. -/
import Derived.WalkKit
namespace Go.Proofs.YtjhgmaephpadpaaGreat.AW

set_option linter.unusedSimpArgs false
set_option linter.unusedVariables false
/-! ### Values as trees -/
inductive SK where | nil | shr | clip
  deriving DecidableEq, Inhabited

/-- A value that needs no store: what it reaches does not turn. -/
inductive PV where
  | bool (b : Bool)
  | int (k : IntKind) (n : Int)
  | str (s : List UInt8)
  | lit (v : Value)
  | agg (cs : List PV)
  | iface (t : Nat) (v : PV)
  | sl (k : SK) (sz : Nat) (xs : List PV)
  | pto (cs : List PV)
  deriving Inhabited

/-- A value beside a store. -/
inductive AV where
  | p (v : PV)
  | ref (id off : Nat)
  | osl (id tot off len : Nat)
  | eptr (id tot i sub : Nat)
  | map (id : Nat)
  | it (id : Nat)
  | agg (cs : List AV)
  | tup (vs : List AV)
  | clos (f : Nat) (caps : List AV)
  | ifc (t : Nat) (v : AV)
  | undef
  deriving Inhabited

/-- What a map's keys are. -/
inductive KK where | str | int (k : IntKind)
  deriving DecidableEq, Inhabited

inductive AObj where
  | cells (cs : List AV) (ty : Option Nat := .none)
  | buf (sz : Nat) (xs : List PV) (ty : Option Nat := .none)
  | map (kk : KK) (es : List (Nat × PV × PV)) (clock : Nat)
  | iterS (rest : List UInt8) (pos : Nat)
  | iterM (mid : Nat) (bs : List Nat) (left : List Nat × Option (Nat × Nat))
  deriving Inhabited

def keyIs : KK → PV → Bool
  | .str, .str _ => true
  | .int k, .int k' _ => decide (k = k')
  | _, _ => false
def keyEq : PV → PV → Bool
  | .str a, .str b => a == b
  | .int _ a, .int _ b => a == b
  | _, _ => false
/-- What a map has at a key. -/
def mGet : List (Nat × PV × PV) → PV → Option PV
  | [], _ => none
  | (_, k, v) :: r, key => match keyEq key k with | true => some v | false => mGet r key
/-- A map's entries with another value at a key (they have it). -/
def mSet : List (Nat × PV × PV) → PV → PV → List (Nat × PV × PV)
  | [], _, _ => []
  | (n, k, v) :: r, key, x => match keyEq key k with | true => (n, key, x) :: r | false => (n, k, v) :: mSet r key x
def mDel : List (Nat × PV × PV) → PV → List (Nat × PV × PV)
  | [], _ => []
  | (n, k, v) :: r, key => match keyEq key k with | true => r | false => (n, k, v) :: mDel r key
/-- .. whether they have it or not. -/
def mPut (es : List (Nat × PV × PV)) (clock : Nat) (key x : PV) : List (Nat × PV × PV) := match mGet es key with
  | some _ => mSet es key x
  | none => es ++ [(clock, key, x)]
def mClock (es : List (Nat × PV × PV)) (clock : Nat) (key : PV) : Nat := match mGet es key with | some _ => clock | none => clock + 1

abbrev Store := List (Option AObj)
abbrev Env := Nat → AV

def PV.cells : PV → List PV
  | .agg cs => cs
  | v => [v]

/-- A cell that is no struct. -/
def PV.one : PV → Bool | .agg _ => false | _ => true

def flat (xs : List PV) : List PV := xs.flatMap PV.cells

def AV.cells : AV → List AV
  | .p (.agg cs) => cs.map .p
  | .agg cs => cs
  | v => [v]

def AV.oneCell : AV → Bool
  | .tup _ | .undef | .agg _ | .p (.agg _) => false
  | _ => true

def allP : List AV → Option (List PV)
  | [] => some []
  | .p v :: t => (allP t).map (v :: ·)
  | _ :: _ => none

def mkAgg (cs : List AV) : AV := match allP cs with
  | some ps => .p (.agg ps)
  | none => .agg cs

def upd (e : Env) (t : Nat) (v : AV) : Env := fun u => match Nat.beq t u with | true => v | false => e u

def put (e : Env) (dst : Option Nat) (v : AV) : Env := match dst with | some t => upd e t v | none => e

def mk : List (Nat × AV) → Env
  | [] => fun _ => .undef
  | (t, v) :: r => upd (mk r) t v

def getO (s : Store) (id : Nat) : Option AObj := match s[id]? with | some o => o | none => none

/-! ### Constants -/
def absP : Nat → Value → Option PV
  | 0, _ => none
  | n + 1, v => match v with
    | .bool b => some (.bool b)
    | .int k x => some (.int k x)
    | .string s => some (.str s.data.toList)
    | .agg cs => (absPs n cs.toList).map .agg
    | .iface t x => (absP n x).map (.iface t)
    | .slice none 0 0 => some (.sl .nil 0 [])
    | .pointer none => some (.lit (.pointer none))
    | .nilIface => some (.lit .nilIface)
    | .nilFunc => some (.lit .nilFunc)
    | .map none => some (.lit (.map none))
    | .float k b => some (.lit (.float k b))
    | _ => none
where absPs : Nat → List Value → Option (List PV)
  | _, [] => some []
  | 0, _ :: _ => none
  | n + 1, x :: r => match absP n x, absPs n r with
    | some y, some ys => some (y :: ys)
    | _, _ => none

end Go.Proofs.YtjhgmaephpadpaaGreat.AW

namespace Go.Proofs.YtjhgmaephpadpaaGreat.AW

set_option linter.unusedSimpArgs false
set_option linter.unusedVariables false
/-! ### How a tree lies in memory -/
def litOk : Value → Prop
  | .pointer none | .nilIface | .nilFunc | .map none | .float _ _ => True
  | _ => False

/-- An element of so many cells. -/
def El (sz : Nat) (x : PV) : Prop := x.cells.length = sz ∧ x.cells.all PV.one = true

mutual
inductive RepP (w : World) (B : Nat → Prop) : PV → Value → Prop
  | bool (b : Bool) : RepP w B (.bool b) (.bool b)
  | int (k : IntKind) (n : Int) : RepP w B (.int k n) (.int k n)
  | str (x : ByteArray) : RepP w B (.str x.data.toList) (.string x)
  | lit (v : Value) (h : litOk v) : RepP w B (.lit v) v
  | agg (cs : List PV) (a : List Value) (h : RepPs w B cs a) : RepP w B (.agg cs) (.agg a.toArray)
  | iface (t : Nat) (v : PV) (x : Value) (h : RepP w B v x) : RepP w B (.iface t v) (.iface t x)
  | nil (k : SK) (sz : Nat) : RepP w B (.sl k sz []) (.slice none 0 0)
  | spt (k : SK) (sz : Nat) (a : Addr) (hk : k ≠ .nil) : RepP w B (.sl k sz []) (.slice (some a) 0 0)
  | sl (k : SK) (sz : Nat) (xs : List PV) (b off cap : Nat) (hk : k ≠ .nil) (hc : k = .clip → cap = xs.length) (hl : xs.length ≤ cap)
      (hs : ∀ x, x ∈ xs → El sz x) (hb : flat xs ≠ [] → ¬ B b) (h : CellsP w B b off (flat xs)) :
      RepP w B (.sl k sz xs) (.slice (some ⟨b, off, none⟩) xs.length cap)
  | pto (cs : List PV) (b off : Nat) (hb : cs ≠ [] → ¬ B b) (h : CellsP w B b off cs) : RepP w B (.pto cs) (.pointer (some ⟨b, off, none⟩))
inductive RepPs (w : World) (B : Nat → Prop) : List PV → List Value → Prop
  | nil : RepPs w B [] []
  | cons (v : PV) (x : Value) (vs : List PV) (xs : List Value) (h : RepP w B v x) (hs : RepPs w B vs xs) : RepPs w B (v :: vs) (x :: xs)
inductive CellsP (w : World) (B : Nat → Prop) : Nat → Nat → List PV → Prop
  | nil (b off : Nat) : CellsP w B b off []
  | cons (b off : Nat) (v : PV) (x : Value) (vs : List PV) (hc : w.cell? ⟨b, off, none⟩ = some x) (h : RepP w B v x) (hs : CellsP w B b (off + 1) vs) : CellsP w B b off (v :: vs)
end

theorem lt_of_cell {w : World} {b off : Nat} {x : Value} (h : w.cell? ⟨b, off, none⟩ = some x) : b < w.heap.size := by
  unfold World.cell? at h
  by_cases hb : b < w.heap.size
  · exact hb
  · rw [Array.getElem?_eq_none (by simpa using hb)] at h; cases h

theorem cell_same {w w' : World} {b off : Nat} (h : w'.heap[b]? = w.heap[b]?) : w'.cell? ⟨b, off, none⟩ = w.cell? ⟨b, off, none⟩ := by
  unfold World.cell?; rw [h]

theorem CellsP.lt {w : World} {B : Nat → Prop} {b off : Nat} {cs : List PV} (hne : cs ≠ []) (h : CellsP w B b off cs) : b < w.heap.size := by
  cases h with
  | nil => exact absurd rfl hne
  | cons _ _ v x vs hc _ _ => exact lt_of_cell hc

mutual
theorem RepP.keep {w w' : World} {B B' : Nat → Prop} (hm : ∀ b, b < w.heap.size → ¬ B b → w'.heap[b]? = w.heap[b]?) (hB : ∀ b, b < w.heap.size → B' b → B b) :
    ∀ {v : PV} {x : Value}, RepP w B v x → RepP w' B' v x
  | _, _, .bool b => .bool b
  | _, _, .int k n => .int k n
  | _, _, .str x => .str x
  | _, _, .lit v h => .lit v h
  | _, _, .agg cs a h => .agg cs a (RepPs.keep hm hB h)
  | _, _, .iface t v x h => .iface t v x (RepP.keep hm hB h)
  | _, _, .nil k sz => .nil k sz
  | _, _, .spt k sz a hk => .spt k sz a hk
  | _, _, .sl k sz xs b off cap hk hc hl hs hb h =>
    .sl k sz xs b off cap hk hc hl hs (fun hne hb' => hb hne (hB b (CellsP.lt hne h) hb')) (CellsP.keep hm hB h hb)
  | _, _, .pto cs b off hb h => .pto cs b off (fun hne hb' => hb hne (hB b (CellsP.lt hne h) hb')) (CellsP.keep hm hB h hb)
theorem RepPs.keep {w w' : World} {B B' : Nat → Prop} (hm : ∀ b, b < w.heap.size → ¬ B b → w'.heap[b]? = w.heap[b]?) (hB : ∀ b, b < w.heap.size → B' b → B b) :
    ∀ {vs : List PV} {xs : List Value}, RepPs w B vs xs → RepPs w' B' vs xs
  | _, _, .nil => .nil
  | _, _, .cons v x vs xs h hs => .cons v x vs xs (RepP.keep hm hB h) (RepPs.keep hm hB hs)
theorem CellsP.keep {w w' : World} {B B' : Nat → Prop} (hm : ∀ b, b < w.heap.size → ¬ B b → w'.heap[b]? = w.heap[b]?) (hB : ∀ b, b < w.heap.size → B' b → B b) :
    ∀ {b off : Nat} {cs : List PV}, CellsP w B b off cs → (cs ≠ [] → ¬ B b) → CellsP w' B' b off cs
  | _, _, _, .nil b off, _ => .nil b off
  | _, _, _, .cons b off v x vs hc h hs, hb =>
    .cons b off v x vs ((cell_same (hm b (lt_of_cell hc) (hb (by simp)))).trans hc) (RepP.keep hm hB h) (CellsP.keep hm hB hs (fun _ => hb (by simp)))
end

/-! ### What is beside the trees: names of blocks -/
structure G where
  ι : Nat → Nat
  X : Nat → Prop
  C : Nat → Prop
  R : Nat → Prop := fun _ => True

abbrev St := Nat → Option AObj

/-- A block of one of the store's own objects. -/
def Own (g : G) (σ : St) (b : Nat) : Prop := ∃ id, σ id ≠ none ∧ g.R id ∧ g.ι id = b
/-- A block that may turn. -/
def Lv (g : G) (σ : St) (b : Nat) : Prop := g.X b ∨ Own g σ b

/-- A slice of an owned object, as it lies in memory; an object without a block has none but nil. -/
def OslV (w : World) (g : G) (id sz tot off len : Nat) (x : Value) : Prop :=
  off + len ≤ tot ∧ (¬ g.R id → x = .slice none 0 0 ∧ off = 0) ∧ (g.R id → ∃ a cap, x = .slice (some a) len cap ∧ a.spot = none ∧ len ≤ cap ∧ (0 < cap → a = ⟨g.ι id, off * sz, none⟩ ∧ ∃ e m, w.shape? (g.ι id) = some (e, m) ∧ (off + cap) * sz ≤ m))

def Room (w : World) (b n : Nat) : Prop := ∃ e m, w.shape? b = some (e, m) ∧ n ≤ m

mutual
inductive RepA (w : World) (g : G) (σ : St) : AV → Value → Prop
  | p (v : PV) (x : Value) (h : RepP w (Lv g σ) v x) : RepA w g σ (.p v) x
  | ref (id off : Nat) (hc : g.C id) (hb : ∀ sz xs ty, σ id ≠ some (.buf sz xs ty)) : RepA w g σ (.ref id off) (.pointer (some ⟨g.ι id, off, none⟩))
  | osl (id tot off len : Nat) (x : Value) (hc : g.C id) (hx : ∃ q cap, x = .slice q len cap ∧ (q = none → len = 0)) (ht : ∀ sz xs ty, σ id = some (.buf sz xs ty) → tot ≤ xs.length)
      (h : ∀ sz xs ty, σ id = some (.buf sz xs ty) → xs.length = tot → OslV w g id sz tot off len x) (hot : off ≤ tot := by omega) :
      RepA w g σ (.osl id tot off len) x
  | oslc (id n : Nat) (hc : g.C id) (hb : ∀ sz xs ty, σ id ≠ some (.buf sz xs ty)) : RepA w g σ (.osl id 0 1 n) (.slice (some ⟨g.ι id, 0, none⟩) n n)
  | eptr (id tot i sub : Nat) (a : Addr) (hc : g.C id) (ht : ∀ sz xs ty, σ id = some (.buf sz xs ty) → tot ≤ xs.length)
      (h : ∀ sz xs ty, σ id = some (.buf sz xs ty) → xs.length = tot → a = ⟨g.ι id, i * sz + sub, none⟩ ∧ g.R id) : RepA w g σ (.eptr id tot i sub) (.pointer (some a))
  | map (id : Nat) (hc : g.C id) (hb : ∀ sz xs ty, σ id ≠ some (.buf sz xs ty)) : RepA w g σ (.map id) (.map (some (g.ι id)))
  | it (id : Nat) (hc : g.C id) (hb : ∀ sz xs ty, σ id ≠ some (.buf sz xs ty)) : RepA w g σ (.it id) (.pointer (some ⟨g.ι id, 0, none⟩))
  | agg (cs : List AV) (a : List Value) (h : RepAs w g σ cs a) : RepA w g σ (.agg cs) (.agg a.toArray)
  | tup (vs : List AV) (a : List Value) (h : RepAs w g σ vs a) : RepA w g σ (.tup vs) (.tuple a.toArray)
  | clos (f : Nat) (caps : List AV) (a : List Value) (h : RepAs w g σ caps a) : RepA w g σ (.clos f caps) (.func (.func f) #[] a.toArray)
  | ifc (t : Nat) (v : AV) (x : Value) (h : RepA w g σ v x) : RepA w g σ (.ifc t v) (.iface t x)
  | undef (x : Value) : RepA w g σ .undef x
inductive RepAs (w : World) (g : G) (σ : St) : List AV → List Value → Prop
  | nil : RepAs w g σ [] []
  | cons (v : AV) (x : Value) (vs : List AV) (xs : List Value) (h : RepA w g σ v x) (hs : RepAs w g σ vs xs) : RepAs w g σ (v :: vs) (x :: xs)
end

/-- What a store's object is in memory. -/
def cellsAre (w : World) (b : Nat) (xs : List Value) : Prop := ∃ e f, w.heap[b]? = some (.cells xs.toArray e f) ∧ (f.1 = f.2 ∨ xs.length ≤ f.1)

def cellsFlat (w : World) (b : Nat) (xs : List Value) : Prop := ∃ e, w.heap[b]? = some (.cells xs.toArray e (0, 0))
theorem cellsFlat.are {w : World} {b : Nat} {xs : List Value} (h : cellsFlat w b xs) : cellsAre w b xs := by
  obtain ⟨e, h⟩ := h; exact ⟨e, (0, 0), h, .inl rfl⟩
theorem cellsFlat.keep {w w' : World} {b : Nat} {xs : List Value} (h : cellsFlat w b xs) (hb : w'.heap[b]? = w.heap[b]?) : cellsFlat w' b xs := by
  obtain ⟨e, h⟩ := h; exact ⟨e, hb.trans h⟩
/-- The entries of a map: when it was laid, key, value. -/
inductive EntsP (w : World) (B : Nat → Prop) : List (Nat × PV × PV) → List MapEntry → Prop
  | nil : EntsP w B [] []
  | cons (n : Nat) (k v : PV) (x y : Value) (es : List (Nat × PV × PV)) (xs : List MapEntry) (hk : RepP w B k x) (hv : RepP w B v y) (h : EntsP w B es xs) : EntsP w B ((n, k, v) :: es) (⟨x, y, n⟩ :: xs)

inductive RepO (w : World) (g : G) (σ : St) (b : Nat) : AObj → Prop
  | cells (cs : List AV) (ty : Option Nat) (xs : List Value) (h : RepAs w g σ cs xs) (hb : cellsFlat w b xs) (ht : ∀ u, ty = some u → ∃ n, w.shape? b = some (u, n)) : RepO w g σ b (.cells cs ty)
  | buf (sz : Nat) (es : List PV) (xs : List Value) (hz : 0 < sz) (hs : ∀ x, x ∈ es → El sz x) (hn : sz * es.length ≤ xs.length)
      (h : RepPs w (Lv g σ) (flat es) (xs.take (sz * es.length))) (hb : cellsAre w b xs) (ty : Option Nat) (ht : ∀ u, ty = some u → ∃ n, w.shape? b = some (u, n)) : RepO w g σ b (.buf sz es ty)
  | iterS (s : List UInt8) (pos : Nat) (x : ByteArray) (hx : x.data.toList.drop pos = s) (hp : pos ≤ x.size) (hb : w.heap[b]? = some (.stringIter x pos)) : RepO w g σ b (.iterS s pos)
  | map (kk : KK) (es : List (Nat × PV × PV)) (clock : Nat) (xs : List MapEntry) (h : EntsP w (Lv g σ) es xs) (hb : w.heap[b]? = some (.map xs.toArray clock)) (hk : ∀ q, q ∈ es → keyIs kk q.2.1 = true) (hc : ∀ q, q ∈ es → q.1 < clock) (hn : (es.map (·.1)).Nodup) : RepO w g σ b (.map kk es clock)
  | iterM (mid : Nat) (bs : List Nat) (left : List Nat × Option (Nat × Nat)) (since last : Nat) (seen : Array Nat) (hC : g.C mid) (hm : ∀ sz xs ty, σ mid ≠ some (.buf sz xs ty)) (hl : left.1 = (bs.filter fun x => !seen.contains x) ∧ ∀ b c, left.2 = some (b, c) → seen.back? = some b ∧ last = c)
      (hs : ∀ x, x ∈ bs → x < since ∧ x < last) (hb : w.heap[b]? = some (.mapIter (some (g.ι mid)) since seen last)) : RepO w g σ b (.iterM mid bs left)

structure Inv (w : World) (g : G) (σ : St) : Prop where
  made : ∀ id o, σ id = some o → g.C id
  lies : ∀ id o, σ id = some o → g.R id → g.ι id < w.heap.size ∧ ¬ g.X (g.ι id)
  xlt : ∀ b, g.X b → b < w.heap.size
  inj : ∀ id jd, σ id ≠ none → σ jd ≠ none → g.R id → g.R jd → g.ι id = g.ι jd → id = jd
  rep : ∀ id o, σ id = some o → g.R id → RepO w g σ (g.ι id) o
  void : ∀ id o, σ id = some o → ¬ g.R id → ∃ sz ty, 0 < sz ∧ o = .buf sz [] ty

theorem Inv.real {w : World} {g : G} {σ : St} (h : Inv w g σ) {id : Nat} {o : AObj} (hs : σ id = some o) (hn : ∀ sz ty, o ≠ .buf sz [] ty) : g.R id :=
  Classical.byContradiction fun hr => by obtain ⟨sz, ty, _, e⟩ := h.void id o hs hr; exact hn _ _ e
theorem Inv.repR {w : World} {g : G} {σ : St} (h : Inv w g σ) {id : Nat} {o : AObj} (hs : σ id = some o) (hn : ∀ sz ty, o ≠ .buf sz [] ty) : RepO w g σ (g.ι id) o := h.rep id o hs (h.real hs hn)

def sameKind : AObj → AObj → Prop
  | .cells a t, .cells b u => a.length = b.length ∧ t = u
  | .buf s xs p, .buf t ys q => s = t ∧ xs.length ≤ ys.length ∧ p = q
  | .map k _ _, .map l _ _ => k = l
  | .iterS _ _, .iterS _ _ => True
  | .iterM _ _ _, .iterM _ _ _ => True
  | _, _ => False

structure Ext (w : World) (g : G) (σ : St) (w' : World) (g' : G) (σ' : St) : Prop where
  size : w.heap.size ≤ w'.heap.size
  os : w'.os = w.os
  tape : w'.tape = w.tape
  output : w'.output = w.output
  frame : ∀ b, b < w.heap.size → ¬ Own g σ b → w'.heap[b]? = w.heap[b]?
  shape : ∀ b, b < w.heap.size → w'.shape? b = w.shape? b
  X : g'.X = g.X
  C : ∀ id, g.C id → g'.C id
  own : ∀ b, b < w.heap.size → Own g' σ' b → Own g σ b
  obj : ∀ id, g.C id → ∀ o', σ' id = some o' → ∃ o, σ id = some o ∧ sameKind o o'
  ι1 : ∀ id, g.C id → (∀ sz xs ty, σ id ≠ some (.buf sz xs ty)) → g'.ι id = g.ι id ∧ (g'.R id ↔ g.R id)
  ι2 : ∀ id sz xs xs' ty ty', g.C id → σ id = some (.buf sz xs ty) → σ' id = some (.buf sz xs' ty') → xs.length = xs'.length → g'.ι id = g.ι id ∧ (g'.R id ↔ g.R id)
  drawn : w.drawn ≤ w'.drawn

theorem sameKind.refl (o : AObj) : sameKind o o := by cases o <;> simp [sameKind]
theorem sameKind.trans {a b c : AObj} (h : sameKind a b) (k : sameKind b c) : sameKind a c := by
  cases a <;> cases b <;> first | exact h.elim | skip
  all_goals cases c <;> first | exact k.elim | exact ⟨h.1.trans k.1, Nat.le_trans h.2.1 k.2.1, h.2.2.trans k.2.2⟩ | exact ⟨h.1.trans k.1, h.2.trans k.2⟩ | exact Eq.trans h k | exact True.intro

theorem Ext.refl (w : World) (g : G) (σ : St) : Ext w g σ w g σ :=
  ⟨Nat.le_refl _, rfl, rfl, rfl, fun _ _ _ => rfl, fun _ _ => rfl, rfl, fun _ h => h, fun _ _ h => h, fun _ _ o h => ⟨o, h, .refl o⟩, fun _ _ _ => ⟨rfl, .rfl⟩, fun _ _ _ _ _ _ _ _ _ _ => ⟨rfl, .rfl⟩, Nat.le_refl _⟩

theorem Ext.trans {w g σ w' g' σ' w'' g'' σ''} (h : Ext w g σ w' g' σ') (k : Ext w' g' σ' w'' g'' σ'') : Ext w g σ w'' g'' σ'' where
  size := Nat.le_trans h.size k.size
  os := k.os.trans h.os
  tape := k.tape.trans h.tape
  output := k.output.trans h.output
  frame b hb ho := (k.frame b (Nat.lt_of_lt_of_le hb h.size) (fun e => ho (h.own b hb e))).trans (h.frame b hb ho)
  shape b hb := (k.shape b (Nat.lt_of_lt_of_le hb h.size)).trans (h.shape b hb)
  X := k.X.trans h.X
  C id hc := k.C id (h.C id hc)
  own b hb e := h.own b hb (k.own b (Nat.lt_of_lt_of_le hb h.size) e)
  obj id hc o'' ho := by
    obtain ⟨o', ho', hk'⟩ := k.obj id (h.C id hc) o'' ho
    obtain ⟨o, ho, hk⟩ := h.obj id hc o' ho'
    exact ⟨o, ho, hk.trans hk'⟩
  ι1 id hc hn := by
    have hn' : ∀ sz xs ty, σ' id ≠ some (.buf sz xs ty) := by
      intro sz xs ty e
      obtain ⟨o, ho, hk⟩ := h.obj id hc _ e
      cases o <;> simp [sameKind] at hk
      exact hn _ _ _ ho
    exact ⟨(k.ι1 id (h.C id hc) hn').1.trans (h.ι1 id hc hn).1, (k.ι1 id (h.C id hc) hn').2.trans (h.ι1 id hc hn).2⟩
  ι2 id sz xs xs'' ty ty'' hc hx hx'' hl := by
    obtain ⟨o', ho', hk'⟩ := k.obj id (h.C id hc) _ hx''
    obtain ⟨o, ho, hk⟩ := h.obj id hc _ ho'
    rw [hx] at ho; cases ho
    cases o' <;> try exact hk.elim
    rename_i sz' xs' ty'
    obtain ⟨e1, hk, _⟩ := hk
    obtain ⟨e2, hk', _⟩ := hk'
    subst e1
    have e3 : xs.length = xs'.length := by omega
    have e4 : xs'.length = xs''.length := by omega
    have q1 := k.ι2 id _ xs' xs'' _ _ (h.C id hc) ho' hx'' e4
    have q2 := h.ι2 id _ xs xs' _ _ hc hx ho' e3
    exact ⟨q1.1.trans q2.1, q1.2.trans q2.2⟩
  drawn := Nat.le_trans h.drawn k.drawn

theorem Ext.lv {w g σ w' g' σ'} (h : Ext w g σ w' g' σ') (b : Nat) (hb : b < w.heap.size) (hl : Lv g' σ' b) : Lv g σ b := by
  rcases hl with hx | ho
  · exact .inl (h.X ▸ hx)
  · exact .inr (h.own b hb ho)

theorem Ext.mem {w g σ w' g' σ'} (h : Ext w g σ w' g' σ') (b : Nat) (hb : b < w.heap.size) (hl : ¬ Lv g σ b) : w'.heap[b]? = w.heap[b]? :=
  h.frame b hb (fun e => hl (.inr e))

theorem Ext.repP {w g σ w' g' σ'} (h : Ext w g σ w' g' σ') {v : PV} {x : Value} (hr : RepP w (Lv g σ) v x) : RepP w' (Lv g' σ') v x := hr.keep h.mem h.lv
theorem Ext.repPs {w g σ w' g' σ'} (h : Ext w g σ w' g' σ') {v : List PV} {x : List Value} (hr : RepPs w (Lv g σ) v x) : RepPs w' (Lv g' σ') v x := hr.keep h.mem h.lv

theorem Ext.notBuf {w g σ w' g' σ'} (h : Ext w g σ w' g' σ') {id : Nat} (hc : g.C id) (hn : ∀ sz xs ty, σ id ≠ some (.buf sz xs ty)) : ∀ sz xs ty, σ' id ≠ some (.buf sz xs ty) := by
  intro sz xs ty e
  obtain ⟨o, ho, hk⟩ := h.obj id hc _ e
  cases o <;> simp [sameKind] at hk
  exact hn _ _ _ ho

theorem Room.keep {w w' : World} {b n : Nat} (h : Room w b n) (hs : w'.shape? b = w.shape? b) : Room w' b n := by
  obtain ⟨e, m, h1, h2⟩ := h
  exact ⟨e, m, hs.trans h1, h2⟩
theorem Room.lt {w : World} {b n : Nat} (h : Room w b n) : b < w.heap.size := by
  obtain ⟨e, m, h1, _⟩ := h
  unfold World.shape? at h1
  by_cases hb : b < w.heap.size
  · exact hb
  · rw [Array.getElem?_eq_none (by simpa using hb)] at h1; cases h1

mutual
theorem Ext.repA {w : World} {g : G} {σ : St} {w' : World} {g' : G} {σ' : St} (h : Ext w g σ w' g' σ') : ∀ {v : AV} {x : Value}, RepA w g σ v x → RepA w' g' σ' v x
  | _, _, .p v x hr => .p v x (h.repP hr)
  | _, _, .ref id off hc hb => by rw [← (h.ι1 id hc hb).1]; exact .ref id off (h.C id hc) (h.notBuf hc hb)
  | _, _, .oslc id n hc hb => by rw [← (h.ι1 id hc hb).1]; exact .oslc id n (h.C id hc) (h.notBuf hc hb)
  | _, _, .osl id tot off len x hc hx ht hr hot => by
    refine .osl id tot off len x (h.C id hc) hx (fun sz xs' ty e => ?_) (fun sz xs' ty e hl => ?_) hot
    · obtain ⟨o, ho, hk⟩ := h.obj id hc _ e
      cases o <;> simp [sameKind] at hk
      exact Nat.le_trans (ht _ _ _ ho) hk.2.1
    · obtain ⟨o, ho, hk⟩ := h.obj id hc _ e
      cases o <;> simp [sameKind] at hk
      obtain ⟨rfl, hk, _⟩ := hk
      have h1 := ht _ _ _ ho
      have hi := h.ι2 id _ _ xs' _ _ hc ho e (by omega)
      obtain ⟨a1, a2, a3⟩ := hr _ _ _ ho (by omega)
      refine ⟨a1, fun hR => a2 (fun q => hR (hi.2.2 q)), fun hR => ?_⟩
      obtain ⟨a, cap, b1, b2, b3, b4⟩ := a3 (hi.2.1 hR)
      refine ⟨a, cap, b1, b2, b3, fun hc0 => ?_⟩
      obtain ⟨c1, e1, m1, c2, c3⟩ := b4 hc0
      have hlt : g.ι id < w.heap.size := by
        unfold World.shape? at c2
        by_cases hb : g.ι id < w.heap.size
        · exact hb
        · rw [Array.getElem?_eq_none (by simpa using hb)] at c2; cases c2
      rw [hi.1]
      exact ⟨c1, e1, m1, (h.shape _ hlt).trans c2, c3⟩
  | _, _, .eptr id tot i sub a hc ht hr => by
    refine .eptr id tot i sub a (h.C id hc) (fun sz xs' ty e => ?_) (fun sz xs' ty e hl => ?_)
    · obtain ⟨o, ho, hk⟩ := h.obj id hc _ e
      cases o <;> simp [sameKind] at hk
      exact Nat.le_trans (ht _ _ _ ho) hk.2.1
    · obtain ⟨o, ho, hk⟩ := h.obj id hc _ e
      cases o <;> simp [sameKind] at hk
      obtain ⟨rfl, hk, _⟩ := hk
      have h1 := ht _ _ _ ho
      have hi := h.ι2 id _ _ xs' _ _ hc ho e (by omega)
      rw [hi.1]
      obtain ⟨k1, k2⟩ := hr _ _ _ ho (by omega)
      exact ⟨k1, hi.2.2 k2⟩
  | _, _, .map id hc hb => by rw [← (h.ι1 id hc hb).1]; exact .map id (h.C id hc) (h.notBuf hc hb)
  | _, _, .it id hc hb => by rw [← (h.ι1 id hc hb).1]; exact .it id (h.C id hc) (h.notBuf hc hb)
  | _, _, .agg cs a hr => .agg cs a (Ext.repAs h hr)
  | _, _, .tup cs a hr => .tup cs a (Ext.repAs h hr)
  | _, _, .clos f cs a hr => .clos f cs a (Ext.repAs h hr)
  | _, _, .ifc t v x hr => .ifc t v x (Ext.repA h hr)
  | _, _, .undef x => .undef x
theorem Ext.repAs {w : World} {g : G} {σ : St} {w' : World} {g' : G} {σ' : St} (h : Ext w g σ w' g' σ') : ∀ {vs : List AV} {xs : List Value}, RepAs w g σ vs xs → RepAs w' g' σ' vs xs
  | _, _, .nil => .nil
  | _, _, .cons v x vs xs hr hs => .cons v x vs xs (Ext.repA h hr) (Ext.repAs h hs)
end

theorem cellsAre.keep {w w' : World} {b : Nat} {xs : List Value} (h : cellsAre w b xs) (hb : w'.heap[b]? = w.heap[b]?) : cellsAre w' b xs := by
  obtain ⟨e, f, h1, h2⟩ := h
  exact ⟨e, f, hb.trans h1, h2⟩

theorem EntsP.keep {w w' : World} {B B' : Nat → Prop} (hm : ∀ b, b < w.heap.size → ¬ B b → w'.heap[b]? = w.heap[b]?) (hB : ∀ b, b < w.heap.size → B' b → B b) : ∀ {es : List (Nat × PV × PV)} {xs : List MapEntry}, EntsP w B es xs → EntsP w' B' es xs
  | _, _, .nil => .nil
  | _, _, .cons n k v x y es xs hk hv h => .cons n k v x y es xs (hk.keep hm hB) (hv.keep hm hB) (h.keep hm hB)

/-- An object whose block did not turn. -/
theorem Ext.repO {w g σ w' g' σ'} (h : Ext w g σ w' g' σ') {b : Nat} (hb : w'.heap[b]? = w.heap[b]?) {o : AObj} (hr : RepO w g σ b o) : RepO w' g' σ' b o := by
  cases hr with
  | cells cs _ xs hc hx ht => exact .cells cs _ xs (h.repAs hc) (hx.keep hb) (fun u hu => by obtain ⟨n, hn⟩ := ht u hu; exact ⟨n, (show _ = _ by unfold World.shape?; rw [hb]).trans hn⟩)
  | buf sz es xs hz hs hn hc hx ty ht => exact .buf sz es xs hz hs hn (h.repPs hc) (hx.keep hb) ty (fun u hu => by obtain ⟨n, hn⟩ := ht u hu; exact ⟨n, (show _ = _ by unfold World.shape?; rw [hb]).trans hn⟩)
  | iterS s pos x hx hp hw => exact .iterS s pos x hx hp (hb.trans hw)
  | map kk es clock xs he hw hk hc hn => exact .map kk es clock xs (he.keep h.mem h.lv) (hb.trans hw) hk hc hn
  | iterM mid bs left since last seen hC hm hl hs hw => exact .iterM mid bs left since last seen (h.C _ hC) (h.notBuf hC hm) hl hs (by rw [hb, hw, (h.ι1 mid hC hm).1])

/-! ### A call -/
def CalPost (w : World) (g : G) (s : Store) (K : AV → Store → Prop) (e : Ending) (w' : World) : Prop :=
  ∃ r v s' g', e = .returned v ∧ K r s' ∧ s.length ≤ s'.length ∧ RepA w' g' (getO s') r v ∧ Inv w' g' (getO s') ∧ Ext w g (getO s) w' g' (getO s') ∧ (∀ id, g'.C id → g.C id ∨ (s.length ≤ id ∧ id < s'.length))

/-- The tables of the library that are known by their names. -/
def tableOf (name : String) : Option (List PV) :=
  if name = "internal/strconv.uint64pow10" then some ((List.range 20).map fun i => .int .u64 ((10 : Int) ^ i))
  else if name = "math/bits.deBruijn32tab" then some ([0, 1, 28, 2, 29, 14, 24, 3, 30, 22, 20, 15, 25, 17, 4, 8, 31, 27, 13, 23, 21, 19, 16, 7, 26, 12, 18, 6, 11, 5, 10, 9].map fun n => .int .u8 n)
  else if name = "math/bits.deBruijn64tab" then some ([0, 1, 56, 2, 57, 49, 28, 3, 61, 58, 42, 50, 38, 29, 17, 4, 62, 47, 59, 36, 45, 43, 51, 22, 53, 39, 33, 30, 24, 18, 12, 5, 63, 55, 48, 27, 60, 41, 37, 16, 46, 35, 44, 21, 52, 32, 23, 11, 54, 26, 40, 15, 34, 20, 31, 10, 25, 14, 19, 9, 13, 8, 7, 6].map fun n => .int .u8 n)
  else none
/-- What a package-level variable of the program is known to hold. -/
def errT (P : Program) : Option Nat := (P.funcs.toList.find? fun f => f.name == "(*errors.errorString).Error").bind fun f => f.params[0]?
def glob (P : Program) (i : Nat) : Option (List PV) := (P.globals[i]?).bind fun x => match tableOf x.name with
  | some l => some l
  | none => if x.name = "strconv.ErrSyntax" ∨ x.name = "strconv.ErrRange" then (errT P).map fun t => [.iface t (.pto [])] else none
/-- All that is known of package-level variables is so. -/
def Gk (P : Program) (w : World) (g : G) (σ : St) : Prop := ∀ i cs, glob P i = some cs → i < w.heap.size ∧ ¬ Lv g σ i ∧ CellsP w (Lv g σ) i 0 cs
theorem Gk.ext {P : Program} {w g σ w' g' σ'} (h : Gk P w g σ) (k : Ext w g σ w' g' σ') : Gk P w' g' σ' := fun i cs hi => by
  obtain ⟨h1, h2, h3⟩ := h i cs hi
  exact ⟨Nat.lt_of_lt_of_le h1 k.size, fun hl => h2 (k.lv i h1 hl), h3.keep k.mem k.lv (fun _ => h2)⟩

/-- A call of a function, of the program's or of none. -/
def CallsX (P : Program) (f : Nat) (args : Array Value) (w : World) (Q : Ending → World → Prop) : Prop :=
  (∃ fn, P.funcs[f]? = some fn ∧ (fn.name == "runtime.NumGoroutine") = false ∧ fn.body.isSome = true) ∧ Calls P f args w Q ∨
  ∃ v w', (callFunc f args).run P w = .ok (.value v) w' ∧ Q (.returned v) w'
theorem CallsX.mono {P : Program} {f : Nat} {args : Array Value} {w : World} {Q Q' : Ending → World → Prop} (h : CallsX P f args w Q) (hq : ∀ e w', Q e w' → Q' e w') : CallsX P f args w Q' := by
  rcases h with ⟨h1, h2⟩ | ⟨v, w', h1, h2⟩
  · exact .inl ⟨h1, h2.mono hq⟩
  · exact .inr ⟨v, w', h1, hq _ _ h2⟩

/-- Called with these values, beside this store, the function returns: a value and a store of which K holds. -/
def Cal (P : Program) (f : Nat) (args : List AV) (s : Store) (K : AV → Store → Prop) : Prop :=
  ∀ w g vs, Inv w g (getO s) → Gk P w g (getO s) → (∀ id, g.C id → id < s.length) → RepAs w g (getO s) args vs → CallsX P f vs.toArray w (CalPost w g s K)
attribute [irreducible] Cal
end Go.Proofs.YtjhgmaephpadpaaGreat.AW

namespace Go.Proofs.YtjhgmaephpadpaaGreat.AW

set_option linter.unusedSimpArgs false
set_option linter.unusedVariables false
/-! ### What the tables tell of a type -/
def dsc (P : Program) (t : Nat) : TypeDesc := (P.underlying t).getD .invalid
def szT (P : Program) (t : Nat) : Nat := match P.info? t with | some i => i.size | none => 0
def aggD : TypeDesc → Bool | .struct _ => true | .array _ _ => true | _ => false
/-- Is a value of the type made of parts, and of how many cells? -/
def kd (P : Program) (t : Nat) : Option (Bool × Nat) := match P.underlying t, P.info? t with
  | some d, some i => some (aggD d, i.size)
  | _, _ => none
def zeroT (P : Program) (t : Nat) : Option PV := match P.info? t with
  | some i => (match i.zero with | some v => absP 200 v | none => none)
  | none => none
def fldT (P : Program) (t f : Nat) : Option Field := match dsc P t with | .struct fs => fs[f]? | _ => none

/-! ### The words at which an evaluation stands still -/
/-- Two ways. -/
def Br (b : Bool) (A B : Prop) : Prop := (b = true → A) ∧ (b = false → B)
/-- A list with something in it, or none. -/
def BrL {α : Type} (ys : List α) (A B : Prop) : Prop := (ys = [] → A) ∧ (ys ≠ [] → B)
/-- An element. -/
def Idx (xs : List PV) (i : Int) (K : PV → Prop) : Prop := 0 ≤ i ∧ ∃ x, xs[i.toNat]? = some x ∧ K x
/-- A byte. -/
def IdxB (xs : List UInt8) (i : Int) (K : UInt8 → Prop) : Prop := 0 ≤ i ∧ ∃ x, xs[i.toNat]? = some x ∧ K x
/-- A test that must come out. -/
def Chk (b : Bool) (K : Prop) : Prop := b = true ∧ K
/-- What is to be shown on the way. -/
def Ob (c : Prop) (K : Prop) : Prop := c ∧ K

/-- Something, or nothing. -/
def Opt (o : Option PV) (A : PV → Prop) (B : Prop) : Prop := (∀ v, o = some v → A v) ∧ (o = none → B)
/-- Any of what is left. -/
def Any (left : List Nat) (es : List (Nat × PV × PV)) (K : Nat → PV → PV → Prop) : Prop := ∀ b k v, b ∈ left → (b, k, v) ∈ es → K b k v

theorem Opt.mk {o : Option PV} {A : PV → Prop} {B : Prop} (h : ∀ v, o = some v → A v) (k : o = none → B) : Opt o A B := ⟨h, k⟩
theorem Opt.s {o : Option PV} {A : PV → Prop} {B : Prop} {v : PV} (h : o = some v) (k : A v) : Opt o A B := ⟨fun x hx => by rw [h] at hx; cases hx; exact k, fun hn => by rw [h] at hn; cases hn⟩
theorem Opt.n {o : Option PV} {A : PV → Prop} {B : Prop} (h : o = none) (k : B) : Opt o A B := ⟨fun x hx => (by rw [h] at hx; cases hx), fun _ => k⟩
theorem Any.mk {left : List Nat} {es : List (Nat × PV × PV)} {K : Nat → PV → PV → Prop} (h : ∀ b k v, b ∈ left → (b, k, v) ∈ es → K b k v) : Any left es K := h
theorem Br.mk {b : Bool} {A B : Prop} (h : b = true → A) (k : b = false → B) : Br b A B := ⟨h, k⟩
theorem Br.t {b : Bool} {A B : Prop} (hb : b = true) (h : A) : Br b A B := ⟨fun _ => h, fun k => absurd (hb.symm.trans k) (by decide)⟩
theorem Br.f {b : Bool} {A B : Prop} (hb : b = false) (h : B) : Br b A B := ⟨fun k => absurd (hb.symm.trans k) (by decide), fun _ => h⟩
theorem BrL.mk {α : Type} {ys : List α} {A B : Prop} (h : ys = [] → A) (k : ys ≠ [] → B) : BrL ys A B := ⟨h, k⟩
theorem BrL.c {α : Type} {y : α} {ys : List α} {A B : Prop} (h : B) : BrL (y :: ys) A B := ⟨fun k => absurd k (by simp), fun _ => h⟩
theorem BrL.n {α : Type} {A B : Prop} (h : A) : BrL ([] : List α) A B := ⟨fun _ => h, fun k => absurd rfl k⟩
theorem Idx.mk {xs : List PV} {i : Int} {K : PV → Prop} (x : PV) (h0 : 0 ≤ i) (h : xs[i.toNat]? = some x) (k : K x) : Idx xs i K := ⟨h0, x, h, k⟩
theorem IdxB.mk {xs : List UInt8} {i : Int} {K : UInt8 → Prop} (x : UInt8) (h0 : 0 ≤ i) (h : xs[i.toNat]? = some x) (k : K x) : IdxB xs i K := ⟨h0, x, h, k⟩
theorem Chk.mk {b : Bool} {K : Prop} (h : b = true) (k : K) : Chk b K := ⟨h, k⟩
theorem Ob.mk {c K : Prop} (h : c) (k : K) : Ob c K := ⟨h, k⟩

/-- The value, laid open. -/
def force (a : AV) (K : AV → Prop) : Prop := match a with
  | .p v => K (.p v) | .ref i o => K (.ref i o) | .osl a b c d => K (.osl a b c d) | .eptr a b c d => K (.eptr a b c d)
  | .map i => K (.map i) | .it i => K (.it i) | .agg cs => K (.agg cs) | .tup vs => K (.tup vs) | .clos f c => K (.clos f c)
  | .ifc t v => K (.ifc t v) | .undef => K .undef
theorem force_eq (a : AV) (K : AV → Prop) : force a K = K a := by cases a <;> rfl

/-- A store with one object more. -/
def snoc (s : Store) (x : Option AObj) (K : Store → Nat → Prop) : Prop := match s with
  | [] => K [x] 0
  | o :: r => snoc r x fun r' n => K (o :: r') (n + 1)
theorem snoc_eq (s : Store) (x : Option AObj) (K : Store → Nat → Prop) : snoc s x K = K (s ++ [x]) s.length := by
  induction s generalizing K with
  | nil => rfl
  | cons o r ih => simp only [snoc, ih]; rfl

/-! ### Operands, numbers -/
def ev (e : Env) : Operand → AV
  | .tmp t => e t
  | .const v => match absP 200 v with | some x => .p x | none => .undef
  | .global _ => .undef
  | .func f => .clos f []

def bits (op : BinOp) (k : IntKind) (x y : Int) : Int :=
  let a := BitVec.ofInt k.bits x
  let b := BitVec.ofInt k.bits y
  k.wrap (match op with
    | .and => a &&& b
    | .or => a ||| b
    | .xor => a ^^^ b
    | _ => a &&& ~~~b).toNat

def intBin (op : BinOp) (k : IntKind) (x y : Int) (K : PV → Prop) : Prop :=
  match op with
  | .add => K (.int k (k.wrap (x + y)))
  | .sub => K (.int k (k.wrap (x - y)))
  | .mul => K (.int k (k.wrap (x * y)))
  | .quo => Ob (y ≠ 0) (K (.int k (k.wrap (x.tdiv y))))
  | .rem => Ob (y ≠ 0) (K (.int k (x.tmod y)))
  | .eql => K (.bool (x == y))
  | .neq => K (.bool (x != y))
  | .lss => K (.bool (decide (x < y)))
  | .leq => K (.bool (decide (x ≤ y)))
  | .gtr => K (.bool (decide (x > y)))
  | .geq => K (.bool (decide (x ≥ y)))
  | .shl => Ob (0 ≤ y) (K (.int k (k.wrap (x * 2 ^ (min y.toNat k.bits)))))
  | .shr => Ob (0 ≤ y) (K (.int k (x.fdiv (2 ^ (min y.toNat k.bits)))))
  | op => K (.int k (bits op k x y))

def strBin (op : BinOp) (x y : List UInt8) (K : PV → Prop) : Prop :=
  match op with
  | .add => Ob (x.length + y.length < 9223372036854775808) (K (.str (x ++ y)))
  | .eql => K (.bool (x == y))
  | .neq => K (.bool (!(x == y)))
  | .lss => K (.bool (Op.bytesLess x y))
  | .leq => K (.bool (Op.bytesLess x y || x == y))
  | .gtr => K (.bool (!(Op.bytesLess x y || x == y)))
  | .geq => K (.bool (!(Op.bytesLess x y)))
  | _ => False

mutual
/-- Two values of a type without slices, part by part. -/
def eqT (P : Program) : Nat → Nat → List PV → List PV → Option Bool
  | 0, _, _, _ => none
  | d + 1, t, cs, ds => match P.underlying t with
    | some .bool => (match cs, ds with | [.bool a], [.bool b] => some (a == b) | _, _ => none)
    | some (.int _) => (match cs, ds with | [.int k a], [.int k' b] => (match decide (k = k') with | true => some (a == b) | false => none) | _, _ => none)
    | some .string => (match cs, ds with | [.str a], [.str b] => some (a == b) | _, _ => none)
    | some (.struct fs) => eqF P d fs.toList cs ds
    | _ => none
def eqF (P : Program) : Nat → List Field → List PV → List PV → Option Bool
  | 0, _, _, _ => none
  | _, [], _, _ => some true
  | d + 1, f :: r, cs, ds => match P.info? f.type with
    | some i => (match eqT P d f.type ((cs.drop f.offset).take i.size) ((ds.drop f.offset).take i.size), eqF P d r cs ds with
      | some a, some b => some (a && b)
      | _, _ => none)
    | none => none
end

/-- What the model asks of a type whose values are compared. -/
def eqTy (P : Program) : Nat → Nat → Bool
  | 0, _ => false
  | d + 1, t => match P.underlying t with
    | some (.struct fs) => !P.stoodInHeld t && fs.toList.all (fun f => f.name != "_" && eqTy P d f.type)
    | some (.array _ el) => eqTy P d el
    | _ => true

/-- Numbers one by one. -/
def eqIs : Nat → List PV → List PV → Option Bool
  | 0, _, _ => some true
  | n + 1, .int k a :: xs, .int k' b :: ys => (match decide (k = k'), eqIs n xs ys with
    | true, some r => some (a == b && r)
    | _, _ => none)
  | _ + 1, _, _ => none

def eqAV (P : Program) (t : Nat) (cst : Bool) (x y : AV) (K : Bool → Prop) : Prop :=
  match P.underlying t with
  | some .bool => (match x, y with
    | .p (.bool a), .p (.bool b) => K (a == b)
    | _, _ => False)
  | some (.struct _) => (match x, y with
    | .p (.agg xs), .p (.agg ys) => (match eqT P 100 t xs ys with
      | some b => Ob (eqTy P 100 t = true ∧ P.eqGuardType P.depth t = false) (K b)
      | none => False)
    | _, _ => False)
  | some (.array n el) => (match x, y with
    | .p (.agg xs), .p (.agg ys) => (match P.underlying el, P.info? el with
      | some (.int _), some i => (match Nat.beq i.size 1, eqIs n xs ys with
        | true, some b => Ob (P.eqGuardType P.depth t = false) (K b)
        | _, _ => False)
      | _, _ => False)
    | _, _ => False)
  | some (.pointer u) => (match x, y with
    | .p (.lit (.pointer none)), .p (.lit (.pointer none)) => K true
    | .p (.lit (.pointer none)), .ref _ _ => K false
    | .ref _ _, .p (.lit (.pointer none)) => K false
    | .ref i o, .ref j p => (match Nat.beq i j && Nat.beq o p && (P.info? u).isSome with | true => K true | false => False)
    | .p (.lit (.pointer none)), .p (.pto _) => K false
    | .p (.pto _), .p (.lit (.pointer none)) => K false
    | _, _ => False)
  | some (.slice _) => (match x, y with
    | .p (.sl .nil _ _), .p (.sl .nil _ _) => K true
    | .p (.sl .shr _ []), .p (.sl .nil _ _) => K true ∧ K false
    | .p (.sl .clip _ []), .p (.sl .nil _ _) => K true ∧ K false
    | .p (.sl .nil _ _), .p (.sl .shr _ (_ :: _)) => K false
    | .p (.sl .nil _ _), .p (.sl .clip _ (_ :: _)) => K false
    | .p (.sl .shr _ (_ :: _)), .p (.sl .nil _ _) => K false
    | .p (.sl .clip _ (_ :: _)), .p (.sl .nil _ _) => K false
    | .osl _ _ _ (_ + 1), .p (.sl .nil _ _) => K false
    | _, _ => False)
  | some (.interface _) => (match x, y with
    | .p (.lit .nilIface), .p (.lit .nilIface) => (match cst with | true => K true | false => False)
    | .p (.lit .nilIface), .p (.iface _ _) => K false
    | .p (.iface _ _), .p (.lit .nilIface) => K false
    | .ifc _ _, .p (.lit .nilIface) => K false
    | .p (.iface u (.int k a)), .p (.iface u' (.int k' b)) => (match Nat.beq u u' && decide (k = k'), P.underlying u, P.info? u with
      | true, some (.int _), some i => (match i.comparable with | true => K (a == b) | false => False)
      | _, _, _ => False)
    | _, _ => False)
  | _ => False

def isC : Operand → Bool | .const _ => true | _ => false

def binA (P : Program) (op : BinOp) (t : Nat) (cst : Bool) (x y : AV) (K : AV → Prop) : Prop :=
  match x, y with
  | .p (.int k a), .p (.int k' b) =>
    (match op with
    | .shl | .shr => intBin op k a b (fun v => K (.p v))
    | _ => match decide (k = k') with | true => intBin op k a b (fun v => K (.p v)) | false => False)
  | .p (.str a), .p (.str b) => strBin op a b (fun v => K (.p v))
  | x, y => match op with
    | .eql => eqAV P t cst x y (fun b => K (.p (.bool b)))
    | .neq => eqAV P t cst x y (fun b => K (.p (.bool (!b))))
    | _ => False

/-- Two references to objects that are not the same. -/
def refNe (P : Program) (op : BinOp) (t i j : Nat) (s : Store) (K : AV → Prop) : Prop :=
  match P.underlying t, getO s i, getO s j with
  | some (.pointer u), some (.cells _ _), some (.cells _ _) => (match P.info? u with
    | some inf => (match Nat.beq inf.size 0, op with
      | false, .eql => K (.p (.bool false))
      | false, .neq => K (.p (.bool true))
      | _, _ => False)
    | none => False)
  | _, _, _ => False
def binS (P : Program) (op : BinOp) (t : Nat) (cst : Bool) (x y : AV) (s : Store) (K : AV → Prop) : Prop :=
  match x, y with
  | .ref i o, .ref j p => (match Nat.beq i j with
    | true => binA P op t cst (.ref i o) (.ref j p) K
    | false => refNe P op t i j s K)
  | x, y => binA P op t cst x y K

/-! ### Stores -/
/-- A store with an object turned. -/
def setK (s : Store) (id : Nat) (o : AObj) (K : Store → Prop) : Prop := match s, id with
  | [], _ => K []
  | _ :: r, 0 => K (some o :: r)
  | x :: r, id + 1 => setK r id o fun r' => K (x :: r')
theorem setK_eq (s : Store) (id : Nat) (o : AObj) (K : Store → Prop) : setK s id o K = K (s.set id (some o)) := by
  induction s generalizing id K with
  | nil => rfl
  | cons x r ih => cases id with
    | zero => rfl
    | succ id => simp only [setK, ih]; rfl
/-- A store with an object gone. -/
def killK (s : Store) (id : Nat) (K : Store → Prop) : Prop := match s, id with
  | [], _ => K []
  | _ :: r, 0 => K (none :: r)
  | x :: r, id + 1 => killK r id fun r' => K (x :: r')
theorem killK_eq (s : Store) (id : Nat) (K : Store → Prop) : killK s id K = K (s.set id none) := by
  induction s generalizing id K with
  | nil => rfl
  | cons x r ih => cases id with
    | zero => rfl
    | succ id => simp only [killK, ih]; rfl

def splice (cs : List AV) (off : Nat) (vs : List AV) : List AV := cs.take off ++ vs ++ cs.drop (off + vs.length)
/-- The value at the head of some cells. -/
def valK (agg : Bool) (sz : Nat) (cs : List AV) (K : AV → Prop) : Prop :=
  match agg with
  | true => (match Nat.ble sz cs.length with | true => force (mkAgg (cs.take sz)) K | false => False)
  | false => match cs with | c :: _ => force c K | [] => False

/-- The value that lies at a pointer. -/
def loadA (P : Program) (t : Nat) (a : AV) (s : Store) (K : AV → Prop) : Prop :=
  match kd P t with
  | none => False
  | some (agg, sz) => match a with
    | .ref id off => (match getO s id with
      | some (.cells cs _) => valK agg sz (cs.drop off) K
      | _ => False)
    | .p (.pto cs) => valK agg sz (cs.map .p) K
    | .eptr id tot i sub => (match getO s id with
      | some (.buf _ xs _) => Ob (xs.length = tot) (Idx xs i fun x => valK agg sz ((x.cells.drop sub).map .p) K)
      | _ => False)
    | _ => False

/-- A list, laid out. -/
def normK (l : List AV) (K : List AV → Prop) : Prop := match l with
  | [] => K []
  | x :: r => normK r fun r' => K (x :: r')
theorem normK_eq : ∀ (l : List AV) (K : List AV → Prop), normK l K = K l
  | [], _ => rfl
  | x :: r, K => by unfold normK; rw [normK_eq r]
/-- A part of an element, written. -/
def splP (l : List PV) (o : Nat) (c : List PV) : List PV := l.take o ++ c ++ l.drop (o + c.length)
/-- A value that is written. -/
def storeA (P : Program) (t : Nat) (a v : AV) (s : Store) (K : Store → Prop) : Prop :=
  match kd P t with
  | none => False
  | some (_, sz) => match a with
    | .ref id off => (match getO s id with
      | some (.cells cs ty) => Ob (v.cells.length = sz ∧ off + v.cells.length ≤ cs.length ∧ v.cells.all AV.oneCell = true) (normK (splice cs off v.cells) fun cs' => setK s id (.cells cs' ty) K)
      | _ => False)
    | .eptr id tot i sub => (match getO s id, v with
      | some (.buf bz xs ty), .p y => (match Nat.beq bz sz, Nat.beq y.cells.length sz && y.cells.all PV.one, sub with
        | true, true, 0 => Ob (xs.length = tot ∧ i < tot) (setK s id (.buf bz (xs.set i y) ty) K)
        | false, true, _ => Ob (xs.length = tot ∧ sub + sz ≤ bz) (Idx xs i fun x => setK s id (.buf bz (xs.set i (.agg (splP x.cells sub y.cells))) ty) K)
        | _, _, _ => False)
      | _, _ => False)
    | _ => False

/-- What is handed into a tree: what it reached turns no more. -/
def toP (s : Store) (v : AV) (K : PV → Store → Prop) : Prop :=
  match v with
  | .p x => K x s
  | .osl id tot off len => (match getO s id with
    | some (.buf sz xs _) => Ob (xs.length = tot) (killK s id (K (.sl .shr sz ((xs.drop off).take len))))
    | _ => False)
  | .ref id 0 => (match getO s id with
    | some (.cells cs _) => (match allP cs with | some ps => killK s id (K (.pto ps)) | none => False)
    | _ => False)
  | .agg cs => cellsP s cs fun ps s' => K (.agg ps) s'
  | .ifc t (.ref id 0) => (match getO s id with
    | some (.cells cs _) => (match allP cs with | some ps => killK s id (K (.iface t (.pto ps))) | none => False)
    | _ => False)
  | _ => False
where
  cellsP (s : Store) (cs : List AV) (K : List PV → Store → Prop) : Prop :=
    match cs with
    | [] => K [] s
    | .p x :: r => cellsP s r fun ps s' => K (x :: ps) s'
    | .osl id tot off len :: r => (match getO s id with
      | some (.buf sz xs _) => Ob (xs.length = tot) (killK s id fun s1 => cellsP s1 r fun ps s' => K (.sl .shr sz ((xs.drop off).take len) :: ps) s')
      | _ => False)
    | _ :: _ => False

/-- A value that is written; an owned slice goes into an element as a tree. -/
def storeS (P : Program) (t : Nat) (a v : AV) (s : Store) (K : Store → Prop) : Prop :=
  match a, v with
  | .eptr id tot i sub, .osl id2 b c d => toP s (.osl id2 b c d) fun y s' => storeA P t (.eptr id tot i sub) (.p y) s' K
  | a, v => storeA P t a v s K

def partsP (s : Store) (vs : List AV) (K : List PV → Store → Prop) : Prop :=
  match vs with
  | [] => K [] s
  | v :: r => toP s v fun x s' => partsP s' r fun xs s'' => K (x :: xs) s''

/-- A struct or an array put together. -/
def fillA (place : Nat → Option (Nat × Nat)) : List AV → List (Nat × AV) → Option (List AV)
  | cs, [] => some cs
  | cs, (i, v) :: r => match place i with
    | none => none
    | some (off, size) => match Nat.beq v.cells.length size, Nat.ble (off + size) cs.length, v.cells.all AV.oneCell with
      | true, true, true => fillA place (splice cs off v.cells) r
      | _, _, _ => none
/-- .. each part laid out at once. -/
def fillK (place : Nat → Option (Nat × Nat)) (cs : List AV) (ps : List (Nat × AV)) (K : List AV → Prop) : Prop := match ps with
  | [] => K cs
  | (i, v) :: r => match place i with
    | none => False
    | some (off, size) => match Nat.beq v.cells.length size, Nat.ble (off + size) cs.length, v.cells.all AV.oneCell with
      | true, true, true => normK (splice cs off v.cells) fun cs' => fillK place cs' r K
      | _, _, _ => False
theorem fillK_eq (place : Nat → Option (Nat × Nat)) : ∀ (ps : List (Nat × AV)) (cs : List AV) (K : List AV → Prop), fillK place cs ps K = (match fillA place cs ps with | some ds => K ds | none => False)
  | [], _, _ => rfl
  | (i, v) :: r, cs, K => by
    unfold fillK fillA
    split
    · rfl
    · split
      · rw [normK_eq, fillK_eq place r]
      · rfl

def decode (l : List UInt8) : Nat × Nat := Utf8.decode ⟨l.toArray⟩ 0

def runes (fuel : Nat) (l : List UInt8) : List Int :=
  match fuel with
  | 0 => []
  | n + 1 => match l with
    | [] => []
    | _ :: _ => ((decode l).1 : Int) :: runes n (l.drop (decode l).2)

def bytesP (s : List UInt8) : List PV := s.map fun b => .int .u8 b.toNat

def encs (l : List Int) : List UInt8 := l.flatMap fun n => (Utf8.encode n).data.toList

/-- The elements of a slice. -/
def elems (s : Store) (v : AV) (K : Nat → List PV → Prop) : Prop :=
  match v with
  | .p (.sl _ sz xs) => K sz xs
  | .osl id tot off len => (match getO s id with
    | some (.buf sz xs _) => Ob (xs.length = tot) (K sz ((xs.drop off).take len))
    | _ => False)
  | _ => False

/-- Is there something where such a pointer leads? -/
def szT0 (P : Program) (t : Nat) : Bool := match P.info? t with | some i => Nat.ble 1 i.size | none => false
def szP (P : Program) (t : Nat) : Bool := match P.underlying t with | some (.pointer u) => szT0 P u | _ => false

def convA (P : Program) (src dst : Nat) (x : AV) (s : Store) (K : AV → Prop) : Prop :=
  match P.underlying src, P.underlying dst with
  | some .string, some (.slice el) => (match x, P.underlying el with
    | .p (.str l), some (.int .u8) => K (.p (.sl .shr 1 (bytesP l)))
    | .p (.str l), some (.int .i32) => K (.p (.sl .shr 1 ((runes l.length l).map (.int .i32))))
    | _, _ => False)
  | some (.slice el), some .string => (match P.underlying el with
    | some (.int .u8) => elems s x fun sz xs => Ob (xs = [] ∨ sz = 1) (∃ l, xs = bytesP l ∧ K (.p (.str l)))
    | some (.int .i32) => elems s x fun sz xs => Ob (xs = [] ∨ sz = 1) (∃ l : List Int, xs = l.map (.int .i32) ∧ K (.p (.str (encs l))))
    | _ => False)
  | some (.int _), some (.int k) => (match x with | .p (.int _ n) => K (.p (.int k (k.wrap n))) | _ => False)
  | some (.int _), some .string => (match x with | .p (.int _ n) => K (.p (.str (Utf8.encode n).data.toList)) | _ => False)
  | some .string, some .string => (match x with | .p (.str l) => K (.p (.str l)) | _ => False)
  | some (.slice _), some (.slice el) => (match P.underlying el, x with
    | some (.int .u8), .osl id tot 0 (len + 1) => (match getO s id, Nat.beq src dst with
      | some (.buf _ xs _), true => Ob (xs.length = tot) (K (.osl id tot 0 (len + 1)))
      | _, _ => False)
    | _, _ => False)
  | some (.pointer _), some .unsafePointer => (match x with
    | .ref id 0 => (match getO s id with
      | some (.cells (_ :: _) (some _)) => (match szP P src with | true => K (.ref id 0) | false => False)
      | _ => False)
    | _ => False)
  | some .unsafePointer, some (.pointer u) => (match x with
    | .ref id 0 => (match getO s id with
      | some (.cells (c :: cs) (some ty)) => (match szT0 P u with
        | true => Ob (liesAt P P.depth ty ((c :: cs).length / P.cellsOf ty) 0 u 1 = true) (K (.ref id 0))
        | false => False)
      | _ => False)
    | _ => False)
  | _, _ => False

/-- Bounds of a cut. -/
def bnd (e : Env) (x : Option Operand) (d : Int) (K : Int → Prop) : Prop :=
  match x with
  | none => K d
  | some o => match ev e o with | .p (.int _ n) => K n | _ => False

def cutK : SK → SK | .nil => .nil | _ => .shr
def capK : SK → SK | .nil => .nil | _ => .clip

def sliceA (P : Program) (t : Nat) (x : AV) (e : Env) (lo hi mx : Option Operand) (s : Store) (K : AV → Prop) : Prop :=
  match dsc P t with
  | .string => (match x, mx with
    | .p (.str l), none => bnd e lo 0 fun a => bnd e hi l.length fun b => Ob (0 ≤ a ∧ a ≤ b ∧ b ≤ l.length) (K (.p (.str ((l.take b.toNat).drop a.toNat))))
    | _, _ => False)
  | .slice el => (match P.info? el with
    | none => False
    | some i => match x with
    | .p (.sl k sz xs) => (match k == .nil || Nat.beq i.size sz with
      | false => False
      | true => bnd e lo 0 fun a => bnd e hi xs.length fun b => (match hi, mx with
        | none, none => Ob (0 ≤ a ∧ a ≤ b) (K (.p (.sl k sz (xs.drop a.toNat))))
        | some _, none => Ob (0 ≤ a ∧ a ≤ b ∧ b ≤ xs.length) (K (.p (.sl (cutK k) sz ((xs.take b.toNat).drop a.toNat))))
        | some _, some m => bnd e (some m) 0 fun c => Ob (0 ≤ a ∧ a ≤ b ∧ b = c ∧ b ≤ xs.length) (K (.p (.sl (capK k) sz ((xs.take b.toNat).drop a.toNat))))
        | none, some _ => False))
    | .osl id tot off len => (match getO s id, mx with
      | some (.buf sz xs _), none => (match Nat.beq i.size sz with
        | true => bnd e lo 0 fun a => bnd e hi len fun b => Ob (xs.length = tot ∧ 0 ≤ a ∧ a ≤ b ∧ b ≤ len) (K (.osl id tot (off + a.toNat) (b - a).toNat))
        | false => False)
      | some (.buf sz xs _), some _ => (match Nat.beq i.size sz, hi with
        | true, some _ => bnd e lo 0 fun a => bnd e hi len fun b => bnd e mx 0 fun c => Ob (xs.length = tot ∧ 0 ≤ a ∧ a ≤ b ∧ b = c ∧ b ≤ len) (K (.osl id tot (off + a.toNat) (b - a).toNat))
        | _, _ => False)
      | _, _ => False)
    | _ => False)
  | .array n el => (match x with
    | .eptr id tot 0 0 => (match P.info? el, getO s id, mx with
      | some i, some (.buf sz xs _), none => (match Nat.beq i.size sz with
        | true => bnd e lo 0 fun a => bnd e hi n fun b => Ob (xs.length = tot ∧ n = tot ∧ 0 ≤ a ∧ a ≤ b ∧ b ≤ n) (K (.osl id tot a.toNat (b - a).toNat))
        | false => False)
      | _, _, _ => False)
    | _ => False)
  | _ => False

/-- What the keys of a map's type are. -/
def kkOf (P : Program) (kt : Nat) : Option KK := match P.underlying kt with | some .string => some .str | some (.int k) => some (.int k) | _ => none
/-- A map's type: its keys, its values' type. -/
def mapT (P : Program) (t : Nat) : Option (KK × Nat) := match P.underlying t with
  | some (.map kt vt) => (match kkOf P kt with | some kk => some (kk, vt) | none => none)
  | _ => none

def lookupA (P : Program) (t : Nat) (x key : AV) (ok : Bool) (s : Store) (K : AV → Prop) : Prop :=
  match mapT P t with
  | some (kk, vt) => (match zeroT P vt, key with
    | some z, .p key => (match x with
      | .map id => (match getO s id with
        | some (.map kk' es _) => (match decide (kk' = kk) && keyIs kk key with
          | true => Opt (mGet es key) (fun v => match ok with | true => K (.tup [.p v, .p (.bool true)]) | false => K (.p v)) (match ok with | true => K (.tup [.p z, .p (.bool false)]) | false => K (.p z))
          | false => False)
        | _ => False)
      | .p (.lit (.map none)) => (match keyIs kk key, ok with | true, true => K (.tup [.p z, .p (.bool false)]) | true, false => K (.p z) | _, _ => False)
      | _ => False)
    | _, _ => False)
  | none => False
def mapUpdateA (P : Program) (t : Nat) (x key v : AV) (s : Store) (K : Store → Prop) : Prop :=
  match mapT P t, x, key with
  | some (kk, _), .map id, .p key => toP s v fun y s' => (match getO s' id with
    | some (.map kk' es clock) => (match decide (kk' = kk) && keyIs kk key with
      | true => setK s' id (.map kk' (mPut es clock key y) (mClock es clock key)) K
      | false => False)
    | _ => False)
  | _, _, _ => False
def deleteA (P : Program) (t : Nat) (x key : AV) (s : Store) (K : AV → Store → Prop) : Prop :=
  match mapT P t, x, key with
  | some (kk, _), .map id, .p key => (match getO s id with
    | some (.map kk' es clock) => (match decide (kk' = kk) && keyIs kk key with
      | true => setK s id (.map kk' (mDel es key) clock) (K (.tup []))
      | false => False)
    | _ => False)
  | _, _, _ => False

/-- clear of a slice: no element, or zeros. -/
def clearA (P : Program) (t : Nat) (x : AV) (s : Store) (K : AV → Store → Prop) : Prop :=
  match dsc P t, x with
  | .slice el, .osl id tot off len => (match zeroT P el, getO s id with
    | some z, some (.buf sz xs ty) => (match Nat.beq z.cells.length sz && z.cells.all PV.one with
      | true => Ob (xs.length = tot ∧ off + len ≤ tot) (setK s id (.buf sz (xs.take off ++ (List.replicate len z ++ xs.drop (off + len))) ty) (K (.tup [])))
      | false => False)
    | _, _ => False)
  | .slice _, .p (.sl _ _ []) => K (.tup []) s
  | _, _ => False

/-- The type of a slice's memory, told for bytes. -/
def tagB (P : Program) (el : Nat) : Option Nat := match P.underlying el with | some (.int .u8) => some el | _ => none
def tyOk (ty : Option Nat) (el : Nat) : Bool := match ty with | none => true | some u => Nat.beq u el

/-- append. -/
def appA (P : Program) (t : Nat) (x : AV) (ysz : Nat) (ys : List PV) (s : Store) (K : AV → Store → Prop) : Prop :=
  match dsc P t with
  | .slice el => (match P.info? el, zeroT P el with
    | some i, some z => (match Nat.beq ysz i.size && Nat.ble 1 i.bytes && Nat.beq z.cells.length i.size, Nat.ble 1 i.size with
      | true, true => (match x with
        | .p (.sl .shr sz xs) => Ob (ys = []) (K (.p (.sl .shr sz xs)) s)
        | .p (.sl .nil _ _) => BrL ys (K (.p (.sl .nil 0 [])) s)
            (Ob (ys.length * i.bytes ≤ 140737488355328) (snoc s (some (.buf ysz ys (tagB P el))) fun s' n => K (.osl n ys.length 0 ys.length) s'))
        | .p (.sl .clip sz xs) => (match Nat.beq sz ysz with
          | true => BrL ys (K (.p (.sl .clip sz xs)) s)
              (Ob ((xs.length + ys.length) * i.bytes ≤ 140737488355328) (snoc s (some (.buf ysz (xs ++ ys) (tagB P el))) fun s' n => K (.osl n (xs ++ ys).length 0 (xs ++ ys).length) s'))
          | false => False)
        | .osl id tot off len => (match getO s id with
          | some (.buf sz xs ty) => (match Nat.beq sz ysz && tyOk ty el with
            | true => Ob (xs.length = tot ∧ off = 0 ∧ len = tot ∧ (len + ys.length) * i.bytes ≤ 140737488355328)
                (setK s id (.buf sz (xs ++ ys) ty) (K (.osl id (xs ++ ys).length 0 (xs ++ ys).length)))
            | false => False)
          | _ => False)
        | _ => False)
      | _, _ => False)
    | _, _ => False)
  | _ => False

def foldI (f : Int → Int → Int) (k : IntKind) (a : Int) : List AV → Option Int
  | [] => some a
  | .p (.int k' b) :: r => match decide (k = k') with | true => foldI f k (f a b) r | false => none
  | _ :: _ => none

def builtinA (P : Program) (b : Builtin) (ts : List Nat) (args : List AV) (s : Store) (K : AV → Store → Prop) : Prop :=
  match b, ts, args with
  | .len, t :: _, [x] => (match dsc P t, x with
    | .string, .p (.str l) => K (.p (.int .i64 l.length)) s
    | .slice _, .p (.sl _ _ xs) => K (.p (.int .i64 xs.length)) s
    | .slice _, .osl _ _ _ len => K (.p (.int .i64 len)) s
    | .array n _, _ => K (.p (.int .i64 n)) s
    | .map _ _, .map id => (match getO s id with | some (.map _ es _) => K (.p (.int .i64 es.length)) s | _ => False)
    | _, _ => False)
  | .delete, t :: _, [x, key] => deleteA P t x key s K
  | .clear, t :: _, [x] => clearA P t x s K
  | .cap, t :: _, [x] => (match dsc P t, x with
    | .slice _, .p (.sl .nil _ _) => K (.p (.int .i64 0)) s
    | _, _ => False)
  | .append, t :: u :: _, [x, y] => (match dsc P u, y with
    | .int _, .p (.int .i64 n) => (match dsc P t, x with
      | .slice el, .p (.sl .nil _ _) => (match P.info? el, zeroT P el with
        | some i, some z => (match Nat.ble 1 i.bytes && z.one, Nat.beq i.size 1 with
          | true, true => Ob (1 ≤ n ∧ n * i.bytes ≤ 140737488355328) (snoc s (some (.buf 1 (List.replicate n.toNat z) (tagB P el))) fun s' k => K (.osl k (List.replicate n.toNat z).length 0 (List.replicate n.toNat z).length) s')
          | _, _ => False)
        | _, _ => False)
      | _, _ => False)
    | .string, .p (.str l) => appA P t x 1 (bytesP l) s K
    | .slice _, .p (.sl .nil _ _) => (match dsc P t with
      | .slice el => appA P t x (szT P el) [] s K
      | _ => False)
    | .slice _, y => elems s y fun sz ys => appA P t x sz ys s K
    | _, _ => False)
  | .min, _, .p (.int k a) :: r => (match foldI (fun x y => if y < x then y else x) k a r with | some n => K (.p (.int k n)) s | none => False)
  | .max, _, .p (.int k a) :: r => (match foldI (fun x y => if y > x then y else x) k a r with | some n => K (.p (.int k n)) s | none => False)
  | .unsafeSliceData, _, [x] => (match x with
    | .p (.sl .nil _ _) => K (.p (.lit (.pointer none))) s
    | .osl id tot off len => (match getO s id with
      | some (.buf _ xs _) => Ob (xs.length = tot ∧ 1 ≤ len) (K (.eptr id tot off 0) s)
      | _ => False)
    | _ => False)
  | .unsafeString, [t, _], [x, .p (.int .i64 n)] => (match x with
    | .p (.lit (.pointer none)) => Ob (n = 0) (K (.p (.str [])) s)
    | .eptr id tot 0 0 => (match P.underlying t, getO s id with
      | some (.pointer u), some (.buf 1 xs (some ty)) => (match Nat.beq u ty && Nat.beq (szT P u) 1 with
        | true => Ob (xs.length = tot ∧ 1 ≤ n ∧ n ≤ xs.length ∧ n ≤ 9223372036854775807) (∃ l, xs.take n.toNat = bytesP l ∧ killK s id fun s' => K (.p (.str l)) s')
        | false => False)
      | _, _ => False)
    | _ => False)
  | _, _, _ => False

/-- A call of a Go function. -/
def callA (P : Program) (c : Call) (e : Env) (s : Store) (K : AV → Store → Prop) : Prop :=
  match c.callee with
  | .builtin b => builtinA P b c.argTypes.toList (c.args.toList.map (ev e)) s K
  | .value f => (match ev e f with | .clos f caps => Cal P f (c.args.toList.map (ev e) ++ caps) s K | _ => False)
  | _ => False

/-- An element of a package-level array that is known. -/
def idxG (P : Program) (t gi : Nat) (iv : AV) (s : Store) (K : AV → Store → Prop) : Prop :=
  match iv, dsc P t with
  | .p (.int _ i), .array n el => (match P.info? el with
    | some inf => (match Nat.beq inf.size 1 with
      | true => ∃ cs, glob P gi = some cs ∧ Ob (0 ≤ i ∧ i < n) (Idx cs i fun c => K (.p (.pto [c])) s)
      | false => False)
    | none => False)
  | _, _ => False
def globalOf : Operand → Option Nat | .global i => some i | _ => none
/-- An array of one-cell elements. -/
def arr1 (P : Program) (t : Nat) : Bool := match dsc P t with
  | .array _ el => (match kd P el with | some (false, 1) => true | _ => false)
  | _ => false
/-- The type, where it begins with a pointer to itself. -/
def tagT (P : Program) (t : Nat) : Option Nat := match dsc P t with
  | .struct fs => (match fs[0]? with
    | some f => (match dsc P f.type with | .pointer u => (match Nat.beq u t with | true => some t | false => none) | _ => none)
    | none => none)
  | _ => none

/-- One operation. -/
def aop (P : Program) (o : Op) (e : Env) (s : Store) (K : AV → Store → Prop) : Prop :=
  match o with
  | .move x | .assign x => force (ev e x) fun v => K v s
  | .pick c a b => (match ev e c with | .p (.bool t) => Br t (force (ev e a) fun v => K v s) (force (ev e b) fun v => K v s) | _ => False)
  | .alloc t => (match zeroT P t with
    | some z => (match arr1 P t && z.cells.all PV.one with
      | true => snoc s (some (.cells (AV.cells (.p z)))) (fun s' n => K (.ref n 0) s') ∨ snoc s (some (.buf 1 z.cells)) (fun s' n => K (.eptr n z.cells.length 0 0) s')
      | false => snoc s (some (.cells (AV.cells (.p z)) (tagT P t))) fun s' n => K (.ref n 0) s')
    | none => False)
  | .box _ v => (match (ev e v).cells.all AV.oneCell with
    | true => snoc s (some (.cells (ev e v).cells)) fun s' n => K (.ref n 0) s'
    | false => False)
  | .build t ps => (match zeroT P t, dsc P t with
    | some z, .struct fs => (match fs.toList.all (fun f => (P.info? f.type).isSome) with
      | true => fillK (fun i => match fs[i]? with | some f => some (f.offset, szT P f.type) | none => none) (AV.cells (.p z)) (ps.toList.map fun q => (q.1, ev e q.2)) fun cs => K (mkAgg cs) s
      | false => False)
    | some z, .array _ el => (match P.info? el with
      | some _ => fillK (fun i => some (i * szT P el, szT P el)) (AV.cells (.p z)) (ps.toList.map fun q => (q.1, ev e q.2)) fun cs => K (mkAgg cs) s
      | none => False)
    | _, _ => False)
  | .buildSlice t n ps => (match dsc P t, (ps.toList.map (·.1)) == List.range n with
    | .slice el, true => (match P.info? el, zeroT P el with
      | some i, some z => (match Nat.ble (n * i.size) 16777216, Nat.beq z.cells.length i.size with
        | true, true => (match tagB P el, allP (ps.toList.map fun q => ev e q.2) with
          | some u, some xs => (partsP s (ps.toList.map fun q => ev e q.2) fun xs s' => (match xs.all (fun x => Nat.beq x.cells.length i.size && x.cells.all PV.one) with
            | true => K (.p (.sl .clip i.size xs)) s'
            | false => False)) ∨ (match xs.all (fun x => Nat.beq x.cells.length i.size && x.cells.all PV.one), Nat.ble 1 i.size with
            | true, true => snoc s (some (.buf i.size xs (some u))) fun s' k => K (.osl k xs.length 0 xs.length) s'
            | _, _ => False)
          | _, some _ => partsP s (ps.toList.map fun q => ev e q.2) fun xs s' => (match xs.all (fun x => Nat.beq x.cells.length i.size && x.cells.all PV.one) with
            | true => K (.p (.sl .clip i.size xs)) s'
            | false => False)
          | _, none => (partsP s (ps.toList.map fun q => ev e q.2) fun xs s' => (match xs.all (fun x => Nat.beq x.cells.length i.size && x.cells.all PV.one) with
            | true => K (.p (.sl .clip i.size xs)) s'
            | false => False)) ∨ (match (ps.toList.map fun q => ev e q.2).all AV.oneCell, Nat.beq i.size 1 with
            | true, true => snoc s (some (.cells (ps.toList.map fun q => ev e q.2))) fun s' k => K (.osl k 0 1 n) s'
            | _, _ => False))
        | _, _ => False)
      | _, _ => False)
    | _, _ => False)
  | .load t a => loadA P t (ev e a) s fun v => K v s
  | .store t a x => storeS P t (ev e a) (ev e x) s fun s' => K (.undef) s'
  | .nilCheck x => (match ev e x with
    | .ref id off => K (.ref id off) s
    | .eptr id tot i sub => K (.eptr id tot i sub) s
    | .p (.pto cs) => K (.p (.pto cs)) s
    | .ifc t v => K (.ifc t v) s
    | .p (.iface t v) => K (.p (.iface t v)) s
    | _ => False)
  | .binOp op t x y _ => binS P op t (isC x || isC y) (ev e x) (ev e y) s fun v => K v s
  | .unOp op _ x => (match op, ev e x with
    | .not, .p (.bool b) => K (.p (.bool (!b))) s
    | .neg, .p (.int k n) => K (.p (.int k (k.wrap (0 - n)))) s
    | .xor, .p (.int k n) => K (.p (.int k (bits .xor k (if k.signed then -1 else k.max) n))) s
    | _, _ => False)
  | .convert src dst x => convA P src dst (ev e x) s fun v => K v s
  | .makeInterface t x => (match P.underlying t with
    | none => False
    | some (.interface _) => False
    | some _ => match ev e x with | .p v => K (.p (.iface t v)) s | .ref id off => K (.ifc t (.ref id off)) s | .osl id tot off len => toP s (.osl id tot off len) fun p s' => K (.p (.iface t p)) s' | _ => False)
  | .makeFunc (.func f) first caps => (match first.toList with | [] => K (.clos f (caps.toList.map (ev e))) s | _ => False)
  | .makeSlice t l c => (match dsc P t, ev e l, ev e c with
    | .slice el, .p (.int _ n), .p (.int _ m) => (match P.info? el, zeroT P el with
      | some i, some z => (match Nat.beq z.cells.length i.size && z.cells.all PV.one, Nat.ble 1 i.size with
        | true, true => Ob (0 ≤ n ∧ n = m ∧ n * i.bytes ≤ 140737488355328 ∧ n < 9223372036854775808)
          (snoc s (some (.buf i.size (List.replicate n.toNat z) (tagB P el))) fun s' k => K (.osl k (List.replicate n.toNat z).length 0 (List.replicate n.toNat z).length) s')
        | _, _ => False)
      | _, _ => False)
    | _, _, _ => False)
  | .slice t x lo hi mx => sliceA P t (ev e x) e lo hi mx s fun v => K v s
  | .fieldAddr t x f => (match fldT P t f with
    | some f => (match P.info? f.type with
      | some i => (match Nat.ble 1 i.size, ev e x with
        | true, .ref id off => K (.ref id (off + f.offset)) s
        | true, .eptr id tot i sub => K (.eptr id tot i (sub + f.offset)) s
        | true, .p (.pto cs) => K (.p (.pto (cs.drop f.offset))) s
        | _, _ => False)
      | none => False)
    | none => False)
  | .field t x f => (match fldT P t f with
    | some f => (match kd P f.type, ev e x with
      | some (agg, sz), .p (.agg cs) => valK agg sz ((cs.map .p).drop f.offset) fun v => K v s
      | some (agg, sz), .agg cs => valK agg sz (cs.drop f.offset) fun v => K v s
      | _, _ => False)
    | none => False)
  | .indexAddr t x ix => (match globalOf x with
   | some gi => idxG P t gi (ev e ix) s K
   | none => match ev e ix with
    | .p (.int _ i) => (match dsc P t, ev e x with
      | .array n el, .ref id off => (match P.info? el with
        | some inf => Ob (0 ≤ i ∧ i < n) (K (.ref id (off + i.toNat * inf.size)) s)
        | none => False)
      | .array n el, .eptr id tot j sub => (match P.info? el, getO s id with
        | some inf, some (.buf sz xs _) => (match Nat.beq inf.size sz with
          | true => (match j, sub with
            | 0, 0 => Ob (xs.length = tot ∧ 0 ≤ i ∧ i < n) (K (.eptr id tot i.toNat 0) s)
            | _, _ => False)
          | false => Ob (xs.length = tot ∧ 0 ≤ i ∧ i < n) (K (.eptr id tot j (sub + i.toNat * inf.size)) s))
        | _, _ => False)
      | .array n el, .p (.pto cs) => (match P.info? el with
        | some inf => Ob (0 ≤ i ∧ i < n) (K (.p (.pto (cs.drop (i.toNat * inf.size)))) s)
        | none => False)
      | .slice el, .p (.sl _ sz xs) => (match P.info? el with
        | some inf => (match Nat.beq inf.size sz with
          | true => Idx xs i fun x => K (.p (.pto x.cells)) s
          | false => False)
        | none => False)
      | .slice el, .osl id tot off len => (match P.info? el, getO s id with
        | some inf, some (.buf sz xs _) => (match Nat.beq inf.size sz with
          | true => Ob (xs.length = tot ∧ 0 ≤ i ∧ i < len) (K (.eptr id tot (off + i.toNat) 0) s)
          | false => False)
        | some inf, some (.cells _ _) => (match Nat.beq inf.size 1, Nat.beq tot 0, Nat.beq off 1 with
          | true, true, true => Ob (0 ≤ i ∧ i < len) (K (.ref id i.toNat) s)
          | _, _, _ => False)
        | _, _ => False)
      | _, _ => False)
    | _ => False)
  | .index t x ix => (match ev e ix with
    | .p (.int _ i) => (match dsc P t, ev e x with
      | .string, .p (.str l) => IdxB l i fun b => K (.p (.int .u8 b.toNat)) s
      | .array n el, .p (.agg cs) => (match kd P el with
        | some (false, 1) => Ob (i < n) (Idx cs i fun x => K (.p x) s)
        | _ => False)
      | _, _ => False)
    | _ => False)
  | .makeMap t r => (match mapT P t, r with
    | some (kk, _), none => snoc s (some (.map kk [] 0)) fun s' n => K (.map n) s'
    | _, _ => False)
  | .lookup t x ix ok => lookupA P t (ev e x) (ev e ix) ok s fun v => K v s
  | .mapUpdate t m k v => mapUpdateA P t (ev e m) (ev e k) (ev e v) s fun s' => K .undef s'
  | .range t x => (match dsc P t, ev e x with
    | .string, .p (.str l) => snoc s (some (.iterS l 0)) fun s' n => K (.it n) s'
    | .map _ _, .map id => (match getO s id with
      | some (.map _ es _) => snoc s (some (.iterM id (es.map (·.1)) (es.map (·.1), none))) fun s' n => K (.it n) s'
      | _ => False)
    | _, _ => False)
  | .next it isS => (match isS, ev e it with
    | true, .it id => (match getO s id with
      | some (.iterS rest pos) => BrL rest (K (.tup [.p (.bool false)]) s)
          (setK s id (.iterS (rest.drop (decode rest).2) (pos + (decode rest).2)) (K (.tup [.p (.bool true), .p (.int .i64 pos), .p (.int .i32 (decode rest).1)])))
      | _ => False)
    | false, .it id => (match getO s id with
      | some (.iterM mid bs left) => (match getO s mid with
        | some (.map _ es clock) => Ob (es.map (·.1) = bs) (BrL left.1 (K (.tup [.p (.bool false)]) s)
            (Any left.1 es fun b k v => setK s id (.iterM mid bs (left.1.filter fun x => !(x == b), some (b, clock))) (K (.tup [.p (.bool true), .p k, .p v]))))
        | _ => False)
      | _ => False)
    | _, _ => False)
  | .entry it => (match ev e it with
    | .it id => (match getO s id with
      | some (.iterM mid _ (_, some (b, c))) => (match getO s mid with
        | some (.map _ es clock) => Ob (c = clock) (∃ k v, Ob ((b, k, v) ∈ es) (K (.tup [.p k, .p v]) s))
        | _ => False)
      | _ => False)
    | _ => False)
  | .typeAssert x _ t ok => (match P.underlying t with
    | none => False
    | some (.interface _) => False
    | some _ => match ev e x with
      | .p (.iface t' v) => (match Nat.beq t' t, ok with
        | true, true => K (.tup [.p v, .p (.bool true)]) s
        | true, false => K (.p v) s
        | false, true => (match zeroT P t with | some z => K (.tup [.p z, .p (.bool false)]) s | none => False)
        | false, false => False)
      | .p (.lit .nilIface) => (match ok, zeroT P t with | true, some z => K (.tup [.p z, .p (.bool false)]) s | _, _ => False)
      | _ => False)
  | .extract t i => (match ev e t with
    | .tup vs => (match vs[i]? with | some v => force v fun v => K v s | none => False)
    | _ => False)
  | .call c => callA P c e s K
  | _ => False

/-- A temporary is written (n: how many there are). -/
def putK (n : Nat) (e : Env) (dst : Option Nat) (v : AV) (K : Env → Prop) : Prop := match dst with
  | none => K e
  | some t => match Nat.blt t n with
    | true => K (upd e t v)
    | false => False

/-- The operations of a region, one behind the other. (By the recursor itself: the kernel then meets the same terms as the elaborator.) -/
noncomputable def aops (P : Program) (n : Nat) (ops : Array Oper) (l : List Oper) : (Env → Store → Prop) → Env → Store → Prop :=
  List.rec (motive := fun _ => (Env → Store → Prop) → Env → Store → Prop) (fun K e s => K e s) (fun o _ ih K e s => match o.guard with
    | none => aop P o.op e s fun v s' => putK n e o.dst v fun e' => ih K e' s'
    | some (j, want) => match (ops[j]?).bind (·.dst) with
      | some t => (match Nat.blt t n, e t with
        | true, .p (.bool b) => Br (b == want) (aop P o.op e s fun v s' => putK n e o.dst v fun e' => ih K e' s') (putK n e o.dst (.tup []) fun e' => ih K e' s)
        | true, .tup [] => putK n e o.dst (.tup []) fun e' => ih K e' s
        | _, _ => False)
      | none => False) l
theorem aops_cons (P : Program) (n : Nat) (ops : Array Oper) (o : Oper) (rest : List Oper) (K : Env → Store → Prop) (e : Env) (s : Store) : aops P n ops (o :: rest) K e s = (match o.guard with
    | none => aop P o.op e s fun v s' => putK n e o.dst v fun e' => aops P n ops rest K e' s'
    | some (j, want) => match (ops[j]?).bind (·.dst) with
      | some t => (match Nat.blt t n, e t with
        | true, .p (.bool b) => Br (b == want) (aop P o.op e s fun v s' => putK n e o.dst v fun e' => aops P n ops rest K e' s') (putK n e o.dst (.tup []) fun e' => aops P n ops rest K e' s)
        | true, .tup [] => putK n e o.dst (.tup []) fun e' => aops P n ops rest K e' s
        | _, _ => False)
      | none => False) := rfl

/-- The store's objects that a value names. -/
def ids1 : AV → List Nat
  | .ref id _ | .osl id _ _ _ | .eptr id _ _ _ | .map id | .it id | .ifc _ (.ref id _) => [id]
  | _ => []
def ids : AV → List Nat
  | .agg cs => cs.flatMap ids1
  | v => ids1 v


/-! ### A region whose order is open -/
/-- What an operation touches: old objects; does it turn them; its new objects' numbers; all. -/
structure Foot where
  t : List Nat
  wr : Bool
  n0 : Nat
  n1 : Nat
  all : Bool
  deriving Inhabited

def footT (e : Env) : Op → List Nat
  | .load _ a => ids (ev e a)
  | .convert _ _ x => ids (ev e x)
  | .makeInterface _ x => (match ev e x with | .osl id _ _ _ => [id] | _ => [])
  | .indexAddr _ x _ => ids (ev e x)
  | .slice _ x _ _ _ => ids (ev e x)
  | .store _ a x => ids (ev e a) ++ (match ev e a, ev e x with | .eptr _ _ _ _, .osl id _ _ _ => [id] | _, _ => [])
  | .next it _ => ids (ev e it)
  | .lookup _ m _ _ => ids (ev e m)
  | .mapUpdate _ m _ v => ids (ev e m) ++ ids (ev e v)
  | .range _ x => ids (ev e x)
  | .buildSlice _ _ ps => ps.toList.flatMap fun q => ids (ev e q.2)
  | .call c => c.args.toList.flatMap fun x => ids (ev e x)
  | .binOp _ _ x y _ => (match ev e x, ev e y with | .ref i _, .ref j _ => [i, j] | _, _ => [])
  | _ => []
/-- Does it leave the store as it is? -/
def stays : Op → Bool
  | .store .. | .next .. | .buildSlice .. | .alloc _ | .box .. | .makeSlice .. | .range .. | .makeMap .. | .mapUpdate .. => false
  | .call ⟨.builtin .delete, _, _⟩ => false
  | .call ⟨.builtin .append, _, _⟩ => false
  | .call ⟨.builtin .unsafeString, _, _⟩ => false
  | _ => true

/-- What may not stand in a region whose order is open. -/
def offDraw : Op → Bool
  | .next _ false => true
  | .entry _ => true
  | .call ⟨.builtin .clear, _, _⟩ => true
  | _ => false

def pureAV : AV → Bool
  | .p _ => true
  | .tup vs => vs.all fun | .p _ => true | _ => false
  | _ => false

def memB (x : Nat) : List Nat → Bool
  | [] => false
  | y :: r => Nat.beq x y || memB x r
/-! ### Other names for a store's objects -/
mutual
def AV.ren (ρ : Nat → Nat) : AV → AV
  | .p v => .p v
  | .ref id off => .ref (ρ id) off
  | .osl id tot off len => .osl (ρ id) tot off len
  | .eptr id tot i sub => .eptr (ρ id) tot i sub
  | .map id => .map (ρ id)
  | .it id => .it (ρ id)
  | .agg cs => .agg (rens ρ cs)
  | .tup cs => .tup (rens ρ cs)
  | .clos f cs => .clos f (rens ρ cs)
  | .ifc t v => .ifc t (v.ren ρ)
  | .undef => .undef
def rens (ρ : Nat → Nat) : List AV → List AV
  | [] => []
  | v :: r => v.ren ρ :: rens ρ r
end
def AObj.ren (ρ : Nat → Nat) : AObj → AObj
  | .cells cs ty => .cells (rens ρ cs) ty
  | .iterM mid a l => .iterM (ρ mid) a l
  | o => o
def renO (ρ : Nat → Nat) : Option AObj → Option AObj
  | some o => some (o.ren ρ)
  | none => none

/-- Where a small store's objects lie in the great one; what is new lies behind it. -/
def place (is : List Nat) (m : Nat) (i : Nat) : Nat := match is, i with
  | [], i => m + i
  | j :: _, 0 => j
  | _ :: r, i + 1 => place r m i
def nodupLt : List Nat → Nat → Bool
  | [], _ => true
  | j :: r, m => Nat.blt j m && !memB j r && nodupLt r m
/-- The great store, behind a call over the small one. -/
def mergeO (ρ : Nat → Nat) : List Nat → Store → Store → Store
  | [], s, s0 => s ++ s0.map (renO ρ)
  | j :: r, s, o :: s0 => mergeO ρ r (s.set j (renO ρ o)) s0
  | _ :: _, s, [] => s

def renK (ρ : Nat → Nat) (v : AV) (K : AV → Prop) : Prop := match v with
  | .p v => K (.p v) | .ref i o => K (.ref (ρ i) o) | .osl i a b c => K (.osl (ρ i) a b c) | .eptr i a b c => K (.eptr (ρ i) a b c)
  | .map i => K (.map (ρ i)) | .it i => K (.it (ρ i)) | .agg cs => K (.agg (rens ρ cs)) | .tup vs => K (.tup (rens ρ vs)) | .clos f c => K (.clos f (rens ρ c))
  | .ifc t v => K (.ifc t (v.ren ρ)) | .undef => K .undef
def renOK (ρ : Nat → Nat) (o : Option AObj) (K : Option AObj → Prop) : Prop := match o with
  | none => K none
  | some (.cells cs ty) => K (some (.cells (rens ρ cs) ty))
  | some (.buf sz xs ty) => K (some (.buf sz xs ty))
  | some (.map kk es c) => K (some (.map kk es c))
  | some (.iterS r p) => K (some (.iterS r p))
  | some (.iterM m a l) => K (some (.iterM (ρ m) a l))
def mapK (ρ : Nat → Nat) (s0 : Store) (K : Store → Prop) : Prop := match s0 with
  | [] => K []
  | o :: r => renOK ρ o fun o' => mapK ρ r fun r' => K (o' :: r')
def appK (ρ : Nat → Nat) (s s0 : Store) (K : Store → Prop) : Prop := match s with
  | x :: r => appK ρ r s0 fun r' => K (x :: r')
  | [] => mapK ρ s0 K
def putOK (s : Store) (id : Nat) (o : Option AObj) (K : Store → Prop) : Prop := match s, id with
  | [], _ => K []
  | _ :: r, 0 => K (o :: r)
  | x :: r, id + 1 => putOK r id o fun r' => K (x :: r')
def mergeK (ρ : Nat → Nat) : List Nat → Store → Store → (Store → Prop) → Prop
  | [], s, s0, K => appK ρ s s0 K
  | j :: r, s, o :: s0, K => renOK ρ o fun o' => putOK s j o' fun s' => mergeK ρ r s' s0 K
  | _ :: _, s, [], K => K s

mutual
/-- Does a value name no object from N on? -/
def AV.under (N : Nat) : AV → Bool
  | .p _ => true
  | .ref id _ => Nat.blt id N
  | .osl id _ _ _ => Nat.blt id N
  | .eptr id _ _ _ => Nat.blt id N
  | .map id => Nat.blt id N
  | .it id => Nat.blt id N
  | .agg cs => unders N cs
  | .tup cs => unders N cs
  | .clos _ cs => unders N cs
  | .ifc _ v => v.under N
  | .undef => true
def unders (N : Nat) : List AV → Bool
  | [] => true
  | v :: r => v.under N && unders N r
end
def objUnder (N : Nat) : Option AObj → Bool
  | some (.cells cs _) => unders N cs
  | some (.iterM mid _ _) => Nat.blt mid N
  | _ => true


/-- A call, beside the objects that it reaches: a small store. -/
def framedK (P : Program) (k : Nat) (as : List AV) (s : Store) (K : AV → Store → Foot → Prop) : Prop :=
  ∃ (is : List Nat) (args0 : List AV) (s0 : Store) (v0 : AV) (s0' : Store), Cal P k args0 s0 (fun v s' => v = v0 ∧ s' = s0') ∧ as = rens (place is s.length) args0 ∧ is.map (getO s) = s0.map (renO (place is s.length)) ∧
    (nodupLt is s.length && (Nat.ble s0.length s0'.length && (unders s0.length args0 && (s0.all (objUnder s0.length) && (v0.under s0'.length && s0'.all (objUnder s0'.length)))))) = true ∧
    renK (place is s.length) v0 fun r' => mergeK (place is s.length) is s s0' fun s'' => K r' s'' ⟨is, true, s.length, s''.length, false⟩

/-- The same, where nothing turns. -/
def framedR (P : Program) (k : Nat) (as : List AV) (s : Store) (K : AV → Store → Foot → Prop) : Prop :=
  ∃ (is : List Nat) (args0 : List AV) (s0 : Store) (v0 : AV), Cal P k args0 s0 (fun v s' => v = v0 ∧ s' = s0) ∧ as = rens (place is s.length) args0 ∧ is.map (getO s) = s0.map (renO (place is s.length)) ∧
    (nodupLt is s.length && (unders s0.length args0 && (s0.all (objUnder s0.length) && v0.under s0.length))) = true ∧
    renK (place is s.length) v0 fun r' => K r' s ⟨is, false, s.length, s.length, false⟩

/-- One operation, its answer told ahead. -/
def dop (P : Program) (o : Oper) (e : Env) (s : Store) (K : AV → Store → Foot → Prop) : Prop :=
  match o.op with
  | .call ⟨.value f, args, _⟩ => (match ev e f with
    | .clos k caps => (match allP (args.toList.map (ev e) ++ caps) with
      | some ps => (∃ v0, (∀ s', Cal P k (ps.map .p) s' fun v s'' => v = v0 ∧ s'' = s') ∧ pureAV v0 = true ∧ K v0 s ⟨[], false, s.length, s.length, false⟩) ∨ framedK P k (args.toList.map (ev e) ++ caps) s K ∨ framedR P k (args.toList.map (ev e) ++ caps) s K
      | none => (∃ v0 s0, Cal P k (args.toList.map (ev e) ++ caps) s (fun v s' => v = v0 ∧ s' = s0) ∧ Nat.ble s.length s0.length = true ∧ K v0 s0 ⟨[], true, s.length, s0.length, true⟩) ∨ framedK P k (args.toList.map (ev e) ++ caps) s K ∨ framedR P k (args.toList.map (ev e) ++ caps) s K)
    | _ => False)
  | .next _ false => False
  | .entry _ => False
  | .call ⟨.builtin .clear, _, _⟩ => False
  | op => (match stays op with
    | true => ∃ v0, aop P op e s (fun v s' => v = v0 ∧ s' = s) ∧ K v0 s ⟨footT e op, false, s.length, s.length, false⟩
    | false => ∃ v0 s0, aop P op e s (fun v s' => v = v0 ∧ s' = s0) ∧ Nat.ble s.length s0.length = true ∧ K v0 s0 ⟨footT e op, true, s.length, s0.length, false⟩)

/-- Does i surely come ahead of j? -/
def prec (ops : Array Oper) : Nat → Nat → Nat → Bool
  | 0, _, _ => false
  | f + 1, i, j => match ops[j]? with
    | some o => o.after.toList.any fun d => Region.binds .any d && (Nat.beq d.on i || prec ops f i d.on)
    | none => false

def disj (a b : List Nat) : Bool := a.all fun x => !memB x b
def Foot.news (f : Foot) : List Nat := (List.range (f.n1 - f.n0)).map (f.n0 + ·)
def Foot.touch (f : Foot) : List Nat := f.t ++ f.news
def Foot.write (f : Foot) : List Nat := match f.wr with | true => f.t ++ f.news | false => f.news
def Foot.quiet (f : Foot) : Bool := !f.all && f.touch.isEmpty
def noConf (ops : Array Oper) (x y : Oper) (f g : Foot) : Bool :=
  x.apart ops y && disj f.write g.touch && disj g.write f.touch && (!f.all || g.quiet) && (!g.all || f.quiet)

def chkOne (ops : Array Oper) (n : Nat) (j : Nat) (y : Oper) (g : Foot) : Nat → List (Oper × Foot) → Bool
  | _, [] => true
  | i, (x, f) :: r => (noConf ops x y f g || prec ops n i j) && chkOne ops n j y g (i + 1) r
def chkAll (ops : Array Oper) (n : Nat) (done : List (Oper × Foot)) : List (Oper × Foot) → Bool
  | [] => true
  | (y, g) :: r => chkOne ops n done.length y g 0 done && (y.after.toList.all fun d => !Region.binds .any d || Nat.blt d.on done.length) && chkAll ops n (done ++ [(y, g)]) r

/-- The operations in the order of the text, each for itself; then: does the order matter? -/
noncomputable def adops (P : Program) (n : Nat) (ops : Array Oper) (l : List Oper) : List (Oper × Foot) → (Env → Store → Prop) → Env → Store → Prop :=
  List.rec (motive := fun _ => List (Oper × Foot) → (Env → Store → Prop) → Env → Store → Prop) (fun tr K e s => Chk (chkAll ops ops.size [] tr && Region.noSelect ops) (K e s)) (fun o _ ih tr K e s => match o.guard with
    | none => dop P o e s fun v s' f => putK n e o.dst v fun e' => ih (tr ++ [(o, f)]) K e' s'
    | some (j, want) => match (ops[j]?).bind (·.dst) with
      | some t => (match Nat.blt t n, e t with
        | true, .p (.bool b) => Br (b == want) (dop P o e s fun v s' f => putK n e o.dst v fun e' => ih (tr ++ [(o, f)]) K e' s')
            (putK n e o.dst .undef fun e' => ih (tr ++ [(o, ⟨[], false, s.length, s.length, false⟩)]) K e' s)
        | _, _ => False)
      | none => False) l
theorem adops_nil (P : Program) (n : Nat) (ops : Array Oper) (tr : List (Oper × Foot)) (K : Env → Store → Prop) (e : Env) (s : Store) : adops P n ops [] tr K e s = Chk (chkAll ops ops.size [] tr && Region.noSelect ops) (K e s) := rfl
theorem adops_cons (P : Program) (n : Nat) (ops : Array Oper) (o : Oper) (rest : List Oper) (tr : List (Oper × Foot)) (K : Env → Store → Prop) (e : Env) (s : Store) : adops P n ops (o :: rest) tr K e s = (match o.guard with
    | none => dop P o e s fun v s' f => putK n e o.dst v fun e' => adops P n ops rest (tr ++ [(o, f)]) K e' s'
    | some (j, want) => match (ops[j]?).bind (·.dst) with
      | some t => (match Nat.blt t n, e t with
        | true, .p (.bool b) => Br (b == want) (dop P o e s fun v s' f => putK n e o.dst v fun e' => adops P n ops rest (tr ++ [(o, f)]) K e' s')
            (putK n e o.dst .undef fun e' => adops P n ops rest (tr ++ [(o, ⟨[], false, s.length, s.length, false⟩)]) K e' s)
        | _, _ => False)
      | none => False) := rfl

inductive Out where | normal | exit (id : Nat) | ret

/-- A tree told with less: nil as any slice, a clipped slice as any. -/
def WkP (a b : PV) : Prop := (∃ sz k sz', a = .sl .nil sz [] ∧ b = .sl k sz' []) ∨ (∃ sz xs, a = .sl .clip sz xs ∧ b = .sl .shr sz xs)
/-- A value told with less; a nil slice as one that will be owned. -/
def WkV (N0 N : Nat) (a b : AV) : Prop := a = b ∨ (∃ p q, a = .p p ∧ b = .p q ∧ WkP p q) ∨ (∃ sz id, a = .p (.sl .nil sz []) ∧ N0 ≤ id ∧ id < N ∧ b = .osl id 0 0 0)
def WkE (N0 N : Nat) (e : Env) : List (Nat × AV) → Prop
  | [] => True
  | (t, v) :: r => WkV N0 N (e t) v ∧ WkE N0 N e r
def ghost (q : Nat × Option Nat) : Option AObj := some (.buf q.1 [] q.2)

/-- What is kept of a state at a loop's head. -/
def TrimO (L : List Nat) (N : Nat) (e : Env) (s : Store) (l : List (Nat × AV)) (s2 : Store) : Prop :=
  ∃ N0 gs, N = N0 + gs.length ∧ N0 ≤ s.length ∧ (gs ≠ [] → N0 = s.length) ∧ s2 = s.take N0 ++ gs.map ghost ∧ (∀ q, q ∈ gs → 0 < q.1) ∧
    (s.take N0).all (objUnder N0) = true ∧ unders N0 (L.map e) = true ∧ l.map (·.1) = L ∧ WkE N0 N e l

/-- Some owned slices become trees: they turn no more. -/
def freezeK : List Nat → Env → Store → (Env → Store → Prop) → Prop
  | [], e, s, K => K e s
  | t :: r, e, s, K => toP s (e t) fun p s' => freezeK r (upd e t (.p p)) s' K
/-- Do the first ones stand where they stood? -/
def fixed (B : Nat) (is : List Nat) : Bool := (List.range B).all fun j => match is[j]? with | some i => Nat.beq i j | none => false
/-- A state whose objects are named anew (is: where they were; the first B of them stay), the others forgotten. -/
def TrimR (B : Nat) (is : List Nat) (L : List Nat) (N : Nat) (e : Env) (s : Store) (l : List (Nat × AV)) (s2 : Store) : Prop :=
  (nodupLt is s.length && fixed B is) = true ∧ s2.length = N ∧ is.map (getO s) = s2.map (renO (place is s.length)) ∧ l.map (·.1) = L ∧ L.map e = rens (place is s.length) (l.map (·.2))
/-- What is kept of a state at a loop's head, some slices turned to trees. -/
def Trim (B : Nat) (L : List Nat) (N : Nat) (e : Env) (s : Store) (l : List (Nat × AV)) (s2 : Store) : Prop :=
  (∃ fz, freezeK fz e s fun e' s' => TrimO L N e' s' l s2) ∨ ∃ fz is, freezeK fz e s fun e' s' => TrimR B is L N e' s' l s2

/-- A loop: at each round's head the state is one of a family; a number goes down. -/
def LoopX (B : Nat) (body : (Out → Env → Store → Prop) → Env → Store → Prop) (K : Out → Env → Store → Prop) (e : Env) (s : Store) : Prop :=
  ∃ (α : Type) (L : List Nat) (st : α → List (Nat × AV) × Store) (ok : α → Prop) (m : α → Nat),
    (∃ x, ok x ∧ s.length ≤ (st x).2.length ∧ Trim B L (st x).2.length e s (st x).1 (st x).2) ∧
    ∀ x, ok x → body (fun o e' s' => match o with
      | .normal => ∃ y, ok y ∧ m y < m x ∧ s.length ≤ (st y).2.length ∧ Trim B L (st y).2.length e' s' (st y).1 (st y).2
      | o => K o e' s') (mk (st x).1) (st x).2

def andThen (k : Env → Store → Prop) (K : Out → Env → Store → Prop) : Out → Env → Store → Prop
  | .normal, e, s => k e s
  | o, e, s => K o e s
def inBlock (id : Nat) (K : Out → Env → Store → Prop) : Out → Env → Store → Prop
  | .exit j, e, s => (match Nat.beq j id with | true => K .normal e s | false => K (.exit j) e s)
  | o, e, s => K o e s

abbrev KT := Out → Env → Store → Prop
noncomputable def aw (P : Program) (n B : Nat) (c : Code) : KT → Env → Store → Prop :=
  Code.rec (motive := fun _ => KT → Env → Store → Prop)
    (fun K e s => K .normal e s)
    (fun _ ops draw K e s => match draw with
      | false => aops P n ops ops.toList (K .normal) e s
      | true => (match P.follows .mixedOrders with
        | true => adops P n ops ops.toList [] (K .normal) e s
        | false => False))
    (fun _ _ iha ihb K e s => iha (andThen (ihb K) K) e s)
    (fun c _ _ iha ihb K e s => match ev e c with | .p (.bool t) => Br t (iha K e s) (ihb K e s) | _ => False)
    (fun id _ ih K e s => ih (inBlock id K) e s)
    (fun _ ih K e s => LoopX B ih K e s)
    (fun _ _ _ _ _ _ _ _ _ => False)
    (fun id K e s => K (.exit id) e s)
    (fun _ ih K e s => ih K e s)
    (fun _ K e s => K .normal e s)
    (fun _ _ _ _ => False)
    (fun K e s => K .ret e s)
    (fun _ _ _ _ => False) c
section
variable (P : Program) (n B : Nat) (K : KT) (e : Env) (s : Store)
theorem aw_region (id : Nat) (ops : Array Oper) (draw : Bool) : aw P n B (.region id ops draw) K e s = (match draw with
      | false => aops P n ops ops.toList (K .normal) e s
      | true => (match P.follows .mixedOrders with
        | true => adops P n ops ops.toList [] (K .normal) e s
        | false => False)) := rfl
theorem aw_seq (a b : Code) : aw P n B (.seq a b) K e s = aw P n B a (andThen (aw P n B b K) K) e s := rfl
theorem aw_cond (c : Operand) (a b : Code) : aw P n B (.cond c a b) K e s = (match ev e c with | .p (.bool t) => Br t (aw P n B a K e s) (aw P n B b K e s) | _ => False) := rfl
theorem aw_block (id : Nat) (b : Code) : aw P n B (.block id b) K e s = aw P n B b (inBlock id K) e s := rfl
theorem aw_loop (b : Code) : aw P n B (.loop b) K e s = LoopX B (aw P n B b) K e s := rfl
end

/-- What a function returns. -/
def resA (P : Program) (rs : List ResultVar) (e : Env) (s : Store) (K : List AV → Prop) : Prop :=
  match rs with
  | [] => K []
  | .tmp t :: r => resA P r e s fun vs => K (e t :: vs)
  | .cell a t :: r => loadA P t (e a) s fun v => resA P r e s fun vs => K (v :: vs)
def oneOf : List AV → AV | [v] => v | vs => .tup vs
def retA (P : Program) (rs : List ResultVar) (K : AV → Store → Prop) : Out → Env → Store → Prop
  | .ret, e, s => resA P rs e s fun vs => K (oneOf vs) s
  | .normal, e, s => resA P rs e s fun vs => K (oneOf vs) s
  | _, _, _ => False

def argsE : Nat → List AV → List (Nat × AV)
  | _, [] => []
  | i, v :: r => (i, v) :: argsE (i + 1) r

attribute [irreducible] Br BrL Idx IdxB Ob Chk LoopX TrimO TrimR Trim Opt Any
end Go.Proofs.YtjhgmaephpadpaaGreat.AW
