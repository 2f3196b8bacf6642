import Derived.WalkKit
namespace Go.Proofs.Ytfjolephpghafaa.AW

/-! ### Values as trees -/
inductive SK where | nil | shr | clip
  deriving DecidableEq, Inhabited

/-- A value that needs no store: what it reaches does not turn. -/
inductive PV where
  | bool (b : Bool)
  | int (k : IntKind) (n : Int)
  | str (s : List UInt8)
  | lit (v : Value)
  | agg (cs : List PV)
  | iface (t : Nat) (v : PV)
  | sl (k : SK) (sz : Nat) (xs : List PV)
  | pto (cs : List PV)
  deriving Inhabited

/-- A value beside a store. -/
inductive AV where
  | p (v : PV)
  | ref (id off : Nat)
  | osl (id tot off len : Nat)
  | eptr (id tot i sub : Nat)
  | map (id : Nat)
  | it (id : Nat)
  | agg (cs : List AV)
  | tup (vs : List AV)
  | clos (f : Nat) (caps : List AV)
  | ifc (t : Nat) (v : AV)
  | undef
  deriving Inhabited

inductive AObj where
  | cells (cs : List AV)
  | buf (sz : Nat) (xs : List PV)
  | map (es : List (PV × PV))
  | iterS (rest : List UInt8) (pos : Nat)
  | iterM (mid : Nat) (all left : List (PV × PV))
  deriving Inhabited

abbrev Store := List (Option AObj)
abbrev Env := Nat → AV

def PV.cells : PV → List PV
  | .agg cs => cs
  | v => [v]

/-- A cell that is no struct. -/
def PV.one : PV → Bool | .agg _ => false | _ => true

def flat (xs : List PV) : List PV := xs.flatMap PV.cells

def AV.cells : AV → List AV
  | .p (.agg cs) => cs.map .p
  | .agg cs => cs
  | v => [v]

def AV.oneCell : AV → Bool
  | .tup _ | .undef | .agg _ | .p (.agg _) => false
  | _ => true

def allP : List AV → Option (List PV)
  | [] => some []
  | .p v :: t => (allP t).map (v :: ·)
  | _ :: _ => none

def mkAgg (cs : List AV) : AV := match allP cs with
  | some ps => .p (.agg ps)
  | none => .agg cs

def upd (e : Env) (t : Nat) (v : AV) : Env := fun u => match Nat.beq t u with | true => v | false => e u

def put (e : Env) (dst : Option Nat) (v : AV) : Env := match dst with | some t => upd e t v | none => e

def mk : List (Nat × AV) → Env
  | [] => fun _ => .undef
  | (t, v) :: r => upd (mk r) t v

def getO (s : Store) (id : Nat) : Option AObj := match s[id]? with | some o => o | none => none

/-! ### Constants -/
def absP : Nat → Value → Option PV
  | 0, _ => none
  | n + 1, v => match v with
    | .bool b => some (.bool b)
    | .int k x => some (.int k x)
    | .string s => some (.str s.data.toList)
    | .agg cs => (absPs n cs.toList).map .agg
    | .iface t x => (absP n x).map (.iface t)
    | .slice none 0 0 => some (.sl .nil 0 [])
    | .pointer none => some (.lit (.pointer none))
    | .nilIface => some (.lit .nilIface)
    | .nilFunc => some (.lit .nilFunc)
    | .map none => some (.lit (.map none))
    | .float k b => some (.lit (.float k b))
    | _ => none
where absPs : Nat → List Value → Option (List PV)
  | _, [] => some []
  | 0, _ :: _ => none
  | n + 1, x :: r => match absP n x, absPs n r with
    | some y, some ys => some (y :: ys)
    | _, _ => none

end Go.Proofs.Ytfjolephpghafaa.AW
