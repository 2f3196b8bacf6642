/- A part of the proof: AW/Glue, AW/Glue2, AW/Open, AW/Law, AW/Args, AW/Tabs. -/
import Derived.Test.YtjhgmaephpadpaaGreatP7
import Derived.ProofKit
import Derived.JoinedCond
import Derived.Lib.LaidTab
namespace Go.Proofs.YtjhgmaephpadpaaGreat.AW
set_option linter.unusedSimpArgs false
set_option linter.unusedVariables false
variable {P : Program}

/-- All that was there is as it was. -/
structure Old (W W' : World) : Prop where
  os : W'.os = W.os
  tape : W'.tape = W.tape
  output : W'.output = W.output
  size : W.heap.size ≤ W'.heap.size
  block : ∀ b, b < W.heap.size → W'.heap[b]? = W.heap[b]?

/-- A call of a law, from its contract. -/
theorem calls_true {f : Nat} {args : List PV} {vs : List Value} {W : World} (hc : Cal P f (args.map .p) [] fun r _ => r = .p (.bool true)) (hr : RepPs W (fun _ => False) args vs) (hG : ∀ i cs, glob P i = some cs → CellsP W (fun _ => False) i 0 cs ∧ i < W.heap.size) (hb : ∃ fn c, P.funcs[f]? = some fn ∧ fn.body = some c) :
    Calls P f vs.toArray W fun e W' => e = .returned (.bool true) ∧ Old W W' := by
  let g : G := { ι := fun n => n, X := fun _ => False, C := fun _ => False }
  have hemp : ∀ id, getO ([] : Store) id = none := fun id => rfl
  have hinv : Inv W g (getO []) := ⟨fun id o h => by rw [hemp] at h; (cases h), fun id o h => by rw [hemp] at h; (cases h), fun _ h => h.elim, fun i j h => absurd (hemp i) h, fun id o h => by rw [hemp] at h; (cases h), fun id o h => by rw [hemp] at h; (cases h)⟩
  have hlv : ∀ b, Lv g (getO []) b → False := by
    rintro b (h | ⟨id, h1, _, _⟩)
    · exact h
    · exact h1 (hemp id)
  have hargs : RepAs W g (getO []) (args.map .p) vs := (hr.keep (fun _ _ _ => rfl) (fun b _ h => hlv b h)).repAs
  unfold Cal at hc
  have hG0 : Gk P W g (getO []) := fun i cs hi => by
    obtain ⟨q1, q2⟩ := hG i cs hi
    exact ⟨q2, fun hl => hlv _ hl, q1.keep (fun _ _ _ => rfl) (fun b _ h => hlv b h) (fun _ h => h)⟩
  rcases hc W g vs hinv hG0 (fun _ h => h.elim) hargs with ⟨_, hc⟩ | ⟨v, w', hrun, _⟩
  rotate_left 1
  · exfalso
    obtain ⟨fn, c, h1, h2⟩ := hb
    unfold callFunc at hrun
    simp only [Sem.run_bind, run_program, Result.andThen_ok, h1, h2, Option.isNone_some] at hrun
    split at hrun <;> simp at hrun
  refine hc.mono fun e w' hpost => ?_
  obtain ⟨r, v, s', g', rfl, rfl, _, hrep, _, hext, _⟩ := hpost
  rw [hrep.inv_bool]
  exact ⟨rfl, hext.os, hext.tape, hext.output, hext.size, fun b hb => hext.frame b hb fun ⟨id, h1, _, _⟩ => h1 (hemp id)⟩
end Go.Proofs.YtjhgmaephpadpaaGreat.AW

namespace Go.Proofs.YtjhgmaephpadpaaGreat.AW
set_option linter.unusedSimpArgs false
set_option linter.unusedVariables false
open Go.ChangeShapes Go.WideShapes Go.ChangeAt Go.RowKit
variable {P : Program} {H : Type} {enc : TypeId × Value → H}

theorem Old.below {W W' : World} (h : Old W W') : Below W.heap.size W W' := ⟨h.os, h.tape, h.output, h.size, h.block⟩

theorem argsStay {W W' : World} {sp : Nat → Bool} (hl : laidOutB P = true) (hb : Old W W') : ∀ {ts : List TypeId} {vs : List Value} {ds : List (DataW H)} {ps : List MemPlace},
    (ts.all fun t => P.readableRec t && decide (t < P.types.size)) = true → DataW.TrodAll enc P W 0 (fun _ => true) true ts vs ds ps → (∀ p, p ∈ ps → p.block < W.heap.size) → (∀ p, p ∈ ps → sp p.block = true) →
    DataW.TrodAll enc P W' 0 sp true ts vs ds ps
  | [], [], [], _, _, h, _, _ => h
  | t :: ts, v :: vs, d :: ds, ps, ht, h, hlt, hs => by
    obtain ⟨p, q, h1, h2, rfl⟩ := h
    simp only [List.all_cons, Bool.and_eq_true, decide_eq_true_eq] at ht
    refine ⟨p, q, WideElems.Trod_stays hl ht.1.1 ht.1.2 h1 (fun x hx => hb.below.same (hlt x (List.mem_append_left _ hx))) (fun x hx => hs x (List.mem_append_left _ hx)), ?_, rfl⟩
    exact argsStay hl hb (by simpa using ht.2) h2 (fun x hx => hlt x (List.mem_append_right _ hx)) (fun x hx => hs x (List.mem_append_right _ hx))
  | [], [], _ :: _, _, _, h, _, _ => h.elim
  | [], _ :: _, _, _, _, h, _, _ => h.elim
  | _ :: _, [], _, _, _, h, _, _ => h.elim
  | _ :: _, _ :: _, [], _, _, h, _, _ => h.elim

/-- A law that answers true, and leaves all that was there as it was. -/
theorem law_post {f : Func} {s : ChangeSpec} {apart fresh handsOn again : Bool} {W W' : World} {args : Array Value} {ds gs : List (DataW H)} {before : List MemPlace} {t : TypeId}
    (hl : laidOutB P = true) (hW : DataW.Whole enc P f.params.toList s.vars apart W args.toList ds gs before) (hvars : s.vars = []) (hb : Old W W')
    (hts : (f.params.toList.all fun t => P.readableRec t && decide (t < P.types.size)) = true)
    (hres : f.resultTypes = #[t]) (hbool : P.underlying t = some .bool)
    (hr : (s.fn H (ds ++ gs)).results = [.lit (.bool true)]) (ha : (s.fn H (ds ++ gs)).args = ds) (hv : (s.fn H (ds ++ gs)).vars = []) :
    s.post enc P f apart fresh handsOn again W args (.bool true) W' := by
  have hlt := hW.lt
  have hW0 := hW
  obtain ⟨p, q, hA, hV, rfl, hz, hn⟩ := hW
  rw [hvars] at hV
  have hq : gs = [] ∧ q = [] := by
    cases gs with
    | nil => exact ⟨rfl, hV⟩
    | cons => exact hV.elim
  obtain ⟨rfl, rfl⟩ := hq
  simp only [List.append_nil] at hlt hz hn hW0 hr ha hv
  have hk : W.keptBut W' (fun _ => False) := by
    refine ⟨hb.os, hb.output, fun i hi => ?_⟩
    rw [hb.block i hi]
    exact (World.keptBut_refl W (fun _ => False)).2.2 i hi
  have hargs : ∀ sp : Nat → Bool, (∀ x ∈ p, sp x.block = true) → DataW.TrodAll enc P W' 0 sp true f.params.toList args.toList ds p := fun sp hsp => argsStay hl hb hts hA hlt hsp
  have hresT : ∀ (b : Nat) (sp : Nat → Bool) (hd : Bool), DataW.TrodAll enc P W' b sp hd f.resultTypes.toList ((Value.bool true).resultList f.resultTypes.size) [.lit (.bool true)] ([] : List MemPlace) := fun b sp hd => by
    rw [hres]
    exact ⟨[], [], shut_bool hbool true, rfl, rfl⟩
  have hvT : ∀ sp : Nat → Bool, DataW.TrodVars enc P W' sp s.vars ([] : List (DataW H)) [] := fun sp => by rw [hvars]; rfl
  refine ⟨ds, [], p, [], p, [], hW0, ?_, ?_, ?_, World.keptBut_mono (fun _ h => h.elim) hk, fun _ => ⟨ok_one hres rfl (okWide_bool_mk hbool true), [.lit (.bool true)] ++ ds, [], p, ⟨p, [], ?_, hvT _, by simp, ?_, ?_⟩, fun x hx _ => hx⟩⟩
  · simp only [List.append_nil, hr]; exact hresT _ _ _
  · simp only [List.append_nil, ha]; exact hargs _ (fun x hx => by simpa using hlt x hx)
  · simp only [List.append_nil, hv]; exact hvT _
  · have h1 := trodAll_append (hargs (fun _ => true) fun _ _ => rfl) (hresT 0 (fun _ => true) true)
    simpa using h1
  · intro b off hp
    have h1 := hz b off hp
    have h2 := hlt _ hp
    unfold World.frozen? at h1 ⊢
    rw [hb.block b h2]; exact h1
  · intro hap
    simpa using hn hap
end Go.Proofs.YtjhgmaephpadpaaGreat.AW

namespace Go.Proofs.YtjhgmaephpadpaaGreat.AW
set_option linter.unusedSimpArgs false
set_option linter.unusedVariables false
open Go.ChangeShapes Go.WideShapes Go.ChangeAt Go.RowKit
variable {P : Program} {H : Type} {enc : TypeId × Value → H} {w : World} {base : Nat} {sp : Nat → Bool} {held : Bool}

/-- The fields lie one behind the other. -/
def rowed (P : Program) : List Field → Nat → Nat → Bool
  | [], off, tot => Nat.beq off tot
  | f :: fs, off, tot => Nat.beq f.offset off && rowed P fs (off + P.cellsOf f.type) tot

/-- A type of numbers, truths, texts, structures of such; and, if so said, slices of such. -/
def plainT (P : Program) : Nat → Bool → TypeId → Bool
  | 0, _, _ => false
  | n + 1, s, t => match P.underlying t with
    | some .bool => true
    | some (.int _) => true
    | some .string => true
    | some (.slice e) => Nat.ble 1 (P.cellsOf e) && plainT P n false e
    | some (.struct fs) => rowed P fs.toList 0 (P.cellsOf t) && fs.toList.all fun f => plainT P n s f.type
    | _ => false

def isStruct (P : Program) (t : TypeId) : Bool := match P.underlying t with | some (.struct _) => true | _ => false

mutual
/-- How many values and letters there are. -/
def bulkD : DataW H → Nat
  | .lit (.string bytes) => bytes.length + 1
  | .lit _ => 1
  | .nil => 1
  | .ptr d => bulkD d + 1
  | .slice elems spare => bulkDs elems + bulkDs spare + 1
  | .agg parts => bulkDs parts + 1
  | .iface _ d => bulkD d + 1
  | .map entries => bulkEs entries + 1
  | .held _ => 1
def bulkDs : List (DataW H) → Nat
  | [] => 0
  | d :: r => bulkD d + bulkDs r
def bulkEs : List (Lit × DataW H) → Nat
  | [] => 0
  | x :: r => bulkE x + bulkEs r
def bulkE : Lit × DataW H → Nat
  | (.string bytes, d) => bytes.length + bulkD d + 1
  | (_, d) => bulkD d + 1
end

mutual
def bulkP : PV → Nat
  | .str l => l.length + 1
  | .sl _ _ xs => bulkPs xs + 1
  | .agg cs => bulkPs cs + 1
  | _ => 1
def bulkPs : List PV → Nat
  | [] => 0
  | v :: r => bulkP v + bulkPs r
end
theorem bulkPs_app : ∀ (a b : List PV), bulkPs (a ++ b) = bulkPs a + bulkPs b
  | [], b => by simp [bulkPs]
  | v :: r, b => by simp [bulkPs, bulkPs_app r b]; omega
theorem bulkDs_get : ∀ {xs : List (DataW H × List MemPlace)} {X : Nat → PV} {k : Nat}, (∀ j, (h : j < xs.length) → bulkP (X (k + j)) ≤ bulkD (xs[j]).1) → bulkPs ((List.range' k xs.length).map X) ≤ bulkDs (xs.map (·.1))
  | [], _, _, _ => by simp [bulkPs]
  | d :: r, X, k, h => by
    have h0 := h 0 (by simp)
    have h1 := bulkDs_get (xs := r) (X := X) (k := k + 1) fun j hj => by
      have := h (j + 1) (by simp; omega)
      simpa [Nat.add_assoc, Nat.add_comm 1 j] using this
    simp only [List.length_cons, List.range'_succ, List.map_cons, bulkPs, bulkDs] at *
    simp at h0
    omega

mutual
/-- Cells of a type, as trees. -/
def OpT (P : Program) : Nat → TypeId → List PV → Prop
  | 0, _, _ => False
  | n + 1, t, ps => match P.underlying t with
    | some .bool => ∃ b, ps = [.bool b]
    | some (.int k) => ∃ m, ps = [.int k m] ∧ (Lit.int k m).wf = true
    | some .string => ∃ l, ps = [.str l] ∧ l.length ≤ maxLen
    | some (.slice e) => ∃ xs, ps = [.sl .shr (P.cellsOf e) xs] ∧ xs.length ≤ maxLen ∧ ∀ x, x ∈ xs → OpE P n e x
    | some (.struct fs) => OpFs P n fs.toList ps
    | _ => False
/-- An element. -/
def OpE (P : Program) : Nat → TypeId → PV → Prop
  | n, t, x => match isStruct P t with
    | true => ∃ cs, x = .agg cs ∧ OpT P n t cs
    | false => OpT P n t [x]
def OpFs (P : Program) : Nat → List Field → List PV → Prop
  | _, [], ps => ps = []
  | n, f :: fs, ps => ∃ a b, ps = a ++ b ∧ OpT P n f.type a ∧ OpFs P n fs b
end

def spotless (v : Value) : Prop := ∀ a len cap, v = .slice (some a) len cap → a.spot = none

theorem RepPs.app {B : Nat → Prop} : ∀ {ps : List PV} {cs : List Value} {qs : List PV} {ds : List Value}, RepPs w B ps cs → RepPs w B qs ds → RepPs w B (ps ++ qs) (cs ++ ds)
  | _, _, _, _, .nil, h => h
  | _, _, _, _, .cons v x vs xs h hs, k => .cons v x _ _ h (hs.app k)

theorem RepPs.len' {B : Nat → Prop} : ∀ {ps : List PV} {cs : List Value}, RepPs w B ps cs → ps.length = cs.length
  | _, _, .nil => rfl
  | _, _, .cons _ _ _ _ _ hs => by simp [hs.len']

theorem cells_of {B : Nat → Prop} {b : Nat} : ∀ {ps : List PV} {cs : List Value} {off : Nat}, RepPs w B ps cs → (∀ i, i < cs.length → w.cell? ⟨b, off + i, none⟩ = cs[i]?) → CellsP w B b off ps
  | _, _, _, .nil, _ => .nil _ _
  | _, _, off, .cons v x vs xs h hs, k => .cons _ _ _ x _ (by simpa using k 0 (by simp)) h (cells_of hs fun i hi => by
      have := k (i + 1) (by simp; omega)
      simpa [Nat.add_assoc, Nat.add_comm 1 i] using this)

theorem CellsP.app {B : Nat → Prop} {b : Nat} : ∀ {ps : List PV} {off : Nat} {qs : List PV}, CellsP w B b off ps → CellsP w B b (off + ps.length) qs → CellsP w B b off (ps ++ qs)
  | _, _, _, .nil _ _, k => by simpa using k
  | _, _, _, .cons _ _ v x vs hc h hs, k => .cons _ _ _ x _ hc h (hs.app (by simpa [Nat.add_assoc, Nat.add_comm 1] using k))

theorem cells_fam {B : Nat → Prop} {b off c : Nat} {X : Nat → PV} : ∀ (k i : Nat), (∀ j, i ≤ j → j < i + k → CellsP w B b (off + j * c) (X j).cells ∧ (X j).cells.length = c) →
    CellsP w B b (off + i * c) (flat ((List.range' i k).map X))
  | 0, _, _ => by simp [flat]; exact .nil _ _
  | k + 1, i, h => by
    have h0 := h i (Nat.le_refl _) (by omega)
    have h1 := cells_fam (X := X) k (i + 1) fun j hj hk => h j (by omega) (by omega)
    have : flat ((List.range' i (k + 1)).map X) = (X i).cells ++ flat ((List.range' (i + 1) k).map X) := by simp [flat, List.range'_succ]
    rw [this]
    refine h0.1.app ?_
    rw [h0.2]
    have e : off + (i + 1) * c = off + i * c + c := by rw [Nat.add_mul]; omega
    rw [← e]; exact h1

theorem choose_lt' {len : Nat} {p : Nat → PV → Prop} (h : ∀ i, i < len → ∃ v, p i v) : ∃ X : Nat → PV, ∀ i, i < len → p i (X i) := by
  refine ⟨fun i => if hi : i < len then (h i hi).choose else .lit .nilFunc, fun i hi => ?_⟩
  simp only [hi, dif_pos]; exact (h i hi).choose_spec

def ones (ps : List PV) : Prop := ps.all PV.one = true

theorem one_cells {v : PV} (h : v.one = true) : v.cells = [v] := by cases v <;> first | rfl | (simp [PV.one] at h)

theorem op_fields {n : Nat} {s : Bool} {cs : List Value} {B : Nat → Prop}
    (ih : ∀ (t : TypeId) (cs : List Value) (fuel : Nat) (x : DataW H × List MemPlace), plainT P n s t = true → DataW.trod enc P w base sp held fuel t cs = some x → (s = true → ∀ v, v ∈ cs → spotless v) →
      ∃ ps, RepPs w B ps cs ∧ OpT P n t ps ∧ ones ps ∧ bulkPs ps + (isStruct P t).toNat ≤ bulkD x.1)
    (hs : s = true → ∀ v, v ∈ cs → spotless v) :
    ∀ (fs : List Field) (off : Nat), rowed P fs off cs.length = true → (fs.all fun f => plainT P n s f.type) = true →
      ∀ (xs : List (DataW H × List MemPlace)), xs.length = fs.length → (∀ (i : Nat) (f : Field), fs[i]? = some f → ∃ fuel, DataW.trod enc P w base sp held fuel f.type ((cs.drop f.offset).take (P.cellsOf f.type)) = xs[i]?) →
      ∃ ps, RepPs w B ps (cs.drop off) ∧ OpFs P n fs ps ∧ ones ps ∧ bulkPs ps ≤ bulkDs (xs.map (·.1))
  | [], off, hr, _, _, _, _ => by
    have : off = cs.length := by simpa [rowed] using hr
    subst this
    exact ⟨[], by simp; exact .nil, by simp [OpFs], by simp [ones], by simp [bulkPs]⟩
  | f :: fs, off, hr, hp, [], hl, _ => by simp at hl
  | f :: fs, off, hr, hp, x :: xs, hl, ht => by
    simp only [rowed, Bool.and_eq_true] at hr
    simp only [List.all_cons, Bool.and_eq_true] at hp
    have ho : f.offset = off := Nat.eq_of_beq_eq_true hr.1
    obtain ⟨fuel, hx⟩ := ht 0 f (by simp)
    rw [ho] at hx
    simp only [List.getElem?_cons_zero] at hx
    obtain ⟨ps, h1, h2, h3, h4⟩ := ih _ _ _ _ hp.1 hx fun h v hv => hs h v (List.mem_of_mem_drop (List.mem_of_mem_take hv))
    obtain ⟨qs, k1, k2, k3, k4⟩ := op_fields ih hs fs _ hr.2 hp.2 xs (by simpa using hl) fun i g hg => by simpa using ht (i + 1) g (by simpa using hg)
    refine ⟨ps ++ qs, ?_, ?_, ?_, ?_⟩
    · have := h1.app k1
      rw [← List.drop_drop] at this
      rwa [List.take_append_drop] at this
    · simp only [OpFs]; exact ⟨ps, qs, rfl, h2, k2⟩
    · simp only [ones, List.all_append, Bool.and_eq_true] at *; exact ⟨h3, k3⟩
    · rw [bulkPs_app]; simp only [List.map_cons, bulkDs]; omega

theorem spot_cell {W : World} {a : Addr} {x : Value} (h : W.cell? a = some x) : a.spot = none := by
  unfold World.cell? at h
  split at h
  · split at h
    · cases h
    · rename_i hs; simpa using hs
  · cases h
theorem add_zero' (a : Addr) {n : Nat} (hn : n = 0) : a.add n = a := by
  unfold Addr.add; rw [if_pos hn]
theorem spot_cells {W : World} {b0 : Nat} {a : Addr} {n m : Nat} {cs : List Value} (hn : 1 ≤ n) (hm : m = 0) (h : W.cells? b0 (a.add m) n = some cs) : a.spot = none := by
  rw [add_zero' a hm] at h
  obtain ⟨_, h1, h2⟩ := World.cells?_some h
  have h3 := h2 0 (by omega)
  rw [List.getElem?_eq_getElem (by omega)] at h3
  rw [add_zero' a rfl] at h3
  exact spot_cell h3

theorem op_cells {B : Nat → Prop} (hB : ∀ b, ¬ B b) (hsp : ∀ b, sp b = true) : ∀ (n : Nat) (s : Bool) (t : TypeId) (cs : List Value) (fuel : Nat) (x : DataW H × List MemPlace), plainT P n s t = true → DataW.trod enc P w base sp held fuel t cs = some x →
    (s = true → ∀ v, v ∈ cs → spotless v) → ∃ ps, RepPs w B ps cs ∧ OpT P n t ps ∧ ones ps ∧ bulkPs ps + (isStruct P t).toNat ≤ bulkD x.1 := by
  intro n
  induction n with
  | zero => intro s t cs fuel x h; simp [plainT] at h
  | succ n ih =>
    intro s t cs fuel x hp ht hs
    unfold plainT at hp
    split at hp
    · rename_i hu
      obtain ⟨b, rfl, rfl⟩ := DataW.trod_bool hu ht
      exact ⟨[.bool b], .cons _ _ _ _ (.bool b) .nil, by unfold OpT; rw [hu]; exact ⟨b, rfl⟩, rfl, by simp [isStruct, hu, bulkPs, bulkP, bulkD]⟩
    · rename_i k hu
      obtain ⟨m, rfl, rfl, hw⟩ := DataW.trod_int hu ht
      exact ⟨[.int k m], .cons _ _ _ _ (.int k m) .nil, by unfold OpT; rw [hu]; exact ⟨m, rfl, hw⟩, rfl, by simp [isStruct, hu, bulkPs, bulkP, bulkD]⟩
    · rename_i hu
      obtain ⟨q, rfl, rfl, hw⟩ := DataW.trod_string hu ht
      exact ⟨[.str q.data.toList], .cons _ _ _ _ (.str q) .nil, by unfold OpT; rw [hu]; exact ⟨_, rfl, by simpa using hw⟩, rfl, by simp [isStruct, hu, bulkPs, bulkP, bulkD]⟩
    · rename_i e hu
      simp only [Bool.and_eq_true] at hp
      obtain ⟨hc, hpe⟩ := hp
      have hc := Nat.le_of_ble_eq_true hc
      rcases DataW.trod_slice hu ht with ⟨rfl, rfl⟩ | ⟨a, len, cap, elems, rest, m, rfl, rfl, rfl, hb, hl, hm, hlen, hel, hrest, _⟩
      · exact ⟨[.sl .shr (P.cellsOf e) []], .cons _ _ _ _ (.nil _ _) .nil, by unfold OpT; rw [hu]; exact ⟨_, rfl, by simp, by simp⟩, rfl, by simp [isStruct, hu, bulkPs, bulkP, bulkD]⟩
      · have hzero : a.spot ≠ none → len = 0 ∧ cap = 0 := by
          intro hne
          have h0 : len = 0 := by
            refine Nat.eq_zero_of_not_pos fun hp0 => hne ?_
            have h1 := hel 0 hp0
            rw [List.getElem?_eq_getElem (by omega)] at h1
            obtain ⟨cs', h2, _⟩ := Option.bind_eq_some_iff.1 h1
            exact spot_cells hc (by simp) h2
          refine ⟨h0, Nat.eq_zero_of_not_pos fun hp0 => hne ?_⟩
          obtain ⟨hr1, hr2⟩ := hrest (hsp _)
          have h1 := hr2 0 (by omega)
          rw [List.getElem?_eq_getElem (by omega)] at h1
          obtain ⟨cs', h2, _⟩ := Option.bind_eq_some_iff.1 h1
          exact spot_cells hc (by simp [h0]) h2
        by_cases hspot : a.spot = none
        rotate_left 1
        · obtain ⟨rfl, rfl⟩ := hzero hspot
          exact ⟨[.sl .shr (P.cellsOf e) []], .cons _ _ _ _ (.spt _ _ a (by decide)) .nil, by unfold OpT; rw [hu]; exact ⟨_, rfl, by simp, by simp⟩, rfl, by simp [isStruct, hu, bulkPs, bulkP, bulkD]⟩
        obtain ⟨b, off, spot⟩ := a
        simp only at hspot
        subst hspot
        have key : ∀ i, i < len → ∃ v : PV, CellsP w B b (off + i * P.cellsOf e) v.cells ∧ v.cells.length = P.cellsOf e ∧ v.cells.all PV.one = true ∧ OpE P n e v ∧ bulkP v ≤ bulkD ((elems.map (·.1))[i]?.getD .nil) := by
          intro i hi
          have h1 := hel i hi
          rw [List.getElem?_eq_getElem (by omega)] at h1
          obtain ⟨cs', h2, h3⟩ := Option.bind_eq_some_iff.1 h1
          obtain ⟨_, h4, h5⟩ := World.cells?_some h2
          obtain ⟨ps, k1, k2, k3, k4⟩ := ih false e cs' m _ hpe h3 (fun h => by cases h)
          have hgd : (elems.map (·.1))[i]?.getD .nil = (elems[i]'(by omega)).1 := by simp [List.getElem?_eq_getElem (show i < elems.length by omega)]
          rw [hgd]
          have h6 := k1.len'
          have hcell : CellsP w B b (off + i * P.cellsOf e) ps := cells_of k1 fun j hj => by rw [← h5 j (by omega)]; congr 1; simp only [Addr.add]; split <;> split <;> simp_all
          cases hst : isStruct P e with
          | true => exact ⟨.agg ps, hcell, by show ps.length = _; omega, k3, by unfold OpE; rw [hst]; exact ⟨ps, rfl, k2⟩, by rw [hst] at k4; simpa [bulkP] using k4⟩
          | false =>
            have hone : ∃ v, ps = [v] := by
              cases n with
              | zero => simp [plainT] at hpe
              | succ n =>
                unfold OpT at k2
                unfold isStruct at hst
                split at k2
                · obtain ⟨b, rfl⟩ := k2; exact ⟨_, rfl⟩
                · obtain ⟨b, rfl, _⟩ := k2; exact ⟨_, rfl⟩
                · obtain ⟨b, rfl, _⟩ := k2; exact ⟨_, rfl⟩
                · obtain ⟨_, rfl, _⟩ := k2; exact ⟨_, rfl⟩
                · rename_i hq; rw [hq] at hst; simp at hst
                · exact k2.elim
            obtain ⟨v, rfl⟩ := hone
            have hv : v.one = true := by simpa [ones] using k3
            have hvc := one_cells hv
            exact ⟨v, by rw [hvc]; exact hcell, by rw [hvc]; simpa using (by omega : [v].length = P.cellsOf e), by rw [hvc]; exact k3, by unfold OpE; rw [hst]; exact k2, by simp [bulkPs] at k4; omega⟩
        obtain ⟨X, hX⟩ := choose_lt' key
        have hfl := cells_fam (w := w) (B := B) (b := b) (off := off) (c := P.cellsOf e) (X := X) len 0 fun j _ hj => ⟨(hX j (by omega)).1, (hX j (by omega)).2.1⟩
        have hlen2 : ((List.range' 0 len).map X).length = len := by simp
        have hmem : ∀ x, x ∈ (List.range' 0 len).map X → x.cells.length = P.cellsOf e ∧ x.cells.all PV.one = true ∧ OpE P n e x := by
          intro x hx
          simp only [List.mem_map, List.mem_range'_1] at hx
          obtain ⟨j, hj, rfl⟩ := hx
          have := (hX j (by omega)).2
          exact ⟨this.1, this.2.1, this.2.2.1⟩
        refine ⟨[.sl .shr (P.cellsOf e) ((List.range' 0 len).map X)], .cons _ _ _ _ ?_ .nil, ?_, rfl, ?_⟩
        · have := RepP.sl (w := w) (B := B) .shr (P.cellsOf e) ((List.range' 0 len).map X) b off cap (by simp) (by simp) (by omega) (fun x hx => ⟨(hmem x hx).1, (hmem x hx).2.1⟩) (fun _ => hB b) (by simpa using hfl)
          rwa [hlen2] at this
        · unfold OpT; rw [hu]
          exact ⟨_, rfl, by omega, fun x hx => (hmem x hx).2.2⟩
        · have := bulkDs_get (xs := elems) (X := X) (k := 0) fun j hj => by
            have := (hX j (by omega)).2.2.2.2
            simpa [List.getElem?_eq_getElem hj] using this
          rw [hlen] at this
          simp only [isStruct, hu, bulkPs, bulkP, bulkD, Bool.toNat_false]
          omega
    · rename_i fs hu
      simp only [Bool.and_eq_true] at hp
      obtain ⟨xs, m, rfl, rfl, hl, hxl, hx⟩ := DataW.trod_struct hu ht
      have hr : rowed P fs.toList 0 cs.length = true := by rw [hl]; exact hp.1
      obtain ⟨ps, h1, h2, h3, h4⟩ := op_fields (s := s) (fun t cs fuel x a b c => ih s t cs fuel x a b c) hs fs.toList 0 hr hp.2 xs (by simpa using hxl) fun i f hf => ⟨m, hx i f (by simpa using hf)⟩
      exact ⟨ps, by simpa using h1, by unfold OpT; rw [hu]; exact h2, h3, by simp only [isStruct, hu, bulkD, Bool.toNat_true]; omega⟩
    · simp at hp
end Go.Proofs.YtjhgmaephpadpaaGreat.AW

namespace Go.Proofs.YtjhgmaephpadpaaGreat.AW
set_option linter.unusedSimpArgs false
set_option linter.unusedVariables false
open Go.ChangeShapes Go.WideShapes Go.ChangeAt Go.RowKit
variable {P : Program} {H : Type} {enc : TypeId × Value → H} {w : World} {base : Nat} {sp : Nat → Bool} {held : Bool}

theorem spotless_cell {r : Reach} {t : TypeId} {v : Value} (h : Cell.okWide P w r base t v) : spotless v := by
  rintro a len cap rfl
  unfold Cell.okWide at h
  split at h <;> try simp_all
  unfold Cell.ok at h
  split at h <;> simp_all
  exact h.2.2.2.1

theorem spotless_of_ok {r : Reach} {t : TypeId} {v : Value} (h : Value.okWide P w r base t v) : ∀ x, x ∈ v.cells.toList → spotless x := by
  intro x hx
  unfold Value.okWide at h
  split at h
  · obtain ⟨cs, rfl, _, ts, _, _, h3⟩ := h
    obtain ⟨i, hi, rfl⟩ := List.getElem_of_mem hx
    obtain ⟨u, _, hu⟩ := h3 i cs.toList[i] (by rw [Array.getElem?_eq_getElem (by simpa [Value.cells] using hi)]; rfl)
    exact spotless_cell hu
  · obtain ⟨cs, rfl, _, ts, _, _, h3⟩ := h
    obtain ⟨i, hi, rfl⟩ := List.getElem_of_mem hx
    obtain ⟨u, _, hu⟩ := h3 i cs.toList[i] (by rw [Array.getElem?_eq_getElem (by simpa [Value.cells] using hi)]; rfl)
    exact spotless_cell hu
  · cases v with
    | agg cs =>
      unfold Cell.okWide at h
      split at h <;> try simp_all
      unfold Cell.ok at h
      split at h <;> simp_all
    | _ =>
      simp only [Value.cells, List.mem_singleton] at hx
      subst hx
      exact spotless_cell h

theorem trodLen : ∀ {ts : List TypeId} {vs : List Value} {ds : List (DataW H)} {ps : List MemPlace}, DataW.TrodAll enc P w base sp held ts vs ds ps → ds.length = ts.length
  | [], [], [], _, _ => rfl
  | _ :: _, _ :: _, _ :: _, _, h => by obtain ⟨_, _, _, h2, _⟩ := h; simp [trodLen h2]
  | [], [], _ :: _, _, h => h.elim
  | [], _ :: _, _, _, h => h.elim
  | _ :: _, [], _, _, h => h.elim
  | _ :: _, _ :: _, [], _, h => h.elim

def OpEs (P : Program) (n : Nat) : List TypeId → List PV → Prop
  | [], [] => True
  | t :: ts, v :: vs => OpE P n t v ∧ OpEs P n ts vs
  | _, _ => False

theorem op_arg {B : Nat → Prop} (hB : ∀ b, ¬ B b) (hsp : ∀ b, sp b = true) {r : Reach} {b0 n : Nat} {t : TypeId} {v : Value} {d : DataW H} {ps : List MemPlace} (hp : plainT P n true t = true) (hv : Value.okWide P w r b0 t v) (ht : DataW.Trod enc P w base sp held t v d ps) :
    ∃ p : PV, RepP w B p v ∧ OpE P n t p ∧ bulkP p ≤ bulkD d := by
  obtain ⟨fuel, hf⟩ := ht
  obtain ⟨qs, h1, h2, h3, h4⟩ := op_cells hB hsp n true t _ fuel _ hp hf fun _ => spotless_of_ok hv
  cases hst : isStruct P t with
  | true =>
    unfold isStruct at hst
    unfold Value.okWide at hv
    split at hst
    · rename_i fs hu
      rw [hu] at hv
      obtain ⟨cs, rfl, _⟩ := hv
      refine ⟨.agg qs, ?_, ?_, ?_⟩
      · have := RepP.agg (w := w) (B := B) qs cs.toList (by simpa [Value.cells] using h1)
        simpa using this
      · unfold OpE; rw [show isStruct P t = true by unfold isStruct; rw [hu]]; exact ⟨qs, rfl, h2⟩
      · rw [show isStruct P t = true by unfold isStruct; rw [hu]] at h4; simpa [bulkP] using h4
    · cases hst
  | false =>
    have hc : v.cells.toList = [v] := by
      cases v with
      | agg cs =>
        exfalso
        cases n with
        | zero => simp [plainT] at hp
        | succ n =>
          unfold isStruct at hst
          unfold plainT at hp
          unfold Value.okWide at hv
          split at hp <;> rename_i hu <;> simp [hu] at hv hst hp <;> (unfold Cell.okWide at hv; simp [hu] at hv; unfold Cell.ok at hv; simp [hu] at hv)
      | _ => rfl
    rw [hc] at h1
    cases h1 with
    | cons p x _ _ h hs =>
      cases hs
      refine ⟨p, h, ?_, ?_⟩
      · unfold OpE; rw [hst]; exact h2
      · simp [bulkPs] at h4; omega

theorem op_args {B : Nat → Prop} (hB : ∀ b, ¬ B b) (hsp : ∀ b, sp b = true) {r : Reach} {b0 n : Nat} : ∀ {ts : List TypeId} {vs : List Value} {ds : List (DataW H)} {ps : List MemPlace}, (ts.all fun t => plainT P n true t) = true →
    (∀ (j : Nat) t v, ts[j]? = some t → vs[j]? = some v → Value.okWide P w r b0 t v) → DataW.TrodAll enc P w base sp held ts vs ds ps → ∃ qs, RepPs w B qs vs ∧ OpEs P n ts qs ∧ bulkPs qs ≤ bulkDs ds
  | [], [], [], _, _, _, _ => ⟨[], .nil, trivial, by simp [bulkPs]⟩
  | t :: ts, v :: vs, d :: ds, ps, hp, hv, h => by
    obtain ⟨p, q, h1, h2, rfl⟩ := h
    simp only [List.all_cons, Bool.and_eq_true] at hp
    obtain ⟨x, k1, k2, k3⟩ := op_arg hB hsp hp.1 (hv 0 t v rfl rfl) h1
    obtain ⟨xs, m1, m2, m3⟩ := op_args hB hsp hp.2 (fun j t v a b => hv (j + 1) t v (by simpa using a) (by simpa using b)) h2
    exact ⟨x :: xs, .cons _ _ _ _ k1 m1, ⟨k2, m2⟩, by simp only [bulkPs, bulkDs]; omega⟩
  | [], [], _ :: _, _, _, _, h => h.elim
  | [], _ :: _, _, _, _, _, h => h.elim
  | _ :: _, [], _, _, _, _, h => h.elim
  | _ :: _, _ :: _, [], _, _, _, h => h.elim

/-- **A law's contract**, from its call's: whatever it is handed, it returns true, and leaves all as it was. -/
theorem law_contract {f : FuncId} {fn : Func} {s : ChangeSpec} {apart fresh handsOn again : Bool} {W : World} {base n : Nat} {args : Array Value} {ds gs : List (DataW H)} {before : List MemPlace} {t : TypeId}
    (hl : laidOutB P = true) (hvars : s.vars = []) (hplain : (fn.params.toList.all fun t => plainT P n true t) = true)
    (hts : (fn.params.toList.all fun t => P.readableRec t && decide (t < P.types.size)) = true) (hres : fn.resultTypes = #[t]) (hbool : P.underlying t = some .bool)
    (hr : ∀ ds : List (DataW H), ds.length = fn.params.toList.length → (s.fn H ds).results = [.lit (.bool true)] ∧ (s.fn H ds).args = ds ∧ (s.fn H ds).vars = [])
    (hval : ∀ (j : Nat) t v, fn.params[j]? = some t → args[j]? = some v → Value.okWide P W .any base t v)
    (hW : DataW.Whole enc P fn.params.toList s.vars apart W args.toList ds gs before)
    (hG : ∀ i cs, glob P i = some cs → CellsP W (fun _ => False) i 0 cs ∧ i < W.heap.size) (hb : ∃ fn c, P.funcs[f]? = some fn ∧ fn.body = some c)
    (hc : ∀ ps, OpEs P n fn.params.toList ps → bulkPs ps ≤ bulkDs (ds ++ gs) → Cal P f (ps.map .p) [] fun r _ => r = .p (.bool true)) :
    Calls P f args W fun e W' => ∃ v, e = .returned v ∧ s.post enc P fn apart fresh handsOn again W args v W' := by
  have hW0 := hW
  obtain ⟨p, q, hA, hV, rfl, hz, hn⟩ := hW
  rw [hvars] at hV
  have hq : gs = [] ∧ q = [] := by
    cases gs with
    | nil => exact ⟨rfl, hV⟩
    | cons => exact hV.elim
  obtain ⟨rfl, rfl⟩ := hq
  obtain ⟨qs, h1, h2, h3⟩ := op_args (B := fun _ => False) (fun _ h => h) (fun _ => rfl) hplain (fun j t v a b => hval j t v (by simpa using a) (by simpa using b)) hA
  have h4 := calls_true (hc qs h2 (by simpa using h3)) h1 hG hb
  simp only [Array.toArray_toList] at h4
  have hlen : ds.length = fn.params.toList.length := (trodLen hA)
  have hr1 := hr ds hlen
  refine h4.mono fun e W' ⟨he, hw⟩ => ?_
  subst he
  exact ⟨_, rfl, law_post hl hW0 hvars hw hts hres hbool (by simpa using hr1.1) (by simpa using hr1.2.1) (by simpa using hr1.2.2)⟩
end Go.Proofs.YtjhgmaephpadpaaGreat.AW

namespace Go.Proofs.YtjhgmaephpadpaaGreat.AW
set_option linter.unusedSimpArgs false
set_option linter.unusedVariables false
variable {P : Program}

theorem map_of {α : Type} {f : α → PV} {q : α → Prop} : ∀ {xs : List PV}, (∀ x, x ∈ xs → ∃ a, x = f a ∧ q a) → ∃ as : List α, xs = as.map f ∧ ∀ a, a ∈ as → q a
  | [], _ => ⟨[], rfl, by simp⟩
  | x :: xs, h => by
    obtain ⟨a, rfl, ha⟩ := h x (by simp)
    obtain ⟨as, rfl, has⟩ := map_of (xs := xs) fun y hy => h y (by simp [hy])
    exact ⟨a :: as, rfl, by simp only [List.mem_cons, forall_eq_or_imp]; exact ⟨ha, has⟩⟩

theorem noStruct {t : TypeId} {d : TypeDesc} (h : P.underlying t = some d) (hd : ∀ fs, d ≠ .struct fs) : isStruct P t = false := by
  unfold isStruct; rw [h]
  cases d <;> first | rfl | exact absurd rfl (hd _)

theorem op_int {n : Nat} {t : TypeId} {k : IntKind} {v : PV} (hu : P.underlying t = some (.int k)) (h : OpE P (n + 1) t v) : ∃ m, v = .int k m ∧ (Lit.int k m).wf = true := by
  unfold OpE at h
  rw [noStruct hu (by simp)] at h
  unfold OpT at h
  simp only [hu] at h
  obtain ⟨m, hm, hw⟩ := h
  cases hm; exact ⟨m, rfl, hw⟩
theorem op_slice {n : Nat} {t e : TypeId} {v : PV} (hu : P.underlying t = some (.slice e)) (h : OpE P (n + 1) t v) :
    ∃ xs, v = .sl .shr (P.cellsOf e) xs ∧ xs.length ≤ maxLen ∧ ∀ x, x ∈ xs → OpE P n e x := by
  unfold OpE at h
  rw [noStruct hu (by simp)] at h
  unfold OpT at h
  simp only [hu] at h
  obtain ⟨xs, hx, h3, h4⟩ := h
  cases hx; exact ⟨xs, rfl, h3, h4⟩
end Go.Proofs.YtjhgmaephpadpaaGreat.AW

namespace Go.Proofs.YtjhgmaephpadpaaGreat.AW
set_option linter.unusedSimpArgs false
set_option linter.unusedVariables false
variable {P : Program}

theorem glob_none {i : Nat} (h : P.globals.size ≤ i) : glob P i = none := by
  unfold glob; rw [Array.getElem?_eq_none h]; rfl
end Go.Proofs.YtjhgmaephpadpaaGreat.AW
