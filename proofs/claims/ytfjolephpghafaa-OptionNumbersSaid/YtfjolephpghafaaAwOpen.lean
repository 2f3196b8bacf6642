import Derived.Test.YtfjolephpghafaaAwGlue2
namespace Go.Proofs.Ytfjolephpghafaa.AW
open Go.ChangeShapes Go.WideShapes Go.ChangeAt Go.RowKit
variable {P : Program} {H : Type} {enc : TypeId × Value → H} {w : World} {base : Nat} {sp : Nat → Bool} {held : Bool}

/-- The fields lie one behind the other. -/
def rowed (P : Program) : List Field → Nat → Nat → Bool
  | [], off, tot => Nat.beq off tot
  | f :: fs, off, tot => Nat.beq f.offset off && rowed P fs (off + P.cellsOf f.type) tot

/-- A type of numbers, truths, texts, structures of such; and, if so said, slices of such. -/
def plainT (P : Program) : Nat → Bool → TypeId → Bool
  | 0, _, _ => false
  | n + 1, s, t => match P.underlying t with
    | some .bool => true
    | some (.int _) => true
    | some .string => true
    | some (.slice e) => s && Nat.ble 1 (P.cellsOf e) && plainT P n false e
    | some (.struct fs) => rowed P fs.toList 0 (P.cellsOf t) && fs.toList.all fun f => plainT P n s f.type
    | _ => false

def isStruct (P : Program) (t : TypeId) : Bool := match P.underlying t with | some (.struct _) => true | _ => false

mutual
/-- How many values and letters there are. -/
def bulkD : DataW H → Nat
  | .lit (.string bytes) => bytes.length + 1
  | .lit _ => 1
  | .nil => 1
  | .ptr d => bulkD d + 1
  | .slice elems spare => bulkDs elems + bulkDs spare + 1
  | .agg parts => bulkDs parts + 1
  | .iface _ d => bulkD d + 1
  | .map entries => bulkEs entries + 1
  | .held _ => 1
def bulkDs : List (DataW H) → Nat
  | [] => 0
  | d :: r => bulkD d + bulkDs r
def bulkEs : List (Lit × DataW H) → Nat
  | [] => 0
  | x :: r => bulkE x + bulkEs r
def bulkE : Lit × DataW H → Nat
  | (.string bytes, d) => bytes.length + bulkD d + 1
  | (_, d) => bulkD d + 1
end

mutual
def bulkP : PV → Nat
  | .str l => l.length + 1
  | .sl _ _ xs => bulkPs xs + 1
  | .agg cs => bulkPs cs + 1
  | _ => 1
def bulkPs : List PV → Nat
  | [] => 0
  | v :: r => bulkP v + bulkPs r
end
theorem bulkPs_app : ∀ (a b : List PV), bulkPs (a ++ b) = bulkPs a + bulkPs b
  | [], b => by simp [bulkPs]
  | v :: r, b => by simp [bulkPs, bulkPs_app r b]; omega
theorem bulkPs_mem : ∀ {xs : List PV} {x : PV}, x ∈ xs → bulkP x ≤ bulkPs xs
  | v :: r, x, h => by
    simp only [List.mem_cons] at h
    simp only [bulkPs]
    rcases h with rfl | h
    · omega
    · have := bulkPs_mem h; omega
theorem bulkP_pos (v : PV) : 1 ≤ bulkP v := by cases v <;> simp [bulkP]
theorem bulkPs_len : ∀ (xs : List PV), xs.length ≤ bulkPs xs
  | [] => by simp
  | v :: r => by
    have := bulkP_pos v
    have := bulkPs_len r
    simp only [bulkPs, List.length_cons]; omega
theorem bulkDs_get : ∀ {xs : List (DataW H × List MemPlace)} {X : Nat → PV} {k : Nat}, (∀ j, (h : j < xs.length) → bulkP (X (k + j)) ≤ bulkD (xs[j]).1) → bulkPs ((List.range' k xs.length).map X) ≤ bulkDs (xs.map (·.1))
  | [], _, _, _ => by simp [bulkPs]
  | d :: r, X, k, h => by
    have h0 := h 0 (by simp)
    have h1 := bulkDs_get (xs := r) (X := X) (k := k + 1) fun j hj => by
      have := h (j + 1) (by simp; omega)
      simpa [Nat.add_assoc, Nat.add_comm 1 j] using this
    simp only [List.length_cons, List.range'_succ, List.map_cons, bulkPs, bulkDs] at *
    simp at h0
    omega

mutual
/-- Cells of a type, as trees. -/
def OpT (P : Program) : Nat → TypeId → List PV → Prop
  | 0, _, _ => False
  | n + 1, t, ps => match P.underlying t with
    | some .bool => ∃ b, ps = [.bool b]
    | some (.int k) => ∃ m, ps = [.int k m] ∧ (Lit.int k m).wf = true
    | some .string => ∃ l, ps = [.str l] ∧ l.length ≤ maxLen
    | some (.slice e) => ∃ k xs, ps = [.sl k (P.cellsOf e) xs] ∧ (k = .nil → xs = []) ∧ (k = .nil ∨ k = .shr) ∧ xs.length ≤ maxLen ∧ ∀ x, x ∈ xs → OpE P n e x
    | some (.struct fs) => OpFs P n fs.toList ps
    | _ => False
/-- An element. -/
def OpE (P : Program) : Nat → TypeId → PV → Prop
  | n, t, x => match isStruct P t with
    | true => ∃ cs, x = .agg cs ∧ OpT P n t cs
    | false => OpT P n t [x]
def OpFs (P : Program) : Nat → List Field → List PV → Prop
  | _, [], ps => ps = []
  | n, f :: fs, ps => ∃ a b, ps = a ++ b ∧ OpT P n f.type a ∧ OpFs P n fs b
end

def spotless (v : Value) : Prop := ∀ a len cap, v = .slice (some a) len cap → a.spot = none

theorem RepPs.app {B : Nat → Prop} : ∀ {ps : List PV} {cs : List Value} {qs : List PV} {ds : List Value}, RepPs w B ps cs → RepPs w B qs ds → RepPs w B (ps ++ qs) (cs ++ ds)
  | _, _, _, _, .nil, h => h
  | _, _, _, _, .cons v x vs xs h hs, k => .cons v x _ _ h (hs.app k)

theorem RepPs.len' {B : Nat → Prop} : ∀ {ps : List PV} {cs : List Value}, RepPs w B ps cs → ps.length = cs.length
  | _, _, .nil => rfl
  | _, _, .cons _ _ _ _ _ hs => by simp [hs.len']

theorem cells_of {B : Nat → Prop} {b : Nat} : ∀ {ps : List PV} {cs : List Value} {off : Nat}, RepPs w B ps cs → (∀ i, i < cs.length → w.cell? ⟨b, off + i, none⟩ = cs[i]?) → CellsP w B b off ps
  | _, _, _, .nil, _ => .nil _ _
  | _, _, off, .cons v x vs xs h hs, k => .cons _ _ _ x _ (by simpa using k 0 (by simp)) h (cells_of hs fun i hi => by
      have := k (i + 1) (by simp; omega)
      simpa [Nat.add_assoc, Nat.add_comm 1 i] using this)

theorem CellsP.app {B : Nat → Prop} {b : Nat} : ∀ {ps : List PV} {off : Nat} {qs : List PV}, CellsP w B b off ps → CellsP w B b (off + ps.length) qs → CellsP w B b off (ps ++ qs)
  | _, _, _, .nil _ _, k => by simpa using k
  | _, _, _, .cons _ _ v x vs hc h hs, k => .cons _ _ _ x _ hc h (hs.app (by simpa [Nat.add_assoc, Nat.add_comm 1] using k))

theorem cells_fam {B : Nat → Prop} {b off c : Nat} {X : Nat → PV} : ∀ (k i : Nat), (∀ j, i ≤ j → j < i + k → CellsP w B b (off + j * c) (X j).cells ∧ (X j).cells.length = c) →
    CellsP w B b (off + i * c) (flat ((List.range' i k).map X))
  | 0, _, _ => by simp [flat]; exact .nil _ _
  | k + 1, i, h => by
    have h0 := h i (Nat.le_refl _) (by omega)
    have h1 := cells_fam (X := X) k (i + 1) fun j hj hk => h j (by omega) (by omega)
    have : flat ((List.range' i (k + 1)).map X) = (X i).cells ++ flat ((List.range' (i + 1) k).map X) := by simp [flat, List.range'_succ]
    rw [this]
    refine h0.1.app ?_
    rw [h0.2]
    have e : off + (i + 1) * c = off + i * c + c := by rw [Nat.add_mul]; omega
    rw [← e]; exact h1

theorem choose_lt' {len : Nat} {p : Nat → PV → Prop} (h : ∀ i, i < len → ∃ v, p i v) : ∃ X : Nat → PV, ∀ i, i < len → p i (X i) := by
  refine ⟨fun i => if hi : i < len then (h i hi).choose else .lit .nilFunc, fun i hi => ?_⟩
  simp only [hi, dif_pos]; exact (h i hi).choose_spec

def ones (ps : List PV) : Prop := ps.all PV.one = true

theorem one_cells {v : PV} (h : v.one = true) : v.cells = [v] := by cases v <;> first | rfl | (simp [PV.one] at h)

theorem op_fields {n : Nat} {s : Bool} {cs : List Value} {B : Nat → Prop}
    (ih : ∀ (t : TypeId) (cs : List Value) (fuel : Nat) (x : DataW H × List MemPlace), plainT P n s t = true → DataW.trod enc P w base sp held fuel t cs = some x → (s = true → ∀ v, v ∈ cs → spotless v) →
      ∃ ps, RepPs w B ps cs ∧ OpT P n t ps ∧ ones ps ∧ bulkPs ps + (isStruct P t).toNat ≤ bulkD x.1)
    (hs : s = true → ∀ v, v ∈ cs → spotless v) :
    ∀ (fs : List Field) (off : Nat), rowed P fs off cs.length = true → (fs.all fun f => plainT P n s f.type) = true →
      ∀ (xs : List (DataW H × List MemPlace)), xs.length = fs.length → (∀ (i : Nat) (f : Field), fs[i]? = some f → ∃ fuel, DataW.trod enc P w base sp held fuel f.type ((cs.drop f.offset).take (P.cellsOf f.type)) = xs[i]?) →
      ∃ ps, RepPs w B ps (cs.drop off) ∧ OpFs P n fs ps ∧ ones ps ∧ bulkPs ps ≤ bulkDs (xs.map (·.1))
  | [], off, hr, _, _, _, _ => by
    have : off = cs.length := by simpa [rowed] using hr
    subst this
    exact ⟨[], by simp; exact .nil, by simp [OpFs], by simp [ones], by simp [bulkPs]⟩
  | f :: fs, off, hr, hp, [], hl, _ => by simp at hl
  | f :: fs, off, hr, hp, x :: xs, hl, ht => by
    simp only [rowed, Bool.and_eq_true] at hr
    simp only [List.all_cons, Bool.and_eq_true] at hp
    have ho : f.offset = off := Nat.eq_of_beq_eq_true hr.1
    obtain ⟨fuel, hx⟩ := ht 0 f (by simp)
    rw [ho] at hx
    simp only [List.getElem?_cons_zero] at hx
    obtain ⟨ps, h1, h2, h3, h4⟩ := ih _ _ _ _ hp.1 hx fun h v hv => hs h v (List.mem_of_mem_drop (List.mem_of_mem_take hv))
    obtain ⟨qs, k1, k2, k3, k4⟩ := op_fields ih hs fs _ hr.2 hp.2 xs (by simpa using hl) fun i g hg => by simpa using ht (i + 1) g (by simpa using hg)
    refine ⟨ps ++ qs, ?_, ?_, ?_, ?_⟩
    · have := h1.app k1
      rw [← List.drop_drop] at this
      rwa [List.take_append_drop] at this
    · simp only [OpFs]; exact ⟨ps, qs, rfl, h2, k2⟩
    · simp only [ones, List.all_append, Bool.and_eq_true] at *; exact ⟨h3, k3⟩
    · rw [bulkPs_app]; simp only [List.map_cons, bulkDs]; omega

theorem op_cells {B : Nat → Prop} (hB : ∀ b, ¬ B b) : ∀ (n : Nat) (s : Bool) (t : TypeId) (cs : List Value) (fuel : Nat) (x : DataW H × List MemPlace), plainT P n s t = true → DataW.trod enc P w base sp held fuel t cs = some x →
    (s = true → ∀ v, v ∈ cs → spotless v) → ∃ ps, RepPs w B ps cs ∧ OpT P n t ps ∧ ones ps ∧ bulkPs ps + (isStruct P t).toNat ≤ bulkD x.1 := by
  intro n
  induction n with
  | zero => intro s t cs fuel x h; simp [plainT] at h
  | succ n ih =>
    intro s t cs fuel x hp ht hs
    unfold plainT at hp
    split at hp
    · rename_i hu
      obtain ⟨b, rfl, rfl⟩ := DataW.trod_bool hu ht
      exact ⟨[.bool b], .cons _ _ _ _ (.bool b) .nil, by unfold OpT; rw [hu]; exact ⟨b, rfl⟩, rfl, by simp [isStruct, hu, bulkPs, bulkP, bulkD]⟩
    · rename_i k hu
      obtain ⟨m, rfl, rfl, hw⟩ := DataW.trod_int hu ht
      exact ⟨[.int k m], .cons _ _ _ _ (.int k m) .nil, by unfold OpT; rw [hu]; exact ⟨m, rfl, hw⟩, rfl, by simp [isStruct, hu, bulkPs, bulkP, bulkD]⟩
    · rename_i hu
      obtain ⟨q, rfl, rfl, hw⟩ := DataW.trod_string hu ht
      exact ⟨[.str q.data.toList], .cons _ _ _ _ (.str q) .nil, by unfold OpT; rw [hu]; exact ⟨_, rfl, by simpa using hw⟩, rfl, by simp [isStruct, hu, bulkPs, bulkP, bulkD]⟩
    · rename_i e hu
      simp only [Bool.and_eq_true] at hp
      obtain ⟨⟨hs1, hc⟩, hpe⟩ := hp
      have hc := Nat.le_of_ble_eq_true hc
      rcases DataW.trod_slice hu ht with ⟨rfl, rfl⟩ | ⟨a, len, cap, elems, rest, m, rfl, rfl, rfl, hb, hl, hm, hlen, hel, _, _⟩
      · exact ⟨[.sl .nil (P.cellsOf e) []], .cons _ _ _ _ (.nil _) .nil, by unfold OpT; rw [hu]; exact ⟨_, _, rfl, fun _ => rfl, .inl rfl, by simp, by simp⟩, rfl, by simp [isStruct, hu, bulkPs, bulkP, bulkD]⟩
      · have hspot := hs hs1 _ (List.mem_singleton.2 rfl) a len cap rfl
        obtain ⟨b, off, spot⟩ := a
        simp only at hspot
        subst hspot
        have key : ∀ i, i < len → ∃ v : PV, CellsP w B b (off + i * P.cellsOf e) v.cells ∧ v.cells.length = P.cellsOf e ∧ v.cells.all PV.one = true ∧ OpE P n e v ∧ bulkP v ≤ bulkD ((elems.map (·.1))[i]?.getD .nil) := by
          intro i hi
          have h1 := hel i hi
          rw [List.getElem?_eq_getElem (by omega)] at h1
          obtain ⟨cs', h2, h3⟩ := Option.bind_eq_some_iff.1 h1
          obtain ⟨_, h4, h5⟩ := World.cells?_some h2
          obtain ⟨ps, k1, k2, k3, k4⟩ := ih false e cs' m _ hpe h3 (fun h => by cases h)
          have hgd : (elems.map (·.1))[i]?.getD .nil = (elems[i]'(by omega)).1 := by simp [List.getElem?_eq_getElem (show i < elems.length by omega)]
          rw [hgd]
          have h6 := k1.len'
          have hcell : CellsP w B b (off + i * P.cellsOf e) ps := cells_of k1 fun j hj => by rw [← h5 j (by omega)]; congr 1; simp only [Addr.add]; split <;> split <;> simp_all
          cases hst : isStruct P e with
          | true => exact ⟨.agg ps, hcell, by show ps.length = _; omega, k3, by unfold OpE; rw [hst]; exact ⟨ps, rfl, k2⟩, by rw [hst] at k4; simpa [bulkP] using k4⟩
          | false =>
            have hone : ∃ v, ps = [v] := by
              cases n with
              | zero => simp [plainT] at hpe
              | succ n =>
                unfold OpT at k2
                unfold isStruct at hst
                split at k2
                · obtain ⟨b, rfl⟩ := k2; exact ⟨_, rfl⟩
                · obtain ⟨b, rfl, _⟩ := k2; exact ⟨_, rfl⟩
                · obtain ⟨b, rfl, _⟩ := k2; exact ⟨_, rfl⟩
                · obtain ⟨_, _, rfl, _⟩ := k2; exact ⟨_, rfl⟩
                · rename_i hq; rw [hq] at hst; simp at hst
                · exact k2.elim
            obtain ⟨v, rfl⟩ := hone
            have hv : v.one = true := by simpa [ones] using k3
            have hvc := one_cells hv
            exact ⟨v, by rw [hvc]; exact hcell, by rw [hvc]; simpa using (by omega : [v].length = P.cellsOf e), by rw [hvc]; exact k3, by unfold OpE; rw [hst]; exact k2, by simp [bulkPs] at k4; omega⟩
        obtain ⟨X, hX⟩ := choose_lt' key
        have hfl := cells_fam (w := w) (B := B) (b := b) (off := off) (c := P.cellsOf e) (X := X) len 0 fun j _ hj => ⟨(hX j (by omega)).1, (hX j (by omega)).2.1⟩
        have hlen2 : ((List.range' 0 len).map X).length = len := by simp
        have hmem : ∀ x, x ∈ (List.range' 0 len).map X → x.cells.length = P.cellsOf e ∧ x.cells.all PV.one = true ∧ OpE P n e x := by
          intro x hx
          simp only [List.mem_map, List.mem_range'_1] at hx
          obtain ⟨j, hj, rfl⟩ := hx
          have := (hX j (by omega)).2
          exact ⟨this.1, this.2.1, this.2.2.1⟩
        refine ⟨[.sl .shr (P.cellsOf e) ((List.range' 0 len).map X)], .cons _ _ _ _ ?_ .nil, ?_, rfl, ?_⟩
        · have := RepP.sl (w := w) (B := B) .shr (P.cellsOf e) ((List.range' 0 len).map X) b off cap (by simp) (by simp) (by omega) (fun x hx => ⟨(hmem x hx).1, (hmem x hx).2.1⟩) (fun _ => hB b) (by simpa using hfl)
          rwa [hlen2] at this
        · unfold OpT; rw [hu]
          exact ⟨_, _, rfl, by simp, .inr rfl, by omega, fun x hx => (hmem x hx).2.2⟩
        · have := bulkDs_get (xs := elems) (X := X) (k := 0) fun j hj => by
            have := (hX j (by omega)).2.2.2.2
            simpa [List.getElem?_eq_getElem hj] using this
          rw [hlen] at this
          simp only [isStruct, hu, bulkPs, bulkP, bulkD, Bool.toNat_false]
          omega
    · rename_i fs hu
      simp only [Bool.and_eq_true] at hp
      obtain ⟨xs, m, rfl, rfl, hl, hxl, hx⟩ := DataW.trod_struct hu ht
      have hr : rowed P fs.toList 0 cs.length = true := by rw [hl]; exact hp.1
      obtain ⟨ps, h1, h2, h3, h4⟩ := op_fields (s := s) (fun t cs fuel x a b c => ih s t cs fuel x a b c) hs fs.toList 0 hr hp.2 xs (by simpa using hxl) fun i f hf => ⟨m, hx i f (by simpa using hf)⟩
      exact ⟨ps, by simpa using h1, by unfold OpT; rw [hu]; exact h2, h3, by simp only [isStruct, hu, bulkD, Bool.toNat_true]; omega⟩
    · simp at hp
end Go.Proofs.Ytfjolephpghafaa.AW
