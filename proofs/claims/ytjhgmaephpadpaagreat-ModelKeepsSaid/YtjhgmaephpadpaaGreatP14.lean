/- A part of the proof: AW/Sort, AW/SortK. -/
import Derived.Test.YtjhgmaephpadpaaGreatP7
import Derived.Shelf.SlSortCmp.Whole1
import Derived.Shelf.SlSortCmp.NoneTotal
import Derived.Shelf.SlSortCmp.WholeK
namespace Go.Proofs.YtjhgmaephpadpaaGreat.AW
set_option linter.unusedSimpArgs false
set_option linter.unusedVariables false
open Go.Proofs Go.Shelf Go.RowKit Go.Lib
variable {P : Program}

/-! ### slices.SortFunc, by the shelf -/
/-- Of those that are sorted: a strict weak order. -/
structure Ord (lt : PV → PV → Prop) (xs : List PV) : Prop where
  irrefl : ∀ x, x ∈ xs → ¬ lt x x
  trans : ∀ x y z, x ∈ xs → y ∈ xs → z ∈ xs → lt x y → lt y z → lt x z
  ntrans : ∀ x y z, x ∈ xs → y ∈ xs → z ∈ xs → ¬ lt x y → ¬ lt y z → ¬ lt x z

theorem world_ext {w w' : World} (h : w'.heap = w.heap) (h2 : w'.tape = w.tape) (h3 : w'.drawn = w.drawn) (h4 : w'.os = w.os) (h5 : w'.output = w.output) : w' = w := by
  cases w; cases w'
  simp only at h h2 h3 h4 h5
  subst h; subst h2; subst h3; subst h4; subst h5; rfl

/-- A closure's contract, beside no store, in any world where what its arguments reach is as it was. -/
theorem cal_reads {f : Nat} {args : List PV} {vs : List Value} {r : PV} {W : World} {X : Nat → Prop} (hf : ∃ fn, P.funcs[f]? = some fn ∧ (fn.name == "runtime.NumGoroutine") = false ∧ fn.body.isSome = true)
    (hc : Cal P f (args.map .p) [] fun v s' => v = .p r ∧ s' = []) (hX : ∀ b, X b → b < W.heap.size) (hG : ∀ i cs, glob P i = some cs → i < W.heap.size ∧ ¬ X i ∧ CellsP W X i 0 cs) (hr : RepPs W X args vs) :
    Calls P f vs.toArray W fun e W' => ∃ v, e = .returned v ∧ RepP W' X r v ∧ ∃ q os', W' = Sort.grow (W.drewN q) os' := by
  let g : G := { ι := fun n => n, X := X, C := fun _ => False }
  have hemp : ∀ id, getO ([] : Store) id = none := fun id => rfl
  have hlv : ∀ b, Lv g (getO []) b → X b := by
    rintro b (h | ⟨id, h1, _, _⟩)
    · exact h
    · exact absurd (hemp id) h1
  have hinv : Inv W g (getO []) := ⟨fun id o h => by rw [hemp] at h; (cases h), fun id o h => by rw [hemp] at h; (cases h), hX, fun i j h => absurd (hemp i) h, fun id o h => by rw [hemp] at h; (cases h), fun id o h => by rw [hemp] at h; (cases h)⟩
  have hargs : RepAs W g (getO []) (args.map .p) vs := (hr.keep (fun _ _ _ => rfl) (fun b _ h => hlv b h)).repAs
  have hG0 : Gk P W g (getO []) := fun i cs hi => by
    obtain ⟨q1, q2, q3⟩ := hG i cs hi
    exact ⟨q1, fun hl => q2 (hlv _ hl), q3.keep (fun _ _ _ => rfl) (fun b _ h => hlv b h) (fun _ => q2)⟩
  unfold Cal at hc
  rcases hc W g vs hinv hG0 (fun _ h => h.elim) hargs with ⟨_, hc⟩ | ⟨v, w', hrun, _⟩
  rotate_left 1
  · exfalso
    obtain ⟨fn, h1, h2, h3⟩ := hf
    rw [callFunc_enter h1 h2 h3] at hrun
    cases hrun
  refine hc.mono fun e w' hpost => ?_
  obtain ⟨v, x, s', g', rfl, ⟨rfl, rfl⟩, _, hrep, hinv', hext, _⟩ := hpost
  have hall : ∀ b, b < W.heap.size → w'.heap[b]? = W.heap[b]? := fun b hb => hext.frame b hb (fun ⟨id, h1, _, _⟩ => h1 (hemp id))
  refine ⟨x, rfl, hrep.inv_p.keep (fun _ _ _ => rfl) (fun b _ h => .inl (by rw [hext.X]; exact h)), w'.drawn - W.drawn, w'.heap.extract W.heap.size w'.heap.size, ?_⟩
  have hd := hext.drawn
  refine world_ext ?_ hext.tape ?_ hext.os hext.output
  · show w'.heap = W.heap ++ w'.heap.extract W.heap.size w'.heap.size
    apply Array.ext_getElem?
    intro i
    have hsz := hext.size
    by_cases hi : i < W.heap.size
    · rw [Array.getElem?_append_left hi]; exact hall i hi
    · rw [Array.getElem?_append_right (by omega), Array.getElem?_extract]
      by_cases hj : i < w'.heap.size
      · rw [if_pos (by omega), show W.heap.size + (i - W.heap.size) = i by omega]
      · rw [if_neg (by omega), Array.getElem?_eq_none (by omega)]
  · show w'.drawn = W.drawn + (w'.drawn - W.drawn)
    omega

theorem RepPs.at {w : World} {B : Nat → Prop} : ∀ {ps : List PV} {xs : List Value}, RepPs w B ps xs → ∀ {i : Nat} {p : PV} {x : Value}, ps[i]? = some p → xs[i]? = some x → RepP w B p x
  | _, _, .cons p x ps xs h hs, 0, _, _, hp, hx => by
    have hp : some p = some _ := hp
    have hx : some x = some _ := hx
    cases hp; cases hx; exact h
  | _, _, .cons p x ps xs h hs, i + 1, _, _, hp, hx => hs.at (i := i) (by simpa using hp) (by simpa using hx)
theorem RepPs.length {w : World} {B : Nat → Prop} : ∀ {ps : List PV} {xs : List Value}, RepPs w B ps xs → ps.length = xs.length
  | _, _, .nil => rfl
  | _, _, .cons _ _ _ _ _ hs => by simp [hs.length]

theorem one_val {w : World} {B : Nat → Prop} {p : PV} {x : Value} (h : RepP w B p x) (ho : p.one = true) : x.oneCell' = true := by
  cases h with
  | agg => simp [PV.one] at ho
  | lit _ hl => cases x <;> first | rfl | exact hl.elim
  | _ => rfl

end Go.Proofs.YtjhgmaephpadpaaGreat.AW

namespace Go.Proofs.YtjhgmaephpadpaaGreat.AW
set_option linter.unusedSimpArgs false
set_option linter.unusedVariables false
open Go.Proofs Go.Shelf Go.RowKit Go.Lib
variable {P : Program}

/-! ### slices.SortFunc at structs, by the shelf -/
theorem sortWorldK_heap {α : Type} [Inhabited α] (enc : α → List Value) (k : Nat) (w : World) (blk off m : Nat) (dk : Array α) (os : Array Obj) :
    (sortWorldK enc k w blk off m dk os).heap = w.heap.modify blk (Sort.onCells (Sort.putCells id off (Sort.flatK enc k dk))) ++ os := rfl
theorem sortWorldK_old {α : Type} [Inhabited α] (enc : α → List Value) (k : Nat) (w : World) (blk off m : Nat) (dk : Array α) (os : Array Obj) {b : Nat} (hb : b < w.heap.size) (hne : b ≠ blk) : (sortWorldK enc k w blk off m dk os).heap[b]? = w.heap[b]? := by
  rw [sortWorldK_heap, Array.getElem?_append_left (by simpa using hb), Array.getElem?_modify, if_neg (Ne.symm hne)]
theorem sortWorldK_at {α : Type} [Inhabited α] (enc : α → List Value) (k : Nat) (w : World) (blk off m : Nat) (dk : Array α) (os : Array Obj) {c : Array Value} {e : TypeId} {f : Nat × Nat} (h : w.heap[blk]? = some (.cells c e f)) :
    (sortWorldK enc k w blk off m dk os).heap[blk]? = some (.cells (Sort.putCells id off (Sort.flatK enc k dk) c) e f) := by
  have hb : blk < w.heap.size := by
    rcases Nat.lt_or_ge blk w.heap.size with q | q
    · exact q
    · rw [Array.getElem?_eq_none q] at h; cases h
  rw [sortWorldK_heap, Array.getElem?_append_left (by simpa using hb), Array.getElem?_modify, if_pos rfl, h]
  rfl

theorem flat_at {k : Nat} : ∀ {xs : List PV}, (∀ x, x ∈ xs → El k x) → ∀ (i : Nat) (hi : i < xs.length), ((flat xs).drop (i * k)).take k = xs[i].cells
  | [], _, i, hi => absurd hi (by simp)
  | x :: r, h, 0, hi => by
    show ((x.cells ++ flat r).drop (0 * k)).take k = x.cells
    have := (h x (by simp)).1
    rw [Nat.zero_mul, List.drop_zero, List.take_append_of_le_length (by omega), List.take_of_length_le (by omega)]
  | x :: r, h, i + 1, hi => by
    show ((x.cells ++ flat r).drop ((i + 1) * k)).take k = (r[i]'(by simpa using hi)).cells
    have := (h x (by simp)).1
    rw [Nat.add_mul, Nat.one_mul, show i * k + k = x.cells.length + i * k by omega, List.drop_append, List.drop_of_length_le (by omega), List.nil_append, show x.cells.length + i * k - x.cells.length = i * k by omega]
    exact flat_at (fun y hy => h y (by simp [hy])) i _

theorem flatK_list {α : Type} [Inhabited α] (enc : α → List Value) (k : Nat) (hk : ∀ x, (enc x).length = k) (d : Array α) : (Sort.flatK enc k d).toList = d.toList.flatMap enc := by
  have key : ∀ (l : List α) (t : Nat), t < l.length * k → (l.flatMap enc)[t]? = (enc l[t / k]!)[t % k]? := by
    intro l
    induction l with
    | nil => intro t ht; simp at ht
    | cons x r ih =>
      intro t ht
      have k0 : 0 < k := by
        rcases Nat.eq_zero_or_pos k with q | q
        · subst q; simp at ht
        · exact q
      rw [List.flatMap_cons]
      by_cases hlt : t < k
      · rw [List.getElem?_append_left (by rw [hk]; exact hlt), Nat.div_eq_of_lt hlt, Nat.mod_eq_of_lt hlt]; rfl
      · rw [List.getElem?_append_right (by rw [hk]; omega), hk]
        have ht' : t - k < r.length * k := by simp [Nat.add_mul] at ht; omega
        have e1 : t / k = (t - k) / k + 1 := by rw [Nat.div_eq_sub_div k0 (by omega)]
        have e2 : t % k = (t - k) % k := by rw [Nat.mod_eq_sub_mod (by omega)]
        rw [ih _ ht', e1, e2]
        rfl
  have hlen : (d.toList.flatMap enc).length = d.size * k := by
    rw [List.length_flatMap]
    have : (d.toList.map fun a => (enc a).length) = List.replicate d.size k := by
      apply List.ext_getElem
      · simp
      · intro i h1 h2; simp [hk]
    rw [this]; simp
  apply List.ext_getElem?
  intro t
  by_cases ht : t < d.size * k
  · have k0 : 0 < k := by
      rcases Nat.eq_zero_or_pos k with q | q
      · subst q; simp at ht
      · exact q
    rw [key _ t (by simpa using ht)]
    have e1 := Sort.get_flatK enc k d t ht
    rw [getElem!_pos _ _ (by rw [Sort.size_flatK]; exact ht)] at e1
    rw [List.getElem?_eq_getElem (by simpa using ht)]
    rw [Array.getElem_toList, e1]
    have hd : d[t / k]! = d.toList[t / k]! := by
      have hl : t / k < d.size := Nat.div_lt_of_lt_mul (by rw [Nat.mul_comm]; exact ht)
      rw [getElem!_pos d _ hl, getElem!_pos d.toList _ (by simpa using hl)]; simp
    rw [hd, List.getElem?_eq_getElem (by rw [hk]; exact Nat.mod_lt _ k0), getElem!_pos _ _ (by rw [hk]; exact Nat.mod_lt _ k0)]
  · rw [List.getElem?_eq_none (by simpa using ht), List.getElem?_eq_none (by rw [hlen]; omega)]

theorem sortResK {k : Nat} {w w' : World} {g : G} {s : Store} {id : Nat} {xs ys : List PV} {ty : Option Nat} {vals vals' : List Value} {e : TypeId} {f : Nat × Nat} {K : AV → Store → Prop} (hk0 : 0 < k) (hinv : Inv w g (getO s)) (hs : getO s id = some (.buf k xs ty)) (hR : g.R id)
    (hvals : w.heap[g.ι id]? = some (.cells vals.toArray e f)) (hfr : f.1 = f.2 ∨ vals.length ≤ f.1) (hvals' : w'.heap[g.ι id]? = some (.cells vals'.toArray e f)) (hlen : vals'.length = vals.length) (hyl : ys.length = xs.length)
    (hn : k * xs.length ≤ vals.length) (hel : ∀ x, x ∈ ys → El k x) (hy : RepPs w (Lv g (getO s)) (flat ys) (vals'.take (k * ys.length)))
    (hold : ∀ b, b < w.heap.size → b ≠ g.ι id → w'.heap[b]? = w.heap[b]?) (hsz : w.heap.size ≤ w'.heap.size) (ho : w'.os = w.os) (ht : w'.tape = w.tape) (hu : w'.output = w.output) (hd : w.drawn ≤ w'.drawn)
    (hty : ∀ u, ty = some u → ∃ n, w.shape? (g.ι id) = some (u, n)) (hkk : K (.tup []) (s.set id (some (.buf k ys ty)))) : CalPost w g s K (.returned (.tuple #[])) w' := by
  have hl : id < s.length := getO_lt hs
  have hget : ∀ i, getO (s.set id (some (.buf k ys ty))) i = if i = id then some (.buf k ys ty) else getO s i := fun i => by rw [getO_set s id _ i hl]
  have hsome : ∀ i, getO (s.set id (some (.buf k ys ty))) i ≠ none → getO s i ≠ none := fun i h => by
    rw [hget] at h
    by_cases hi : i = id
    · subst hi; rw [hs]; simp
    · rwa [if_neg hi] at h
  have hshape : w'.shape? (g.ι id) = w.shape? (g.ι id) := by unfold World.shape?; rw [hvals, hvals']; simp [hlen]
  have hext : Ext w g (getO s) w' g (getO (s.set id (some (.buf k ys ty)))) := {
    size := hsz
    os := ho
    tape := ht
    output := hu
    frame := fun b hb hno => hold b hb fun q => hno ⟨id, by rw [hs]; simp, hR, q.symm⟩
    shape := fun b hb => by
      by_cases hbi : b = g.ι id
      · rw [hbi]; exact hshape
      · exact shape_same (hold b hb hbi)
    X := rfl
    C := fun _ h => h
    own := fun b hb ⟨i, h1, hr, h2⟩ => ⟨i, hsome i h1, hr, h2⟩
    obj := fun i hc oo hoo => by
      rw [hget] at hoo
      by_cases hi : i = id
      · subst hi
        rw [if_pos rfl] at hoo
        cases hoo
        exact ⟨_, hs, rfl, by omega, rfl⟩
      · rw [if_neg hi] at hoo; exact ⟨oo, hoo, .refl _⟩
    ι1 := fun _ _ _ => ⟨rfl, .rfl⟩
    ι2 := fun _ _ _ _ _ _ _ _ _ _ => ⟨rfl, .rfl⟩
    drawn := hd }
  refine ⟨.tup [], .tuple #[], s.set id (some (.buf k ys ty)), g, rfl, hkk, by simp, .tup [] [] .nil, ?_, hext, fun i h => .inl h⟩
  refine ⟨fun i oo h => ?_, fun i oo h hr => ?_, fun b hb => Nat.lt_of_lt_of_le (hinv.xlt b hb) hsz, fun i j h k ri rj hij => hinv.inj i j (hsome i h) (hsome j k) ri rj hij, fun i oo h hr => ?_, fun i oo h hr => ?_⟩
  · obtain ⟨o2, ho2⟩ := Option.ne_none_iff_exists'.1 (hsome i (by rw [h]; simp)); exact hinv.made _ _ ho2
  · obtain ⟨o2, ho2⟩ := Option.ne_none_iff_exists'.1 (hsome i (by rw [h]; simp))
    exact ⟨Nat.lt_of_lt_of_le (hinv.lies _ _ ho2 hr).1 hsz, (hinv.lies _ _ ho2 hr).2⟩
  · rw [hget] at h
    by_cases hi : i = id
    · subst hi
      rw [if_pos rfl] at h
      cases h
      exact .buf k ys vals' hk0 hel (by rw [hyl, hlen]; exact hn) (hext.repPs hy) ⟨e, f, hvals', by rw [hlen]; exact hfr⟩ ty (fun u hu => by obtain ⟨n, hn⟩ := hty u hu; exact ⟨n, hshape.trans hn⟩)
    · rw [if_neg hi] at h
      refine hext.repO (hold _ (hinv.lies _ _ h hr).1 (fun q => hi ?_)) (hinv.rep _ _ h hr)
      exact hinv.inj _ _ (by rw [h]; simp) (by rw [hs]; simp) hr hR q
  · rw [hget] at h
    by_cases hi : i = id
    · subst hi; exact absurd hR hr
    · rw [if_neg hi] at h; exact hinv.void _ _ h hr

/-- slices.SortFunc of an owned slice of structs of k cells. -/
theorem Cal.sortK {ρ : Go.Shelf.Ren} (L0 : SlLaysF0.n6 P ρ) {k : Nat} (hk0 : 0 < k) (aE : ∀ w, (isAgg (ρ.t 24)).run P w = .ok true w) (zE : ∀ w, (Go.sizeOf (ρ.t 24)).run P w = .ok k w) {f : Nat} (hf6 : ρ.f 6 = f) (hf : ∃ fn, P.funcs[f]? = some fn ∧ (fn.name == "runtime.NumGoroutine") = false ∧ fn.body.isSome = true)
    {gf : Nat} (hgf : ∃ fn, P.funcs[gf]? = some fn ∧ (fn.name == "runtime.NumGoroutine") = false ∧ fn.body.isSome = true) {s : Store} {id : Nat} {xs : List PV} {ty : Option Nat} (hs : getO s id = some (.buf k xs ty)) (hagg : ∀ x, x ∈ xs → x = .agg x.cells) (hlen : xs.length < 4611686018427387904)
    (cf : PV → PV → Int) (hO : Ord (fun x y => cf x y < 0) xs) (hcmp : ∀ x y, x ∈ xs → y ∈ xs → Cal P gf [.p x, .p y] [] fun v s' => v = .p (.int .i64 (cf x y)) ∧ s' = []) {K : AV → Store → Prop}
    (h : ∀ ys, ys.Perm xs → ys.Pairwise (fun x y => ¬ cf y x < 0) → K (.tup []) (s.set id (some (.buf k ys ty)))) : Cal P f [.osl id xs.length 0 xs.length, .clos gf []] s K := by
  subst hf6
  unfold Cal
  intro w g vs hinv hG hfr hargs
  refine .inl ⟨hf, ?_⟩
  cases hargs with
  | cons _ sv _ _ h1 h2 => cases h2 with
    | cons _ fv _ _ h2 h3 =>
      cases h3
      cases h2 with
      | clos _ _ a ha =>
        cases ha
        obtain ⟨hx, hc, ht, hq⟩ := h1.inv_osl
        · obtain ⟨q, cap, rfl, _⟩ := hx
          obtain ⟨_, hq1, hq2⟩ := hq k xs ty hs rfl
          by_cases hz : xs.length = 0
          · have hxs : xs = [] := List.length_eq_zero_iff.1 hz
            subst hxs
            have := AnyF.slices_SortFunc_none L0 q cap (.func (.func gf) #[] #[]) w
            refine Calls.mono this fun e w' hp => ?_
            obtain ⟨rfl, rfl⟩ := hp
            have hkk := h [] (List.Perm.refl _) .nil
            rw [set_same hs] at hkk
            exact ⟨.tup [], .tuple #[], s, g, rfl, hkk, Nat.le_refl _, .tup [] [] .nil, hinv, .refl _ _ _, fun i h => .inl h⟩
          · have hpos : 0 < xs.length := by omega
            have hR : g.R id := hinv.real hs (by intro sz t q; cases q; exact hz rfl)
            obtain ⟨ad, cap', e1, e2, e3, e4⟩ := hq2 hR
            cases e1
            obtain ⟨e5, _⟩ := e4 (by omega)
            subst e5
            rw [Nat.zero_mul]
            cases hinv.rep _ _ hs hR with
            | buf _ _ vals _ hel hn hrep hare _ hty =>
              have hare' := hare
              obtain ⟨et, ef, hb1, hb2⟩ := hare
              have hblk := (hinv.lies _ _ hs hR).1
              haveI : Inhabited (Fin xs.length) := ⟨⟨0, hpos⟩⟩
              let enc : Fin xs.length → List Value := fun i => ((vals.take (k * xs.length)).drop (i.1 * k)).take k
              have hroom : ∀ i : Fin xs.length, i.1 * k + k ≤ k * xs.length := fun i => by
                have := Nat.mul_le_mul_right k (show i.1 + 1 ≤ xs.length from i.2)
                rw [Nat.add_mul, Nat.one_mul] at this
                rw [Nat.mul_comm k]; exact this
              have hk : ∀ i, (enc i).length = k := fun i => by
                have := hroom i
                simp only [enc, List.length_take, List.length_drop]
                omega
              let d : Array (Fin xs.length) := (List.finRange xs.length).toArray
              have hds : d.size = xs.length := by simp [d]
              have hdj : ∀ j (hj : j < xs.length), d[j]! = ⟨j, hj⟩ := fun j hj => by
                rw [getElem!_pos d j (by rw [hds]; exact hj)]
                simp [d]
              have hmem : ∀ i : Fin xs.length, xs[i] ∈ xs := fun i => List.getElem_mem _
              have hats : ∀ i : Fin xs.length, RepPs w (Lv g (getO s)) (xs[i]).cells (enc i) := fun i => by
                have := (hrep.drop (i.1 * k)).take k
                rw [flat_at hel i.1 i.2] at this
                exact this
              have hat : ∀ i : Fin xs.length, RepP w (Lv g (getO s)) xs[i] (.agg (enc i).toArray) := fun i => by
                rw [hagg _ (hmem i)]
                exact .agg _ _ (hats i)
              have hone : ∀ i, ∀ v ∈ enc i, v.oneCell' = true := fun i v hv => by
                obtain ⟨c, hc1, hc2⟩ := List.mem_iff_getElem.1 hv
                have hr := hats i
                have hc3 : c < (xs[i]).cells.length := by rw [hr.length]; exact hc1
                have := hr.at (List.getElem?_eq_getElem hc3) (List.getElem?_eq_getElem hc1)
                rw [hc2] at this
                exact one_val this (List.all_eq_true.1 (hel _ (hmem i)).2 _ (List.getElem_mem _))
              have hcf : Go.Sort.SWO (ltOf fun i j : Fin xs.length => cf xs[i] xs[j]) := by
                refine ⟨fun i => ?_, fun i j k h1 h2 => ?_, fun i j k h1 h2 => ?_⟩
                · exact decide_eq_false (hO.irrefl _ (hmem i))
                · exact decide_eq_true (hO.trans _ _ _ (hmem i) (hmem j) (hmem k) (of_decide_eq_true h1) (of_decide_eq_true h2))
                · exact decide_eq_false (hO.ntrans _ _ _ (hmem i) (hmem j) (hmem k) (of_decide_eq_false h1) (of_decide_eq_false h2))
              have hH : Go.Sort.HoldsK enc k w (g.ι id) 0 d := fun j hj => by
                rw [Sort.size_flatK, hds] at hj
                have hjd : j / k < xs.length := Nat.div_lt_of_lt_mul (by rw [Nat.mul_comm]; exact hj)
                have hjv : j < vals.length := by rw [Nat.mul_comm] at hj; omega
                have hmod := Nat.mod_lt j hk0
                have hrm := hroom ⟨j / k, hjd⟩
                rw [Nat.zero_add, cell_of_are hare', frozen_of_are hare' hjv, Sort.get_flatK _ _ _ _ (by rw [hds]; exact hj), hdj _ hjd, getElem!_pos _ _ (by rw [hk]; exact hmod)]
                refine ⟨?_, rfl⟩
                rw [List.getElem?_eq_getElem hjv]
                simp only [enc, List.getElem_take, List.getElem_drop, _root_.id]
                congr 2
                exact (Nat.div_add_mod' j k).symm
              have hcm : CmpLays P gf #[] enc k (fun i j => cf xs[i] xs[j]) (g.ι id) 0 d.size w := by
                intro m os dk hdk i j
                have hold := fun b hb hne => sortWorldK_old enc k w (g.ι id) 0 m dk os (b := b) hb hne
                have hkeep : ∀ b, b < w.heap.size → ¬ Lv g (getO s) b → (sortWorldK enc k w (g.ι id) 0 m dk os).heap[b]? = w.heap[b]? := fun b hb hl => hold b hb fun q => hl (.inr ⟨id, by rw [hs]; simp, hR, q.symm⟩)
                have hsz : w.heap.size ≤ (sortWorldK enc k w (g.ι id) 0 m dk os).heap.size := by rw [sortWorldK_heap]; simp
                have hX : ∀ b, Lv g (getO s) b → b < w.heap.size := by
                  rintro b (hb | ⟨k, k1, k2, k3⟩)
                  · exact hinv.xlt b hb
                  · obtain ⟨o2, ho2⟩ := Option.ne_none_iff_exists'.1 k1
                    rw [← k3]; exact (hinv.lies k o2 ho2 k2).1
                have hrs : RepPs (sortWorldK enc k w (g.ι id) 0 m dk os) (Lv g (getO s)) [xs[i], xs[j]] [.agg (enc i).toArray, .agg (enc j).toArray] := .cons _ _ _ _ ((hat i).keep hkeep fun _ _ q => q) (.cons _ _ _ _ ((hat j).keep hkeep fun _ _ q => q) .nil)
                have := cal_reads (args := [xs[i], xs[j]]) (r := .int .i64 (cf xs[i] xs[j])) hgf (hcmp xs[i] xs[j] (List.getElem_mem _) (List.getElem_mem _)) (fun b hb => Nat.lt_of_lt_of_le (hX b hb) hsz) (fun q cs hk => by
                  obtain ⟨g1, g2, g3⟩ := hG q cs hk
                  exact ⟨Nat.lt_of_lt_of_le g1 hsz, g2, g3.keep hkeep (fun _ _ q => q) fun _ => g2⟩) hrs
                refine Calls.mono this fun e w' hp => ?_
                obtain ⟨v, rfl, hv, q, os', rfl⟩ := hp
                cases hv
                exact ⟨rfl, q, os', rfl⟩
              have hgo := AnyQ.slices_SortFunc L0 k aE zE enc hk hone _ hcf gf #[] (g.ι id) 0 cap d w (fun args w => callFunc_enter (w := w) hgf.choose_spec.1 hgf.choose_spec.2.1 hgf.choose_spec.2.2 args) hcm hH hblk (by rw [hds]; exact hlen)
              rw [hds] at hgo
              refine Calls.mono hgo fun e w' hp => ?_
              obtain ⟨rfl, d', m, os, hperm, hsorted, rfl⟩ := hp
              obtain ⟨p1, _, p3⟩ := hperm
              rw [hds] at p1
              have hfull : ∀ a : Array (Fin xs.length), a.size = xs.length → a.extract 0 xs.length = a := fun a ha => Array.ext (by simp [ha]) (fun i h1 h2 => by simp)
              rw [hfull d' p1, hfull d hds] at p3
              have hys : (d'.toList.map fun i => xs[i]).Perm xs := by
                refine (p3.map _).trans ?_
                have : d.toList.map (fun i : Fin xs.length => xs[i]) = xs := by
                  simp only [d]
                  apply List.ext_getElem
                  · simp
                  · intro i h1 h2; simp
                rw [this]
              have hyl : (d'.toList.map fun i => xs[i]).length = xs.length := hys.length_eq
              have hpw : (d'.toList.map fun i => xs[i]).Pairwise (fun x y => ¬ cf y x < 0) := by
                rw [List.pairwise_map, List.pairwise_iff_getElem]
                intro i j hi hj hij
                have hi' : i < xs.length := by simpa [p1] using hi
                have hj' : j < xs.length := by simpa [p1] using hj
                have := hsorted i j (Nat.zero_le _) hij hj'
                have := of_decide_eq_false this
                rw [getElem!_pos d' i (by rw [p1]; exact hi'), getElem!_pos d' j (by rw [p1]; exact hj')] at this
                simpa using this
              have hkk := h _ hys hpw
              have hat' := sortWorldK_at enc k w (g.ι id) 0 m d' os hb1
              refine sortResK (vals' := (Sort.putCells _root_.id 0 (Sort.flatK enc k d') vals.toArray).toList) hk0 hinv hs hR hb1 hb2 (by rw [hat']) (by simp [Sort.putCells]) hyl hn (fun x hx => hel x (hys.mem_iff.1 hx)) ?_ (fun b hb hne => sortWorldK_old enc k w (g.ι id) 0 m d' os hb hne)
                (by rw [sortWorldK_heap]; simp) rfl rfl rfl (Nat.le_add_right _ _) hty hkk
              have htake : ((Sort.putCells _root_.id 0 (Sort.flatK enc k d') vals.toArray).toList).take (k * (d'.toList.map fun i => xs[i]).length) = d'.toList.flatMap enc := by
                rw [← flatK_list enc k hk, hyl]
                have hfs : (Sort.flatK enc k d').toList.length = k * xs.length := by simp [p1, Nat.mul_comm]
                apply List.ext_getElem?
                intro t
                by_cases htt : t < k * xs.length
                · rw [List.getElem?_take_of_lt htt]
                  simp only [Sort.putCells, Array.getElem?_toList, Array.getElem?_mapIdx]
                  rw [List.getElem?_toArray, List.getElem?_eq_getElem (by omega)]
                  simp only [Option.map_some]
                  rw [if_pos ⟨Nat.zero_le _, by rw [Sort.size_flatK, p1, Nat.mul_comm]; omega⟩, Nat.sub_zero, getElem!_pos _ t (by rw [Sort.size_flatK, p1, Nat.mul_comm]; exact htt), Array.getElem?_eq_getElem (by rw [Sort.size_flatK, p1, Nat.mul_comm]; exact htt)]
                  rfl
                · rw [List.getElem?_eq_none (by simp; omega), List.getElem?_eq_none (by rw [hfs]; omega)]
              rw [htake]
              generalize d'.toList = l
              induction l with
              | nil => exact .nil
              | cons i r ih =>
                show RepPs w _ ((xs[i]).cells ++ flat (r.map fun i => xs[i])) (enc i ++ r.flatMap enc)
                exact (hats i).append ih
end Go.Proofs.YtjhgmaephpadpaaGreat.AW
