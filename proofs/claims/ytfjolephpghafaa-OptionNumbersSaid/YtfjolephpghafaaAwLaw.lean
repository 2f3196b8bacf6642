import Derived.Test.YtfjolephpghafaaAwOpen
import Derived.JoinedCond
namespace Go.Proofs.Ytfjolephpghafaa.AW
open Go.ChangeShapes Go.WideShapes Go.ChangeAt Go.RowKit
variable {P : Program} {H : Type} {enc : TypeId × Value → H} {w : World} {base : Nat} {sp : Nat → Bool} {held : Bool}

theorem spotless_cell {r : Reach} {t : TypeId} {v : Value} (h : Cell.okWide P w r base t v) : spotless v := by
  rintro a len cap rfl
  unfold Cell.okWide at h
  split at h <;> try simp_all
  unfold Cell.ok at h
  split at h <;> simp_all
  exact h.2.2.2.1

theorem spotless_of_ok {r : Reach} {t : TypeId} {v : Value} (h : Value.okWide P w r base t v) : ∀ x, x ∈ v.cells.toList → spotless x := by
  intro x hx
  unfold Value.okWide at h
  split at h
  · obtain ⟨cs, rfl, _, ts, _, _, h3⟩ := h
    obtain ⟨i, hi, rfl⟩ := List.getElem_of_mem hx
    obtain ⟨u, _, hu⟩ := h3 i cs.toList[i] (by rw [Array.getElem?_eq_getElem (by simpa [Value.cells] using hi)]; rfl)
    exact spotless_cell hu
  · obtain ⟨cs, rfl, _, ts, _, _, h3⟩ := h
    obtain ⟨i, hi, rfl⟩ := List.getElem_of_mem hx
    obtain ⟨u, _, hu⟩ := h3 i cs.toList[i] (by rw [Array.getElem?_eq_getElem (by simpa [Value.cells] using hi)]; rfl)
    exact spotless_cell hu
  · cases v with
    | agg cs =>
      unfold Cell.okWide at h
      split at h <;> try simp_all
      unfold Cell.ok at h
      split at h <;> simp_all
    | _ =>
      simp only [Value.cells, List.mem_singleton] at hx
      subst hx
      exact spotless_cell h

theorem trodLen : ∀ {ts : List TypeId} {vs : List Value} {ds : List (DataW H)} {ps : List MemPlace}, DataW.TrodAll enc P w base sp held ts vs ds ps → ds.length = ts.length
  | [], [], [], _, _ => rfl
  | _ :: _, _ :: _, _ :: _, _, h => by obtain ⟨_, _, _, h2, _⟩ := h; simp [trodLen h2]
  | [], [], _ :: _, _, h => h.elim
  | [], _ :: _, _, _, h => h.elim
  | _ :: _, [], _, _, h => h.elim
  | _ :: _, _ :: _, [], _, h => h.elim

def OpEs (P : Program) (n : Nat) : List TypeId → List PV → Prop
  | [], [] => True
  | t :: ts, v :: vs => OpE P n t v ∧ OpEs P n ts vs
  | _, _ => False

theorem op_arg {B : Nat → Prop} (hB : ∀ b, ¬ B b) {r : Reach} {b0 n : Nat} {t : TypeId} {v : Value} {d : DataW H} {ps : List MemPlace} (hp : plainT P n true t = true) (hv : Value.okWide P w r b0 t v) (ht : DataW.Trod enc P w base sp held t v d ps) :
    ∃ p : PV, RepP w B p v ∧ OpE P n t p ∧ bulkP p ≤ bulkD d := by
  obtain ⟨fuel, hf⟩ := ht
  obtain ⟨qs, h1, h2, h3, h4⟩ := op_cells hB n true t _ fuel _ hp hf fun _ => spotless_of_ok hv
  cases hst : isStruct P t with
  | true =>
    unfold isStruct at hst
    unfold Value.okWide at hv
    split at hst
    · rename_i fs hu
      rw [hu] at hv
      obtain ⟨cs, rfl, _⟩ := hv
      refine ⟨.agg qs, ?_, ?_, ?_⟩
      · have := RepP.agg (w := w) (B := B) qs cs.toList (by simpa [Value.cells] using h1)
        simpa using this
      · unfold OpE; rw [show isStruct P t = true by unfold isStruct; rw [hu]]; exact ⟨qs, rfl, h2⟩
      · rw [show isStruct P t = true by unfold isStruct; rw [hu]] at h4; simpa [bulkP] using h4
    · cases hst
  | false =>
    have hc : v.cells.toList = [v] := by
      cases v with
      | agg cs =>
        exfalso
        cases n with
        | zero => simp [plainT] at hp
        | succ n =>
          unfold isStruct at hst
          unfold plainT at hp
          unfold Value.okWide at hv
          split at hp <;> rename_i hu <;> simp [hu] at hv hst hp <;> (unfold Cell.okWide at hv; simp [hu] at hv; unfold Cell.ok at hv; simp [hu] at hv)
      | _ => rfl
    rw [hc] at h1
    cases h1 with
    | cons p x _ _ h hs =>
      cases hs
      refine ⟨p, h, ?_, ?_⟩
      · unfold OpE; rw [hst]; exact h2
      · simp [bulkPs] at h4; omega

theorem op_args {B : Nat → Prop} (hB : ∀ b, ¬ B b) {r : Reach} {b0 n : Nat} : ∀ {ts : List TypeId} {vs : List Value} {ds : List (DataW H)} {ps : List MemPlace}, (ts.all fun t => plainT P n true t) = true →
    (∀ (j : Nat) t v, ts[j]? = some t → vs[j]? = some v → Value.okWide P w r b0 t v) → DataW.TrodAll enc P w base sp held ts vs ds ps → ∃ qs, RepPs w B qs vs ∧ OpEs P n ts qs ∧ bulkPs qs ≤ bulkDs ds
  | [], [], [], _, _, _, _ => ⟨[], .nil, trivial, by simp [bulkPs]⟩
  | t :: ts, v :: vs, d :: ds, ps, hp, hv, h => by
    obtain ⟨p, q, h1, h2, rfl⟩ := h
    simp only [List.all_cons, Bool.and_eq_true] at hp
    obtain ⟨x, k1, k2, k3⟩ := op_arg hB hp.1 (hv 0 t v rfl rfl) h1
    obtain ⟨xs, m1, m2, m3⟩ := op_args hB hp.2 (fun j t v a b => hv (j + 1) t v (by simpa using a) (by simpa using b)) h2
    exact ⟨x :: xs, .cons _ _ _ _ k1 m1, ⟨k2, m2⟩, by simp only [bulkPs, bulkDs]; omega⟩
  | [], [], _ :: _, _, _, _, h => h.elim
  | [], _ :: _, _, _, _, _, h => h.elim
  | _ :: _, [], _, _, _, _, h => h.elim
  | _ :: _, _ :: _, [], _, _, _, h => h.elim

/-- **A law's contract**, from its call's: whatever it is handed, it returns true, and leaves all as it was. -/
theorem law_contract {f : FuncId} {fn : Func} {s : ChangeSpec} {apart fresh handsOn again : Bool} {W : World} {base n : Nat} {args : Array Value} {ds gs : List (DataW H)} {before : List MemPlace} {t : TypeId}
    (hl : laidOutB P = true) (hvars : s.vars = []) (hplain : (fn.params.toList.all fun t => plainT P n true t) = true)
    (hts : (fn.params.toList.all fun t => P.readableRec t && decide (t < P.types.size)) = true) (hres : fn.resultTypes = #[t]) (hbool : P.underlying t = some .bool)
    (hr : ∀ ds : List (DataW H), ds.length = fn.params.toList.length → (s.fn H ds).results = [.lit (.bool true)] ∧ (s.fn H ds).args = ds ∧ (s.fn H ds).vars = [])
    (hval : ∀ (j : Nat) t v, fn.params[j]? = some t → args[j]? = some v → Value.okWide P W .any base t v)
    (hW : DataW.Whole enc P fn.params.toList s.vars apart W args.toList ds gs before)
    (hc : ∀ ps, OpEs P n fn.params.toList ps → bulkPs ps ≤ bulkDs (ds ++ gs) → Cal P f (ps.map .p) [] fun r _ => r = .p (.bool true)) :
    Calls P f args W fun e W' => ∃ v, e = .returned v ∧ s.post enc P fn apart fresh handsOn again W args v W' := by
  have hW0 := hW
  obtain ⟨p, q, hA, hV, rfl, hz, hn⟩ := hW
  rw [hvars] at hV
  have hq : gs = [] ∧ q = [] := by
    cases gs with
    | nil => exact ⟨rfl, hV⟩
    | cons => exact hV.elim
  obtain ⟨rfl, rfl⟩ := hq
  obtain ⟨qs, h1, h2, h3⟩ := op_args (B := fun _ => False) (fun _ h => h) hplain (fun j t v a b => hval j t v (by simpa using a) (by simpa using b)) hA
  have h4 := calls_true (hc qs h2 (by simpa using h3)) h1
  simp only [Array.toArray_toList] at h4
  have hlen : ds.length = fn.params.toList.length := (trodLen hA)
  have hr1 := hr ds hlen
  refine h4.mono fun e W' ⟨he, hw⟩ => ?_
  subst he
  exact ⟨_, rfl, law_post hl hW0 hvars hw hts hres hbool (by simpa using hr1.1) (by simpa using hr1.2.1) (by simpa using hr1.2.2)⟩
end Go.Proofs.Ytfjolephpghafaa.AW
