import Derived.Test.YtfjolephpghafaaAwLaw
namespace Go.Proofs.Ytfjolephpghafaa.AW
variable {P : Program}

theorem map_of {α : Type} {f : α → PV} {q : α → Prop} : ∀ {xs : List PV}, (∀ x, x ∈ xs → ∃ a, x = f a ∧ q a) → ∃ as : List α, xs = as.map f ∧ ∀ a, a ∈ as → q a
  | [], _ => ⟨[], rfl, by simp⟩
  | x :: xs, h => by
    obtain ⟨a, rfl, ha⟩ := h x (by simp)
    obtain ⟨as, rfl, has⟩ := map_of (xs := xs) fun y hy => h y (by simp [hy])
    exact ⟨a :: as, rfl, by simp only [List.mem_cons, forall_eq_or_imp]; exact ⟨ha, has⟩⟩

theorem noStruct {t : TypeId} {d : TypeDesc} (h : P.underlying t = some d) (hd : ∀ fs, d ≠ .struct fs) : isStruct P t = false := by
  unfold isStruct; rw [h]
  cases d <;> first | rfl | exact absurd rfl (hd _)

theorem op_int {n : Nat} {t : TypeId} {k : IntKind} {v : PV} (hu : P.underlying t = some (.int k)) (h : OpE P (n + 1) t v) : ∃ m, v = .int k m ∧ (Lit.int k m).wf = true := by
  unfold OpE at h
  rw [noStruct hu (by simp)] at h
  unfold OpT at h
  simp only [hu] at h
  obtain ⟨m, hm, hw⟩ := h
  cases hm; exact ⟨m, rfl, hw⟩
theorem op_bool {n : Nat} {t : TypeId} {v : PV} (hu : P.underlying t = some .bool) (h : OpE P (n + 1) t v) : ∃ b, v = .bool b := by
  unfold OpE at h
  rw [noStruct hu (by simp)] at h
  unfold OpT at h
  simp only [hu] at h
  obtain ⟨b, hb⟩ := h
  cases hb; exact ⟨b, rfl⟩
theorem op_str {n : Nat} {t : TypeId} {v : PV} (hu : P.underlying t = some .string) (h : OpE P (n + 1) t v) : ∃ l, v = .str l ∧ l.length ≤ maxLen := by
  unfold OpE at h
  rw [noStruct hu (by simp)] at h
  unfold OpT at h
  simp only [hu] at h
  obtain ⟨l, hl, hw⟩ := h
  cases hl; exact ⟨l, rfl, hw⟩
theorem op_slice {n : Nat} {t e : TypeId} {v : PV} (hu : P.underlying t = some (.slice e)) (h : OpE P (n + 1) t v) :
    ∃ k xs, v = .sl k (P.cellsOf e) xs ∧ (k = .nil → xs = []) ∧ (k = .nil ∨ k = .shr) ∧ xs.length ≤ maxLen ∧ ∀ x, x ∈ xs → OpE P n e x := by
  unfold OpE at h
  rw [noStruct hu (by simp)] at h
  unfold OpT at h
  simp only [hu] at h
  obtain ⟨k, xs, hx, h1, h2, h3, h4⟩ := h
  cases hx; exact ⟨k, xs, rfl, h1, h2, h3, h4⟩
theorem op_struct {n : Nat} {t : TypeId} {fs : Array Field} {v : PV} (hu : P.underlying t = some (.struct fs)) (h : OpE P (n + 1) t v) : ∃ cs, v = .agg cs ∧ OpFs P n fs.toList cs := by
  unfold OpE at h
  have : isStruct P t = true := by unfold isStruct; rw [hu]
  rw [this] at h
  obtain ⟨cs, rfl, h⟩ := h
  unfold OpT at h
  simp only [hu] at h
  exact ⟨cs, rfl, h⟩
/-- A slice of numbers. -/
theorem op_ints {n : Nat} {t e : TypeId} {k : IntKind} {v : PV} (hu : P.underlying t = some (.slice e)) (he : P.underlying e = some (.int k)) (h : OpE P (n + 2) t v) :
    ∃ kd ns, v = .sl kd (P.cellsOf e) (ns.map (.int k)) ∧ (kd = .nil → ns = []) ∧ (kd = .nil ∨ kd = .shr) ∧ ∀ m, m ∈ ns → (Lit.int k m).wf = true := by
  obtain ⟨kd, xs, rfl, h1, h2, _, h4⟩ := op_slice hu h
  obtain ⟨ns, rfl, h5⟩ := map_of (f := .int k) (q := fun m => (Lit.int k m).wf = true) fun x hx => op_int he (h4 x hx)
  exact ⟨kd, ns, rfl, fun hk => List.map_eq_nil_iff.1 (h1 hk), h2, h5⟩
/-- A slice of texts. -/
theorem op_strs {n : Nat} {t e : TypeId} {v : PV} (hu : P.underlying t = some (.slice e)) (he : P.underlying e = some .string) (h : OpE P (n + 2) t v) :
    ∃ kd ls, v = .sl kd (P.cellsOf e) (ls.map .str) ∧ (kd = .nil → ls = []) ∧ (kd = .nil ∨ kd = .shr) := by
  obtain ⟨kd, xs, rfl, h1, h2, _, h4⟩ := op_slice hu h
  obtain ⟨ls, rfl, _⟩ := map_of (f := .str) (q := fun l => l.length ≤ maxLen) fun x hx => op_str he (h4 x hx)
  exact ⟨kd, ls, rfl, fun hk => List.map_eq_nil_iff.1 (h1 hk), h2⟩
/-- The length of what is read, by its bulk. -/
theorem bulk_sl {k : SK} {sz : Nat} {xs : List PV} : xs.length + 1 ≤ bulkP (.sl k sz xs) := by
  have := bulkPs_len xs
  simp only [bulkP]; omega
end Go.Proofs.Ytfjolephpghafaa.AW
