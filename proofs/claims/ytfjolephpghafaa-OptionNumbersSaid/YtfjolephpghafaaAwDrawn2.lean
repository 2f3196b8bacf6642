import Derived.Test.YtfjolephpghafaaAwDrawn1
namespace Go.Proofs.Ytfjolephpghafaa.AW
variable {P : Program}

theorem aop_local {o : Oper} {e : Env} {s : Store} {K : AV → Store → Prop} {w : World} {g : G} {σ : St} {a : Act} {T : Nat → Prop} {N : Prop} (h : aop P o.op e s K) (hnv : ∀ f args ts, o.op ≠ .call ⟨.value f, args, ts⟩)
    (hN : ∀ v s', K v s' → s.length < s'.length → N) (c : Cx w g σ s T N) (hT : ∀ id, id ∈ footT e o.op → T id) (he : EnvR w g σ e a.tmps) : OpOk P o a w (Rs w g σ s T K) := by
  generalize hop : o.op = op at h
  rw [hop] at hT hnv
  cases op
  case move => exact ok_move (.inl hop) (by simpa [aop] using h) c he
  case assign => exact ok_move (.inr hop) (by simpa [aop] using h) c he
  case pick => exact ok_pick hop h c he
  case alloc => exact ok_alloc hop h hN c
  case box => exact ok_box hop h hN c he
  case build => exact ok_build hop h c he
  case buildSlice => exact ok_buildSlice hop h c (fun q hq id hid => hT id (by simp only [footT]; exact List.mem_flatMap.2 ⟨q, hq, hid⟩)) he
  case load => exact ok_load hop h c (fun id hid => hT id hid) he
  case store => exact ok_store hop h c (fun id hid => hT id hid) he
  case nilCheck => exact ok_nilCheck hop h c he
  case binOp => exact ok_binOp hop h c he
  case unOp => exact ok_unOp hop h c he
  case convert => exact ok_convert hop h c (fun id hid => hT id hid) he
  case makeInterface => exact ok_makeInterface hop h c he
  case makeFunc => exact ok_makeFunc hop h c he
  case makeSlice => exact ok_makeSlice hop h hN c he
  case slice => exact ok_slice hop h c (fun id hid => hT id hid) he
  case fieldAddr => exact ok_fieldAddr hop h c he
  case field => exact ok_field hop h c he
  case indexAddr => exact ok_indexAddr hop h c (fun id hid => hT id hid) he
  case index => exact ok_index hop h c he
  case range => exact ok_range hop h hN c he
  case next => exact ok_next hop h c (fun id hid => hT id hid) he
  case typeAssert => exact ok_typeAssert hop h c he
  case extract => exact ok_extract hop h c he
  case call cl =>
    obtain ⟨callee, args, ts⟩ := cl
    simp only [aop, callA] at h
    cases callee with
    | builtin b => exact ok_builtin hop h hN c (fun x hx id hid => hT id (by simp only [footT]; exact List.mem_flatMap.2 ⟨x, hx, hid⟩)) he
    | value f => exact absurd rfl (hnv f args ts)
    | invoke r n => exact h.elim
  all_goals (simp only [aop] at h)

/-! ### The steps in the order of the text -/
structure Step where
  o : Oper
  v : AV
  e0 : Env
  s0 : Store
  s1 : Store
  f : Foot

def StepSem (P : Program) (x : Step) : Prop := dop P x.o x.e0 x.s0 fun v s' f => v = x.v ∧ s' = x.s1 ∧ f = x.f

def Does (P : Program) (n : Nat) (ops : Array Oper) (x : Step) : Prop := match x.o.guard with
  | none => StepSem P x
  | some (j, want) => ∃ t b, (ops[j]?).bind (·.dst) = some t ∧ t < n ∧ x.e0 t = .p (.bool b) ∧
      ((b == want) = true ∧ StepSem P x ∨ (b == want) = false ∧ x.v = .undef ∧ x.s1 = x.s0 ∧ x.f = ⟨[], false, x.s0.length, x.s0.length, false⟩)

theorem dop_elim {o : Oper} {e : Env} {s : Store} {K : AV → Store → Foot → Prop} (h : dop P o e s K) : ∃ v s' f, dop P o e s (fun v' s'' f' => v' = v ∧ s'' = s' ∧ f' = f) ∧ K v s' f := by
  unfold dop at h ⊢
  split at h
  · split at h
    · split at h
      · obtain ⟨v0, h1, h2, h3⟩ := h
        exact ⟨v0, _, _, ⟨v0, h1, h2, rfl, rfl, rfl⟩, h3⟩
      · obtain ⟨v0, s0, h1, h2, h3⟩ := h
        exact ⟨v0, _, _, ⟨v0, s0, h1, h2, rfl, rfl, rfl⟩, h3⟩
    · exact h.elim
  · split at h
    · obtain ⟨v0, h1, h3⟩ := h
      exact ⟨v0, _, _, ⟨v0, h1, rfl, rfl, rfl⟩, h3⟩
    · obtain ⟨v0, s0, h1, h2, h3⟩ := h
      exact ⟨v0, _, _, ⟨v0, s0, h1, h2, rfl, rfl, rfl⟩, h3⟩

def Chain (n : Nat) : List Step → Env → Store → Env → Store → Prop
  | [], e, s, e', s' => e = e' ∧ s = s'
  | x :: r, e, s, e', s' => x.e0 = e ∧ x.s0 = s ∧ (∀ t, x.o.dst = some t → t < n) ∧ Chain n r (put e x.o.dst x.v) x.s1 e' s'

theorem putK_put {n : Nat} {e : Env} {dst : Option Nat} {v : AV} {K : Env → Prop} (h : putK n e dst v K) : (∀ t, dst = some t → t < n) ∧ K (put e dst v) := by
  unfold putK at h
  split at h
  · exact ⟨(fun _ h => nomatch h), h⟩
  · split at h
    · rename_i hb
      refine ⟨fun t ht => ?_, h⟩
      cases ht
      have : (_ + 1).ble n = true := hb
      exact Nat.le_of_ble_eq_true this
    · exact h.elim

theorem adops_trace {n : Nat} {ops : Array Oper} {K : Env → Store → Prop} : ∀ {l : List Oper} {tr : List (Oper × Foot)} {e : Env} {s : Store}, adops P n ops l tr K e s →
    ∃ xs e' s', xs.map (·.o) = l ∧ Chain n xs e s e' s' ∧ (∀ x, x ∈ xs → Does P n ops x) ∧ chkAll ops ops.size [] (tr ++ xs.map fun x => (x.o, x.f)) = true ∧ K e' s' := by
  intro l
  induction l with
  | nil =>
    intro tr e s h
    rw [adops_nil] at h
    unfold Chk at h
    obtain ⟨hb, h⟩ := h
    simp only [Bool.and_eq_true] at hb
    exact ⟨[], e, s, rfl, ⟨rfl, rfl⟩, (fun x hx => nomatch hx), by simpa using hb.1, h⟩
  | cons o rest ih =>
    intro tr e s h
    have go : ∀ (x : Step), x.o = o → x.e0 = e → x.s0 = s → Does P n ops x → (putK n e o.dst x.v fun e' => adops P n ops rest (tr ++ [(o, x.f)]) K e' x.s1) →
        ∃ xs e' s', xs.map (·.o) = o :: rest ∧ Chain n xs e s e' s' ∧ (∀ x, x ∈ xs → Does P n ops x) ∧ chkAll ops ops.size [] (tr ++ xs.map fun x => (x.o, x.f)) = true ∧ K e' s' := by
      intro x h1 h2 h3 h4 h5
      obtain ⟨h6, h7⟩ := putK_put h5
      obtain ⟨xs, e', s', k1, k2, k3, k4, k5⟩ := ih h7
      refine ⟨x :: xs, e', s', by simp [h1, k1], ⟨h2, h3, by rw [h1]; exact h6, by rw [h1]; exact k2⟩, fun y hy => ?_, by simpa [h1] using k4, k5⟩
      rcases List.mem_cons.1 hy with rfl | hy
      · exact h4
      · exact k3 y hy
    rw [adops_cons] at h
    split at h
    · rename_i hg
      obtain ⟨v, s', f, h1, h2⟩ := dop_elim h
      exact go ⟨o, v, e, s, s', f⟩ rfl rfl rfl (by unfold Does; rw [hg]; exact h1) h2
    · rename_i j want hg
      split at h
      · rename_i t ht
        split at h
        · rename_i b hlt hev
          have hlt : t < n := by
            have : (t + 1).ble n = true := hlt
            exact Nat.le_of_ble_eq_true this
          unfold Br at h
          cases hb : (b == want) with
          | true =>
            obtain ⟨v, s', f, h1, h2⟩ := dop_elim (h.1 hb)
            exact go ⟨o, v, e, s, s', f⟩ rfl rfl rfl (by unfold Does; rw [hg]; exact ⟨t, b, ht, hlt, hev, .inl ⟨hb, h1⟩⟩) h2
          | false =>
            exact go ⟨o, .undef, e, s, s, ⟨[], false, s.length, s.length, false⟩⟩ rfl rfl rfl (by unfold Does; rw [hg]; exact ⟨t, b, ht, hlt, hev, .inr ⟨hb, rfl, rfl, rfl⟩⟩) (h.2 hb)
        · exact h.elim
      · exact h.elim

/-! ### What a step touches -/
def isWr (x : Step) (id : Nat) : Bool := x.f.all || memB id x.f.write

theorem memB_iff {x : Nat} : ∀ {l : List Nat}, memB x l = true ↔ x ∈ l
  | [] => by simp [memB]
  | y :: r => by
    simp only [memB, Bool.or_eq_true, memB_iff (l := r), List.mem_cons]
    exact ⟨fun h => h.imp (fun h => Nat.eq_of_beq_eq_true h) id, fun h => h.imp (fun h => by subst h; simp) id⟩

theorem mem_news {f : Foot} {id : Nat} : id ∈ f.news ↔ f.n0 ≤ id ∧ id < f.n1 := by
  unfold Foot.news
  simp only [List.mem_map, List.mem_range]
  exact ⟨fun ⟨k, h1, h2⟩ => by omega, fun ⟨h1, h2⟩ => ⟨id - f.n0, by omega, by omega⟩⟩

/-- What is known of a step's stores. -/
structure Fine (x : Step) : Prop where
  len : x.s0.length ≤ x.s1.length
  n0 : x.f.n0 = x.s0.length
  n1 : x.f.n1 = x.s1.length
  same : ∀ id, isWr x id = false → getO x.s1 id = getO x.s0 id

theorem mem_write {f : Foot} {id : Nat} : id ∈ f.write ↔ (f.wr = true ∧ id ∈ f.t) ∨ id ∈ f.news := by
  unfold Foot.write
  cases f.wr <;> simp

theorem isWr_iff {x : Step} {id : Nat} : isWr x id = true ↔ x.f.all = true ∨ (x.f.wr = true ∧ id ∈ x.f.t) ∨ id ∈ x.f.news := by
  unfold isWr
  rw [Bool.or_eq_true, memB_iff, mem_write]

theorem notCall {o : Oper} (h : ∀ f args ts, o.op ≠ .call ⟨.value f, args, ts⟩) {e : Env} {s : Store} {K : AV → Store → Foot → Prop} : dop P o e s K = (match stays o.op with
    | true => ∃ v0, aop P o.op e s (fun v s' => v = v0 ∧ s' = s) ∧ K v0 s ⟨footT e o.op, false, s.length, s.length, false⟩
    | false => ∃ v0 s0, aop P o.op e s (fun v s' => v = v0 ∧ s' = s0) ∧ Nat.ble s.length s0.length = true ∧ K v0 s0 ⟨footT e o.op, true, s.length, s0.length, false⟩) := by
  unfold dop
  split
  · rename_i hop; exact absurd hop (h _ _ _)
  · rfl

theorem StepSem.fine {x : Step} (h : StepSem P x) : Fine x := by
  unfold StepSem at h
  by_cases hc : ∃ f args ts, x.o.op = .call ⟨.value f, args, ts⟩
  · obtain ⟨f, args, ts, hop⟩ := hc
    unfold dop at h
    rw [hop] at h
    simp only [] at h
    split at h
    · split at h
      · obtain ⟨v0, _, _, _, h1, h2⟩ := h
        exact ⟨by rw [← h1]; exact Nat.le_refl _, by rw [← h2], by rw [← h2, ← h1], fun id _ => by rw [← h1]⟩
      · obtain ⟨v0, s0, _, hle, _, h1, h2⟩ := h
        subst h1
        exact ⟨Nat.le_of_ble_eq_true hle, by rw [← h2], by rw [← h2], fun id hid => by
          have : isWr x id = true := isWr_iff.2 (.inl (by rw [← h2]))
          rw [this] at hid; cases hid⟩
    · exact h.elim
  · have hnv : ∀ f args ts, x.o.op ≠ .call ⟨.value f, args, ts⟩ := fun f args ts e => hc ⟨f, args, ts, e⟩
    rw [notCall hnv] at h
    split at h
    · obtain ⟨v0, _, _, h1, h2⟩ := h
      exact ⟨by rw [← h1]; exact Nat.le_refl _, by rw [← h2], by rw [← h2, ← h1], fun id _ => by rw [← h1]⟩
    · rename_i hst
      obtain ⟨v0, s0, ha, hle, _, h1, h2⟩ := h
      subst h1
      obtain ⟨v, s', ⟨_, rfl⟩, hsame⟩ := aop_same ha hst hnv
      refine ⟨hsame.1, by rw [← h2], by rw [← h2], fun id hid => ?_⟩
      have hnot : ¬ isWr x id = true := by simp [hid]
      rw [isWr_iff] at hnot
      have h3 : ¬ id ∈ x.f.news := fun hx => hnot (.inr (.inr hx))
      have h4 : ¬ id ∈ x.f.t := fun hx => hnot (.inr (.inl ⟨by rw [← h2], hx⟩))
      rw [mem_news, ← h2] at h3
      rw [← h2] at h4
      simp only [] at h3
      by_cases hlt : id < x.s0.length
      · exact hsame.2 id h4 hlt
      · rw [getO_out (by omega), getO_out (by omega)]

theorem Does.fine {n : Nat} {ops : Array Oper} {x : Step} (h : Does P n ops x) : Fine x := by
  unfold Does at h
  split at h
  · exact h.fine
  · obtain ⟨t, b, _, _, _, h⟩ := h
    rcases h with ⟨_, h⟩ | ⟨_, _, h1, h2⟩
    · exact h.fine
    · exact ⟨by rw [h1]; exact Nat.le_refl _, by rw [h2], by rw [h2, h1], fun id _ => by rw [h1]⟩

/-! ### Some of the steps, in the order of the text -/
def envF (S : Nat → Bool) : Nat → List Step → Env → Env
  | _, [], e => e
  | k, x :: r, e => envF S (k + 1) r (if S k then put e x.o.dst x.v else e)
def stF (S : Nat → Bool) : Nat → List Step → St → St
  | _, [], σ => σ
  | k, x :: r, σ => stF S (k + 1) r (if S k then (fun id => if isWr x id then getO x.s1 id else σ id) else σ)

theorem put_ne {e : Env} {dst : Option Nat} {v : AV} {t : Nat} (h : dst ≠ some t) : put e dst v t = e t := by
  cases dst with
  | none => rfl
  | some d =>
    simp only [put, upd]
    split
    · rename_i hb; exact absurd (congrArg some (Nat.eq_of_beq_eq_true hb)) h
    · rfl
theorem put_eq {e : Env} {v : AV} {t : Nat} : put e (some t) v t = v := by simp [put, upd]

theorem envF_eq {S S' : Nat → Bool} {t : Nat} : ∀ {xs : List Step} {k : Nat} {e e' : Env}, (∀ i x, xs[i]? = some x → x.o.dst = some t → S (k + i) = S' (k + i)) → e t = e' t → envF S k xs e t = envF S' k xs e' t
  | [], _, _, _, _, h => h
  | x :: r, k, e, e', hs, h => by
    unfold envF
    refine envF_eq (fun i y hi hy => ?_) ?_
    · have := hs (i + 1) y (by simpa using hi) hy
      rwa [show k + (i + 1) = k + 1 + i by omega] at this
    · by_cases hd : x.o.dst = some t
      · have := hs 0 x (by simp) hd
        simp only [Nat.add_zero] at this
        rw [this]
        split
        · rw [hd, put_eq, put_eq]
        · exact h
      · have : ∀ (e : Env) (b : Bool), (if b then put e x.o.dst x.v else e) t = e t := fun e b => by cases b <;> simp [put_ne hd]
        rw [this, this]; exact h

theorem stF_eq {S S' : Nat → Bool} {id : Nat} : ∀ {xs : List Step} {k : Nat} {σ σ' : St}, (∀ i x, xs[i]? = some x → isWr x id = true → S (k + i) = S' (k + i)) → σ id = σ' id → stF S k xs σ id = stF S' k xs σ' id
  | [], _, _, _, _, h => h
  | x :: r, k, σ, σ', hs, h => by
    unfold stF
    refine stF_eq (fun i y hi hy => ?_) ?_
    · have := hs (i + 1) y (by simpa using hi) hy
      rwa [show k + (i + 1) = k + 1 + i by omega] at this
    · by_cases hd : isWr x id = true
      · have := hs 0 x (by simp) hd
        simp only [Nat.add_zero] at this
        rw [this]
        split
        · simp only [hd, if_true]
        · exact h
      · have : ∀ (σ : St) (b : Bool), (if b then (fun id => if isWr x id then getO x.s1 id else σ id) else σ) id = σ id := fun e b => by cases b <;> simp [hd]
        rw [this, this]; exact h

def stateAt : List Step → Env → Store → Nat → Env × Store
  | _, e, s, 0 => (e, s)
  | [], e, s, _ + 1 => (e, s)
  | x :: r, e, _, j + 1 => stateAt r (put e x.o.dst x.v) x.s1 j

theorem stateAt_get {n : Nat} : ∀ {xs : List Step} {e : Env} {s : Store} {e' : Env} {s' : Store} {j : Nat} {x : Step}, Chain n xs e s e' s' → xs[j]? = some x → stateAt xs e s j = (x.e0, x.s0) ∧ stateAt xs e s (j + 1) = (put x.e0 x.o.dst x.v, x.s1)
  | [], _, _, _, _, _, _, _, h => by simp at h
  | y :: r, e, s, e', s', 0, x, hc, h => by
    simp at h; subst h
    obtain ⟨h1, h2, _, h3⟩ := hc
    simp [stateAt, h1, h2]
  | y :: r, e, s, e', s', j + 1, x, hc, h => by
    obtain ⟨h1, h2, _, h3⟩ := hc
    exact stateAt_get (j := j) h3 (by simpa using h)

theorem stateAt_end {n : Nat} : ∀ {xs : List Step} {e : Env} {s : Store} {e' : Env} {s' : Store}, Chain n xs e s e' s' → stateAt xs e s xs.length = (e', s')
  | [], e, s, e', s', h => by simp [stateAt, h.1, h.2]
  | x :: r, e, s, e', s', h => stateAt_end (xs := r) h.2.2.2

theorem envF_stop {S : Nat → Bool} : ∀ {xs : List Step} {k : Nat} {e : Env}, (∀ i, k ≤ i → S i = false) → envF S k xs e = e
  | [], _, _, _ => rfl
  | x :: r, k, e, h => by unfold envF; rw [h k (Nat.le_refl _)]; exact envF_stop fun i hi => h i (by omega)
theorem stF_stop {S : Nat → Bool} : ∀ {xs : List Step} {k : Nat} {σ : St}, (∀ i, k ≤ i → S i = false) → stF S k xs σ = σ
  | [], _, _, _ => rfl
  | x :: r, k, σ, h => by unfold stF; rw [h k (Nat.le_refl _)]; exact stF_stop fun i hi => h i (by omega)

theorem upto_state {n : Nat} : ∀ {xs : List Step} {e : Env} {s : Store} {e' : Env} {s' : Store} {j k : Nat}, Chain n xs e s e' s' → (∀ x, x ∈ xs → Fine x) → j ≤ xs.length →
    envF (fun i => decide (i < k + j)) k xs e = (stateAt xs e s j).1 ∧ stF (fun i => decide (i < k + j)) k xs (getO s) = getO (stateAt xs e s j).2
  | xs, e, s, e', s', 0, k, _, _, _ => by
    have h : ∀ i, k ≤ i → decide (i < k + 0) = false := fun i hi => by simp; omega
    cases xs <;> exact ⟨envF_stop h, stF_stop h⟩
  | [], _, _, _, _, j + 1, _, _, _, h => by simp at h
  | x :: r, e, s, e', s', j + 1, k, hc, hf, hl => by
    obtain ⟨h1, h2, _, h3⟩ := hc
    have ih := upto_state (j := j) (k := k + 1) h3 (fun y hy => hf y (List.mem_cons_of_mem _ hy)) (by simpa using hl)
    rw [show k + 1 + j = k + (j + 1) by omega] at ih
    unfold envF stF stateAt
    have hk : decide (k < k + (j + 1)) = true := by simp
    simp only [hk, if_true]
    have : (fun id => if isWr x id then getO x.s1 id else getO s id) = getO x.s1 := by
      funext id
      split
      · rfl
      · rename_i hw
        rw [← h2]; exact ((hf x (by simp)).same id (by simpa using hw)).symm
    rw [this]
    exact ih

theorem chain_mono {n : Nat} : ∀ {xs : List Step} {e : Env} {s : Store} {e' : Env} {s' : Store} {i : Nat} {x : Step}, Chain n xs e s e' s' → (∀ x, x ∈ xs → Fine x) → xs[i]? = some x → s.length ≤ x.s0.length ∧ x.s1.length ≤ s'.length
  | [], _, _, _, _, _, _, _, _, h => by simp at h
  | y :: r, e, s, e', s', 0, x, ⟨h1, h2, _, h3⟩, hf, h => by
    simp at h; subst h
    refine ⟨by rw [h2]; exact Nat.le_refl _, ?_⟩
    have := chain_len h3 (fun y hy => hf y (List.mem_cons_of_mem _ hy))
    exact this
  | y :: r, e, s, e', s', i + 1, x, ⟨h1, h2, _, h3⟩, hf, h => by
    have h4 := chain_mono (i := i) h3 (fun y hy => hf y (List.mem_cons_of_mem _ hy)) (by simpa using h)
    have := (hf y (by simp)).len
    rw [h2] at this
    exact ⟨by omega, h4.2⟩
where
  chain_len {n : Nat} : ∀ {xs : List Step} {e : Env} {s : Store} {e' : Env} {s' : Store}, Chain n xs e s e' s' → (∀ x, x ∈ xs → Fine x) → s.length ≤ s'.length
  | [], _, _, _, _, ⟨_, h⟩, _ => by rw [h]; exact Nat.le_refl _
  | y :: r, e, s, e', s', ⟨h1, h2, _, h3⟩, hf => by
    have h4 := chain_len h3 (fun y hy => hf y (List.mem_cons_of_mem _ hy))
    have := (hf y (by simp)).len
    rw [h2] at this
    omega

theorem chain_lt {n : Nat} {e' : Env} {s' : Store} {x y : Step} : ∀ {xs : List Step} {e : Env} {s : Store} {i j : Nat}, Chain n xs e s e' s' → (∀ x, x ∈ xs → Fine x) → xs[i]? = some x → xs[j]? = some y → i < j → x.s1.length ≤ y.s0.length := by
  intro xs
  induction xs with
  | nil => intro e s i j _ _ h; simp at h
  | cons z r ih =>
    intro e s i j hc hf h k hij
    have hf' : ∀ x, x ∈ r → Fine x := fun y hy => hf y (List.mem_cons_of_mem _ hy)
    cases j with
    | zero => omega
    | succ j =>
      cases i with
      | zero =>
        simp at h; subst h
        exact (chain_mono hc.2.2.2 hf' (by simpa using k)).1
      | succ i => exact ih hc.2.2.2 hf' (by simpa using h) (by simpa using k) (by omega)

theorem chain_dst {n : Nat} {e' : Env} {s' : Store} {x : Step} : ∀ {xs : List Step} {e : Env} {s : Store}, Chain n xs e s e' s' → x ∈ xs → ∀ t, x.o.dst = some t → t < n := by
  intro xs
  induction xs with
  | nil => intro e s _ h; cases h
  | cons z r ih =>
    intro e s hc hx
    rcases List.mem_cons.1 hx with rfl | hx
    · exact hc.2.2.1
    · exact ih hc.2.2.2 hx
end Go.Proofs.Ytfjolephpghafaa.AW
