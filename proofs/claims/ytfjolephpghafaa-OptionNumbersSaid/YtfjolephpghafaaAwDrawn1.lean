import Derived.Test.YtfjolephpghafaaAwOps11
import Derived.Orders
namespace Go.Proofs.Ytfjolephpghafaa.AW
variable {P : Program}

theorem map_ev {e e' : Env} {xs : List Operand} (h : ∀ x, x ∈ xs → ev e x = ev e' x) : xs.map (ev e) = xs.map (ev e') := List.map_congr_left h

theorem bnd_congr {e e' : Env} {x : Option Operand} (h : ∀ y, x = some y → ev e y = ev e' y) (d : Int) (K : Int → Prop) : bnd e x d K = bnd e' x d K := by
  cases x with
  | none => rfl
  | some y => simp only [bnd, h y rfl]

theorem aop_congr {op : Op} {e e' : Env} (h : ∀ x, x ∈ op.operands.toList → ev e x = ev e' x) (s : Store) (K : AV → Store → Prop) : aop P op e s K = aop P op e' s K := by
  cases op
  case move x => simp only [aop, h x (by simp [Op.operands])]
  case assign x => simp only [aop, h x (by simp [Op.operands])]
  case pick x y z => simp only [aop, h x (by simp [Op.operands]), h y (by simp [Op.operands]), h z (by simp [Op.operands])]
  case box t x => simp only [aop, h x (by simp [Op.operands])]
  case load t x => simp only [aop, h x (by simp [Op.operands])]
  case nilCheck x => simp only [aop, h x (by simp [Op.operands])]
  case unOp o t x => simp only [aop, h x (by simp [Op.operands])]
  case convert a b x => simp only [aop, h x (by simp [Op.operands])]
  case makeInterface t x => simp only [aop, h x (by simp [Op.operands])]
  case fieldAddr t x f => simp only [aop, h x (by simp [Op.operands])]
  case field t x f => simp only [aop, h x (by simp [Op.operands])]
  case range t x => simp only [aop, h x (by simp [Op.operands])]
  case next x b => simp only [aop, h x (by simp [Op.operands])]
  case typeAssert x a b c => simp only [aop, h x (by simp [Op.operands])]
  case extract x i => simp only [aop, h x (by simp [Op.operands])]
  case store t x y => simp only [aop, h x (by simp [Op.operands]), h y (by simp [Op.operands])]
  case binOp a t x y u => simp only [aop, h x (by simp [Op.operands]), h y (by simp [Op.operands])]
  case makeSlice t x y => simp only [aop, h x (by simp [Op.operands]), h y (by simp [Op.operands])]
  case indexAddr t x y => simp only [aop, h x (by simp [Op.operands]), h y (by simp [Op.operands])]
  case index t x y => simp only [aop, h x (by simp [Op.operands]), h y (by simp [Op.operands])]
  case build t ps =>
    have : (ps.toList.map fun q => (q.1, ev e q.2)) = ps.toList.map fun q => (q.1, ev e' q.2) := List.map_congr_left fun q hq => by
      rw [h q.2 (by simp only [Op.operands]; exact List.mem_map_of_mem (f := fun q : Nat × Operand => q.2) hq)]
    simp only [aop, this]
  case buildSlice t n ps =>
    have : (ps.toList.map fun q => ev e q.2) = ps.toList.map fun q => ev e' q.2 := List.map_congr_left fun q hq => by
      rw [h q.2 (by simp only [Op.operands]; exact List.mem_map_of_mem (f := fun q : Nat × Operand => q.2) hq)]
    simp only [aop, this]
  case makeFunc f first caps =>
    have : caps.toList.map (ev e) = caps.toList.map (ev e') := map_ev fun x hx => h x (by simp only [Op.operands, Array.toList_append]; exact List.mem_append_right _ hx)
    cases f <;> simp only [aop, this]
  case slice t x lo hi mx =>
    have hx := h x (by simp [Op.operands])
    have hlo := fun d K => bnd_congr (e := e) (e' := e') (x := lo) (fun y hy => h y (by subst hy; simp [Op.operands])) d K
    have hhi := fun d K => bnd_congr (e := e) (e' := e') (x := hi) (fun y hy => h y (by subst hy; simp [Op.operands])) d K
    have hmx := fun d K => bnd_congr (e := e) (e' := e') (x := mx) (fun y hy => h y (by subst hy; simp [Op.operands])) d K
    simp only [aop, sliceA, hx, hlo, hhi]
    cases mx with
    | none => cases hi <;> rfl
    | some m => cases hi <;> first | rfl | simp only [hmx]
  case call c =>
    obtain ⟨callee, args, ts⟩ := c
    have ha : args.toList.map (ev e) = args.toList.map (ev e') := map_ev fun x hx => h x (by simp only [Op.operands, Call.operands, Array.toList_append]; exact List.mem_append_right _ hx)
    cases callee with
    | builtin b => simp only [aop, callA, ha]
    | value f => simp only [aop, callA, ha, h f (by simp [Op.operands, Call.operands])]
    | invoke r n => simp only [aop, callA]
  all_goals rfl

theorem footT_congr {op : Op} {e e' : Env} (h : ∀ x, x ∈ op.operands.toList → ev e x = ev e' x) : footT e op = footT e' op := by
  cases op
  case load t x => simp only [footT, h x (by simp [Op.operands])]
  case convert a b x => simp only [footT, h x (by simp [Op.operands])]
  case indexAddr t x y => simp only [footT, h x (by simp [Op.operands])]
  case slice t x lo hi mx => simp only [footT, h x (by simp [Op.operands])]
  case store t x y => simp only [footT, h x (by simp [Op.operands])]
  case next x b => simp only [footT, h x (by simp [Op.operands])]
  case buildSlice t n ps =>
    have : (ps.toList.map fun q => ev e q.2) = ps.toList.map fun q => ev e' q.2 := List.map_congr_left fun q hq => by
      rw [h q.2 (by simp only [Op.operands]; exact List.mem_map_of_mem (f := fun q : Nat × Operand => q.2) hq)]
    have h2 : ∀ e : Env, (ps.toList.flatMap fun q => ids (ev e q.2)) = (ps.toList.map fun q => ev e q.2).flatMap ids := fun e => by rw [List.flatMap_map]
    simp only [footT, h2, this]
  case call c =>
    have ha : c.args.toList.map (ev e) = c.args.toList.map (ev e') := map_ev fun x hx => h x (by simp only [Op.operands, Call.operands, Array.toList_append]; exact List.mem_append_right _ hx)
    have h2 : ∀ e : Env, (c.args.toList.flatMap fun q => ids (ev e q)) = (c.args.toList.map (ev e)).flatMap ids := fun e => by rw [List.flatMap_map]
    simp only [footT, h2, ha]
  all_goals rfl

/-! ### What an operation leaves -/
def Same (f : List Nat) (s s' : Store) : Prop := s.length ≤ s'.length ∧ ∀ id, ¬ id ∈ f → id < s.length → getO s' id = getO s id

theorem Same.refl (f : List Nat) (s : Store) : Same f s s := ⟨Nat.le_refl _, fun _ _ _ => rfl⟩
theorem Same.snoc (f : List Nat) (s : Store) (o : AObj) : Same f s (s ++ [some o]) := ⟨by simp, fun id _ h => by rw [getO_snoc, if_neg (by omega)]⟩
theorem Same.set {f : List Nat} {s : Store} {id : Nat} (o : Option AObj) (h : id ∈ f) : Same f s (s.set id o) := ⟨by simp, fun i hi hlt => by
  unfold getO; rw [List.getElem?_set_ne (fun e => hi (by rw [← e]; exact h))]⟩
theorem Same.trans {f : List Nat} {s s' s'' : Store} (h : Same f s s') (k : Same f s' s'') : Same f s s'' :=
  ⟨Nat.le_trans h.1 k.1, fun id h1 h2 => (k.2 id h1 (Nat.lt_of_lt_of_le h2 h.1)).trans (h.2 id h1 h2)⟩

theorem cellsP_same {f : List Nat} : ∀ {cs : List AV} {s : Store} {K : List PV → Store → Prop}, toP.cellsP s cs K → (∀ v, v ∈ cs → ∀ id, id ∈ ids1 v → id ∈ f) → ∃ ps s', K ps s' ∧ Same f s s'
  | [], s, K, h, _ => ⟨[], s, h, .refl _ _⟩
  | v :: r, s, K, h, hf => by
    unfold toP.cellsP at h
    split at h
    · rename_i hc; cases hc
    · rename_i x r' hc; cases hc
      obtain ⟨ps, s', h1, h2⟩ := cellsP_same h (fun v hv => hf v (List.mem_cons_of_mem _ hv))
      exact ⟨_, s', h1, h2⟩
    · rename_i id tot off len r' hc; cases hc
      split at h
      · rw [killK_eq] at h
        unfold Ob at h
        obtain ⟨ps, s', h1, h2⟩ := cellsP_same h.2 (fun v hv => hf v (List.mem_cons_of_mem _ hv))
        exact ⟨_, s', h1, (Same.set none (hf (.osl id tot off len) (by simp) id (by simp [ids1]))).trans h2⟩
      · exact h.elim
    · exact h.elim

theorem toP_same {f : List Nat} {v : AV} {s : Store} {K : PV → Store → Prop} (h : toP s v K) (hf : ∀ id, id ∈ ids v → id ∈ f) : ∃ p s', K p s' ∧ Same f s s' := by
  unfold toP at h
  split at h
  · exact ⟨_, s, h, .refl _ _⟩
  · split at h
    · rw [killK_eq] at h; unfold Ob at h
      exact ⟨_, _, h.2, .set none (hf _ (by simp [ids, ids1]))⟩
    · exact h.elim
  · split at h
    · split at h
      · rw [killK_eq] at h
        exact ⟨_, _, h, .set none (hf _ (by simp [ids, ids1]))⟩
      · exact h.elim
    · exact h.elim
  · obtain ⟨ps, s', h1, h2⟩ := cellsP_same h (fun v hv id hid => hf id (by simp only [ids]; exact List.mem_flatMap.2 ⟨v, hv, hid⟩))
    exact ⟨_, s', h1, h2⟩
  · split at h
    · split at h
      · rw [killK_eq] at h
        exact ⟨_, _, h, .set none (hf _ (by simp [ids, ids1]))⟩
      · exact h.elim
    · exact h.elim
  · exact h.elim

theorem partsP_same {f : List Nat} : ∀ {vs : List AV} {s : Store} {K : List PV → Store → Prop}, partsP s vs K → (∀ v, v ∈ vs → ∀ id, id ∈ ids v → id ∈ f) → ∃ ps s', K ps s' ∧ Same f s s'
  | [], s, K, h, _ => ⟨[], s, h, .refl _ _⟩
  | v :: r, s, K, h, hf => by
    unfold partsP at h
    obtain ⟨p, s1, h1, h2⟩ := toP_same h (hf v (by simp))
    obtain ⟨ps, s2, h3, h4⟩ := partsP_same h1 (fun v hv => hf v (List.mem_cons_of_mem _ hv))
    exact ⟨_, s2, h3, h2.trans h4⟩

theorem appA_same {f : List Nat} {t : Nat} {x : AV} {ysz : Nat} {ys : List PV} {s : Store} {K : AV → Store → Prop} (h : appA P t x ysz ys s K) (hf : ∀ id, id ∈ ids x → id ∈ f) : ∃ v s', K v s' ∧ Same f s s' := by
  unfold appA at h
  repeat' split at h
  all_goals first
    | exact h.elim
    | skip
  all_goals try simp only [snoc_eq, setK_eq] at h
  all_goals first
    | (unfold Ob at h; exact ⟨_, _, h.2, .refl _ _⟩)
    | (unfold Ob at h; exact ⟨_, _, h.2, .set _ (hf _ (by simp [ids, ids1]))⟩)
    | (unfold BrL Ob at h
       by_cases hy : ys = []
       · exact ⟨_, _, h.1 hy, .refl _ _⟩
       · exact ⟨_, _, (h.2 hy).2, .snoc _ _ _⟩)

theorem aop_same {op : Op} {e : Env} {s : Store} {K : AV → Store → Prop} (h : aop P op e s K) (hs : stays op = false) (hnv : ∀ f args ts, op ≠ .call ⟨.value f, args, ts⟩) : ∃ v s', K v s' ∧ Same (footT e op) s s' := by
  cases op
  case store t x y =>
    simp only [aop, storeA] at h
    repeat' split at h
    all_goals first
      | exact h.elim
      | skip
    rename_i hx _ _ _
    rw [setK_eq] at h
    unfold Ob at h
    exact ⟨_, _, h.2, .set _ (by simp only [footT, hx]; simp [ids, ids1])⟩
  case next x b =>
    simp only [aop] at h
    repeat' split at h
    all_goals first
      | exact h.elim
      | skip
    rename_i hx _ _ _ _
    rw [setK_eq] at h
    unfold BrL at h
    by_cases hy : ‹List UInt8› = []
    · exact ⟨_, _, h.1 hy, .refl _ _⟩
    · exact ⟨_, _, h.2 hy, .set _ (by simp only [footT, hx]; simp [ids, ids1])⟩
  case alloc t =>
    simp only [aop, snoc_eq] at h
    split at h
    · exact ⟨_, _, h, .snoc _ _ _⟩
    · exact h.elim
  case box t x =>
    simp only [aop, snoc_eq] at h
    split at h
    · exact ⟨_, _, h, .snoc _ _ _⟩
    · exact h.elim
  case makeSlice t x y =>
    simp only [aop, snoc_eq] at h
    repeat' split at h
    all_goals first
      | exact h.elim
      | skip
    unfold Ob at h
    exact ⟨_, _, h.2, .snoc _ _ _⟩
  case range t x =>
    simp only [aop, snoc_eq] at h
    split at h
    · exact ⟨_, _, h, .snoc _ _ _⟩
    · exact h.elim
  case buildSlice t n ps =>
    simp only [aop] at h
    repeat' split at h
    all_goals first
      | exact h.elim
      | skip
    obtain ⟨xs, s', h1, h2⟩ := partsP_same (f := footT e (.buildSlice t n ps)) h (fun v hv id hid => by
      obtain ⟨q, hq, rfl⟩ := List.mem_map.1 hv
      simp only [footT]; exact List.mem_flatMap.2 ⟨q, hq, hid⟩)
    split at h1
    · exact ⟨_, _, h1, h2⟩
    · exact h1.elim
  case call c =>
    obtain ⟨callee, args, ts⟩ := c
    cases callee with
    | value f => exact absurd rfl (hnv f args ts)
    | invoke r n => simp only [aop, callA] at h
    | builtin b =>
      have hb : b = .append := by cases b <;> first | rfl | (simp [stays] at hs)
      subst hb
      simp only [aop, callA, builtinA] at h
      generalize hts : ts.toList = tl at h
      generalize has : args.toList.map (ev e) = al at h
      have hfoot : ∀ {v : AV}, v ∈ al → ∀ id, id ∈ ids v → id ∈ footT e (.call ⟨.builtin .append, args, ts⟩) := fun {v} hv id hid => by
        rw [← has] at hv
        obtain ⟨x, hx, rfl⟩ := List.mem_map.1 hv
        simp only [footT]; exact List.mem_flatMap.2 ⟨x, hx, hid⟩
      repeat' split at h
      all_goals first
        | exact h.elim
        | contradiction
        | exact appA_same h (hfoot (by simp))
        | skip
      unfold elems at h
      repeat' split at h
      all_goals first
        | exact h.elim
        | exact appA_same h (hfoot (by simp))
        | (unfold Ob at h; exact appA_same h.2 (hfoot (by simp)))
  all_goals (simp [stays] at hs)
end Go.Proofs.Ytfjolephpghafaa.AW
