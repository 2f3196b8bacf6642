import Derived.Test.YtfjolephpghafaaAwFun
namespace Go.Proofs.Ytfjolephpghafaa.AW
variable {P : Program}

/-- A result, handed out as a tree. -/
def finP (s : Store) (r : AV) (K : AV → Prop) : Prop := match r with
  | .tup vs => partsP s vs fun ps _ => K (.tup (ps.map .p))
  | v => toP s v fun p _ => K (.p p)

/-- **A call whose arguments are trees**: it is proved beside an empty store, and holds beside any. -/
theorem Cal.pure {f : Nat} {args : List PV} {s : Store} {K : AV → Store → Prop} (h : Cal P f (args.map .p) [] fun r s' => finP s' r fun v => K v s) : Cal P f (args.map .p) s K := by
  unfold Cal at h ⊢
  refine ⟨h.1, fun w g vs hinv hfresh hargs => ?_⟩
  let g0 : G := { ι := g.ι, X := Lv g (getO s), C := fun _ => False }
  have hemp : ∀ id, getO ([] : Store) id = none := fun id => rfl
  have hlv0 : ∀ b, Lv g0 (getO []) b → Lv g (getO s) b := by
    rintro b (h | ⟨id, h1, _⟩)
    · exact h
    · exact absurd (hemp id) h1
  have hlt : ∀ b, Lv g (getO s) b → b < w.heap.size := by
    rintro b (h | ⟨id, h1, h2⟩)
    · exact hinv.xlt b h
    · obtain ⟨o, ho⟩ := Option.ne_none_iff_exists'.1 h1
      rw [← h2]; exact (hinv.lies id o ho).1
  have hinv0 : Inv w g0 (getO []) := ⟨fun id o h => by rw [hemp] at h; (cases h), fun id o h => by rw [hemp] at h; (cases h), hlt, fun i j h => absurd (hemp i) h, fun id o h => by rw [hemp] at h; (cases h)⟩
  have hargs0 : RepAs w g0 (getO []) (args.map .p) vs := by
    have key : ∀ {args : List PV} {vs : List Value}, RepAs w g (getO s) (args.map .p) vs → RepAs w g0 (getO []) (args.map .p) vs := by
      intro args
      induction args with
      | nil => intro vs h; cases h; exact .nil
      | cons p r ih =>
        intro vs h
        cases h with
        | cons _ x _ xs hx hs => exact .cons _ _ _ _ (.p _ _ (hx.inv_p.keep (fun _ _ _ => rfl) (fun b _ hb => hlv0 b hb))) (ih hs)
    exact key hargs
  refine (h.2 w g0 vs hinv0 (fun id hid => hid.elim) hargs0).mono fun e w' hpost => ?_
  obtain ⟨r, v, s', g', rfl, hk, _, hrep, hinv', hext, hC⟩ := hpost
  have hall : ∀ b, b < w.heap.size → w'.heap[b]? = w.heap[b]? := fun b hb => hext.frame b hb (fun ⟨id, h1, _⟩ => h1 (hemp id))
  have hX : ∀ b, Lv g (getO s) b → g'.X b := fun b hb => by rw [hext.X]; exact hb
  have hext' : Ext w g (getO s) w' g (getO s) := ⟨hext.size, hext.os, hext.tape, hext.output, fun b hb _ => hall b hb, fun b hb => shape_same (hall b hb), rfl, fun _ h => h, fun _ _ h => h, fun _ _ o h => ⟨o, h, .refl _⟩, fun _ _ _ => rfl, fun _ _ _ _ _ _ _ _ => rfl⟩
  have hinvF : Inv w' g (getO s) := ⟨hinv.made, fun id o h => by have := hinv.lies id o h; have := hext.size; exact ⟨by omega, (hinv.lies id o h).2⟩, fun b hb => by have := hinv.xlt b hb; have := hext.size; omega, hinv.inj,
    fun id o h => hext'.repO (hall _ (hinv.lies id o h).1) (hinv.rep id o h)⟩
  have c' : Cx w' g' (getO s') s' (fun _ => True) True := ⟨hinv', fun _ _ => rfl, fun _ hid => by
    rcases hC _ hid with h | h
    · exact h.elim
    · exact Nat.lt_irrefl _ h.2⟩
  have back : ∀ {σ' : St} {p : PV} {x : Value}, RepP w' (Lv g' σ') p x → RepP w' (Lv g (getO s)) p x := fun hp => hp.keep (fun _ _ _ => rfl) (fun b _ hb => .inl (hX b hb))
  have backs : ∀ {σ' : St} {ps : List PV} {xs : List Value}, RepPs w' (Lv g' σ') ps xs → RepPs w' (Lv g (getO s)) ps xs := fun hp => hp.keep (fun _ _ _ => rfl) (fun b _ hb => .inl (hX b hb))
  unfold finP at hk
  split at hk
  · rename_i vs'
    obtain ⟨ys, rfl, hys⟩ := hrep.inv_tup
    obtain ⟨ps, s2, k1, _, k3⟩ := partsP_tree hys c' (fun _ _ _ _ => trivial) hk
    exact ⟨_, _, s, g, rfl, k1, Nat.le_refl _, .tup _ _ (backs k3).repAs, hinvF, hext', fun id h => .inl h⟩
  · obtain ⟨p, s2, k1, _, k3⟩ := toP_tree hrep c' (fun _ _ => trivial) hk
    exact ⟨_, _, s, g, rfl, k1, Nat.le_refl _, .p _ _ (back k3), hinvF, hext', fun id h => .inl h⟩

theorem Cal.mono {f : Nat} {args : List AV} {s : Store} {K K' : AV → Store → Prop} (h : Cal P f args s K) (hk : ∀ r s', K r s' → K' r s') : Cal P f args s K' := by
  unfold Cal at h ⊢
  refine ⟨h.1, fun w g vs h1 h2 h3 => (h.2 w g vs h1 h2 h3).mono fun e w' hpost => ?_⟩
  obtain ⟨r, v, s', g', h4, h5, h6⟩ := hpost
  exact ⟨r, v, s', g', h4, hk _ _ h5, h6⟩

/-- A call to which owned slices are handed: they are handed over as trees, and turn no more. -/
theorem Cal.freeze {f : Nat} {args : List AV} {s : Store} {K : AV → Store → Prop} (h : partsP s args fun ps s' => Cal P f (ps.map .p) s' K) (hf : ∃ fn, P.funcs[f]? = some fn ∧ (fn.name == "runtime.NumGoroutine") = false ∧ fn.body.isSome = true) : Cal P f args s K := by
  unfold Cal
  refine ⟨hf, fun w g vs hinv hfresh hargs => ?_⟩
  have c : Cx w g (getO s) s (fun _ => True) False := ⟨hinv, fun _ _ => rfl, fun hh => hh.elim⟩
  obtain ⟨ps, s2, k1, fz, k3⟩ := partsP_tree hargs c (fun _ _ _ _ => trivial) h
  have hov : ovr (fun _ => True) s s2 (getO s) = getO s2 := by funext i; simp [ovr]
  have q1 := fz.inv; have q2 := fz.ext
  rw [hov] at q1 q2 k3
  unfold Cal at k1
  refine (k1.2 w g vs q1 (fun id hid => by rw [fz.len]; exact hfresh id hid) k3.repAs).mono fun e w' hpost => ?_
  obtain ⟨r, v, s', g', rfl, a1, a2, a3, a4, a5, a6⟩ := hpost
  exact ⟨r, v, s', g', rfl, a1, by have := fz.len; omega, a3, a4, q2.trans a5, fun id hid => by have := a6 id hid; rw [fz.len] at this; exact this⟩

/-- A loop, by a family of states. -/
theorem LoopX.fam {body : (Out → Env → Store → Prop) → Env → Store → Prop} {K : Out → Env → Store → Prop} {e : Env} {s : Store} {α : Type} (L : List Nat) (st : α → List (Nat × AV) × Store) (ok : α → Prop) (m : α → Nat) (x : α)
    (h0 : ok x) (ht : Trim L s.length e s (st x).1 (st x).2)
    (round : ∀ x, ok x → body (fun o e' s' => match o with
      | .normal => ∃ y, ok y ∧ m y < m x ∧ s.length ≤ (st y).2.length ∧ Trim L (st y).2.length e' s' (st y).1 (st y).2
      | o => K o e' s') (mk (st x).1) (st x).2) : LoopX body K e s := by
  unfold LoopX
  exact ⟨α, L, st, ok, m, ⟨x, h0, ht⟩, round⟩

theorem Trim.mk' {L : List Nat} {N : Nat} {e : Env} {s : Store} {l : List (Nat × AV)} {s2 : Store} (h1 : (L.map fun t => (t, e t)) = l) (h2 : s.take N = s2) (h3 : unders N (L.map e) = true) (h4 : s2.all (objUnder N) = true) (h5 : N ≤ s.length) : Trim L N e s l s2 := by
  unfold Trim; exact ⟨h1, h2, h3, h4, h5⟩
end Go.Proofs.Ytfjolephpghafaa.AW
