/- A part of the proof: AW/Pure2. -/
import Derived.Test.YtnopnmlpibdioaaDoorP5
namespace Go.Proofs.YtnopnmlpibdioaaDoor.AW
variable {P : Program}

/-- A value beside which no store is needed. -/
def noStore : AV → Bool
  | .p _ => true
  | .clos _ [] => true
  | _ => false

/-- As `Cal.pure`, where functions without captures are handed over, too. -/
theorem Cal.pureF {f : Nat} {args : List AV} {s : Store} {K : AV → Store → Prop} (ha : args.all noStore = true) (h : Cal P f args [] fun r s' => finP s' r fun v => K v s) : Cal P f args s K := by
  unfold Cal at h ⊢
  refine fun w g vs hinv hG hfresh hargs => ?_
  let g0 : G := { ι := g.ι, X := Lv g (getO s), C := fun _ => False }
  have hemp : ∀ id, getO ([] : Store) id = none := fun id => rfl
  have hlv0 : ∀ b, Lv g0 (getO []) b → Lv g (getO s) b := by
    rintro b (h | ⟨id, h1, _⟩)
    · exact h
    · exact absurd (hemp id) h1
  have hlt : ∀ b, Lv g (getO s) b → b < w.heap.size := by
    rintro b (h | ⟨id, h1, h2⟩)
    · exact hinv.xlt b h
    · obtain ⟨o, ho⟩ := Option.ne_none_iff_exists'.1 h1
      rw [← h2]; exact (hinv.lies id o ho).1
  have hinv0 : Inv w g0 (getO []) := ⟨fun id o h => by rw [hemp] at h; (cases h), fun id o h => by rw [hemp] at h; (cases h), hlt, fun i j h => absurd (hemp i) h, fun id o h => by rw [hemp] at h; (cases h)⟩
  have hargs0 : RepAs w g0 (getO []) args vs := by
    have key : ∀ {args : List AV} {vs : List Value}, args.all noStore = true → RepAs w g (getO s) args vs → RepAs w g0 (getO []) args vs := by
      intro args
      induction args with
      | nil => intro vs _ h; cases h; exact .nil
      | cons a r ih =>
        intro vs ha h
        simp only [List.all_cons, Bool.and_eq_true] at ha
        cases h with
        | cons _ x _ xs hx hs =>
          refine .cons _ _ _ _ ?_ (ih ha.2 hs)
          cases a with
          | p p => exact .p _ _ (hx.inv_p.keep (fun _ _ _ => rfl) (fun b _ hb => hlv0 b hb))
          | clos k caps =>
            cases caps with
            | nil => cases hx with | clos _ _ a h => cases h; exact .clos _ _ _ .nil
            | cons _ _ => exact absurd ha.1 (by simp [noStore])
          | _ => exact absurd ha.1 (by simp [noStore])
    exact key ha hargs
  have hG0 : Gk P w g0 (getO []) := fun i cs hi => by
    obtain ⟨q1, q2, q3⟩ := hG i cs hi
    exact ⟨q1, fun hl => q2 (hlv0 _ hl), q3.keep (fun _ _ _ => rfl) (fun b _ hb => hlv0 b hb) (fun _ => q2)⟩
  refine (h w g0 vs hinv0 hG0 (fun id hid => hid.elim) hargs0).mono fun e w' hpost => ?_
  obtain ⟨r, v, s', g', rfl, hk, _, hrep, hinv', hext, hC⟩ := hpost
  have hall : ∀ b, b < w.heap.size → w'.heap[b]? = w.heap[b]? := fun b hb => hext.frame b hb (fun ⟨id, h1, _⟩ => h1 (hemp id))
  have hX : ∀ b, Lv g (getO s) b → g'.X b := fun b hb => by rw [hext.X]; exact hb
  have hext' : Ext w g (getO s) w' g (getO s) := ⟨hext.size, hext.os, hext.tape, hext.output, fun b hb _ => hall b hb, fun b hb => shape_same (hall b hb), rfl, fun _ h => h, fun _ _ h => h, fun _ _ o h => ⟨o, h, .refl _⟩, fun _ _ _ => rfl, fun _ _ _ _ _ _ _ _ _ _ => rfl⟩
  have hinvF : Inv w' g (getO s) := ⟨hinv.made, fun id o h => by have := hinv.lies id o h; have := hext.size; exact ⟨by omega, (hinv.lies id o h).2⟩, fun b hb => by have := hinv.xlt b hb; have := hext.size; omega, hinv.inj,
    fun id o h => hext'.repO (hall _ (hinv.lies id o h).1) (hinv.rep id o h)⟩
  have c' : Cx w' g' (getO s') s' (fun _ => True) True := ⟨hinv', fun _ _ => rfl, fun _ hid => by
    rcases hC _ hid with h | h
    · exact h.elim
    · exact Nat.lt_irrefl _ h.2⟩
  have back : ∀ {σ' : St} {p : PV} {x : Value}, RepP w' (Lv g' σ') p x → RepP w' (Lv g (getO s)) p x := fun hp => hp.keep (fun _ _ _ => rfl) (fun b _ hb => .inl (hX b hb))
  have backs : ∀ {σ' : St} {ps : List PV} {xs : List Value}, RepPs w' (Lv g' σ') ps xs → RepPs w' (Lv g (getO s)) ps xs := fun hp => hp.keep (fun _ _ _ => rfl) (fun b _ hb => .inl (hX b hb))
  unfold finP at hk
  split at hk
  · rename_i vs'
    obtain ⟨ys, rfl, hys⟩ := hrep.inv_tup
    obtain ⟨ps, s2, k1, _, k3⟩ := partsP_tree hys c' (fun _ _ _ _ => trivial) hk
    exact ⟨_, _, s, g, rfl, k1, Nat.le_refl _, .tup _ _ (backs k3).repAs, hinvF, hext', fun id h => .inl h⟩
  · obtain ⟨p, s2, k1, _, k3⟩ := toP_tree hrep c' (fun _ _ => trivial) hk
    exact ⟨_, _, s, g, rfl, k1, Nat.le_refl _, .p _ _ (back k3), hinvF, hext', fun id h => .inl h⟩

/-- What a call returns, handed on as a tree. -/
theorem Cal.frz {f : Nat} {args : List AV} {s : Store} {K : AV → Store → Prop} (h : Cal P f args s fun r s' => toP s' r fun p s'' => K (.p p) s'') : Cal P f args s K := by
  unfold Cal at h ⊢
  refine fun w g vs hinv hG hfresh hargs => (h w g vs hinv hG hfresh hargs).mono fun e w' hpost => ?_
  obtain ⟨r, v, s', g', rfl, hk, hlen, hrep, hinv', hext, hC⟩ := hpost
  have c : Cx w' g' (getO s') s' (fun _ => True) False := ⟨hinv', fun _ _ => rfl, fun hh => hh.elim⟩
  obtain ⟨p, s2, k1, fz, k3⟩ := toP_tree hrep c (fun _ _ => trivial) hk
  have hov : ovr (fun _ => True) s' s2 (getO s') = getO s2 := by funext i; simp [ovr]
  have q1 := fz.inv; have q2 := fz.ext
  rw [hov] at q1 q2 k3
  exact ⟨_, v, s2, g', rfl, k1, by have := fz.len; omega, .p _ _ k3, q1, hext.trans q2, fun id hid => by have := hC id hid; rw [fz.len]; exact this⟩
end Go.Proofs.YtnopnmlpibdioaaDoor.AW
