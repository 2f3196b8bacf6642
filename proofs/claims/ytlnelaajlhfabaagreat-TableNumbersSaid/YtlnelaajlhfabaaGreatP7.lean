/- A part of the proof: AW/Back. -/
import Derived.Test.YtlnelaajlhfabaaGreatP6
namespace Go.Proofs.YtlnelaajlhfabaaGreat.AW
set_option linter.unusedSimpArgs false
set_option linter.unusedVariables false
variable {P : Program}

/-! ### What a call hands back, told anew -/
/-- What a call returns has its own block: a beginning of it is read as a buffer of its own (no one else uses it any more). -/
theorem Cal.retract {f : Nat} {args : List AV} {s : Store} {K : AV → Store → Prop}
    (h : Cal P f args s fun v s' => ∃ id tot len sz xs ty, v = .osl id tot 0 len ∧ getO s' id = some (.buf sz xs ty) ∧ xs.length = tot ∧ len ≤ tot ∧ K (.osl s'.length len 0 len) (s'.set id none ++ [some (.buf sz (xs.take len) ty)])) : Cal P f args s K := by
  unfold Cal at h ⊢
  intro w g vs hinv hG hfr hargs
  refine (h w g vs hinv hG hfr hargs).mono fun e w' hq => ?_
  obtain ⟨r, v, s1, g1, rfl, ⟨id, tot, len, sz, xs, ty, rfl, hid, hxt, hlt, hk⟩, hle, hr, hinv1, hext, hC⟩ := hq
  have hidl := getO_lt hid
  have hC1 : ∀ i, g1.C i → i < s1.length := fun i hi => by
    rcases hC i hi with h | h
    · have := hfr i h; omega
    · exact h.2
  let g2 : G := { ι := fun i => if i = s1.length then g1.ι id else g1.ι i, X := g1.X, C := fun i => g1.C i ∨ i = s1.length, R := fun i => if i = s1.length then g1.R id else g1.R i }
  have hget : ∀ i, getO (s1.set id none ++ [some (.buf sz (xs.take len) ty)]) i = if i = s1.length then some (.buf sz (xs.take len) ty) else if i = id then none else getO s1 i := fun i => by
    rw [getO_snoc, List.length_set]
    by_cases h1 : i = s1.length
    · rw [if_pos h1, if_pos h1]
    · rw [if_neg h1, if_neg h1, getO_set s1 id none i hidl]
  have hne : id ≠ s1.length := by omega
  have hold : ∀ i o, i ≠ s1.length → getO (s1.set id none ++ [some (.buf sz (xs.take len) ty)]) i = some o → i ≠ id ∧ getO s1 i = some o := fun i o hi h => by
    rw [hget, if_neg hi] at h
    by_cases h2 : i = id
    · rw [if_pos h2] at h; cases h
    · rw [if_neg h2] at h; exact ⟨h2, h⟩
  have hnone : ∀ i, i ≠ s1.length → getO (s1.set id none ++ [some (.buf sz (xs.take len) ty)]) i ≠ none → i ≠ id ∧ getO s1 i ≠ none := fun i hi h => by
    obtain ⟨o, ho⟩ := Option.ne_none_iff_exists'.1 h
    obtain ⟨h1, h2⟩ := hold i o hi ho
    exact ⟨h1, by rw [h2]; simp⟩
  have hι : ∀ i, i ≠ s1.length → g2.ι i = g1.ι i := fun i hi => if_neg hi
  have hRi : ∀ i, i ≠ s1.length → (g2.R i ↔ g1.R i) := fun i hi => by show (if i = s1.length then g1.R id else g1.R i) ↔ _; rw [if_neg hi]
  have hι0 : g2.ι s1.length = g1.ι id := if_pos rfl
  have hR0 : g2.R s1.length ↔ g1.R id := by show (if s1.length = s1.length then g1.R id else g1.R _) ↔ _; rw [if_pos rfl]
  have hown : ∀ b, Own g2 (getO (s1.set id none ++ [some (.buf sz (xs.take len) ty)])) b → Own g1 (getO s1) b := by
    rintro b ⟨i, h1, h2, h3⟩
    by_cases hi : i = s1.length
    · subst hi
      exact ⟨id, by rw [hid]; simp, hR0.1 h2, by rw [← h3, hι0]⟩
    · exact ⟨i, (hnone i hi h1).2, (hRi i hi).1 h2, by rw [← h3, hι i hi]⟩
  have hlv : ∀ b, Lv g2 (getO (s1.set id none ++ [some (.buf sz (xs.take len) ty)])) b → Lv g1 (getO s1) b := fun b hb => hb.imp (fun h => h) (hown b)
  have hext2 : Ext w' g1 (getO s1) w' g2 (getO (s1.set id none ++ [some (.buf sz (xs.take len) ty)])) := {
    size := Nat.le_refl _
    os := rfl
    tape := rfl
    output := rfl
    frame := fun _ _ _ => rfl
    shape := fun _ _ => rfl
    X := rfl
    C := fun i h => .inl h
    own := fun b _ hb => hown b hb
    obj := fun i hc o ho => ⟨o, (hold i o (by have := hC1 i hc; omega) ho).2, .refl _⟩
    ι1 := fun i hc _ => have hi : i ≠ s1.length := by have := hC1 i hc; omega
      ⟨hι i hi, hRi i hi⟩
    ι2 := fun i _ _ _ _ _ hc _ _ _ => have hi : i ≠ s1.length := by have := hC1 i hc; omega
      ⟨hι i hi, hRi i hi⟩
    drawn := Nat.le_refl _ }
  have hinv2 : Inv w' g2 (getO (s1.set id none ++ [some (.buf sz (xs.take len) ty)])) := by
    refine ⟨fun i o h => ?_, fun i o h hr => ?_, hinv1.xlt, fun i j hi hj ri rj hij => ?_, fun i o h hR => ?_, fun i o h hR => ?_⟩
    · by_cases hi : i = s1.length
      · exact .inr hi
      · exact .inl (hinv1.made i o (hold i o hi h).2)
    · by_cases hi : i = s1.length
      · subst hi; rw [hι0]; exact hinv1.lies id _ hid (hR0.1 hr)
      · rw [hι i hi]; exact hinv1.lies i o (hold i o hi h).2 ((hRi i hi).1 hr)
    · by_cases h1 : i = s1.length
      · by_cases h2 : j = s1.length
        · rw [h1, h2]
        · exfalso
          obtain ⟨k1, k2⟩ := hnone j h2 hj
          subst h1
          rw [hι0, hι j h2] at hij
          exact k1 (hinv1.inj id j (by rw [hid]; simp) k2 (hR0.1 ri) ((hRi j h2).1 rj) hij).symm
      · by_cases h2 : j = s1.length
        · exfalso
          obtain ⟨k1, k2⟩ := hnone i h1 hi
          subst h2
          rw [hι0, hι i h1] at hij
          exact k1 (hinv1.inj i id k2 (by rw [hid]; simp) ((hRi i h1).1 ri) (hR0.1 rj) hij)
        · rw [hι i h1, hι j h2] at hij
          exact hinv1.inj i j (hnone i h1 hi).2 (hnone j h2 hj).2 ((hRi i h1).1 ri) ((hRi j h2).1 rj) hij
    · by_cases hi : i = s1.length
      · subst hi
        rw [hget, if_pos rfl] at h
        cases h
        rw [hι0]
        have := hinv1.rep id _ hid (hR0.1 hR)
        cases this with
        | buf _ _ cs hz hs hn hrp hb _ ht =>
          have hl : (xs.take len).length = len := by rw [List.length_take]; omega
          refine .buf sz _ cs hz (fun x hx => hs x (List.mem_of_mem_take hx)) (Nat.le_trans (Nat.mul_le_mul_left _ (by rw [hl]; omega)) hn) ?_ hb ty ht
          have e1 : flat (xs.take len) = (flat xs).take (len * sz) := flat_takeN len xs hs
          have e2 : cs.take (sz * (xs.take len).length) = (cs.take (sz * xs.length)).take (len * sz) := by
            rw [List.take_take, hl, Nat.mul_comm sz len]
            congr 1
            rw [Nat.min_eq_left]
            rw [Nat.mul_comm sz]
            exact Nat.mul_le_mul_right _ (by omega)
          rw [e1, e2]
          exact (hext2.repPs (hrp.take _))
      · rw [hι i hi]
        exact hext2.repO rfl (hinv1.rep i o (hold i o hi h).2 ((hRi i hi).1 hR))
    · by_cases hi : i = s1.length
      · subst hi
        rw [hget, if_pos rfl] at h
        cases h
        obtain ⟨sz', ty', h1, h2⟩ := hinv1.void id _ hid (fun q => hR (hR0.2 q))
        cases h2
        exact ⟨_, _, h1, by rw [List.take_nil]⟩
      · exact hinv1.void i o (hold i o hi h).2 (fun q => hR ((hRi i hi).2 q))
  refine ⟨.osl s1.length len 0 len, v, _, g2, rfl, hk, by simp; omega, ?_, hinv2, hext.trans hext2, fun i hi => ?_⟩
  · cases hr with
    | osl _ _ _ _ _ hc hx ht hq =>
      refine .osl _ _ _ _ _ (.inr rfl) hx (fun sz' xs' ty' h => ?_) (fun sz' xs' ty' h hl => ?_) (Nat.zero_le _)
      · rw [hget, if_pos rfl] at h
        cases h
        rw [List.length_take]; omega
      · rw [hget, if_pos rfl] at h
        cases h
        obtain ⟨q1, q2, q3⟩ := hq sz xs ty hid hxt
        refine ⟨by omega, fun hr => q2 fun q => hr (hR0.2 q), fun hr => ?_⟩
        rw [hι0]
        exact q3 (hR0.1 hr)
  · rcases hi with hi | hi
    · rcases hC i hi with h | h
      · exact .inl h
      · exact .inr ⟨h.1, by simp; omega⟩
    · subst hi
      exact .inr ⟨hle, by simp⟩

/-! ### What a call leaves behind, forgotten or told with less -/
inductive WkEs : List (Nat × PV × PV) → List (Nat × PV × PV) → Prop
  | nil : WkEs [] []
  | cons (n : Nat) (k v v' : PV) (r t : List (Nat × PV × PV)) (h : WkD v v') (hs : WkEs r t) : WkEs ((n, k, v) :: r) ((n, k, v') :: t)
inductive WkO : Option AObj → Option AObj → Prop
  | refl (o : Option AObj) : WkO o o
  | map (kk : KK) (es es' : List (Nat × PV × PV)) (clock : Nat) (h : WkEs es es') : WkO (some (.map kk es clock)) (some (.map kk es' clock))
inductive WkS : Store → Store → Prop
  | nil : WkS [] []
  | cons (o o' : Option AObj) (r t : Store) (h : WkO o o') (hs : WkS r t) : WkS (o :: r) (o' :: t)
theorem WkS.refl : ∀ s : Store, WkS s s
  | [] => .nil
  | o :: r => .cons o o r r (.refl o) (WkS.refl r)
theorem WkEs.refl : ∀ es : List (Nat × PV × PV), WkEs es es
  | [] => .nil
  | (n, k, v) :: r => .cons n k v v r r (.refl v) (WkEs.refl r)
theorem WkS.len : ∀ {s t : Store}, WkS s t → s.length = t.length
  | _, _, .nil => rfl
  | _, _, .cons _ _ _ _ _ h => by simp [h.len]
theorem WkS.get : ∀ {s t : Store}, WkS s t → ∀ id, WkO (getO s id) (getO t id)
  | _, _, .nil, id => .refl _
  | _, _, .cons o o' r t h hs, 0 => by
    show WkO (match (some o : Option (Option AObj)) with | some o => o | none => none) (match (some o' : Option (Option AObj)) with | some o => o | none => none)
    exact h
  | _, _, .cons o o' r t h hs, id + 1 => by
    have := hs.get id
    simpa [getO] using this
theorem WkEs.rep {w : World} {B : Nat → Prop} : ∀ {es fs : List (Nat × PV × PV)} {xs : List MapEntry}, WkEs es fs → EntsP w B es xs → EntsP w B fs xs
  | _, _, _, .nil, h => h
  | _, _, _, .cons n k v v' r t hw hs, .cons _ _ _ x y _ xs hk hv h => .cons n k v' x y t xs hk (hw.rep hv) (hs.rep h)
theorem WkEs.fst : ∀ {es fs : List (Nat × PV × PV)}, WkEs es fs → fs.map (·.1) = es.map (·.1)
  | _, _, .nil => rfl
  | _, _, .cons _ _ _ _ _ _ _ hs => by simp [hs.fst]
theorem WkEs.key : ∀ {es fs : List (Nat × PV × PV)}, WkEs es fs → ∀ q, q ∈ fs → ∃ q', q' ∈ es ∧ q'.1 = q.1 ∧ q'.2.1 = q.2.1
  | _, _, .cons n k v v' r t hw hs, q, hq => by
    rcases List.mem_cons.1 hq with rfl | hq
    · exact ⟨(n, k, v), by simp, rfl, rfl⟩
    · obtain ⟨q', h1, h2⟩ := hs.key q hq
      exact ⟨q', List.mem_cons_of_mem _ h1, h2⟩
theorem WkO.kind {o o' : AObj} (h : WkO (some o) (some o')) : sameKind o o' ∧ (∀ sz xs ty, o' = .buf sz xs ty → o = .buf sz xs ty) := by
  cases h with
  | refl => exact ⟨.refl _, fun _ _ _ h => h⟩
  | map kk es es' clock h => exact ⟨rfl, fun _ _ _ h => by cases h⟩
theorem WkO.some' {o : Option AObj} {o' : AObj} (h : WkO o (some o')) : ∃ o1, o = some o1 := by
  cases h with
  | refl => exact ⟨_, rfl⟩
  | map => exact ⟨_, rfl⟩
theorem WkO.back {o1 : AObj} {o : Option AObj} (h : WkO (some o1) o) : ∃ o', o = some o' := by
  cases h with
  | refl => exact ⟨_, rfl⟩
  | map => exact ⟨_, rfl⟩

/-- A store told with less. -/
theorem wk_store {w : World} {g : G} {s t : Store} (h : WkS s t) (hinv : Inv w g (getO s)) : Inv w g (getO t) ∧ Ext w g (getO s) w g (getO t) := by
  have hg := h.get
  have hback : ∀ id o', getO t id = some o' → ∃ o, getO s id = some o ∧ WkO (some o) (some o') := fun id o' ho => by
    have := hg id
    rw [ho] at this
    obtain ⟨o, e⟩ := this.some'
    rw [e] at this
    exact ⟨o, e, this⟩
  have hne : ∀ id, getO t id ≠ none → getO s id ≠ none := fun id hh => by
    obtain ⟨o', ho⟩ := Option.ne_none_iff_exists'.1 hh
    obtain ⟨o, e, _⟩ := hback id o' ho
    rw [e]; simp
  have hext : Ext w g (getO s) w g (getO t) := {
    size := Nat.le_refl _
    os := rfl
    tape := rfl
    output := rfl
    frame := fun _ _ _ => rfl
    shape := fun _ _ => rfl
    X := rfl
    C := fun _ h => h
    own := fun b _ ⟨i, h1, h2, h3⟩ => ⟨i, hne i h1, h2, h3⟩
    obj := fun id _ o' ho => by obtain ⟨o, e, hk⟩ := hback id o' ho; exact ⟨o, e, hk.kind.1⟩
    ι1 := fun _ _ _ => ⟨rfl, .rfl⟩
    ι2 := fun _ _ _ _ _ _ _ _ _ _ => ⟨rfl, .rfl⟩
    drawn := Nat.le_refl _ }
  refine ⟨⟨fun id o' ho => ?_, fun id o' ho hr => ?_, hinv.xlt, fun i j hi hj => hinv.inj i j (hne i hi) (hne j hj), fun id o' ho hR => ?_, fun id o' ho hR => ?_⟩, hext⟩
  · obtain ⟨o, e, _⟩ := hback id o' ho; exact hinv.made id o e
  · obtain ⟨o, e, _⟩ := hback id o' ho; exact hinv.lies id o e hr
  · obtain ⟨o, e, hk⟩ := hback id o' ho
    have hr := hext.repO rfl (hinv.rep id o e hR)
    cases hk with
    | refl => exact hr
    | map kk es es' clock hw =>
      cases hr with
      | map _ _ _ xs he hb hkk hc hn => exact .map kk es' clock xs (hw.rep he) hb (fun q hq => by obtain ⟨q', k1, k2, k3⟩ := hw.key q hq; rw [← k3]; exact hkk q' k1) (fun q hq => by obtain ⟨q', k1, k2, _⟩ := hw.key q hq; rw [← k2]; exact hc q' k1) (by rw [hw.fst]; exact hn)
  · obtain ⟨o, e, hk⟩ := hback id o' ho
    obtain ⟨sz, ty, h1, h2⟩ := hinv.void id o e hR
    subst h2
    cases hk with
    | refl => exact ⟨sz, ty, h1, rfl⟩

theorem Inv.cut {w : World} {g : G} {s : Store} (h : Inv w g (getO s)) {N : Nat} (ho : (s.take N).all (objUnder N) = true) : Inv w (g.upto N) (getO (s.take N)) := by
  have hsub : ∀ id o, St.upto (getO s) N id = some o → getO s id = some o ∧ id < N := fun id o hq => by
    unfold St.upto at hq
    split at hq
    · exact ⟨hq, by assumption⟩
    · cases hq
  have hne : ∀ id, St.upto (getO s) N id ≠ none → getO s id ≠ none := fun id hq => by
    obtain ⟨o, ho⟩ := Option.ne_none_iff_exists'.1 hq
    rw [(hsub id o ho).1]; simp
  have hmem : ∀ id o, St.upto (getO s) N id = some o → objUnder N (some o) = true := fun id o hq => by
    have hlt := (hsub id _ hq).2
    have hs : (s.take N)[id]? = some (some o) := by
      have := (hsub id _ hq).1
      unfold getO at this
      rw [List.getElem?_take_of_lt hlt]
      split at this
      · rename_i o' ho'; rw [ho', this]
      · cases this
    exact List.all_eq_true.1 ho _ (List.mem_of_getElem? hs)
  rw [getO_take]
  refine ⟨fun id o hq => ⟨h.made id o (hsub id o hq).1, (hsub id o hq).2⟩, fun id o hq hr => h.lies id o (hsub id o hq).1 hr, h.xlt, fun i j hi hj => h.inj i j (hne i hi) (hne j hj), fun id o hq hR => ?_, fun id o hq hr => h.void id o (hsub id o hq).1 hr⟩
  have hr := h.rep id o (hsub id o hq).1 hR
  have hm := hmem id o hq
  show RepO w _ _ (g.ι id) o
  cases hr with
  | cells cs ty xs hc hb ht => exact .cells cs ty xs (upto_repAs hc (by simpa [objUnder] using hm)) hb ht
  | buf sz es xs hz hs hn hc hb ty ht => exact .buf sz es xs hz hs hn (hc.keep (fun _ _ _ => rfl) (fun _ _ h => upto_lv h)) hb ty ht
  | iterS s' pos x hx hp hb => exact .iterS s' pos x hx hp hb
  | map kk es clock xs he hw hk hc hn => exact .map kk es clock xs (he.keep (fun _ _ _ => rfl) (fun _ _ h => upto_lv h)) hw hk hc hn
  | iterM mid bs left since last seen hC hm' hl hs hw =>
    have hmid : mid < N := blt_lt (by simpa [objUnder] using hm)
    exact .iterM mid bs left since last seen ⟨hC, hmid⟩ (by simpa [St.upto, hmid] using hm') hl hs hw

/-- What is new behind N is forgotten, and what is left is told with less. -/
theorem Cal.cut {f : Nat} {args : List AV} {s : Store} {K : AV → Store → Prop}
    (h : Cal P f args s fun v s' => ∃ N t, s.length ≤ N ∧ N ≤ s'.length ∧ v.under N = true ∧ (s'.take N).all (objUnder N) = true ∧ WkS (s'.take N) t ∧ K v t) : Cal P f args s K := by
  unfold Cal at h ⊢
  intro w g vs hinv hG hfr hargs
  refine (h w g vs hinv hG hfr hargs).mono fun e w' hq => ?_
  obtain ⟨r, v, s1, g1, rfl, ⟨N, t, hsN, hN1, hu, ho, hw, hk⟩, hle, hr, hinv1, hext, hC⟩ := hq
  have hi2 := hinv1.cut ho
  have hr2 := upto_repA hr hu
  rw [← getO_take] at hr2
  have hCN : ∀ id, g.C id → id < N := fun id hid => Nat.lt_of_lt_of_le (hfr id hid) hsN
  have hsub : ∀ id o, getO (s1.take N) id = some o → getO s1 id = some o := fun id o hq => by
    rw [getO_take] at hq
    unfold St.upto at hq
    split at hq
    · exact hq
    · cases hq
  have hown : ∀ b, Own (g1.upto N) (getO (s1.take N)) b → Own g1 (getO s1) b := by
    rintro b ⟨i, h1, h2, h3⟩
    obtain ⟨o, ho⟩ := Option.ne_none_iff_exists'.1 h1
    exact ⟨i, by rw [hsub i o ho]; simp, h2, h3⟩
  have hext2 : Ext w g (getO s) w' (g1.upto N) (getO (s1.take N)) := {
    size := hext.size
    os := hext.os
    tape := hext.tape
    output := hext.output
    frame := hext.frame
    shape := hext.shape
    X := hext.X
    C := fun id hid => ⟨hext.C id hid, hCN id hid⟩
    own := fun b hb hb2 => hext.own b hb (hown b hb2)
    obj := fun id hid o' ho' => hext.obj id hid o' (hsub id o' ho')
    ι1 := hext.ι1
    ι2 := fun id sz xs xs' ty ty' hid h1 h2 h3 => hext.ι2 id sz xs xs' ty ty' hid h1 (hsub _ _ h2) h3
    drawn := hext.drawn }
  obtain ⟨hi3, hext3⟩ := wk_store hw hi2
  have htl : t.length = N := by rw [← hw.len, List.length_take]; omega
  exact ⟨r, v, t, g1.upto N, rfl, hk, by omega, hext3.repA hr2, hi3, hext2.trans hext3, fun id hid => by
    rcases hC id hid.1 with q | q
    · exact .inl q
    · exact .inr ⟨q.1, by rw [htl]; exact hid.2⟩⟩
end Go.Proofs.YtlnelaajlhfabaaGreat.AW
