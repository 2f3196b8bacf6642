import Derived.Test.YtfjolephpghafaaL4V
namespace Go.Proofs.Ytfjolephpghafaa.AW
open Go.Proofs

/-- What the document's own loop has: a Config, and whether all was named. -/
def stepP (q : C4 × Bool) (p : List UInt8 × Int) : C4 × Bool := ((setOf q.1 p.1 p.2).1, q.2 && (setOf q.1 p.1 p.2).2)
def foldP (l : List (List UInt8 × Int)) (q : C4 × Bool) : C4 × Bool := l.foldl stepP q
def pairI (p : List UInt8 × Int) : List Item := [.tx p.1, .i64 p.2]
def itemsP (l : List (List UInt8 × Int)) : List Item := l.flatMap pairI
def cfI (c : C4) : Item := .cf c.a c.b c.c c.d
/-- What 'configs' asks for. -/
def wanted (c : C4) (ok : Bool) : C4 × Int := match ok with
  | false => (zero4, 1)
  | true => match right c.l with
    | false => (zero4, 3)
    | true => (c, 0)

def near (x y : Int) : Prop := x = y ∨ (rightN x = false ∧ rightN y = false)
def near4 (c d : C4) : Prop := near c.a d.a ∧ near c.b d.b ∧ near c.c d.c ∧ near c.d d.d

theorem near_clip (n : Int) : near (clip n) (clamp n) := by
  unfold near clip clamp rightN
  by_cases h : 0 ≤ n ∧ n ≤ 1073741824
  · left; omega
  · right
    simp only [decide_eq_false_iff_not]
    omega
theorem near4_refl (c : C4) : near4 c c := ⟨.inl rfl, .inl rfl, .inl rfl, .inl rfl⟩
theorem near4_set {c d : C4} (h : near4 c d) (k : Nat) {x y : Int} (hx : near x y) : near4 (c.set k x) (d.set k y) := by
  obtain ⟨h1, h2, h3, h4⟩ := h
  unfold C4.set
  split
  · exact ⟨hx, h2, h3, h4⟩
  · exact ⟨h1, hx, h3, h4⟩
  · exact ⟨h1, h2, hx, h4⟩
  · exact ⟨h1, h2, h3, hx⟩
theorem near_right {x y : Int} (h : near x y) : rightN x = rightN y := by
  rcases h with rfl | ⟨h1, h2⟩
  · rfl
  · rw [h1, h2]
theorem near4_right {c d : C4} (h : near4 c d) : right c.l = right d.l := by
  obtain ⟨h1, h2, h3, h4⟩ := h
  simp only [right, C4.l, List.all_cons, List.all_nil, near_right h1, near_right h2, near_right h3, near_right h4]
theorem near_eq {x y : Int} (h : near x y) (hr : rightN y = true) : x = y := by
  rcases h with rfl | ⟨_, h2⟩
  · rfl
  · rw [hr] at h2; cases h2
theorem near4_eq {c d : C4} (h : near4 c d) (hr : right d.l = true) : c = d := by
  obtain ⟨h1, h2, h3, h4⟩ := h
  simp only [right, C4.l, List.all_cons, List.all_nil, Bool.and_true, Bool.and_eq_true] at hr
  obtain ⟨ca, cb, cc, cd⟩ := c
  obtain ⟨da, db, dc, dd⟩ := d
  simp only at h1 h2 h3 h4 hr
  rw [near_eq h1 hr.1, near_eq h2 hr.2.1, near_eq h3 hr.2.2.1, near_eq h4 hr.2.2.2]

theorem fold_false : ∀ (l : List (List UInt8 × Int)) (c : C4), (foldP l (c, false)).2 = false
  | [], _ => rfl
  | p :: l, c => by
    show (foldP l ((setOf c p.1 p.2).1, false && (setOf c p.1 p.2).2)).2 = false
    rw [Bool.false_and]; exact fold_false l _

theorem run_pairs : ∀ (l : List (List UInt8 × Int)) (c d : C4), near4 c d → ((foldP l (d, true)).2 = false ∧ run (itemsP l) c = none) ∨ ((foldP l (d, true)).2 = true ∧ ∃ x, run (itemsP l) c = some x ∧ near4 x (foldP l (d, true)).1)
  | [], c, d, h => .inr ⟨rfl, c, rfl, h⟩
  | (s, n) :: l, c, d, h => by
    show ((foldP l ((setOf d s n).1, true && (setOf d s n).2)).2 = false ∧ run (.tx s :: .i64 n :: itemsP l) c = none) ∨ ((foldP l ((setOf d s n).1, true && (setOf d s n).2)).2 = true ∧ ∃ x, run (.tx s :: .i64 n :: itemsP l) c = some x ∧ near4 x (foldP l ((setOf d s n).1, true && (setOf d s n).2)).1)
    unfold run
    cases hf : fieldOf (upper s) with
    | none =>
      have hs : setOf d s n = (d, false) := by unfold setOf; rw [hf]
      rw [hs]
      exact .inl ⟨fold_false l d, rfl⟩
    | some k =>
      have hs : setOf d s n = (d.set k (clamp n), true) := by unfold setOf; rw [hf]
      rw [hs]
      exact run_pairs l (c.set k (clip n)) (d.set k (clamp n)) (near4_set h k (near_clip n))

theorem run_cfs : ∀ (fs : List C4) (c : C4) (r : List Item), run (fs.map cfI ++ r) c = run r (fs.getLast?.getD c)
  | [], _, _ => rfl
  | [f], _, _ => rfl
  | f :: g :: fs, c, r => by
    have := run_cfs (g :: fs) f r
    rw [List.getLast?_cons_cons]
    show run ((g :: fs).map cfI ++ r) f = _
    rw [this]
    cases h : (g :: fs).getLast? with
    | none => simp at h
    | some => rfl

theorem config_wanted (fs : List C4) (l : List (List UInt8 × Int)) :
    config (fs.map cfI ++ itemsP l) = wanted (foldP l (fs.getLast?.getD dflt, true)).1 (foldP l (fs.getLast?.getD dflt, true)).2 := by
  unfold config wanted
  rw [run_cfs]
  rcases run_pairs l _ _ (near4_refl (fs.getLast?.getD dflt)) with ⟨h1, h2⟩ | ⟨h1, x, h2, h3⟩
  · rw [h1, h2]
  · rw [h1, h2]
    have h4 := near4_right h3
    simp only
    rw [h4]
    cases h5 : right (foldP l (fs.getLast?.getD dflt, true)).1.l with
    | true => simp only [if_true]; rw [near4_eq h3 h5]
    | false => rfl
end Go.Proofs.Ytfjolephpghafaa.AW
