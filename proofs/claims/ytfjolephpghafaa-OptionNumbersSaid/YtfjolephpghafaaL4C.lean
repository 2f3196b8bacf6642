import Derived.Test.YtfjolephpghafaaL4B
namespace Go.Proofs.Ytfjolephpghafaa.AW
open Go.Proofs
set_option maxRecDepth 100000

theorem encode_len (n : Int) : (Utf8.encode n).data.toList.length ≤ 4 := by
  have : (Utf8.encode n).size ≤ 4 := by
    unfold Utf8.encode
    simp only []
    repeat' split
    all_goals first
      | decide
      | simp [ByteArray.size]
      | skip
  rw [Array.length_toList]; exact this
theorem encs_len (l : List Int) : (encs l).length ≤ 4 * l.length := by
  induction l with
  | nil => simp [encs]
  | cons x r ih =>
    have := encode_len x
    simp only [encs, List.flatMap_cons, List.length_append, List.length_cons] at ih ⊢
    omega
theorem encs_snoc (l : List Int) (x : Int) : encs (l ++ [x]) = encs l ++ (Utf8.encode x).data.toList := by simp [encs]

theorem up_gt2 {r : Int} (h : 97 ≤ r ∧ r ≤ 122) : IntKind.i32.wrap (IntKind.i32.wrap (r - 97) + 65) = up r := by unfold up; rw [if_pos h, IntKind.wrap_i32, IntKind.wrap_i32]; omega

theorem upper2_c (l : List UInt8) (hl : l.length < 1099511627776) (s : Store) (K : AV → Store → Prop) (h : K (.p (.str (upper l))) s) : Cal Try.prog 24 [.p (.str l)] s K := by
  refine Cal.pure (args := [.str l]) ?_
  refine Cal.intro Try.func24 (by decide +kernel) rfl rfl ?_
  refine LoopX.fam [2, 3, 7] (fun (q : List Int × List UInt8 × Nat) => ([(2, .p (.str [])), (3, .p (.str (encs q.1))), (7, .it 0)], [some (.iterS q.2.1 q.2.2)]))
    (fun q => q.1 ++ (rns q.2.1).map up = (rns l).map up) (fun q => q.2.1.length) ([], l, 0) (by simp) (Trim.mk' rfl rfl rfl rfl (by simp)) ?_
  rintro ⟨d, rest, pos⟩ hq
  have hq : d ++ (rns rest).map up = (rns l).map up := hq
  have hdl : d.length ≤ l.length := by
    have h1 := congrArg List.length hq
    have h2 := rns_le l
    simp at h1; omega
  have hel := encs_len d
  refine BrL.mk (fun (he : rest = []) => ?_) (fun (hne : rest ≠ []) => ?_)
  · refine Br.f rfl ?_
    show K (.p (.str (encs d))) s
    subst he
    have : d = (rns l).map up := by simpa [rns_nil] using hq
    rw [this]; exact h
  · refine Br.t rfl ?_
    have h1 := rns_step hne
    have h3 := decode_pos rest
    have h4 : 0 < rest.length := List.length_pos_iff.2 hne
    have next : ∀ x : Int, x = up (decode rest).1 → (d ++ [x]) ++ (rns (rest.drop (decode rest).2)).map up = (rns l).map up := fun x hx => by
      rw [← hq, h1, hx]; simp
    refine (Int.lt_or_le ((decode rest).1 : Int) 97).elim
      (fun h5 => have hx : ((decode rest).1 : Int) = up (decode rest).1 := (up_le (by omega)).symm
        Br.f (by simp; omega) (Br.f (by simp; omega) (Br.f (by simp; omega) (Br.f rfl ?_))))
      (fun h5 => Br.t (by simp; omega) (Br.t (by simp; omega) (Br.t (by simp; omega) (Br.mk
        (fun h6 => have hx := up_gt2 (r := (decode rest).1) ⟨h5, by simpa using h6⟩; ?_)
        (fun h6 => have hx : ((decode rest).1 : Int) = up (decode rest).1 := up_b h6; ?_)))))
    all_goals
      refine Ob.mk (Nat.lt_of_le_of_lt (Nat.add_le_add_left (encode_len _) _) (show (encs d).length + 4 < _ by omega)) ?_
      refine ⟨(d ++ [_], rest.drop (decode rest).2, pos + (decode rest).2), next _ hx, ?_, by simp, Trim.mk' ?_ rfl rfl rfl (by simp)⟩
      · show (rest.drop (decode rest).2).length < rest.length
        simp; omega
      · simp only [encs_snoc]; rfl

def SEG : List UInt8 := [83, 69, 71, 77, 69, 78, 84]
def IND : List UInt8 := [73, 78, 68, 69, 88]
def SNA : List UInt8 := [83, 78, 65, 80, 83, 72, 79, 84]
def CAP : List UInt8 := [67, 65, 80]
def fieldOf (u : List UInt8) : Option Nat := if u == SEG then some 0 else if u == IND then some 1 else if u == SNA then some 2 else if u == CAP then some 3 else none

theorem field_c (id : Nat) (l : List UInt8) (hl : l.length < 1099511627776) (s : Store) (K : AV → Store → Prop)
    (h : match fieldOf (upper l) with | some k => K (.ref id k) s | none => K (.p (.lit (.pointer none))) s) : Cal Try.prog 20 [.ref id 0, .p (.str l)] s K := by
  refine Cal.intro Try.func20 (by decide +kernel) rfl rfl ?_
  refine upper_c l hl _ _ ?_
  unfold fieldOf at h
  cases h1 : (upper l == SEG) with
  | true => rw [h1] at h; exact Br.t h1 h
  | false =>
    cases h2 : (upper l == IND) with
    | true => rw [h1, h2] at h; exact Br.f h1 (Br.t h2 h)
    | false =>
      cases h3 : (upper l == SNA) with
      | true => rw [h1, h2, h3] at h; exact Br.f h1 (Br.f h2 (Br.t h3 h))
      | false =>
        cases h4 : (upper l == CAP) with
        | true => rw [h1, h2, h3, h4] at h; exact Br.f h1 (Br.f h2 (Br.f h3 (Br.t h4 h)))
        | false => rw [h1, h2, h3, h4] at h; exact Br.f h1 (Br.f h2 (Br.f h3 (Br.f h4 h)))

inductive Item where
  | cf (a b c d : Int) | tx (l : List UInt8) | i (n : Int) | i64 (n : Int) | i32 (n : Int)
def Item.pv : Item → PV
  | .cf a b c d => .iface 27 (cfg a b c d) | .tx l => .iface 9 (.str l) | .i n => .iface 3 (ii n) | .i64 n => .iface 2 (ii n) | .i32 n => .iface 21 (.int .i32 n)
def Item.val : Item → Int × Bool
  | .cf .. => (0, false) | .tx l => ((rns l).length, true) | .i n => (n, true) | .i64 n => (n, true) | .i32 n => (IntKind.i64.wrap n, true)
def Item.ok : Item → Prop
  | .tx l => l.length < 1099511627776
  | _ => True
theorem item_c (v : Item) (hv : v.ok) (s : Store) (K : AV → Store → Prop) (h : K (i64b v.val.1 v.val.2) s) : Cal Try.prog 11 [.p v.pv] s K := by
  cases v with
  | cf a b c d => exact int_not 27 (by simp) _ _ _ h
  | tx l => exact int_str l (Nat.lt_trans hv (by decide)) _ _ h
  | i n => exact int_int n _ _ h
  | i64 n => exact int_i64 n _ _ h
  | i32 n => exact int_i32 n _ _ h
end Go.Proofs.Ytfjolephpghafaa.AW
