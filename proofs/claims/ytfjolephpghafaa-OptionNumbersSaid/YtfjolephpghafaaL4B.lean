import Derived.Test.YtfjolephpghafaaL4A
namespace Go.Proofs.Ytfjolephpghafaa.AW
open Go.Proofs
set_option maxRecDepth 100000

def up (r : Int) : Int := if 97 ≤ r ∧ r ≤ 122 then r - 32 else r
def upper (l : List UInt8) : List UInt8 := encs ((rns l).map up)
def i32s (l : List Int) : List PV := l.map (.int .i32)

theorem up_le {r : Int} (h : ¬ (97 ≤ r ∧ r ≤ 122)) : up r = r := by unfold up; rw [if_neg h]
theorem up_b {r : Int} (h : decide (r ≤ 122) = false) : r = up r := (up_le (by simp at h; omega)).symm
theorem up_gt {r : Int} (h : 97 ≤ r ∧ r ≤ 122) : IntKind.i32.wrap (r + -32) = up r := by unfold up; rw [if_pos h, IntKind.wrap_i32]; omega

def outSt (d : List Int) (it : Option AObj) : AV × Store := match d with
  | [] => (.p (.sl .nil 0 []), [it])
  | d :: ds => (.osl 1 (i32s (d :: ds)).length 0 (i32s (d :: ds)).length, [it, some (.buf 1 (i32s (d :: ds)))])

theorem app1 {x : Int} {d : Int} {ds : List Int} : i32s (d :: ds) ++ [.int .i32 x] = i32s (d :: (ds ++ [x])) := by simp [i32s]

theorem upper_c (l : List UInt8) (hl : l.length < 1099511627776) (s : Store) (K : AV → Store → Prop) (h : K (.p (.str (upper l))) s) : Cal Try.prog 25 [.p (.str l)] s K := by
  refine Cal.pure (args := [.str l]) ?_
  refine Cal.intro Try.func25 (by decide +kernel) rfl rfl ?_
  refine LoopX.fam [2, 3, 7] (fun (q : List Int × List UInt8 × Nat) => ([(2, .p (.str [])), (3, (outSt q.1 (some (.iterS q.2.1 q.2.2))).1), (7, .it 0)], (outSt q.1 (some (.iterS q.2.1 q.2.2))).2))
    (fun q => q.1 ++ (rns q.2.1).map up = (rns l).map up) (fun q => q.2.1.length) ([], l, 0) (by simp) (Trim.mk' rfl rfl rfl rfl (by simp)) ?_
  rintro ⟨d, rest, pos⟩ hq
  have hq : d ++ (rns rest).map up = (rns l).map up := hq
  have hdl : d.length ≤ l.length := by
    have h1 := congrArg List.length hq
    have h2 := rns_le l
    simp at h1; omega
  have fin : d ++ (rns rest).map up = (rns l).map up → rest = [] → K (.p (.str (encs d))) s := fun hq he => by
    subst he
    have : d = (rns l).map up := by simpa [rns_nil] using hq
    rw [this]; exact h
  cases d with
  | nil =>
    refine BrL.mk (fun (he : rest = []) => ?_) (fun (hne : rest ≠ []) => ?_)
    · refine Br.f rfl (Ob.mk (.inl rfl) ⟨[], rfl, ?_⟩)
      exact fin hq he
    · refine Br.t rfl ?_
      have h1 := rns_step hne
      have h3 := decode_pos rest
      have h4 : 0 < rest.length := List.length_pos_iff.2 hne
      have next : ∀ x : Int, x = up (decode rest).1 → ([x] : List Int) ++ (rns (rest.drop (decode rest).2)).map up = (rns l).map up := fun x hx => by
        rw [← hq, h1, hx]; simp
      refine (Int.lt_or_le ((decode rest).1 : Int) 97).elim
        (fun h5 => have hx : ((decode rest).1 : Int) = up (decode rest).1 := (up_le (by omega)).symm
          Br.f (by simp; omega) (Br.f (by simp; omega) (Br.f (by simp; omega) (Br.f rfl ?_))))
        (fun h5 => Br.t (by simp; omega) (Br.t (by simp; omega) (Br.t (by simp; omega) (Br.mk
          (fun h6 => have hx := up_gt (r := (decode rest).1) ⟨h5, by simpa using h6⟩; ?_)
          (fun h6 => have hx : ((decode rest).1 : Int) = up (decode rest).1 := up_b h6; ?_)))))
      all_goals
        refine BrL.c (Ob.mk (Nat.le_of_ble_eq_true rfl) ⟨([_], rest.drop (decode rest).2, pos + (decode rest).2), next _ hx, ?_, by simp [outSt], Trim.mk' rfl rfl rfl rfl (by simp [outSt])⟩)
        show (rest.drop (decode rest).2).length < rest.length
        simp; omega
  | cons d ds =>
    refine BrL.mk (fun (he : rest = []) => ?_) (fun (hne : rest ≠ []) => ?_)
    · refine Br.f rfl (Ob.mk rfl (Ob.mk (.inr rfl) ⟨d :: ds, ?_, ?_⟩))
      · show ((i32s (d :: ds)).drop 0).take (i32s (d :: ds)).length = i32s (d :: ds)
        rw [List.drop_zero, List.take_length]
      · exact fin hq he
    · refine Br.t rfl ?_
      have h1 := rns_step hne
      have h3 := decode_pos rest
      have h4 : 0 < rest.length := List.length_pos_iff.2 hne
      have next : ∀ x : Int, x = up (decode rest).1 → (d :: (ds ++ [x]) : List Int) ++ (rns (rest.drop (decode rest).2)).map up = (rns l).map up := fun x hx => by
        rw [← hq, h1, hx]; simp
      refine (Int.lt_or_le ((decode rest).1 : Int) 97).elim
        (fun h5 => have hx : ((decode rest).1 : Int) = up (decode rest).1 := (up_le (by omega)).symm
          Br.f (by simp; omega) (Br.f (by simp; omega) (Br.f (by simp; omega) (Br.f rfl ?_))))
        (fun h5 => Br.t (by simp; omega) (Br.t (by simp; omega) (Br.t (by simp; omega) (Br.mk
          (fun h6 => have hx := up_gt (r := (decode rest).1) ⟨h5, by simpa using h6⟩; ?_)
          (fun h6 => have hx : ((decode rest).1 : Int) = up (decode rest).1 := up_b h6; ?_)))))
      all_goals
        refine Ob.mk ⟨rfl, rfl, rfl, ?_⟩ ?_
        · have hb : Try.prog.types[21].bytes = 4 := rfl
          show ((i32s (d :: ds)).length + 1) * Try.prog.types[21].bytes ≤ 140737488355328
          rw [hb]; simp [i32s] at hdl ⊢; omega
        · refine ⟨(d :: (ds ++ [_]), rest.drop (decode rest).2, pos + (decode rest).2), next _ hx, ?_, by simp [outSt], Trim.mk' ?_ ?_ rfl rfl (by simp [outSt])⟩
          · show (rest.drop (decode rest).2).length < rest.length
            simp; omega
          · show [_, _, _] = [_, _, _]
            simp only [outSt, ← app1]; rfl
          · simp only [outSt, ← app1]; rfl
end Go.Proofs.Ytfjolephpghafaa.AW
