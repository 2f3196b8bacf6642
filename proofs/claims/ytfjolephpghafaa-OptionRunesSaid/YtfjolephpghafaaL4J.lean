import Derived.Test.YtfjolephpghafaaL4E
import Derived.Test.YtfjolephpghafaaAwStr2
namespace Go.Proofs.Ytfjolephpghafaa.AW
open Go.Proofs
set_option maxRecDepth 100000
set_option linter.unusedSimpArgs false

def cut50 (a : List UInt8) : List UInt8 := (a.take (50 : Int).toNat).drop (0 : Int).toNat
theorem cut50_le (a : List UInt8) : (cut50 a).length ≤ 50 := by simp [cut50]; omega

theorem runes_c (a b : List UInt8) (s : Store) (K : AV → Store → Prop) (h : K (.p (.bool true)) s) : Cal Try.prog 6 [.p (.str a), .p (.str b)] s K := by
  refine Cal.pure (args := [.str a, .str b]) ?_
  refine Cal.intro Try.func6 (by decide +kernel) rfl rfl ?_
  have ca := cut50_le a
  have cb := cut50_le b
  by_cases ha : (50 : Int) < a.length
  · refine Br.t (by simpa using ha) ?_
    refine Ob.mk (by simp; omega) ?_
    by_cases hb : (50 : Int) < b.length
    · refine Br.t (by simpa using hb) ?_
      refine Ob.mk (by simp; omega) ?_
      have h3 := rns_le (cut50 a)
      have h4 := rns_le (cut50 b)
      refine int_str (cut50 a) (by omega) _ _ ?_
      refine int_str (cut50 b) (by omega) _ _ ?_
      refine Ob.mk (by show (cut50 a).length + 1 < _; omega) ?_
      refine Ob.mk (by show ((cut50 a) ++ [32]).length + (cut50 b).length < _; simp; omega) ?_
      refine int_str (cut50 a ++ [32] ++ cut50 b) (by simp; omega) _ _ ?_
      rw [rns_blank]
      refine LoopX.fam [0, 1, 4, 5, 6, 7, 8, 9, 10, 11, 46] (fun (q : Nat × List UInt8 × Nat) => ([(0, .p (.str (cut50 a))), (1, .p (.str (cut50 b))), (4, .p (.bool false)), (5, .p (.int .i64 (rns (cut50 a)).length)), (6, .p (.bool true)), (7, .p (.int .i64 (rns (cut50 b)).length)), (8, .p (.bool true)), (9, .p (.int .i64 ((rns (cut50 a)).length + (rns (cut50 b)).length + 1 : Nat))), (10, .p (.bool true)), (11, .p (.int .i64 q.1)), (46, .it 0)], [some (.iterS q.2.1 q.2.2)]))
        (fun q => q.1 + (rns q.2.1).length = (rns (cut50 a)).length) (fun q => q.2.1.length) (0, cut50 a, 0) (by simp) (Trim.mk' rfl rfl rfl rfl (by simp)) ?_
      rintro ⟨n, rest, pos⟩ hq
      have hq : n + (rns rest).length = (rns (cut50 a)).length := hq
      refine BrL.mk (fun (he : rest = []) => ?_) (fun (hne : rest ≠ []) => ?_)
      · refine Br.f rfl ?_
        subst he
        have hn : n = (rns (cut50 a)).length := by simpa [rns_nil] using hq
        subst hn
        refine flag_not 9 (by simp) _ _ _ ?_
        have w1 : IntKind.i64.wrap (IntKind.i64.wrap (((rns (cut50 a)).length : Int) + ((rns (cut50 b)).length : Int)) + 1) = ((rns (cut50 a)).length : Int) + ((rns (cut50 b)).length : Int) + 1 := by rw [IntKind.wrap_i64, IntKind.wrap_i64]; omega
        repeat first | refine Br.t rfl ?_ | refine Br.t (by simp [w1]) ?_
        refine known_c _ _ ?_
        refine Br.t rfl ?_
        exact h
      · refine Br.t rfl ?_
        have g1 := rns_step hne
        have g3 := decode_pos rest
        have g4 : 0 < rest.length := List.length_pos_iff.2 hne
        refine ⟨(n + 1, rest.drop (decode rest).2, pos + (decode rest).2), ?_, ?_, by simp, Trim.mk' ?_ rfl rfl rfl (by simp)⟩
        · show n + 1 + (rns (rest.drop (decode rest).2)).length = _
          rw [g1] at hq; simp at hq; omega
        · show (rest.drop (decode rest).2).length < rest.length
          simp; omega
        · have : IntKind.i64.wrap ((n : Int) + 1) = ((n + 1 : Nat) : Int) := by rw [wrap_i64] <;> omega
          rw [← this]
          rfl
    · refine Br.f (by simpa using hb) ?_
      have h3 := rns_le (cut50 a)
      have h4 := rns_le (b)
      refine int_str (cut50 a) (by omega) _ _ ?_
      refine int_str (b) (by omega) _ _ ?_
      refine Ob.mk (by show (cut50 a).length + 1 < _; omega) ?_
      refine Ob.mk (by show ((cut50 a) ++ [32]).length + (b).length < _; simp; omega) ?_
      refine int_str (cut50 a ++ [32] ++ b) (by simp; omega) _ _ ?_
      rw [rns_blank]
      refine LoopX.fam [0, 1, 4, 5, 6, 7, 8, 9, 10, 11, 46] (fun (q : Nat × List UInt8 × Nat) => ([(0, .p (.str (cut50 a))), (1, .p (.str (b))), (4, .p (.bool false)), (5, .p (.int .i64 (rns (cut50 a)).length)), (6, .p (.bool true)), (7, .p (.int .i64 (rns (b)).length)), (8, .p (.bool true)), (9, .p (.int .i64 ((rns (cut50 a)).length + (rns (b)).length + 1 : Nat))), (10, .p (.bool true)), (11, .p (.int .i64 q.1)), (46, .it 0)], [some (.iterS q.2.1 q.2.2)]))
        (fun q => q.1 + (rns q.2.1).length = (rns (cut50 a)).length) (fun q => q.2.1.length) (0, cut50 a, 0) (by simp) (Trim.mk' rfl rfl rfl rfl (by simp)) ?_
      rintro ⟨n, rest, pos⟩ hq
      have hq : n + (rns rest).length = (rns (cut50 a)).length := hq
      refine BrL.mk (fun (he : rest = []) => ?_) (fun (hne : rest ≠ []) => ?_)
      · refine Br.f rfl ?_
        subst he
        have hn : n = (rns (cut50 a)).length := by simpa [rns_nil] using hq
        subst hn
        refine flag_not 9 (by simp) _ _ _ ?_
        have w1 : IntKind.i64.wrap (IntKind.i64.wrap (((rns (cut50 a)).length : Int) + ((rns (b)).length : Int)) + 1) = ((rns (cut50 a)).length : Int) + ((rns (b)).length : Int) + 1 := by rw [IntKind.wrap_i64, IntKind.wrap_i64]; omega
        repeat first | refine Br.t rfl ?_ | refine Br.t (by simp [w1]) ?_
        refine known_c _ _ ?_
        refine Br.t rfl ?_
        exact h
      · refine Br.t rfl ?_
        have g1 := rns_step hne
        have g3 := decode_pos rest
        have g4 : 0 < rest.length := List.length_pos_iff.2 hne
        refine ⟨(n + 1, rest.drop (decode rest).2, pos + (decode rest).2), ?_, ?_, by simp, Trim.mk' ?_ rfl rfl rfl (by simp)⟩
        · show n + 1 + (rns (rest.drop (decode rest).2)).length = _
          rw [g1] at hq; simp at hq; omega
        · show (rest.drop (decode rest).2).length < rest.length
          simp; omega
        · have : IntKind.i64.wrap ((n : Int) + 1) = ((n + 1 : Nat) : Int) := by rw [wrap_i64] <;> omega
          rw [← this]
          rfl
  · refine Br.f (by simpa using ha) ?_
    by_cases hb : (50 : Int) < b.length
    · refine Br.t (by simpa using hb) ?_
      refine Ob.mk (by simp; omega) ?_
      have h3 := rns_le (a)
      have h4 := rns_le (cut50 b)
      refine int_str (a) (by omega) _ _ ?_
      refine int_str (cut50 b) (by omega) _ _ ?_
      refine Ob.mk (by show (a).length + 1 < _; omega) ?_
      refine Ob.mk (by show ((a) ++ [32]).length + (cut50 b).length < _; simp; omega) ?_
      refine int_str (a ++ [32] ++ cut50 b) (by simp; omega) _ _ ?_
      rw [rns_blank]
      refine LoopX.fam [0, 1, 4, 5, 6, 7, 8, 9, 10, 11, 46] (fun (q : Nat × List UInt8 × Nat) => ([(0, .p (.str (a))), (1, .p (.str (cut50 b))), (4, .p (.bool false)), (5, .p (.int .i64 (rns (a)).length)), (6, .p (.bool true)), (7, .p (.int .i64 (rns (cut50 b)).length)), (8, .p (.bool true)), (9, .p (.int .i64 ((rns (a)).length + (rns (cut50 b)).length + 1 : Nat))), (10, .p (.bool true)), (11, .p (.int .i64 q.1)), (46, .it 0)], [some (.iterS q.2.1 q.2.2)]))
        (fun q => q.1 + (rns q.2.1).length = (rns (a)).length) (fun q => q.2.1.length) (0, a, 0) (by simp) (Trim.mk' rfl rfl rfl rfl (by simp)) ?_
      rintro ⟨n, rest, pos⟩ hq
      have hq : n + (rns rest).length = (rns (a)).length := hq
      refine BrL.mk (fun (he : rest = []) => ?_) (fun (hne : rest ≠ []) => ?_)
      · refine Br.f rfl ?_
        subst he
        have hn : n = (rns (a)).length := by simpa [rns_nil] using hq
        subst hn
        refine flag_not 9 (by simp) _ _ _ ?_
        have w1 : IntKind.i64.wrap (IntKind.i64.wrap (((rns (a)).length : Int) + ((rns (cut50 b)).length : Int)) + 1) = ((rns (a)).length : Int) + ((rns (cut50 b)).length : Int) + 1 := by rw [IntKind.wrap_i64, IntKind.wrap_i64]; omega
        repeat first | refine Br.t rfl ?_ | refine Br.t (by simp [w1]) ?_
        refine known_c _ _ ?_
        refine Br.t rfl ?_
        exact h
      · refine Br.t rfl ?_
        have g1 := rns_step hne
        have g3 := decode_pos rest
        have g4 : 0 < rest.length := List.length_pos_iff.2 hne
        refine ⟨(n + 1, rest.drop (decode rest).2, pos + (decode rest).2), ?_, ?_, by simp, Trim.mk' ?_ rfl rfl rfl (by simp)⟩
        · show n + 1 + (rns (rest.drop (decode rest).2)).length = _
          rw [g1] at hq; simp at hq; omega
        · show (rest.drop (decode rest).2).length < rest.length
          simp; omega
        · have : IntKind.i64.wrap ((n : Int) + 1) = ((n + 1 : Nat) : Int) := by rw [wrap_i64] <;> omega
          rw [← this]
          rfl
    · refine Br.f (by simpa using hb) ?_
      have h3 := rns_le (a)
      have h4 := rns_le (b)
      refine int_str (a) (by omega) _ _ ?_
      refine int_str (b) (by omega) _ _ ?_
      refine Ob.mk (by show (a).length + 1 < _; omega) ?_
      refine Ob.mk (by show ((a) ++ [32]).length + (b).length < _; simp; omega) ?_
      refine int_str (a ++ [32] ++ b) (by simp; omega) _ _ ?_
      rw [rns_blank]
      refine LoopX.fam [0, 1, 4, 5, 6, 7, 8, 9, 10, 11, 46] (fun (q : Nat × List UInt8 × Nat) => ([(0, .p (.str (a))), (1, .p (.str (b))), (4, .p (.bool false)), (5, .p (.int .i64 (rns (a)).length)), (6, .p (.bool true)), (7, .p (.int .i64 (rns (b)).length)), (8, .p (.bool true)), (9, .p (.int .i64 ((rns (a)).length + (rns (b)).length + 1 : Nat))), (10, .p (.bool true)), (11, .p (.int .i64 q.1)), (46, .it 0)], [some (.iterS q.2.1 q.2.2)]))
        (fun q => q.1 + (rns q.2.1).length = (rns (a)).length) (fun q => q.2.1.length) (0, a, 0) (by simp) (Trim.mk' rfl rfl rfl rfl (by simp)) ?_
      rintro ⟨n, rest, pos⟩ hq
      have hq : n + (rns rest).length = (rns (a)).length := hq
      refine BrL.mk (fun (he : rest = []) => ?_) (fun (hne : rest ≠ []) => ?_)
      · refine Br.f rfl ?_
        subst he
        have hn : n = (rns (a)).length := by simpa [rns_nil] using hq
        subst hn
        refine flag_not 9 (by simp) _ _ _ ?_
        have w1 : IntKind.i64.wrap (IntKind.i64.wrap (((rns (a)).length : Int) + ((rns (b)).length : Int)) + 1) = ((rns (a)).length : Int) + ((rns (b)).length : Int) + 1 := by rw [IntKind.wrap_i64, IntKind.wrap_i64]; omega
        repeat first | refine Br.t rfl ?_ | refine Br.t (by simp [w1]) ?_
        refine known_c _ _ ?_
        refine Br.t rfl ?_
        exact h
      · refine Br.t rfl ?_
        have g1 := rns_step hne
        have g3 := decode_pos rest
        have g4 : 0 < rest.length := List.length_pos_iff.2 hne
        refine ⟨(n + 1, rest.drop (decode rest).2, pos + (decode rest).2), ?_, ?_, by simp, Trim.mk' ?_ rfl rfl rfl (by simp)⟩
        · show n + 1 + (rns (rest.drop (decode rest).2)).length = _
          rw [g1] at hq; simp at hq; omega
        · show (rest.drop (decode rest).2).length < rest.length
          simp; omega
        · have : IntKind.i64.wrap ((n : Int) + 1) = ((n + 1 : Nat) : Int) := by rw [wrap_i64] <;> omega
          rw [← this]
          rfl
end Go.Proofs.Ytfjolephpghafaa.AW
