/- A part of the proof: LB/W6, LB/W7. -/
import Derived.Test.YtkokaflanlcojaaDoorP11
open Go Go.Proofs.YtkokaflanlcojaaDoor.AW Go.Proofs
namespace Go.Proofs.YtkokaflanlcojaaDoor.AW
set_option maxRecDepth 100000
set_option linter.unusedSimpArgs false
set_option linter.unusedVariables false

theorem lawEvent_c (e : Ev) (he : EvOk e) (s : Store) (K : AV → Store → Prop) (h : K (.p (.str (evS e))) s) : Cal Tryd.prog 15 [.p (evP e)] s K := by
  refine Cal.pure (args := [evP e]) ?_
  refine Cal.intro Tryd.func15 (by decide +kernel) rfl rfl ?_
  have l1 := fmtS_len e.why
  have l2 := fmtS_len e.base
  have lh := headS_len e
  have nb : ∀ b : Int, I64 b → ∀ (s : Store) (K : AV → Store → Prop), K (.p (.str (fmtS b))) s → Cal Tryd.prog 34 [.p (ii b)] s K := fun b hb s K h => number_c b hb.1 hb.2 s K h
  have lr : (e.recs.map gotP).length = e.recs.length := List.length_map ..
  have ll : (e.lost.map dropP).length = e.lost.length := List.length_map ..
  repeat (first
    | refine ⟨_, ⟨rfl, rfl⟩, ?_⟩
    | refine ⟨_, fun s' => nb e.why he.why s' _ ⟨rfl, rfl⟩, rfl, ?_⟩
    | refine ⟨_, fun s' => nb e.base he.base s' _ ⟨rfl, rfl⟩, rfl, ?_⟩
    | refine ⟨_, Ob.mk (by simp; omega) ⟨rfl, rfl⟩, ?_⟩)
  refine Chk.mk (by kernel_rfl) ?_
  refine Ob.mk (okst rfl rfl rfl) ?_
  by_cases hz : e.recs = [] ∧ e.lost = [] ∧ e.next = 0 ∧ e.stable = 0
  · have c1 : (((e.recs.map gotP).length : Int) == 0) = true := by rw [hz.1]; rfl
    have c2 : (((e.lost.map dropP).length : Int) == 0) = true := by rw [hz.2.1]; rfl
    have c3 : (e.next == 0) = true := by rw [hz.2.2.1]; rfl
    have c4 : (e.stable == 0) = true := by rw [hz.2.2.2]; rfl
    repeat (first | refine Br.t c1 ?_ | refine Br.t (congrArg (· == true) c1) ?_ | refine Br.t c2 ?_ | refine Br.t (congrArg (· == true) c2) ?_ | refine Br.t c3 ?_ | refine Br.t (congrArg (· == true) c3) ?_ | refine Br.t c4 ?_)
    have e1 : evS e = headS e := by unfold evS; rw [if_pos hz]
    rw [e1] at h
    exact h
  have e1 : evS e = headS e ++ e.recs.flatMap gotS ++ e.lost.flatMap dropS ++ [32, 62] ++ fmtS e.next ++ [32] ++ fmtS e.stable := by unfold evS; rw [if_neg hz]
  rw [e1] at h
  have hcase : ((((e.recs.map gotP).length : Int) == 0) = false) ∨ ((((e.recs.map gotP).length : Int) == 0) = true ∧ (((e.lost.map dropP).length : Int) == 0) = false) ∨
      ((((e.recs.map gotP).length : Int) == 0) = true ∧ (((e.lost.map dropP).length : Int) == 0) = true ∧ (e.next == 0) = false) ∨
      ((((e.recs.map gotP).length : Int) == 0) = true ∧ (((e.lost.map dropP).length : Int) == 0) = true ∧ (e.next == 0) = true ∧ (e.stable == 0) = false) := by
    rw [lr, ll]
    rcases hr : e.recs with _ | ⟨g, r⟩
    · rcases hl : e.lost with _ | ⟨d, t⟩
      · by_cases h3 : e.next = 0
        · by_cases h4 : e.stable = 0
          · exact absurd ⟨hr, hl, h3, h4⟩ hz
          · refine .inr (.inr (.inr ⟨rfl, rfl, by simpa using h3, by simpa using h4⟩))
        · exact .inr (.inr (.inl ⟨rfl, rfl, by simpa using h3⟩))
      · exact .inr (.inl ⟨rfl, by simp; omega⟩)
    · exact .inl (by simp; omega)
  rcases hcase with c1 | ⟨c1, c2⟩ | ⟨c1, c2, c3⟩ | ⟨c1, c2, c3, c4⟩
  · repeat (first | refine Br.f c1 ?_ | refine Br.f (congrArg (· == true) c1) ?_ | refine Br.f rfl ?_)
    refine LoopX.fam [3, 4, 42, 43, 44] (fun (j : Nat) => ([(3, .p (.str (headS e ++ (e.recs.take j).flatMap gotS))), (4, .ref 1 0), (42, .p (.sl .shr 4 (e.recs.map gotP))), (43, .p (ii (e.recs.map gotP).length)), (44, .p (ii j))],
        [some (.cells [.p (ii e.why), .p (ii e.base), .p (.sl .shr 4 (e.recs.map gotP)), .p (.sl .shr 3 (e.lost.map dropP)), .p (ii e.next), .p (ii e.stable)]), some (.cells [.p (.sl .shr 4 (e.recs.map gotP)), .p (.sl .shr 3 (e.lost.map dropP)), .p (ii e.next), .p (ii e.stable)])]))
      (fun j => j ≤ e.recs.length) (fun j => e.recs.length - j) 0 (Nat.zero_le _) (Trim.mk' ?_ rfl rfl rfl (Nat.le_refl _)) ?_
    · show _ = [(3, AV.p (.str (headS e ++ []))), _, _, _, _]
      rw [List.append_nil]; rfl
    intro j hj
    have nr := he.recs
    have nrl := he.nr
    have nll := he.nl
    have lt1 := flatB_len gotS 10485800 (e.recs.take j) fun x hx => gotS_len (nr x (List.mem_of_mem_take hx))
    rw [List.length_take, Nat.min_eq_left hj] at lt1
    refine Br.mk (fun hc => ?_) (fun hc => ?_)
    · have hc : j < e.recs.length := by rw [lr] at hc; simpa using hc
      have hg := nr e.recs[j] (List.getElem_mem hc)
      obtain ⟨g, hge⟩ : ∃ g, g = e.recs[j] := ⟨_, rfl⟩
      rw [← hge] at hg
      have ej : IntKind.i64.wrap ((j : Int) + 1) = ((j + 1 : Nat) : Int) := by rw [wrap_i64] <;> omega
      have hnx : headS e ++ (e.recs.take (j + 1)).flatMap gotS = headS e ++ (e.recs.take j).flatMap gotS ++ gotS g := by rw [flat_succ gotS hc, ← hge, List.append_assoc]
      have g1 := fmtS_len g.1
      have g2 := plS_len _ g.2.2.1 rfl
      have g3 := plS_len _ g.2.2.2 rfl
      have g4 := hg.2.1
      have g5 := hg.2.2
      have g6 : (recS g.2.2.1 g.2.2.2).length ≤ 10485770 := by unfold recS; simp only [List.length_append, List.length_cons, List.length_nil]; omega
      refine Idx.mk (gotP g) (by omega) (by rw [hge]; exact got_nth hc) ?_
      refine Ob.mk (okst rfl rfl rfl) ?_
      repeat (first
        | refine ⟨_, ⟨rfl, rfl⟩, ?_⟩
        | refine ⟨_, fun s' => nb g.1 hg.1 s' _ ⟨rfl, rfl⟩, rfl, ?_⟩
        | refine ⟨_, fun s' => lawPlain_c g.2.2.1 (by omega) s' _ ⟨rfl, rfl⟩, rfl, ?_⟩
        | refine ⟨_, fun s' => lawPlain_c g.2.2.2 (by omega) s' _ ⟨rfl, rfl⟩, rfl, ?_⟩
        | refine ⟨_, Ob.mk (by simp only [List.length_append, List.length_cons, List.length_nil]; omega) ⟨rfl, rfl⟩, ?_⟩)
      refine Chk.mk (by kernel_rfl) ?_
      refine ⟨j + 1, hc, by omega, (show (2 : Nat) ≤ 2 by decide), Trim.mk' ?_ rfl rfl rfl (show (2 : Nat) ≤ 3 by decide)⟩
      refine Eq.trans (b := [(3, AV.p (.str (_ ++ _))), _, _, _, (44, AV.p (ii (IntKind.i64.wrap ((j : Int) + 1))))]) rfl ?_
      rw [ej, hnx]; rw [show gotS g = [32] ++ fmtS g.1 ++ [58] ++ plS g.2.2.1 ++ [61] ++ plS g.2.2.2 by unfold gotS recS; simp only [List.append_assoc]]; rfl
    · have hc : j = e.recs.length := by rw [lr] at hc; simp at hc; omega
      rw [hc, List.take_length]
      rw [hc] at lt1
      refine LoopX.fam [3, 4, 68, 69, 70] (fun (k : Nat) => ([(3, .p (.str (headS e ++ e.recs.flatMap gotS ++ (e.lost.take k).flatMap dropS))), (4, .ref 1 0), (68, .p (.sl .shr 3 (e.lost.map dropP))), (69, .p (ii (e.lost.map dropP).length)), (70, .p (ii k))],
          [some (.cells [.p (ii e.why), .p (ii e.base), .p (.sl .shr 4 (e.recs.map gotP)), .p (.sl .shr 3 (e.lost.map dropP)), .p (ii e.next), .p (ii e.stable)]), some (.cells [.p (.sl .shr 4 (e.recs.map gotP)), .p (.sl .shr 3 (e.lost.map dropP)), .p (ii e.next), .p (ii e.stable)])]))
        (fun k => k ≤ e.lost.length) (fun k => e.lost.length - k) 0 (Nat.zero_le _) (Trim.mk' ?_ rfl rfl rfl (Nat.le_refl _)) ?_
      · show _ = [(3, AV.p (.str (headS e ++ e.recs.flatMap gotS ++ []))), _, _, _, _]
        rw [List.append_nil]; rfl
      intro k hk
      have lt2 := flatB_len dropS 80 (e.lost.take k) fun x hx => dropS_len
      rw [List.length_take, Nat.min_eq_left hk] at lt2
      have lt1 := flatB_len gotS 10485800 e.recs fun x hx => gotS_len (nr x hx)
      refine Br.mk (fun hc2 => ?_) (fun hc2 => ?_)
      · have hc2 : k < e.lost.length := by rw [ll] at hc2; simpa using hc2
        have hd := he.lost e.lost[k] (List.getElem_mem hc2)
        obtain ⟨d, hde⟩ : ∃ d, d = e.lost[k] := ⟨_, rfl⟩
        rw [← hde] at hd
        have ek : IntKind.i64.wrap ((k : Int) + 1) = ((k + 1 : Nat) : Int) := by rw [wrap_i64] <;> omega
        have hnx : headS e ++ e.recs.flatMap gotS ++ (e.lost.take (k + 1)).flatMap dropS = headS e ++ e.recs.flatMap gotS ++ (e.lost.take k).flatMap dropS ++ dropS d := by rw [flat_succ dropS hc2, ← hde, List.append_assoc _ _ (dropS d)]
        have d1 := fmtS_len d.1
        have d2 := fmtS_len d.2.1
        have d3 := fmtS_len d.2.2
        refine Idx.mk (dropP d) (by omega) (by rw [hde]; exact drop_nth hc2) ?_
        refine Ob.mk (okst rfl rfl rfl) ?_
        repeat (first
          | refine ⟨_, ⟨rfl, rfl⟩, ?_⟩
          | refine ⟨_, fun s' => nb d.1 hd.1 s' _ ⟨rfl, rfl⟩, rfl, ?_⟩
          | refine ⟨_, fun s' => nb d.2.1 hd.2.1 s' _ ⟨rfl, rfl⟩, rfl, ?_⟩
          | refine ⟨_, fun s' => nb d.2.2 hd.2.2 s' _ ⟨rfl, rfl⟩, rfl, ?_⟩
          | refine ⟨_, Ob.mk (by simp only [List.length_append, List.length_cons, List.length_nil]; omega) ⟨rfl, rfl⟩, ?_⟩)
        refine Chk.mk (by kernel_rfl) ?_
        refine ⟨k + 1, hc2, by omega, (show (2 : Nat) ≤ 2 by decide), Trim.mk' ?_ rfl rfl rfl (show (2 : Nat) ≤ 3 by decide)⟩
        refine Eq.trans (b := [(3, AV.p (.str (_ ++ _))), _, _, _, (70, AV.p (ii (IntKind.i64.wrap ((k : Int) + 1))))]) rfl ?_
        rw [ek, hnx]; rfl
      · have hc2 : k = e.lost.length := by rw [ll] at hc2; simp at hc2; omega
        rw [hc2] at lt2
        have q1 := fmtS_len e.next
        have q2 := fmtS_len e.stable
        have eo : headS e ++ e.recs.flatMap gotS ++ (e.lost.take k).flatMap dropS = headS e ++ e.recs.flatMap gotS ++ e.lost.flatMap dropS := by rw [hc2, List.take_length]
        rw [← eo] at h
        have lt3 : ((e.lost.take k).flatMap dropS).length ≤ e.lost.length * 80 := by rw [hc2, List.take_length] ; exact flatB_len dropS 80 e.lost fun x hx => dropS_len
        repeat (first
          | refine ⟨_, ⟨rfl, rfl⟩, ?_⟩
          | refine ⟨_, fun s' => nb e.next he.next s' _ ⟨rfl, rfl⟩, rfl, ?_⟩
          | refine ⟨_, fun s' => nb e.stable he.stable s' _ ⟨rfl, rfl⟩, rfl, ?_⟩
          | refine ⟨_, Ob.mk (by simp only [List.length_append, List.length_cons, List.length_nil]; omega) ⟨rfl, rfl⟩, ?_⟩)
        refine Chk.mk (by kernel_rfl) ?_
        exact h
  · repeat (first | refine Br.t c1 ?_ | refine Br.t (congrArg (· == true) c1) ?_ | refine Br.f c2 ?_ | refine Br.f (congrArg (· == true) c2) ?_ | refine Br.f rfl ?_)
    refine LoopX.fam [3, 4, 42, 43, 44] (fun (j : Nat) => ([(3, .p (.str (headS e ++ (e.recs.take j).flatMap gotS))), (4, .ref 1 0), (42, .p (.sl .shr 4 (e.recs.map gotP))), (43, .p (ii (e.recs.map gotP).length)), (44, .p (ii j))],
        [some (.cells [.p (ii e.why), .p (ii e.base), .p (.sl .shr 4 (e.recs.map gotP)), .p (.sl .shr 3 (e.lost.map dropP)), .p (ii e.next), .p (ii e.stable)]), some (.cells [.p (.sl .shr 4 (e.recs.map gotP)), .p (.sl .shr 3 (e.lost.map dropP)), .p (ii e.next), .p (ii e.stable)])]))
      (fun j => j ≤ e.recs.length) (fun j => e.recs.length - j) 0 (Nat.zero_le _) (Trim.mk' ?_ rfl rfl rfl (Nat.le_refl _)) ?_
    · show _ = [(3, AV.p (.str (headS e ++ []))), _, _, _, _]
      rw [List.append_nil]; rfl
    intro j hj
    have nr := he.recs
    have nrl := he.nr
    have nll := he.nl
    have lt1 := flatB_len gotS 10485800 (e.recs.take j) fun x hx => gotS_len (nr x (List.mem_of_mem_take hx))
    rw [List.length_take, Nat.min_eq_left hj] at lt1
    refine Br.mk (fun hc => ?_) (fun hc => ?_)
    · have hc : j < e.recs.length := by rw [lr] at hc; simpa using hc
      have hg := nr e.recs[j] (List.getElem_mem hc)
      obtain ⟨g, hge⟩ : ∃ g, g = e.recs[j] := ⟨_, rfl⟩
      rw [← hge] at hg
      have ej : IntKind.i64.wrap ((j : Int) + 1) = ((j + 1 : Nat) : Int) := by rw [wrap_i64] <;> omega
      have hnx : headS e ++ (e.recs.take (j + 1)).flatMap gotS = headS e ++ (e.recs.take j).flatMap gotS ++ gotS g := by rw [flat_succ gotS hc, ← hge, List.append_assoc]
      have g1 := fmtS_len g.1
      have g2 := plS_len _ g.2.2.1 rfl
      have g3 := plS_len _ g.2.2.2 rfl
      have g4 := hg.2.1
      have g5 := hg.2.2
      have g6 : (recS g.2.2.1 g.2.2.2).length ≤ 10485770 := by unfold recS; simp only [List.length_append, List.length_cons, List.length_nil]; omega
      refine Idx.mk (gotP g) (by omega) (by rw [hge]; exact got_nth hc) ?_
      refine Ob.mk (okst rfl rfl rfl) ?_
      repeat (first
        | refine ⟨_, ⟨rfl, rfl⟩, ?_⟩
        | refine ⟨_, fun s' => nb g.1 hg.1 s' _ ⟨rfl, rfl⟩, rfl, ?_⟩
        | refine ⟨_, fun s' => lawPlain_c g.2.2.1 (by omega) s' _ ⟨rfl, rfl⟩, rfl, ?_⟩
        | refine ⟨_, fun s' => lawPlain_c g.2.2.2 (by omega) s' _ ⟨rfl, rfl⟩, rfl, ?_⟩
        | refine ⟨_, Ob.mk (by simp only [List.length_append, List.length_cons, List.length_nil]; omega) ⟨rfl, rfl⟩, ?_⟩)
      refine Chk.mk (by kernel_rfl) ?_
      refine ⟨j + 1, hc, by omega, (show (2 : Nat) ≤ 2 by decide), Trim.mk' ?_ rfl rfl rfl (show (2 : Nat) ≤ 3 by decide)⟩
      refine Eq.trans (b := [(3, AV.p (.str (_ ++ _))), _, _, _, (44, AV.p (ii (IntKind.i64.wrap ((j : Int) + 1))))]) rfl ?_
      rw [ej, hnx]; rw [show gotS g = [32] ++ fmtS g.1 ++ [58] ++ plS g.2.2.1 ++ [61] ++ plS g.2.2.2 by unfold gotS recS; simp only [List.append_assoc]]; rfl
    · have hc : j = e.recs.length := by rw [lr] at hc; simp at hc; omega
      rw [hc, List.take_length]
      rw [hc] at lt1
      refine LoopX.fam [3, 4, 68, 69, 70] (fun (k : Nat) => ([(3, .p (.str (headS e ++ e.recs.flatMap gotS ++ (e.lost.take k).flatMap dropS))), (4, .ref 1 0), (68, .p (.sl .shr 3 (e.lost.map dropP))), (69, .p (ii (e.lost.map dropP).length)), (70, .p (ii k))],
          [some (.cells [.p (ii e.why), .p (ii e.base), .p (.sl .shr 4 (e.recs.map gotP)), .p (.sl .shr 3 (e.lost.map dropP)), .p (ii e.next), .p (ii e.stable)]), some (.cells [.p (.sl .shr 4 (e.recs.map gotP)), .p (.sl .shr 3 (e.lost.map dropP)), .p (ii e.next), .p (ii e.stable)])]))
        (fun k => k ≤ e.lost.length) (fun k => e.lost.length - k) 0 (Nat.zero_le _) (Trim.mk' ?_ rfl rfl rfl (Nat.le_refl _)) ?_
      · show _ = [(3, AV.p (.str (headS e ++ e.recs.flatMap gotS ++ []))), _, _, _, _]
        rw [List.append_nil]; rfl
      intro k hk
      have lt2 := flatB_len dropS 80 (e.lost.take k) fun x hx => dropS_len
      rw [List.length_take, Nat.min_eq_left hk] at lt2
      have lt1 := flatB_len gotS 10485800 e.recs fun x hx => gotS_len (nr x hx)
      refine Br.mk (fun hc2 => ?_) (fun hc2 => ?_)
      · have hc2 : k < e.lost.length := by rw [ll] at hc2; simpa using hc2
        have hd := he.lost e.lost[k] (List.getElem_mem hc2)
        obtain ⟨d, hde⟩ : ∃ d, d = e.lost[k] := ⟨_, rfl⟩
        rw [← hde] at hd
        have ek : IntKind.i64.wrap ((k : Int) + 1) = ((k + 1 : Nat) : Int) := by rw [wrap_i64] <;> omega
        have hnx : headS e ++ e.recs.flatMap gotS ++ (e.lost.take (k + 1)).flatMap dropS = headS e ++ e.recs.flatMap gotS ++ (e.lost.take k).flatMap dropS ++ dropS d := by rw [flat_succ dropS hc2, ← hde, List.append_assoc _ _ (dropS d)]
        have d1 := fmtS_len d.1
        have d2 := fmtS_len d.2.1
        have d3 := fmtS_len d.2.2
        refine Idx.mk (dropP d) (by omega) (by rw [hde]; exact drop_nth hc2) ?_
        refine Ob.mk (okst rfl rfl rfl) ?_
        repeat (first
          | refine ⟨_, ⟨rfl, rfl⟩, ?_⟩
          | refine ⟨_, fun s' => nb d.1 hd.1 s' _ ⟨rfl, rfl⟩, rfl, ?_⟩
          | refine ⟨_, fun s' => nb d.2.1 hd.2.1 s' _ ⟨rfl, rfl⟩, rfl, ?_⟩
          | refine ⟨_, fun s' => nb d.2.2 hd.2.2 s' _ ⟨rfl, rfl⟩, rfl, ?_⟩
          | refine ⟨_, Ob.mk (by simp only [List.length_append, List.length_cons, List.length_nil]; omega) ⟨rfl, rfl⟩, ?_⟩)
        refine Chk.mk (by kernel_rfl) ?_
        refine ⟨k + 1, hc2, by omega, (show (2 : Nat) ≤ 2 by decide), Trim.mk' ?_ rfl rfl rfl (show (2 : Nat) ≤ 3 by decide)⟩
        refine Eq.trans (b := [(3, AV.p (.str (_ ++ _))), _, _, _, (70, AV.p (ii (IntKind.i64.wrap ((k : Int) + 1))))]) rfl ?_
        rw [ek, hnx]; rfl
      · have hc2 : k = e.lost.length := by rw [ll] at hc2; simp at hc2; omega
        rw [hc2] at lt2
        have q1 := fmtS_len e.next
        have q2 := fmtS_len e.stable
        have eo : headS e ++ e.recs.flatMap gotS ++ (e.lost.take k).flatMap dropS = headS e ++ e.recs.flatMap gotS ++ e.lost.flatMap dropS := by rw [hc2, List.take_length]
        rw [← eo] at h
        have lt3 : ((e.lost.take k).flatMap dropS).length ≤ e.lost.length * 80 := by rw [hc2, List.take_length] ; exact flatB_len dropS 80 e.lost fun x hx => dropS_len
        repeat (first
          | refine ⟨_, ⟨rfl, rfl⟩, ?_⟩
          | refine ⟨_, fun s' => nb e.next he.next s' _ ⟨rfl, rfl⟩, rfl, ?_⟩
          | refine ⟨_, fun s' => nb e.stable he.stable s' _ ⟨rfl, rfl⟩, rfl, ?_⟩
          | refine ⟨_, Ob.mk (by simp only [List.length_append, List.length_cons, List.length_nil]; omega) ⟨rfl, rfl⟩, ?_⟩)
        refine Chk.mk (by kernel_rfl) ?_
        exact h
  · repeat (first | refine Br.t c1 ?_ | refine Br.t (congrArg (· == true) c1) ?_ | refine Br.t c2 ?_ | refine Br.t (congrArg (· == true) c2) ?_ | refine Br.f c3 ?_ | refine Br.f (congrArg (· == true) c3) ?_ | refine Br.f rfl ?_)
    refine LoopX.fam [3, 4, 42, 43, 44] (fun (j : Nat) => ([(3, .p (.str (headS e ++ (e.recs.take j).flatMap gotS))), (4, .ref 1 0), (42, .p (.sl .shr 4 (e.recs.map gotP))), (43, .p (ii (e.recs.map gotP).length)), (44, .p (ii j))],
        [some (.cells [.p (ii e.why), .p (ii e.base), .p (.sl .shr 4 (e.recs.map gotP)), .p (.sl .shr 3 (e.lost.map dropP)), .p (ii e.next), .p (ii e.stable)]), some (.cells [.p (.sl .shr 4 (e.recs.map gotP)), .p (.sl .shr 3 (e.lost.map dropP)), .p (ii e.next), .p (ii e.stable)])]))
      (fun j => j ≤ e.recs.length) (fun j => e.recs.length - j) 0 (Nat.zero_le _) (Trim.mk' ?_ rfl rfl rfl (Nat.le_refl _)) ?_
    · show _ = [(3, AV.p (.str (headS e ++ []))), _, _, _, _]
      rw [List.append_nil]; rfl
    intro j hj
    have nr := he.recs
    have nrl := he.nr
    have nll := he.nl
    have lt1 := flatB_len gotS 10485800 (e.recs.take j) fun x hx => gotS_len (nr x (List.mem_of_mem_take hx))
    rw [List.length_take, Nat.min_eq_left hj] at lt1
    refine Br.mk (fun hc => ?_) (fun hc => ?_)
    · have hc : j < e.recs.length := by rw [lr] at hc; simpa using hc
      have hg := nr e.recs[j] (List.getElem_mem hc)
      obtain ⟨g, hge⟩ : ∃ g, g = e.recs[j] := ⟨_, rfl⟩
      rw [← hge] at hg
      have ej : IntKind.i64.wrap ((j : Int) + 1) = ((j + 1 : Nat) : Int) := by rw [wrap_i64] <;> omega
      have hnx : headS e ++ (e.recs.take (j + 1)).flatMap gotS = headS e ++ (e.recs.take j).flatMap gotS ++ gotS g := by rw [flat_succ gotS hc, ← hge, List.append_assoc]
      have g1 := fmtS_len g.1
      have g2 := plS_len _ g.2.2.1 rfl
      have g3 := plS_len _ g.2.2.2 rfl
      have g4 := hg.2.1
      have g5 := hg.2.2
      have g6 : (recS g.2.2.1 g.2.2.2).length ≤ 10485770 := by unfold recS; simp only [List.length_append, List.length_cons, List.length_nil]; omega
      refine Idx.mk (gotP g) (by omega) (by rw [hge]; exact got_nth hc) ?_
      refine Ob.mk (okst rfl rfl rfl) ?_
      repeat (first
        | refine ⟨_, ⟨rfl, rfl⟩, ?_⟩
        | refine ⟨_, fun s' => nb g.1 hg.1 s' _ ⟨rfl, rfl⟩, rfl, ?_⟩
        | refine ⟨_, fun s' => lawPlain_c g.2.2.1 (by omega) s' _ ⟨rfl, rfl⟩, rfl, ?_⟩
        | refine ⟨_, fun s' => lawPlain_c g.2.2.2 (by omega) s' _ ⟨rfl, rfl⟩, rfl, ?_⟩
        | refine ⟨_, Ob.mk (by simp only [List.length_append, List.length_cons, List.length_nil]; omega) ⟨rfl, rfl⟩, ?_⟩)
      refine Chk.mk (by kernel_rfl) ?_
      refine ⟨j + 1, hc, by omega, (show (2 : Nat) ≤ 2 by decide), Trim.mk' ?_ rfl rfl rfl (show (2 : Nat) ≤ 3 by decide)⟩
      refine Eq.trans (b := [(3, AV.p (.str (_ ++ _))), _, _, _, (44, AV.p (ii (IntKind.i64.wrap ((j : Int) + 1))))]) rfl ?_
      rw [ej, hnx]; rw [show gotS g = [32] ++ fmtS g.1 ++ [58] ++ plS g.2.2.1 ++ [61] ++ plS g.2.2.2 by unfold gotS recS; simp only [List.append_assoc]]; rfl
    · have hc : j = e.recs.length := by rw [lr] at hc; simp at hc; omega
      rw [hc, List.take_length]
      rw [hc] at lt1
      refine LoopX.fam [3, 4, 68, 69, 70] (fun (k : Nat) => ([(3, .p (.str (headS e ++ e.recs.flatMap gotS ++ (e.lost.take k).flatMap dropS))), (4, .ref 1 0), (68, .p (.sl .shr 3 (e.lost.map dropP))), (69, .p (ii (e.lost.map dropP).length)), (70, .p (ii k))],
          [some (.cells [.p (ii e.why), .p (ii e.base), .p (.sl .shr 4 (e.recs.map gotP)), .p (.sl .shr 3 (e.lost.map dropP)), .p (ii e.next), .p (ii e.stable)]), some (.cells [.p (.sl .shr 4 (e.recs.map gotP)), .p (.sl .shr 3 (e.lost.map dropP)), .p (ii e.next), .p (ii e.stable)])]))
        (fun k => k ≤ e.lost.length) (fun k => e.lost.length - k) 0 (Nat.zero_le _) (Trim.mk' ?_ rfl rfl rfl (Nat.le_refl _)) ?_
      · show _ = [(3, AV.p (.str (headS e ++ e.recs.flatMap gotS ++ []))), _, _, _, _]
        rw [List.append_nil]; rfl
      intro k hk
      have lt2 := flatB_len dropS 80 (e.lost.take k) fun x hx => dropS_len
      rw [List.length_take, Nat.min_eq_left hk] at lt2
      have lt1 := flatB_len gotS 10485800 e.recs fun x hx => gotS_len (nr x hx)
      refine Br.mk (fun hc2 => ?_) (fun hc2 => ?_)
      · have hc2 : k < e.lost.length := by rw [ll] at hc2; simpa using hc2
        have hd := he.lost e.lost[k] (List.getElem_mem hc2)
        obtain ⟨d, hde⟩ : ∃ d, d = e.lost[k] := ⟨_, rfl⟩
        rw [← hde] at hd
        have ek : IntKind.i64.wrap ((k : Int) + 1) = ((k + 1 : Nat) : Int) := by rw [wrap_i64] <;> omega
        have hnx : headS e ++ e.recs.flatMap gotS ++ (e.lost.take (k + 1)).flatMap dropS = headS e ++ e.recs.flatMap gotS ++ (e.lost.take k).flatMap dropS ++ dropS d := by rw [flat_succ dropS hc2, ← hde, List.append_assoc _ _ (dropS d)]
        have d1 := fmtS_len d.1
        have d2 := fmtS_len d.2.1
        have d3 := fmtS_len d.2.2
        refine Idx.mk (dropP d) (by omega) (by rw [hde]; exact drop_nth hc2) ?_
        refine Ob.mk (okst rfl rfl rfl) ?_
        repeat (first
          | refine ⟨_, ⟨rfl, rfl⟩, ?_⟩
          | refine ⟨_, fun s' => nb d.1 hd.1 s' _ ⟨rfl, rfl⟩, rfl, ?_⟩
          | refine ⟨_, fun s' => nb d.2.1 hd.2.1 s' _ ⟨rfl, rfl⟩, rfl, ?_⟩
          | refine ⟨_, fun s' => nb d.2.2 hd.2.2 s' _ ⟨rfl, rfl⟩, rfl, ?_⟩
          | refine ⟨_, Ob.mk (by simp only [List.length_append, List.length_cons, List.length_nil]; omega) ⟨rfl, rfl⟩, ?_⟩)
        refine Chk.mk (by kernel_rfl) ?_
        refine ⟨k + 1, hc2, by omega, (show (2 : Nat) ≤ 2 by decide), Trim.mk' ?_ rfl rfl rfl (show (2 : Nat) ≤ 3 by decide)⟩
        refine Eq.trans (b := [(3, AV.p (.str (_ ++ _))), _, _, _, (70, AV.p (ii (IntKind.i64.wrap ((k : Int) + 1))))]) rfl ?_
        rw [ek, hnx]; rfl
      · have hc2 : k = e.lost.length := by rw [ll] at hc2; simp at hc2; omega
        rw [hc2] at lt2
        have q1 := fmtS_len e.next
        have q2 := fmtS_len e.stable
        have eo : headS e ++ e.recs.flatMap gotS ++ (e.lost.take k).flatMap dropS = headS e ++ e.recs.flatMap gotS ++ e.lost.flatMap dropS := by rw [hc2, List.take_length]
        rw [← eo] at h
        have lt3 : ((e.lost.take k).flatMap dropS).length ≤ e.lost.length * 80 := by rw [hc2, List.take_length] ; exact flatB_len dropS 80 e.lost fun x hx => dropS_len
        repeat (first
          | refine ⟨_, ⟨rfl, rfl⟩, ?_⟩
          | refine ⟨_, fun s' => nb e.next he.next s' _ ⟨rfl, rfl⟩, rfl, ?_⟩
          | refine ⟨_, fun s' => nb e.stable he.stable s' _ ⟨rfl, rfl⟩, rfl, ?_⟩
          | refine ⟨_, Ob.mk (by simp only [List.length_append, List.length_cons, List.length_nil]; omega) ⟨rfl, rfl⟩, ?_⟩)
        refine Chk.mk (by kernel_rfl) ?_
        exact h
  · repeat (first | refine Br.t c1 ?_ | refine Br.t (congrArg (· == true) c1) ?_ | refine Br.t c2 ?_ | refine Br.t (congrArg (· == true) c2) ?_ | refine Br.t c3 ?_ | refine Br.t (congrArg (· == true) c3) ?_ | refine Br.f c4 ?_ | refine Br.f (congrArg (· == true) c4) ?_)
    refine LoopX.fam [3, 4, 42, 43, 44] (fun (j : Nat) => ([(3, .p (.str (headS e ++ (e.recs.take j).flatMap gotS))), (4, .ref 1 0), (42, .p (.sl .shr 4 (e.recs.map gotP))), (43, .p (ii (e.recs.map gotP).length)), (44, .p (ii j))],
        [some (.cells [.p (ii e.why), .p (ii e.base), .p (.sl .shr 4 (e.recs.map gotP)), .p (.sl .shr 3 (e.lost.map dropP)), .p (ii e.next), .p (ii e.stable)]), some (.cells [.p (.sl .shr 4 (e.recs.map gotP)), .p (.sl .shr 3 (e.lost.map dropP)), .p (ii e.next), .p (ii e.stable)])]))
      (fun j => j ≤ e.recs.length) (fun j => e.recs.length - j) 0 (Nat.zero_le _) (Trim.mk' ?_ rfl rfl rfl (Nat.le_refl _)) ?_
    · show _ = [(3, AV.p (.str (headS e ++ []))), _, _, _, _]
      rw [List.append_nil]; rfl
    intro j hj
    have nr := he.recs
    have nrl := he.nr
    have nll := he.nl
    have lt1 := flatB_len gotS 10485800 (e.recs.take j) fun x hx => gotS_len (nr x (List.mem_of_mem_take hx))
    rw [List.length_take, Nat.min_eq_left hj] at lt1
    refine Br.mk (fun hc => ?_) (fun hc => ?_)
    · have hc : j < e.recs.length := by rw [lr] at hc; simpa using hc
      have hg := nr e.recs[j] (List.getElem_mem hc)
      obtain ⟨g, hge⟩ : ∃ g, g = e.recs[j] := ⟨_, rfl⟩
      rw [← hge] at hg
      have ej : IntKind.i64.wrap ((j : Int) + 1) = ((j + 1 : Nat) : Int) := by rw [wrap_i64] <;> omega
      have hnx : headS e ++ (e.recs.take (j + 1)).flatMap gotS = headS e ++ (e.recs.take j).flatMap gotS ++ gotS g := by rw [flat_succ gotS hc, ← hge, List.append_assoc]
      have g1 := fmtS_len g.1
      have g2 := plS_len _ g.2.2.1 rfl
      have g3 := plS_len _ g.2.2.2 rfl
      have g4 := hg.2.1
      have g5 := hg.2.2
      have g6 : (recS g.2.2.1 g.2.2.2).length ≤ 10485770 := by unfold recS; simp only [List.length_append, List.length_cons, List.length_nil]; omega
      refine Idx.mk (gotP g) (by omega) (by rw [hge]; exact got_nth hc) ?_
      refine Ob.mk (okst rfl rfl rfl) ?_
      repeat (first
        | refine ⟨_, ⟨rfl, rfl⟩, ?_⟩
        | refine ⟨_, fun s' => nb g.1 hg.1 s' _ ⟨rfl, rfl⟩, rfl, ?_⟩
        | refine ⟨_, fun s' => lawPlain_c g.2.2.1 (by omega) s' _ ⟨rfl, rfl⟩, rfl, ?_⟩
        | refine ⟨_, fun s' => lawPlain_c g.2.2.2 (by omega) s' _ ⟨rfl, rfl⟩, rfl, ?_⟩
        | refine ⟨_, Ob.mk (by simp only [List.length_append, List.length_cons, List.length_nil]; omega) ⟨rfl, rfl⟩, ?_⟩)
      refine Chk.mk (by kernel_rfl) ?_
      refine ⟨j + 1, hc, by omega, (show (2 : Nat) ≤ 2 by decide), Trim.mk' ?_ rfl rfl rfl (show (2 : Nat) ≤ 3 by decide)⟩
      refine Eq.trans (b := [(3, AV.p (.str (_ ++ _))), _, _, _, (44, AV.p (ii (IntKind.i64.wrap ((j : Int) + 1))))]) rfl ?_
      rw [ej, hnx]; rw [show gotS g = [32] ++ fmtS g.1 ++ [58] ++ plS g.2.2.1 ++ [61] ++ plS g.2.2.2 by unfold gotS recS; simp only [List.append_assoc]]; rfl
    · have hc : j = e.recs.length := by rw [lr] at hc; simp at hc; omega
      rw [hc, List.take_length]
      rw [hc] at lt1
      refine LoopX.fam [3, 4, 68, 69, 70] (fun (k : Nat) => ([(3, .p (.str (headS e ++ e.recs.flatMap gotS ++ (e.lost.take k).flatMap dropS))), (4, .ref 1 0), (68, .p (.sl .shr 3 (e.lost.map dropP))), (69, .p (ii (e.lost.map dropP).length)), (70, .p (ii k))],
          [some (.cells [.p (ii e.why), .p (ii e.base), .p (.sl .shr 4 (e.recs.map gotP)), .p (.sl .shr 3 (e.lost.map dropP)), .p (ii e.next), .p (ii e.stable)]), some (.cells [.p (.sl .shr 4 (e.recs.map gotP)), .p (.sl .shr 3 (e.lost.map dropP)), .p (ii e.next), .p (ii e.stable)])]))
        (fun k => k ≤ e.lost.length) (fun k => e.lost.length - k) 0 (Nat.zero_le _) (Trim.mk' ?_ rfl rfl rfl (Nat.le_refl _)) ?_
      · show _ = [(3, AV.p (.str (headS e ++ e.recs.flatMap gotS ++ []))), _, _, _, _]
        rw [List.append_nil]; rfl
      intro k hk
      have lt2 := flatB_len dropS 80 (e.lost.take k) fun x hx => dropS_len
      rw [List.length_take, Nat.min_eq_left hk] at lt2
      have lt1 := flatB_len gotS 10485800 e.recs fun x hx => gotS_len (nr x hx)
      refine Br.mk (fun hc2 => ?_) (fun hc2 => ?_)
      · have hc2 : k < e.lost.length := by rw [ll] at hc2; simpa using hc2
        have hd := he.lost e.lost[k] (List.getElem_mem hc2)
        obtain ⟨d, hde⟩ : ∃ d, d = e.lost[k] := ⟨_, rfl⟩
        rw [← hde] at hd
        have ek : IntKind.i64.wrap ((k : Int) + 1) = ((k + 1 : Nat) : Int) := by rw [wrap_i64] <;> omega
        have hnx : headS e ++ e.recs.flatMap gotS ++ (e.lost.take (k + 1)).flatMap dropS = headS e ++ e.recs.flatMap gotS ++ (e.lost.take k).flatMap dropS ++ dropS d := by rw [flat_succ dropS hc2, ← hde, List.append_assoc _ _ (dropS d)]
        have d1 := fmtS_len d.1
        have d2 := fmtS_len d.2.1
        have d3 := fmtS_len d.2.2
        refine Idx.mk (dropP d) (by omega) (by rw [hde]; exact drop_nth hc2) ?_
        refine Ob.mk (okst rfl rfl rfl) ?_
        repeat (first
          | refine ⟨_, ⟨rfl, rfl⟩, ?_⟩
          | refine ⟨_, fun s' => nb d.1 hd.1 s' _ ⟨rfl, rfl⟩, rfl, ?_⟩
          | refine ⟨_, fun s' => nb d.2.1 hd.2.1 s' _ ⟨rfl, rfl⟩, rfl, ?_⟩
          | refine ⟨_, fun s' => nb d.2.2 hd.2.2 s' _ ⟨rfl, rfl⟩, rfl, ?_⟩
          | refine ⟨_, Ob.mk (by simp only [List.length_append, List.length_cons, List.length_nil]; omega) ⟨rfl, rfl⟩, ?_⟩)
        refine Chk.mk (by kernel_rfl) ?_
        refine ⟨k + 1, hc2, by omega, (show (2 : Nat) ≤ 2 by decide), Trim.mk' ?_ rfl rfl rfl (show (2 : Nat) ≤ 3 by decide)⟩
        refine Eq.trans (b := [(3, AV.p (.str (_ ++ _))), _, _, _, (70, AV.p (ii (IntKind.i64.wrap ((k : Int) + 1))))]) rfl ?_
        rw [ek, hnx]; rfl
      · have hc2 : k = e.lost.length := by rw [ll] at hc2; simp at hc2; omega
        rw [hc2] at lt2
        have q1 := fmtS_len e.next
        have q2 := fmtS_len e.stable
        have eo : headS e ++ e.recs.flatMap gotS ++ (e.lost.take k).flatMap dropS = headS e ++ e.recs.flatMap gotS ++ e.lost.flatMap dropS := by rw [hc2, List.take_length]
        rw [← eo] at h
        have lt3 : ((e.lost.take k).flatMap dropS).length ≤ e.lost.length * 80 := by rw [hc2, List.take_length] ; exact flatB_len dropS 80 e.lost fun x hx => dropS_len
        repeat (first
          | refine ⟨_, ⟨rfl, rfl⟩, ?_⟩
          | refine ⟨_, fun s' => nb e.next he.next s' _ ⟨rfl, rfl⟩, rfl, ?_⟩
          | refine ⟨_, fun s' => nb e.stable he.stable s' _ ⟨rfl, rfl⟩, rfl, ?_⟩
          | refine ⟨_, Ob.mk (by simp only [List.length_append, List.length_cons, List.length_nil]; omega) ⟨rfl, rfl⟩, ?_⟩)
        refine Chk.mk (by kernel_rfl) ?_
        exact h

end Go.Proofs.YtkokaflanlcojaaDoor.AW

open Go Go.Proofs.YtkokaflanlcojaaDoor.AW Go.Proofs
namespace Go.Proofs.YtkokaflanlcojaaDoor.AW
set_option maxRecDepth 100000
set_option linter.unusedSimpArgs false
set_option linter.unusedVariables false

theorem writeString_c (bs : List UInt8) (it : Option AObj) (c : UInt8) (cs : List UInt8) (hb : bs.length + cs.length < 70368744177664) (K : AV → Store → Prop) (h : K (.tup [.p (ii (c :: cs).length), .p (.lit .nilIface)]) (bSt (bs ++ c :: cs) it)) : Cal Tryd.prog 40 [.ref 0 0, .p (.str (c :: cs))] (bSt bs it) K := by
  refine Cal.intro Tryd.func40 (by decide +kernel) rfl rfl ?_
  refine copyCheck_c bs it _ ?_
  have hby : Tryd.prog.types[5].bytes = 1 := rfl
  cases bs with
  | nil =>
    refine BrL.c (Ob.mk (by rw [hby]; simp [bytesP] at hb ⊢; omega) ?_)
    refine Ob.mk (okst rfl rfl rfl) ?_
    exact h
  | cons b rs =>
    have e : bytesP (b :: rs) ++ bytesP (c :: cs) = bytesP (b :: (rs ++ c :: cs)) := (bytesP_app (b :: rs) (c :: cs)).symm
    have h2 : K (.tup [.p (ii (c :: cs).length), .p (.lit .nilIface)]) [some (.cells [.ref 0 0, .osl 2 (bytesP (b :: (rs ++ c :: cs))).length 0 (bytesP (b :: (rs ++ c :: cs))).length] (some 65)), it, some (.buf 1 (bytesP (b :: (rs ++ c :: cs))) (some 5))] := h
    rw [← e] at h2
    refine Ob.mk ⟨rfl, rfl, rfl, ?_⟩ ?_
    · show ((bytesP (b :: rs)).length + (bytesP (c :: cs)).length) * Tryd.prog.types[5].bytes ≤ 140737488355328
      rw [hby]; simp [bytesP] at hb ⊢; omega
    refine Ob.mk (okst rfl rfl rfl) ?_
    exact h2

/-- A Builder that holds a text. -/
def bOf (bs : List UInt8) (it : Option AObj) : Store := [some (.cells [.ref 0 0, .osl 2 (bytesP bs).length 0 (bytesP bs).length] (some 65)), it, some (.buf 1 (bytesP bs) (some 5))]
theorem bOf_eq {bs : List UInt8} (h : bs ≠ []) (it : Option AObj) : bSt bs it = bOf bs it := by
  cases bs with
  | nil => exact absurd rfl h
  | cons b r => rfl
theorem writeString_w (bs : List UInt8) (it : Option AObj) (x : List UInt8) (h0 : bs ≠ []) (hx : x ≠ []) (hb : bs.length + x.length < 70368744177664) (K : AV → Store → Prop) (h : K (.tup [.p (ii (x).length), .p (.lit .nilIface)]) (bOf (bs ++ x) it)) : Cal Tryd.prog 40 [.ref 0 0, .p (.str x)] (bOf bs it) K := by
  rw [← bOf_eq h0]
  cases x with
  | nil => exact absurd rfl hx
  | cons c cs =>
    refine writeString_c bs it c cs (by simp at hb; omega) K ?_
    rw [bOf_eq (by simp)]
    exact h
theorem writeString_n (it : Option AObj) (x : List UInt8) (hx : x ≠ []) (hb : x.length < 70368744177664) (K : AV → Store → Prop) (h : K (.tup [.p (ii (x).length), .p (.lit .nilIface)]) (bOf x it)) : Cal Tryd.prog 40 [.ref 0 0, .p (.str x)] [some (.cells [.p (.lit (.pointer none)), .p (.sl .nil 0 [])] (some 65)), it] K := by
  cases x with
  | nil => exact absurd rfl hx
  | cons c cs => exact writeString_c [] it c cs (by simp at hb ⊢; omega) K h
theorem bString_w (bs : List UInt8) (it : Option AObj) (h0 : bs ≠ []) (hb : bs.length < 70368744177664) (K : AV → Store → Prop) (h : ∀ s', K (.p (.str bs)) s') : Cal Tryd.prog 38 [.ref 0 0] (bOf bs it) K := by
  rw [← bOf_eq h0]; exact bString_c bs it hb K h

theorem evS_ne (e : Ev) : evS e ≠ [] := by
  unfold evS headS
  split <;> simp
theorem evS_len {e : Ev} (he : EvOk e) : (evS e).length ≤ 20000000000 := by
  have h1 := headS_len e
  have h2 := flatB_len gotS 10485800 e.recs fun x hx => gotS_len (he.recs x hx)
  have h3 := flatB_len dropS 80 e.lost fun x hx => dropS_len
  have h4 := he.nr
  have h5 := he.nl
  have h6 := fmtS_len e.next
  have h7 := fmtS_len e.stable
  unfold evS
  split
  · omega
  · simp only [List.length_append, List.length_cons, List.length_nil]; omega
def lineS (e : Ev) : List UInt8 := evS e ++ [10]
theorem lineS_len {e : Ev} (he : EvOk e) : (lineS e).length ≤ 20000000001 := by
  have := evS_len he
  unfold lineS
  simp only [List.length_append, List.length_cons, List.length_nil]; omega
theorem lineS_ne (e : Ev) : lineS e ≠ [] := by unfold lineS; simp
theorem ev_nth {l : List Ev} {j : Nat} (h : j < l.length) : (l.map evP)[((j : Int)).toNat]? = some (evP l[j]) := by simp [h]
def evCells (e : Ev) : Option AObj := some (.cells [.p (ii e.why), .p (ii e.base), .p (.sl .shr 4 (e.recs.map gotP)), .p (.sl .shr 3 (e.lost.map dropP)), .p (ii e.next), .p (ii e.stable)])

theorem lines_c (e0 : Ev) (l : List Ev) (hok : ∀ e ∈ e0 :: l, EvOk e) (hl : l.length < 1000) (s : Store) (K : AV → Store → Prop) (h : K (.p (.str ((e0 :: l).flatMap lineS))) s) : Cal Tryd.prog 22 [.p (.sl .shr 6 ((e0 :: l).map evP))] s K := by
  refine Cal.pure (args := [.sl .shr 6 ((e0 :: l).map evP)]) ?_
  refine Cal.intro Tryd.func22 (by decide +kernel) rfl rfl ?_
  obtain ⟨L, hL⟩ : ∃ L, L = e0 :: l := ⟨_, rfl⟩
  have lr : ((e0 :: l).map evP).length = (e0 :: l).length := List.length_map ..
  have hlen : ∀ j, (((e0 :: l).take j).flatMap lineS).length ≤ 1000 * 20000000001 := by
    intro j
    have h1 := flatB_len lineS 20000000001 ((e0 :: l).take j) fun x hx => lineS_len (hok x (List.mem_of_mem_take hx))
    have h2 : ((e0 :: l).take j).length ≤ 1000 := by simp; omega
    exact Nat.le_trans h1 (Nat.mul_le_mul_right _ h2)
  refine LoopX.fam [3, 6, 7, 8] (fun (j : Nat) => ([(3, .ref 0 0), (6, .p (.sl .shr 6 ((e0 :: l).map evP))), (7, .p (ii ((e0 :: l).map evP).length)), (8, .p (ii j))], match j with
      | 0 => [some (.cells [.p (.lit (.pointer none)), .p (.sl .nil 0 [])] (some 65))]
      | k + 1 => bOf (((e0 :: l).take (k + 1)).flatMap lineS) (evCells e0)))
    (fun j => j ≤ (e0 :: l).length) (fun j => (e0 :: l).length - j) 0 (Nat.zero_le _) (Trim.mk' rfl rfl rfl rfl (Nat.le_refl _)) ?_
  intro j hj
  cases j with
  | zero =>
    refine Br.mk (fun hc => ?_) (fun hc => ?_)
    · refine Idx.mk (evP e0) (by omega) rfl ?_
      refine Ob.mk (okst rfl rfl rfl) ?_
      have hok0 := hok e0 (by simp)
      have hll := evS_len hok0
      refine event_c e0 hok0 _ _ ?_
      refine Ob.mk (by simp only [List.length_append, List.length_cons, List.length_nil]; omega) ?_
      refine writeString_n _ (lineS e0) (lineS_ne e0) (by have := lineS_len hok0; omega) _ ?_
      refine ⟨1, by simp, by simp, (show (1 : Nat) ≤ 3 by decide), Trim.mk' rfl ?_ rfl rfl (show (3 : Nat) ≤ 3 by decide)⟩
      show _ = bOf (lineS e0 ++ []) (evCells e0)
      rw [List.append_nil]; rfl
    · simp at hc
  | succ k =>
    have hlk := hlen (k + 1)
    have hne : ((e0 :: l).take (k + 1)).flatMap lineS ≠ [] := by
      rw [List.take_succ_cons, List.flatMap_cons]
      intro q
      exact lineS_ne e0 (List.append_eq_nil_iff.1 q).1
    refine Br.mk (fun hc => ?_) (fun hc => ?_)
    · have hc : k + 1 < (e0 :: l).length := by rw [lr] at hc; simpa using hc
      have hoke := hok (e0 :: l)[k + 1] (List.getElem_mem hc)
      obtain ⟨e, hee⟩ : ∃ e, e = (e0 :: l)[k + 1] := ⟨_, rfl⟩
      rw [← hee] at hoke
      have hll := evS_len hoke
      have hl2 := lineS_len hoke
      have ej : IntKind.i64.wrap (((k + 1 : Nat) : Int) + 1) = ((k + 2 : Nat) : Int) := by rw [wrap_i64] <;> simp at hc ⊢ <;> omega
      have hnx : ((e0 :: l).take (k + 2)).flatMap lineS = ((e0 :: l).take (k + 1)).flatMap lineS ++ lineS e := by rw [flat_succ lineS hc, ← hee]
      refine Idx.mk (evP e) (by omega) (by rw [hee]; exact ev_nth hc) ?_
      refine Ob.mk (okst rfl rfl rfl) ?_
      refine event_c e hoke _ _ ?_
      refine Ob.mk (by simp only [List.length_append, List.length_cons, List.length_nil]; omega) ?_
      refine Cal.frameK [0, 1, 2] (writeString_w (((e0 :: l).take (k + 1)).flatMap lineS) (evCells e0) (lineS e) hne (lineS_ne e) (by omega) _ ?_) rfl rfl rfl
      intro _
      refine ⟨k + 2, by omega, by omega, (show (1 : Nat) ≤ 3 by decide), Trim.mk' ?_ ?_ rfl rfl (show (3 : Nat) ≤ 4 by decide)⟩
      · refine Eq.trans (b := [_, _, _, (8, AV.p (ii (IntKind.i64.wrap (((k + 1 : Nat) : Int) + 1))))]) rfl ?_
        rw [ej]; rfl
      · show _ = bOf (((e0 :: l).take (k + 2)).flatMap lineS) (evCells e0)
        rw [hnx]; rfl
    · have hc : k + 1 = (e0 :: l).length := by rw [lr] at hc; simp at hc hj ⊢; omega
      rw [hc, List.take_length] at hlk
      have et : ((e0 :: l).take (k + 1)) = e0 :: l := by rw [hc, List.take_length]
      have et2 : ((e0 :: l).take (k + 1)).flatMap lineS = (e0 :: l).flatMap lineS := by rw [et]
      rw [← et2] at h hlk
      refine bString_w _ (evCells e0) hne (by omega) _ fun s' => ?_
      exact h
end Go.Proofs.YtkokaflanlcojaaDoor.AW
