import Derived.Test.YtfjolephpghafaaL4H
namespace Go.Proofs.Ytfjolephpghafaa.AW
open Go.Proofs
set_option maxRecDepth 100000
set_option linter.unusedSimpArgs false

theorem nm_ok (k : Nat) : (Item.tx (nm k)).ok := by
  show (nm k).length < 1099511627776
  unfold nm; split <;> decide
theorem ok6 (k j : Nat) (a b c : Int) : ∀ v, v ∈ [Item.tx (nm k), .i64 a, .tx (nm j), .i64 b, .tx (nm k), .i64 c] → v.ok := by
  intro v hv
  simp only [List.mem_cons, List.not_mem_nil, or_false] at hv
  rcases hv with rfl | rfl | rfl | rfl | rfl | rfl <;> first | exact nm_ok _ | trivial
theorem ok4 (k j : Nat) (b c : Int) : ∀ v, v ∈ [Item.tx (nm j), .i64 b, .tx (nm k), .i64 c] → v.ok := by
  intro v hv
  simp only [List.mem_cons, List.not_mem_nil, or_false] at hv
  rcases hv with rfl | rfl | rfl | rfl <;> first | exact nm_ok _ | trivial

theorem order_c (a b c w : Int) (s : Store) (K : AV → Store → Prop) (h : K (.p (.bool true)) s) : Cal Try.prog 5 [.p (ii a), .p (ii b), .p (ii c), .p (ii w)] s K := by
  refine Cal.pure (args := [ii a, ii b, ii c, ii w]) ?_
  refine Cal.intro Try.func5 (by decide +kernel) rfl rfl ?_
  refine Ob.mk (by decide) (Ob.mk (by decide) ?_)
  have hk := kth w
  have ha := few_in a
  have hb := few_in b
  have hc := few_in c
  rcases hk with hk | hk | hk | hk
  · rw [hk]
    have h3 : right (((dflt.set 0 (few a)).set 1 (few b)).set 0 (few c)).l = true := by simp [right, rightN, C4.l, C4.set, dflt]; omega
    have h2 : right ((dflt.set 1 (few b)).set 0 (few c)).l = true := by simp [right, rightN, C4.l, C4.set, dflt]; omega
    iterate 2 refine ⟨_, ⟨rfl, rfl⟩, ?_⟩
    refine ⟨_, Idx.mk _ (by decide) rfl ⟨rfl, rfl⟩, ?_⟩
    iterate 7 refine ⟨_, ⟨rfl, rfl⟩, ?_⟩
    refine ⟨_, Ob.mk (by decide) ⟨rfl, rfl⟩, ?_⟩
    refine ⟨_, Idx.mk _ (by decide) rfl ⟨rfl, rfl⟩, ?_⟩
    iterate 6 refine ⟨_, ⟨rfl, rfl⟩, ?_⟩
    refine ⟨_, Idx.mk _ (by decide) rfl ⟨rfl, rfl⟩, ?_⟩
    iterate 4 refine ⟨_, ⟨rfl, rfl⟩, ?_⟩
    refine ⟨_, _, ⟨rfl, rfl⟩, rfl, ?_⟩
    refine ⟨_, fun s' => config_v .clip [.tx (nm 0), .i64 (few a), .tx (nm 1), .i64 (few b), .tx (nm 0), .i64 (few c)] (config3 0 1 (by decide) (by decide) a b c h3) (ok6 0 1 _ _ _) _ _ ⟨rfl, rfl⟩, rfl, ?_⟩
    iterate 3 refine ⟨_, ⟨rfl, rfl⟩, ?_⟩
    refine ⟨_, _, ⟨rfl, rfl⟩, rfl, ?_⟩
    refine ⟨_, _, Ob.mk (okst rfl rfl rfl) ⟨rfl, rfl⟩, rfl, ?_⟩
    refine ⟨_, ⟨rfl, rfl⟩, ?_⟩
    refine Chk.mk (by kernel_rfl) ?_
    iterate 3 refine ⟨_, ⟨rfl, rfl⟩, ?_⟩
    refine ⟨_, Ob.mk (by decide) ⟨rfl, rfl⟩, ?_⟩
    refine ⟨_, Idx.mk _ (by decide) rfl ⟨rfl, rfl⟩, ?_⟩
    iterate 6 refine ⟨_, ⟨rfl, rfl⟩, ?_⟩
    refine ⟨_, Idx.mk _ (by decide) rfl ⟨rfl, rfl⟩, ?_⟩
    iterate 4 refine ⟨_, ⟨rfl, rfl⟩, ?_⟩
    refine ⟨_, _, ⟨rfl, rfl⟩, rfl, ?_⟩
    refine ⟨_, fun s' => config_v .clip [.tx (nm 1), .i64 (few b), .tx (nm 0), .i64 (few c)] (config2 0 1 (by decide) (by decide) b c h2) (ok4 0 1 _ _) _ _ ⟨rfl, rfl⟩, rfl, ?_⟩
    iterate 3 refine ⟨_, ⟨rfl, rfl⟩, ?_⟩
    refine ⟨_, _, ⟨rfl, rfl⟩, rfl, ?_⟩
    refine ⟨_, _, Ob.mk (okst rfl rfl rfl) ⟨rfl, rfl⟩, rfl, ?_⟩
    refine ⟨_, ⟨rfl, rfl⟩, ?_⟩
    refine Chk.mk (by kernel_rfl) ?_
    refine config_v .clip [.cf (((dflt.set 0 (few a)).set 1 (few b)).set 0 (few c)).a (((dflt.set 0 (few a)).set 1 (few b)).set 0 (few c)).b (((dflt.set 0 (few a)).set 1 (few b)).set 0 (few c)).c (((dflt.set 0 (few a)).set 1 (few b)).set 0 (few c)).d] (config1 (((dflt.set 0 (few a)).set 1 (few b)).set 0 (few c)) h3) (by simp [Item.ok]) _ _ ?_
    refine Ob.mk (okst rfl rfl rfl) ?_
    iterate 3 refine ⟨_, ⟨rfl, rfl⟩, ?_⟩
    refine Br.t (by simp [C4.set, dflt, few]) ⟨_, ⟨rfl, rfl⟩, ?_⟩
    refine Br.t (by simp [C4.set, dflt, few]) ⟨_, ⟨rfl, rfl⟩, ?_⟩
    refine ⟨_, Br.t (by simp [C4.set, dflt, few]) ⟨rfl, rfl⟩, ?_⟩
    refine ⟨_, ⟨rfl, rfl⟩, ?_⟩
    refine Br.t (by simp [C4.set, dflt, few]) ⟨_, ⟨rfl, rfl⟩, ?_⟩
    refine Br.t (by simp [C4.set, dflt, few]) ⟨_, ⟨rfl, rfl⟩, ?_⟩
    refine ⟨_, Br.t (by simp [C4.set, dflt, few]) ⟨rfl, rfl⟩, ?_⟩
    refine ⟨_, ⟨rfl, rfl⟩, ?_⟩
    refine Br.t (by simp [C4.set, dflt, few]) ⟨_, ⟨rfl, rfl⟩, ?_⟩
    refine Br.t (by simp [C4.set, dflt, few]) ⟨_, ⟨rfl, rfl⟩, ?_⟩
    refine Br.t (by simp [C4.set, dflt, few]) ⟨_, Ob.mk ⟨by kernel_rfl, by kernel_rfl⟩ ⟨rfl, rfl⟩, ?_⟩
    refine ⟨_, Br.t (by simp [C4.set, dflt, few]) ⟨rfl, rfl⟩, ?_⟩
    refine ⟨_, ⟨rfl, rfl⟩, ?_⟩
    refine Br.t (by simp [C4.set, dflt, few]) ⟨_, ⟨rfl, rfl⟩, ?_⟩
    refine Br.t (by simp [C4.set, dflt, few]) ⟨_, ⟨rfl, rfl⟩, ?_⟩
    refine Br.t (by simp [C4.set, dflt, few]) ⟨_, Ob.mk ⟨by kernel_rfl, by kernel_rfl⟩ ⟨rfl, rfl⟩, ?_⟩
    refine ⟨_, Br.t (by simp [C4.set, dflt, few]) ⟨rfl, rfl⟩, ?_⟩
    refine ⟨_, ⟨rfl, rfl⟩, ?_⟩
    refine Br.t (by simp [C4.set, dflt, few]) ⟨_, ⟨rfl, rfl⟩, ?_⟩
    refine Br.t (by simp [C4.set, dflt, few]) ⟨_, ⟨rfl, rfl⟩, ?_⟩
    refine Br.t (by simp [C4.set, dflt, few]) ⟨_, Idx.mk _ (by decide) rfl ⟨rfl, rfl⟩, ?_⟩
    refine Br.t (by simp [C4.set, dflt, few]) ⟨_, ⟨rfl, rfl⟩, ?_⟩
    refine Br.t (by simp [C4.set, dflt, few]) ⟨_, ⟨rfl, rfl⟩, ?_⟩
    refine Br.t (by simp [C4.set, dflt, few]) ⟨_, ⟨rfl, rfl⟩, ?_⟩
    refine ⟨_, Br.t (by simp [C4.set, dflt, few]) ⟨rfl, rfl⟩, ?_⟩
    refine ⟨_, ⟨rfl, rfl⟩, ?_⟩
    refine Br.t (by simp [C4.set, dflt, few]) ⟨_, ⟨rfl, rfl⟩, ?_⟩
    refine Br.t (by simp [C4.set, dflt, few]) ⟨_, ⟨rfl, rfl⟩, ?_⟩
    refine Br.t (by simp [C4.set, dflt, few]) ⟨_, ⟨rfl, rfl⟩, ?_⟩
    refine Br.t (by simp [C4.set, dflt, few]) ⟨_, Ob.mk (by decide) ⟨rfl, rfl⟩, ?_⟩
    refine Br.t (by simp [C4.set, dflt, few]) ⟨_, Idx.mk _ (by decide) rfl ⟨rfl, rfl⟩, ?_⟩
    refine Br.t (by simp [C4.set, dflt, few]) ⟨_, ⟨rfl, rfl⟩, ?_⟩
    refine Br.t (by simp [C4.set, dflt, few]) ⟨_, ⟨rfl, rfl⟩, ?_⟩
    refine Br.t (by simp [C4.set, dflt, few]) ⟨_, ⟨rfl, rfl⟩, ?_⟩
    refine ⟨_, Br.t (by simp [C4.set, dflt, few]) ⟨rfl, rfl⟩, ?_⟩
    refine ⟨_, ⟨rfl, rfl⟩, ?_⟩
    refine Br.t (by simp [C4.set, dflt, few]) ⟨_, ⟨rfl, rfl⟩, ?_⟩
    refine Br.t (by simp [C4.set, dflt, few]) ⟨_, ⟨rfl, rfl⟩, ?_⟩
    refine Br.t (by simp [C4.set, dflt, few]) ⟨_, ⟨rfl, rfl⟩, ?_⟩
    refine Br.t (by simp [C4.set, dflt, few]) ⟨_, Ob.mk (by decide) ⟨rfl, rfl⟩, ?_⟩
    refine Br.t (by simp [C4.set, dflt, few]) ⟨_, Idx.mk _ (by decide) rfl ⟨rfl, rfl⟩, ?_⟩
    refine Br.t (by simp [C4.set, dflt, few]) ⟨_, ⟨rfl, rfl⟩, ?_⟩
    refine Br.t (by simp [C4.set, dflt, few]) ⟨_, ⟨rfl, rfl⟩, ?_⟩
    refine Br.t (by simp [C4.set, dflt, few]) ⟨_, ⟨rfl, rfl⟩, ?_⟩
    refine Br.t (by simp [C4.set, dflt, few]) ⟨_, ⟨rfl, rfl⟩, ?_⟩
    refine Br.t (by simp [C4.set, dflt, few]) ⟨_, Ob.mk (by decide) ⟨rfl, rfl⟩, ?_⟩
    refine Br.t (by simp [C4.set, dflt, few]) ⟨_, Idx.mk _ (by decide) rfl ⟨rfl, rfl⟩, ?_⟩
    refine Br.t (by simp [C4.set, dflt, few]) ⟨_, ⟨rfl, rfl⟩, ?_⟩
    refine Br.t (by simp [C4.set, dflt, few]) ⟨_, ⟨rfl, rfl⟩, ?_⟩
    refine ⟨_, Br.t (by simp [C4.set, dflt, few]) ⟨rfl, rfl⟩, ?_⟩
    refine ⟨_, ⟨rfl, rfl⟩, ?_⟩
    refine Br.t (by simp [C4.set, dflt, few]) ⟨_, ⟨rfl, rfl⟩, ?_⟩
    refine Br.t (by simp [C4.set, dflt, few]) ⟨_, ⟨rfl, rfl⟩, ?_⟩
    refine Br.t (by simp [C4.set, dflt, few]) ⟨_, ⟨rfl, rfl⟩, ?_⟩
    refine Br.t (by simp [C4.set, dflt, few]) ⟨_, Ob.mk (by decide) ⟨rfl, rfl⟩, ?_⟩
    refine Br.t (by simp [C4.set, dflt, few]) ⟨_, Idx.mk _ (by decide) rfl ⟨rfl, rfl⟩, ?_⟩
    refine Br.t (by simp [C4.set, dflt, few]) ⟨_, ⟨rfl, rfl⟩, ?_⟩
    refine Br.t (by simp [C4.set, dflt, few]) ⟨_, ⟨rfl, rfl⟩, ?_⟩
    refine Br.t (by simp [C4.set, dflt, few]) ⟨_, ⟨rfl, rfl⟩, ?_⟩
    refine Br.t (by simp [C4.set, dflt, few]) ⟨_, ⟨rfl, rfl⟩, ?_⟩
    refine Br.t (by simp [C4.set, dflt, few]) ⟨_, Ob.mk (by decide) ⟨rfl, rfl⟩, ?_⟩
    refine Br.t (by simp [C4.set, dflt, few]) ⟨_, Idx.mk _ (by decide) rfl ⟨rfl, rfl⟩, ?_⟩
    refine Br.t (by simp [C4.set, dflt, few]) ⟨_, ⟨rfl, rfl⟩, ?_⟩
    refine Br.t (by simp [C4.set, dflt, few]) ⟨_, ⟨rfl, rfl⟩, ?_⟩
    refine ⟨_, Br.t (by simp [C4.set, dflt, few]) ⟨rfl, rfl⟩, ?_⟩
    refine ⟨_, ⟨rfl, rfl⟩, ?_⟩
    refine Br.t (by simp [C4.set, dflt, few]) ⟨_, fun s' => known_c _ _ ⟨rfl, rfl⟩, rfl, ?_⟩
    refine ⟨_, Br.t (by simp [C4.set, dflt, few]) ⟨rfl, rfl⟩, ?_⟩
    refine ⟨_, ⟨rfl, rfl⟩, ?_⟩
    refine Chk.mk (by kernel_rfl) ?_
    exact h
  · rw [hk]
    have h3 : right (((dflt.set 1 (few a)).set 2 (few b)).set 1 (few c)).l = true := by simp [right, rightN, C4.l, C4.set, dflt]; omega
    have h2 : right ((dflt.set 2 (few b)).set 1 (few c)).l = true := by simp [right, rightN, C4.l, C4.set, dflt]; omega
    iterate 2 refine ⟨_, ⟨rfl, rfl⟩, ?_⟩
    refine ⟨_, Idx.mk _ (by decide) rfl ⟨rfl, rfl⟩, ?_⟩
    iterate 7 refine ⟨_, ⟨rfl, rfl⟩, ?_⟩
    refine ⟨_, Ob.mk (by decide) ⟨rfl, rfl⟩, ?_⟩
    refine ⟨_, Idx.mk _ (by decide) rfl ⟨rfl, rfl⟩, ?_⟩
    iterate 6 refine ⟨_, ⟨rfl, rfl⟩, ?_⟩
    refine ⟨_, Idx.mk _ (by decide) rfl ⟨rfl, rfl⟩, ?_⟩
    iterate 4 refine ⟨_, ⟨rfl, rfl⟩, ?_⟩
    refine ⟨_, _, ⟨rfl, rfl⟩, rfl, ?_⟩
    refine ⟨_, fun s' => config_v .clip [.tx (nm 1), .i64 (few a), .tx (nm 2), .i64 (few b), .tx (nm 1), .i64 (few c)] (config3 1 2 (by decide) (by decide) a b c h3) (ok6 1 2 _ _ _) _ _ ⟨rfl, rfl⟩, rfl, ?_⟩
    iterate 3 refine ⟨_, ⟨rfl, rfl⟩, ?_⟩
    refine ⟨_, _, ⟨rfl, rfl⟩, rfl, ?_⟩
    refine ⟨_, _, Ob.mk (okst rfl rfl rfl) ⟨rfl, rfl⟩, rfl, ?_⟩
    refine ⟨_, ⟨rfl, rfl⟩, ?_⟩
    refine Chk.mk (by kernel_rfl) ?_
    iterate 3 refine ⟨_, ⟨rfl, rfl⟩, ?_⟩
    refine ⟨_, Ob.mk (by decide) ⟨rfl, rfl⟩, ?_⟩
    refine ⟨_, Idx.mk _ (by decide) rfl ⟨rfl, rfl⟩, ?_⟩
    iterate 6 refine ⟨_, ⟨rfl, rfl⟩, ?_⟩
    refine ⟨_, Idx.mk _ (by decide) rfl ⟨rfl, rfl⟩, ?_⟩
    iterate 4 refine ⟨_, ⟨rfl, rfl⟩, ?_⟩
    refine ⟨_, _, ⟨rfl, rfl⟩, rfl, ?_⟩
    refine ⟨_, fun s' => config_v .clip [.tx (nm 2), .i64 (few b), .tx (nm 1), .i64 (few c)] (config2 1 2 (by decide) (by decide) b c h2) (ok4 1 2 _ _) _ _ ⟨rfl, rfl⟩, rfl, ?_⟩
    iterate 3 refine ⟨_, ⟨rfl, rfl⟩, ?_⟩
    refine ⟨_, _, ⟨rfl, rfl⟩, rfl, ?_⟩
    refine ⟨_, _, Ob.mk (okst rfl rfl rfl) ⟨rfl, rfl⟩, rfl, ?_⟩
    refine ⟨_, ⟨rfl, rfl⟩, ?_⟩
    refine Chk.mk (by kernel_rfl) ?_
    refine config_v .clip [.cf (((dflt.set 1 (few a)).set 2 (few b)).set 1 (few c)).a (((dflt.set 1 (few a)).set 2 (few b)).set 1 (few c)).b (((dflt.set 1 (few a)).set 2 (few b)).set 1 (few c)).c (((dflt.set 1 (few a)).set 2 (few b)).set 1 (few c)).d] (config1 (((dflt.set 1 (few a)).set 2 (few b)).set 1 (few c)) h3) (by simp [Item.ok]) _ _ ?_
    refine Ob.mk (okst rfl rfl rfl) ?_
    iterate 3 refine ⟨_, ⟨rfl, rfl⟩, ?_⟩
    refine Br.t (by simp [C4.set, dflt, few]) ⟨_, ⟨rfl, rfl⟩, ?_⟩
    refine Br.t (by simp [C4.set, dflt, few]) ⟨_, ⟨rfl, rfl⟩, ?_⟩
    refine ⟨_, Br.t (by simp [C4.set, dflt, few]) ⟨rfl, rfl⟩, ?_⟩
    refine ⟨_, ⟨rfl, rfl⟩, ?_⟩
    refine Br.t (by simp [C4.set, dflt, few]) ⟨_, ⟨rfl, rfl⟩, ?_⟩
    refine Br.t (by simp [C4.set, dflt, few]) ⟨_, ⟨rfl, rfl⟩, ?_⟩
    refine ⟨_, Br.t (by simp [C4.set, dflt, few]) ⟨rfl, rfl⟩, ?_⟩
    refine ⟨_, ⟨rfl, rfl⟩, ?_⟩
    refine Br.t (by simp [C4.set, dflt, few]) ⟨_, ⟨rfl, rfl⟩, ?_⟩
    refine Br.t (by simp [C4.set, dflt, few]) ⟨_, ⟨rfl, rfl⟩, ?_⟩
    refine Br.t (by simp [C4.set, dflt, few]) ⟨_, Ob.mk ⟨by kernel_rfl, by kernel_rfl⟩ ⟨rfl, rfl⟩, ?_⟩
    refine ⟨_, Br.t (by simp [C4.set, dflt, few]) ⟨rfl, rfl⟩, ?_⟩
    refine ⟨_, ⟨rfl, rfl⟩, ?_⟩
    refine Br.t (by simp [C4.set, dflt, few]) ⟨_, ⟨rfl, rfl⟩, ?_⟩
    refine Br.t (by simp [C4.set, dflt, few]) ⟨_, ⟨rfl, rfl⟩, ?_⟩
    refine Br.t (by simp [C4.set, dflt, few]) ⟨_, Ob.mk ⟨by kernel_rfl, by kernel_rfl⟩ ⟨rfl, rfl⟩, ?_⟩
    refine ⟨_, Br.t (by simp [C4.set, dflt, few]) ⟨rfl, rfl⟩, ?_⟩
    refine ⟨_, ⟨rfl, rfl⟩, ?_⟩
    refine Br.t (by simp [C4.set, dflt, few]) ⟨_, ⟨rfl, rfl⟩, ?_⟩
    refine Br.t (by simp [C4.set, dflt, few]) ⟨_, ⟨rfl, rfl⟩, ?_⟩
    refine Br.t (by simp [C4.set, dflt, few]) ⟨_, Idx.mk _ (by decide) rfl ⟨rfl, rfl⟩, ?_⟩
    refine Br.t (by simp [C4.set, dflt, few]) ⟨_, ⟨rfl, rfl⟩, ?_⟩
    refine Br.t (by simp [C4.set, dflt, few]) ⟨_, ⟨rfl, rfl⟩, ?_⟩
    refine Br.t (by simp [C4.set, dflt, few]) ⟨_, ⟨rfl, rfl⟩, ?_⟩
    refine ⟨_, Br.t (by simp [C4.set, dflt, few]) ⟨rfl, rfl⟩, ?_⟩
    refine ⟨_, ⟨rfl, rfl⟩, ?_⟩
    refine Br.t (by simp [C4.set, dflt, few]) ⟨_, ⟨rfl, rfl⟩, ?_⟩
    refine Br.t (by simp [C4.set, dflt, few]) ⟨_, ⟨rfl, rfl⟩, ?_⟩
    refine Br.t (by simp [C4.set, dflt, few]) ⟨_, ⟨rfl, rfl⟩, ?_⟩
    refine Br.t (by simp [C4.set, dflt, few]) ⟨_, Ob.mk (by decide) ⟨rfl, rfl⟩, ?_⟩
    refine Br.t (by simp [C4.set, dflt, few]) ⟨_, Idx.mk _ (by decide) rfl ⟨rfl, rfl⟩, ?_⟩
    refine Br.t (by simp [C4.set, dflt, few]) ⟨_, ⟨rfl, rfl⟩, ?_⟩
    refine Br.t (by simp [C4.set, dflt, few]) ⟨_, ⟨rfl, rfl⟩, ?_⟩
    refine Br.t (by simp [C4.set, dflt, few]) ⟨_, ⟨rfl, rfl⟩, ?_⟩
    refine ⟨_, Br.t (by simp [C4.set, dflt, few]) ⟨rfl, rfl⟩, ?_⟩
    refine ⟨_, ⟨rfl, rfl⟩, ?_⟩
    refine Br.t (by simp [C4.set, dflt, few]) ⟨_, ⟨rfl, rfl⟩, ?_⟩
    refine Br.t (by simp [C4.set, dflt, few]) ⟨_, ⟨rfl, rfl⟩, ?_⟩
    refine Br.t (by simp [C4.set, dflt, few]) ⟨_, ⟨rfl, rfl⟩, ?_⟩
    refine Br.t (by simp [C4.set, dflt, few]) ⟨_, Ob.mk (by decide) ⟨rfl, rfl⟩, ?_⟩
    refine Br.t (by simp [C4.set, dflt, few]) ⟨_, Idx.mk _ (by decide) rfl ⟨rfl, rfl⟩, ?_⟩
    refine Br.t (by simp [C4.set, dflt, few]) ⟨_, ⟨rfl, rfl⟩, ?_⟩
    refine Br.t (by simp [C4.set, dflt, few]) ⟨_, ⟨rfl, rfl⟩, ?_⟩
    refine Br.t (by simp [C4.set, dflt, few]) ⟨_, ⟨rfl, rfl⟩, ?_⟩
    refine Br.t (by simp [C4.set, dflt, few]) ⟨_, ⟨rfl, rfl⟩, ?_⟩
    refine Br.t (by simp [C4.set, dflt, few]) ⟨_, Ob.mk (by decide) ⟨rfl, rfl⟩, ?_⟩
    refine Br.t (by simp [C4.set, dflt, few]) ⟨_, Idx.mk _ (by decide) rfl ⟨rfl, rfl⟩, ?_⟩
    refine Br.t (by simp [C4.set, dflt, few]) ⟨_, ⟨rfl, rfl⟩, ?_⟩
    refine Br.t (by simp [C4.set, dflt, few]) ⟨_, ⟨rfl, rfl⟩, ?_⟩
    refine ⟨_, Br.t (by simp [C4.set, dflt, few]) ⟨rfl, rfl⟩, ?_⟩
    refine ⟨_, ⟨rfl, rfl⟩, ?_⟩
    refine Br.t (by simp [C4.set, dflt, few]) ⟨_, ⟨rfl, rfl⟩, ?_⟩
    refine Br.t (by simp [C4.set, dflt, few]) ⟨_, ⟨rfl, rfl⟩, ?_⟩
    refine Br.t (by simp [C4.set, dflt, few]) ⟨_, ⟨rfl, rfl⟩, ?_⟩
    refine Br.t (by simp [C4.set, dflt, few]) ⟨_, Ob.mk (by decide) ⟨rfl, rfl⟩, ?_⟩
    refine Br.t (by simp [C4.set, dflt, few]) ⟨_, Idx.mk _ (by decide) rfl ⟨rfl, rfl⟩, ?_⟩
    refine Br.t (by simp [C4.set, dflt, few]) ⟨_, ⟨rfl, rfl⟩, ?_⟩
    refine Br.t (by simp [C4.set, dflt, few]) ⟨_, ⟨rfl, rfl⟩, ?_⟩
    refine Br.t (by simp [C4.set, dflt, few]) ⟨_, ⟨rfl, rfl⟩, ?_⟩
    refine Br.t (by simp [C4.set, dflt, few]) ⟨_, ⟨rfl, rfl⟩, ?_⟩
    refine Br.t (by simp [C4.set, dflt, few]) ⟨_, Ob.mk (by decide) ⟨rfl, rfl⟩, ?_⟩
    refine Br.t (by simp [C4.set, dflt, few]) ⟨_, Idx.mk _ (by decide) rfl ⟨rfl, rfl⟩, ?_⟩
    refine Br.t (by simp [C4.set, dflt, few]) ⟨_, ⟨rfl, rfl⟩, ?_⟩
    refine Br.t (by simp [C4.set, dflt, few]) ⟨_, ⟨rfl, rfl⟩, ?_⟩
    refine ⟨_, Br.t (by simp [C4.set, dflt, few]) ⟨rfl, rfl⟩, ?_⟩
    refine ⟨_, ⟨rfl, rfl⟩, ?_⟩
    refine Br.t (by simp [C4.set, dflt, few]) ⟨_, fun s' => known_c _ _ ⟨rfl, rfl⟩, rfl, ?_⟩
    refine ⟨_, Br.t (by simp [C4.set, dflt, few]) ⟨rfl, rfl⟩, ?_⟩
    refine ⟨_, ⟨rfl, rfl⟩, ?_⟩
    refine Chk.mk (by kernel_rfl) ?_
    exact h
  · rw [hk]
    have h3 : right (((dflt.set 2 (few a)).set 3 (few b)).set 2 (few c)).l = true := by simp [right, rightN, C4.l, C4.set, dflt]; omega
    have h2 : right ((dflt.set 3 (few b)).set 2 (few c)).l = true := by simp [right, rightN, C4.l, C4.set, dflt]; omega
    iterate 2 refine ⟨_, ⟨rfl, rfl⟩, ?_⟩
    refine ⟨_, Idx.mk _ (by decide) rfl ⟨rfl, rfl⟩, ?_⟩
    iterate 7 refine ⟨_, ⟨rfl, rfl⟩, ?_⟩
    refine ⟨_, Ob.mk (by decide) ⟨rfl, rfl⟩, ?_⟩
    refine ⟨_, Idx.mk _ (by decide) rfl ⟨rfl, rfl⟩, ?_⟩
    iterate 6 refine ⟨_, ⟨rfl, rfl⟩, ?_⟩
    refine ⟨_, Idx.mk _ (by decide) rfl ⟨rfl, rfl⟩, ?_⟩
    iterate 4 refine ⟨_, ⟨rfl, rfl⟩, ?_⟩
    refine ⟨_, _, ⟨rfl, rfl⟩, rfl, ?_⟩
    refine ⟨_, fun s' => config_v .clip [.tx (nm 2), .i64 (few a), .tx (nm 3), .i64 (few b), .tx (nm 2), .i64 (few c)] (config3 2 3 (by decide) (by decide) a b c h3) (ok6 2 3 _ _ _) _ _ ⟨rfl, rfl⟩, rfl, ?_⟩
    iterate 3 refine ⟨_, ⟨rfl, rfl⟩, ?_⟩
    refine ⟨_, _, ⟨rfl, rfl⟩, rfl, ?_⟩
    refine ⟨_, _, Ob.mk (okst rfl rfl rfl) ⟨rfl, rfl⟩, rfl, ?_⟩
    refine ⟨_, ⟨rfl, rfl⟩, ?_⟩
    refine Chk.mk (by kernel_rfl) ?_
    iterate 3 refine ⟨_, ⟨rfl, rfl⟩, ?_⟩
    refine ⟨_, Ob.mk (by decide) ⟨rfl, rfl⟩, ?_⟩
    refine ⟨_, Idx.mk _ (by decide) rfl ⟨rfl, rfl⟩, ?_⟩
    iterate 6 refine ⟨_, ⟨rfl, rfl⟩, ?_⟩
    refine ⟨_, Idx.mk _ (by decide) rfl ⟨rfl, rfl⟩, ?_⟩
    iterate 4 refine ⟨_, ⟨rfl, rfl⟩, ?_⟩
    refine ⟨_, _, ⟨rfl, rfl⟩, rfl, ?_⟩
    refine ⟨_, fun s' => config_v .clip [.tx (nm 3), .i64 (few b), .tx (nm 2), .i64 (few c)] (config2 2 3 (by decide) (by decide) b c h2) (ok4 2 3 _ _) _ _ ⟨rfl, rfl⟩, rfl, ?_⟩
    iterate 3 refine ⟨_, ⟨rfl, rfl⟩, ?_⟩
    refine ⟨_, _, ⟨rfl, rfl⟩, rfl, ?_⟩
    refine ⟨_, _, Ob.mk (okst rfl rfl rfl) ⟨rfl, rfl⟩, rfl, ?_⟩
    refine ⟨_, ⟨rfl, rfl⟩, ?_⟩
    refine Chk.mk (by kernel_rfl) ?_
    refine config_v .clip [.cf (((dflt.set 2 (few a)).set 3 (few b)).set 2 (few c)).a (((dflt.set 2 (few a)).set 3 (few b)).set 2 (few c)).b (((dflt.set 2 (few a)).set 3 (few b)).set 2 (few c)).c (((dflt.set 2 (few a)).set 3 (few b)).set 2 (few c)).d] (config1 (((dflt.set 2 (few a)).set 3 (few b)).set 2 (few c)) h3) (by simp [Item.ok]) _ _ ?_
    refine Ob.mk (okst rfl rfl rfl) ?_
    iterate 3 refine ⟨_, ⟨rfl, rfl⟩, ?_⟩
    refine Br.t (by simp [C4.set, dflt, few]) ⟨_, ⟨rfl, rfl⟩, ?_⟩
    refine Br.t (by simp [C4.set, dflt, few]) ⟨_, ⟨rfl, rfl⟩, ?_⟩
    refine ⟨_, Br.t (by simp [C4.set, dflt, few]) ⟨rfl, rfl⟩, ?_⟩
    refine ⟨_, ⟨rfl, rfl⟩, ?_⟩
    refine Br.t (by simp [C4.set, dflt, few]) ⟨_, ⟨rfl, rfl⟩, ?_⟩
    refine Br.t (by simp [C4.set, dflt, few]) ⟨_, ⟨rfl, rfl⟩, ?_⟩
    refine ⟨_, Br.t (by simp [C4.set, dflt, few]) ⟨rfl, rfl⟩, ?_⟩
    refine ⟨_, ⟨rfl, rfl⟩, ?_⟩
    refine Br.t (by simp [C4.set, dflt, few]) ⟨_, ⟨rfl, rfl⟩, ?_⟩
    refine Br.t (by simp [C4.set, dflt, few]) ⟨_, ⟨rfl, rfl⟩, ?_⟩
    refine Br.t (by simp [C4.set, dflt, few]) ⟨_, Ob.mk ⟨by kernel_rfl, by kernel_rfl⟩ ⟨rfl, rfl⟩, ?_⟩
    refine ⟨_, Br.t (by simp [C4.set, dflt, few]) ⟨rfl, rfl⟩, ?_⟩
    refine ⟨_, ⟨rfl, rfl⟩, ?_⟩
    refine Br.t (by simp [C4.set, dflt, few]) ⟨_, ⟨rfl, rfl⟩, ?_⟩
    refine Br.t (by simp [C4.set, dflt, few]) ⟨_, ⟨rfl, rfl⟩, ?_⟩
    refine Br.t (by simp [C4.set, dflt, few]) ⟨_, Ob.mk ⟨by kernel_rfl, by kernel_rfl⟩ ⟨rfl, rfl⟩, ?_⟩
    refine ⟨_, Br.t (by simp [C4.set, dflt, few]) ⟨rfl, rfl⟩, ?_⟩
    refine ⟨_, ⟨rfl, rfl⟩, ?_⟩
    refine Br.t (by simp [C4.set, dflt, few]) ⟨_, ⟨rfl, rfl⟩, ?_⟩
    refine Br.t (by simp [C4.set, dflt, few]) ⟨_, ⟨rfl, rfl⟩, ?_⟩
    refine Br.t (by simp [C4.set, dflt, few]) ⟨_, Idx.mk _ (by decide) rfl ⟨rfl, rfl⟩, ?_⟩
    refine Br.t (by simp [C4.set, dflt, few]) ⟨_, ⟨rfl, rfl⟩, ?_⟩
    refine Br.t (by simp [C4.set, dflt, few]) ⟨_, ⟨rfl, rfl⟩, ?_⟩
    refine Br.t (by simp [C4.set, dflt, few]) ⟨_, ⟨rfl, rfl⟩, ?_⟩
    refine ⟨_, Br.t (by simp [C4.set, dflt, few]) ⟨rfl, rfl⟩, ?_⟩
    refine ⟨_, ⟨rfl, rfl⟩, ?_⟩
    refine Br.t (by simp [C4.set, dflt, few]) ⟨_, ⟨rfl, rfl⟩, ?_⟩
    refine Br.t (by simp [C4.set, dflt, few]) ⟨_, ⟨rfl, rfl⟩, ?_⟩
    refine Br.t (by simp [C4.set, dflt, few]) ⟨_, ⟨rfl, rfl⟩, ?_⟩
    refine Br.t (by simp [C4.set, dflt, few]) ⟨_, Ob.mk (by decide) ⟨rfl, rfl⟩, ?_⟩
    refine Br.t (by simp [C4.set, dflt, few]) ⟨_, Idx.mk _ (by decide) rfl ⟨rfl, rfl⟩, ?_⟩
    refine Br.t (by simp [C4.set, dflt, few]) ⟨_, ⟨rfl, rfl⟩, ?_⟩
    refine Br.t (by simp [C4.set, dflt, few]) ⟨_, ⟨rfl, rfl⟩, ?_⟩
    refine Br.t (by simp [C4.set, dflt, few]) ⟨_, ⟨rfl, rfl⟩, ?_⟩
    refine ⟨_, Br.t (by simp [C4.set, dflt, few]) ⟨rfl, rfl⟩, ?_⟩
    refine ⟨_, ⟨rfl, rfl⟩, ?_⟩
    refine Br.t (by simp [C4.set, dflt, few]) ⟨_, ⟨rfl, rfl⟩, ?_⟩
    refine Br.t (by simp [C4.set, dflt, few]) ⟨_, ⟨rfl, rfl⟩, ?_⟩
    refine Br.t (by simp [C4.set, dflt, few]) ⟨_, ⟨rfl, rfl⟩, ?_⟩
    refine Br.t (by simp [C4.set, dflt, few]) ⟨_, Ob.mk (by decide) ⟨rfl, rfl⟩, ?_⟩
    refine Br.t (by simp [C4.set, dflt, few]) ⟨_, Idx.mk _ (by decide) rfl ⟨rfl, rfl⟩, ?_⟩
    refine Br.t (by simp [C4.set, dflt, few]) ⟨_, ⟨rfl, rfl⟩, ?_⟩
    refine Br.t (by simp [C4.set, dflt, few]) ⟨_, ⟨rfl, rfl⟩, ?_⟩
    refine Br.t (by simp [C4.set, dflt, few]) ⟨_, ⟨rfl, rfl⟩, ?_⟩
    refine Br.t (by simp [C4.set, dflt, few]) ⟨_, ⟨rfl, rfl⟩, ?_⟩
    refine Br.t (by simp [C4.set, dflt, few]) ⟨_, Ob.mk (by decide) ⟨rfl, rfl⟩, ?_⟩
    refine Br.t (by simp [C4.set, dflt, few]) ⟨_, Idx.mk _ (by decide) rfl ⟨rfl, rfl⟩, ?_⟩
    refine Br.t (by simp [C4.set, dflt, few]) ⟨_, ⟨rfl, rfl⟩, ?_⟩
    refine Br.t (by simp [C4.set, dflt, few]) ⟨_, ⟨rfl, rfl⟩, ?_⟩
    refine ⟨_, Br.t (by simp [C4.set, dflt, few]) ⟨rfl, rfl⟩, ?_⟩
    refine ⟨_, ⟨rfl, rfl⟩, ?_⟩
    refine Br.t (by simp [C4.set, dflt, few]) ⟨_, ⟨rfl, rfl⟩, ?_⟩
    refine Br.t (by simp [C4.set, dflt, few]) ⟨_, ⟨rfl, rfl⟩, ?_⟩
    refine Br.t (by simp [C4.set, dflt, few]) ⟨_, ⟨rfl, rfl⟩, ?_⟩
    refine Br.t (by simp [C4.set, dflt, few]) ⟨_, Ob.mk (by decide) ⟨rfl, rfl⟩, ?_⟩
    refine Br.t (by simp [C4.set, dflt, few]) ⟨_, Idx.mk _ (by decide) rfl ⟨rfl, rfl⟩, ?_⟩
    refine Br.t (by simp [C4.set, dflt, few]) ⟨_, ⟨rfl, rfl⟩, ?_⟩
    refine Br.t (by simp [C4.set, dflt, few]) ⟨_, ⟨rfl, rfl⟩, ?_⟩
    refine Br.t (by simp [C4.set, dflt, few]) ⟨_, ⟨rfl, rfl⟩, ?_⟩
    refine Br.t (by simp [C4.set, dflt, few]) ⟨_, ⟨rfl, rfl⟩, ?_⟩
    refine Br.t (by simp [C4.set, dflt, few]) ⟨_, Ob.mk (by decide) ⟨rfl, rfl⟩, ?_⟩
    refine Br.t (by simp [C4.set, dflt, few]) ⟨_, Idx.mk _ (by decide) rfl ⟨rfl, rfl⟩, ?_⟩
    refine Br.t (by simp [C4.set, dflt, few]) ⟨_, ⟨rfl, rfl⟩, ?_⟩
    refine Br.t (by simp [C4.set, dflt, few]) ⟨_, ⟨rfl, rfl⟩, ?_⟩
    refine ⟨_, Br.t (by simp [C4.set, dflt, few]) ⟨rfl, rfl⟩, ?_⟩
    refine ⟨_, ⟨rfl, rfl⟩, ?_⟩
    refine Br.t (by simp [C4.set, dflt, few]) ⟨_, fun s' => known_c _ _ ⟨rfl, rfl⟩, rfl, ?_⟩
    refine ⟨_, Br.t (by simp [C4.set, dflt, few]) ⟨rfl, rfl⟩, ?_⟩
    refine ⟨_, ⟨rfl, rfl⟩, ?_⟩
    refine Chk.mk (by kernel_rfl) ?_
    exact h
  · rw [hk]
    have h3 : right (((dflt.set 3 (few a)).set 0 (few b)).set 3 (few c)).l = true := by simp [right, rightN, C4.l, C4.set, dflt]; omega
    have h2 : right ((dflt.set 0 (few b)).set 3 (few c)).l = true := by simp [right, rightN, C4.l, C4.set, dflt]; omega
    iterate 2 refine ⟨_, ⟨rfl, rfl⟩, ?_⟩
    refine ⟨_, Idx.mk _ (by decide) rfl ⟨rfl, rfl⟩, ?_⟩
    iterate 7 refine ⟨_, ⟨rfl, rfl⟩, ?_⟩
    refine ⟨_, Ob.mk (by decide) ⟨rfl, rfl⟩, ?_⟩
    refine ⟨_, Idx.mk _ (by decide) rfl ⟨rfl, rfl⟩, ?_⟩
    iterate 6 refine ⟨_, ⟨rfl, rfl⟩, ?_⟩
    refine ⟨_, Idx.mk _ (by decide) rfl ⟨rfl, rfl⟩, ?_⟩
    iterate 4 refine ⟨_, ⟨rfl, rfl⟩, ?_⟩
    refine ⟨_, _, ⟨rfl, rfl⟩, rfl, ?_⟩
    refine ⟨_, fun s' => config_v .clip [.tx (nm 3), .i64 (few a), .tx (nm 0), .i64 (few b), .tx (nm 3), .i64 (few c)] (config3 3 0 (by decide) (by decide) a b c h3) (ok6 3 0 _ _ _) _ _ ⟨rfl, rfl⟩, rfl, ?_⟩
    iterate 3 refine ⟨_, ⟨rfl, rfl⟩, ?_⟩
    refine ⟨_, _, ⟨rfl, rfl⟩, rfl, ?_⟩
    refine ⟨_, _, Ob.mk (okst rfl rfl rfl) ⟨rfl, rfl⟩, rfl, ?_⟩
    refine ⟨_, ⟨rfl, rfl⟩, ?_⟩
    refine Chk.mk (by kernel_rfl) ?_
    iterate 3 refine ⟨_, ⟨rfl, rfl⟩, ?_⟩
    refine ⟨_, Ob.mk (by decide) ⟨rfl, rfl⟩, ?_⟩
    refine ⟨_, Idx.mk _ (by decide) rfl ⟨rfl, rfl⟩, ?_⟩
    iterate 6 refine ⟨_, ⟨rfl, rfl⟩, ?_⟩
    refine ⟨_, Idx.mk _ (by decide) rfl ⟨rfl, rfl⟩, ?_⟩
    iterate 4 refine ⟨_, ⟨rfl, rfl⟩, ?_⟩
    refine ⟨_, _, ⟨rfl, rfl⟩, rfl, ?_⟩
    refine ⟨_, fun s' => config_v .clip [.tx (nm 0), .i64 (few b), .tx (nm 3), .i64 (few c)] (config2 3 0 (by decide) (by decide) b c h2) (ok4 3 0 _ _) _ _ ⟨rfl, rfl⟩, rfl, ?_⟩
    iterate 3 refine ⟨_, ⟨rfl, rfl⟩, ?_⟩
    refine ⟨_, _, ⟨rfl, rfl⟩, rfl, ?_⟩
    refine ⟨_, _, Ob.mk (okst rfl rfl rfl) ⟨rfl, rfl⟩, rfl, ?_⟩
    refine ⟨_, ⟨rfl, rfl⟩, ?_⟩
    refine Chk.mk (by kernel_rfl) ?_
    refine config_v .clip [.cf (((dflt.set 3 (few a)).set 0 (few b)).set 3 (few c)).a (((dflt.set 3 (few a)).set 0 (few b)).set 3 (few c)).b (((dflt.set 3 (few a)).set 0 (few b)).set 3 (few c)).c (((dflt.set 3 (few a)).set 0 (few b)).set 3 (few c)).d] (config1 (((dflt.set 3 (few a)).set 0 (few b)).set 3 (few c)) h3) (by simp [Item.ok]) _ _ ?_
    refine Ob.mk (okst rfl rfl rfl) ?_
    iterate 3 refine ⟨_, ⟨rfl, rfl⟩, ?_⟩
    refine Br.t (by simp [C4.set, dflt, few]) ⟨_, ⟨rfl, rfl⟩, ?_⟩
    refine Br.t (by simp [C4.set, dflt, few]) ⟨_, ⟨rfl, rfl⟩, ?_⟩
    refine ⟨_, Br.t (by simp [C4.set, dflt, few]) ⟨rfl, rfl⟩, ?_⟩
    refine ⟨_, ⟨rfl, rfl⟩, ?_⟩
    refine Br.t (by simp [C4.set, dflt, few]) ⟨_, ⟨rfl, rfl⟩, ?_⟩
    refine Br.t (by simp [C4.set, dflt, few]) ⟨_, ⟨rfl, rfl⟩, ?_⟩
    refine ⟨_, Br.t (by simp [C4.set, dflt, few]) ⟨rfl, rfl⟩, ?_⟩
    refine ⟨_, ⟨rfl, rfl⟩, ?_⟩
    refine Br.t (by simp [C4.set, dflt, few]) ⟨_, ⟨rfl, rfl⟩, ?_⟩
    refine Br.t (by simp [C4.set, dflt, few]) ⟨_, ⟨rfl, rfl⟩, ?_⟩
    refine Br.t (by simp [C4.set, dflt, few]) ⟨_, Ob.mk ⟨by kernel_rfl, by kernel_rfl⟩ ⟨rfl, rfl⟩, ?_⟩
    refine ⟨_, Br.t (by simp [C4.set, dflt, few]) ⟨rfl, rfl⟩, ?_⟩
    refine ⟨_, ⟨rfl, rfl⟩, ?_⟩
    refine Br.t (by simp [C4.set, dflt, few]) ⟨_, ⟨rfl, rfl⟩, ?_⟩
    refine Br.t (by simp [C4.set, dflt, few]) ⟨_, ⟨rfl, rfl⟩, ?_⟩
    refine Br.t (by simp [C4.set, dflt, few]) ⟨_, Ob.mk ⟨by kernel_rfl, by kernel_rfl⟩ ⟨rfl, rfl⟩, ?_⟩
    refine ⟨_, Br.t (by simp [C4.set, dflt, few]) ⟨rfl, rfl⟩, ?_⟩
    refine ⟨_, ⟨rfl, rfl⟩, ?_⟩
    refine Br.t (by simp [C4.set, dflt, few]) ⟨_, ⟨rfl, rfl⟩, ?_⟩
    refine Br.t (by simp [C4.set, dflt, few]) ⟨_, ⟨rfl, rfl⟩, ?_⟩
    refine Br.t (by simp [C4.set, dflt, few]) ⟨_, Idx.mk _ (by decide) rfl ⟨rfl, rfl⟩, ?_⟩
    refine Br.t (by simp [C4.set, dflt, few]) ⟨_, ⟨rfl, rfl⟩, ?_⟩
    refine Br.t (by simp [C4.set, dflt, few]) ⟨_, ⟨rfl, rfl⟩, ?_⟩
    refine Br.t (by simp [C4.set, dflt, few]) ⟨_, ⟨rfl, rfl⟩, ?_⟩
    refine ⟨_, Br.t (by simp [C4.set, dflt, few]) ⟨rfl, rfl⟩, ?_⟩
    refine ⟨_, ⟨rfl, rfl⟩, ?_⟩
    refine Br.t (by simp [C4.set, dflt, few]) ⟨_, ⟨rfl, rfl⟩, ?_⟩
    refine Br.t (by simp [C4.set, dflt, few]) ⟨_, ⟨rfl, rfl⟩, ?_⟩
    refine Br.t (by simp [C4.set, dflt, few]) ⟨_, ⟨rfl, rfl⟩, ?_⟩
    refine Br.t (by simp [C4.set, dflt, few]) ⟨_, Ob.mk (by decide) ⟨rfl, rfl⟩, ?_⟩
    refine Br.t (by simp [C4.set, dflt, few]) ⟨_, Idx.mk _ (by decide) rfl ⟨rfl, rfl⟩, ?_⟩
    refine Br.t (by simp [C4.set, dflt, few]) ⟨_, ⟨rfl, rfl⟩, ?_⟩
    refine Br.t (by simp [C4.set, dflt, few]) ⟨_, ⟨rfl, rfl⟩, ?_⟩
    refine Br.t (by simp [C4.set, dflt, few]) ⟨_, ⟨rfl, rfl⟩, ?_⟩
    refine ⟨_, Br.t (by simp [C4.set, dflt, few]) ⟨rfl, rfl⟩, ?_⟩
    refine ⟨_, ⟨rfl, rfl⟩, ?_⟩
    refine Br.t (by simp [C4.set, dflt, few]) ⟨_, ⟨rfl, rfl⟩, ?_⟩
    refine Br.t (by simp [C4.set, dflt, few]) ⟨_, ⟨rfl, rfl⟩, ?_⟩
    refine Br.t (by simp [C4.set, dflt, few]) ⟨_, ⟨rfl, rfl⟩, ?_⟩
    refine Br.t (by simp [C4.set, dflt, few]) ⟨_, Ob.mk (by decide) ⟨rfl, rfl⟩, ?_⟩
    refine Br.t (by simp [C4.set, dflt, few]) ⟨_, Idx.mk _ (by decide) rfl ⟨rfl, rfl⟩, ?_⟩
    refine Br.t (by simp [C4.set, dflt, few]) ⟨_, ⟨rfl, rfl⟩, ?_⟩
    refine Br.t (by simp [C4.set, dflt, few]) ⟨_, ⟨rfl, rfl⟩, ?_⟩
    refine Br.t (by simp [C4.set, dflt, few]) ⟨_, ⟨rfl, rfl⟩, ?_⟩
    refine Br.t (by simp [C4.set, dflt, few]) ⟨_, ⟨rfl, rfl⟩, ?_⟩
    refine Br.t (by simp [C4.set, dflt, few]) ⟨_, Ob.mk (by decide) ⟨rfl, rfl⟩, ?_⟩
    refine Br.t (by simp [C4.set, dflt, few]) ⟨_, Idx.mk _ (by decide) rfl ⟨rfl, rfl⟩, ?_⟩
    refine Br.t (by simp [C4.set, dflt, few]) ⟨_, ⟨rfl, rfl⟩, ?_⟩
    refine Br.t (by simp [C4.set, dflt, few]) ⟨_, ⟨rfl, rfl⟩, ?_⟩
    refine ⟨_, Br.t (by simp [C4.set, dflt, few]) ⟨rfl, rfl⟩, ?_⟩
    refine ⟨_, ⟨rfl, rfl⟩, ?_⟩
    refine Br.t (by simp [C4.set, dflt, few]) ⟨_, ⟨rfl, rfl⟩, ?_⟩
    refine Br.t (by simp [C4.set, dflt, few]) ⟨_, ⟨rfl, rfl⟩, ?_⟩
    refine Br.t (by simp [C4.set, dflt, few]) ⟨_, ⟨rfl, rfl⟩, ?_⟩
    refine Br.t (by simp [C4.set, dflt, few]) ⟨_, Ob.mk (by decide) ⟨rfl, rfl⟩, ?_⟩
    refine Br.t (by simp [C4.set, dflt, few]) ⟨_, Idx.mk _ (by decide) rfl ⟨rfl, rfl⟩, ?_⟩
    refine Br.t (by simp [C4.set, dflt, few]) ⟨_, ⟨rfl, rfl⟩, ?_⟩
    refine Br.t (by simp [C4.set, dflt, few]) ⟨_, ⟨rfl, rfl⟩, ?_⟩
    refine Br.t (by simp [C4.set, dflt, few]) ⟨_, ⟨rfl, rfl⟩, ?_⟩
    refine Br.t (by simp [C4.set, dflt, few]) ⟨_, ⟨rfl, rfl⟩, ?_⟩
    refine Br.t (by simp [C4.set, dflt, few]) ⟨_, Ob.mk (by decide) ⟨rfl, rfl⟩, ?_⟩
    refine Br.t (by simp [C4.set, dflt, few]) ⟨_, Idx.mk _ (by decide) rfl ⟨rfl, rfl⟩, ?_⟩
    refine Br.t (by simp [C4.set, dflt, few]) ⟨_, ⟨rfl, rfl⟩, ?_⟩
    refine Br.t (by simp [C4.set, dflt, few]) ⟨_, ⟨rfl, rfl⟩, ?_⟩
    refine ⟨_, Br.t (by simp [C4.set, dflt, few]) ⟨rfl, rfl⟩, ?_⟩
    refine ⟨_, ⟨rfl, rfl⟩, ?_⟩
    refine Br.t (by simp [C4.set, dflt, few]) ⟨_, fun s' => known_c _ _ ⟨rfl, rfl⟩, rfl, ?_⟩
    refine ⟨_, Br.t (by simp [C4.set, dflt, few]) ⟨rfl, rfl⟩, ?_⟩
    refine ⟨_, ⟨rfl, rfl⟩, ?_⟩
    refine Chk.mk (by kernel_rfl) ?_
    exact h
end Go.Proofs.Ytfjolephpghafaa.AW
