import Derived.Test.YtfjolephpghafaaL4W
namespace Go.Proofs.Ytfjolephpghafaa.AW
open Go.Proofs
set_option maxRecDepth 100000

def cst (c : C4) : Option AObj := some (.cells [.p (ii c.a), .p (ii c.b), .p (ii c.c), .p (ii c.d)])
/-- The list that is being made: none yet, or one of the call's own. -/
def lSt (L : List PV) (c : C4) : AV × Store := match L with
  | [] => (.p (.sl .nil 0 []), [cst c])
  | x :: xs => (.osl 1 (x :: xs).length 0 (x :: xs).length, [cst c, some (.buf 1 (x :: xs))])
theorem lSt_len (L : List PV) (c : C4) : 1 ≤ (lSt L c).2.length := by cases L <;> simp [lSt]
theorem lSt_app (L M : List PV) (c d : C4) : (lSt L c).2.length ≤ (lSt (L ++ M) d).2.length := by
  cases L with
  | nil => exact lSt_len _ _
  | cons x xs => exact Nat.le_of_ble_eq_true rfl
def firstC (fs : List C4) (i : Nat) : C4 := (fs.take i).getLast?.getD dflt

theorem config_nil (s : Store) (K : AV → Store → Prop) (h : K (res (config [])) s) : Cal Try.prog 9 [.p (.sl .nil 0 [])] s K := by
  refine Cal.pure (args := [.sl .nil 0 []]) ?_
  refine Cal.intro Try.func9 (by decide +kernel) rfl rfl ?_
  refine default_c _ _ ?_
  refine Ob.mk (okst rfl rfl rfl) ?_
  refine LoopX.fam [0, 2, 3, 4] (fun (_ : Unit) => ([(0, .p (.sl .nil 0 [])), (2, .ref 0 0), (3, .p (ii 0)), (4, .ref 1 0)], [some (.cells [.p (ii 0), .p (ii 0), .p (ii 0), .p (ii 0)]), some (.cells [.p (ii 1024), .p (ii 128), .p (ii 4), .p (ii 1048576)])]))
    (fun _ => True) (fun _ => 0) () trivial (Trim.mk' rfl rfl rfl rfl (by simp)) ?_
  rintro _ _
  refine Br.f rfl ?_
  refine right_c 1024 128 4 1048576 _ _ ?_
  exact Br.f rfl (Ob.mk (okst rfl rfl rfl) h)

theorem config_e {r : C4 × Int} {L : List PV} (k : SK) (items : List Item) (he : L = items.map Item.pv) (hr : config items = r) (hok : ∀ v, v ∈ items → v.ok) (s : Store) (K : AV → Store → Prop) (h : K (res r) s) : Cal Try.prog 9 [.p (.sl k 1 L)] s K := by
  subst he; exact config_v k items hr hok s K h

theorem configs_c (kf kn ks : SK) (zf zn zs : Nat) (fs : List C4) (names : List (List UInt8)) (ns : List Int) (hl : ∀ l, l ∈ names → l.length < 1099511627776)
    (hzf : fs ≠ [] → zf = 4) (hzn : names ≠ [] → zn = 1) (hzs : ns ≠ [] → zs = 1) (s : Store) (K : AV → Store → Prop) (h : K (.p (.bool true)) s) : Cal Try.prog 8 [.p (.sl kf zf (fs.map C4.pv)), .p (.sl kn zn (names.map .str)), .p (.sl ks zs (ns.map ii))] s K := by
  refine Cal.pure (args := [.sl kf zf (fs.map C4.pv), .sl kn zn (names.map .str), .sl ks zs (ns.map ii)]) ?_
  refine Cal.intro Try.func8 (by decide +kernel) rfl rfl ?_
  refine Ob.mk (okst rfl rfl rfl) ?_
  refine LoopX.fam [0, 1, 2, 6, 7, 8, 9, 10] (fun (i : Nat) => ([(0, .p (.sl kf zf (fs.map C4.pv))), (1, .p (.sl kn zn (names.map .str))), (2, .p (.sl ks zs (ns.map ii))), (6, .p (.bool false)), (7, .ref 0 0), (8, .p (.bool true)), (9, (lSt (((fs.take i).map cfI).map Item.pv) (firstC fs i)).1), (10, .p (ii i))], (lSt (((fs.take i).map cfI).map Item.pv) (firstC fs i)).2))
    (fun i => i ≤ fs.length ∧ i ≤ 2) (fun i => 2 - i) 0 (by simp) (Trim.mk' rfl rfl rfl rfl (Nat.le_refl _)) ?_
  rintro i ⟨hi, hi2⟩
  have hlen : (fs.map C4.pv).length = fs.length := by simp
  by_cases hab : i < fs.length ∧ i < 2
  · obtain ⟨ha, hb⟩ := hab
    obtain rfl : zf = 4 := hzf (List.length_pos_iff.1 (by omega))
    · refine Br.t (by simpa using ha) ?_
      repeat refine Br.t (by first | rfl | (simp; omega)) ?_
      have hi01 : i = 0 ∨ i = 1 := by omega
      rcases hi01 with rfl | rfl
      · cases fs with
        | nil => simp at ha
        | cons f r =>
          refine Idx.mk f.pv (by omega) rfl ?_
          refine BrL.c (Ob.mk (Nat.le_of_ble_eq_true rfl) ?_)
          refine Idx.mk f.pv (by omega) rfl ?_
          refine Ob.mk (okst rfl rfl rfl) ?_
          exact ⟨1, ⟨ha, by omega⟩, by omega, Nat.le_of_ble_eq_true rfl, Trim.mk' rfl rfl rfl rfl (Nat.le_refl _)⟩
      · cases fs with
        | nil => simp at ha
        | cons f r =>
          cases r with
          | nil => simp at ha
          | cons g r =>
            refine Idx.mk g.pv (by omega) rfl ?_
            refine Ob.mk ⟨rfl, rfl, rfl, Nat.le_of_ble_eq_true rfl⟩ ?_
            refine Idx.mk g.pv (by omega) rfl ?_
            refine Ob.mk (okst rfl rfl rfl) ?_
            exact ⟨2, ⟨ha, by omega⟩, by omega, Nat.le_of_ble_eq_true rfl, Trim.mk' rfl rfl rfl rfl (Nat.le_refl _)⟩
  · have hF : fs.take i = fs.take 2 := by
      by_cases hb : i < 2
      · rw [List.take_of_length_le (by omega), List.take_of_length_le (by omega)]
      · rw [show i = 2 by omega]
    have hc : firstC fs i = firstC fs 2 := by unfold firstC; rw [hF]
    have hout : ∀ b, b = decide ((i : Int) < (fs.map C4.pv).length) → (b == true) = false → b = false := fun b _ h => by simpa using h
    refine Br.mk (fun ha => ?a) (fun ha => ?b)
    case' a =>
      have ha : i < fs.length := by simpa using ha
      repeat refine Br.t (by first | rfl | (simp; omega)) ?_
      refine Br.f (by simp; omega) ?_
    case' b =>
      repeat refine Br.f (by first | rfl | exact ha | simpa using ha) ?_
    all_goals
      refine LoopX.fam [0, 1, 2, 6, 7, 8, 9, 11] (fun (j : Nat) => ([(0, .p (.sl kf zf (fs.map C4.pv))), (1, .p (.sl kn zn (names.map .str))), (2, .p (.sl ks zs (ns.map ii))), (6, .p (.bool false)), (7, .ref 0 0), (8, .p (.bool (foldP ((names.zip ns).take j) (firstC fs 2, true)).2)), (9, (lSt (((fs.take 2).map cfI ++ itemsP ((names.zip ns).take j)).map Item.pv) (foldP ((names.zip ns).take j) (firstC fs 2, true)).1).1), (11, .p (ii j))], (lSt (((fs.take 2).map cfI ++ itemsP ((names.zip ns).take j)).map Item.pv) (foldP ((names.zip ns).take j) (firstC fs 2, true)).1).2))
        (fun j => j ≤ names.length ∧ j ≤ ns.length ∧ j ≤ 8) (fun j => 8 - j) 0 (by simp) (Trim.mk' (by rw [hF, hc]; simp only [List.take_zero, itemsP, List.flatMap_nil, List.append_nil]; rfl) (by rw [hF, hc]; simp only [List.take_zero, itemsP, List.flatMap_nil, List.append_nil]; exact List.take_length) ?_ ?_ (Nat.le_refl _)) ?_
    iterate 2
      · generalize List.map Item.pv (List.map cfI (List.take i fs)) = L
        generalize firstC fs i = c
        cases L <;> rfl
      · rw [← hF, ← hc]
        simp only [List.take_zero, itemsP, List.flatMap_nil, List.append_nil]
        show List.all (lSt _ _).2 (objUnder (lSt _ _).2.length) = true
        generalize List.map Item.pv (List.map cfI (List.take i fs)) = L
        show List.all (lSt L (firstC fs i)).2 (objUnder (lSt L (firstC fs i)).2.length) = true
        cases L <;> rfl
      rotate_left 1
    all_goals
      rintro j ⟨hj1, hj2, hj8⟩
      by_cases hall : j < names.length ∧ j < ns.length ∧ j < 8
      · obtain ⟨ha, hb, hb8⟩ := hall
        obtain rfl : zn = 1 := hzn (List.length_pos_iff.1 (by omega))
        obtain rfl : zs = 1 := hzs (List.length_pos_iff.1 (by omega))
        repeat refine Br.t (by first | rfl | (simp; omega)) ?_
        have gn : (names.map PV.str)[(j : Int).toNat]? = some (.str names[j]) := by simp [ha]
        have gs : (ns.map ii)[(j : Int).toNat]? = some (ii ns[j]) := by simp [hb]
        have hz : (names.zip ns).take (j + 1) = (names.zip ns).take j ++ [(names[j], ns[j])] := by
          rw [List.take_add_one, List.getElem?_eq_getElem (by simp; omega)]; simp
        have hL1 : ((fs.take 2).map cfI ++ itemsP ((names.zip ns).take (j + 1))).map Item.pv = ((fs.take 2).map cfI ++ itemsP ((names.zip ns).take j)).map Item.pv ++ [Item.pv (.tx names[j]), Item.pv (.i64 ns[j])] := by
          rw [hz]; simp [itemsP, pairI]
        have hf1 : foldP ((names.zip ns).take (j + 1)) (firstC fs 2, true) = stepP (foldP ((names.zip ns).take j) (firstC fs 2, true)) (names[j], ns[j]) := by
          rw [hz]; simp [foldP]
        have hlen3 : (((fs.take 2).map cfI ++ itemsP ((names.zip ns).take j)).map Item.pv).length ≤ 18 := by
          have : ∀ l : List (List UInt8 × Int), (itemsP l).length = 2 * l.length := by
            intro l
            induction l with
            | nil => rfl
            | cons x r ih => show (pairI x ++ itemsP r).length = _; rw [List.length_append, ih]; simp [pairI]; omega
          simp [this]; omega
        generalize hq : foldP (List.take j (names.zip ns)) (firstC fs 2, true) = q at hf1
        obtain ⟨c, ok⟩ := q
        cases hL : List.map Item.pv (List.map cfI (List.take 2 fs) ++ itemsP (List.take j (names.zip ns))) with
        | nil =>
          iterate 3 refine ⟨_, ⟨rfl, rfl⟩, ?_⟩
          refine ⟨_, Idx.mk _ (by omega) gn ⟨rfl, rfl⟩, ?_⟩
          iterate 4 refine ⟨_, ⟨rfl, rfl⟩, ?_⟩
          refine ⟨_, Idx.mk _ (by omega) gs ⟨rfl, rfl⟩, ?_⟩
          iterate 2 refine ⟨_, ⟨rfl, rfl⟩, ?_⟩
          refine ⟨_, _, ⟨rfl, rfl⟩, rfl, ?_⟩
          refine ⟨_, _, BrL.c (Ob.mk (Nat.le_of_ble_eq_true rfl) ⟨rfl, rfl⟩), rfl, ?_⟩
          refine ⟨_, ⟨rfl, rfl⟩, ?_⟩
          refine Chk.mk (by kernel_rfl) ?_
          iterate 3 refine ⟨_, ⟨rfl, rfl⟩, ?_⟩
          refine ⟨_, Idx.mk _ (by omega) gn ⟨rfl, rfl⟩, ?_⟩
          iterate 3 refine ⟨_, ⟨rfl, rfl⟩, ?_⟩
          refine ⟨_, Idx.mk _ (by omega) gs ⟨rfl, rfl⟩, ?_⟩
          iterate 1 refine ⟨_, ⟨rfl, rfl⟩, ?_⟩
          refine ⟨_, fun s' => set_c c names[j] (hl _ (List.getElem_mem ha)) ns[j] _ _ ⟨rfl, rfl⟩, rfl, ?_⟩
          iterate 3 refine ⟨_, ⟨rfl, rfl⟩, ?_⟩
          refine ⟨_, _, ⟨rfl, rfl⟩, rfl, ?_⟩
          refine ⟨_, _, Ob.mk (okst rfl rfl rfl) ⟨rfl, rfl⟩, rfl, ?_⟩
          refine ⟨_, ⟨rfl, rfl⟩, ?_⟩
          refine Chk.mk (by kernel_rfl) ?_
          rw [hL] at hL1
          cases ok with
          | true =>
            repeat refine Br.t rfl ?_
            refine Ob.mk (okst rfl rfl rfl) ?_
            refine ⟨j + 1, ⟨by omega, by omega, by omega⟩, by omega, ?_, Trim.mk' ?_ ?_ ?_ ?_ ?_⟩
            · show (lSt _ _).2.length ≤ (lSt _ _).2.length
              rw [hF, List.map_append]; exact lSt_app _ _ _ _
            · rw [hL1, hf1, ← wrap_succ (by omega)]; rfl
            · rw [hL1, hf1]; rfl
            · rw [hL1, hf1]; rfl
            · rw [hL1, hf1]; rfl
            · rw [hL1, hf1]; exact Nat.le_of_ble_eq_true rfl
          | false =>
            repeat refine Br.f rfl ?_
            refine Ob.mk (okst rfl rfl rfl) ?_
            refine ⟨j + 1, ⟨by omega, by omega, by omega⟩, by omega, ?_, Trim.mk' ?_ ?_ ?_ ?_ ?_⟩
            · show (lSt _ _).2.length ≤ (lSt _ _).2.length
              rw [hF, List.map_append]; exact lSt_app _ _ _ _
            · rw [hL1, hf1, ← wrap_succ (by omega)]; rfl
            · rw [hL1, hf1]; rfl
            · rw [hL1, hf1]; rfl
            · rw [hL1, hf1]; rfl
            · rw [hL1, hf1]; exact Nat.le_of_ble_eq_true rfl
        | cons x xs =>
          have hroom : ((x :: xs).length + 2) * Try.prog.types[20].bytes ≤ 140737488355328 := by
            have hby : Try.prog.types[20].bytes = 16 := rfl
            rw [hL] at hlen3
            rw [hby]; omega
          iterate 3 refine ⟨_, ⟨rfl, rfl⟩, ?_⟩
          refine ⟨_, Idx.mk _ (by omega) gn ⟨rfl, rfl⟩, ?_⟩
          iterate 4 refine ⟨_, ⟨rfl, rfl⟩, ?_⟩
          refine ⟨_, Idx.mk _ (by omega) gs ⟨rfl, rfl⟩, ?_⟩
          iterate 2 refine ⟨_, ⟨rfl, rfl⟩, ?_⟩
          refine ⟨_, _, ⟨rfl, rfl⟩, rfl, ?_⟩
          refine ⟨_, _, Ob.mk ⟨rfl, rfl, rfl, hroom⟩ ⟨rfl, rfl⟩, rfl, ?_⟩
          refine ⟨_, ⟨rfl, rfl⟩, ?_⟩
          refine Chk.mk (by kernel_rfl) ?_
          iterate 3 refine ⟨_, ⟨rfl, rfl⟩, ?_⟩
          refine ⟨_, Idx.mk _ (by omega) gn ⟨rfl, rfl⟩, ?_⟩
          iterate 3 refine ⟨_, ⟨rfl, rfl⟩, ?_⟩
          refine ⟨_, Idx.mk _ (by omega) gs ⟨rfl, rfl⟩, ?_⟩
          iterate 1 refine ⟨_, ⟨rfl, rfl⟩, ?_⟩
          refine ⟨_, fun s' => set_c c names[j] (hl _ (List.getElem_mem ha)) ns[j] _ _ ⟨rfl, rfl⟩, rfl, ?_⟩
          iterate 3 refine ⟨_, ⟨rfl, rfl⟩, ?_⟩
          refine ⟨_, _, ⟨rfl, rfl⟩, rfl, ?_⟩
          refine ⟨_, _, Ob.mk (okst rfl rfl rfl) ⟨rfl, rfl⟩, rfl, ?_⟩
          refine ⟨_, ⟨rfl, rfl⟩, ?_⟩
          refine Chk.mk (by kernel_rfl) ?_
          rw [hL] at hL1
          cases ok with
          | true =>
            repeat refine Br.t rfl ?_
            refine Ob.mk (okst rfl rfl rfl) ?_
            refine ⟨j + 1, ⟨by omega, by omega, by omega⟩, by omega, ?_, Trim.mk' ?_ ?_ ?_ ?_ ?_⟩
            · show (lSt _ _).2.length ≤ (lSt _ _).2.length
              rw [hF, List.map_append]; exact lSt_app _ _ _ _
            · rw [hL1, hf1, ← wrap_succ (by omega)]; rfl
            · rw [hL1, hf1]; rfl
            · rw [hL1, hf1]; rfl
            · rw [hL1, hf1]; rfl
            · rw [hL1, hf1]; exact Nat.le_of_ble_eq_true rfl
          | false =>
            repeat refine Br.f rfl ?_
            refine Ob.mk (okst rfl rfl rfl) ?_
            refine ⟨j + 1, ⟨by omega, by omega, by omega⟩, by omega, ?_, Trim.mk' ?_ ?_ ?_ ?_ ?_⟩
            · show (lSt _ _).2.length ≤ (lSt _ _).2.length
              rw [hF, List.map_append]; exact lSt_app _ _ _ _
            · rw [hL1, hf1, ← wrap_succ (by omega)]; rfl
            · rw [hL1, hf1]; rfl
            · rw [hL1, hf1]; rfl
            · rw [hL1, hf1]; rfl
            · rw [hL1, hf1]; exact Nat.le_of_ble_eq_true rfl
      · generalize hq : foldP (List.take j (names.zip ns)) (firstC fs 2, true) = q
        have hw : config ((fs.take 2).map cfI ++ itemsP ((names.zip ns).take j)) = wanted q.1 q.2 := by
          rw [← hq]; exact config_wanted _ _
        obtain ⟨c, ok⟩ := q
        have hok : ∀ v, v ∈ (fs.take 2).map cfI ++ itemsP ((names.zip ns).take j) → v.ok := by
          intro v hv
          simp only [List.mem_append, List.mem_map, itemsP, List.mem_flatMap] at hv
          rcases hv with ⟨f, _, rfl⟩ | ⟨p, hp, hv⟩
          · trivial
          · simp only [pairI, List.mem_cons, List.not_mem_nil, or_false] at hv
            rcases hv with rfl | rfl
            · exact hl _ (List.of_mem_zip (List.mem_of_mem_take hp)).1
            · trivial
        by_cases ha : j < names.length
        case' pos =>
          by_cases hb : j < ns.length
          case' pos =>
            have hc8 : ¬ j < 8 := fun h8 => hall ⟨ha, hb, h8⟩
        all_goals
          repeat first | refine Br.t (by first | rfl | (simp; omega)) ?_ | refine Br.f (by first | rfl | (simp; omega)) ?_
          cases hL : List.map Item.pv (List.map cfI (List.take 2 fs) ++ itemsP (List.take j (names.zip ns))) with
          | nil =>
            have hnil : (fs.take 2).map cfI ++ itemsP ((names.zip ns).take j) = [] := List.map_eq_nil_iff.1 hL
            rw [hnil] at hw
            refine config_nil _ _ ?_
            rw [hw]
            refine Ob.mk (okst rfl rfl rfl) ?_
            cases ok with
            | false =>
              repeat refine Br.t rfl ?_
              refine Ob.mk (by decide +kernel) ?_
              repeat refine Br.t rfl ?_
              exact h
            | true =>
              refine Br.f rfl ?_
              refine fits_c c.a c.b c.c c.d _ _ ?_
              cases hr : right c.l with
              | false =>
                have hr' : right [c.a, c.b, c.c, c.d] = false := hr
                have hwf : wanted c true = (zero4, 3) := by unfold wanted; simp only [hr]
                rw [hr', hwf]
                repeat refine Br.t rfl ?_
                refine Ob.mk (by decide +kernel) ?_
                repeat refine Br.t rfl ?_
                exact h
              | true =>
                have hr' : right [c.a, c.b, c.c, c.d] = true := hr
                have hwf : wanted c true = (c, 0) := by unfold wanted; simp only [hr]
                rw [hr', hwf]
                refine Br.f rfl ?_
                repeat refine Br.t rfl ?_
                refine Ob.mk (by decide +kernel) ?_
                repeat refine Br.t rfl ?_
                have hcc : (c.a == c.a && (c.b == c.b && (c.c == c.c && (c.d == c.d && true)))) = true := by simp
                rw [← hcc] at h
                exact h
          | cons x xs =>
            refine Cal.freeze ?_ ⟨Try.f9, Try.func9, rfl, rfl⟩
            refine Ob.mk rfl ?_
            have he : ((x :: xs).drop 0).take (x :: xs).length = ((fs.take 2).map cfI ++ itemsP ((names.zip ns).take j)).map Item.pv := by
              rw [List.drop_zero, List.take_length, hL]
            refine config_e .shr _ he hw hok _ _ ?_
            refine Ob.mk (okst rfl rfl rfl) ?_
            cases ok with
            | false =>
              repeat refine Br.t rfl ?_
              refine Ob.mk (by decide +kernel) ?_
              repeat refine Br.t rfl ?_
              exact h
            | true =>
              refine Br.f rfl ?_
              refine fits_c c.a c.b c.c c.d _ _ ?_
              cases hr : right c.l with
              | false =>
                have hr' : right [c.a, c.b, c.c, c.d] = false := hr
                have hwf : wanted c true = (zero4, 3) := by unfold wanted; simp only [hr]
                rw [hr', hwf]
                repeat refine Br.t rfl ?_
                refine Ob.mk (by decide +kernel) ?_
                repeat refine Br.t rfl ?_
                exact h
              | true =>
                have hr' : right [c.a, c.b, c.c, c.d] = true := hr
                have hwf : wanted c true = (c, 0) := by unfold wanted; simp only [hr]
                rw [hr', hwf]
                refine Br.f rfl ?_
                repeat refine Br.t rfl ?_
                refine Ob.mk (by decide +kernel) ?_
                repeat refine Br.t rfl ?_
                have hcc : (c.a == c.a && (c.b == c.b && (c.c == c.c && (c.d == c.d && true)))) = true := by simp
                rw [← hcc] at h
                exact h
end Go.Proofs.Ytfjolephpghafaa.AW
