import Derived.Test.YtfjolephpghafaaL4X
import Derived.Test.YtfjolephpghafaaAwLend
namespace Go.Proofs.Ytfjolephpghafaa.AW
open Go.Proofs
set_option maxRecDepth 100000

def fz (L : List PV) : PV := match L with
  | [] => .sl .nil 0 []
  | x :: xs => .sl .shr 1 (((x :: xs).drop 0).take (x :: xs).length)
theorem fz_cons {L : List PV} (h : L ≠ []) : fz L = .sl .shr 1 L := by
  cases L with
  | nil => exact absurd rfl h
  | cons x xs =>
    show PV.sl .shr 1 (((x :: xs).drop 0).take (x :: xs).length) = _
    rw [List.drop_zero, List.take_length]

theorem configs_f (names : List (List UInt8)) (ns : List Int) (hl : ∀ l, l ∈ names → l.length < 1099511627776) : Cal Try.prog 8 ([.sl .nil 0 [], fz (names.map .str), fz (ns.map ii)].map .p) [] fun r _ => r = .p (.bool true) := by
  cases names with
  | nil =>
    cases ns with
    | nil => exact configs_c .nil .nil .nil 0 0 0 [] [] [] hl (by simp) (by simp) (by simp) _ _ rfl
    | cons n ns =>
      rw [fz_cons (L := (n :: ns).map ii) (by simp)]
      exact configs_c .nil .nil .shr 0 0 1 [] [] (n :: ns) hl (by simp) (by simp) (by simp) _ _ rfl
  | cons m names =>
    rw [fz_cons (L := (m :: names).map .str) (by simp)]
    cases ns with
    | nil => exact configs_c .nil .shr .nil 0 1 0 [] (m :: names) [] hl (by simp) (by simp) (by simp) _ _ rfl
    | cons n ns =>
      rw [fz_cons (L := (n :: ns).map ii) (by simp)]
      exact configs_c .nil .shr .shr 0 1 1 [] (m :: names) (n :: ns) hl (by simp) (by simp) (by simp) _ _ rfl
theorem configs_g (names : List (List UInt8)) (ks : SK) (zs : Nat) (ns : List Int) (hl : ∀ l, l ∈ names → l.length < 1099511627776) (hz : ns ≠ [] → zs = 1) : Cal Try.prog 8 ([.sl .nil 0 [], fz (names.map .str), .sl ks zs (ns.map ii)].map .p) [] fun r _ => r = .p (.bool true) := by
  cases names with
  | nil => exact configs_c .nil .nil ks 0 0 zs [] [] ns hl (by simp) (by simp) hz _ _ rfl
  | cons m names =>
    rw [fz_cons (L := (m :: names).map .str) (by simp)]
    exact configs_c .nil .shr ks 0 1 zs [] (m :: names) ns hl (by simp) (by simp) hz _ _ rfl

def six : List (List UInt8) := [nseg, nind, nsna, ncap, [67, 65, 80], [73, 110, 100, 101, 120]]
def six? (w : Int) : Int := (IntKind.i64.wrap (w.tmod 6 + 6)).tmod 6
def sixth (w : Int) : List UInt8 := six.getD (six? w).toNat []
theorem six_get (w : Int) : 0 ≤ six? w ∧ (six.map PV.str)[(six? w).toNat]? = some (.str (sixth w)) ∧ (sixth w).length < 1099511627776 := by
  have h : 0 ≤ six? w ∧ six? w < 6 := by
    unfold six?
    have h1 := Int.tmod_lt_of_pos w (show (0 : Int) < 6 by omega)
    have h2 : -6 < w.tmod 6 := by have := Int.lt_tmod_of_pos w (by decide : (0 : Int) < 6); omega
    rw [wrap_i64 (by omega) (by omega)]
    have h3 := Int.tmod_lt_of_pos (w.tmod 6 + 6) (show (0 : Int) < 6 by omega)
    have h4 := Int.tmod_nonneg 6 (show 0 ≤ w.tmod 6 + 6 by omega)
    exact ⟨h4, h3⟩
  obtain ⟨h1, h2⟩ := h
  refine ⟨h1, ?_⟩
  unfold sixth
  generalize six? w = k at h1 h2
  obtain ⟨m, rfl⟩ := Int.eq_ofNat_of_zero_le h1
  have hm : m < 6 := by omega
  match m, hm with
  | 0, _ => exact ⟨rfl, by decide⟩
  | 1, _ => exact ⟨rfl, by decide⟩
  | 2, _ => exact ⟨rfl, by decide⟩
  | 3, _ => exact ⟨rfl, by decide⟩
  | 4, _ => exact ⟨rfl, by decide⟩
  | 5, _ => exact ⟨rfl, by decide⟩

theorem wrap_succ2 {i : Nat} (h : i < 1099511627776) : IntKind.i64.wrap ((i : Int) + 1) = ((i + 1 : Nat) : Int) := by rw [wrap_i64] <;> omega
def tSt (L : List PV) : AV × Store := match L with
  | [] => (.p (.sl .nil 0 []), [])
  | x :: xs => (.osl 0 (x :: xs).length 0 (x :: xs).length, [some (.buf 1 (x :: xs))])
def uSt (L M : List PV) : AV × AV × Store := match L, M with
  | [], [] => (.p (.sl .nil 0 []), .p (.sl .nil 0 []), [])
  | [], y :: ys => (.p (.sl .nil 0 []), .osl 0 (y :: ys).length 0 (y :: ys).length, [some (.buf 1 (y :: ys))])
  | x :: xs, [] => (.osl 0 (x :: xs).length 0 (x :: xs).length, .p (.sl .nil 0 []), [some (.buf 1 (x :: xs))])
  | x :: xs, y :: ys => (.osl 0 (x :: xs).length 0 (x :: xs).length, .osl 1 (y :: ys).length 0 (y :: ys).length, [some (.buf 1 (x :: xs)), some (.buf 1 (y :: ys))])
theorem tSt_app (L M : List PV) : (tSt L).2.length ≤ (tSt (L ++ M)).2.length := by
  cases L <;> simp [tSt]
theorem uSt_app (L M N : List PV) : (uSt L M).2.2.length ≤ (uSt L (M ++ N)).2.2.length := by
  cases L <;> cases M <;> cases N <;> simp [uSt]
theorem uSt_le (L N : List PV) : (tSt L).2.length ≤ (uSt L N).2.2.length := by
  cases L <;> cases N <;> simp [uSt, tSt]
def cut60 (a : List UInt8) : List UInt8 := (a.take (60 : Int).toNat).drop (0 : Int).toNat
theorem cut60_le (a : List UInt8) : (cut60 a).length ≤ 60 := by simp [cut60]; omega
def twenty (n : Int) : Int := bits .and .i64 n 1048575
def someL (ws : List Int) : List PV := (ws.map sixth).map .str
def fewL (ns : List Int) : List PV := (ns.map twenty).map ii

theorem tells_c (n r : Int) (l : List UInt8) (b : Bool) (kf kn ks kw : SK) (zf zn zs zw : Nat) (fs : List C4) (names : List (List UInt8)) (ns ws : List Int) (hl : ∀ l, l ∈ names → l.length < 1099511627776)
    (hzf : fs ≠ [] → zf = 4) (hzn : names ≠ [] → zn = 1) (hzs : ns ≠ [] → zs = 1) (hzw : ws ≠ [] → zw = 1) (hns : ns.length ≤ 1048576) (hws : ws.length ≤ 1048576)
    (s : Store) (K : AV → Store → Prop) (h : K (.p (.bool true)) s) :
    Cal Try.prog 4 [.p (ii n), .p (.int .i32 r), .p (.str l), .p (.bool b), .p (.sl kf zf (fs.map C4.pv)), .p (.sl kn zn (names.map .str)), .p (.sl ks zs (ns.map ii)), .p (.sl kw zw (ws.map ii))] s K := by
  refine Cal.pure (args := [ii n, .int .i32 r, .str l, .bool b, .sl kf zf (fs.map C4.pv), .sl kn zn (names.map .str), .sl ks zs (ns.map ii), .sl kw zw (ws.map ii)]) ?_
  refine Cal.intro Try.func4 (by decide +kernel) rfl rfl ?_
  refine Br.mk (fun hc => Ob.mk (by simp at hc ⊢; omega) ?a) (fun hc => ?b)
  case' a =>
    refine LoopX.fam [0, 1, 2, 3, 4, 5, 6, 7, 16, 17, 18, 27, 28] (fun (q : Nat × List UInt8) => ([(0, .p (ii n)), (1, .p (.int .i32 r)), (2, .p (.str q.2)), (3, .p (.bool b)), (4, .p (.sl kf zf (fs.map C4.pv))), (5, .p (.sl kn zn (names.map .str))), (6, .p (.sl ks zs (ns.map ii))), (7, .p (.sl kw zw (ws.map ii))), (16, .p (.bool false)), (17, (tSt (someL (ws.take q.1))).1), (18, .p (.sl .nil 0 [])), (27, .p (ii (ws.map ii).length)), (28, .p (ii q.1))], (tSt (someL (ws.take q.1))).2))
      (fun q => q.1 ≤ ws.length ∧ q.2.length ≤ 60) (fun q => ws.length - q.1) (0, cut60 l) ⟨by omega, cut60_le l⟩ (Trim.mk' rfl rfl rfl rfl (Nat.le_refl _)) ?_
  case' b =>
    refine LoopX.fam [0, 1, 2, 3, 4, 5, 6, 7, 16, 17, 18, 27, 28] (fun (q : Nat × List UInt8) => ([(0, .p (ii n)), (1, .p (.int .i32 r)), (2, .p (.str q.2)), (3, .p (.bool b)), (4, .p (.sl kf zf (fs.map C4.pv))), (5, .p (.sl kn zn (names.map .str))), (6, .p (.sl ks zs (ns.map ii))), (7, .p (.sl kw zw (ws.map ii))), (16, .p (.bool false)), (17, (tSt (someL (ws.take q.1))).1), (18, .p (.sl .nil 0 [])), (27, .p (ii (ws.map ii).length)), (28, .p (ii q.1))], (tSt (someL (ws.take q.1))).2))
      (fun q => q.1 ≤ ws.length ∧ q.2.length ≤ 60) (fun q => ws.length - q.1) (0, l) ⟨by omega, by show l.length ≤ 60; simp at hc; omega⟩ (Trim.mk' rfl rfl rfl rfl (Nat.le_refl _)) ?_
  all_goals
    rintro ⟨i, l'⟩ ⟨hi, hl'⟩
    have hi : i ≤ ws.length := hi
    have hl' : l'.length ≤ 60 := hl'
    refine Br.mk (fun hlt => ?_) (fun hge => ?_)
    · have hlt : i < ws.length := by simpa using hlt
      obtain rfl : zw = 1 := hzw (List.length_pos_iff.1 (by omega))
      have gw : (ws.map ii)[(i : Int).toNat]? = some (ii ws[i]) := by simp [hlt]
      have g6 := six_get ws[i]
      have hL1 : someL (ws.take (i + 1)) = someL (ws.take i) ++ [.str (sixth ws[i])] := by
        unfold someL; rw [List.take_add_one, List.getElem?_eq_getElem hlt]; simp only [List.map_append, List.map_cons, List.map_nil, Option.toList_some]
      have hlen : (someL (ws.take i)).length ≤ 1048576 := by simp [someL]; omega
      cases hL : someL (ws.take i) with
      | nil =>
        rw [hL] at hL1
        refine Idx.mk _ (by omega) gw ?_
        refine Ob.mk (by decide) (Ob.mk (by decide) ?_)
        refine Idx.mk (.str (sixth ws[i])) g6.1 g6.2.1 ?_
        refine BrL.c (Ob.mk (Nat.le_of_ble_eq_true rfl) ?_)
        refine ⟨(i + 1, l'), ⟨hlt, hl'⟩, by show ws.length - (i + 1) < ws.length - i; omega, ?_, Trim.mk' ?_ ?_ ?_ ?_ ?_⟩
        · exact Nat.zero_le _
        · rw [hL1, ← wrap_succ2 (by omega)]; rfl
        · rw [hL1]; rfl
        · rw [hL1]; rfl
        · rw [hL1]; rfl
        · rw [hL1]; exact Nat.le_of_ble_eq_true rfl
      | cons x xs =>
        rw [hL] at hL1 hlen
        have hroom : ((x :: xs).length + 1) * Try.prog.types[9].bytes ≤ 140737488355328 := by
          have hby : Try.prog.types[9].bytes = 16 := rfl
          rw [hby]; omega
        refine Idx.mk _ (by omega) gw ?_
        refine Ob.mk (by decide) (Ob.mk (by decide) ?_)
        refine Idx.mk (.str (sixth ws[i])) g6.1 g6.2.1 ?_
        refine Ob.mk ⟨rfl, rfl, rfl, hroom⟩ ?_
        refine ⟨(i + 1, l'), ⟨hlt, hl'⟩, by show ws.length - (i + 1) < ws.length - i; omega, ?_, Trim.mk' ?_ ?_ ?_ ?_ ?_⟩
        · exact Nat.zero_le _
        · rw [hL1, ← wrap_succ2 (by omega)]; rfl
        · rw [hL1]; rfl
        · rw [hL1]; rfl
        · rw [hL1]; rfl
        · rw [hL1]; exact Nat.le_of_ble_eq_true rfl
    · have hi2 : i = ws.length := by
        have : ¬ i < ws.length := by simpa using hge
        omega
      subst hi2
      rw [List.take_length]
      refine LoopX.fam [0, 1, 2, 3, 4, 5, 6, 16, 17, 18, 46, 47] (fun (j : Nat) => ([(0, .p (ii n)), (1, .p (.int .i32 r)), (2, .p (.str l')), (3, .p (.bool b)), (4, .p (.sl kf zf (fs.map C4.pv))), (5, .p (.sl kn zn (names.map .str))), (6, .p (.sl ks zs (ns.map ii))), (16, .p (.bool false)), (17, (uSt (someL ws) (fewL (ns.take j))).1), (18, (uSt (someL ws) (fewL (ns.take j))).2.1), (46, .p (ii (ns.map ii).length)), (47, .p (ii j))], (uSt (someL ws) (fewL (ns.take j))).2.2))
        (fun j => j ≤ ns.length) (fun j => ns.length - j) 0 (Nat.zero_le _) (Trim.mk' ?_ ?_ ?_ ?_ (Nat.le_refl _)) ?_
      · cases someL ws <;> rfl
      · cases someL ws <;> rfl
      · cases someL ws <;> rfl
      · cases someL ws <;> rfl
      intro j hj
      have hj : j ≤ ns.length := hj
      refine Br.mk (fun hlt => ?_) (fun hge => ?_)
      · have hlt : j < ns.length := by simpa using hlt
        obtain rfl : zs = 1 := hzs (List.length_pos_iff.1 (by omega))
        have gn : (ns.map ii)[(j : Int).toNat]? = some (ii ns[j]) := by simp [hlt]
        have hM1 : fewL (ns.take (j + 1)) = fewL (ns.take j) ++ [ii (twenty ns[j])] := by
          unfold fewL; rw [List.take_add_one, List.getElem?_eq_getElem hlt]; simp only [List.map_append, List.map_cons, List.map_nil, Option.toList_some]
        have hlen : (fewL (ns.take j)).length ≤ 1048576 := by simp [fewL]; omega
        cases hM : fewL (ns.take j) with
        | nil =>
          rw [hM] at hM1
          cases hW : someL ws
          all_goals
            refine Idx.mk _ (by omega) gn ?_
            refine BrL.c (Ob.mk (Nat.le_of_ble_eq_true rfl) ?_)
            refine ⟨j + 1, hlt, by omega, ?_, Trim.mk' ?_ ?_ ?_ ?_ ?_⟩
            · rw [hM1]; exact Nat.le_of_ble_eq_true rfl
            · rw [hM1, ← wrap_succ2 (by omega)]; rfl
            · rw [hM1]; rfl
            · rw [hM1]; rfl
            · rw [hM1]; rfl
            · rw [hM1]; exact Nat.le_of_ble_eq_true rfl
        | cons y ys =>
          rw [hM] at hM1 hlen
          have hroom : ((y :: ys).length + 1) * Try.prog.types[2].bytes ≤ 140737488355328 := by
            have hby : Try.prog.types[2].bytes = 8 := rfl
            rw [hby]; omega
          cases hW : someL ws
          all_goals
            refine Idx.mk _ (by omega) gn ?_
            refine Ob.mk ⟨rfl, rfl, rfl, hroom⟩ ?_
            refine ⟨j + 1, hlt, by omega, ?_, Trim.mk' ?_ ?_ ?_ ?_ ?_⟩
            · rw [hM1]; exact Nat.le_of_ble_eq_true rfl
            · rw [hM1, ← wrap_succ2 (by omega)]; rfl
            · rw [hM1]; rfl
            · rw [hM1]; rfl
            · rw [hM1]; rfl
            · rw [hM1]; exact Nat.le_of_ble_eq_true rfl
      · have hj2 : j = ns.length := by
          have : ¬ j < ns.length := by simpa using hge
          omega
        subst hj2
        rw [List.take_length]
        have hs6 : ∀ l, l ∈ ws.map sixth → l.length < 1099511627776 := by
          intro l hl
          obtain ⟨w, _, rfl⟩ := List.mem_map.1 hl
          exact (six_get w).2.2
        have cf : Cal Try.prog 8 ([.sl .nil 0 [], fz (someL ws), fz (fewL ns)].map .p) [] fun r _ => r = .p (.bool true) := configs_f (ws.map sixth) (ns.map twenty) hs6
        have cg : Cal Try.prog 8 ([.sl .nil 0 [], fz (someL ws), .sl ks zs (ns.map ii)].map .p) [] fun r _ => r = .p (.bool true) := configs_g (ws.map sixth) ks zs ns hs6 hzs
        cases hW : someL ws <;> cases hM : fewL ns
        all_goals
          rw [hW] at cf cg
          rw [hM] at cf
          refine values_c n r l' b (by omega) _ _ ?_
          repeat refine Br.t rfl ?_
          refine configs_c kf kn ks zf zn zs fs names ns hl hzf hzn hzs _ _ ?_
          repeat refine Br.t rfl ?_
          refine Cal.lend ?_ cf rfl ?_
          · first | rfl | exact Ob.mk rfl rfl | exact Ob.mk rfl (Ob.mk rfl rfl)
          repeat refine Br.t rfl ?_
          refine Cal.lend ?_ cg rfl ?_
          · first | rfl | exact Ob.mk rfl rfl
          repeat refine Br.t rfl ?_
          refine known_c _ _ ?_
          repeat refine Br.t rfl ?_
          exact h
end Go.Proofs.Ytfjolephpghafaa.AW
