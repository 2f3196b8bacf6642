import Derived.Test.YtfjolephpghafaaL4C
namespace Go.Proofs.Ytfjolephpghafaa.AW
open Go.Proofs
set_option maxRecDepth 100000

structure C4 where
  a : Int
  b : Int
  c : Int
  d : Int
def C4.pv (c : C4) : PV := cfg c.a c.b c.c c.d
def C4.l (c : C4) : List Int := [c.a, c.b, c.c, c.d]
def C4.set (c : C4) (k : Nat) (n : Int) : C4 := match k with
  | 0 => ⟨n, c.b, c.c, c.d⟩ | 1 => ⟨c.a, n, c.c, c.d⟩ | 2 => ⟨c.a, c.b, n, c.d⟩ | _ => ⟨c.a, c.b, c.c, n⟩
def dflt : C4 := ⟨1024, 128, 4, 1048576⟩
def zero4 : C4 := ⟨0, 0, 0, 0⟩
def run : List Item → C4 → Option C4
  | [], c => some c
  | .cf a b x d :: r, _ => run r ⟨a, b, x, d⟩
  | .tx l :: v :: r, c => match fieldOf (upper l), v.val.2 with
    | some k, true => run r (c.set k (clip v.val.1))
    | _, _ => none
  | _, _ => none
def config (l : List Item) : C4 × Int := match run l dflt with
  | none => (zero4, 1)
  | some c => if right c.l then (c, 0) else (zero4, 3)
def res (r : C4 × Int) : AV := .tup [.p r.1.pv, .p (ii r.2)]

theorem field_s {k id : Nat} {l : List UInt8} {s : Store} {K : AV → Store → Prop} (hf : fieldOf (upper l) = some k) (hl : l.length < 1099511627776) (h : K (.ref id k) s) : Cal Try.prog 20 [.ref id 0, .p (.str l)] s K := field_c id l hl s K (by rw [hf]; exact h)
theorem field_n {id : Nat} {l : List UInt8} {s : Store} {K : AV → Store → Prop} (hf : fieldOf (upper l) = none) (hl : l.length < 1099511627776) (h : K (.p (.lit (.pointer none))) s) : Cal Try.prog 20 [.ref id 0, .p (.str l)] s K := field_c id l hl s K (by rw [hf]; exact h)

set_option maxHeartbeats 2000000 in
theorem config_c (k : SK) (items : List Item) (hok : ∀ v, v ∈ items → v.ok) (s : Store) (K : AV → Store → Prop) (h : K (res (config items)) s) : Cal Try.prog 9 [.p (.sl k 1 (items.map Item.pv))] s K := by
  refine Cal.pure (args := [.sl k 1 (items.map Item.pv)]) ?_
  refine Cal.intro Try.func9 (by decide +kernel) rfl rfl ?_
  refine default_c _ _ ?_
  refine Ob.mk ⟨rfl, Nat.le_of_ble_eq_true rfl, rfl⟩ ?_
  unfold config at h
  refine LoopX.fam [0, 2, 3, 4] (fun (q : List Item × C4) => ([(0, .p (.sl k 1 (q.1.map Item.pv))), (2, .ref 0 0), (3, .p (ii 0)), (4, .ref 1 0)], [some (.cells [.p (ii 0), .p (ii 0), .p (ii 0), .p (ii 0)]), some (.cells [.p (ii q.2.a), .p (ii q.2.b), .p (ii q.2.c), .p (ii q.2.d)])]))
    (fun q => (∀ v, v ∈ q.1 → v.ok) ∧ run q.1 q.2 = run items dflt) (fun q => q.1.length) (items, dflt) ⟨hok, rfl⟩ (Trim.mk' rfl rfl rfl rfl (by simp)) ?_
  rintro ⟨l, c⟩ ⟨hok, hq⟩
  have hq : run l c = run items dflt := hq
  have hok : ∀ v, v ∈ l → v.ok := hok
  rw [← hq] at h
  have err : run l c = none → K (res (zero4, 1)) s := fun e => by rw [e] at h; exact h
  cases l with
  | nil =>
    refine Br.f rfl ?_
    refine right_c c.a c.b c.c c.d _ _ ?_
    have h : K (res (if right c.l then (c, 0) else (zero4, 3))) s := h
    cases hr : right c.l with
    | true => rw [hr] at h; exact Br.f (by show (!right c.l) = false; rw [hr]; rfl) (Ob.mk ⟨rfl, Nat.le_of_ble_eq_true rfl, rfl⟩ h)
    | false => rw [hr] at h; exact Br.t (by show (!right c.l) = true; rw [hr]; rfl) (Ob.mk ⟨rfl, Nat.le_of_ble_eq_true rfl, rfl⟩ h)
  | cons v r =>
    refine Br.t (by simp) ?_
    cases v with
    | cf a b x d =>
      refine Idx.mk _ (by omega) rfl ?_
      refine Ob.mk ⟨rfl, Nat.le_of_ble_eq_true rfl, rfl⟩ ?_
      refine Br.t rfl ?_
      cases k
      all_goals
        refine ⟨_, ⟨rfl, rfl⟩, ?_⟩
        refine ⟨_, ⟨rfl, rfl⟩, ?_⟩
        refine ⟨_, Ob.mk ⟨by omega, by simp; omega⟩ ⟨rfl, rfl⟩, ?_⟩
        refine ⟨_, _, Ob.mk ⟨rfl, Nat.le_of_ble_eq_true rfl, rfl⟩ ⟨rfl, rfl⟩, rfl, ?_⟩
        refine ⟨_, ⟨rfl, rfl⟩, ?_⟩
        refine Chk.mk (by kernel_rfl) ?_
        refine ⟨(r, ⟨a, b, x, d⟩), ⟨fun v hv => hok v (List.mem_cons_of_mem _ hv), hq⟩, by simp, by simp, Trim.mk' rfl rfl rfl rfl (by simp)⟩
    | tx t =>
      refine Idx.mk _ (by omega) rfl ?_
      refine Ob.mk ⟨rfl, Nat.le_of_ble_eq_true rfl, rfl⟩ ?_
      refine Br.f rfl ?_
      refine Idx.mk _ (by omega) rfl ?_
      refine Br.t rfl (Br.t rfl (Br.t rfl (Br.f rfl ?_)))
      cases r with
      | nil =>
        refine Br.t rfl ?_
        exact Ob.mk ⟨rfl, Nat.le_of_ble_eq_true rfl, rfl⟩ (err rfl)
      | cons v r =>
        refine Br.f (by simp; omega) ?_
        have hrest : ∀ x, x ∈ r → x.ok := fun x hx => hok x (List.mem_cons_of_mem _ (List.mem_cons_of_mem _ hx))
        have ht : t.length < 1099511627776 := hok (.tx t) (by simp)
        have hv : v.ok := hok v (by simp)
        have hgo : run (.tx t :: v :: r) c = (match fieldOf (upper t), v.val.2 with | some k, true => run r (c.set k (clip v.val.1)) | _, _ => none) := rfl
        have hf : fieldOf (upper t) = none ∨ fieldOf (upper t) = some 0 ∨ fieldOf (upper t) = some 1 ∨ fieldOf (upper t) = some 2 ∨ fieldOf (upper t) = some 3 := by
          unfold fieldOf; repeat' split
          all_goals simp
        cases v
        all_goals
          refine Idx.mk _ (by omega) rfl ?_
          refine item_c _ hv _ _ ?_
        · rcases hf with hf | hf | hf | hf | hf
          · exact field_n hf ht (Br.f rfl (Br.f rfl (Br.t rfl (Br.t rfl (Ob.mk ⟨rfl, Nat.le_of_ble_eq_true rfl, rfl⟩ (err (by rw [hgo, hf])))))))
          all_goals exact field_s hf ht (Br.f rfl (Br.f rfl (Br.t rfl (Br.t rfl (Ob.mk ⟨rfl, Nat.le_of_ble_eq_true rfl, rfl⟩ (err (by rw [hgo, hf]; rfl)))))))
        all_goals rcases hf with hf | hf | hf | hf | hf
        all_goals first
          | exact field_n hf ht (Br.t rfl (Br.t rfl (Br.f rfl (Br.t rfl (Ob.mk ⟨rfl, Nat.le_of_ble_eq_true rfl, rfl⟩ (err (by rw [hgo, hf])))))))
          | skip
        all_goals
          rw [hgo, hf] at hq
          refine field_s hf ht (Br.t rfl (Br.t rfl (Br.f rfl (Br.f rfl ?_))))
          cases k
        all_goals
          refine ⟨_, ⟨rfl, rfl⟩, ?_⟩
          refine ⟨_, ⟨rfl, rfl⟩, ?_⟩
          refine ⟨_, fun s' => clip_c _ _ _ ⟨rfl, rfl⟩, rfl, ?_⟩
          refine ⟨_, ⟨rfl, rfl⟩, ?_⟩
          refine ⟨_, Ob.mk ⟨by omega, by simp; omega⟩ ⟨rfl, rfl⟩, ?_⟩
          refine ⟨_, ⟨rfl, rfl⟩, ?_⟩
          refine ⟨_, _, Ob.mk ⟨rfl, Nat.le_of_ble_eq_true rfl, rfl⟩ ⟨rfl, rfl⟩, rfl, ?_⟩
          refine ⟨_, ⟨rfl, rfl⟩, ?_⟩
          refine Chk.mk (by kernel_rfl) ?_
          refine ⟨(r, _), ⟨hrest, hq⟩, by simp; omega, by simp, Trim.mk' rfl rfl rfl rfl (by simp)⟩
    | _ =>
      refine Idx.mk _ (by omega) rfl ?_
      refine Ob.mk ⟨rfl, Nat.le_of_ble_eq_true rfl, rfl⟩ ?_
      refine Br.f rfl ?_
      refine Idx.mk _ (by omega) rfl ?_
      refine Br.f rfl (Br.f rfl (Br.f rfl (Br.t rfl (Br.t rfl ?_))))
      exact Ob.mk ⟨rfl, Nat.le_of_ble_eq_true rfl, rfl⟩ (err rfl)
end Go.Proofs.Ytfjolephpghafaa.AW
