import Derived.Test.YtfjolephpghafaaAwOps3
import Derived.Lib.ConvBytes
import Derived.Laws.Cover4
namespace Go.Proofs.Ytfjolephpghafaa.AW

theorem get_drop (s : ByteArray) (i k : Nat) : ((⟨(s.data.toList.drop i).toArray⟩ : ByteArray).get! (0 + k)) = s.get! (i + k) := by
  obtain ⟨⟨l⟩⟩ := s
  simp [ByteArray.get!, getElem!_def]

theorem decode_drop (s : ByteArray) (i : Nat) : decode (s.data.toList.drop i) = Utf8.decode s i := by
  unfold decode Utf8.decode
  simp only [get_drop]
  have hs : ∀ k, (0 + k < (⟨(s.data.toList.drop i).toArray⟩ : ByteArray).size) = (i + k < s.size) := by
    intro k
    have : (⟨(s.data.toList.drop i).toArray⟩ : ByteArray).size = s.size - i := by
      obtain ⟨⟨l⟩⟩ := s; simp [ByteArray.size]
    rw [this]; apply propext; omega
  simp only [hs]

theorem runesFrom_eq (s : ByteArray) : ∀ b i (acc : Array Value), Conv.runesFrom s b i acc = acc ++ ((runes b (s.data.toList.drop i)).map (Value.int .i32)).toArray := by
  intro b
  induction b with
  | zero => intro i acc; simp [Conv.runesFrom, runes]
  | succ b ih =>
    intro i acc
    unfold Conv.runesFrom runes
    by_cases h : i < s.size
    · rw [if_pos h]
      have hne : s.data.toList.drop i ≠ [] := by
        intro e; have := congrArg List.length e; simp at this; omega
      cases hd : s.data.toList.drop i with
      | nil => exact absurd hd hne
      | cons y ys =>
        simp only []
        rw [← hd, decode_drop, ih, List.drop_drop]
        simp
    · rw [if_neg h]
      have : s.data.toList.drop i = [] := List.drop_eq_nil_of_le (by simp; omega)
      rw [this]; simp

section ops
variable {P : Program} {o : Oper} {e : Env} {s : Store} {K : AV → Store → Prop} {w : World} {g : G} {σ : St} {a : Act} {T : Nat → Prop} {N : Prop}

theorem Cx.ext_more (_c : Cx w g σ s T N) {w' : World} {ob : Obj} (m : More w w' ob) : Ext w g σ w' g σ where
  size := by rw [m.size]; omega
  os := m.os
  tape := m.tape
  output := m.output
  frame b hb _ := m.old hb
  shape b hb := shape_same (m.old hb)
  X := rfl
  C _ h := h
  own _ _ h := h
  obj _ _ o h := ⟨o, h, .refl _⟩
  ι1 _ _ _ := rfl
  ι2 _ _ _ _ _ _ _ _ := rfl

theorem Rs.more {x : Value} {v : AV} (c : Cx w g σ s T N) {w' : World} {ob : Obj} (m : More w w' ob) (hk : K v s) (hr : RepA w' g σ v x) : Rs w g σ s T K x w' := by
  refine ⟨v, s, g, hk, Nat.le_refl _, fun _ _ _ => rfl, ?_, ?_, ?_, fun id h => .inl h⟩
  · rw [c.ovr_self]; exact hr
  · rw [c.ovr_self]
    have hext := c.ext_more m
    exact ⟨c.inv.made, fun id o h => by rw [m.size]; have := c.inv.lies id o h; exact ⟨by omega, this.2⟩, fun b hb => by rw [m.size]; have := c.inv.xlt b hb; omega, c.inv.inj,
      fun id o h => hext.repO (m.old (c.inv.lies id o h).1) (c.inv.rep id o h)⟩
  · rw [c.ovr_self]; exact c.ext_more m

theorem Cx.freshB (c : Cx w g σ s T N) : ¬ Lv g σ w.heap.size := by
  rintro (h | ⟨id, h1, h2⟩)
  · have := c.inv.xlt _ h; omega
  · obtain ⟨o, ho⟩ := Option.ne_none_iff_exists'.1 h1
    have := (c.inv.lies id o ho).1; omega

/-- Cells of a new block, scalars all. -/
theorem cellsP_of {w' : World} {B : Nat → Prop} {b : Nat} : ∀ {cs : List PV} {xs : List Value} {off : Nat}, RepPs w' B cs xs → (∀ j y, xs[j]? = some y → w'.cell? ⟨b, off + j, none⟩ = some y) → CellsP w' B b off cs
  | _, _, off, .nil, _ => .nil b off
  | _, _, off, .cons v x vs xs h hs, hc => .cons b off v x vs (by simpa using hc 0 x rfl) h (cellsP_of hs (fun j y hj => by
      have := hc (j + 1) y (by simpa using hj); rw [show off + 1 + j = off + (j + 1) by omega]; exact this))

theorem flat_scalars {α : Type} (f : α → PV) (hf : ∀ x, (f x).cells = [f x]) (l : List α) : flat (l.map f) = l.map f := by
  induction l with
  | nil => rfl
  | cons x r ih => show (f x).cells ++ flat (r.map f) = _; rw [hf, ih]; rfl

theorem ints_rep (k : IntKind) (l : List Int) (w' : World) (B : Nat → Prop) : RepPs w' B (l.map (.int k)) (l.map (Value.int k)) := by
  induction l with
  | nil => exact .nil
  | cons x r ih => exact .cons _ _ _ _ (.int k x) ih

theorem bytesP_eq (l : List UInt8) : bytesP l = (l.map fun b => (b.toNat : Int)).map (.int .u8) := by simp [bytesP]

/-- What a slice value's elements are in memory. -/
theorem elems_rep {x : AV} {y : Value} (hx : RepA w g σ x y) (c : Cx w g σ s T N) (hT : ∀ id, id ∈ ids x → T id) {K' : Nat → List PV → Prop} (h : elems s x K') :
    ∃ sz xs, K' sz xs ∧ (∀ z, z ∈ xs → El sz z) ∧ ((y = .slice none 0 0 ∧ xs = []) ∨ ∃ ad cap ys, y = .slice (some ad) xs.length cap ∧ xs.length ≤ cap ∧ RepPs w (Lv g σ) (flat xs) ys ∧ ∀ j v, ys[j]? = some v → w.cell? (ad.add j) = some v) := by
  unfold elems at h
  split at h
  · rename_i k sz xs
    cases hx.inv_p with
    | nil => exact ⟨_, _, h, (fun z hz => by cases hz), .inl ⟨rfl, rfl⟩⟩
    | sl _ _ _ b off cap hk hc hl hs hb hcells =>
      obtain ⟨ys, h1, h2⟩ := hcells.values
      exact ⟨_, _, h, hs, .inr ⟨_, cap, ys, rfl, hl, h1, fun j v hj => by rw [add_addr]; exact h2 j v hj⟩⟩
  · rename_i id tot off len
    split at h
    · rename_i sz xs hg
      unfold Ob at h
      obtain ⟨ht, hk⟩ := h
      have hs : σ id = some (.buf sz xs) := (c.agree id (hT id (by simp [ids, ids1]))).trans hg
      obtain ⟨ad, cap, ⟨hy, _⟩, _, _, hd⟩ := hx.inv_osl
      obtain ⟨h1, h2, h3⟩ := hd _ _ hs ht
      cases c.inv.rep _ _ hs with
      | buf _ _ vs hz hsz hn hr hare =>
        have hlen : ((xs.drop off).take len).length = len := by simp; omega
        refine ⟨_, _, hk, fun z hz => hsz z (List.mem_of_mem_drop (List.mem_of_mem_take hz)), .inr ⟨ad, cap, ((vs.take (sz * xs.length)).drop (off * sz)).take (len * sz), by rw [hlen]; exact hy, by rw [hlen]; exact h1, ?_, fun j v hj => ?_⟩⟩
        · have e1 : flat ((xs.drop off).take len) = ((flat xs).drop (off * sz)).take (len * sz) := by
            have hfd : ∀ (n : Nat) (l : List PV), (∀ z, z ∈ l → El sz z) → flat (l.drop n) = (flat l).drop (n * sz) := by
              intro n
              induction n with
              | zero => intro l _; simp
              | succ n ih =>
                intro l hl
                cases l with
                | nil => simp [flat]
                | cons z l =>
                  have hz := (hl z (by simp)).1
                  rw [List.drop_succ_cons, ih l (fun q hq => hl q (List.mem_cons_of_mem _ hq))]
                  show _ = (z.cells ++ flat l).drop _
                  rw [show (n + 1) * sz = z.cells.length + n * sz by rw [hz, Nat.succ_mul]; omega, ← List.drop_drop, List.drop_left' rfl]
            have hft : ∀ (n : Nat) (l : List PV), (∀ z, z ∈ l → El sz z) → flat (l.take n) = (flat l).take (n * sz) := by
              intro n
              induction n with
              | zero => intro l _; simp [flat]
              | succ n ih =>
                intro l hl
                cases l with
                | nil => simp [flat]
                | cons z l =>
                  have hz := (hl z (by simp)).1
                  rw [List.take_succ_cons]
                  show z.cells ++ flat (l.take n) = (z.cells ++ flat l).take _
                  rw [ih l (fun q hq => hl q (List.mem_cons_of_mem _ hq)), show (n + 1) * sz = z.cells.length + n * sz by rw [hz, Nat.succ_mul]; omega, List.take_append, List.take_of_length_le (l := z.cells) (Nat.le_add_right _ _), Nat.add_sub_cancel_left]
            rw [hft len _ (fun q hq => hsz q (List.mem_of_mem_drop hq)), hfd off _ hsz]
          rw [e1]
          exact (hr.drop _).take _
        · by_cases hc0 : 0 < cap
          · obtain ⟨rfl, _⟩ := h3 hc0
            rw [add_addr, cell_of_are hare]
            rw [List.getElem?_take] at hj
            split at hj
            · rw [List.getElem?_drop, List.getElem?_take] at hj
              split at hj
              · exact hj
              · cases hj
            · cases hj
          · have hl0 : len = 0 := by omega
            subst hl0; simp at hj
    · exact h.elim
  · exact h.elim

theorem foldl_push (l : List UInt8) (b : ByteArray) : (l.map fun x => (x.toNat : Int)).foldl (fun r n => r.push (UInt8.ofNat n.toNat)) b = ⟨(b.data.toList ++ l).toArray⟩ := by
  induction l generalizing b with
  | nil => obtain ⟨⟨x⟩⟩ := b; simp
  | cons x r ih =>
    simp only [List.map_cons, List.foldl_cons]
    rw [ih]
    obtain ⟨⟨y⟩⟩ := b
    simp [ByteArray.push]

theorem flat_ints (k : IntKind) (l : List Int) : flat (l.map (.int k)) = l.map (.int k) := flat_scalars _ (fun _ => rfl) l

theorem ints_inv {B : Nat → Prop} (k : IntKind) : ∀ {l : List Int} {ys : List Value}, RepPs w B (l.map (.int k)) ys → ys = l.map (Value.int k)
  | [], _, .nil => rfl
  | x :: l, _, .cons _ _ _ _ h hs => by cases h; rw [ints_inv k hs]; rfl

theorem ok_convert {src dst : Nat} {x : Operand} (ho : o.op = .convert src dst x) (h : aop P (.convert src dst x) e s K) (c : Cx w g σ s T N) (hT : ∀ id, id ∈ ids (ev e x) → T id) (he : EnvR w g σ e a.tmps) : OpOk P o a w (Rs w g σ s T K) := by
  simp only [aop, convA] at h
  have hx := ev_rep he x
  have fin : ∀ {v : AV} {r : Value}, (convert src dst (a.eval x)).run P w = .ok r w → K v s → RepA w g σ v r → OpOk P o a w (Rs w g σ s T K) := by
    intro v r hr hk hrep
    refine .value (v := r) (w' := w) ?_ (.pure c hk hrep)
    simp [execOp, ho, hr]
  split at h
  · rename_i el hs hd
    split at h
    · rename_i l hex hel
      rw [hex] at hx
      obtain ⟨b, hb, rfl⟩ := hx.inv_str
      have hrun := Go.Lib.run_convert_string_bytes (P := P) w src dst el b hs hd hel
      have m : More w (Go.Lib.bytesWorld w el b) (.cells (Go.Lib.bytesCells w el b) el ((Go.Lib.bytesCells w el b).size, (Go.Lib.bytesCells w el b).size + 1)) := by
        refine ⟨?_, rfl, rfl, rfl⟩
        apply Array.ext_getElem?
        intro i
        by_cases hi : i < w.heap.size
        · rw [Go.Lib.bytesWorld_at_old w el b i hi, Array.getElem?_push, if_neg (by omega)]
        · by_cases h2 : i = w.heap.size
          · rw [h2, Go.Lib.bytesWorld_at_new, Array.getElem?_push, if_pos rfl]
          · rw [Array.getElem?_eq_none (by rw [Go.Lib.bytesWorld_size]; omega), Array.getElem?_eq_none (by simp; omega)]
      refine .value (v := .slice (some ⟨w.heap.size, 0, none⟩) b.size (grownCap w b.size 0 el)) (w' := Go.Lib.bytesWorld w el b) (by simp [execOp, ho, hb, hrun]) (.more c m h (.p _ _ ?_))
      have hlen : (bytesP b.data.toList).length = b.size := by simp [bytesP]
      have := RepP.sl (w := Go.Lib.bytesWorld w el b) (B := Lv g σ) .shr 1 (bytesP b.data.toList) w.heap.size 0 (grownCap w b.size 0 el) (by decide) (fun q => by cases q) (by rw [hlen]; exact grownCap_ge _ _ _ _)
        (fun q hq => by simp [bytesP] at hq; obtain ⟨y, _, rfl⟩ := hq; exact ⟨rfl, rfl⟩) (fun _ => c.freshB) (by
          rw [bytesP_eq, flat_ints]
          refine cellsP_of (ints_rep .u8 _ _ _) (fun j y hj => ?_)
          simp only [List.getElem?_map, Option.map_eq_some_iff] at hj
          obtain ⟨n, ⟨u, hu, rfl⟩, rfl⟩ := hj
          have hlt : j < b.size := by
            have := (List.getElem?_eq_some_iff.1 hu).1; simpa using this
          rw [Nat.zero_add, Go.Lib.bytesWorld_cell w el b j hlt]
          simp [List.getD, hu])
      rw [hlen] at this; exact this
    · rename_i l hex hel
      rw [hex] at hx
      obtain ⟨b, hb, rfl⟩ := hx.inv_str
      have hrf := runesFrom_eq b b.size 0 #[]
      rw [List.drop_zero, Array.empty_append] at hrf
      have hlen0 : b.data.toList.length = b.size := by simp
      rw [hlen0] at h
      generalize hrs : runes b.size b.data.toList = rs at *
      have hrun : ∃ cap, rs.length ≤ cap ∧ (convert src dst (.string b)).run P w = .ok (.slice (some ⟨w.heap.size, 0, none⟩) rs.length cap)
          (w.drew.alloc (.cells ((rs.map (Value.int .i32)).toArray ++ Array.replicate (cap - rs.length) (.int .i32 0)) el)) := by
        refine ⟨grownCap w rs.length 0 el, grownCap_ge _ _ _ _, ?_⟩
        simp [convert, run_underlying hs, run_underlying hd, run_underlying hel, Conv.stringToRunes, hrf, newRow, Question.forced, grownCap, Result.andThen]
      obtain ⟨cap, hcap, hrun⟩ := hrun
      have m : More w (w.drew.alloc (.cells ((rs.map (Value.int .i32)).toArray ++ Array.replicate (cap - rs.length) (.int .i32 0)) el)) (.cells ((rs.map (Value.int .i32)).toArray ++ Array.replicate (cap - rs.length) (.int .i32 0)) el (0, 0)) := ⟨rfl, rfl, rfl, rfl⟩
      refine .value (v := .slice (some ⟨w.heap.size, 0, none⟩) rs.length cap) (w' := w.drew.alloc (.cells ((rs.map (Value.int .i32)).toArray ++ Array.replicate (cap - rs.length) (.int .i32 0)) el)) (by simp [execOp, ho, hb, hrun]) (.more c m h (.p _ _ ?_))
      have := RepP.sl (w := w.drew.alloc (.cells ((rs.map (Value.int .i32)).toArray ++ Array.replicate (cap - rs.length) (.int .i32 0)) el)) (B := Lv g σ) .shr 1 (rs.map (.int .i32)) w.heap.size 0 cap (by decide) (fun q => by cases q) (by simpa using hcap)
        (fun q hq => by simp at hq; obtain ⟨y, _, rfl⟩ := hq; exact ⟨rfl, rfl⟩) (fun _ => c.freshB) (by
          rw [flat_ints]
          refine cellsP_of (ints_rep .i32 _ _ _) (fun j y hj => ?_)
          have hlt : j < rs.length := by have := (List.getElem?_eq_some_iff.1 hj).1; simpa using this
          rw [Nat.zero_add]
          simp only [World.cell?, m.at]
          rw [Array.getElem?_append_left (by simpa using hlt)]
          simpa using hj)
      simpa using this
    · exact h.elim
  · rename_i el hs hd
    split at h
    · rename_i hel
      obtain ⟨sz, xs, hk, hsz, hlay⟩ := elems_rep hx c hT h
      unfold Ob at hk
      obtain ⟨hone, l, rfl, hK⟩ := hk
      rcases hlay with ⟨hy, hnil⟩ | ⟨ad, cap, ys, hy, hcap, hr, hcell⟩
      · have : l = [] := by simpa [bytesP] using hnil
        subst this
        refine fin (r := .string .empty) ?_ hK (.p _ _ (.str ByteArray.empty))
        rw [hy, run_convert_bytes_string w src dst el _ _ _ hs hel hd]; rfl
      · rw [bytesP_eq, flat_ints] at hr
        have hys := ints_inv .u8 hr
        subst hys
        have hl : (loadCells ad (bytesP l).length).run P w = .ok ((l.map fun b => (b.toNat : Int)).map (Value.int .u8)).toArray w := by
          have := run_loadCells_list (P := P) (w := w) ad ((l.map fun b => (b.toNat : Int)).map (Value.int .u8)) (fun j v hj => hcell j v hj)
          rw [← this]; simp [bytesP]
        refine fin (r := .string ⟨l.toArray⟩) ?_ hK (RepA.mkStr l)
        rw [hy, run_convert_bytes_string w src dst el _ _ _ hs hel hd, run_bytesToString w ad _ cap _ hl, foldl_push]
        simp
    · rename_i hel
      obtain ⟨sz, xs, hk, hsz, hlay⟩ := elems_rep hx c hT h
      unfold Ob at hk
      obtain ⟨hone, l, rfl, hK⟩ := hk
      have hcv : ∀ q n m, (convert src dst (.slice q n m)).run P w = (Conv.runesToString (.slice q n m)).run P w := fun q n m => by
        simp [convert, run_underlying hs, run_underlying hd, run_underlying hel]
      rcases hlay with ⟨hy, hnil⟩ | ⟨ad, cap, ys, hy, hcap, hr, hcell⟩
      · have : l = [] := by simpa using hnil
        subst this
        refine fin (r := .string .empty) ?_ hK (.p _ _ (.str ByteArray.empty))
        rw [hy, hcv]; rfl
      · rw [flat_ints] at hr
        have hys := ints_inv .i32 hr
        subst hys
        have hl : (loadCells ad (l.map (PV.int .i32)).length).run P w = .ok (l.map (Value.int .i32)).toArray w := by
          have := run_loadCells_list (P := P) (w := w) ad (l.map (Value.int .i32)) (fun j v hj => hcell j v hj)
          rw [← this]; simp
        have he2 : ∀ (l : List Int) (b : ByteArray), l.foldl (fun r n => r ++ Utf8.encode n) b = ⟨(b.data.toList ++ encs l).toArray⟩ := by
          intro l
          induction l with
          | nil => intro b; obtain ⟨⟨y⟩⟩ := b; simp [encs]
          | cons n l ih =>
            intro b
            rw [List.foldl_cons, ih]
            simp [encs, ByteArray.data_append]
        refine fin (r := .string ⟨(encs l).toArray⟩) ?_ hK (RepA.mkStr _)
        rw [hy, hcv, run_runesToString w ad _ cap l hl]
        unfold runesBytes
        rw [he2]; simp
    · exact h.elim
  · rename_i k' k hs hd
    split at h
    · rename_i k2 n hex
      rw [hex] at hx
      refine fin (r := .int k (k.wrap n)) ?_ h (.mkInt _ _)
      rw [hx.inv_int]; simp [convert, run_underlying hs, run_underlying hd, Conv.intToInt]
    · exact h.elim
  · rename_i k' hs hd
    split at h
    · rename_i k2 n hex
      rw [hex] at hx
      refine fin (r := .string (Utf8.encode n)) ?_ h (.p _ _ (.str _))
      rw [hx.inv_int]; simp [convert, run_underlying hs, run_underlying hd, Conv.intToString]
    · exact h.elim
  · rename_i hs hd
    split at h
    · rename_i l hex
      rw [hex] at hx
      obtain ⟨b, hb, rfl⟩ := hx.inv_str
      refine fin (r := .string b) ?_ h (.p _ _ (.str _))
      rw [hb]; simp [convert, run_underlying hs, run_underlying hd]
    · exact h.elim
  · exact h.elim
end ops
end Go.Proofs.Ytfjolephpghafaa.AW
