/- A part of the proof: AW/Ops4, AW/OpsM0, AW/OpsM1, AW/Ops5, AW/Ops6. -/
import Derived.Lib.Builder
import Derived.Test.YtjhgmaephpadpaaGreatP2
import Derived.Lib.ConvBytes
import Derived.Laws.Cover4
namespace Go.Proofs.YtjhgmaephpadpaaGreat.AW

set_option linter.unusedSimpArgs false
set_option linter.unusedVariables false
theorem get_drop (s : ByteArray) (i k : Nat) : ((⟨(s.data.toList.drop i).toArray⟩ : ByteArray).get! (0 + k)) = s.get! (i + k) := by
  obtain ⟨⟨l⟩⟩ := s
  simp [ByteArray.get!, getElem!_def]

theorem decode_drop (s : ByteArray) (i : Nat) : decode (s.data.toList.drop i) = Utf8.decode s i := by
  unfold decode Utf8.decode
  simp only [get_drop]
  have hs : ∀ k, (0 + k < (⟨(s.data.toList.drop i).toArray⟩ : ByteArray).size) = (i + k < s.size) := by
    intro k
    have : (⟨(s.data.toList.drop i).toArray⟩ : ByteArray).size = s.size - i := by
      obtain ⟨⟨l⟩⟩ := s; simp [ByteArray.size]
    rw [this]; apply propext; omega
  simp only [hs]

theorem runesFrom_eq (s : ByteArray) : ∀ b i (acc : Array Value), Conv.runesFrom s b i acc = acc ++ ((runes b (s.data.toList.drop i)).map (Value.int .i32)).toArray := by
  intro b
  induction b with
  | zero => intro i acc; simp [Conv.runesFrom, runes]
  | succ b ih =>
    intro i acc
    unfold Conv.runesFrom runes
    by_cases h : i < s.size
    · rw [if_pos h]
      have hne : s.data.toList.drop i ≠ [] := by
        intro e; have := congrArg List.length e; simp at this; omega
      cases hd : s.data.toList.drop i with
      | nil => exact absurd hd hne
      | cons y ys =>
        simp only []
        rw [← hd, decode_drop, ih, List.drop_drop]
        simp
    · rw [if_neg h]
      have : s.data.toList.drop i = [] := List.drop_eq_nil_of_le (by simp; omega)
      rw [this]; simp

section ops
variable {P : Program} {o : Oper} {e : Env} {s : Store} {K : AV → Store → Prop} {w : World} {g : G} {σ : St} {a : Act} {T : Nat → Prop} {N : Prop}

theorem Cx.ext_more (_c : Cx w g σ s T N) {w' : World} {ob : Obj} (m : More w w' ob) : Ext w g σ w' g σ where
  drawn := m.drawn
  size := by rw [m.size]; omega
  os := m.os
  tape := m.tape
  output := m.output
  frame b hb _ := m.old hb
  shape b hb := shape_same (m.old hb)
  X := rfl
  C _ h := h
  own _ _ h := h
  obj _ _ o h := ⟨o, h, .refl _⟩
  ι1 _ _ _ := ⟨rfl, .rfl⟩
  ι2 _ _ _ _ _ _ _ _ _ _ := ⟨rfl, .rfl⟩

theorem Rs.more {x : Value} {v : AV} (c : Cx w g σ s T N) {w' : World} {ob : Obj} (m : More w w' ob) (hk : K v s) (hr : RepA w' g σ v x) : Rs w g σ s T K x w' := by
  refine ⟨v, s, g, hk, Nat.le_refl _, fun _ _ _ => rfl, ?_, ?_, ?_, fun id h => .inl h⟩
  · rw [c.ovr_self]; exact hr
  · rw [c.ovr_self]
    have hext := c.ext_more m
    exact ⟨c.inv.made, fun id o h hr => by rw [m.size]; have := c.inv.lies id o h hr; exact ⟨by omega, this.2⟩, fun b hb => by rw [m.size]; have := c.inv.xlt b hb; omega, c.inv.inj,
      fun id o h hr => hext.repO (m.old (c.inv.lies id o h hr).1) (c.inv.rep id o h hr), c.inv.void⟩
  · rw [c.ovr_self]; exact c.ext_more m

theorem Cx.freshB (c : Cx w g σ s T N) : ¬ Lv g σ w.heap.size := by
  rintro (h | ⟨id, h1, hr, h2⟩)
  · have := c.inv.xlt _ h; omega
  · obtain ⟨o, ho⟩ := Option.ne_none_iff_exists'.1 h1
    have := (c.inv.lies id o ho hr).1; omega

/-- Cells of a new block, scalars all. -/
theorem cellsP_of {w' : World} {B : Nat → Prop} {b : Nat} : ∀ {cs : List PV} {xs : List Value} {off : Nat}, RepPs w' B cs xs → (∀ j y, xs[j]? = some y → w'.cell? ⟨b, off + j, none⟩ = some y) → CellsP w' B b off cs
  | _, _, off, .nil, _ => .nil b off
  | _, _, off, .cons v x vs xs h hs, hc => .cons b off v x vs (by simpa using hc 0 x rfl) h (cellsP_of hs (fun j y hj => by
      have := hc (j + 1) y (by simpa using hj); rw [show off + 1 + j = off + (j + 1) by omega]; exact this))

theorem flat_scalars {α : Type} (f : α → PV) (hf : ∀ x, (f x).cells = [f x]) (l : List α) : flat (l.map f) = l.map f := by
  induction l with
  | nil => rfl
  | cons x r ih => show (f x).cells ++ flat (r.map f) = _; rw [hf, ih]; rfl

theorem ints_rep (k : IntKind) (l : List Int) (w' : World) (B : Nat → Prop) : RepPs w' B (l.map (.int k)) (l.map (Value.int k)) := by
  induction l with
  | nil => exact .nil
  | cons x r ih => exact .cons _ _ _ _ (.int k x) ih

theorem bytesP_eq (l : List UInt8) : bytesP l = (l.map fun b => (b.toNat : Int)).map (.int .u8) := by simp [bytesP]

/-- What a slice value's elements are in memory. -/
theorem elems_rep {x : AV} {y : Value} (hx : RepA w g σ x y) (c : Cx w g σ s T N) (hT : ∀ id, id ∈ ids x → T id) {K' : Nat → List PV → Prop} (h : elems s x K') :
    ∃ sz xs, K' sz xs ∧ (∀ z, z ∈ xs → El sz z) ∧ ((y = .slice none 0 0 ∧ xs = []) ∨ ∃ ad cap ys, y = .slice (some ad) xs.length cap ∧ xs.length ≤ cap ∧ RepPs w (Lv g σ) (flat xs) ys ∧ ∀ j v, ys[j]? = some v → w.cell? (ad.add j) = some v) := by
  unfold elems at h
  split at h
  · rename_i k sz xs
    cases hx.inv_p with
    | nil => exact ⟨_, _, h, (fun z hz => by cases hz), .inl ⟨rfl, rfl⟩⟩
    | spt _ _ ad hk => exact ⟨_, _, h, (fun z hz => by cases hz), .inr ⟨ad, 0, [], rfl, Nat.le_refl _, .nil, fun j v hj => by simp at hj⟩⟩
    | sl _ _ _ b off cap hk hc hl hs hb hcells =>
      obtain ⟨ys, h1, h2⟩ := hcells.values
      exact ⟨_, _, h, hs, .inr ⟨_, cap, ys, rfl, hl, h1, fun j v hj => by rw [add_addr]; exact h2 j v hj⟩⟩
  · rename_i id tot off len
    split at h
    · rename_i sz xs ty hg
      unfold Ob at h
      obtain ⟨ht, hk⟩ := h
      have hs : σ id = some (.buf sz xs ty) := (c.agree id (hT id (by simp [ids, ids1]))).trans hg
      obtain ⟨_, _, _, hd⟩ := hx.inv_osl
      have hV := hd _ _ _ hs ht
      by_cases hR : g.R id
      rotate_left 1
      · obtain ⟨hy, h0⟩ := hV.2.1 hR
        obtain ⟨sz', ty', _, e⟩ := c.inv.void _ _ hs hR
        cases e
        exact ⟨_, _, hk, fun z hz => by simp at hz, .inl ⟨hy, by simp⟩⟩
      obtain ⟨ad, cap, ⟨hy, _⟩, h1, h2, h3⟩ := hV.real hR
      cases c.inv.rep _ _ hs hR with
      | buf _ _ vs hz hsz hn hr hare =>
        have hlen : ((xs.drop off).take len).length = len := by simp; omega
        refine ⟨_, _, hk, fun z hz => hsz z (List.mem_of_mem_drop (List.mem_of_mem_take hz)), .inr ⟨ad, cap, ((vs.take (sz * xs.length)).drop (off * sz)).take (len * sz), by rw [hlen]; exact hy, by rw [hlen]; exact h1, ?_, fun j v hj => ?_⟩⟩
        · have e1 : flat ((xs.drop off).take len) = ((flat xs).drop (off * sz)).take (len * sz) := by
            have hfd : ∀ (n : Nat) (l : List PV), (∀ z, z ∈ l → El sz z) → flat (l.drop n) = (flat l).drop (n * sz) := by
              intro n
              induction n with
              | zero => intro l _; simp
              | succ n ih =>
                intro l hl
                cases l with
                | nil => simp [flat]
                | cons z l =>
                  have hz := (hl z (by simp)).1
                  rw [List.drop_succ_cons, ih l (fun q hq => hl q (List.mem_cons_of_mem _ hq))]
                  show _ = (z.cells ++ flat l).drop _
                  rw [show (n + 1) * sz = z.cells.length + n * sz by rw [hz, Nat.succ_mul]; omega, ← List.drop_drop, List.drop_left' rfl]
            have hft : ∀ (n : Nat) (l : List PV), (∀ z, z ∈ l → El sz z) → flat (l.take n) = (flat l).take (n * sz) := by
              intro n
              induction n with
              | zero => intro l _; simp [flat]
              | succ n ih =>
                intro l hl
                cases l with
                | nil => simp [flat]
                | cons z l =>
                  have hz := (hl z (by simp)).1
                  rw [List.take_succ_cons]
                  show z.cells ++ flat (l.take n) = (z.cells ++ flat l).take _
                  rw [ih l (fun q hq => hl q (List.mem_cons_of_mem _ hq)), show (n + 1) * sz = z.cells.length + n * sz by rw [hz, Nat.succ_mul]; omega, List.take_append, List.take_of_length_le (l := z.cells) (Nat.le_add_right _ _), Nat.add_sub_cancel_left]
            rw [hft len _ (fun q hq => hsz q (List.mem_of_mem_drop hq)), hfd off _ hsz]
          rw [e1]
          exact (hr.drop _).take _
        · by_cases hc0 : 0 < cap
          · obtain ⟨rfl, _⟩ := h3 hc0
            rw [add_addr, cell_of_are hare]
            rw [List.getElem?_take] at hj
            split at hj
            · rw [List.getElem?_drop, List.getElem?_take] at hj
              split at hj
              · exact hj
              · cases hj
            · cases hj
          · have hl0 : len = 0 := by omega
            subst hl0; simp at hj
    · exact h.elim
  · exact h.elim

theorem foldl_push (l : List UInt8) (b : ByteArray) : (l.map fun x => (x.toNat : Int)).foldl (fun r n => r.push (UInt8.ofNat n.toNat)) b = ⟨(b.data.toList ++ l).toArray⟩ := by
  induction l generalizing b with
  | nil => obtain ⟨⟨x⟩⟩ := b; simp
  | cons x r ih =>
    simp only [List.map_cons, List.foldl_cons]
    rw [ih]
    obtain ⟨⟨y⟩⟩ := b
    simp [ByteArray.push]

theorem flat_ints (k : IntKind) (l : List Int) : flat (l.map (.int k)) = l.map (.int k) := flat_scalars _ (fun _ => rfl) l

theorem ints_inv {B : Nat → Prop} (k : IntKind) : ∀ {l : List Int} {ys : List Value}, RepPs w B (l.map (.int k)) ys → ys = l.map (Value.int k)
  | [], _, .nil => rfl
  | x :: l, _, .cons _ _ _ _ h hs => by cases h; rw [ints_inv k hs]; rfl

theorem mark_are {w : World} {b : Nat} {xs : List Value} (h : cellsAre w b xs) : cellsAre (w.freeze ⟨b, xs.length, none⟩ 1) b xs ∧ Turned w (w.freeze ⟨b, xs.length, none⟩ 1) b := by
  obtain ⟨e, ⟨lo, hi⟩, h1, h2⟩ := h
  have h3 : (w.freeze ⟨b, xs.length, none⟩ 1).heap[b]? = some (.cells xs.toArray e (if lo == hi then (xs.length, xs.length + 1) else (min lo xs.length, max hi (xs.length + 1)))) := by
    unfold World.freeze
    rw [if_neg (by decide)]
    simp [Array.getElem?_modify, h1]
  refine ⟨⟨e, _, h3, .inr ?_⟩, ?_⟩
  · simp only at h2
    split
    · exact Nat.le_refl _
    · rename_i hne
      have : lo ≠ hi := by simpa using hne
      simp only; omega
  · refine ⟨by simp [World.freeze], by simp [World.freeze], by simp [World.freeze], by simp [World.freeze], fun k hk => ?_, ?_, by simp [World.freeze]⟩
    · unfold World.freeze
      rw [if_neg (by decide)]
      simp only [Array.getElem?_modify]; rw [if_neg (by omega)]
    · unfold World.shape?
      rw [h3, h1]

theorem set_same {s : Store} {id : Nat} {o : AObj} (h : getO s id = some o) : s.set id (some o) = s := by
  apply List.ext_getElem?
  intro i
  have hl := getO_lt h
  rw [List.getElem?_set]
  split
  · rename_i hi; subst hi
    unfold getO at h
    cases q : s[id]? with
    | none => rw [q] at h; cases h
    | some o' => rw [q] at h; simp at h; rw [h]
  · rfl

theorem ok_convert {src dst : Nat} {x : Operand} (ho : o.op = .convert src dst x) (h : aop P (.convert src dst x) e s K) (c : Cx w g σ s T N) (hT : ∀ id, id ∈ ids (ev e x) → T id) (he : EnvR w g σ e a.tmps) : OpOk P o a w (Rs w g σ s T K) := by
  simp only [aop, convA] at h
  have hx := ev_rep he x
  have fin : ∀ {v : AV} {r : Value}, (convert src dst (a.eval x)).run P w = .ok r w → K v s → RepA w g σ v r → OpOk P o a w (Rs w g σ s T K) := by
    intro v r hr hk hrep
    refine .value (v := r) (w' := w) ?_ (.pure c hk hrep)
    simp [execOp, ho, hr]
  split at h
  · rename_i el hs hd
    split at h
    · rename_i l hex hel
      rw [hex] at hx
      obtain ⟨b, hb, rfl⟩ := hx.inv_str
      have hrun := Go.Lib.run_convert_string_bytes (P := P) w src dst el b hs hd hel
      have m : More w (Go.Lib.bytesWorld w el b) (.cells (Go.Lib.bytesCells w el b) el ((Go.Lib.bytesCells w el b).size, (Go.Lib.bytesCells w el b).size + 1)) := by
        refine ⟨?_, rfl, rfl, rfl, Nat.le_succ _⟩
        apply Array.ext_getElem?
        intro i
        by_cases hi : i < w.heap.size
        · rw [Go.Lib.bytesWorld_at_old w el b i hi, Array.getElem?_push, if_neg (by omega)]
        · by_cases h2 : i = w.heap.size
          · rw [h2, Go.Lib.bytesWorld_at_new, Array.getElem?_push, if_pos rfl]
          · rw [Array.getElem?_eq_none (by rw [Go.Lib.bytesWorld_size]; omega), Array.getElem?_eq_none (by simp; omega)]
      refine .value (v := .slice (some ⟨w.heap.size, 0, none⟩) b.size (grownCap w b.size 0 el)) (w' := Go.Lib.bytesWorld w el b) (by simp [execOp, ho, hb, hrun]) (.more c m h (.p _ _ ?_))
      have hlen : (bytesP b.data.toList).length = b.size := by simp [bytesP]
      have := RepP.sl (w := Go.Lib.bytesWorld w el b) (B := Lv g σ) .shr 1 (bytesP b.data.toList) w.heap.size 0 (grownCap w b.size 0 el) (by decide) (fun q => by cases q) (by rw [hlen]; exact grownCap_ge _ _ _ _)
        (fun q hq => by simp [bytesP] at hq; obtain ⟨y, _, rfl⟩ := hq; exact ⟨rfl, rfl⟩) (fun _ => c.freshB) (by
          rw [bytesP_eq, flat_ints]
          refine cellsP_of (ints_rep .u8 _ _ _) (fun j y hj => ?_)
          simp only [List.getElem?_map, Option.map_eq_some_iff] at hj
          obtain ⟨n, ⟨u, hu, rfl⟩, rfl⟩ := hj
          have hlt : j < b.size := by
            have := (List.getElem?_eq_some_iff.1 hu).1; simpa using this
          rw [Nat.zero_add, Go.Lib.bytesWorld_cell w el b j hlt]
          simp [List.getD, hu])
      rw [hlen] at this; exact this
    · rename_i l hex hel
      rw [hex] at hx
      obtain ⟨b, hb, rfl⟩ := hx.inv_str
      have hrf := runesFrom_eq b b.size 0 #[]
      rw [List.drop_zero, Array.empty_append] at hrf
      have hlen0 : b.data.toList.length = b.size := by simp
      rw [hlen0] at h
      generalize hrs : runes b.size b.data.toList = rs at *
      have hrun : ∃ cap, rs.length ≤ cap ∧ (convert src dst (.string b)).run P w = .ok (.slice (some ⟨w.heap.size, 0, none⟩) rs.length cap)
          (w.drew.alloc (.cells ((rs.map (Value.int .i32)).toArray ++ Array.replicate (cap - rs.length) (.int .i32 0)) el)) := by
        refine ⟨grownCap w rs.length 0 el, grownCap_ge _ _ _ _, ?_⟩
        simp [convert, run_underlying hs, run_underlying hd, run_underlying hel, Conv.stringToRunes, hrf, newRow, Question.forced, grownCap, Result.andThen]
      obtain ⟨cap, hcap, hrun⟩ := hrun
      have m : More w (w.drew.alloc (.cells ((rs.map (Value.int .i32)).toArray ++ Array.replicate (cap - rs.length) (.int .i32 0)) el)) (.cells ((rs.map (Value.int .i32)).toArray ++ Array.replicate (cap - rs.length) (.int .i32 0)) el (0, 0)) := ⟨rfl, rfl, rfl, rfl, Nat.le_succ _⟩
      refine .value (v := .slice (some ⟨w.heap.size, 0, none⟩) rs.length cap) (w' := w.drew.alloc (.cells ((rs.map (Value.int .i32)).toArray ++ Array.replicate (cap - rs.length) (.int .i32 0)) el)) (by simp [execOp, ho, hb, hrun]) (.more c m h (.p _ _ ?_))
      have := RepP.sl (w := w.drew.alloc (.cells ((rs.map (Value.int .i32)).toArray ++ Array.replicate (cap - rs.length) (.int .i32 0)) el)) (B := Lv g σ) .shr 1 (rs.map (.int .i32)) w.heap.size 0 cap (by decide) (fun q => by cases q) (by simpa using hcap)
        (fun q hq => by simp at hq; obtain ⟨y, _, rfl⟩ := hq; exact ⟨rfl, rfl⟩) (fun _ => c.freshB) (by
          rw [flat_ints]
          refine cellsP_of (ints_rep .i32 _ _ _) (fun j y hj => ?_)
          have hlt : j < rs.length := by have := (List.getElem?_eq_some_iff.1 hj).1; simpa using this
          rw [Nat.zero_add]
          simp only [World.cell?, m.at]
          rw [Array.getElem?_append_left (by simpa using hlt)]
          simpa using hj)
      simpa using this
    · exact h.elim
  · rename_i el hs hd
    split at h
    · rename_i hel
      obtain ⟨sz, xs, hk, hsz, hlay⟩ := elems_rep hx c hT h
      unfold Ob at hk
      obtain ⟨hone, l, rfl, hK⟩ := hk
      rcases hlay with ⟨hy, hnil⟩ | ⟨ad, cap, ys, hy, hcap, hr, hcell⟩
      · have : l = [] := by simpa [bytesP] using hnil
        subst this
        refine fin (r := .string .empty) ?_ hK (.p _ _ (.str ByteArray.empty))
        rw [hy, run_convert_bytes_string w src dst el _ _ _ hs hel hd]; rfl
      · rw [bytesP_eq, flat_ints] at hr
        have hys := ints_inv .u8 hr
        subst hys
        have hl : (loadCells ad (bytesP l).length).run P w = .ok ((l.map fun b => (b.toNat : Int)).map (Value.int .u8)).toArray w := by
          have := run_loadCells_list (P := P) (w := w) ad ((l.map fun b => (b.toNat : Int)).map (Value.int .u8)) (fun j v hj => hcell j v hj)
          rw [← this]; simp [bytesP]
        refine fin (r := .string ⟨l.toArray⟩) ?_ hK (RepA.mkStr l)
        rw [hy, run_convert_bytes_string w src dst el _ _ _ hs hel hd, run_bytesToString w ad _ cap _ hl, foldl_push]
        simp
    · rename_i hel
      obtain ⟨sz, xs, hk, hsz, hlay⟩ := elems_rep hx c hT h
      unfold Ob at hk
      obtain ⟨hone, l, rfl, hK⟩ := hk
      have hcv : ∀ q n m, (convert src dst (.slice q n m)).run P w = (Conv.runesToString (.slice q n m)).run P w := fun q n m => by
        simp [convert, run_underlying hs, run_underlying hd, run_underlying hel]
      rcases hlay with ⟨hy, hnil⟩ | ⟨ad, cap, ys, hy, hcap, hr, hcell⟩
      · have : l = [] := by simpa using hnil
        subst this
        refine fin (r := .string .empty) ?_ hK (.p _ _ (.str ByteArray.empty))
        rw [hy, hcv]; rfl
      · rw [flat_ints] at hr
        have hys := ints_inv .i32 hr
        subst hys
        have hl : (loadCells ad (l.map (PV.int .i32)).length).run P w = .ok (l.map (Value.int .i32)).toArray w := by
          have := run_loadCells_list (P := P) (w := w) ad (l.map (Value.int .i32)) (fun j v hj => hcell j v hj)
          rw [← this]; simp
        have he2 : ∀ (l : List Int) (b : ByteArray), l.foldl (fun r n => r ++ Utf8.encode n) b = ⟨(b.data.toList ++ encs l).toArray⟩ := by
          intro l
          induction l with
          | nil => intro b; obtain ⟨⟨y⟩⟩ := b; simp [encs]
          | cons n l ih =>
            intro b
            rw [List.foldl_cons, ih]
            simp [encs, ByteArray.data_append]
        refine fin (r := .string ⟨(encs l).toArray⟩) ?_ hK (RepA.mkStr _)
        rw [hy, hcv, run_runesToString w ad _ cap l hl]
        unfold runesBytes
        rw [he2]; simp
    · exact h.elim
  · rename_i k' k hs hd
    split at h
    · rename_i k2 n hex
      rw [hex] at hx
      refine fin (r := .int k (k.wrap n)) ?_ h (.mkInt _ _)
      rw [hx.inv_int]; simp [convert, run_underlying hs, run_underlying hd, Conv.intToInt]
    · exact h.elim
  · rename_i k' hs hd
    split at h
    · rename_i k2 n hex
      rw [hex] at hx
      refine fin (r := .string (Utf8.encode n)) ?_ h (.p _ _ (.str _))
      rw [hx.inv_int]; simp [convert, run_underlying hs, run_underlying hd, Conv.intToString]
    · exact h.elim
  · rename_i hs hd
    split at h
    · rename_i l hex
      rw [hex] at hx
      obtain ⟨b, hb, rfl⟩ := hx.inv_str
      refine fin (r := .string b) ?_ h (.p _ _ (.str _))
      rw [hb]; simp [convert, run_underlying hs, run_underlying hd]
    · exact h.elim
  · rename_i q el hs hd
    split at h
    · rename_i id tot len hel hev
      split at h
      · rename_i sz xs ty hg hsd
        rw [hev] at hx
        obtain ⟨hq0, hC, htle, hrest⟩ := hx.inv_osl
        have hT' : T id := hT id (by rw [hev]; simp [ids, ids1])
        have hst : σ id = some (.buf sz xs ty) := (c.agree id hT').trans hg
        unfold Ob at h
        obtain ⟨htot, hk⟩ := h
        have hV := hrest sz xs ty hst htot
        have hR : g.R id := Classical.byContradiction fun hR => by
          obtain ⟨hy, _⟩ := hV.2.1 hR
          obtain ⟨q, cp, e, _⟩ := hq0
          rw [hy] at e; cases e
        obtain ⟨ad, cap, ⟨hxe, hsp⟩, hcap, hle, hroom⟩ := hV.real hR
        obtain ⟨had, hRoom⟩ := hroom (by omega)
        subst had
        have hsd' : src = dst := Nat.eq_of_beq_eq_true hsd
        subst hsd'
        have hqe : q = el := by rw [hs] at hd; cases hd; rfl
        subst hqe
        cases c.inv.rep _ _ hst hR with
        | buf _ _ vs hz hsz hn hr hare _ hty =>
          obtain ⟨hare', hturn⟩ := mark_are hare
          obtain ⟨e1, f1, hh, hff⟩ := hare
          have hshape : w.shape? (g.ι id) = some (e1, vs.length) := by unfold World.shape?; rw [hh]; simp
          have hrun : (convert src src (a.eval x)).run P w = .ok (.slice (some ⟨g.ι id, 0 * sz, none⟩) (len + 1) cap) (w.freeze ⟨g.ι id, vs.length, none⟩ 1) := by
            rw [hxe]
            simp [convert, run_underlying hs, run_underlying hel, markStringish, hshape]
          refine .value (v := .slice (some ⟨g.ι id, 0 * sz, none⟩) (len + 1) cap) (w' := w.freeze ⟨g.ι id, vs.length, none⟩ 1) (by simp [execOp, ho, hrun]) ?_
          refine Rs.set c hT' hg hR (sameKind.refl _) hturn (fun hext => ?_) (fun hext => ?_) (by rw [set_same hg]; exact hk)
          · refine .buf sz xs vs hz hsz hn (hext.repPs hr) hare' ty (fun u hu => ?_)
            obtain ⟨n, hn⟩ := hty u hu
            exact ⟨n, hturn.shape.trans hn⟩
          · have := hext.repA hx
            rw [hxe] at this
            exact this
      · exact h.elim
    · exact h.elim
  · rename_i u hs hd
    split at h
    · rename_i id hev
      rw [hev] at hx
      obtain ⟨hp, hc, hb⟩ := hx.inv_ref
      split at h
      · rename_i q qs ty hg
        split at h
        · rename_i hsz
          have hT' : T id := hT id (by rw [hev]; simp [ids, ids1])
          have hst : σ id = some (.cells (q :: qs) (some ty)) := (c.agree id hT').trans hg
          unfold szP szT0 at hsz
          rw [hs] at hsz
          simp only at hsz
          split at hsz
          · rename_i inf hinf
            cases c.inv.repR hst (by simp) with
            | cells _ _ vs hcs hare hty =>
              have hflat := hare
              have hare := hare.are
              obtain ⟨n, hn⟩ := hty ty rfl
              have hlen := hcs.len
              obtain ⟨e1, f1, hh, _⟩ := hare
              have hn2 : n = vs.length := by
                unfold World.shape? at hn
                rw [hh] at hn
                simp at hn; exact hn.2.symm
              refine fin (r := .pointer (some ⟨g.ι id, 0, none⟩)) ?_ h (.ref id 0 hc hb)
              rw [hp]
              exact Go.Lib.run_to_unsafe w ⟨g.ι id, 0, none⟩ hs hd hinf (by have := Nat.le_of_ble_eq_true hsz; omega) hn (by rw [hn2, ← hlen]; simp)
          · cases hsz
        · exact h.elim
      · exact h.elim
    · exact h.elim
  · rename_i u hs hd
    split at h
    · rename_i id hev
      rw [hev] at hx
      obtain ⟨hp, hc, hb⟩ := hx.inv_ref
      split at h
      · rename_i q qs ty hg
        split at h
        · rename_i hsz
          have hT' : T id := hT id (by rw [hev]; simp [ids, ids1])
          have hst : σ id = some (.cells (q :: qs) (some ty)) := (c.agree id hT').trans hg
          unfold szT0 at hsz
          split at hsz
          · rename_i inf hinf
            unfold Ob at h
            cases c.inv.repR hst (by simp) with
            | cells _ _ vs hcs hare hty =>
              have hflat := hare
              have hare := hare.are
              obtain ⟨n, hn⟩ := hty ty rfl
              have hlen := hcs.len
              obtain ⟨e1, f1, hh, _⟩ := hare
              have hn2 : n = vs.length := by
                unfold World.shape? at hn
                rw [hh] at hn
                simp at hn; exact hn.2.symm
              refine fin (r := .pointer (some ⟨g.ι id, 0, none⟩)) ?_ h.2 (.ref id 0 hc hb)
              rw [hp]
              refine Go.Lib.run_from_unsafe w ⟨g.ι id, 0, none⟩ hs hd hinf hn ?_
              rw [hn2, ← hlen]; exact h.1
          · cases hsz
        · exact h.elim
      · exact h.elim
    · exact h.elim
  · exact h.elim
end ops
end Go.Proofs.YtjhgmaephpadpaaGreat.AW

namespace Go.Proofs.YtjhgmaephpadpaaGreat.AW
set_option linter.unusedSimpArgs false
set_option linter.unusedVariables false
section ops
variable {P : Program} {o : Oper} {e : Env} {s : Store} {K : AV → Store → Prop} {w : World} {g : G} {σ : St} {a : Act} {T : Nat → Prop} {N : Prop}

/-! ### Maps -/
theorem RepA.inv_map {id : Nat} {x : Value} (h : RepA w g σ (.map id) x) : x = .map (some (g.ι id)) ∧ g.C id ∧ ∀ sz xs ty, σ id ≠ some (.buf sz xs ty) := by
  cases h with
  | map _ hc hb => exact ⟨rfl, hc, hb⟩

theorem ba_beq (a b : ByteArray) : (a.data.toList == b.data.toList) = (a == b) := by
  obtain ⟨⟨x⟩⟩ := a
  obtain ⟨⟨y⟩⟩ := b
  show (x == y) = ((⟨x⟩ : Array UInt8) == ⟨y⟩)
  rw [Bool.eq_iff_iff, beq_iff_eq, beq_iff_eq]
  exact ⟨fun q => by rw [q], fun q => by cases q; rfl⟩
theorem ba_eq {a b : ByteArray} (h : (a.data.toList == b.data.toList) = true) : a = b := by
  obtain ⟨⟨x⟩⟩ := a
  obtain ⟨⟨y⟩⟩ := b
  have : x = y := beq_iff_eq.1 h
  subst this; rfl

/-- A key, as the model has it. -/
inductive KeyV : KK → PV → Value → Prop
  | str (x : ByteArray) : KeyV .str (.str x.data.toList) (.string x)
  | int (k : IntKind) (n : Int) : KeyV (.int k) (.int k n) (.int k n)
theorem keyV {B : Nat → Prop} {kk : KK} {p : PV} {x : Value} (h : RepP w B p x) (hk : keyIs kk p = true) : KeyV kk p x := by
  cases h with
  | str x => cases kk with
    | str => exact .str x
    | int k => simp [keyIs] at hk
  | int k n => cases kk with
    | str => simp [keyIs] at hk
    | int k' =>
      have : k' = k := by simpa [keyIs] using hk
      subst this; exact .int _ _
  | _ => cases kk <;> simp [keyIs] at hk
def kindOk : KK → TypeDesc → Prop
  | .str, d => d = .string
  | .int k, d => d = .int k
theorem KeyV.same {kk : KK} {p q : PV} {x y : Value} {d : TypeDesc} (h : KeyV kk p x) (k : KeyV kk q y) (hd : kindOk kk d) : Instr.sameNow d x y = some (keyEq p q) ∧ (keyEq p q = true → p = q ∧ x = y) := by
  cases h with
  | str a => cases k with
    | str b =>
      have hd : d = .string := hd
      subst hd
      refine ⟨by show some (a == b) = some (a.data.toList == b.data.toList); rw [ba_beq], fun q => ?_⟩
      have q := ba_eq (show (a.data.toList == b.data.toList) = true from q)
      subst q
      exact ⟨rfl, rfl⟩
  | int k n => cases k with
    | int _ m =>
      have hd : d = .int _ := hd
      subst hd
      refine ⟨by simp [Instr.sameNow, keyEq], fun q => ?_⟩
      have q : (n == m) = true := q
      have q := beq_iff_eq.1 q
      subst q
      exact ⟨rfl, rfl⟩
theorem KeyV.stays {kk : KK} {p : PV} {x : Value} (h : KeyV kk p x) : Instr.sameBits 10000 x x = true := by
  cases h with
  | str a => show (a == a) = true; rw [← ba_beq]; exact beq_self_eq_true _
  | int k n => show (k == k && n == n) = true; simp
theorem KeyV.checkN {kk : KK} {p : PV} {x : Value} (h : KeyV kk p x) {d : TypeDesc} {kt : Nat} (hd : kindOk kk d) (hu : P.underlying kt = some d) (b : Bool) (n : Nat) : (Instr.checkKey b (n + 1) kt x).run P w = .ok () w := by
  cases h with
  | str a =>
    have hd : d = .string := hd
    subst hd
    simp [Instr.checkKey, underlying, hu]
  | int k m =>
    have hd : d = .int _ := hd
    subst hd
    simp [Instr.checkKey, underlying, hu]
theorem KeyV.check {kk : KK} {p : PV} {x : Value} (h : KeyV kk p x) {d : TypeDesc} {kt : Nat} (hd : kindOk kk d) (hu : P.underlying kt = some d) (b : Bool) : (Instr.checkKey b 10000 kt x).run P w = .ok () w := h.checkN hd hu b 9999

theorem EntsP.len {B : Nat → Prop} : ∀ {es : List (Nat × PV × PV)} {xs : List MapEntry}, EntsP w B es xs → xs.length = es.length
  | _, _, .nil => rfl
  | _, _, .cons _ _ _ _ _ _ _ _ _ h => by simp [h.len]
theorem EntsP.app {B : Nat → Prop} : ∀ {es fs : List (Nat × PV × PV)} {xs ys : List MapEntry}, EntsP w B es xs → EntsP w B fs ys → EntsP w B (es ++ fs) (xs ++ ys)
  | _, _, _, _, .nil, k => k
  | _, _, _, _, .cons n p v x y es xs hk hv h, k => .cons n p v x y _ _ hk hv (h.app k)
theorem EntsP.borns {B : Nat → Prop} : ∀ {es : List (Nat × PV × PV)} {xs : List MapEntry}, EntsP w B es xs → xs.map (·.born) = es.map (·.1)
  | _, _, .nil => rfl
  | _, _, .cons _ _ _ _ _ _ _ _ _ h => by simp [h.borns]
theorem EntsP.mem {B : Nat → Prop} : ∀ {es : List (Nat × PV × PV)} {xs : List MapEntry}, EntsP w B es xs → ∀ x, x ∈ xs → ∃ k v, (x.born, k, v) ∈ es ∧ RepP w B k x.key ∧ RepP w B v x.val
  | _, _, .cons n k v x y es xs hk hv h, z, hz => by
    rcases List.mem_cons.1 hz with rfl | hz
    · exact ⟨k, v, by simp, hk, hv⟩
    · obtain ⟨k', v', h1, h2, h3⟩ := h.mem z hz
      exact ⟨k', v', List.mem_cons_of_mem _ h1, h2, h3⟩

theorem mSet_fst (key x : PV) : ∀ es : List (Nat × PV × PV), (mSet es key x).map (·.1) = es.map (·.1)
  | [] => rfl
  | (n, k, v) :: r => by
    unfold mSet
    split <;> simp [mSet_fst key x r]
theorem mSet_keys {kk : KK} {key x : PV} (hk : keyIs kk key = true) : ∀ {es : List (Nat × PV × PV)}, (∀ q, q ∈ es → keyIs kk q.2.1 = true) → ∀ q, q ∈ mSet es key x → keyIs kk q.2.1 = true
  | (n, k, v) :: r, h, q, hq => by
    unfold mSet at hq
    split at hq
    · rcases List.mem_cons.1 hq with rfl | hq
      · exact hk
      · exact h q (List.mem_cons_of_mem _ hq)
    · rcases List.mem_cons.1 hq with rfl | hq
      · exact h _ (by simp)
      · exact mSet_keys hk (fun z hz => h z (List.mem_cons_of_mem _ hz)) q hq
theorem mDel_mem {key : PV} : ∀ {es : List (Nat × PV × PV)}, ∀ q, q ∈ mDel es key → q ∈ es
  | (n, k, v) :: r, q, hq => by
    unfold mDel at hq
    split at hq
    · exact List.mem_cons_of_mem _ hq
    · rcases List.mem_cons.1 hq with rfl | hq
      · simp
      · exact List.mem_cons_of_mem _ (mDel_mem q hq)
theorem mDel_sub (key : PV) : ∀ es : List (Nat × PV × PV), (mDel es key).Sublist es
  | [] => .slnil
  | (n, k, v) :: r => by
    unfold mDel
    split
    · exact List.sublist_cons_self _ _
    · exact (mDel_sub key r).cons_cons _

/-- A key is looked for. -/
theorem find_ents {B : Nat → Prop} {kk : KK} {key : PV} {kv : Value} {d : TypeDesc} (hkv : KeyV kk key kv) (hd : kindOk kk d) (hkr : RepP w B key kv) : ∀ {es : List (Nat × PV × PV)} {xs : List MapEntry}, EntsP w B es xs → (∀ q, q ∈ es → keyIs kk q.2.1 = true) → ∀ i : Nat,
    (Instr.findNow d kv xs i = some none ∧ mGet es key = none) ∨
    (∃ j v x, j < xs.length ∧ Instr.findNow d kv xs i = some (some (i + j, x)) ∧ mGet es key = some v ∧ RepP w B v x ∧ (∃ z, xs[j]? = some z ∧ z.key = kv) ∧
      (∀ nv y, RepP w B nv y → EntsP w B (mSet es key nv) (xs.modify j fun z => { z with key := kv, val := y })) ∧ EntsP w B (mDel es key) (xs.eraseIdx j))
  | _, _, .nil, _, i => .inl ⟨rfl, rfl⟩
  | _, _, .cons n k v x y es xs hk hv h, hall, i => by
    have hq := keyV hk (hall _ (by simp : (n, k, v) ∈ (n, k, v) :: es))
    obtain ⟨h1, h2⟩ := hkv.same hq hd
    cases hc : keyEq key k with
    | true =>
      rw [hc] at h1
      obtain ⟨e1, e2⟩ := h2 hc
      refine .inr ⟨0, v, y, by simp, by simp [Instr.findNow, h1], by simp [mGet, hc], hv, ⟨_, rfl, e2.symm⟩, fun nv z hz => ?_, ?_⟩
      · simp only [mSet, hc, List.modify_zero_cons]
        exact .cons _ _ _ _ _ _ _ hkr hz h
      · simp only [mDel, hc, List.eraseIdx_zero, List.tail_cons]; exact h
    | false =>
      rw [hc] at h1
      rcases find_ents hkv hd hkr h (fun q hq => hall q (List.mem_cons_of_mem _ hq)) (i + 1) with ⟨k1, k2⟩ | ⟨j, v', x', k1, k2, k3, k4, ⟨z, k5, k6⟩, k7, k8⟩
      · exact .inl ⟨by simp [Instr.findNow, h1, k1], by simp [mGet, hc, k2]⟩
      · refine .inr ⟨j + 1, v', x', by simp; omega, ?_, by simp [mGet, hc, k3], k4, ⟨z, by simpa using k5, k6⟩, fun nv q hq => ?_, ?_⟩
        · simp only [Instr.findNow, h1, k2]
          rw [show i + 1 + j = i + (j + 1) by omega]
        · simp only [mSet, hc, List.modify_succ_cons]
          exact .cons _ _ _ _ _ _ _ hk hv (k7 nv q hq)
        · simp only [mDel, hc, List.eraseIdx_cons_succ]
          exact .cons _ _ _ _ _ _ _ hk hv k8
theorem run_findKey {kt : Nat} {d : TypeDesc} {kv : Value} {xs : List MapEntry} {r : Option (Nat × Value)} (hu : P.underlying kt = some d) (h : Instr.findNow d kv xs 0 = some r) : (Instr.findKey kt kv xs).run P w = .ok r w := by
  unfold Instr.findKey
  simp [underlying, hu, h]
theorem mapT_und {t : Nat} {kk : KK} {vt : Nat} (h : mapT P t = some (kk, vt)) : ∃ kt d, P.underlying t = some (.map kt vt) ∧ P.underlying kt = some d ∧ kindOk kk d := by
  unfold mapT at h
  split at h
  · rename_i kt vt' hu
    split at h
    · rename_i kk' hk
      cases h
      unfold kkOf at hk
      split at hk
      · rename_i hd; cases hk; exact ⟨kt, _, hu, hd, rfl⟩
      · rename_i k hd; cases hk; exact ⟨kt, _, hu, hd, rfl⟩
      · cases hk
    · cases h
  · cases h

theorem ok_makeMap {t : Nat} {r : Option Operand} (ho : o.op = .makeMap t r) (h : aop P (.makeMap t r) e s K) (hN : ∀ v s', K v s' → s.length < s'.length → N) (c : Cx w g σ s T N) : OpOk P o a w (Rs w g σ s T K) := by
  simp only [aop] at h
  split at h
  · rename_i kk vt ht
    rw [snoc_eq] at h
    have m := More.alloc w (.map #[] 0)
    refine .value (v := .map (some w.heap.size)) (w' := w.alloc (.map #[] 0)) ?_ ?_
    · simp [execOp, ho, Instr.makeMap]
    · refine Rs.new c m (o := .map kk [] 0) (.map kk [] 0 [] .nil m.at (fun q hq => nomatch hq) (fun q hq => nomatch hq) .nil) ?_ h (hN _ _ h (by simp))
      have := RepA.map (w := w.alloc (.map #[] 0)) (g := g.new s.length w.heap.size) (σ := σ.put s.length (.map kk [] 0)) s.length (.inr rfl) (by simp [St.put])
      simpa [G.new] using this
  · exact h.elim
end ops
end Go.Proofs.YtjhgmaephpadpaaGreat.AW

namespace Go.Proofs.YtjhgmaephpadpaaGreat.AW
set_option linter.unusedSimpArgs false
set_option linter.unusedVariables false
section ops
variable {P : Program} {o : Oper} {e : Env} {s : Store} {K : AV → Store → Prop} {w : World} {g : G} {σ : St} {a : Act} {T : Nat → Prop} {N : Prop}

theorem zeroT_run' {t : Nat} {z : PV} (hz : zeroT P t = some z) : ∃ v, (zeroValue t).run P w = .ok v w ∧ RepA w g σ (.p z) v := by
  unfold zeroT at hz
  split at hz
  · rename_i i hi
    split at hz
    · rename_i v hv
      exact ⟨v, by simp [zeroValue, typeInfo, hi, hv], .p _ _ ((absP_rep w _ 200).1 v z hz)⟩
    · cases hz
  · cases hz

theorem ok_lookup {t : Nat} {x ix : Operand} {ok : Bool} (ho : o.op = .lookup t x ix ok) (h : aop P (.lookup t x ix ok) e s K) (c : Cx w g σ s T N) (hT : ∀ id, id ∈ ids (ev e x) → T id) (he : EnvR w g σ e a.tmps) : OpOk P o a w (Rs w g σ s T K) := by
  simp only [aop, lookupA] at h
  have hx := ev_rep he x
  have hi := ev_rep he ix
  split at h
  · rename_i kk vt ht
    obtain ⟨kt, d, hu, hd, hkd⟩ := mapT_und ht
    split at h
    · rename_i z key hz hkey
      rw [hkey] at hi
      have hkr := hi.inv_p
      obtain ⟨zv, hzr, hzp⟩ := zeroT_run' (w := w) (g := g) (σ := σ) hz
      split at h
      · rename_i id hev
        rw [hev] at hx
        obtain ⟨hp, hC, hb⟩ := hx.inv_map
        split at h
        · rename_i kk' es clock hg
          split at h
          · rename_i hc
            simp only [Bool.and_eq_true, decide_eq_true_eq] at hc
            obtain ⟨rfl, hkk⟩ := hc
            have hkv := keyV hkr hkk
            have hTi := hT id (by rw [hev]; simp [ids, ids1])
            have hs : σ id = some (.map kk' es clock) := (c.agree id hTi).trans hg
            unfold Opt at h
            cases c.inv.rep _ _ hs (c.inv.real hs (by simp)) with
            | map _ _ _ xs hE hw hk hcl hn =>
              have hchk := fun b => hkv.check (P := P) (w := w) hkd hd b
              rcases find_ents hkv hkd hkr hE hk 0 with ⟨h1, h2⟩ | ⟨j, v, y, _, h1, h2, h3, _⟩
              · have hf := run_findKey (w := w) hd h1
                have hk := h.2 h2
                cases ok with
                | true =>
                  refine .value (v := .tuple #[zv, .bool false]) (w' := w) ?_ (.pure c hk (.tup _ [_, _] (.cons _ _ _ _ hzp (.cons _ _ _ _ (.mkBool _) .nil))))
                  simp [execOp, ho, Instr.lookup, underlying, hu, hp, getObj, Sem.run, hw, hchk, hf, hzr]
                | false =>
                  refine .value (v := zv) (w' := w) ?_ (.pure c hk hzp)
                  simp [execOp, ho, Instr.lookup, underlying, hu, hp, getObj, Sem.run, hw, hchk, hf, hzr]
              · have hf := run_findKey (w := w) hd h1
                have hk := h.1 v h2
                cases ok with
                | true =>
                  refine .value (v := .tuple #[y, .bool true]) (w' := w) ?_ (.pure c hk (.tup _ [_, _] (.cons _ _ _ _ (.p _ _ h3) (.cons _ _ _ _ (.mkBool _) .nil))))
                  simp [execOp, ho, Instr.lookup, underlying, hu, hp, getObj, Sem.run, hw, hchk, hf]
                | false =>
                  refine .value (v := y) (w' := w) ?_ (.pure c hk (.p _ _ h3))
                  simp [execOp, ho, Instr.lookup, underlying, hu, hp, getObj, Sem.run, hw, hchk, hf]
          · exact h.elim
        · exact h.elim
      · rename_i hev
        rw [hev] at hx
        have hpx : a.eval x = .map none := by
          generalize a.eval x = ax at *
          cases hx.inv_p; rfl
        have hnil : (Instr.findKey kt (a.eval ix) []).run P w = .ok none w := run_findKey (w := w) hd rfl
        split at h
        · rename_i hkk
          have hchk := fun b => (keyV hkr hkk).check (P := P) (w := w) hkd hd b
          refine .value (v := .tuple #[zv, .bool false]) (w' := w) ?_ (.pure c h (.tup _ [_, _] (.cons _ _ _ _ hzp (.cons _ _ _ _ (.mkBool _) .nil))))
          simp [execOp, ho, Instr.lookup, underlying, hu, hpx, hchk, hnil, hzr]
        · rename_i hkk
          have hchk := fun b => (keyV hkr hkk).check (P := P) (w := w) hkd hd b
          refine .value (v := zv) (w' := w) ?_ (.pure c h hzp)
          simp [execOp, ho, Instr.lookup, underlying, hu, hpx, hchk, hnil, hzr]
        · exact h.elim
      · exact h.elim
    · exact h.elim
  · exact h.elim

/-- A map's block bears other entries. -/
theorem Rs.setMap {x : Value} {v : AV} (c : Cx w g σ s T N) {id : Nat} {kk : KK} {es es' : List (Nat × PV × PV)} {clock clock' : Nat} (hT : T id) (hs : getO s id = some (.map kk es clock)) (hR : g.R id) {xs' : List MapEntry}
    (hE : EntsP w (Lv g σ) es' xs') (hk : ∀ q, q ∈ es' → keyIs kk q.2.1 = true) (hc : ∀ q, q ∈ es' → q.1 < clock') (hn : (es'.map (·.1)).Nodup) (hw : ∃ ys cl, w.heap[g.ι id]? = some (.map ys cl)) (hv : RepA w g σ v x) (hK : K v (s.set id (some (.map kk es' clock')))) :
    Rs w g σ s T K x { w with heap := w.heap.setIfInBounds (g.ι id) (.map xs'.toArray clock') } := by
  have hσ : σ id = some (.map kk es clock) := (c.agree id hT).trans hs
  have hsz := (c.inv.lies _ _ hσ hR).1
  obtain ⟨ys, cl, hw⟩ := hw
  have hat : (w.heap.setIfInBounds (g.ι id) (.map xs'.toArray clock'))[g.ι id]? = some (.map xs'.toArray clock') := by simp [hsz]
  refine Rs.set c hT hs hR (o' := .map kk es' clock') rfl ⟨by simp, rfl, rfl, rfl, fun k hk' => ?_, ?_, Nat.le_refl _⟩ (fun hx => ?_) (fun hx => hx.repA hv) hK
  · simp [Array.getElem?_setIfInBounds_ne (Ne.symm hk')]
  · simp [World.shape?, hat, hw]
  · exact .map kk es' clock' xs' (hE.keep hx.mem hx.lv) hat hk hc hn

theorem delete_run {t : Nat} {args : Array Operand} {ts : Array TypeId} {rest : List TypeId} {x ix : Operand} (ho : o.op = .call ⟨.builtin .delete, args, ts⟩) (hargs : args = #[x, ix]) (hts : ts.toList = t :: rest) (h : deleteA P t (ev e x) (ev e ix) s K) (c : Cx w g σ s T N)
    (hT : ∀ id, id ∈ ids (ev e x) → T id) (he : EnvR w g σ e a.tmps) : OpOk P o a w (Rs w g σ s T K) := by
  have hts' : ts[0]? = some t := by rw [← Array.getElem?_toList, hts]; rfl
  subst hargs
  unfold deleteA at h
  have hx := ev_rep he x
  have hi := ev_rep he ix
  split at h
  · rename_i kk vt id key ht hev hkey
    obtain ⟨kt, d, hu, hd, hkd⟩ := mapT_und ht
    rw [hev] at hx
    rw [hkey] at hi
    have hkr := hi.inv_p
    obtain ⟨hp, hC, hb⟩ := hx.inv_map
    split at h
    · rename_i kk' es clock hg
      split at h
      · rename_i hc
        simp only [Bool.and_eq_true, decide_eq_true_eq] at hc
        obtain ⟨rfl, hkk⟩ := hc
        have hkv := keyV hkr hkk
        have hTi := hT id (by rw [hev]; simp [ids, ids1])
        have hs : σ id = some (.map kk' es clock) := (c.agree id hTi).trans hg
        have hR := c.inv.real hs (by simp)
        rw [setK_eq] at h
        cases c.inv.rep _ _ hs hR with
        | map _ _ _ xs hE hw hk hcl hn =>
          have hchk := fun b => hkv.check (P := P) (w := w) hkd hd b
          rcases find_ents hkv hkd hkr hE hk 0 with ⟨h1, h2⟩ | ⟨j, v, y, hj, h1, h2, h3, _, _, h8⟩
          · have hf := run_findKey (w := w) hd h1
            have hne : mDel es key = es := by
              clear h hE hw hk hcl hn h1 hf hs hg
              induction es with
              | nil => rfl
              | cons q r ih =>
                obtain ⟨n, k, v⟩ := q
                unfold mGet at h2
                split at h2
                · cases h2
                · rename_i hq
                  unfold mDel; rw [hq]; simp only; rw [ih h2]
            rw [hne] at h
            refine .value (v := .tuple #[]) (w' := { w with heap := w.heap.setIfInBounds (g.ι id) (.map xs.toArray clock) }) ?_ (Rs.setMap c hTi hg hR hE hk hcl hn ⟨_, _, hw⟩ (.tup _ [] .nil) h)
            simp [execOp, ho, resolve, invoke, builtin, Builtin.delete_, hts', underlying, hu, hp, getObj, setObj, Sem.run, hw, hchk, hf]
          · have hf := run_findKey (w := w) hd h1
            rw [Nat.zero_add] at hf
            refine .value (v := .tuple #[]) (w' := { w with heap := w.heap.setIfInBounds (g.ι id) (.map (xs.eraseIdx j).toArray clock) }) ?_
              (Rs.setMap c hTi hg hR h8 (fun q hq => hk q (mDel_mem q hq)) (fun q hq => hcl q (mDel_mem q hq)) (((mDel_sub key es).map _).nodup hn) ⟨_, _, hw⟩ (.tup _ [] .nil) h)
            simp [execOp, ho, resolve, invoke, builtin, Builtin.delete_, hts', underlying, hu, hp, getObj, setObj, Sem.run, hw, hchk, hf]
      · exact h.elim
    · exact h.elim
  · exact h.elim

/-! ### Ranging over a map -/
theorem rangeM {t k u : Nat} {x : Operand} {id : Nat} {kk : KK} {es : List (Nat × PV × PV)} {clock : Nat} (ho : o.op = .range t x) (hu : P.underlying t = some (.map k u)) (hev : ev e x = .map id) (hg : getO s id = some (.map kk es clock))
    (h : K (.it s.length) (s ++ [some (.iterM id (es.map (·.1)) (es.map (·.1), none))])) (hN : N) (c : Cx w g σ s T N) (hT : T id) (he : EnvR w g σ e a.tmps) : OpOk P o a w (Rs w g σ s T K) := by
  have hx := ev_rep he x
  rw [hev] at hx
  obtain ⟨hp, hC, hb⟩ := hx.inv_map
  have hs : σ id = some (.map kk es clock) := (c.agree id hT).trans hg
  cases c.inv.rep _ _ hs (c.inv.real hs (by simp)) with
  | map _ _ _ xs hE hw hk hcl hn =>
    have m := More.alloc w (.mapIter (some (g.ι id)) clock #[] clock)
    have hlt := getO_lt hg
    have hne : id ≠ s.length := by omega
    refine .value (v := .pointer (some ⟨w.heap.size, 0, none⟩)) (w' := w.alloc (.mapIter (some (g.ι id)) clock #[] clock)) ?_ ?_
    · simp [execOp, ho, Instr.range, underlying, hu, hp, getObj, Sem.run, hw]
    · refine Rs.new c m (o := .iterM id (es.map (·.1)) (es.map (·.1), none)) ?_ ?_ h hN
      · refine .iterM id _ _ clock clock #[] (.inl hC) ?_ ?_ ?_ ?_
        · simp only [St.put, if_neg hne]; exact hb
        · exact ⟨by rw [eq_comm, List.filter_eq_self]; intro y _; simp, fun b c q => by cases q⟩
        · intro y hy
          obtain ⟨q, hq, rfl⟩ := List.mem_map.1 hy
          exact ⟨hcl q hq, hcl q hq⟩
        · have := m.at
          simpa [G.new, hne] using this
      · have := RepA.it (w := w.alloc (.mapIter (some (g.ι id)) clock #[] clock)) (g := g.new s.length w.heap.size) (σ := σ.put s.length (.iterM id (es.map (·.1)) (es.map (·.1), none))) s.length (.inr rfl) (by simp [St.put])
        simpa [G.new] using this

theorem run_pick (n : Nat) (hn : 1 ≤ n) : ∃ j w1, j < n ∧ (choose (.mapNext n)).run P w = .ok j w1 ∧ w1.heap = w.heap ∧ w1.os = w.os ∧ w1.tape = w.tape ∧ w1.output = w.output ∧ w.drawn ≤ w1.drawn := by
  rw [run_choose]
  by_cases hf : (Question.mapNext n).forced = true
  · rw [if_pos hf]; exact ⟨0, w, by omega, rfl, rfl, rfl, rfl, rfl, Nat.le_refl _⟩
  · rw [if_neg hf]
    exact ⟨_, _, Nat.mod_lt _ (by omega), rfl, rfl, rfl, rfl, rfl, Nat.le_succ _⟩

theorem nextM {x : Operand} {id mid : Nat} {bs : List Nat} {left : List Nat × Option (Nat × Nat)} {kk : KK} {es : List (Nat × PV × PV)} {clock : Nat} (ho : o.op = .next x false) (hev : ev e x = .it id) (hg : getO s id = some (.iterM mid bs left)) (hgm : getO s mid = some (.map kk es clock))
    (h : Ob (es.map (·.1) = bs) (BrL left.1 (K (.tup [.p (.bool false)]) s)
            (Any left.1 es fun b k v => setK s id (.iterM mid bs (left.1.filter fun x => !(x == b), some (b, clock))) (K (.tup [.p (.bool true), .p k, .p v])))))
    (c : Cx w g σ s T N) (hT : T id) (hTm : T mid) (he : EnvR w g σ e a.tmps) : OpOk P o a w (Rs w g σ s T K) := by
  have hx := ev_rep he x
  rw [hev] at hx
  obtain ⟨hp, hC⟩ := hx.inv_it
  unfold Ob at h
  obtain ⟨hbs, h⟩ := h
  unfold BrL Any at h
  have hs : σ id = some (.iterM mid bs left) := (c.agree id hT).trans hg
  have hsm : σ mid = some (.map kk es clock) := (c.agree mid hTm).trans hgm
  have hR := c.inv.real hs (by simp)
  cases c.inv.rep _ _ hsm (c.inv.real hsm (by simp)) with
  | map _ _ _ xs hE hwm hk hcl hn =>
    cases c.inv.rep _ _ hs hR with
    | iterM _ _ _ since last seen hCm hnm hl hsn hw =>
      have hborn := hE.borns
      -- what is left, as the model has it
      obtain ⟨lf, hlf⟩ : ∃ lf, lf = xs.filter fun z => !seen.contains z.born := ⟨_, rfl⟩
      obtain ⟨hl, _⟩ := hl
      have hlb : lf.map (·.born) = left.1 := by
        rw [hl, hlf, ← hbs, ← hborn, List.filter_map]; rfl
      have hall : ∀ z, z ∈ lf → z.born < since ∧ z.born < last := fun z hz => by
        rw [hlf] at hz
        have hz := (List.mem_filter.1 hz).1
        exact hsn _ (by rw [← hbs, ← hborn]; exact List.mem_map.2 ⟨z, hz, rfl⟩)
      have hxall : ∀ z, z ∈ xs → z.born < since ∧ z.born < last := fun z hz => hsn _ (by rw [← hbs, ← hborn]; exact List.mem_map.2 ⟨z, hz, rfl⟩)
      have hgone : (!seen.isEmpty && !xs.toArray.isEmpty && xs.toArray.all (fun z => decide (z.born ≥ last))) = false := by
        cases xs with
        | nil => simp
        | cons z r =>
          have := (hxall z (by simp)).2
          have hz : decide (z.born ≥ last) = false := decide_eq_false (by omega)
          simp [hz]
      have hleft : (xs.toArray.filter fun z => !seen.contains z.born) = lf.toArray := by rw [hlf]; simp
      have hold : (lf.toArray.filter fun z => decide (z.born < since)) = lf.toArray := by
        apply Array.toList_inj.1
        simp only [Array.toList_filter]
        rw [List.filter_eq_self]
        exact fun z hz => decide_eq_true (hall z hz).1
      have hnew : (lf.toArray.filter fun z => decide (z.born ≥ since)) = #[] := by
        apply Array.toList_inj.1
        simp only [Array.toList_filter]
        rw [List.filter_eq_nil_iff]
        intro z hz q
        have := (hall z hz).1
        have := of_decide_eq_true q
        omega
      have hget : (getObj (g.ι id)).run P w = .ok (.mapIter (some (g.ι mid)) since seen last) w := by simp [getObj, Sem.run, hw]
      have hgetm : (getObj (g.ι mid)).run P w = .ok (.map xs.toArray clock) w := by simp [getObj, Sem.run, hwm]
      by_cases hne : left.1 = []
      · have hk0 := h.1 hne
        have hlf0 : lf = [] := by
          have := congrArg List.length hlb
          rw [hne] at this; simpa using this
        subst hlf0
        refine .value (v := .tuple #[.bool false]) (w' := w) ?_ (.pure c hk0 (.tup _ [_] (.cons _ _ _ _ (.mkBool _) .nil)))
        have hrun : (Instr.next (.pointer (some ⟨g.ι id, 0, none⟩)) false o.type).run P w = .ok (.tuple #[.bool false]) w := by
          unfold Instr.next
          simp only [Sem.run_bind, hget, hgetm, Result.andThen_ok, hgone, Bool.false_eq_true, if_false, hleft, hold, hnew]
          have e0 : ((if (#[] : Array MapEntry).isEmpty = true then #[none] else #[]) ++ Array.map some (#[] ++ #[])) = (#[none] : Array (Option MapEntry)) := by simp
          rw [e0]
          have hch : (choose (.mapNext (#[none] : Array (Option MapEntry)).size)).run P w = .ok 0 w := by simp [Question.forced]
          rw [hch]
          simp
        simp [execOp, ho, hp, hrun]
      · have hk1 := h.2 hne
        have hlen : lf.length = left.1.length := by rw [← hlb, List.length_map]
        have hpos : 1 ≤ lf.length := by
          have := List.length_pos_iff.2 hne; omega
        obtain ⟨j, w1, hj, hch, w1h, w1o, w1t, w1u, w1d⟩ := run_pick (P := P) (w := w) lf.length hpos
        obtain ⟨z, hz⟩ : ∃ z, lf[j]? = some z := ⟨_, List.getElem?_eq_getElem hj⟩
        have hzl := List.mem_of_getElem? hz
        have hzx : z ∈ xs := by rw [hlf] at hzl; exact (List.mem_filter.1 hzl).1
        obtain ⟨k, v, hkv, hrk, hrv⟩ := hE.mem z hzx
        have hbl : z.born ∈ left.1 := by rw [← hlb]; exact List.mem_map.2 ⟨z, hzl, rfl⟩
        have hk2 := hk1 z.born k v hbl hkv
        simp only [setK_eq] at hk2
        have hrun : (Instr.next (.pointer (some ⟨g.ι id, 0, none⟩)) false o.type).run P w = .ok (.tuple #[.bool true, z.key, z.val]) { w1 with heap := w1.heap.setIfInBounds (g.ι id) (.mapIter (some (g.ι mid)) since (seen.push z.born) clock) } := by
          unfold Instr.next
          simp only [Sem.run_bind, hget, hgetm, Result.andThen_ok, hgone, Bool.false_eq_true, if_false, hleft, hold, hnew]
          have e0 : ((if lf.toArray.isEmpty = true then #[none] else #[]) ++ Array.map some (lf.toArray ++ #[])) = (lf.map some).toArray := by
            have : lf ≠ [] := fun q => by rw [q] at hpos; simp at hpos
            have q : lf.toArray.isEmpty = false := by simpa using this
            rw [q]; simp
          rw [e0]
          have e1 : (lf.map some).toArray.size = lf.length := by simp
          rw [e1, hch]
          have e2 : (lf.map some).toArray[j]? = some (some z) := by simp [hz]
          simp only [Result.andThen_ok, e2]
          simp [setObj, Sem.run, w1h, hw]
        refine .value (v := .tuple #[.bool true, z.key, z.val]) (w' := { w1 with heap := w1.heap.setIfInBounds (g.ι id) (.mapIter (some (g.ι mid)) since (seen.push z.born) clock) }) (by simp [execOp, ho, hp, hrun]) ?_
        have hsz := (c.inv.lies _ _ hs hR).1
        have hat : (w1.heap.setIfInBounds (g.ι id) (.mapIter (some (g.ι mid)) since (seen.push z.born) clock))[g.ι id]? = some (.mapIter (some (g.ι mid)) since (seen.push z.born) clock) := by rw [w1h]; simp [hsz]
        refine Rs.set c hT hg hR (o' := .iterM mid bs (left.1.filter fun x => !(x == z.born), some (z.born, clock))) trivial ⟨by simp [w1h], w1o, w1t, w1u, fun q hq => ?_, ?_, w1d⟩ (fun hx => ?_) (fun hx => ?_) hk2
        · show (w1.heap.setIfInBounds _ _)[q]? = _
          rw [w1h]; simp [Array.getElem?_setIfInBounds_ne (Ne.symm hq)]
        · simp [World.shape?, hat, hw]
        · refine .iterM mid bs _ since clock (seen.push z.born) hCm ?_ ?_ (fun y hy => ⟨(hsn y hy).1, ?_⟩) hat
          · exact hx.notBuf hCm hnm
          · refine ⟨?_, fun b c q => by cases q; exact ⟨by simp, rfl⟩⟩
            show left.1.filter (fun x => !(x == z.born)) = _
            rw [hl, List.filter_filter]
            apply List.filter_congr
            intro y _
            simp only [Array.contains_push]
            cases hyz : (y == z.born) <;> cases seen.contains y <;> simp
          · rw [← hbs] at hy
            obtain ⟨q, hq, rfl⟩ := List.mem_map.1 hy
            exact hcl q hq
        · exact .tup _ [_, _, _] (.cons _ _ _ _ (.mkBool _) (.cons _ _ _ _ (.p _ _ (hx.repP hrk)) (.cons _ _ _ _ (.p _ _ (hx.repP hrv)) .nil)))

theorem entryM {x : Operand} {id mid : Nat} {bs l : List Nat} {b cl : Nat} {kk : KK} {es : List (Nat × PV × PV)} {clock : Nat} (ho : o.op = .entry x) (hev : ev e x = .it id) (hg : getO s id = some (.iterM mid bs (l, some (b, cl)))) (hgm : getO s mid = some (.map kk es clock))
    (h : Ob (cl = clock) (∃ k v, Ob ((b, k, v) ∈ es) (K (.tup [.p k, .p v]) s))) (c : Cx w g σ s T N) (hT : T id) (hTm : T mid) (he : EnvR w g σ e a.tmps) : OpOk P o a w (Rs w g σ s T K) := by
  have hx := ev_rep he x
  rw [hev] at hx
  obtain ⟨hp, hC⟩ := hx.inv_it
  unfold Ob at h
  obtain ⟨hcl0, k, v, hmem, hk⟩ := h
  subst hcl0
  have hs : σ id = some (.iterM mid bs (l, some (b, cl))) := (c.agree id hT).trans hg
  have hsm : σ mid = some (.map kk es cl) := (c.agree mid hTm).trans hgm
  have hR := c.inv.real hs (by simp)
  cases c.inv.rep _ _ hsm (c.inv.real hsm (by simp)) with
  | map _ _ _ xs hE hwm hkk hcl hn =>
    cases c.inv.rep _ _ hs hR with
    | iterM _ _ _ since last seen hCm hnm hl hsn hw =>
      obtain ⟨hb, hlast⟩ := hl.2 b cl rfl
      subst hlast
      have hget : (getObj (g.ι id)).run P w = .ok (.mapIter (some (g.ι mid)) since seen last) w := by simp [getObj, Sem.run, hw]
      have hgetm : (getObj (g.ι mid)).run P w = .ok (.map xs.toArray last) w := by simp [getObj, Sem.run, hwm]
      have find : ∀ {es : List (Nat × PV × PV)} {xs : List MapEntry}, EntsP w (Lv g σ) es xs → (es.map (·.1)).Nodup → (b, k, v) ∈ es → ∃ z, xs.find? (fun z => z.born == b) = some z ∧ RepP w (Lv g σ) k z.key ∧ RepP w (Lv g σ) v z.val := by
        intro es xs hE
        induction hE with
        | nil => intro _ hm; cases hm
        | cons n p q x y es xs hp hq h ih =>
          intro hn hm
          rw [List.map_cons, List.nodup_cons] at hn
          by_cases hnb : n = b
          · subst hnb
            rcases List.mem_cons.1 hm with hm | hm
            · cases hm; exact ⟨_, by rw [List.find?_cons_of_pos (by simp)], hp, hq⟩
            · exact absurd (List.mem_map.2 ⟨_, hm, rfl⟩) hn.1
          · rcases List.mem_cons.1 hm with hm | hm
            · cases hm; exact absurd rfl hnb
            · obtain ⟨z, h1, h2⟩ := ih hn.2 hm
              exact ⟨z, by rw [List.find?_cons_of_neg (by simpa using hnb)]; exact h1, h2⟩
      obtain ⟨z, hz, hrk, hrv⟩ := find hE hn hmem
      refine .value (v := .tuple #[z.key, z.val]) (w' := w) ?_ (.pure c hk (.tup _ [_, _] (.cons _ _ _ _ (.p _ _ hrk) (.cons _ _ _ _ (.p _ _ hrv) .nil))))
      have hrun : (Instr.entry (.pointer (some ⟨g.ι id, 0, none⟩))).run P w = .ok (.tuple #[z.key, z.val]) w := by
        unfold Instr.entry
        have hz' : xs.toArray.find? (fun z => z.born == b) = some z := by simpa using hz
        simp only [Sem.run_bind, hget, hgetm, Result.andThen_ok, hb, bne_self_eq_false, Bool.false_eq_true, if_false, hz']
        rfl
      simp [execOp, ho, hp, hrun]
end ops
end Go.Proofs.YtjhgmaephpadpaaGreat.AW

namespace Go.Proofs.YtjhgmaephpadpaaGreat.AW
set_option linter.unusedSimpArgs false
set_option linter.unusedVariables false
section ops
variable {P : Program} {o : Oper} {e : Env} {s : Store} {K : AV → Store → Prop} {w : World} {g : G} {σ : St} {a : Act} {T : Nat → Prop} {N : Prop}

theorem CellsP.drop {B : Nat → Prop} {b : Nat} : ∀ (n : Nat) {cs : List PV} {off : Nat}, CellsP w B b off cs → CellsP w B b (off + n) (cs.drop n)
  | 0, _, _, h => h
  | n + 1, _, off, .nil _ _ => .nil _ _
  | n + 1, _, off, .cons _ _ v x vs hc h hs => by
    rw [show off + (n + 1) = off + 1 + n by omega]; exact hs.drop n
theorem CellsP.take {B : Nat → Prop} {b : Nat} : ∀ (n : Nat) {cs : List PV} {off : Nat}, CellsP w B b off cs → CellsP w B b off (cs.take n)
  | 0, _, _, _ => .nil _ _
  | _n + 1, _, _off, .nil _ _ => .nil _ _
  | n + 1, _, _off, .cons _ _ v x vs hc h hs => .cons _ _ v x _ hc h (hs.take n)

theorem flat_dropN {sz : Nat} : ∀ (n : Nat) (l : List PV), (∀ z, z ∈ l → El sz z) → flat (l.drop n) = (flat l).drop (n * sz)
  | 0, l, _ => by simp
  | n + 1, [], _ => by simp [flat]
  | n + 1, z :: l, hl => by
    have hz := (hl z (by simp)).1
    rw [List.drop_succ_cons, flat_dropN n l (fun q hq => hl q (List.mem_cons_of_mem _ hq))]
    show _ = (z.cells ++ flat l).drop _
    rw [show (n + 1) * sz = z.cells.length + n * sz by rw [hz, Nat.succ_mul]; omega, ← List.drop_drop, List.drop_left' rfl]
theorem flat_takeN {sz : Nat} : ∀ (n : Nat) (l : List PV), (∀ z, z ∈ l → El sz z) → flat (l.take n) = (flat l).take (n * sz)
  | 0, l, _ => by simp [flat]
  | n + 1, [], _ => by simp [flat]
  | n + 1, z :: l, hl => by
    have hz := (hl z (by simp)).1
    rw [List.take_succ_cons]
    show z.cells ++ flat (l.take n) = (z.cells ++ flat l).take _
    rw [flat_takeN n l (fun q hq => hl q (List.mem_cons_of_mem _ hq)), show (n + 1) * sz = z.cells.length + n * sz by rw [hz, Nat.succ_mul]; omega, List.take_append, List.take_of_length_le (l := z.cells) (Nat.le_add_right _ _), Nat.add_sub_cancel_left]

theorem ok_fieldAddr {t f : Nat} {x : Operand} (ho : o.op = .fieldAddr t x f) (h : aop P (.fieldAddr t x f) e s K) (c : Cx w g σ s T N) (he : EnvR w g σ e a.tmps) : OpOk P o a w (Rs w g σ s T K) := by
  simp only [aop] at h
  have hx := ev_rep he x
  split at h
  · rename_i fd hf
    unfold fldT at hf
    split at hf
    · rename_i fs hd
      have hu := und hd (by simp)
      split at h
      · rename_i i hi
        have fin : ∀ {b : Addr} {v : AV}, Nat.ble 1 i.size = true → a.eval x = .pointer (some b) → K v s → RepA w g σ v (.pointer (some (b.add fd.offset))) → OpOk P o a w (Rs w g σ s T K) := by
          intro b v h1 hp hk hr
          have h1 := Nat.le_of_ble_eq_true h1
          refine .value (v := .pointer (some (b.add fd.offset))) (w' := w) ?_ (.pure c hk hr)
          have : ¬ i.size = 0 := by omega
          simp [execOp, ho, Instr.fieldAt, underlying, hu, hf, Instr.sureAddr, hp, fieldPlace, sizeOf, typeInfo, hi, this]
        split at h
        · rename_i id off h1 hev
          rw [hev] at hx
          obtain ⟨hp, hc, hb⟩ := hx.inv_ref
          exact fin h1 hp h (by rw [add_addr]; exact .ref id _ hc hb)
        · rename_i id tot j sub h1 hev
          rw [hev] at hx
          generalize hax : a.eval x = ax at *
          cases hx with
          | eptr _ _ _ _ ad hc ht hh =>
            refine fin h1 rfl h (.eptr id tot j _ _ hc ht (fun sz xs ty hs hl => ?_))
            obtain ⟨k1, k2⟩ := hh sz xs ty hs hl
            exact ⟨by rw [k1, add_addr, Nat.add_assoc], k2⟩
        · rename_i cs h1 hev
          rw [hev] at hx
          obtain ⟨b, off, hp, hc, hb⟩ := hx.inv_pto
          refine fin h1 hp h ?_
          rw [add_addr]
          refine .p _ _ (.pto _ b _ (fun hne => hb (fun e => hne (by rw [e]; simp))) (hc.drop _))
        · exact h.elim
      · exact h.elim
    · cases hf
  · exact h.elim

theorem ok_indexAddr {t : Nat} {x ix : Operand} (ho : o.op = .indexAddr t x ix) (h : aop P (.indexAddr t x ix) e s K) (c : Cx w g σ s T N) (hG : Gk P w g σ) (hT : ∀ id, id ∈ ids (ev e x) → T id) (he : EnvR w g σ e a.tmps) : OpOk P o a w (Rs w g σ s T K) := by
  simp only [aop] at h
  have hx := ev_rep he x
  have hi := ev_rep he ix
  split at h
  · rename_i gi hgi
    have hxg : x = .global gi := by cases x <;> simp [globalOf] at hgi; rw [hgi]
    subst hxg
    unfold idxG at h
    split at h
    · rename_i k i n el hevi hd
      rw [hevi] at hi
      have hi := hi.inv_int
      have hu := und hd (by simp)
      split at h
      · rename_i inf hinf
        split at h
        case h_2 => exact h.elim
        rename_i hsz
        have hsz := Nat.eq_of_beq_eq_true hsz
        obtain ⟨cs, hgl, hk⟩ := h
        unfold Ob Idx at hk
        obtain ⟨⟨h0, h1⟩, _, y, hy, hk⟩ := hk
        obtain ⟨q1, q2, q3⟩ := hG gi cs hgl
        have hone : (cs.drop i.toNat).take 1 = [y] := by
          rw [List.drop_eq_getElem_cons (List.getElem?_eq_some_iff.1 hy).1]
          simp [(List.getElem?_eq_some_iff.1 hy).2]
        refine .value (v := .pointer (some ((⟨gi, 0, none⟩ : Addr).add (i.toNat * inf.size)))) (w' := w) ?_ (.pure c hk (by
          rw [add_addr, hsz, Nat.mul_one]
          have := (q3.drop i.toNat).take 1
          rw [hone] at this
          exact .p _ _ (.pto _ gi _ (fun _ => q2) this)))
        have hgv : a.eval (.global gi) = .pointer (some ⟨gi, 0, none⟩) := rfl
        simp [execOp, ho, Instr.indexAt, hi, asIntOf, underlying, hu, hgv, Instr.sureAddr, h0, h1, sizeOf, typeInfo, hinf]
      · exact h.elim
    · exact h.elim
  split at h
  · rename_i k i hevi
    rw [hevi] at hi
    have hi := hi.inv_int
    split at h
    · rename_i n el id off hd hev
      have hu := und hd (by simp)
      rw [hev] at hx
      obtain ⟨hp, hc, hb⟩ := hx.inv_ref
      split at h
      · rename_i inf hinf
        unfold Ob at h
        obtain ⟨⟨h0, h1⟩, hk⟩ := h
        refine .value (v := .pointer (some ((⟨g.ι id, off, none⟩ : Addr).add (i.toNat * inf.size)))) (w' := w) ?_ (.pure c hk (by rw [add_addr]; exact .ref id _ hc hb))
        simp [execOp, ho, Instr.indexAt, hi, asIntOf, underlying, hu, hp, Instr.sureAddr, h0, h1, sizeOf, typeInfo, hinf]
      · exact h.elim
    · rename_i n el id tot j sub hd hev
      have hu := und hd (by simp)
      rw [hev] at hx
      split at h
      · rename_i inf sz xs ty hinf hg
        split at h
        · rename_i hsz
          have hsz := Nat.eq_of_beq_eq_true hsz
          split at h
          · unfold Ob at h
            obtain ⟨⟨ht, h0, h1⟩, hk⟩ := h
            have hs : σ id = some (.buf sz xs ty) := (c.agree id (hT id (by rw [hev]; simp [ids, ids1]))).trans hg
            have hp := hx.inv_eptr hs ht
            simp only [Nat.zero_mul, Nat.zero_add] at hp
            refine .value (v := .pointer (some ((⟨g.ι id, 0, none⟩ : Addr).add (i.toNat * inf.size)))) (w' := w) ?_ (.pure c hk ?_)
            · simp [execOp, ho, Instr.indexAt, hi, asIntOf, underlying, hu, hp, Instr.sureAddr, h0, h1, sizeOf, typeInfo, hinf]
            · rw [add_addr, hsz]
              obtain ⟨ad, _, hC, htt, hd'⟩ := hx.inv_eptr2
              refine .eptr id tot _ _ _ hC htt (fun sz' xs' ty' hs' hl' => ?_)
              have hR := (hd' _ _ _ hs' hl').2
              rw [hs] at hs'; cases hs'
              exact ⟨by simp, hR⟩
          · exact h.elim
        · unfold Ob at h
          obtain ⟨⟨ht, h0, h1⟩, hk⟩ := h
          have hs : σ id = some (.buf sz xs ty) := (c.agree id (hT id (by rw [hev]; simp [ids, ids1]))).trans hg
          have hp := hx.inv_eptr hs ht
          refine .value (v := .pointer (some ((⟨g.ι id, j * sz + sub, none⟩ : Addr).add (i.toNat * inf.size)))) (w' := w) ?_ (.pure c hk ?_)
          · simp [execOp, ho, Instr.indexAt, hi, asIntOf, underlying, hu, hp, Instr.sureAddr, h0, h1, sizeOf, typeInfo, hinf]
          · rw [add_addr]
            obtain ⟨ad, _, hC, htt, hd'⟩ := hx.inv_eptr2
            refine .eptr id tot _ _ _ hC htt (fun sz' xs' ty' hs' hl' => ?_)
            have hR := (hd' _ _ _ hs' hl').2
            rw [hs] at hs'; cases hs'
            exact ⟨by rw [Nat.add_assoc], hR⟩
      · exact h.elim
    · rename_i n el cs hd hev
      have hu := und hd (by simp)
      rw [hev] at hx
      obtain ⟨b, off, hp, hcs, hnb⟩ := hx.inv_pto
      split at h
      · rename_i inf hinf
        unfold Ob at h
        obtain ⟨⟨h0, h1⟩, hk⟩ := h
        refine .value (v := .pointer (some ((⟨b, off, none⟩ : Addr).add (i.toNat * inf.size)))) (w' := w) ?_ (.pure c hk ?_)
        · simp [execOp, ho, Instr.indexAt, hi, asIntOf, underlying, hu, hp, Instr.sureAddr, h0, h1, sizeOf, typeInfo, hinf]
        · rw [add_addr]
          exact .p _ _ (.pto _ b _ (fun hne => hnb (fun e => hne (by rw [e]; simp))) (hcs.drop _))
      · exact h.elim
    · rename_i el k' sz xs hd hev
      have hu := und hd (by simp)
      rw [hev] at hx
      split at h
      · rename_i inf hinf
        split at h
        · rename_i hsz
          have hsz := Nat.eq_of_beq_eq_true hsz
          unfold Idx at h
          obtain ⟨h0, y, hy, hk⟩ := h
          generalize hax : a.eval x = ax at *
          cases hx.inv_p with
          | nil => simp at hy
          | spt => simp at hy
          | sl _ _ _ b off cap hk' hc hl hs hb hcells =>
            have hlt : i.toNat < xs.length := (List.getElem?_eq_some_iff.1 hy).1
            refine .value (v := .pointer (some ((⟨b, off, none⟩ : Addr).add (i.toNat * inf.size)))) (w' := w) ?_ (.pure c hk ?_)
            · have h1 : i < (xs.length : Int) := by omega
              simp [execOp, ho, hax, Instr.indexAt, hi, asIntOf, underlying, hu, h0, h1, sizeOf, typeInfo, hinf]
            · rw [add_addr, hsz]
              have hd' := flat_drop hs hy
              have hne : ∀ q : y.cells ≠ [], flat xs ≠ [] := fun q e => by
                rw [e] at hd'; simp at hd'; exact q hd'.1
              have := (hcells.drop (i.toNat * sz)).take y.cells.length
              rw [hd', List.take_left' rfl] at this
              exact .p _ _ (.pto _ b _ (fun q => hb (hne q)) this)
        · exact h.elim
      · exact h.elim
    · rename_i el id tot off len hd hev
      have hu := und hd (by simp)
      rw [hev] at hx
      split at h
      · rename_i inf sz xs ty hinf hg
        split at h
        · rename_i hsz
          have hsz := Nat.eq_of_beq_eq_true hsz
          unfold Ob at h
          obtain ⟨⟨ht, h0, h1⟩, hk⟩ := h
          have hs : σ id = some (.buf sz xs ty) := (c.agree id (hT id (by rw [hev]; simp [ids, ids1]))).trans hg
          obtain ⟨hq0, hC, htt, hd'⟩ := hx.inv_osl
          have hV := hd' _ _ _ hs ht
          have hR := hV.pos hq0 (by omega)
          obtain ⟨ad, cap, ⟨hy, _⟩, q1, q2, q3⟩ := hV.real hR
          obtain ⟨rfl, _⟩ := q3 (by omega)
          refine .value (v := .pointer (some ((⟨g.ι id, off * sz, none⟩ : Addr).add (i.toNat * inf.size)))) (w' := w) ?_ (.pure c hk ?_)
          · simp [execOp, ho, hy, Instr.indexAt, hi, asIntOf, underlying, hu, h0, h1, sizeOf, typeInfo, hinf]
          · rw [add_addr, hsz]
            refine .eptr id tot _ _ _ hC htt (fun sz' xs' ty' hs' hl' => ?_)
            rw [hs] at hs'; cases hs'
            exact ⟨by rw [Nat.add_mul, Nat.add_zero], hR⟩
        · exact h.elim
      · rename_i inf cs ty hinf hg
        split at h
        · rename_i hsz ht0 ho1
          have hsz := Nat.eq_of_beq_eq_true hsz
          have ht0 := Nat.eq_of_beq_eq_true ht0
          have ho1 := Nat.eq_of_beq_eq_true ho1
          subst ht0; subst ho1
          unfold Ob at h
          obtain ⟨⟨h0, h1⟩, hk⟩ := h
          obtain ⟨hy, hC, hb⟩ := hx.inv_oslc
          refine .value (v := .pointer (some ((⟨g.ι id, 0, none⟩ : Addr).add (i.toNat * inf.size)))) (w' := w) ?_ (.pure c hk ?_)
          · simp [execOp, ho, hy, Instr.indexAt, hi, asIntOf, underlying, hu, h0, h1, sizeOf, typeInfo, hinf]
          · rw [add_addr, hsz, Nat.mul_one, Nat.zero_add]
            exact .ref id i.toNat hC hb
        · exact h.elim
      · exact h.elim
    · exact h.elim
  · exact h.elim

theorem ok_index {t : Nat} {x ix : Operand} (ho : o.op = .index t x ix) (h : aop P (.index t x ix) e s K) (c : Cx w g σ s T N) (he : EnvR w g σ e a.tmps) : OpOk P o a w (Rs w g σ s T K) := by
  simp only [aop] at h
  have hx := ev_rep he x
  have hi := ev_rep he ix
  split at h
  · rename_i k i hevi
    rw [hevi] at hi
    have hi := hi.inv_int
    split at h
    · rename_i l hd hev
      have hu := und hd (by simp)
      rw [hev] at hx
      obtain ⟨b, hb, rfl⟩ := hx.inv_str
      unfold IdxB at h
      obtain ⟨h0, y, hy, hk⟩ := h
      refine .value (v := .int .u8 y.toNat) (w' := w) ?_ (.pure c hk (.mkInt _ _))
      have hlt : i.toNat < b.size := by have := (List.getElem?_eq_some_iff.1 hy).1; simpa using this
      have hby : b[i.toNat]? = some y := by
        rw [getElem?_pos b i.toNat hlt]
        have : b[i.toNat] = b.data.toList[i.toNat]'(by simpa using hlt) := by simp [ByteArray.getElem_eq_getElem_data]
        rw [this, ← hy]; simp [hlt]
      simp [execOp, ho, Instr.index, hi, asIntOf, underlying, hu, hb, h0, hby]
    · rename_i n el cs hd hev
      have hu := und hd (by simp)
      rw [hev] at hx
      split at h
      · rename_i hkd
        unfold Ob Idx at h
        obtain ⟨h1, h0, y, hy, hk⟩ := h
        generalize hax : a.eval x = ax at *
        cases hx.inv_p with
        | agg _ xs hs =>
          obtain ⟨z, hz, hr⟩ := hs.get hy
          refine .value (v := z) (w' := w) ?_ (.pure c hk (.p _ _ hr))
          unfold kd at hkd
          split at hkd
          · rename_i d inf hde hinf
            simp only [Option.some.injEq, Prod.mk.injEq] at hkd
            obtain ⟨p1, p2⟩ := part_run (P := P) (w := w) hde hinf xs i.toNat
            simp [execOp, ho, hax, Instr.index, hi, asIntOf, underlying, hu, h0, h1, sizeOf, typeInfo, hinf, hkd.2, p2 hkd.1 z hz]
          · cases hkd
      · exact h.elim
    · exact h.elim
  · exact h.elim

theorem ok_range {t : Nat} {x : Operand} (ho : o.op = .range t x) (h : aop P (.range t x) e s K) (hN : ∀ v s', K v s' → s.length < s'.length → N) (c : Cx w g σ s T N) (hT : ∀ id, id ∈ ids (ev e x) → T id) (he : EnvR w g σ e a.tmps) : OpOk P o a w (Rs w g σ s T K) := by
  simp only [aop] at h
  have hx := ev_rep he x
  split at h
  · rename_i l hd hev
    have hu := und hd (by simp)
    rw [hev] at hx
    rw [snoc_eq] at h
    obtain ⟨b, hb, rfl⟩ := hx.inv_str
    have m := More.alloc w (.stringIter b 0)
    refine .value (v := .pointer (some ⟨w.heap.size, 0, none⟩)) (w' := w.alloc (.stringIter b 0)) ?_ ?_
    · simp [execOp, ho, Instr.range, underlying, hu, hb]
    · refine Rs.new c m (o := .iterS b.data.toList 0) (.iterS _ 0 b (by simp) (by omega) m.at) ?_ h (hN _ _ h (by simp))
      have := RepA.it (w := w.alloc (.stringIter b 0)) (g := g.new s.length w.heap.size) (σ := σ.put s.length (.iterS b.data.toList 0)) s.length (.inr rfl) (by simp [St.put])
      simpa [G.new] using this
  · rename_i kt vt id hd hev
    split at h
    · rename_i kk es clock hg
      rw [snoc_eq] at h
      exact rangeM ho (und hd (by simp)) hev hg h (hN _ _ h (by simp)) c (hT id (by rw [hev]; simp [ids, ids1])) he
    · exact h.elim
  · exact h.elim

theorem ok_next {x : Operand} {isS : Bool} (ho : o.op = .next x isS) (h : aop P (.next x isS) e s K) (c : Cx w g σ s T N) (hT : ∀ id, id ∈ ids (ev e x) → T id) (hTm : ∀ id mid bs left, isS = false → ev e x = .it id → getO s id = some (.iterM mid bs left) → T mid) (he : EnvR w g σ e a.tmps) : OpOk P o a w (Rs w g σ s T K) := by
  simp only [aop] at h
  have hx := ev_rep he x
  split at h
  · rename_i id hev
    rw [hev] at hx
    obtain ⟨hp, hC⟩ := hx.inv_it
    split at h
    · rename_i rest pos hg
      have hTi := hT id (by rw [hev]; simp [ids, ids1])
      have hs : σ id = some (.iterS rest pos) := (c.agree id hTi).trans hg
      rw [setK_eq] at h
      unfold BrL at h
      have hR := c.inv.real hs (by simp)
      cases c.inv.rep _ _ hs hR with
      | iterS _ _ b hb hpos hw =>
        by_cases hne : rest = []
        · have hk := h.1 hne
          have hge : ¬ pos < b.size := by
            intro hlt
            rw [hne] at hb
            have := congrArg List.length hb; simp at this; omega
          refine .value (v := .tuple #[.bool false]) (w' := w) ?_ (.pure c hk (.tup _ [_] (.cons _ _ _ _ (.mkBool _) .nil)))
          simp [execOp, ho, Instr.next, hp, getObj, Sem.run, hw, hge]
        · have hk := h.2 hne
          have hlt : pos < b.size := by
            refine Nat.lt_of_not_le (fun hle => hne ?_)
            rw [← hb]; exact List.drop_eq_nil_of_le (by simpa using hle)
          have hdec : Utf8.decode b pos = decode rest := by rw [← hb, decode_drop]
          refine .value (v := .tuple #[.bool true, .int .i64 pos, .int .i32 (decode rest).1]) (w' := { w with heap := w.heap.setIfInBounds (g.ι id) (.stringIter b (pos + (decode rest).2)) }) ?_ ?_
          · simp [execOp, ho, Instr.next, hp, getObj, setObj, Sem.run, hw, hlt, hdec, goInt]
          · have hsz := (c.inv.lies _ _ hs hR).1
            have hat : (w.heap.setIfInBounds (g.ι id) (.stringIter b (pos + (decode rest).2)))[g.ι id]? = some (.stringIter b (pos + (decode rest).2)) := by simp [hsz]
            refine Rs.set c hTi hg hR (o' := .iterS (rest.drop (decode rest).2) (pos + (decode rest).2)) trivial ⟨by simp, rfl, rfl, rfl, fun k hk' => ?_, ?_, Nat.le_refl _⟩ (fun hx => ?_) (fun hx => ?_) hk
            · simp [Array.getElem?_setIfInBounds_ne (Ne.symm hk')]
            · simp [World.shape?, hat, hw]
            · refine .iterS _ _ b (by rw [← hb, List.drop_drop]) ?_ hat
              -- the width stays inside
              have : pos + (Utf8.decode b pos).2 ≤ b.size := by
                unfold Utf8.decode
                simp only []
                repeat' split
                all_goals simp_all
                all_goals omega
              rw [← hdec]; exact this
            · exact .tup _ [_, _, _] (.cons _ _ _ _ (.mkBool _) (.cons _ _ _ _ (.mkInt _ _) (.cons _ _ _ _ (.mkInt _ _) .nil)))
    · exact h.elim
  · rename_i id hev
    split at h
    · rename_i mid bs left hg
      split at h
      · rename_i kk es clock hgm
        exact nextM ho hev hg hgm h c (hT id (by rw [hev]; simp [ids, ids1])) (hTm id mid bs left rfl hev hg) he
      · exact h.elim
    · exact h.elim
  · exact h.elim

theorem zeroT_run {t : Nat} {z : PV} (hz : zeroT P t = some z) : ∃ v, (zeroValue t).run P w = .ok v w ∧ RepA w g σ (.p z) v ∧ (∃ i, P.info? t = some i ∧ i.zero = some v) := by
  unfold zeroT at hz
  split at hz
  · rename_i i hi
    split at hz
    · rename_i v hv
      exact ⟨v, by simp [zeroValue, typeInfo, hi, hv], .p _ _ ((absP_rep w _ 200).1 v z hz), i, hi, hv⟩
    · cases hz
  · cases hz

theorem ok_typeAssert {x : Operand} {u t : Nat} {ok : Bool} (ho : o.op = .typeAssert x u t ok) (h : aop P (.typeAssert x u t ok) e s K) (c : Cx w g σ s T N) (he : EnvR w g σ e a.tmps) : OpOk P o a w (Rs w g σ s T K) := by
  simp only [aop] at h
  have hx := ev_rep he x
  split at h
  · exact h.elim
  · exact h.elim
  · rename_i d hni hd
    have hnot : ∀ ms, d ≠ .interface ms := fun ms e => hni ms (by rw [e])
    have yes : ∀ {v : PV} {y : Value}, a.eval x = .iface t y → RepP w (Lv g σ) v y → (ok = true → K (.tup [.p v, .p (.bool true)]) s) → (ok = false → K (.p v) s) → OpOk P o a w (Rs w g σ s T K) := by
      intro v y hp hr h1 h2
      cases hb : ok with
      | true =>
        refine .value (v := .tuple #[y, .bool true]) (w' := w) ?_ (.pure c (h1 hb) (.tup _ [_, _] (.cons _ _ _ _ (.p _ _ hr) (.cons _ _ _ _ (.mkBool _) .nil))))
        subst hb
        cases d <;> first | exact absurd rfl (hnot _) | simp [execOp, ho, Instr.typeAssert, underlying, hd, hp]
      | false =>
        refine .value (v := y) (w' := w) ?_ (.pure c (h2 hb) (.p _ _ hr))
        subst hb
        cases d <;> first | exact absurd rfl (hnot _) | simp [execOp, ho, Instr.typeAssert, underlying, hd, hp]
    have no : ∀ {z : PV}, ok = true → (a.eval x = .nilIface ∨ ∃ t' y, a.eval x = .iface t' y ∧ t' ≠ t) → zeroT P t = some z → K (.tup [.p z, .p (.bool false)]) s → OpOk P o a w (Rs w g σ s T K) := by
      intro z hb hp hz hk
      obtain ⟨v, hv, hr, _⟩ := zeroT_run (w := w) (g := g) (σ := σ) hz
      refine .value (v := .tuple #[v, .bool false]) (w' := w) ?_ (.pure c hk (.tup _ [_, _] (.cons _ _ _ _ hr (.cons _ _ _ _ (.mkBool _) .nil))))
      subst hb
      rcases hp with hp | ⟨t', y, hp, hne⟩
      · cases d <;> first | exact absurd rfl (hnot _) | simp [execOp, ho, Instr.typeAssert, underlying, hd, hp, hv]
      · cases d <;> first | exact absurd rfl (hnot _) | simp [execOp, ho, Instr.typeAssert, underlying, hd, hp, hv, hne]
    split at h
    · rename_i t' v hev
      rw [hev] at hx
      have : ∃ y, a.eval x = .iface t' y ∧ RepP w (Lv g σ) v y := by
        generalize a.eval x = ax at *
        cases hx.inv_p; exact ⟨_, rfl, by assumption⟩
      obtain ⟨y, hp, hr⟩ := this
      split at h
      · rename_i hb
        have := Nat.eq_of_beq_eq_true hb; subst this
        exact yes hp hr (fun _ => h) (fun q => by cases q)
      · rename_i hb
        have := Nat.eq_of_beq_eq_true hb; subst this
        exact yes hp hr (fun q => by cases q) (fun _ => h)
      · rename_i hb
        split at h
        · rename_i z hz; exact no rfl (.inr ⟨t', y, hp, fun e => by subst e; simp at hb⟩) hz h
        · exact h.elim
      · exact h.elim
    · rename_i hev
      rw [hev] at hx
      split at h
      · rename_i z hz; exact no rfl (.inl hx.inv_lit.1) hz h
      · exact h.elim
    · exact h.elim
end ops
end Go.Proofs.YtjhgmaephpadpaaGreat.AW

namespace Go.Proofs.YtjhgmaephpadpaaGreat.AW
set_option linter.unusedSimpArgs false
set_option linter.unusedVariables false
section ops
variable {P : Program} {o : Oper} {e : Env} {s : Store} {K : AV → Store → Prop} {w : World} {g : G} {σ : St} {a : Act} {T : Nat → Prop} {N : Prop}

theorem sb_run (isS : Bool) (len cap : Nat) (lo hi : Option Value) (i j : Int) (hlo : (lo = none ∧ i = 0) ∨ ∃ k, lo = some (.int k i)) (hhi : (hi = none ∧ j = len) ∨ ∃ k, hi = some (.int k j))
    (h0 : 0 ≤ i) (h1 : i ≤ j) (h2 : j ≤ cap) : (Instr.sliceBounds isS len cap lo hi none).run P w = .ok (i.toNat, j.toNat, cap) w := by
  have hj : i ≤ (j.toNat : Int) := by omega
  have hj0 : 0 ≤ j := by omega
  rcases hlo with ⟨rfl, rfl⟩ | ⟨k, rfl⟩ <;> rcases hhi with ⟨rfl, rfl⟩ | ⟨k', rfl⟩
  · simp [Instr.sliceBounds]
  · simp [Instr.sliceBounds, run_sliceBound, hj0, h2]
  · simp [Instr.sliceBounds, run_sliceBound, h0, h1]
  · have e1 := fun code => run_sliceBound (P := P) (w := w) k i j.toNat code h0 hj
    simp [Instr.sliceBounds, run_sliceBound, hj0, h2, e1]

theorem sb_run3 (isS : Bool) (len cap : Nat) (lo : Option Value) (i j m : Int) (k' k'' : IntKind) (hlo : (lo = none ∧ i = 0) ∨ ∃ k, lo = some (.int k i))
    (h0 : 0 ≤ i) (h1 : i ≤ j) (h2 : j ≤ m) (h3 : m ≤ cap) : (Instr.sliceBounds isS len cap lo (some (.int k' j)) (some (.int k'' m))).run P w = .ok (i.toNat, j.toNat, m.toNat) w := by
  have hj : i ≤ (j.toNat : Int) := by omega
  have hj0 : 0 ≤ j := by omega
  have hm0 : 0 ≤ m := by omega
  have hjm : j ≤ (m.toNat : Int) := by omega
  rcases hlo with ⟨rfl, rfl⟩ | ⟨k, rfl⟩
  · have e2 := fun code => run_sliceBound (P := P) (w := w) k' j m.toNat code hj0 hjm
    simp [Instr.sliceBounds, run_sliceBound, hm0, h3, e2]
  · have e1 := fun code => run_sliceBound (P := P) (w := w) k i j.toNat code h0 hj
    have e2 := fun code => run_sliceBound (P := P) (w := w) k' j m.toNat code hj0 hjm
    simp [Instr.sliceBounds, run_sliceBound, hm0, h3, e1, e2]

theorem cutK_ne {k : SK} (h : k ≠ .nil) : cutK k ≠ .nil := by cases k <;> simp_all [cutK]
theorem capK_ne {k : SK} (h : k ≠ .nil) : capK k ≠ .nil := by cases k <;> simp_all [capK]
theorem cutK_clip (k : SK) : cutK k ≠ .clip := by cases k <;> simp [cutK]

theorem bnd_rep {x : Option Operand} {d : Int} {K' : Int → Prop} (he : EnvR w g σ e a.tmps) (h : bnd e x d K') : ∃ i, K' i ∧ ((x = none ∧ x.map a.eval = none ∧ i = d) ∨ (x ≠ none ∧ ∃ k, x.map a.eval = some (.int k i))) := by
  unfold bnd at h
  split at h
  · exact ⟨d, h, .inl ⟨rfl, rfl, rfl⟩⟩
  · rename_i y
    have hy := ev_rep he y
    split at h
    · rename_i k n hev
      rw [hev] at hy
      exact ⟨n, h, .inr ⟨by simp, k, by simp [hy.inv_int]⟩⟩
    · exact h.elim

theorem ok_slice {t : Nat} {x : Operand} {lo hi mx : Option Operand} (ho : o.op = .slice t x lo hi mx) (h : aop P (.slice t x lo hi mx) e s K) (c : Cx w g σ s T N) (hT : ∀ id, id ∈ ids (ev e x) → T id) (he : EnvR w g σ e a.tmps) : OpOk P o a w (Rs w g σ s T K) := by
  simp only [aop, sliceA] at h
  have hx := ev_rep he x
  split at h
  · rename_i hd
    have hu := und hd (by simp)
    split at h
    · rename_i l hev
      rw [hev] at hx
      obtain ⟨b, hb, rfl⟩ := hx.inv_str
      obtain ⟨i, h, hi'⟩ := bnd_rep (a := a) he h
      obtain ⟨j, h, hj'⟩ := bnd_rep (a := a) he h
      unfold Ob at h
      obtain ⟨⟨h0, h1, h2⟩, hk⟩ := h
      have hlen : (b.data.toList.length : Int) = b.size := by simp
      rw [hlen] at h2 hj'
      have hsb := sb_run (P := P) (w := w) false b.size b.size (lo.map a.eval) (hi.map a.eval) i j
        (by rcases hi' with ⟨_, q1, q2⟩ | ⟨_, k, q⟩ <;> first | exact .inl ⟨q1, q2⟩ | exact .inr ⟨k, q⟩) (by rcases hj' with ⟨_, q1, q2⟩ | ⟨_, k, q⟩ <;> first | exact .inl ⟨q1, q2⟩ | exact .inr ⟨k, q⟩) h0 h1 h2
      refine .value (v := .string (b.extract i.toNat j.toNat)) (w' := w) ?_ (.pure c hk (.p _ _ ?_))
      · simp [execOp, ho, Instr.sliceAt, Instr.slice, underlying, hu, hb, hsb]
      · have := RepP.str (w := w) (B := Lv g σ) (b.extract i.toNat j.toNat)
        have e1 : (b.extract i.toNat j.toNat).data.toList = (b.data.toList.take j.toNat).drop i.toNat := by
          rw [ByteArray.data_extract]; simp [List.drop_take]
        rw [e1] at this; exact this
    · exact h.elim
  · rename_i el hd
    have hu := und hd (by simp)
    split at h
    · exact h.elim
    · rename_i inf hinf
      split at h
      · rename_i k sz xs hev
        rw [hev] at hx
        generalize hax : a.eval x = ax at *
        split at h
        · exact h.elim
        · rename_i hsz
          obtain ⟨i, h, hi'⟩ := bnd_rep (a := a) he h
          obtain ⟨j, h, hj'⟩ := bnd_rep (a := a) he h
          have hlo : (lo.map a.eval = none ∧ i = 0) ∨ ∃ k, lo.map a.eval = some (.int k i) := by
            rcases hi' with ⟨_, q1, q2⟩ | ⟨_, k, q⟩ <;> first | exact .inl ⟨q1, q2⟩ | exact .inr ⟨k, q⟩
          have hhi : (hi.map a.eval = none ∧ j = xs.length) ∨ ∃ k, hi.map a.eval = some (.int k j) := by
            rcases hj' with ⟨_, q1, q2⟩ | ⟨_, k, q⟩ <;> first | exact .inl ⟨q1, q2⟩ | exact .inr ⟨k, q⟩
          -- one cut, whatever the bounds
          have cut : ∀ (k2 : SK) (m : Nat → Int), (k = .nil → k2 = .nil) → (k ≠ .nil → k2 ≠ .nil) → 0 ≤ i → i ≤ j → j ≤ xs.length →
              (∀ cap, xs.length ≤ cap → (k = .clip → cap = xs.length) → j ≤ m cap ∧ m cap ≤ cap ∧ (k2 = .clip → m cap = j) ∧ (Instr.sliceBounds true xs.length cap (lo.map a.eval) (hi.map a.eval) (mx.map a.eval)).run P w = .ok (i.toNat, j.toNat, (m cap).toNat) w) →
              K (.p (.sl k2 sz ((xs.take j.toNat).drop i.toNat))) s → OpOk P o a w (Rs w g σ s T K) := by
            intro k2 m hk1 hk2 h0 h1 h2 hm hk
            cases hx.inv_p with
            | nil =>
              obtain ⟨q1, q2, q3, q4⟩ := hm 0 (by simp) (fun q => by simp)
              simp only [List.length_nil] at q4 h2
              have hi0 : i = 0 := by simp at h2; omega
              have hj0 : j = 0 := by simp at h2; omega
              subst hi0; subst hj0
              have hm0 : (m 0).toNat = 0 := by omega
              rw [hm0] at q4
              refine .value (v := .slice none 0 0) (w' := w) ?_ (.pure c hk (.p _ _ (by simpa using RepP.nil k2 sz)))
              simp only [Int.toNat_zero] at q4
              simp [execOp, ho, hax, Instr.sliceAt, Instr.slice, underlying, hu, q4, sizeOf, typeInfo, hinf]
            | spt _ _ ad hk' =>
              obtain ⟨q1, q2, q3, q4⟩ := hm 0 (by simp) (fun q => by simp)
              simp only [List.length_nil] at q4 h2
              have hi0 : i = 0 := by simp at h2; omega
              have hj0 : j = 0 := by simp at h2; omega
              subst hi0; subst hj0
              have hm0 : (m 0).toNat = 0 := by omega
              rw [hm0] at q4
              refine .value (v := .slice (some ad) 0 0) (w' := w) ?_ (.pure c hk (.p _ _ (by simpa using RepP.spt k2 sz ad (hk2 hk'))))
              simp only [Int.toNat_zero] at q4
              simp [execOp, ho, hax, Instr.sliceAt, Instr.slice, underlying, hu, q4, sizeOf, typeInfo, hinf]
            | sl _ _ _ b off cap hk' hc hl hs hb hcells =>
              obtain ⟨q1, q2, q3, q4⟩ := hm cap hl hc
              have hsz' : inf.size = sz := by
                have : (k == SK.nil) = false := by simpa using hk'
                rw [this, Bool.false_or] at hsz
                exact Nat.eq_of_beq_eq_true hsz
              have hnl : ((xs.take j.toNat).drop i.toNat).length = j.toNat - i.toNat := by simp; omega
              have hmem : ∀ z, z ∈ (xs.take j.toNat).drop i.toNat → El sz z := fun z hz => hs z (List.mem_of_mem_take (List.mem_of_mem_drop hz))
              have hfl : flat ((xs.take j.toNat).drop i.toNat) = ((flat xs).take (j.toNat * sz)).drop (i.toNat * sz) := by
                rw [flat_dropN _ _ (fun z hz => hs z (List.mem_of_mem_take hz)), flat_takeN _ _ hs]
              have hcut : CellsP w (Lv g σ) b (off + i.toNat * sz) (flat ((xs.take j.toNat).drop i.toNat)) := by
                rw [hfl]; exact (hcells.take _).drop _
              have hne : flat ((xs.take j.toNat).drop i.toNat) ≠ [] → ¬ Lv g σ b := fun q => hb (fun e => q (by rw [hfl, e]; simp))
              refine .value (v := .slice (some (if (m cap).toNat = i.toNat then ⟨b, off, none⟩ else (⟨b, off, none⟩ : Addr).add (i.toNat * inf.size))) (j.toNat - i.toNat) ((m cap).toNat - i.toNat)) (w' := w) ?_ (.pure c hk (.p _ _ ?_))
              · simp only [execOp, ho, hax, Instr.sliceAt, Instr.slice, underlying, run_program, Sem.run_bind, hu, Result.andThen_ok, Sem.run_pure, q4, sizeOf, typeInfo, hinf]
                split <;> simp
              · rw [← hnl]
                split
                · rename_i hmi
                  have hz : (xs.take j.toNat).drop i.toNat = [] := List.eq_nil_of_length_eq_zero (by rw [hnl]; omega)
                  have := RepP.sl (w := w) (B := Lv g σ) k2 sz ((xs.take j.toNat).drop i.toNat) b off ((m cap).toNat - i.toNat) (hk2 hk') (fun q => by rw [hnl, q3 q]) (by rw [hnl]; omega) hmem hne (by rw [hz]; exact .nil _ _)
                  exact this
                · rw [add_addr, hsz']
                  exact .sl k2 sz _ b _ _ (hk2 hk') (fun q => by rw [hnl, q3 q]) (by rw [hnl]; omega) hmem hne hcut
          split at h
          · unfold Ob at h
            obtain ⟨⟨h0, h1⟩, hk⟩ := h
            have hj : j = xs.length := by rcases hj' with ⟨_, _, q⟩ | ⟨q, _⟩ <;> first | exact q | exact absurd rfl q
            refine cut k (fun cap => cap) (fun q => q) (fun q => q) h0 h1 (by omega) (fun cap hc1 hc2 => ⟨by omega, by omega, fun q => by rw [hc2 q, hj], ?_⟩) ?_
            · have := sb_run (P := P) (w := w) true xs.length cap (lo.map a.eval) none i j hlo (.inl ⟨rfl, hj⟩) h0 h1 (by omega)
              simpa using this
            · have : xs.take j.toNat = xs := List.take_of_length_le (by omega)
              rw [this]; exact hk
          · unfold Ob at h
            obtain ⟨⟨h0, h1, h2⟩, hk⟩ := h
            refine cut (cutK k) (fun cap => cap) (fun q => by rw [q]; rfl) (fun q => cutK_ne q) h0 h1 h2 (fun cap hc1 hc2 => ⟨by omega, by omega, (fun q => absurd q (cutK_clip k)), ?_⟩) hk
            have := sb_run (P := P) (w := w) true xs.length cap (lo.map a.eval) _ i j hlo hhi h0 h1 (by omega)
            simpa using this
          · obtain ⟨m, h, hm'⟩ := bnd_rep (a := a) he h
            unfold Ob at h
            obtain ⟨⟨h0, h1, hbm, h2⟩, hk⟩ := h
            subst hbm
            rcases hj' with ⟨q, _⟩ | ⟨_, k1, hk1⟩
            · cases q
            rcases hm' with ⟨q, _⟩ | ⟨_, k3, hk3⟩
            · cases q
            refine cut (capK k) (fun _ => j) (fun q => by rw [q]; rfl) (fun q => capK_ne q) h0 h1 h2 (fun cap hc1 hc2 => ⟨by omega, by omega, fun _ => rfl, ?_⟩) hk
            rw [hk1, hk3]
            exact sb_run3 (P := P) (w := w) true xs.length cap (lo.map a.eval) i j j k1 k3 hlo h0 h1 (by omega) (by omega)
          · exact h.elim
      · rename_i id tot off len hev
        rw [hev] at hx
        split at h
        · rename_i sz xs ty hg
          split at h
          · rename_i hsz
            have hsz := Nat.eq_of_beq_eq_true hsz
            obtain ⟨i, h, hi'⟩ := bnd_rep (a := a) he h
            obtain ⟨j, h, hj'⟩ := bnd_rep (a := a) he h
            unfold Ob at h
            obtain ⟨⟨ht, h0, h1, h2⟩, hk⟩ := h
            have hs : σ id = some (.buf sz xs ty) := (c.agree id (hT id (by rw [hev]; simp [ids, ids1]))).trans hg
            obtain ⟨hq0, hC, htt, hd'⟩ := hx.inv_osl
            have hV := hd' _ _ _ hs ht
            by_cases hR : g.R id
            rotate_left 1
            · obtain ⟨hy, ho0⟩ := hV.2.1 hR
              have hl0 : len = 0 := by
                obtain ⟨q, cp, e, hq⟩ := hq0
                rw [hy] at e; cases e; rfl
              subst hl0; subst ho0
              have hi0 : i = 0 := by omega
              have hj0 : j = 0 := by omega
              subst hi0; subst hj0
              have hsb := sb_run (P := P) (w := w) true 0 0 (lo.map a.eval) (hi.map a.eval) 0 0
                (by rcases hi' with ⟨_, q1, q2⟩ | ⟨_, k, q⟩ <;> first | exact .inl ⟨q1, q2⟩ | exact .inr ⟨k, q⟩) (by rcases hj' with ⟨_, q1, q2⟩ | ⟨_, k, q⟩ <;> first | exact .inl ⟨q1, q2⟩ | exact .inr ⟨k, q⟩) (by omega) (by omega) (by omega)
              refine .value (v := .slice none 0 0) (w' := w) ?_ (.pure c hk ?_)
              · simp only [Int.toNat_zero] at hsb
                simp [execOp, ho, hy, Instr.sliceAt, Instr.slice, underlying, hu, hsb, sizeOf, typeInfo, hinf]
              · rw [hy] at hx; exact hx
            obtain ⟨ad, cap, ⟨hy, hsp⟩, q1, q2, q3⟩ := hV.real hR
            have hsb := sb_run (P := P) (w := w) true len cap (lo.map a.eval) (hi.map a.eval) i j
              (by rcases hi' with ⟨_, q1, q2⟩ | ⟨_, k, q⟩ <;> first | exact .inl ⟨q1, q2⟩ | exact .inr ⟨k, q⟩) (by rcases hj' with ⟨_, q1, q2⟩ | ⟨_, k, q⟩ <;> first | exact .inl ⟨q1, q2⟩ | exact .inr ⟨k, q⟩) h0 h1 (by omega)
            refine .value (v := .slice (some (if cap = i.toNat then ad else ad.add (i.toNat * inf.size))) (j.toNat - i.toNat) (cap - i.toNat)) (w' := w) ?_ (.pure c hk ?_)
            · simp only [execOp, ho, hy, Instr.sliceAt, Instr.slice, underlying, run_program, Sem.run_bind, hu, Result.andThen_ok, Sem.run_pure, Option.map_none, hsb, sizeOf, typeInfo, hinf]
              split <;> simp
            · rw [show j.toNat - i.toNat = (j - i).toNat by omega]
              refine .osl id tot _ _ _ hC ⟨_, _, rfl, fun q => by cases q⟩ htt (fun sz' xs' ty' hs' hl' => ?_)
              rw [hs] at hs'; cases hs'
              refine ⟨by omega, fun q => absurd hR q, fun _ => ⟨_, _, rfl, (by split <;> first | exact hsp | (unfold Addr.add; split <;> first | exact hsp | rfl)), by omega, fun hc0 => ?_⟩⟩
              have hcap : ¬ cap = i.toNat := by omega
              obtain ⟨rfl, hroom⟩ := q3 (by omega)
              refine ⟨?_, ?_⟩
              · rw [if_neg hcap, add_addr, hsz, Nat.add_mul]
              · rw [show off + i.toNat + (cap - i.toNat) = off + cap by omega]; exact hroom
          · exact h.elim
        · rename_i sz xs ty m hg
          split at h
          · rename_i hi1 hsz
            have hsz := Nat.eq_of_beq_eq_true hsz
            obtain ⟨i, h, hi'⟩ := bnd_rep (a := a) he h
            obtain ⟨j, h, hj'⟩ := bnd_rep (a := a) he h
            obtain ⟨l, h, hm'⟩ := bnd_rep (a := a) he h
            unfold Ob at h
            obtain ⟨⟨ht, h0, h1, hbm, h2⟩, hk⟩ := h
            subst hbm
            rcases hj' with ⟨q, _⟩ | ⟨_, k1, hk1⟩
            · cases q
            rcases hm' with ⟨q, _⟩ | ⟨_, k3, hk3⟩
            · cases q
            have hs : σ id = some (.buf sz xs ty) := (c.agree id (hT id (by rw [hev]; simp [ids, ids1]))).trans hg
            obtain ⟨hq0, hC, htt, hd'⟩ := hx.inv_osl
            have hV := hd' _ _ _ hs ht
            by_cases hR : g.R id
            rotate_left 1
            · obtain ⟨hy, ho0⟩ := hV.2.1 hR
              have hl0 : len = 0 := by
                obtain ⟨q, cp, e, hq⟩ := hq0
                rw [hy] at e; cases e; rfl
              subst hl0; subst ho0
              have hi0 : i = 0 := by omega
              have hj0 : j = 0 := by omega
              subst hi0; subst hj0
              have hsb := sb_run3 (P := P) (w := w) true 0 0 (lo.map a.eval) 0 0 0 k1 k3
                (by rcases hi' with ⟨_, q1, q2⟩ | ⟨_, k, q⟩ <;> first | exact .inl ⟨q1, q2⟩ | exact .inr ⟨k, q⟩) (by omega) (by omega) (by omega) (by omega)
              rw [← hk1, ← hk3] at hsb
              refine .value (v := .slice none 0 0) (w' := w) ?_ (.pure c hk ?_)
              · simp only [Int.toNat_zero, Option.map_some] at hsb
                simp [execOp, ho, hy, Instr.sliceAt, Instr.slice, underlying, hu, hsb, sizeOf, typeInfo, hinf]
              · rw [hy] at hx; exact hx
            obtain ⟨ad, cap, ⟨hy, hsp⟩, q1, q2, q3⟩ := hV.real hR
            have hsb := sb_run3 (P := P) (w := w) true len cap (lo.map a.eval) i j j k1 k3
              (by rcases hi' with ⟨_, q1, q2⟩ | ⟨_, k, q⟩ <;> first | exact .inl ⟨q1, q2⟩ | exact .inr ⟨k, q⟩) h0 h1 (by omega) (by omega)
            rw [← hk1, ← hk3] at hsb
            refine .value (v := .slice (some (if j.toNat = i.toNat then ad else ad.add (i.toNat * inf.size))) (j.toNat - i.toNat) (j.toNat - i.toNat)) (w' := w) ?_ (.pure c hk ?_)
            · simp only [execOp, ho, hy, Instr.sliceAt, Instr.slice, underlying, run_program, Sem.run_bind, hu, Result.andThen_ok, Sem.run_pure, hsb, sizeOf, typeInfo, hinf]
              split <;> simp
            · rw [show j.toNat - i.toNat = (j - i).toNat by omega]
              refine .osl id tot _ _ _ hC ⟨_, _, rfl, fun q => by cases q⟩ htt (fun sz' xs' ty' hs' hl' => ?_)
              rw [hs] at hs'; cases hs'
              refine ⟨by omega, fun q => absurd hR q, fun _ => ⟨_, _, rfl, (by split <;> first | exact hsp | (unfold Addr.add; split <;> first | exact hsp | rfl)), by omega, fun hc0 => ?_⟩⟩
              have hcap : ¬ j.toNat = i.toNat := by omega
              obtain ⟨rfl, e, mm, hsh, hroom⟩ := q3 (by omega)
              refine ⟨?_, e, mm, hsh, ?_⟩
              · rw [if_neg hcap, add_addr, hsz, Nat.add_mul]
              · exact Nat.le_trans (Nat.mul_le_mul_right _ (by omega)) hroom
          · exact h.elim
        · exact h.elim
      · exact h.elim
  · rename_i n el hd
    have hu := und hd (by simp)
    split at h
    · rename_i id tot hev
      rw [hev] at hx
      split at h
      · rename_i inf sz xs ty hinf hg
        split at h
        · rename_i hsz
          have hsz := Nat.eq_of_beq_eq_true hsz
          obtain ⟨i, h, hi'⟩ := bnd_rep (a := a) he h
          obtain ⟨j, h, hj'⟩ := bnd_rep (a := a) he h
          unfold Ob at h
          obtain ⟨⟨ht, hnt, h0, h1, h2⟩, hk⟩ := h
          have hs : σ id = some (.buf sz xs ty) := (c.agree id (hT id (by rw [hev]; simp [ids, ids1]))).trans hg
          have hp := hx.inv_eptr hs ht
          simp only [Nat.zero_mul, Nat.zero_add] at hp
          obtain ⟨_, _, hC, htt, hRR⟩ := hx.inv_eptr2
          have hR := (hRR _ _ _ hs ht).2
          have hsb := sb_run (P := P) (w := w) false n n (lo.map a.eval) (hi.map a.eval) i j
            (by rcases hi' with ⟨_, q1, q2⟩ | ⟨_, k, q⟩ <;> first | exact .inl ⟨q1, q2⟩ | exact .inr ⟨k, q⟩) (by rcases hj' with ⟨_, q1, q2⟩ | ⟨_, k, q⟩ <;> first | exact .inl ⟨q1, q2⟩ | exact .inr ⟨k, q⟩) h0 h1 (by omega)
          refine .value (v := .slice (some (if n = i.toNat then ⟨g.ι id, 0, none⟩ else (⟨g.ι id, 0, none⟩ : Addr).add (i.toNat * inf.size))) (j.toNat - i.toNat) (n - i.toNat)) (w' := w) ?_ (.pure c hk ?_)
          · simp [execOp, ho, hp, Instr.sliceAt, underlying, hu, hsb, sizeOf, typeInfo, hinf, Instr.sureAddr]
          · rw [show j.toNat - i.toNat = (j - i).toNat by omega]
            refine .osl id tot _ _ _ hC ⟨_, _, rfl, fun q => by cases q⟩ htt (fun sz' xs' ty' hs' hl' => ?_)
            rw [hs] at hs'; cases hs'
            refine ⟨by omega, fun q => absurd hR q, fun _ => ⟨_, _, rfl, (by split <;> first | rfl | (unfold Addr.add; split <;> rfl)), by omega, fun hc0 => ?_⟩⟩
            have hcap : ¬ n = i.toNat := by omega
            refine ⟨?_, ?_⟩
            · rw [if_neg hcap, add_addr, hsz, Nat.zero_add]
            · rw [show i.toNat + (n - i.toNat) = n by omega]
              cases c.inv.rep _ _ hs hR with
              | buf _ _ vs hz hsz' hn hr hare _ _ =>
                obtain ⟨e1, f1, hh, _⟩ := hare
                refine ⟨e1, vs.length, by unfold World.shape?; rw [hh]; simp, ?_⟩
                have e2 : n = xs.length := by omega
                rw [e2, Nat.mul_comm]; exact hn
        · exact h.elim
      · exact h.elim
    · exact h.elim
  · exact h.elim
end ops
end Go.Proofs.YtjhgmaephpadpaaGreat.AW
