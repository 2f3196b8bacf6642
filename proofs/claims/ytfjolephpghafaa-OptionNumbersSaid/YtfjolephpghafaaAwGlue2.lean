import Derived.Test.YtfjolephpghafaaAwGlue
import Derived.ProofKit
namespace Go.Proofs.Ytfjolephpghafaa.AW
open Go.ChangeShapes Go.WideShapes Go.ChangeAt Go.RowKit
variable {P : Program} {H : Type} {enc : TypeId × Value → H}

theorem Old.below {W W' : World} (h : Old W W') : Below W.heap.size W W' := ⟨h.os, h.tape, h.output, h.size, h.block⟩

theorem argsStay {W W' : World} {sp : Nat → Bool} (hl : laidOutB P = true) (hb : Old W W') : ∀ {ts : List TypeId} {vs : List Value} {ds : List (DataW H)} {ps : List MemPlace},
    (ts.all fun t => P.readableRec t && decide (t < P.types.size)) = true → DataW.TrodAll enc P W 0 (fun _ => true) true ts vs ds ps → (∀ p, p ∈ ps → p.block < W.heap.size) → (∀ p, p ∈ ps → sp p.block = true) →
    DataW.TrodAll enc P W' 0 sp true ts vs ds ps
  | [], [], [], _, _, h, _, _ => h
  | t :: ts, v :: vs, d :: ds, ps, ht, h, hlt, hs => by
    obtain ⟨p, q, h1, h2, rfl⟩ := h
    simp only [List.all_cons, Bool.and_eq_true, decide_eq_true_eq] at ht
    refine ⟨p, q, WideElems.Trod_stays hl ht.1.1 ht.1.2 h1 (fun x hx => hb.below.same (hlt x (List.mem_append_left _ hx))) (fun x hx => hs x (List.mem_append_left _ hx)), ?_, rfl⟩
    exact argsStay hl hb (by simpa using ht.2) h2 (fun x hx => hlt x (List.mem_append_right _ hx)) (fun x hx => hs x (List.mem_append_right _ hx))
  | [], [], _ :: _, _, _, h, _, _ => h.elim
  | [], _ :: _, _, _, _, h, _, _ => h.elim
  | _ :: _, [], _, _, _, h, _, _ => h.elim
  | _ :: _, _ :: _, [], _, _, h, _, _ => h.elim

/-- A law that answers true, and leaves all that was there as it was. -/
theorem law_post {f : Func} {s : ChangeSpec} {apart fresh handsOn again : Bool} {W W' : World} {args : Array Value} {ds gs : List (DataW H)} {before : List MemPlace} {t : TypeId}
    (hl : laidOutB P = true) (hW : DataW.Whole enc P f.params.toList s.vars apart W args.toList ds gs before) (hvars : s.vars = []) (hb : Old W W')
    (hts : (f.params.toList.all fun t => P.readableRec t && decide (t < P.types.size)) = true)
    (hres : f.resultTypes = #[t]) (hbool : P.underlying t = some .bool)
    (hr : (s.fn H (ds ++ gs)).results = [.lit (.bool true)]) (ha : (s.fn H (ds ++ gs)).args = ds) (hv : (s.fn H (ds ++ gs)).vars = []) :
    s.post enc P f apart fresh handsOn again W args (.bool true) W' := by
  have hlt := hW.lt
  have hW0 := hW
  obtain ⟨p, q, hA, hV, rfl, hz, hn⟩ := hW
  rw [hvars] at hV
  have hq : gs = [] ∧ q = [] := by
    cases gs with
    | nil => exact ⟨rfl, hV⟩
    | cons => exact hV.elim
  obtain ⟨rfl, rfl⟩ := hq
  simp only [List.append_nil] at hlt hz hn hW0 hr ha hv
  have hk : W.keptBut W' (fun _ => False) := by
    refine ⟨hb.os, hb.output, fun i hi => ?_⟩
    rw [hb.block i hi]
    exact (World.keptBut_refl W (fun _ => False)).2.2 i hi
  have hargs : ∀ sp : Nat → Bool, (∀ x ∈ p, sp x.block = true) → DataW.TrodAll enc P W' 0 sp true f.params.toList args.toList ds p := fun sp hsp => argsStay hl hb hts hA hlt hsp
  have hresT : ∀ (b : Nat) (sp : Nat → Bool) (hd : Bool), DataW.TrodAll enc P W' b sp hd f.resultTypes.toList ((Value.bool true).resultList f.resultTypes.size) [.lit (.bool true)] ([] : List MemPlace) := fun b sp hd => by
    rw [hres]
    exact ⟨[], [], shut_bool hbool true, rfl, rfl⟩
  have hvT : ∀ sp : Nat → Bool, DataW.TrodVars enc P W' sp s.vars ([] : List (DataW H)) [] := fun sp => by rw [hvars]; rfl
  refine ⟨ds, [], p, [], p, [], hW0, ?_, ?_, ?_, World.keptBut_mono (fun _ h => h.elim) hk, fun _ => ⟨ok_one hres rfl (okWide_bool_mk hbool true), [.lit (.bool true)] ++ ds, [], p, ⟨p, [], ?_, hvT _, by simp, ?_, ?_⟩, fun x hx _ => hx⟩⟩
  · simp only [List.append_nil, hr]; exact hresT _ _ _
  · simp only [List.append_nil, ha]; exact hargs _ (fun x hx => by simpa using hlt x hx)
  · simp only [List.append_nil, hv]; exact hvT _
  · have h1 := trodAll_append (hargs (fun _ => true) fun _ _ => rfl) (hresT 0 (fun _ => true) true)
    simpa using h1
  · intro b off hp
    have h1 := hz b off hp
    have h2 := hlt _ hp
    unfold World.frozen? at h1 ⊢
    rw [hb.block b h2]; exact h1
  · intro hap
    simpa using hn hap
end Go.Proofs.Ytfjolephpghafaa.AW
