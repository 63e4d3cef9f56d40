/- The pure machine, part 31: what a law leaves behind. -/
import Derived.Test.YtmljpbhmdjpbaaaPm30
import Derived.ChangeSame
namespace Go.PM
set_option linter.unusedVariables false
set_option linter.unusedSimpArgs false
open Go.ChangeShapes Go.WideShapes Go.RowKit

section
variable {H : Type} {enc : TypeId × Value → H} {P : Program}

theorem trodAll_below (hl : laidOutB P = true) {W W' : World} (hB : Below W.heap.size W W') : ∀ (ts : List TypeId) (vs : List Value) (ds : List (DataW H)) (ps : List MemPlace), (∀ t ∈ ts, P.readableRec t = true ∧ t < P.types.size) → (∀ x ∈ ps, x.block < W.heap.size) →
    DataW.TrodAll enc P W 0 (fun _ => true) true ts vs ds ps → DataW.TrodAll enc P W' 0 (fun b => decide (b < W.heap.size)) true ts vs ds ps
  | [], [], [], ps, _, _, h => by simpa [DataW.TrodAll] using h
  | t :: ts, v :: vs, d :: ds, ps, ht, hp, h => by
    simp only [DataW.TrodAll] at h ⊢
    obtain ⟨p, q, h1, h2, rfl⟩ := h
    exact ⟨p, q, Below.trod hl (ht t (by simp)).1 (ht t (by simp)).2 h1 hB (fun x hx => hp x (List.mem_append_left _ hx)),
      trodAll_below hl hB ts vs ds q (fun t h => ht t (by simp [h])) (fun x hx => hp x (List.mem_append_right _ hx)) h2, rfl⟩
  | [], _ :: _, _, _, _, _, h => by simp [DataW.TrodAll] at h
  | [], [], _ :: _, _, _, _, h => by simp [DataW.TrodAll] at h
  | _ :: _, [], _, _, _, _, h => by simp [DataW.TrodAll] at h
  | _ :: _, _ :: _, [], _, _, _, h => by simp [DataW.TrodAll] at h

/-- A law that answers true and leaves all that was there as it was. -/
theorem law_done {f : Func} {s : ChangeSpec} {W W' : World} {args : Array Value} {ds gs : List (DataW H)} {before : List MemPlace} {b : TypeId} (hl : laidOutB P = true) (hps : (f.params.toList.all fun t => P.readableRec t && decide (t < P.types.size)) = true) (hv : s.vars = [])
    (hr : f.resultTypes = #[b]) (hb : P.underlying b = some .bool) (hW : DataW.Whole enc P f.params.toList s.vars false W args.toList ds gs before) (hB : Below W.heap.size W W') (hs : s.fn H (ds ++ gs) = { results := [.lit (.bool true)], args := ds }) :
    s.post enc P f false true false false W args (.bool true) W' := by
  obtain ⟨p, q, hA, hV, rfl, hz, hn⟩ := id hW
  rw [hv] at hV
  cases gs with
  | cons g gs => simp [DataW.TrodVars] at hV
  | nil =>
    simp only [DataW.TrodVars] at hV
    subst hV
    have hlt : ∀ x ∈ p, x.block < W.heap.size := fun x hx => hW.lt x (List.mem_append_left _ hx)
    refine ⟨ds, [], _, [], p, [], hW, ?_, ?_, ?_, hB.frame _, fun h => by cases h⟩
    · rw [hs, hr]
      exact trodAll_cons_mk (shut_bool hb _) trodAll_mk0
    · rw [hs]
      refine trodAll_below hl hB _ _ _ _ (fun t ht => ?_) hlt hA
      have := List.all_eq_true.1 hps t ht
      simp only [Bool.and_eq_true, decide_eq_true_eq] at this
      exact this
    · rw [hs, hv]
      simp [DataW.TrodVars]

theorem okWide_not_agg {W : World} {r : Reach} {base : Nat} {t e : TypeId} {v : Value} (hu : P.underlying t = some (.slice e)) (h : Value.okWide P W r base t v) : (∀ cs, v ≠ .agg cs) ∧ (∀ cs, v ≠ .tuple cs) := by
  unfold Value.okWide at h
  rw [hu] at h
  simp only at h
  unfold Cell.okWide at h
  rw [hu] at h
  simp only at h
  unfold Cell.ok at h
  rw [hu] at h
  refine ⟨fun cs e => ?_, fun cs e => ?_⟩ <;> subst e <;> simp at h
end
end Go.PM
