/- The pure machine, part 32: a function that hands back a row of its own may be taken as one that hands back data. -/
import Derived.Test.YtmljpbhmdjpbaaaPm27
namespace Go.PM
set_option linter.unusedVariables false
set_option linter.unusedSimpArgs false

theorem HCall.frozen {P : Program} {f : FuncId} {args : List PV} {sz len : Nat} {ty : TypeId} {ds : List (List DV)} (h : HCall P f args [] [] (fun n => .own n sz 0 len) [] [⟨ty, sz, up ds⟩]) (hl : len = ds.length) (hty : ty < 1000000000) : PCall P f args (.d (.imm ds)) := by
  refine ⟨h.1, fun E n vals hok hFn hβ hv => (h.2 E n vals hok hFn hβ hv).mono ?_⟩
  rintro e w' ⟨v, E', rfl, rfl, hx, hok', hlow, hvr⟩
  have hs : SatF E ⟨n, [], 1⟩ (fun id => n + 1 ≤ id) ⟨fun k => if k = 0 then .own n sz 0 len else .any, rowsH [(n, ⟨ty, sz, up ds⟩)]⟩ { tmps := #[v], defers := [] } E' := by
    refine ⟨hok', fun id hid => hok.fresh id hid, hx, fun k u hk => ?_, rfl, rfl, fun k hk => ?_⟩
    · match k with
      | 0 => simp at hk; subst hk; simpa using hvr
      | k + 1 => simp at hk
    · have : k ≠ 0 := by
        have : 1 ≤ k := hk
        omega
      simp [this]
  obtain ⟨E2, hw, hβ2, hs2⟩ := hs.freeze (id := n) (pb := ⟨ty, sz, up ds⟩) (ds := ds) (by simp [rowsH]) rfl (.inr (Nat.le_refl _)) hty
  have hx2 := hs2.ext
  have hv2 := hs2.slots 0 v rfl
  have hfz : (Core.frz ⟨fun k => if k = 0 then .own n sz 0 len else .any, rowsH [(n, ⟨ty, sz, up ds⟩)]⟩ n ds).t 0 = .d (.imm ds) := by
    simp [Core.frz, PV.frz, hl]
  rw [hfz] at hv2
  refine ⟨v, { E2 with β := E.β }, hw, rfl, ⟨hx2.i, fun _ _ h => h, fun id l b h h' _ => (by have h0 : E.β id = some l := h; rw [h'] at h0; cases h0), hx2.newI, hx2.os, hx2.tape, hx2.output, hx2.size, hx2.block, hx2.imm⟩,
    ⟨⟨fun id pb hh => ?_, fun id id' pb pb' l l' b hh => ?_⟩, fun id hid => hok.fresh id (by simpa using hid), hs2.ok.ibound⟩, fun _ _ => rfl, ?_⟩
  · simp at hh
  · simp at hh
  · exact VR.restrict (S := fun _ => false) (fun id l h => by cases h) hv2 rfl

theorem upm_set {α : Type} (f : α → List DV) (l : List α) (j : Nat) (x : α) : (upm f l).set j ((f x).map .d) = upm f (l.set j x) := by
  simp [upm]
end Go.PM
