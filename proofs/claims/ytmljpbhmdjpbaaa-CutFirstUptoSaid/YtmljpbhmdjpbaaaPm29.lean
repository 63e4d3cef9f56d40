/- The pure machine, part 29: a contract at a world all of whose blocks stand. -/
import Derived.Test.YtmljpbhmdjpbaaaPm28
namespace Go.PM
set_option linter.unusedVariables false
set_option linter.unusedSimpArgs false

def allE (w : World) : Env := ⟨fun b => decide (b < w.heap.size), fun _ => none, w⟩
theorem allE_rd (w : World) : (allE w).rd = allRd w := by
  funext b
  show rdOf (fun b => decide (b < w.heap.size)) w b = allRd w b
  unfold rdOf allRd
  by_cases h : b < w.heap.size
  · simp only [h, decide_true, if_true]
    split <;> simp_all
  · have : w.heap[b]? = none := Array.getElem?_eq_none (by omega)
    simp [h, this]

/-- A pure law's contract, at any world: what was there stands. -/
theorem PCall.calls {P : Program} {f : FuncId} {args : List PV} {r : PV} (hp : PCall P f args r) (hr : r.scal = true) (w : World) {vals : List Value} (hv : VRs (allRd w) (fun _ => none) args vals) :
    Calls P f vals.toArray w fun e w' => ∃ v, e = .returned v ∧ Go.RowKit.Below w.heap.size w w' ∧ VR (allRd w) (fun _ => none) r v := by
  have hok : OkE (allE w) (rowsH []) (fun id => 0 ≤ id) := ⟨⟨fun id pb h => (by cases h), fun id id' pb pb' l l' b h => (by cases h)⟩, fun _ _ => rfl, fun b hb => by simpa [allE] using hb⟩
  have := hp.2 (allE w) 0 vals hok (by simp) (fun id l h => by cases h) (by rw [allE_rd]; exact hv)
  refine this.mono ?_
  rintro e w' ⟨v, E', hw, he, hx, _, _, hvr⟩
  refine ⟨v, he, ?_, PV.scal_vr hr hvr⟩
  subst hw
  exact ⟨hx.os, hx.tape, hx.output, hx.size, fun k hk => hx.imm k (by simpa [allE] using hk)⟩
end Go.PM
