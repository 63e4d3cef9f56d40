/- The pure machine, part 40: data that lies in rows of rows, given for ever; arguments of which more is known. -/
import Derived.Test.YtmljpbhmdjpbaaaPm39
namespace Go.PM
set_option linter.unusedVariables false
set_option linter.unusedSimpArgs false

/-- The rows are data, one after another, each when those ahead of it are. -/
def chain (h : Hp) : Lent → Prop
  | [] => True
  | x :: L => h x.1 = some ⟨x.2.1, x.2.2.1, up x.2.2.2⟩ ∧ chain (fun j => if j = x.1 then none else (h j).map (PB.frz x.1 x.2.2.2)) L

theorem SatF.freezeC {E0 : Env} {C : Cx} {fr : Nat → Prop} {a : Act} : ∀ (L : Lent) (t : Nat → PV) (h : Hp) (E : Env), chain h L → (∀ x ∈ L, x.1 ∈ C.T) → (∀ x ∈ L, x.2.1 < 1000000000) → SatF E0 C fr ⟨t, h⟩ a E →
    ∃ (E' : Env) (h' : Hp), E'.w = E.w ∧ E'.β = E.β ∧ SatF E0 C fr ⟨fun k => frzL L (t k), h'⟩ a E'
  | [], t, h, E, _, _, _, hs => ⟨E, h, rfl, rfl, hs⟩
  | x :: L, t, h, E, hc, hT, hty, hs => by
    obtain ⟨E1, h1, h2, hs1⟩ := hs.freeze (id := x.1) (ds := x.2.2.2) hc.1 rfl (.inl (hT x (by simp))) (hty x (by simp))
    obtain ⟨E2, h', g1, g2, hs2⟩ := SatF.freezeC L (fun k => (t k).frz x.1 x.2.2.2) _ E1 hc.2 (fun y hy => hT y (by simp [hy])) (fun y hy => hty y (by simp [hy])) hs1
    exact ⟨E2, h', g1.trans h1, g2.trans h2, hs2⟩

/-- A pure function may be given data that lies in rows of rows; the rows are gone behind it. -/
theorem HCall.giveF {P : Program} {f : FuncId} {args args' : List PV} {r : PV} (F : PM.Rows) (L : Lent) (hp : PCall P f args' r) (hch : chain (rowsH F) L) (ha : args' = args.map (frzL L)) (hr : PV.idsIn (fun _ => false) r = true) (hids : PV.idsInL (fun _ => false) args' = true) (hty : (L.all fun x => decide (x.2.1 < 1000000000)) = true := by rfl) :
    HCall P f args F (L.map (·.1)) (fun _ => r) [] [] := by
  refine ⟨hp.1, fun E n vals hok hFn hβF hv => ?_⟩
  let C : Cx := ⟨n, L.map (·.1), vals.length⟩
  let a : Act := { tmps := vals.toArray, defers := [] }
  have hs : SatF E C (fun id => n ≤ id) ⟨fun k => args.getD k .any, rowsH F⟩ a E := by
    refine ⟨hok, hok.fresh, .refl _ _, fun k v hk => ?_, rfl, by simp [a, C], fun k hk => ?_⟩
    · show E.vr (args.getD k .any) v
      have hk' : vals[k]? = some v := by simpa [a] using hk
      have hlt : k < args.length := by rw [← hv.1]; exact (List.getElem?_eq_some_iff.1 hk').1
      exact hv.2 k _ v (getD_of hlt) hk'
    · have hk' : vals.length ≤ k := hk
      show args.getD k .any = .any
      simp only [List.getD]
      rw [List.getElem?_eq_none (by rw [← hv.1]; exact hk')]
      rfl
  obtain ⟨Ef, h', e1, e2, hs2⟩ := SatF.freezeC L _ _ E hch (fun x hx => List.mem_map.2 ⟨x, hx, rfl⟩) (fun x hx => of_decide_eq_true (List.all_eq_true.1 hty x hx)) hs
  have hv' : VRs Ef.rd Ef.β args' vals := by
    subst ha
    refine ⟨by rw [List.length_map]; exact hv.1, fun j p v hp hv2 => ?_⟩
    rw [List.getElem?_map] at hp
    cases hj : args[j]? with
    | none => rw [hj] at hp; cases hp
    | some q =>
      rw [hj] at hp; cases hp
      have := hs2.slots j v (by simpa [a] using hv2)
      have e : args.getD j .any = q := by simp [List.getD, hj]
      rw [← e]
      exact this
  have hs4 : SatF Ef ⟨n, [], vals.length⟩ (fun id => n ≤ id) ⟨fun k => frzL L (args.getD k .any), h'⟩ a Ef :=
    ⟨hs2.ok, fun id hid => by rw [e2]; exact hok.fresh id hid, .refl _ _, hs2.slots, hs2.defers, hs2.size, hs2.hi⟩
  have hcall := call_spec (σ := ⟨fun k => frzL L (args.getD k .any), h'⟩) (C := ⟨n, [], vals.length⟩) (nid := n) hp (by simp) (by simp) (by simp) hids rfl rfl rfl (by simp) hs4 (fun k _ => Nat.le_add_right n k) hv'
  rw [e1] at hcall
  refine hcall.mono ?_
  rintro e w' ⟨v, E', hw, rfl, hvr, hs5⟩
  have hx : Ext (L.map (·.1)) E E' := hs2.ext.trans hs5.ext (by simp)
  refine ⟨v, { E' with β := E.β }, hw, rfl, ⟨hx.i, fun _ _ h => h, fun id l b h h' _ => (by have h0 : E.β id = some l := h; rw [h'] at h0; cases h0), hx.newI, hx.os, hx.tape, hx.output, hx.size, hx.block, hx.imm⟩,
    ⟨⟨fun id pb hh => ?_, fun id id' pb pb' l l' b hh => ?_⟩, fun id hid => hok.fresh id (by simpa using hid), hs5.ok.ibound⟩, fun _ _ => rfl, ?_⟩
  · simp at hh
  · simp at hh
  · exact VR.restrict (S := fun _ => false) (fun id l h => by cases h) hvr hr

/-- More may be known of the arguments. -/
theorem PCall.args {P : Program} {f : FuncId} {args args' : List PV} {r : PV} (h : PCall P f args r) (hl : args'.length = args.length) (hle : ∀ (j : Nat) p p', args'[j]? = some p' → args[j]? = some p → LeX none p' p) : PCall P f args' r :=
  ⟨h.1, fun E n vals hok hFn hβF hv => h.2 E n vals hok hFn hβF ⟨hv.1.trans hl, fun j p v hp hv2 => by
    have hj : j < args'.length := by rw [hl]; exact (List.getElem?_eq_some_iff.1 hp).1
    have h1 : args'[j]? = some args'[j] := List.getElem?_eq_getElem hj
    exact hle j p _ h1 hp _ _ _ (by simp) (hv.2 j _ v h1 hv2)⟩⟩
end Go.PM
