/- The pure machine, part 21: data lent to a function that only reads it. -/
import Derived.Test.YtmljpbhmdjpbaaaPm20
namespace Go.PM
set_option linter.unusedVariables false
set_option linter.unusedSimpArgs false

abbrev Lent := List (Nat × TypeId × Nat × List (List DV))
def Lent.rows (L : Lent) : Rows := L.map fun x => (x.1, ⟨x.2.1, x.2.2.1, up x.2.2.2⟩)
def frzL : Lent → PV → PV
  | [], p => p
  | x :: L, p => frzL L (p.frz x.1 x.2.2.2)

/-- Nothing but scalars. -/
def PV.scal : PV → Bool
  | .d (.val _) => true
  | .tup ps => ps.all fun p => match p with | .d (.val _) => true | _ => false
  | _ => false

theorem PV.scal_vr {rd rd' : Rd} {β β' : Bt} {p : PV} {v : Value} (hp : p.scal = true) (h : VR rd β p v) : VR rd' β' p v := by
  cases h with
  | d x v h =>
    cases x with
    | val u => cases h with | val _ h => exact .d _ _ (.val _ h)
    | imm es => cases hp
  | tup ps vs hlen hel =>
    refine .tup ps vs hlen fun j p v h1 h2 => ?_
    have h3 := List.all_eq_true.1 hp p (List.mem_of_getElem? h1)
    have h4 := hel j p v h1 h2
    cases h4 with
    | d x v h =>
      cases x with
      | val u => cases h with | val _ h => exact .d _ _ (.val _ h)
      | imm es => cases h3
    | _ => cases h3
  | _ => cases hp

theorem PB.frz_up (id : Nat) (ds es : List (List DV)) (ty : TypeId) (sz : Nat) : PB.frz id ds ⟨ty, sz, up es⟩ = ⟨ty, sz, up es⟩ := by
  unfold PB.frz up
  simp only [List.map_map]
  congr 1
  apply List.map_congr_left
  intro e _
  simp only [Function.comp_apply, List.map_map]
  rfl

theorem SatF.freezeL {E0 : Env} {C : Cx} {fr : Nat → Prop} {a : Act} : ∀ (L : Lent) (t : Nat → PV) (E : Env), (L.map (·.1)).Nodup → (∀ x ∈ L, x.1 ∈ C.T) → (∀ x ∈ L, x.2.1 < 1000000000) → SatF E0 C fr ⟨t, rowsH L.rows⟩ a E →
    ∃ E' : Env, E'.w = E.w ∧ E'.β = E.β ∧ SatF E0 C fr ⟨fun k => frzL L (t k), rowsH []⟩ a E'
  | [], t, E, _, _, _, hs => ⟨E, rfl, rfl, hs⟩
  | x :: L, t, E, hnd, hT, hty, hs => by
    obtain ⟨E1, h1, h2, hs1⟩ := hs.freeze (id := x.1) (pb := ⟨x.2.1, x.2.2.1, up x.2.2.2⟩) (ds := x.2.2.2) (by
      show rowsH ((x.1, _) :: _) x.1 = _
      simp [rowsH]) rfl (.inl (hT x (by simp))) (hty x (by simp))
    have he : (Core.frz ⟨t, rowsH (Lent.rows (x :: L))⟩ x.1 x.2.2.2) = ⟨fun k => (t k).frz x.1 x.2.2.2, rowsH (Lent.rows L)⟩ := by
      unfold Core.frz
      congr 1
      funext j
      simp only [List.map_cons, List.nodup_cons, List.mem_map, not_exists, not_and] at hnd
      by_cases hj : j = x.1
      · rw [if_pos hj]
        subst hj
        cases hr : rowsH (Lent.rows L) x.1 with
        | none => rfl
        | some pb =>
          have := (rowsH_has hr).1
          unfold Lent.rows at this
          obtain ⟨y, hy, hye⟩ := List.mem_map.1 this
          exact absurd (congrArg Prod.fst hye) (hnd.1 y hy)
      · rw [if_neg hj]
        have e0 : rowsH (Lent.rows (x :: L)) j = rowsH (Lent.rows L) j := by
          unfold rowsH Lent.rows
          rw [List.map_cons, List.find?_cons]
          have : (x.1 == j) = false := by simpa using Ne.symm hj
          simp [this]
        simp only [e0]
        cases hr : rowsH (Lent.rows L) j with
        | none => rfl
        | some pb =>
          have := (rowsH_has hr).1
          unfold Lent.rows at this
          obtain ⟨y, hy, hye⟩ := List.mem_map.1 this
          cases hye
          simp only [Option.map_some, PB.frz_up]
    rw [he] at hs1
    obtain ⟨E2, g1, g2, hs2⟩ := SatF.freezeL L _ E1 (List.nodup_cons.1 hnd).2 (fun y hy => hT y (by simp [hy])) (fun y hy => hty y (by simp [hy])) hs1
    exact ⟨E2, g1.trans h1, g2.trans h2, hs2⟩

/-- A pure function may be handed data that lies in rows. -/
theorem HCall.lend {P : Program} {f : FuncId} {args args' : List PV} {r : PV} (L : Lent) (hp : PCall P f args' r) (hnd : (L.map (·.1)).Nodup) (ha : args' = args.map (frzL L)) (hr : r.scal = true) (hids : PV.idsInL (fun _ => false) args' = true) (hty : (L.all fun x => decide (x.2.1 < 1000000000)) = true := by rfl) :
    HCall P f args L.rows [] (fun _ => r) L.rows [] := by
  refine ⟨hp.1, fun E n vals hok hFn hβF hv => ?_⟩
  let C : Cx := ⟨n, L.map (·.1), vals.length⟩
  let a : Act := { tmps := vals.toArray, defers := [] }
  have hs : SatF E C (fun id => n ≤ id) ⟨fun k => args.getD k .any, rowsH L.rows⟩ a E := by
    refine ⟨hok, hok.fresh, .refl _ _, fun k v hk => ?_, rfl, by simp [a, C], fun k hk => ?_⟩
    · show E.vr (args.getD k .any) v
      have hk' : vals[k]? = some v := by simpa [a] using hk
      have hlt : k < args.length := by rw [← hv.1]; exact (List.getElem?_eq_some_iff.1 hk').1
      exact hv.2 k _ v (getD_of hlt) hk'
    · have hk' : vals.length ≤ k := hk
      show args.getD k .any = .any
      simp only [List.getD]
      rw [List.getElem?_eq_none (by rw [← hv.1]; exact hk')]
      rfl
  obtain ⟨Ef, e1, e2, hs2⟩ := SatF.freezeL L _ E hnd (fun x hx => List.mem_map.2 ⟨x, hx, rfl⟩) (fun x hx => of_decide_eq_true (List.all_eq_true.1 hty x hx)) hs
  have e3 : ∀ b, E.I b = true → Ef.I b = true := hs2.ext.i
  have hv' : VRs Ef.rd Ef.β args' vals := by
    subst ha
    refine ⟨by rw [List.length_map]; exact hv.1, fun j p v hp hv2 => ?_⟩
    rw [List.getElem?_map] at hp
    cases hj : args[j]? with
    | none => rw [hj] at hp; cases hp
    | some q =>
      rw [hj] at hp; cases hp
      have := hs2.slots j v (by simpa [a] using hv2)
      have e : args.getD j .any = q := by simp [List.getD, hj]
      rw [← e]
      exact this
  have hs3 : SatF Ef C (fun id => n ≤ id) ⟨fun k => frzL L (args.getD k .any), rowsH []⟩ a Ef :=
    ⟨hs2.ok, fun id hid => by rw [e2]; exact hok.fresh id hid, .refl _ _, hs2.slots, hs2.defers, hs2.size, hs2.hi⟩
  have hs4 : SatF Ef ⟨n, [], vals.length⟩ (fun id => n ≤ id) ⟨fun k => frzL L (args.getD k .any), rowsH []⟩ a Ef := ⟨hs3.ok, hs3.n0, .refl _ _, hs3.slots, hs3.defers, hs3.size, hs3.hi⟩
  have hcall := call_spec (σ := ⟨fun k => frzL L (args.getD k .any), rowsH []⟩) (C := ⟨n, [], vals.length⟩) (nid := n) hp (by simp) (by simp) (by simp) hids rfl rfl rfl (by simp) hs4 (fun k _ => Nat.le_add_right n k) hv'
  rw [e1] at hcall
  refine hcall.mono ?_
  rintro e w' ⟨v, E', hw, rfl, hvr, hs5⟩
  have hx := hs5.ext
  have hx2 : Ext [] E { E with w := E'.w } := {
    i := fun _ h => h
    β := fun _ _ h => h
    new := fun id l b h h' _ => by
      have h0 : E.β id = some l := h
      rw [h'] at h0; cases h0
    newI := fun _ h => .inl h
    os := by rw [← e1]; exact hx.os
    tape := by rw [← e1]; exact hx.tape
    output := by rw [← e1]; exact hx.output
    size := by rw [← e1]; exact hx.size
    block := fun k hk _ => by rw [← e1] at hk ⊢; exact hx.block k hk (by simp)
    imm := fun b hb => by rw [← e1]; exact hx.imm b (e3 b hb) }
  refine ⟨v, { E with w := E'.w }, hw, rfl, hx2, ⟨⟨fun id pb hh => ?_, fun id id' pb pb' l l' b h1 h2 => ?_⟩, fun id hid => ?_, fun b hb => ?_⟩, fun id _ => rfl, PV.scal_vr hr hvr⟩
  · have hh' : rowsH L.rows id = some pb := by simpa using hh
    obtain ⟨l, hl, hrow⟩ := hok.heap.row id pb hh'
    refine ⟨l, hl, RowAt.mono (E := E) (E' := { E with w := E'.w }) hx2 hrow (fun b hb => (hrow.blk b hb).1) (fun b hb => ?_)⟩
    exact hx2.block b (hok.heap.lt hh' hl hb) (by simp)
  · exact hok.heap.inj id id' pb pb' l l' b (by simpa using h1) (by simpa using h2)
  · exact hok.fresh id (by simpa using hid)
  · exact Nat.lt_of_lt_of_le (hok.ibound b hb) hx2.size

end Go.PM
