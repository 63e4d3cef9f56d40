/- The pure machine, part 8: what makes memory: variables, composite literals, made slices. -/
import Derived.Test.YtmljpbhmdjpbaaaPm7
import Derived.Laws.MakeOwn
namespace Go.PM
set_option linter.unusedVariables false
set_option linter.unusedSimpArgs false
section sound
variable {P : Program} {C : Cx} {o : Oper} {nid : Nat} {σ : Core}

theorem maxLen_one : (1 : Nat) ≤ maxLen := by unfold maxLen; omega

theorem ok_alloc {T : TypeId} (ho : o.op = .alloc T) (hd : dstOk C o = true) (h : (stAlloc (tI P T) T nid).1) : OpOK P C o nid σ (stAlloc (tI P T) T nid).2 := by
  unfold stAlloc at h ⊢
  split at h
  · rename_i ti hti
    obtain ⟨h1, h2⟩ := h
    refine .newBlock hd fun E0 fr a E hs => ?_
    obtain ⟨z, hz, hzc⟩ := run_zero hti E.w
    have hall : ∀ v ∈ z.cells.toList, v.oneCell' = true := by rw [hzc]; exact List.all_eq_true.1 h2
    refine ⟨.pointer (some ⟨E.w.heap.size, 0, none⟩), E.w, z.cells, 1, ?_, .refl _, ?_, ?_, ?_, by simp, maxLen_one, ?_, hall, ?_⟩
    · simp only [execOp, ho, Instr.alloc, Sem.run_bind, hz, Result.andThen_ok, Sem.run_pure, newVar, newRow, run_newObj]; rfl
    · rw [← Array.length_toList, hzc, h1]; exact (Nat.one_mul _).symm
    · intro e he; simp at he; subst he; simpa [zP] using h1
    · intro e he p hp
      simp at he; subst he
      simp [zP] at hp
      obtain ⟨v, _, rfl⟩ := hp
      rfl
    · intro j p hp
      simp only [List.flatten_cons, List.flatten_nil, List.append_nil, zP, List.getElem?_map] at hp
      cases hj : ti.zero[j]? with
      | none => rw [hj] at hp; cases hp
      | some v =>
        rw [hj] at hp; cases hp
        have hv : z.cells[j]? = some v := by rw [← hzc] at hj; simpa using hj
        exact ⟨v, hv, vr_mk _ _ _ (hall v (by rw [hzc]; exact List.mem_of_getElem? hj))⟩
    · intro E' _ hβ
      have := VR.ptr (rd := E'.rd) (β := E'.β) nid 0 0 _ _ _ hβ
      simpa using this
  · exact h.elim

theorem ok_box {T : TypeId} {x : Operand} (ho : o.op = .box T x) (hd : dstOk C o = true) (hx : opndOk x = true) (h : (stBox T (evP σ.t x) nid).1) : OpOK P C o nid σ (stBox T (evP σ.t x) nid).2 := by
  refine .newBlock hd fun E0 fr a E hs => ?_
  have ex := hs.eval x hx
  obtain ⟨h1, h2, h3⟩ := vr_cells ex h
  refine ⟨.pointer (some ⟨E.w.heap.size, 0, none⟩), E.w, (a.eval x).cells, 1, ?_, .refl _, ?_, ?_, ?_, by simp, maxLen_one, ?_, h3, ?_⟩
  · simp only [execOp, ho, Instr.box, Sem.run_bind, Result.andThen_ok, Sem.run_pure, newVar, newRow, run_newObj]; rfl
  · rw [← Array.length_toList, h1]; exact (Nat.one_mul _).symm
  · intro e he; simp at he; subst he; rfl
  · intro e he p hp; simp at he; subst he; exact List.all_eq_true.1 h p hp
  · intro j p hp
    simp only [List.flatten_cons, List.flatten_nil, List.append_nil] at hp
    have hlt : j < (a.eval x).cells.toList.length := by rw [h1]; exact (List.getElem?_eq_some_iff.1 hp).1
    have hu : (a.eval x).cells.toList[j]? = some (a.eval x).cells.toList[j] := by simp [hlt]
    exact ⟨(a.eval x).cells.toList[j], by simp at hlt ⊢, h2 j p _ hp hu⟩
  · intro E' _ hβ
    have := VR.ptr (rd := E'.rd) (β := E'.β) nid 0 0 _ _ _ hβ
    simpa using this

theorem list_fold (off : Nat) : ∀ (xs : List Value) (k : Nat) (cells : Array Value), off + k + xs.length ≤ cells.size →
    ((xs.zipIdx k).foldl (fun (cs : Array Value) (x : Value × Nat) => cs.setIfInBounds (off + x.2) x.1) cells).toList = cells.toList.take (off + k) ++ xs ++ cells.toList.drop (off + k + xs.length)
  | [], k, cells, _ => by simp
  | v :: r, k, cells, h => by
    have ih := list_fold off r (k + 1) (cells.setIfInBounds (off + k) v) (by simp at h ⊢; omega)
    simp only [List.zipIdx_cons, List.foldl_cons]
    rw [ih]
    have := list_seg_step cells.toList (off + k) v r (by simp at h ⊢; omega)
    simp only [Array.toList_setIfInBounds, List.length_cons]
    rw [← this]
    simp [Nat.add_assoc]

theorem fill_rel {rd : Rd} {β : Bt} {place : Nat → Option (Nat × Nat)} : ∀ (parts : List (Nat × PV)) (us : List (Nat × Value)) (ps : List PV) (cs : Array Value), us.length = parts.length →
    (∀ (j : Nat) x u, parts[j]? = some x → us[j]? = some u → u.1 = x.1 ∧ VR rd β x.2 u.2) → CellsAt rd β ps cs → ps.length = cs.size → (∀ v ∈ cs.toList, v.oneCell' = true) → (fillP place ps parts).1 →
    ∃ cs', Instr.fill place cs us = some cs' ∧ CellsAt rd β (fillP place ps parts).2 cs' ∧ (fillP place ps parts).2.length = cs'.size ∧ (∀ v ∈ cs'.toList, v.oneCell' = true)
  | [], us, ps, cs, hl, _, hc, hs, h1, _ => by
    have : us = [] := List.eq_nil_of_length_eq_zero (by simpa using hl)
    subst this
    exact ⟨cs, rfl, hc, hs, h1⟩
  | (i, p) :: r, us, ps, cs, hl, hr, hc, hs, h1, hf => by
    cases us with
    | nil => simp at hl
    | cons u us =>
      obtain ⟨i', v⟩ := u
      obtain ⟨e1, e2⟩ := hr 0 (i, p) (i', v) rfl rfl
      simp only at e1 e2
      subst e1
      unfold fillP at hf ⊢
      unfold Instr.fill
      cases hp : place i' with
      | none => simp only [hp] at hf
      | some x =>
        obtain ⟨off, sz⟩ := x
        simp only [hp] at hf ⊢
        obtain ⟨g1, g2, g3, g4⟩ := hf
        obtain ⟨c1, c2, c3⟩ := vr_cells e2 g3
        have hvs : v.cells.size = sz := by rw [← Array.length_toList, c1, g1]
        have hle : off + v.cells.size ≤ cs.size := by rw [hvs, ← hs]; exact g2
        have hfold : (v.cells.zipIdx.foldl (fun (cs : Array Value) (x : Value × Nat) => cs.setIfInBounds (off + x.2) x.1) cs) = (cs.toList.take off ++ v.cells.toList ++ cs.toList.drop (off + v.cells.toList.length)).toArray := by
          apply Array.ext'
          rw [← Array.foldl_toList, Array.toList_zipIdx]
          have := list_fold off v.cells.toList 0 cs (by simpa using hle)
          simpa using this
        have hcond : (v.cells.size ≠ sz || off + v.cells.size > cs.size) = false := by
          simp [hvs]; rw [← hvs]; omega
        have ih := fill_rel (place := place) r us (putAt ps off (cellsOf p)) (cs.toList.take off ++ v.cells.toList ++ cs.toList.drop (off + v.cells.toList.length)).toArray (by simpa using hl) (fun j x u hx hu => hr (j + 1) x u (by simpa using hx) (by simpa using hu))
          (cellsAt_put hc c1 (by omega) (by omega) c2) (by rw [putAt_length (by omega)]; simp only [List.size_toArray, List.length_append, List.length_take, List.length_drop, Array.length_toList]; omega)
          (fun w hw => by
            simp only [List.mem_append] at hw
            rcases hw with (hw | hw) | hw
            · exact h1 w (List.mem_of_mem_take hw)
            · exact c3 w hw
            · exact h1 w (List.mem_of_mem_drop hw)) g4
        obtain ⟨cs', k1, k2, k3, k4⟩ := ih
        refine ⟨cs', ?_, k2, k3, k4⟩
        have : (if (v.cells.size ≠ sz || off + v.cells.size > cs.size) then none else Instr.fill place (v.cells.zipIdx.foldl (fun (cs : Array Value) (x : Value × Nat) => cs.setIfInBounds (off + x.2) x.1) cs) us) = some cs' := by
          rw [hcond, hfold]; simpa using k1
        exact this

theorem zP_cells {rd : Rd} {β : Bt} {ti : TI} {z : Value} (hz : z.cells.toList = ti.zero) (h : ti.zero.all (·.oneCell') = true) : CellsAt rd β (zP ti) z.cells ∧ (zP ti).length = z.cells.size ∧ (∀ v ∈ z.cells.toList, v.oneCell' = true) := by
  refine ⟨fun j p hp => ?_, by rw [zP, List.length_map, ← hz, Array.length_toList], by rw [hz]; exact List.all_eq_true.1 h⟩
  simp only [zP, List.getElem?_map] at hp
  cases hj : ti.zero[j]? with
  | none => rw [hj] at hp; cases hp
  | some v =>
    rw [hj] at hp; cases hp
    have hv : z.cells[j]? = some v := by rw [← hz] at hj; simpa using hj
    exact ⟨v, hv, vr_mk _ _ _ (List.all_eq_true.1 h v (List.mem_of_getElem? hj))⟩

theorem vr_agg_cells {rd : Rd} {β : Bt} {ps : List PV} {cs : Array Value} (h : CellsAt rd β ps cs) (hl : ps.length = cs.size) (h1 : ∀ v ∈ cs.toList, v.oneCell' = true) : VR rd β (.agg ps) (.agg cs) := by
  have := VR.agg (rd := rd) (β := β) ps cs.toList (by simpa using hl.symm) h1 (fun j p v hp hv => by
    obtain ⟨u, hu, hvr⟩ := h j p hp
    have : cs.toList[j]? = some u := by simpa using hu
    rw [this] at hv; cases hv; exact hvr)
  simpa using this

theorem run_mapM {α β : Type} (f : α → Sem β) (g : α → β) (w : World) : ∀ (l : List α), (∀ x ∈ l, (f x).run P w = .ok (g x) w) → (l.mapM f).run P w = .ok (l.map g) w
  | [], _ => by simp
  | x :: r, h => by
    have ih := run_mapM f g w r (fun y hy => h y (by simp [hy]))
    simp [List.mapM_cons, h x (by simp), ih]

theorem parts_rel {E0 : Env} {fr : Nat → Prop} {a : Act} {E : Env} (hs : SatF E0 C fr σ a E) (parts : Array (Nat × Operand)) (hp : parts.toList.all (fun x => opndOk x.2) = true) :
    (parts.toList.map fun x => (x.1, a.eval x.2)).length = (parts.toList.map fun x => (x.1, evP σ.t x.2)).length ∧
    ∀ (j : Nat) x u, (parts.toList.map fun x => (x.1, evP σ.t x.2))[j]? = some x → (parts.toList.map fun x => (x.1, a.eval x.2))[j]? = some u → u.1 = x.1 ∧ VR E.rd E.β x.2 u.2 := by
  refine ⟨by simp, fun j x u hx hu => ?_⟩
  rw [List.getElem?_map] at hx hu
  cases hj : parts.toList[j]? with
  | none => rw [hj] at hx; cases hx
  | some y =>
    rw [hj] at hx hu; cases hx; cases hu
    exact ⟨rfl, hs.eval y.2 (List.all_eq_true.1 hp y (List.mem_of_getElem? hj))⟩

theorem map_pairs (parts : Array (Nat × Operand)) (f : Operand → Value) : (parts.map fun (x : Nat × Operand) => (x.1, f x.2)).toList = parts.toList.map fun x => (x.1, f x.2) := by simp

theorem ok_build {T : TypeId} {parts : Array (Nat × Operand)} (ho : o.op = .build T parts) (hd : dstOk C o = true) (hx : parts.toList.all (fun x => opndOk x.2) = true)
    (h : (stBuild (tSt P T) (tAr P T) (tI P T) (parts.toList.map fun x => (x.1, evP σ.t x.2))).1) : OpOK P C o nid σ (stBuild (tSt P T) (tAr P T) (tI P T) (parts.toList.map fun x => (x.1, evP σ.t x.2))).2 := by
  unfold stBuild at h ⊢
  split at h
  · exact h.elim
  · rename_i ti hti
    split at h
    · rename_i fs hst
      obtain ⟨h1, h2⟩ := h
      obtain ⟨Fs, hu, hl, hf⟩ := tSt_spec hst
      refine .value hd fun E0 fr a E hs => ?_
      obtain ⟨z, hz, hzc⟩ := run_zero hti E.w
      obtain ⟨z1, z2, z3⟩ := zP_cells (rd := E.rd) (β := E.β) hzc h1
      obtain ⟨p1, p2⟩ := parts_rel hs parts hx
      obtain ⟨cs', k1, k2, k3, k4⟩ := fill_rel _ _ _ _ p1 p2 z1 z2 z3 h2
      refine ⟨.agg cs', ?_, vr_agg_cells k2 k3 k4⟩
      have hpl : (fields : Array Field) → fields = Fs → (fields.mapM (fun f => do pure (f.offset, ← sizeOf f.type) : Field → Sem (Nat × Nat))).run P E.w = .ok (fs.map fun x => (x.1, x.2.sz)).toArray E.w := by
        intro fields hfe
        subst hfe
        rw [Array.mapM_eq_mapM_toList]
        have := run_mapM (P := P) (fun f : Field => do pure (f.offset, ← sizeOf f.type)) (fun f => (f.offset, ((P.info? f.type).map (·.size)).getD 0)) E.w fields.toList (fun f hfm => by
          obtain ⟨j, hj⟩ := List.mem_iff_getElem?.1 hfm
          obtain ⟨te, _, hte⟩ := hf j f (by simpa using hj)
          obtain ⟨i, d, z, hi, _, _, hsz, _⟩ := tI_info hte
          simp [run_sz hte, hi, hsz])
        simp only [Sem.run_map, this, Result.andThen_ok]
        congr 2
        apply List.ext_getElem?
        intro j
        simp only [List.getElem?_map]
        cases hj : fields.toList[j]? with
        | none =>
          have : fs[j]? = none := by
            rw [List.getElem?_eq_none_iff] at hj ⊢
            rw [hl]; simpa using hj
          simp [this]
        | some f =>
          obtain ⟨te, h3, hte⟩ := hf j f (by simpa using hj)
          obtain ⟨i, d, z, hi, _, _, hsz, _⟩ := tI_info hte
          simp [h3, hi, hsz]
      have hplace : (fun (i : Nat) => ((fs.map fun (x : Nat × TI) => (x.1, x.2.sz)).toArray)[i]?) = (fun (i : Nat) => (fs[i]?).map fun (x : Nat × TI) => (x.1, x.2.sz)) := by
        funext i; simp
      simp only [execOp, ho, Instr.build, Sem.run_bind, hz, Result.andThen_ok, run_underlying hu, hpl Fs rfl, hplace]
      rw [map_pairs parts a.eval, k1]
      simp
    · rename_i n te hst har
      obtain ⟨h1, h2⟩ := h
      obtain ⟨e, hu, hte⟩ := tAr_spec har
      refine .value hd fun E0 fr a E hs => ?_
      obtain ⟨z, hz, hzc⟩ := run_zero hti E.w
      obtain ⟨z1, z2, z3⟩ := zP_cells (rd := E.rd) (β := E.β) hzc h1
      obtain ⟨p1, p2⟩ := parts_rel hs parts hx
      obtain ⟨cs', k1, k2, k3, k4⟩ := fill_rel _ _ _ _ p1 p2 z1 z2 z3 h2
      refine ⟨.agg cs', ?_, vr_agg_cells k2 k3 k4⟩
      simp only [execOp, ho, Instr.build, Sem.run_bind, hz, Result.andThen_ok, run_underlying hu, run_sz hte]
      rw [map_pairs parts a.eval, k1]
      simp
    · exact h.elim

end sound
end Go.PM
