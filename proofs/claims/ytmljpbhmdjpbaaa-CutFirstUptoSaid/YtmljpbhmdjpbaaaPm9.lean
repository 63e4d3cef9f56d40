/- The pure machine, part 9: slices that are made, cut, appended to. -/
import Derived.Test.YtmljpbhmdjpbaaaPm8
namespace Go.PM
set_option linter.unusedVariables false
set_option linter.unusedSimpArgs false
section sound
variable {P : Program} {C : Cx} {o : Oper} {nid : Nat} {σ : Core}

theorem fillP_seq (sz : Nat) : ∀ (parts : List (Nat × PV)) (s : Nat) (cells : List PV), parts.map (·.1) = List.range' s parts.length → (∀ x ∈ parts, (cellsOf x.2).length = sz ∧ (cellsOf x.2).all PV.cell = true) → (s + parts.length) * sz ≤ cells.length →
    (fillP (fun i => some (i * sz, sz)) cells parts).1 ∧ (fillP (fun i => some (i * sz, sz)) cells parts).2 = cells.take (s * sz) ++ (parts.map fun x => cellsOf x.2).flatten ++ cells.drop ((s + parts.length) * sz)
  | [], s, cells, _, _, _ => by simp [fillP]
  | (i, p) :: r, s, cells, hi, hx, hl => by
    simp only [List.map_cons, List.length_cons, List.range'_succ, List.cons.injEq] at hi
    obtain ⟨rfl, hi⟩ := hi
    obtain ⟨h1, h2⟩ := hx (i, p) (by simp)
    simp only at h1 h2
    have hle : i * sz + sz ≤ cells.length := by
      refine Nat.le_trans ?_ hl
      rw [← Nat.succ_mul]
      exact Nat.mul_le_mul_right _ (by simp)
    have ih := fillP_seq sz r (i + 1) (putAt cells (i * sz) (cellsOf p)) hi (fun x h => hx x (by simp [h])) (by rw [putAt_length (by omega)]; rw [show i + 1 + r.length = i + (r.length + 1) by omega]; exact hl)
    simp only [fillP, h1, h2, hle, true_and]
    refine ⟨ih.1, ?_⟩
    rw [ih.2]
    have e1 : (i + 1) * sz = i * sz + sz := Nat.succ_mul i sz
    have l1 : (cells.take (i * sz)).length = i * sz := by rw [List.length_take]; omega
    have t1 : (putAt cells (i * sz) (cellsOf p)).take ((i + 1) * sz) = cells.take (i * sz) ++ cellsOf p := by
      unfold putAt
      have := take_mid (cells.take (i * sz)) (cellsOf p) (cells.drop (i * sz + (cellsOf p).length)) (i * sz) sz l1 (by omega)
      rw [e1, this, List.take_of_length_le (l := cellsOf p) (by omega)]
    have t2 : (putAt cells (i * sz) (cellsOf p)).drop ((i + 1 + r.length) * sz) = cells.drop ((i + (r.length + 1)) * sz) := by
      unfold putAt
      have e2 : (i + 1 + r.length) * sz = i * sz + sz + r.length * sz := by rw [Nat.add_mul, e1]
      have e3 : (i + (r.length + 1)) * sz = i * sz + sz + r.length * sz := by rw [show i + (r.length + 1) = i + 1 + r.length by omega, e2]
      have a1 := List.drop_length_add_append (l₁ := cells.take (i * sz)) (l₂ := cellsOf p ++ cells.drop (i * sz + (cellsOf p).length)) (i := sz + r.length * sz)
      rw [l1] at a1
      have a2 := List.drop_length_add_append (l₁ := cellsOf p) (l₂ := cells.drop (i * sz + (cellsOf p).length)) (i := r.length * sz)
      have a3 : sz + r.length * sz = (cellsOf p).length + r.length * sz := by rw [h1]
      rw [e2, e3, List.append_assoc, Nat.add_assoc, a1, a3, a2, List.drop_drop]
      congr 1
      omega
    rw [t1, t2]
    simp [List.append_assoc]

theorem map_parts (t : Nat → PV) (parts : Array (Nat × Operand)) : (parts.toList.map fun x => (x.1, evP t x.2)).map (·.1) = parts.toList.map (·.1) := by simp

theorem ok_buildSlice {T : TypeId} {len : Nat} {parts : Array (Nat × Operand)} (ho : o.op = .buildSlice T len parts) (hd : dstOk C o = true) (hx : parts.toList.all (fun x => opndOk x.2) = true)
    (h : (stBuildSlice (tSl P T) len (parts.toList.map fun x => (x.1, evP σ.t x.2)) nid).1) : OpOK P C o nid σ (stBuildSlice (tSl P T) len (parts.toList.map fun x => (x.1, evP σ.t x.2)) nid).2 := by
  unfold stBuildSlice at h ⊢
  split at h
  · rename_i e ti hsl
    obtain ⟨h1, h2, h3, h3', h4, h5⟩ := h
    obtain ⟨hu, hti⟩ := tSl_spec hsl
    generalize hpp : (parts.toList.map fun x => (x.1, evP σ.t x.2)) = pp at *
    have hlen : pp.length = len := by
      have := congrArg List.length h1
      simpa using this
    subst hlen
    have hall : ∀ x ∈ pp, (cellsOf x.2).length = ti.sz ∧ (cellsOf x.2).all PV.cell = true := by
      intro x hx
      have := List.all_eq_true.1 h2 (cellsOf x.2) (List.mem_map.2 ⟨x, hx, rfl⟩)
      simpa using this
    refine .newBlock hd fun E0 fr a E hs => ?_
    obtain ⟨z, hz, hzc⟩ := run_zero hti E.w
    have hzone : ∀ v ∈ z.cells.toList, v.oneCell' = true := by rw [hzc]; exact List.all_eq_true.1 h4
    have hzsz : z.cells.size = ti.sz := by rw [← Array.length_toList, hzc, h5]
    -- the cells ahead of the parts
    let zero : Array Value := if pp.length * ti.sz = 0 then #[] else z.cells
    let init : Array Value := (Array.range (pp.length * ti.sz)).map (zero[· % zero.size]!)
    have hinit1 : init.size = pp.length * ti.sz := by simp [init]
    have hinit : ∀ v ∈ init.toList, v.oneCell' = true := by
      intro v hv
      simp only [init, Array.toList_map, List.mem_map] at hv
      obtain ⟨j, hj, rfl⟩ := hv
      simp only [Array.toList_range, List.mem_range] at hj
      have hne : pp.length * ti.sz ≠ 0 := by omega
      have hze : zero = z.cells := by simp [zero, hne]
      have hpos : 0 < z.cells.size := by
        rw [hzsz]
        rcases Nat.eq_zero_or_pos ti.sz with h0 | h0
        · rw [h0, Nat.mul_zero] at hne; exact absurd rfl hne
        · exact h0
      rw [hze]
      have hm := Nat.mod_lt j hpos
      have : z.cells[j % z.cells.size]! = z.cells[j % z.cells.size] := by simp [hm]
      rw [this]
      exact hzone _ (by simp)
    obtain ⟨p1, p2⟩ := parts_rel hs parts hx
    rw [hpp] at p1 p2
    obtain ⟨s1, s2⟩ := fillP_seq ti.sz pp 0 (List.replicate (pp.length * ti.sz) .any) (by rw [h1, List.range_eq_range']) hall (by simp)
    obtain ⟨cs', k1, k2, k3, k4⟩ := fill_rel pp _ (List.replicate (pp.length * ti.sz) .any) init p1 p2 (fun j p hp => by
        have hlt : j < init.size := by rw [hinit1]; have := (List.getElem?_eq_some_iff.1 hp).1; simpa using this
        have hpa : p = .any := by
          rw [List.getElem?_replicate] at hp
          split at hp
          · cases hp; rfl
          · cases hp
        subst hpa
        exact ⟨init[j], by simp [hlt], .any _⟩) (by simp [hinit1]) hinit s1
    rw [s2] at k2 k3
    simp only [Nat.zero_mul, List.take_zero, List.nil_append, Nat.zero_add, List.drop_replicate, Nat.sub_self, List.replicate_zero, List.append_nil] at k2 k3
    have hes : (pp.map fun x => cellsOf x.2).flatten.length = pp.length * ti.sz := by
      have := flatten_len (pp.map fun x => cellsOf x.2) ti.sz (fun e he => by
        obtain ⟨x, hx, rfl⟩ := List.mem_map.1 he
        exact (hall x hx).1)
      simpa using this
    refine ⟨.slice (some ⟨E.w.heap.size, 0, none⟩) pp.length pp.length, E.w, cs', pp.length, ?_, .refl _, ?_, ?_, ?_, by simp, ?_, k2, k4, ?_⟩
    · have hgt : ¬ (pp.length * ti.sz > 2 ^ 24) := by omega
      have k1' : Instr.fill (fun i => some (i * ti.sz, ti.sz)) ((Array.range (pp.length * ti.sz)).map (zero[· % zero.size]!)) (parts.toList.map fun x => (x.1, a.eval x.2)) = some cs' := k1
      by_cases h0 : pp.length * ti.sz = 0
      · have hz0 : zero = #[] := by simp [zero, h0]
        rw [hz0] at k1'
        simp only [execOp, ho, Instr.buildSlice, Sem.run_bind, run_underlying hu, Result.andThen_ok, run_sz hti, if_neg hgt, if_pos h0, Sem.run_pure]
        rw [map_pairs parts a.eval, k1']
        simp [newRow]
      · have hz0 : zero = z.cells := by simp [zero, h0]
        rw [hz0] at k1'
        simp only [execOp, ho, Instr.buildSlice, Sem.run_bind, run_underlying hu, Result.andThen_ok, run_sz hti, if_neg hgt, if_neg h0, hz, Sem.run_pure]
        rw [map_pairs parts a.eval, k1']
        simp [newRow]
    · rw [← k3, hes]
    · intro c hc
      obtain ⟨x, hx, rfl⟩ := List.mem_map.1 hc
      exact (hall x hx).1
    · intro c hc q hq
      obtain ⟨x, hx, rfl⟩ := List.mem_map.1 hc
      exact List.all_eq_true.1 (hall x hx).2 q hq
    · unfold maxLen; omega
    · intro E' _ hβ
      have := VR.own (rd := E'.rd) (β := E'.β) nid 0 pp.length pp.length E.w.heap.size ti.sz pp.length ⟨E.w.heap.size, 0, none⟩ hβ (Nat.le_refl _) (by omega) (by simp)
      exact this
  · exact h.elim

end sound
end Go.PM
