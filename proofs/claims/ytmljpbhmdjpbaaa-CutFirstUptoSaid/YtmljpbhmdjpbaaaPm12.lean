/- The pure machine, part 12: append, the operation. -/
import Derived.Test.YtmljpbhmdjpbaaaPm11
namespace Go.PM
set_option linter.unusedVariables false
set_option linter.unusedSimpArgs false
section sound
variable {P : Program} {C : Cx} {o : Oper} {nid : Nat} {σ : Core}

theorem run_append_zero {T e : TypeId} {ti : TI} (hu : P.underlying T = some (.slice e)) (hti : tI P e = some ti) (ty : TypeId) (ad : Option Addr) (n cap : Nat) (hn : n ≤ cap) (x : Value) (hx : x = .slice none 0 0 ∨ ∃ a c, x = .slice (some a) 0 c) (w : World) :
    (Builtin.append_ #[T, T] ty #[.slice ad n cap, x]).run P w = .ok (.slice ad n cap) w := by
  obtain ⟨i, d, z, hi, _, hz, hsz, hby, _, hzc⟩ := tI_info hti
  rcases hx with rfl | ⟨a, c, rfl⟩
  · cases ad <;> simp [Builtin.append_, run_underlying hu, sizeOf, typeInfo, hi, Builtin.lenOf, hn, Builtin.firstCells, storeCells]
  · cases ad <;> simp [Builtin.append_, run_underlying hu, sizeOf, typeInfo, hi, Builtin.lenOf, hn, Builtin.firstCells, storeCells, loadCells, loadCellsFrom]

theorem cellsAt_prefix {rd : Rd} {β : Bt} {ps qs : List PV} {cur : Array Value} (h : CellsAt rd β (ps ++ qs) cur) : CellsAt rd β ps cur := fun j p hp =>
  h j p (by rw [List.getElem?_append, if_pos (List.getElem?_eq_some_iff.1 hp).1]; exact hp)

theorem cellsAt_room {rd : Rd} {β : Bt} {ps qs : List PV} {cur : Array Value} {us : List Value} {k : Nat} (hk : ps.length = k) (hcur : k + us.length ≤ cur.size) (h : CellsAt rd β ps cur) (hul : us.length = qs.length) (hu : ∀ (j : Nat) p v, qs[j]? = some p → us[j]? = some v → VR rd β p v) :
    CellsAt rd β (ps ++ qs) (cur.toList.take k ++ us ++ cur.toList.drop (k + us.length)).toArray := by
  intro j p hp
  simp only [List.getElem?_toArray]
  rw [List.append_assoc, List.getElem?_append]
  have l2 : (cur.toList.take k).length = k := by simp; omega
  rw [l2]
  rw [List.getElem?_append, hk] at hp
  split at hp
  · rename_i hj
    rw [if_pos hj, List.getElem?_take, if_pos hj]
    obtain ⟨v, h1, h2⟩ := h j p hp
    exact ⟨v, by simpa using h1, h2⟩
  · rename_i hj
    have hlt : j - k < us.length := by rw [hul]; exact (List.getElem?_eq_some_iff.1 hp).1
    rw [if_neg hj, List.getElem?_append, if_pos hlt]
    exact ⟨us[j - k], by simp [hlt], hu _ p _ hp (by simp [hlt])⟩

/-- The two ways in which an append makes a new block. -/
theorem append_new {E0 : Env} {fr : Nat → Prop} {a : Act} {E : Env} (hs : SatF E0 C fr σ a E) {T e : TypeId} {ti : TI} (hd : dstOk C o = true) {x y : Operand} (ho : o.op = .call { callee := .builtin .append, args := #[x, y], argTypes := #[T, T] }) (hnid : fr nid)
    (h4 : ti.zero.length = ti.sz) (h6 : ti.zero.all (·.oneCell') = true) {i : TypeInfo} {z : Value} (hzc : z.cells.toList = ti.zero)
    (olds news : List Value) (ps qs : List (List PV)) (hps : ∀ c ∈ ps, c.length = ti.sz) (hqs : ∀ c ∈ qs, c.length = ti.sz) (hpc : ∀ c ∈ ps, ∀ p ∈ c, p.cell = true) (hqc : ∀ c ∈ qs, ∀ p ∈ c, p.cell = true)
    (h1 : olds.length = ps.flatten.length) (h2 : news.length = qs.flatten.length) (h1v : ∀ (j : Nat) p v, ps.flatten[j]? = some p → olds[j]? = some v → E.vr p v) (h2v : ∀ (j : Nat) p v, qs.flatten[j]? = some p → news[j]? = some v → E.vr p v)
    (h1c : ∀ v ∈ olds, v.oneCell' = true) (h2c : ∀ v ∈ news, v.oneCell' = true) (sCap : Nat) (hml : ps.length + qs.length ≤ maxLen)
    (hr : (Builtin.append_ #[T, T] o.type #[a.eval x, a.eval y]).run P E.w = .ok (.slice (some ⟨E.w.heap.size, 0, none⟩) (ps.length + qs.length) (grownCap E.w (ps.length + qs.length) sCap e))
      (E.w.drew.alloc (.cells (olds.toArray ++ news.toArray ++ Builtin.zeroCells z.cells (grownCap E.w (ps.length + qs.length) sCap e - (ps.length + qs.length))) e)))
    (K : Act → World → Prop) (Q : Exit → Act → World → Prop)
    (hK : ∀ (v : Value) (E' : Env), SatF E0 C (fun j => fr j ∧ j ≠ nid) (({ σ with h := hup σ.h nid (some ⟨e, ti.sz, ps ++ qs⟩) } : Core).put o.dst (.own nid ti.sz 0 (ps.length + qs.length))) (a.put o.dst v) E' → K (a.put o.dst v) E'.w) : o.wp P a E.w K Q := by
  have hge := grownCap_ge E.w (ps.length + qs.length) sCap e
  have hle := grownCap_le_maxLen E.w (ps.length + qs.length) sCap e hml
  obtain ⟨z1, z2⟩ := zeroCells_cells hzc h6 h4 (grownCap E.w (ps.length + qs.length) sCap e - (ps.length + qs.length))
  have hpl := flatten_len ps ti.sz hps
  have hql := flatten_len qs ti.sz hqs
  obtain ⟨E', hw, hβ, hx, hs'⟩ := hs.alloc nid hnid E.w.drew (.drew _) (olds.toArray ++ news.toArray ++ Builtin.zeroCells z.cells (grownCap E.w (ps.length + qs.length) sCap e - (ps.length + qs.length))) ⟨e, ti.sz, ps ++ qs⟩ (grownCap E.w (ps.length + qs.length) sCap e)
    (by
      simp only [Array.size_append, List.size_toArray, z2, h1, h2, hpl, hql, ← Nat.add_mul]
      congr 1
      omega)
    (fun c hc => by
      rcases List.mem_append.1 hc with h | h
      · exact hps c h
      · exact hqs c h)
    (fun c hc => by
      rcases List.mem_append.1 hc with h | h
      · exact hpc c h
      · exact hqc c h)
    (by simp only [List.length_append]; exact hge) hle
    (by rw [List.flatten_append]; exact cellsAt_app h1 h1v h2 h2v)
    (fun v hv => by
      simp only [Array.toList_append, List.mem_append] at hv
      rcases hv with (hv | hv) | hv
      · exact h1c v hv
      · exact h2c v hv
      · exact z1 v hv)
  unfold Oper.wp
  rw [execOp_append ho a E.w _ _ hr, ← hw]
  refine hK _ E' (hs'.put o.dst (dstOk_lt hd) ?_)
  exact VR.own nid 0 _ _ _ _ _ ⟨E.w.heap.size, 0, none⟩ hβ hge (by omega) (by simp)

theorem ok_append {T : TypeId} {x y : Operand} (ho : o.op = .call { callee := .builtin .append, args := #[x, y], argTypes := #[T, T] }) (hd : dstOk C o = true) (hx : opndOk x = true) (hy : opndOk y = true) (h : (stAppend C (tSl P T) σ.h (evP σ.t x) (evP σ.t y) nid).1) :
    OpOK P C o nid σ (stAppend C (tSl P T) σ.h (evP σ.t x) (evP σ.t y) nid).2 := by
  unfold stAppend at h ⊢
  split at h
  · rename_i e ti hsl
    obtain ⟨hu, hti⟩ := tSl_spec hsl
    split at h
    · rename_i new hnew
      obtain ⟨i, d, z, hi, _, hz, hisz, hby, _, hzc⟩ := tI_info hti
      split at h
      · rename_i id sz off len hp
        split at h
        · rename_i pb hh
          simp only [hh]
          obtain ⟨g0, g1, g2, g3, g4, g5, g6, g7, g8, g9, g10, g11, g12, g13⟩ := h
          subst g1
          subst g3
          subst g5
          intro E0 fr a E hs hfr K Q hK
          have hnid : fr nid := hfr 0 (by omega)
          have ex := hs.eval x hx
          have ey := hs.eval y hy
          rw [hp] at ex
          have hsrc := src_cases hs (sz := ti.sz) ey hnew g12 g13
          obtain ⟨l, hl, hrow⟩ := hs.ok.heap.row id pb hh
          generalize hax : a.eval x = vx at ex
          have fin : ∀ (v : Value) (E' : Env), SatF E0 C (fun j => fr j ∧ j ≠ nid) (({ σ with h := hup (hup σ.h id none) nid (some ⟨pb.ty, ti.sz, pb.es.take len ++ new⟩) } : Core).put o.dst (.own nid ti.sz 0 (len + new.length))) (a.put o.dst v) E' → K (a.put o.dst v) E'.w :=
            fun v E' h => hK v E' (h.fr_mono fun j hj => ⟨hj.1, fun e => hj.2 (by omega)⟩)
          have htk : (pb.es.take len).length = len := by simp; omega
          have hels : ∀ c ∈ pb.es.take len, c.length = ti.sz := fun c hc => by rw [← g4]; exact hrow.el c (List.mem_of_mem_take hc)
          have hclls : ∀ c ∈ pb.es.take len, ∀ p ∈ c, p.cell = true := fun c hc => hrow.cell c (List.mem_of_mem_take hc)
          cases ex with
          | ownNil _ _ hβ =>
            rw [hβ] at hl; cases hl
            have hes := (hrow.nl rfl).1
            by_cases hn0 : new = []
            · subst hn0
              have hr := run_append_zero (P := P) hu hti o.type none 0 0 (Nat.le_refl _) (a.eval y) (by
                rcases hsrc with ⟨h, _⟩ | ⟨ad, c, news, h, _⟩
                · exact .inl h
                · exact .inr ⟨ad, c, h⟩) E.w
              rw [← hax] at hr
              obtain ⟨E', hw, hβ', hx', hs'⟩ := hs.renameNil (id := id) nid hnid pb.ty ti.sz
              unfold Oper.wp
              rw [execOp_append ho a E.w _ _ hr, ← hw]
              refine fin _ E' ?_
              rw [hes]
              rw [hax]
              exact hs'.put o.dst (dstOk_lt hd) (.ownNil nid ti.sz hβ')
            · have hs0 := hs.drop (hup σ.h id none) (fun k pb hk => by
                have hk' : (if k = id then none else σ.h k) = some pb := hk
                split at hk'
                · cases hk'
                · exact hk')
              rcases hsrc with ⟨_, h⟩ | ⟨ad, c, news, hv, n1, n2, n3, n4, n5⟩
              · exact absurd h hn0
              · have hnpos : 0 < new.length := List.length_pos_iff.2 hn0
                have hr := run_append_nil (P := P) E.w T o.type pb.ty i z hu hi hz ad new.length c news (by rw [n1, hisz]; exact flatten_len new ti.sz g12) n2 hnpos (by omega) (by rw [hby]; have := g7; rw [Nat.zero_add] at this; omega)
                have hr' : (Builtin.append_ #[T, T] o.type #[a.eval x, a.eval y]).run P E.w = .ok (.slice (some ⟨E.w.heap.size, 0, none⟩) (([] : List (List PV)).length + new.length) (grownCap E.w (([] : List (List PV)).length + new.length) 0 pb.ty))
                    (E.w.drew.alloc (.cells ((([] : List Value)).toArray ++ news.toArray ++ Builtin.zeroCells z.cells (grownCap E.w (([] : List (List PV)).length + new.length) 0 pb.ty - (([] : List (List PV)).length + new.length))) pb.ty)) := by
                  rw [hax, hv, hr]; simp
                refine append_new hs0 (ti := ti) hd ho hnid g9 g11 (i := i) hzc [] news [] new (by simp) g12 (by simp) n5 rfl n1 (by simp) n3 (by simp) n4 0 (by unfold maxLen; simp; omega) hr' K Q (fun v E' h => fin v E' ?_)
                simpa [hes] using h
          | own _ _ _ cap b _ tot ad hβ hlc ht ha =>
            rw [hβ] at hl; cases hl
            obtain ⟨hIb, cur, hcS, hcell, hone⟩ := hrow.blk b rfl
            obtain ⟨hc, hcs, htot, htm⟩ := hcS.cells g0
            have hcs' : cur.size = tot * ti.sz := by rw [hcs, g4]
            have hflp : (pb.es.take len).flatten.length = len * ti.sz := by rw [flatten_len _ ti.sz hels, htk]
            have hpre : CellsAt E.rd E.β (pb.es.take len).flatten cur := by
              have : pb.es.flatten = (pb.es.take len).flatten ++ (pb.es.drop len).flatten := by rw [← List.flatten_append, List.take_append_drop]
              exact cellsAt_prefix (qs := (pb.es.drop len).flatten) (by rw [← this]; exact hcell)
            by_cases hn0 : new = []
            · subst hn0
              have hr := run_append_zero (P := P) hu hti o.type (some ad) len cap hlc (a.eval y) (by
                rcases hsrc with ⟨h, _⟩ | ⟨ad, c, news, h, _⟩
                · exact .inl h
                · exact .inr ⟨ad, c, h⟩) E.w
              rw [← hax] at hr
              obtain ⟨E', hw, hβ', hx', hs'⟩ := hs.rename nid hnid hh hβ rfl hc g6 cur (pb.es.take len ++ []) rfl (by simpa [g4] using hels) (by simpa using hclls) (by simp; omega) (by simpa using hpre) hone
              rw [setRow_self E.w b cur pb.ty (0, 0) hc] at hw
              unfold Oper.wp
              rw [execOp_append ho a E.w _ _ hr, ← hw]
              refine fin _ E' ?_
              rw [hax]
              have := hs'.put o.dst (dstOk_lt hd) (p := .own nid ti.sz 0 (len + ([] : List (List PV)).length)) (v := .slice (some ad) len cap) (.own nid 0 len cap b ti.sz tot ad hβ' hlc ht ha)
              rw [g4] at this
              exact this
            · rcases hsrc with ⟨_, h⟩ | ⟨ad2, c, news, hv, n1, n2, n3, n4, n5⟩
              · exact absurd h hn0
              · have hnpos : 0 < new.length := List.length_pos_iff.2 hn0
                have hnl : news.length = new.length * ti.sz := by rw [n1]; exact flatten_len new ti.sz g12
                by_cases hroom : len + new.length ≤ cap
                · have had := ha
                  rw [Nat.zero_mul] at had
                  subst had
                  have hfit : len * i.size + news.length ≤ cur.size := by
                    rw [hisz, hnl, hcs', ← Nat.add_mul]
                    exact Nat.mul_le_mul_right _ (by omega)
                  have hr := run_append_room (P := P) E.w T o.type pb.ty i hu hi b len cap cur hc ad2 new.length c news (by rw [hisz]; exact hnl) n2 n4 hroom hfit
                  rw [hisz] at hr hfit
                  rw [← hax, ← hv] at hr
                  obtain ⟨E', hw, hβ', hx', hs'⟩ := hs.rename nid hnid hh hβ rfl hc g6 (cur.toList.take (len * ti.sz) ++ news ++ cur.toList.drop (len * ti.sz + news.length)).toArray (pb.es.take len ++ new)
                    (by simp only [List.size_toArray, List.length_append, List.length_take, List.length_drop, Array.length_toList]; omega)
                    (fun c hc => by
                      rw [g4]
                      rcases List.mem_append.1 hc with h | h
                      · exact hels c h
                      · exact g12 c h)
                    (fun c hc => by
                      rcases List.mem_append.1 hc with h | h
                      · exact hclls c h
                      · exact n5 c h)
                    (by rw [List.length_append, htk]; show len + new.length ≤ tot; omega)
                    (by rw [List.flatten_append]; exact cellsAt_room hflp hfit hpre n1 n3)
                    (fun v hv => by
                      simp only [List.mem_append] at hv
                      rcases hv with (hv | hv) | hv
                      · exact hone v (List.mem_of_mem_take hv)
                      · exact n4 v hv
                      · exact hone v (List.mem_of_mem_drop hv))
                  unfold Oper.wp
                  rw [execOp_append ho a E.w _ _ hr, ← hw]
                  refine fin _ E' ?_
                  have := hs'.put o.dst (dstOk_lt hd) (p := .own nid ti.sz 0 (len + new.length)) (v := .slice (some ⟨b, 0, none⟩) (len + new.length) cap) (.own nid 0 _ cap b ti.sz tot _ hβ' hroom ht (by simp))
                  rw [g4] at this
                  exact this
                · have hs0 := hs.drop (hup σ.h id none) (fun k pb hk => by
                    have hk' : (if k = id then none else σ.h k) = some pb := hk
                    split at hk'
                    · cases hk'
                    · exact hk')
                  obtain ⟨olds, v1, v2, v3⟩ := cells_list (rd := E.rd) (β := E.β) (cur := cur) (k := 0) (ps := (pb.es.take len).flatten) (fun j p hj => by rw [Nat.zero_add]; exact hpre j p hj)
                  have holds : ∀ (j : Nat) v, olds[j]? = some v → E.w.cell? (ad.add j) = some v := by
                    intro j v hj
                    have hlt : j < olds.length := (List.getElem?_eq_some_iff.1 hj).1
                    have hl0 : len ≠ 0 := by
                      intro h0; subst h0
                      rw [v1, hflp, Nat.zero_mul] at hlt
                      omega
                    have had := ha
                    rw [Nat.zero_mul] at had
                    rw [had, addr_add, cell_of_heap hc]
                    exact v2 j v hj
                  have hr := run_append_grow (P := P) E.w T o.type pb.ty i z hu hi hz ad len cap olds (by rw [v1, hisz]; exact hflp) holds ad2 new.length c news (by rw [hisz]; exact hnl) n2 (by omega) (by omega) (growslice_fits (by omega) (by rw [hby]; exact g7))
                  rw [← hax, ← hv] at hr
                  have hr' : (Builtin.append_ #[T, T] o.type #[a.eval x, a.eval y]).run P E.w = .ok (.slice (some ⟨E.w.heap.size, 0, none⟩) ((pb.es.take len).length + new.length) (grownCap E.w ((pb.es.take len).length + new.length) cap pb.ty))
                      (E.w.drew.alloc (.cells (olds.toArray ++ news.toArray ++ Builtin.zeroCells z.cells (grownCap E.w ((pb.es.take len).length + new.length) cap pb.ty - ((pb.es.take len).length + new.length))) pb.ty)) := by
                    rw [htk]; exact hr
                  refine append_new hs0 (ti := ti) hd ho hnid g9 g11 (i := i) hzc olds news (pb.es.take len) new hels g12 hclls n5 v1 n1 v3 n3 (fun v hv => ?_) n4 cap (by unfold maxLen; rw [htk]; omega) hr' K Q (fun v E' h => fin v E' ?_)
                  · obtain ⟨j, hj⟩ := List.mem_iff_getElem?.1 hv
                    have := v2 j v hj
                    exact hone v (List.mem_iff_getElem?.2 ⟨_, by simpa using this⟩)
                  · rw [htk] at h
                    exact h
        · exact h.elim
      · rename_i hp
        obtain ⟨g7, g8, g9, g10, g11, g12, g13⟩ := h
        intro E0 fr a E hs hfr K Q hK
        have hnid : fr nid := hfr 0 (by omega)
        have ex := hs.eval x hx
        have ey := hs.eval y hy
        rw [hp] at ex
        have hax := vr_val ex
        have hsrc := src_cases hs (sz := ti.sz) ey hnew g12 g13
        have fin : ∀ (v : Value) (E' : Env), SatF E0 C (fun j => fr j ∧ j ≠ nid) (({ σ with h := hup σ.h nid (some ⟨e, ti.sz, new⟩) } : Core).put o.dst (.own nid ti.sz 0 new.length)) (a.put o.dst v) E' → K (a.put o.dst v) E'.w :=
          fun v E' h => hK v E' (h.fr_mono fun j hj => ⟨hj.1, fun e => hj.2 (by omega)⟩)
        by_cases hn0 : new = []
        · subst hn0
          have hr := run_append_zero (P := P) hu hti o.type none 0 0 (Nat.le_refl _) (a.eval y) (by
            rcases hsrc with ⟨h, _⟩ | ⟨ad, c, news, h, _⟩
            · exact .inl h
            · exact .inr ⟨ad, c, h⟩) E.w
          rw [← hax] at hr
          obtain ⟨E', hw, hβ', hx', hs'⟩ := hs.allocNil nid hnid e ti.sz
          unfold Oper.wp
          rw [execOp_append ho a E.w _ _ hr, ← hw]
          refine fin _ E' ?_
          rw [hax]
          exact hs'.put o.dst (dstOk_lt hd) (.ownNil nid ti.sz hβ')
        · rcases hsrc with ⟨_, h⟩ | ⟨ad, c, news, hv, n1, n2, n3, n4, n5⟩
          · exact absurd h hn0
          · have hnpos : 0 < new.length := List.length_pos_iff.2 hn0
            have hr := run_append_nil (P := P) E.w T o.type e i z hu hi hz ad new.length c news (by rw [n1, hisz]; exact flatten_len new ti.sz g12) n2 hnpos (by omega) (by rw [hby]; omega)
            have hr' : (Builtin.append_ #[T, T] o.type #[a.eval x, a.eval y]).run P E.w = .ok (.slice (some ⟨E.w.heap.size, 0, none⟩) (([] : List (List PV)).length + new.length) (grownCap E.w (([] : List (List PV)).length + new.length) 0 e))
                (E.w.drew.alloc (.cells ((([] : List Value)).toArray ++ news.toArray ++ Builtin.zeroCells z.cells (grownCap E.w (([] : List (List PV)).length + new.length) 0 e - (([] : List (List PV)).length + new.length))) e)) := by
              rw [hax, hv, hr]; simp
            refine append_new hs (ti := ti) hd ho hnid g9 g11 (i := i) hzc [] news [] new (by simp) g12 (by simp) n5 rfl n1 (by simp) n3 (by simp) n4 0 (by unfold maxLen; simp; omega) hr' K Q (fun v E' h => fin v E' ?_)
            simpa using h
      · exact h.elim
    · exact h.elim
  · exact h.elim

end sound
end Go.PM
