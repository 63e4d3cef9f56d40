/- The pure machine, part 20: functions that hand back rows of their own; data lent to a function that reads it; one more round of a loop; ways that meet. -/
import Derived.Test.YtmljpbhmdjpbaaaPm19
namespace Go.PM
set_option linter.unusedVariables false
set_option linter.unusedSimpArgs false

def PB.ren (ρ : Nat → Nat) (pb : PB) : PB := { pb with es := pb.es.map (·.map (PV.ren ρ)) }
/-- The names of the rows that are handed back. -/
def renK (n : Nat) (ks : List Nat) : Nat → Nat := fun id => if id ∈ ks then n + ks.idxOf id else id

structure FinN (P : Program) (C : Cx) (rs : List ResultVar) (F : Rows) (r : PV) (G : Rows) (news : List PB) (ks : List Nat) (σ : Core) : Prop where
  res : resAll P σ rs
  eq : r = (resOne (rs.map fun x => (resP P σ x).2.v)).ren (renK C.n0 ks)
  ids : (resOne (rs.map fun x => (resP P σ x).2.v)).idsIn (fun id => hasId F id || decide (id ∈ ks)) = true
  rows : ∀ x ∈ G, σ.h x.1 = some x.2 ∧ hasId F x.1 = true ∧ (x.2.es.all fun e => PV.idsInL (hasId F) e) = true
  len : ks.length = news.length
  nodup : ks.Nodup
  news : ∀ (j k : Nat), ks[j]? = some k → C.n0 ≤ k ∧ ∃ pb, σ.h k = some pb ∧ news[j]? = some (pb.ren (renK C.n0 ks)) ∧ (pb.es.all fun e => PV.idsInL (fun id => hasId F id || decide (id ∈ ks)) e) = true

theorem PV.ren_cell {ρ : Nat → Nat} {p : PV} (h : p.cell = true) : (p.ren ρ).cell = true := by
  cases p <;> first | rfl | cases h

section
variable {P : Program} {C : Cx} {σ : Core} {n : Nat} {Q : PPost}

theorem hcall_of_trN {f : FuncId} {fn : Func} {c : Code} {args : List PV} {F : Rows} {T : List Nat} {r : Nat → PV} {G : Rows} {news : List PB} (hf : P.funcs[f]? = some fn) (hn : (fn.name == "runtime.NumGoroutine") = false) (hb : fn.body = some c) (hargs : args.length ≤ fn.ntmps)
    (h : ∀ n, (∀ x ∈ F, x.1 < n) → Tr P ⟨n, T, fn.ntmps⟩ c ⟨fun k => args.getD k .any, rowsH F⟩ n (fun e σ _ => (e = .normal ∨ e = .ret) ∧ ∃ ks, FinN P ⟨n, T, fn.ntmps⟩ fn.results.toList F (r n) G news ks σ)) : HCall P f args F T r G news := by
  refine ⟨⟨fn, hf, hn, by simp [hb]⟩, fun E n vals hok hFn hβF hv => ?_⟩
  refine calls_of_wp hf hb ?_
  have hvl : vals.length ≤ fn.ntmps := by rw [hv.1]; exact hargs
  have hs : SatF E ⟨n, T, fn.ntmps⟩ (fun id => n ≤ id) ⟨fun k => args.getD k .any, rowsH F⟩ { tmps := vals.toArray ++ Array.replicate (fn.ntmps - vals.toArray.size) undef, defers := [] } E := by
    refine ⟨hok, hok.fresh, .refl _ _, ?_, rfl, ?_, ?_⟩
    · intro k v hk
      show E.vr (args.getD k .any) v
      by_cases hka : k < args.length
      · have hkv : k < vals.length := by rw [hv.1]; exact hka
        rw [Array.getElem?_append, if_pos (by simpa using hkv)] at hk
        exact hv.2 k _ v (getD_of hka) (by simpa using hk)
      · have : args.getD k .any = .any := by simp [List.getD, Nat.le_of_not_lt hka]
        rw [this]; exact .any v
    · simp; omega
    · intro k hk
      have hk' : fn.ntmps ≤ k := hk
      show args.getD k .any = .any
      simp only [List.getD]
      rw [List.getElem?_eq_none (by omega)]
      rfl
  refine wp_mono (h n hFn E _ E hs) ?_
  rintro e a w ⟨σ, n', E', rfl, hs', he, ks, hfin⟩
  have hksn : ∀ k ∈ ks, n ≤ k := by
    intro k hk
    obtain ⟨j, hj⟩ := List.mem_iff_getElem?.1 hk
    exact (hfin.news j k hj).1
  let E2 : Env := { E' with β := fun id => if n ≤ id ∧ id < n + ks.length then E'.β (ks.getD (id - n) 0) else E.β id }
  have hlow : ∀ id, id < n → E2.β id = E.β id := fun id h => by
    show (if n ≤ id ∧ id < n + ks.length then _ else E.β id) = _
    rw [if_neg (by omega)]
  have hFlt : ∀ id, hasId F id = true → id < n := by
    intro id h
    obtain ⟨x, hx, he⟩ := List.any_eq_true.1 h
    have := hFn x hx
    have e : x.1 = id := by simpa using he
    omega
  have hβF2 : ∀ id l, hasId F id = true → E'.β id = some l → E.β id = some l := by
    intro id l hid hl
    obtain ⟨pb, hp⟩ := hasId_rows hid
    obtain ⟨l0, hl0, _⟩ := hok.heap.row id pb hp
    have := hs'.ext.β id l0 hl0
    rw [hl] at this
    cases this
    exact hl0
  have hks : ∀ (j k : Nat), ks[j]? = some k → E2.β (n + j) = E'.β k := by
    intro j k hj
    have hlt := (List.getElem?_eq_some_iff.1 hj).1
    show (if n ≤ n + j ∧ n + j < n + ks.length then E'.β (ks.getD (n + j - n) 0) else _) = _
    rw [if_pos (by omega), Nat.add_sub_cancel_left]
    simp [List.getD, hj]
  have hren : ∀ id l, (hasId F id || decide (id ∈ ks)) = true → E'.β id = some l → E2.β (renK n ks id) = some l := by
    intro id l hid hl
    unfold renK
    by_cases hk : id ∈ ks
    · rw [if_pos hk]
      have hlt := List.idxOf_lt_length_of_mem hk
      rw [hks (ks.idxOf id) id (by rw [List.getElem?_eq_getElem hlt, List.getElem_idxOf hlt])]
      exact hl
    · rw [if_neg hk]
      have hF : hasId F id = true := by simpa [hk] using hid
      rw [hlow id (hFlt id hF)]
      exact hβF2 id l hF hl
  have hx2 : Ext T E E2 := {
    i := hs'.ext.i
    β := fun id l hl => by
      show (if n ≤ id ∧ id < n + ks.length then _ else E.β id) = _
      rw [if_neg]
      · exact hl
      · intro hb
        rw [hok.fresh id hb.1] at hl; cases hl
    new := fun id l b hl hn hb => by
      have hl' : (if n ≤ id ∧ id < n + ks.length then E'.β (ks.getD (id - n) 0) else E.β id) = some l := hl
      split at hl'
      · rename_i hin
        have hlt : id - n < ks.length := by omega
        have hg := getD_of (d := 0) hlt
        exact hs'.ext.new _ l b hl' (hs'.n0 _ (hfin.news _ _ hg).1) hb
      · rw [hn] at hl'; cases hl'
    newI := hs'.ext.newI
    os := hs'.ext.os
    tape := hs'.ext.tape
    output := hs'.ext.output
    size := hs'.ext.size
    block := hs'.ext.block
    imm := hs'.ext.imm }
  obtain ⟨v, hr, hvr⟩ := run_results (P := P) hs' fn hfin.res
  -- a row that is handed back, and its name inside
  have hin : ∀ id pb, rowsH (G ++ nRows n news) id = some pb → ∃ k p0, σ.h k = some p0 ∧ E2.β id = E'.β k ∧ (hasId F id = true ∧ k = id ∧ p0 = pb ∧ rowsH G id = some pb ∨ ∃ j, id = n + j ∧ ks[j]? = some k ∧ pb = p0.ren (renK n ks) ∧ (p0.es.all fun e => PV.idsInL (fun id => hasId F id || decide (id ∈ ks)) e) = true) := by
    intro id pb hp
    rw [rowsH_append] at hp
    cases hg : rowsH G id with
    | some p =>
      rw [hg] at hp; cases hp
      obtain ⟨g1, g2, g3⟩ := hfin.rows (id, pb) (rowsH_has hg).1
      refine ⟨id, pb, g1, ?_, .inl ⟨g2, rfl, rfl, rfl⟩⟩
      rw [hlow id (hFlt id g2)]
      obtain ⟨p1, hp1⟩ := hasId_rows g2
      obtain ⟨l0, hl0, _⟩ := hok.heap.row id p1 hp1
      rw [hl0, hs'.ext.β id l0 hl0]
    | none =>
      rw [hg] at hp
      simp only at hp
      have hm := (rowsH_has hp).1
      unfold nRows at hm
      obtain ⟨x, hx, hxe⟩ := List.mem_map.1 hm
      cases hxe
      obtain ⟨j, hj⟩ := List.mem_iff_getElem?.1 hx
      rw [List.getElem?_zipIdx] at hj
      cases hnj : news[j]? with
      | none => rw [hnj] at hj; cases hj
      | some q =>
        rw [hnj] at hj
        cases hj
        have hlt : j < ks.length := by rw [hfin.len]; exact (List.getElem?_eq_some_iff.1 hnj).1
        have hg2 := getD_of (d := 0) hlt
        obtain ⟨_, p0, h1, h2, h3⟩ := hfin.news j _ hg2
        rw [hnj] at h2
        cases h2
        exact ⟨_, p0, h1, hks j _ hg2, .inr ⟨j, rfl, hg2, rfl, h3⟩⟩
  have post : a.defers = [] ∧ ∃ v, (results fn a.tmps).run P E'.w = .ok v E'.w ∧ (∃ (v' : Value) (E3 : Env), E3.w = E'.w ∧ Ending.returned v = .returned v' ∧ Ext T E E3 ∧ OkE E3 (rowsH (G ++ (news.zipIdx n).map fun x => (x.2, x.1))) (fun id => n + news.length ≤ id) ∧ (∀ id, id < n → E3.β id = E.β id) ∧ E3.vr (r n) v') := by
    refine ⟨hs'.defers, v, hr, v, E2, rfl, rfl, hx2, ⟨⟨?_, ?_⟩, fun id hid => ?_, hs'.ok.ibound⟩, hlow, ?_⟩
    · intro id pb hp
      obtain ⟨k, p0, h1, h2, h3⟩ := hin id pb hp
      obtain ⟨l, hl, hrow⟩ := hs'.ok.heap.row k p0 h1
      refine ⟨l, by rw [h2]; exact hl, ?_⟩
      rcases h3 with ⟨g2, rfl, rfl, hg⟩ | ⟨j, rfl, hj, rfl, g3⟩
      · refine ⟨hrow.sz, hrow.el, hrow.cell, hrow.nl, fun b hb => ?_⟩
        obtain ⟨k1, cur, k2, k6, k7⟩ := hrow.blk b hb
        refine ⟨k1, cur, k2, fun j p hp => ?_, k7⟩
        obtain ⟨u, hu, hur⟩ := k6 j p hp
        obtain ⟨_, _, g4⟩ := hfin.rows (k, p0) (rowsH_has hg).1
        refine ⟨u, hu, VR.restrict (S := hasId F) (fun id l hid hl => by rw [hlow id (hFlt id hid)]; exact hβF2 id l hid hl) hur ?_⟩
        obtain ⟨e, he, hpe⟩ := List.mem_flatten.1 (List.mem_of_getElem? hp)
        exact PV.idsInL_mem (List.all_eq_true.1 g4 e he) p hpe
      · refine ⟨hrow.sz, fun e he => ?_, fun e he p hp => ?_, fun hb => ?_, fun b hb => ?_⟩
        · obtain ⟨e0, he0, rfl⟩ := List.mem_map.1 he
          simp only [List.length_map]
          exact hrow.el e0 he0
        · obtain ⟨e0, he0, rfl⟩ := List.mem_map.1 he
          obtain ⟨q0, hq0, rfl⟩ := List.mem_map.1 hp
          exact PV.ren_cell (hrow.cell e0 he0 q0 hq0)
        · have := hrow.nl hb
          exact ⟨by simp [PB.ren, this.1], this.2⟩
        · obtain ⟨k1, cur, k2, k6, k7⟩ := hrow.blk b hb
          refine ⟨k1, cur, k2.congr rfl rfl (by simp [PB.ren]), fun i p hp => ?_, k7⟩
          have hp' : (p0.es.flatten.map (PV.ren (renK n ks)))[i]? = some p := by
            rw [← flatten_map_map]; exact hp
          rw [List.getElem?_map] at hp'
          cases hi : p0.es.flatten[i]? with
          | none => rw [hi] at hp'; cases hp'
          | some q0 =>
            rw [hi] at hp'; cases hp'
            obtain ⟨u, hu, hur⟩ := k6 i q0 hi
            refine ⟨u, hu, VR.ren hren hur ?_⟩
            obtain ⟨e, he, hpe⟩ := List.mem_flatten.1 (List.mem_of_getElem? hi)
            exact PV.idsInL_mem (List.all_eq_true.1 g3 e he) q0 hpe
    · intro id id' pb pb' l l' b h1 h2 h3 h4 h5 h6
      obtain ⟨k, p0, a1, a2, a3⟩ := hin id pb h1
      obtain ⟨k', p0', b1, b2, b3⟩ := hin id' pb' h2
      have := hs'.ok.heap.inj k k' p0 p0' l l' b a1 b1 (by rw [← a2]; exact h3) (by rw [← b2]; exact h4) h5 h6
      subst this
      rcases a3 with ⟨c1, c2, _⟩ | ⟨j, c1, c2, _⟩ <;> rcases b3 with ⟨d1, d2, _⟩ | ⟨j', d1, d2, _⟩
      · rw [← c2, ← d2]
      · have := hksn k (List.mem_of_getElem? d2)
        have := hFlt id c1
        omega
      · have := hksn k (List.mem_of_getElem? c2)
        have := hFlt id' d1
        omega
      · have e1 := (List.getElem?_eq_some_iff.1 c2).1
        have this : j = j' := (List.getElem?_inj e1 hfin.nodup).1 (by rw [c2, d2])
        rw [c1, d1, this]
    · show (if n ≤ id ∧ id < n + ks.length then _ else E.β id) = none
      have hid' : n + news.length ≤ id := hid
      rw [if_neg (by rw [hfin.len]; omega)]
      exact hok.fresh id (by omega)
    · rw [hfin.eq]
      exact VR.ren hren hvr hfin.ids
  rcases he with rfl | rfl
  · exact post
  · exact post

/-- A loop walked round by round. -/
def rounds (P : Program) (C : Cx) (c : Code) (Q : PPost) : Nat → Core → Nat → Prop
  | 0 => fun _ _ => False
  | k + 1 => fun σ n => Tr P C c σ n (PPost.seq (rounds P C c Q k) Q)

theorem Tr.loopR (N : Nat) {c : Code} (h : rounds P C c Q N σ n) : Tr P C (.loop c) σ n Q := by
  intro E0 a E hs b kk cs
  have key : ∀ (N : Nat) (σ : Core) (n : Nat) (a : Act) (E : Env), rounds P C c Q N σ n → SatF E0 C (fun id => n ≤ id) σ a E →
      ∃ e a' w', conc E0 C Q e a' w' ∧ Arrives P (lone (b.at a (.code c :: .inLoop c :: kk)) cs E.w) b kk cs e a' w' := by
    intro N
    induction N with
    | zero => intro σ n a E h; exact h.elim
    | succ N ih =>
      intro σ n a E h hs
      obtain ⟨e, a1, w1, hq, harr⟩ := h E0 a E hs b (.inLoop c :: kk) cs
      obtain ⟨σ1, n1, E1, rfl, hs1, hq1⟩ := hq
      cases e with
      | normal =>
        obtain ⟨e2, a2, w2, hq2, harr2⟩ := ih σ1 n1 a1 E1 hq1 hs1
        exact ⟨e2, a2, w2, hq2, .of_steps (Steps.trans harr (.one step_inLoop)) harr2⟩
      | exit id => exact ⟨_, a1, E1.w, ⟨σ1, n1, E1, rfl, hs1, hq1⟩, .pass (x := .inLoop c) rfl (fun _ _ => .inl (by simp)) harr⟩
      | goto l => exact ⟨_, a1, E1.w, ⟨σ1, n1, E1, rfl, hs1, hq1⟩, .pass (x := .inLoop c) rfl (fun _ _ => .inl (by simp)) harr⟩
      | ret => exact ⟨_, a1, E1.w, ⟨σ1, n1, E1, rfl, hs1, hq1⟩, .pass (x := .inLoop c) rfl (fun _ _ => .inl (by simp)) harr⟩
      | panic ch => exact ⟨_, a1, E1.w, ⟨σ1, n1, E1, rfl, hs1, hq1⟩, .pass (x := .inLoop c) rfl (fun _ _ => .inl (by simp)) harr⟩
      | outgrown => exact ⟨_, a1, E1.w, ⟨σ1, n1, E1, rfl, hs1, hq1⟩, .pass (x := .inLoop c) rfl (fun _ _ => .inl (by simp)) harr⟩
  obtain ⟨e, a', w', hq, harr⟩ := key N σ n a E h hs
  exact ⟨e, a', w', hq, .of_steps (.one step_loop) harr⟩

/-- Slots that nobody asks for any more. -/
def forget (lo hi : Nat) (t : Nat → PV) : Nat → PV := fun k => if lo ≤ k ∧ k < hi then .any else t k

/-- The ways through a region meet again in one state. -/
theorem Tr.regionJ {id : Nat} {ops : Array Oper} (σm : Core) (h : runOps P C ops ops.toList n σ (fun s => (∀ k, PVle (s.t k) (σm.t k)) ∧ s.h = σm.h)) (hi : ∀ k, C.nt ≤ k → σm.t k = .any) (h2 : Q .normal σm (n + 4 * ops.size)) : Tr P C (.region id ops false) σ n Q := by
  intro E0 a E hs
  refine wp_region ?_
  have := runOps_ok (E0 := E0) (Q := conc E0 C Q) ops.toList 0 n σ _ (fun j => by simp) h _ a E hs (fun _ h => h) (fun σ' a' E' hK hs' => by
    refine ⟨σm, n + 4 * ops.size, E', rfl, ?_, h2⟩
    have hs2 : SatF E0 C (fun id => n + 4 * ops.size ≤ id) σ' a' E' := by simpa using hs'
    refine ⟨?_, hs2.n0, hs2.ext, fun k v hk => hK.1 k _ _ _ (hs2.slots k v hk), hs2.defers, hs2.size, hi⟩
    rw [← hK.2]; exact hs2.ok)
  rw [List.range_eq_range']
  simpa using this

end
end Go.PM
