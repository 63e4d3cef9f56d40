/- The pure machine, part 11: append. -/
import Derived.Test.YtmljpbhmdjpbaaaPm10
namespace Go.PM
set_option linter.unusedVariables false
set_option linter.unusedSimpArgs false
section sound
variable {P : Program} {C : Cx} {o : Oper} {nid : Nat} {σ : Core}

theorem flatten_drop_take {α : Type} (es : List (List α)) (sz l n : Nat) (hsz : ∀ e ∈ es, e.length = sz) (hl : l + n ≤ es.length) : ((es.drop l).take n).flatten = (es.flatten.drop (l * sz)).take (n * sz) := by
  have h1 : (es.take l).flatten.length = l * sz := by
    rw [flatten_len _ sz (fun e he => hsz e (List.mem_of_mem_take he))]; simp; rw [Nat.min_eq_left (by omega)]
  have h2 : ((es.drop l).take n).flatten.length = n * sz := by
    rw [flatten_len _ sz (fun e he => hsz e (List.mem_of_mem_drop (List.mem_of_mem_take he)))]; simp; rw [Nat.min_eq_left (by omega)]
  have e1 : es.flatten = (es.take l).flatten ++ (((es.drop l).take n).flatten ++ ((es.drop l).drop n).flatten) := by
    rw [← List.flatten_append, ← List.flatten_append, List.take_append_drop, List.take_append_drop]
  rw [e1, ← h1, List.drop_left, ← h2, List.take_left]

/-- What is appended: nothing, or cells that lie in memory. -/
theorem src_cases {E0 : Env} {fr : Nat → Prop} {a : Act} {E : Env} (hs : SatF E0 C fr σ a E) {q : PV} {v : Value} {new : List (List PV)} {sz : Nat} (hv : E.vr q v) (he : elemsOf σ.h q = some new) (hsz : ∀ c ∈ new, c.length = sz) (hn : new.length = lenP q) :
    (v = .slice none 0 0 ∧ new = []) ∨ ∃ (ad : Addr) (c : Nat) (news : List Value), v = .slice (some ad) new.length c ∧ news.length = new.flatten.length ∧ (∀ (j : Nat) u, news[j]? = some u → E.w.cell? (ad.add j) = some u) ∧
      (∀ (j : Nat) p u, new.flatten[j]? = some p → news[j]? = some u → E.vr p u) ∧ (∀ u ∈ news, u.oneCell' = true) ∧ (∀ c ∈ new, ∀ p ∈ c, p.cell = true) := by
  unfold elemsOf at he
  split at he
  · rename_i id sz' off len
    simp only [lenP] at hn
    cases hh : σ.h id with
    | none => rw [hh] at he; cases he
    | some pb =>
      rw [hh] at he
      simp only [Option.bind_some] at he
      split at he
      case isFalse => cases he
      rename_i hty
      simp only [Option.some.injEq] at he
      obtain ⟨l, hl, hrow⟩ := hs.ok.heap.row id pb hh
      cases hv with
      | ownNil _ _ hβ => exact .inl ⟨rfl, List.eq_nil_of_length_eq_zero hn⟩
      | own _ _ _ cap b _ tot ad hβ hlc ht ha =>
        rw [hβ] at hl; cases hl
        obtain ⟨_, cur, hcS, hcell, hone⟩ := hrow.blk b rfl
        obtain ⟨hc, hcs, htot, _⟩ := hcS.cells hty
        have hcls : ∀ c ∈ new, ∀ p ∈ c, p.cell = true := by
          subst he
          exact fun c hc p hp => hrow.cell c (List.mem_of_mem_drop (List.mem_of_mem_take hc)) p hp
        by_cases h0 : len = 0
        · subst h0
          have : new = [] := List.eq_nil_of_length_eq_zero hn
          subst this
          exact .inr ⟨ad, cap, [], rfl, rfl, by simp, by simp, by simp, by simp⟩
        · have hoff : off + len ≤ pb.es.length := by
            have := congrArg List.length he
            simp at this
            omega
          have hsz1 : sz' = pb.sz := hrow.sz
          subst hsz1
          have had := ha
          subst had
          have hfl := flatten_drop_take pb.es pb.sz off len hrow.el hoff
          have hFl := flatten_len pb.es pb.sz hrow.el
          have hnl : new.flatten.length = len * pb.sz := by
            have := flatten_len new pb.sz (fun c hc => by subst he; exact hrow.el c (List.mem_of_mem_drop (List.mem_of_mem_take hc)))
            rw [this, hn]
          obtain ⟨vs, v1, v2, v3⟩ := cells_list (rd := E.rd) (β := E.β) (cur := cur) (k := off * pb.sz) (ps := new.flatten) (fun j p hj => by
            rw [← he, hfl, List.getElem?_take] at hj
            split at hj
            · rw [List.getElem?_drop] at hj
              exact hcell _ p hj
            · cases hj)
          refine .inr ⟨_, cap, vs, by rw [hn], v1, fun j u hu => ?_, v3, fun u hu => ?_, hcls⟩
          · rw [addr_add, cell_of_heap hc]
            exact v2 j u hu
          · obtain ⟨j, hj⟩ := List.mem_iff_getElem?.1 hu
            have := v2 j u hj
            exact hone u (List.mem_iff_getElem?.2 ⟨_, by simpa using this⟩)
  · rename_i es
    simp only [Option.some.injEq] at he
    cases hv with
    | d _ _ hdr =>
      have hmap : new.flatten = es.flatten.map .d := by rw [← he]; simp [List.map_flatten]
      have hcls : ∀ c ∈ new, ∀ p ∈ c, p.cell = true := by
        subst he
        intro c hc p hp
        obtain ⟨x, _, rfl⟩ := List.mem_map.1 hc
        obtain ⟨y, _, rfl⟩ := List.mem_map.1 hp
        rfl
      have hnl : new.length = es.length := by rw [← he]; simp
      rw [hnl, hmap]
      cases hdr with
      | nil => exact .inl ⟨rfl, List.eq_nil_of_length_eq_zero hnl⟩
      | nilA a cap => exact .inr ⟨a, cap, [], rfl, rfl, by simp, by simp, by simp, hcls⟩
      | imm _ b off cap sz2 vs hcap hsz2 hvl hcell hel =>
        refine .inr ⟨_, cap, vs, rfl, by rw [List.length_map]; exact hvl, fun j u hu => ?_, fun j p u hp hu => ?_, fun u hu => ?_, hcls⟩
        · rcases hcell with h0 | ⟨cur, h1, h2⟩
          · subst h0; simp at hu
          · rw [addr_add, rd_cell h1]; exact h2 j u hu
        · rw [List.getElem?_map] at hp
          cases hj : es.flatten[j]? with
          | none => rw [hj] at hp; cases hp
          | some d => rw [hj] at hp; cases hp; exact .d _ _ (hel j d u hj hu)
        · obtain ⟨j, hj⟩ := List.mem_iff_getElem?.1 hu
          have hlt : j < es.flatten.length := by rw [← hvl]; exact (List.getElem?_eq_some_iff.1 hj).1
          exact (hel j es.flatten[j] u (by simp [hlt]) hj).one
  · cases he
    have := vr_val hv
    exact .inl ⟨this, rfl⟩
  · cases he

theorem execOp_append {T T' : TypeId} {x y : Operand} (ho : o.op = .call { callee := .builtin .append, args := #[x, y], argTypes := #[T, T'] }) (a : Act) (w w' : World) (v : Value) (h : (Builtin.append_ #[T, T'] o.type #[a.eval x, a.eval y]).run P w = .ok v w') :
    (execOp a.eval o).run P w = .ok (.value v) w' := by
  simp only [execOp, ho, resolve, Sem.run_bind, Sem.run_pure, Result.andThen_ok, invoke, builtin, List.map_toArray, List.map_cons, List.map_nil, h]

theorem run_append_nilsrc {T e : TypeId} {ti : TI} (hu : P.underlying T = some (.slice e)) (hti : tI P e = some ti) (ty : TypeId) (ad : Option Addr) (n cap : Nat) (hn : n ≤ cap) (w : World) :
    (Builtin.append_ #[T, T] ty #[.slice ad n cap, .slice none 0 0]).run P w = .ok (.slice ad n cap) w := by
  obtain ⟨i, d, z, hi, _, hz, hsz, hby, _, hzc⟩ := tI_info hti
  cases ad <;> simp [Builtin.append_, run_underlying hu, sizeOf, typeInfo, hi, Builtin.lenOf, hn, Builtin.firstCells, storeCells]

theorem zeroCells_cells {ti : TI} {z : Value} (hzc : z.cells.toList = ti.zero) (h : ti.zero.all (·.oneCell') = true) (hl : ti.zero.length = ti.sz) (n : Nat) : (∀ v ∈ (Builtin.zeroCells z.cells n).toList, v.oneCell' = true) ∧ (Builtin.zeroCells z.cells n).size = n * ti.sz := by
  have hzs : z.cells.size = ti.sz := by rw [← Array.length_toList, hzc, hl]
  refine ⟨fun v hv => ?_, by rw [size_zeroCells, hzs]⟩
  simp only [Builtin.zeroCells, Array.toList_map, List.mem_map] at hv
  obtain ⟨j, hj, rfl⟩ := hv
  simp only [Array.toList_range, List.mem_range] at hj
  have hpos : 0 < z.cells.size := by
    rcases Nat.eq_zero_or_pos z.cells.size with h0 | h0
    · rw [h0, Nat.mul_zero] at hj; omega
    · exact h0
  have hm : j % z.cells.size < z.cells.size := Nat.mod_lt _ hpos
  have hg : z.cells[j % z.cells.size]! = z.cells[j % z.cells.size] := by simp [hm]
  rw [hg]
  exact List.all_eq_true.1 h _ (by rw [← hzc]; simp)

theorem cellsAt_app {rd : Rd} {β : Bt} {ps qs : List PV} {vs us : List Value} {rest : Array Value} (hl : vs.length = ps.length) (hv : ∀ (j : Nat) p v, ps[j]? = some p → vs[j]? = some v → VR rd β p v) (hul : us.length = qs.length) (hu : ∀ (j : Nat) p v, qs[j]? = some p → us[j]? = some v → VR rd β p v) :
    CellsAt rd β (ps ++ qs) (vs.toArray ++ us.toArray ++ rest) := by
  intro j p hp
  rw [List.getElem?_append] at hp
  rw [Array.getElem?_append, Array.getElem?_append]
  simp only [Array.size_append, List.size_toArray, List.getElem?_toArray]
  split at hp
  · rename_i hj
    rw [if_pos (by omega), if_pos (by omega)]
    refine ⟨vs[j]'(by omega), by simp [hl, hj], hv j p _ hp (by simp [hl, hj])⟩
  · rename_i hj
    have hlt : j - ps.length < qs.length := (List.getElem?_eq_some_iff.1 hp).1
    rw [if_pos (by omega), if_neg (by omega), hl]
    refine ⟨us[j - ps.length]'(by omega), by simp [hul, hlt], hu _ p _ hp (by simp [hul, hlt])⟩

/-- The block of a dropped row under a new name, its cells changed. -/
theorem SatF.rename {E0 : Env} {fr : Nat → Prop} {a : Act} {E : Env} (hs : SatF E0 C fr σ a E) {id : Nat} (nid : Nat) (hid : fr nid) {pb : PB} {l : Loc} {b : Nat} {cur : Array Value} (hh : σ.h id = some pb) (hl : E.β id = some l) (hlb : l.b = some b)
    (hcur : E.w.heap[b]? = some (.cells cur pb.ty (0, 0))) (hperm : id ∈ C.T ∨ C.n0 ≤ id) (cur' : Array Value) (es' : List (List PV)) (hsize : cur'.size = cur.size) (hel : ∀ e ∈ es', e.length = pb.sz) (hcl : ∀ e ∈ es', ∀ p ∈ e, p.cell = true) (htot : es'.length ≤ l.tot)
    (hc : CellsAt E.rd E.β es'.flatten cur') (h1 : ∀ v ∈ cur'.toList, v.oneCell' = true) :
    ∃ E' : Env, E'.w = E.w.setRow b cur' ∧ E'.β nid = some l ∧ Ext [id] E E' ∧ SatF E0 C (fun j => fr j ∧ j ≠ nid) { σ with h := hup (hup σ.h id none) nid (some { pb with es := es' }) } a E' := by
  obtain ⟨hx1, hs1⟩ := hs.setRow hh hl hlb hcur hperm cur' es' hsize hel hcl htot hc h1
  have hne : nid ≠ id := by
    intro e; subst e
    rw [hs.ok.fresh nid hid] at hl; cases hl
  let E1 : Env := { E with w := E.w.setRow b cur' }
  let E' : Env := { E1 with β := fun j => if j = nid then some l else E.β j }
  have hx2 : Ext [id] E1 E' := {
    i := fun _ h => h
    β := fun j x hj => by
      show (if j = nid then _ else _) = _
      have hj' : E.β j = some x := hj
      rw [if_neg (fun e => by subst e; rw [hs.ok.fresh j hid] at hj'; cases hj')]; exact hj'
    new := fun j x c hj hn hb => by
      have hj' : (if j = nid then some l else E.β j) = some x := hj
      have hn' : E.β j = none := hn
      split at hj'
      · cases hj'
        exact .inr ⟨id, by simp, l, hl, hb⟩
      · rw [hn'] at hj'; cases hj'
    newI := fun _ h => .inl h
    os := rfl
    tape := rfl
    output := rfl
    size := Nat.le_refl _
    block := fun _ _ _ => rfl
    imm := fun _ _ => rfl }
  have hβn : E'.β nid = some l := by show (if nid = nid then _ else _) = _; rw [if_pos rfl]
  refine ⟨E', rfl, hβn, hx1.trans hx2 (by simp), ⟨⟨?_, ?_⟩, ?_, ?_⟩, hs1.n0, hs1.ext.trans hx2 (by
    intro j hj
    rw [List.mem_singleton] at hj
    subst hj
    rcases hperm with h | h
    · exact .inl h
    · exact .inr (hs.n0 j h)), fun k v hk => hx2.vr (hs1.slots k v hk), hs1.defers, hs1.size, hs1.hi⟩
  · intro j pbj hj
    have hj' : (if j = nid then some { pb with es := es' } else (if j = id then none else σ.h j)) = some pbj := hj
    split at hj'
    · rename_i e
      subst e
      cases hj'
      obtain ⟨l1, hl1, hrow1⟩ := hs1.ok.heap.row id { pb with es := es' } (by show (if id = id then _ else _) = _; rw [if_pos rfl])
      have hl1' : E.β id = some l1 := hl1
      rw [hl] at hl1'; cases hl1'
      exact ⟨l, hβn, RowAt.mono (E := E1) (E' := E') hx2 hrow1 (fun c hc2 => (hrow1.blk c hc2).1) (fun c hc2 => rfl)⟩
    · rename_i e
      split at hj'
      · cases hj'
      · rename_i e2
        obtain ⟨l1, hl1, hrow1⟩ := hs1.ok.heap.row j pbj (by show (if j = id then _ else _) = _; rw [if_neg e2]; exact hj')
        exact ⟨l1, hx2.β j l1 hl1, RowAt.mono (E := E1) (E' := E') hx2 hrow1 (fun c hc2 => (hrow1.blk c hc2).1) (fun c hc2 => rfl)⟩
  · intro j j' pbj pbj' l1 l2 c hj hj' hl1 hl2 hb1 hb2
    -- both names back to the names that they had
    have back : ∀ k pk lk, hup (hup σ.h id none) nid (some { pb with es := es' }) k = some pk → E'.β k = some lk → ∃ k0 pk0, (k = nid ∧ k0 = id ∨ k ≠ nid ∧ k ≠ id ∧ k0 = k) ∧ σ.h k0 = some pk0 ∧ E.β k0 = some lk := by
      intro k pk lk hk hlk
      have hk' : (if k = nid then some { pb with es := es' } else (if k = id then none else σ.h k)) = some pk := hk
      have hlk' : (if k = nid then some l else E.β k) = some lk := hlk
      by_cases e : k = nid
      · rw [if_pos e] at hlk'; cases hlk'
        exact ⟨id, pb, .inl ⟨e, rfl⟩, hh, hl⟩
      · rw [if_neg e] at hk' hlk'
        by_cases e2 : k = id
        · rw [if_pos e2] at hk'; cases hk'
        · rw [if_neg e2] at hk'
          exact ⟨k, pk, .inr ⟨e, e2, rfl⟩, hk', hlk'⟩
    obtain ⟨k0, pk0, h0, hh0, hl0⟩ := back j pbj l1 hj hl1
    obtain ⟨k1, pk1, h1', hh1, hl1'⟩ := back j' pbj' l2 hj' hl2
    have := hs.ok.heap.inj k0 k1 pk0 pk1 l1 l2 c hh0 hh1 hl0 hl1' hb1 hb2
    rcases h0 with ⟨a1, a2⟩ | ⟨a1, a2, a3⟩ <;> rcases h1' with ⟨b1, b2⟩ | ⟨b1, b2, b3⟩
    · rw [a1, b1]
    · exact absurd (by rw [← b3, ← this, a2]) b2
    · exact absurd (by rw [← a3, this, b2]) a2
    · rw [← a3, ← b3, this]
  · intro j ⟨hj, hne2⟩
    show (if j = nid then _ else _) = _
    rw [if_neg hne2]; exact hs.ok.fresh j hj
  · intro c hc2
    exact hs1.ok.ibound c hc2

/-- The same for a row of which nothing has been made. -/
theorem SatF.renameNil {E0 : Env} {fr : Nat → Prop} {a : Act} {E : Env} (hs : SatF E0 C fr σ a E) {id : Nat} (nid : Nat) (hid : fr nid) (ty : TypeId) (sz : Nat) :
    ∃ E' : Env, E'.w = E.w ∧ E'.β nid = some ⟨none, sz, 0⟩ ∧ Ext [] E E' ∧ SatF E0 C (fun j => fr j ∧ j ≠ nid) { σ with h := hup (hup σ.h id none) nid (some ⟨ty, sz, []⟩) } a E' := by
  have hs0 := hs.drop (hup σ.h id none) (fun k pb hk => by
    have hk' : (if k = id then none else σ.h k) = some pb := hk
    split at hk'
    · cases hk'
    · exact hk')
  exact hs0.allocNil nid hid ty sz

end sound
end Go.PM
