/- The pure machine, part 5: stores, addresses of parts, parts of values. -/
import Derived.Test.YtmljpbhmdjpbaaaPm4
namespace Go.PM
set_option linter.unusedVariables false
set_option linter.unusedSimpArgs false
section sound
variable {P : Program} {C : Cx} {o : Oper} {nid : Nat} {σ : Core}

theorem vr_cells {rd : Rd} {β : Bt} {p : PV} {v : Value} (h : VR rd β p v) (hc : (cellsOf p).all PV.cell = true) :
    v.cells.toList.length = (cellsOf p).length ∧ (∀ (j : Nat) q u, (cellsOf p)[j]? = some q → v.cells.toList[j]? = some u → VR rd β q u) ∧ (∀ u ∈ v.cells.toList, u.oneCell' = true) := by
  cases h with
  | agg cs vs hlen h1 hel => exact ⟨hlen, hel, h1⟩
  | any v => simp [cellsOf, PV.cell] at hc
  | tup ps vs hlen hel => simp [cellsOf, PV.cell] at hc
  | d x v h =>
    have h1 := h.one
    have hv : v.cells = #[v] := by cases v <;> first | rfl | (simp [Value.oneCell'] at h1)
    refine ⟨by simp [cellsOf, hv], fun j q u hq hu => ?_, fun u hu => ?_⟩
    · cases j with
      | zero => simp [cellsOf, hv] at hq hu; subst hq; subst hu; exact .d _ _ h
      | succ j => simp [cellsOf] at hq
    · simp [hv] at hu; subst hu; exact h1
  | _ =>
    refine ⟨rfl, fun j q u hq hu => ?_, fun u hu => ?_⟩
    · cases j with
      | zero => simp [cellsOf, Value.cells] at hq hu; subst hq; subst hu; constructor <;> assumption
      | succ j => simp [cellsOf] at hq
    · simp [Value.cells] at hu; subst hu; rfl

theorem putAt_length {cs new : List PV} {k : Nat} (h : k + new.length ≤ cs.length) : (putAt cs k new).length = cs.length := by
  simp [putAt]; omega

theorem flatten_set {α : Type} : ∀ (es : List (List α)) (sz i : Nat) (e' : List α), (∀ e ∈ es, e.length = sz) → e'.length = sz → i < es.length →
    (es.set i e').flatten = es.flatten.take (i * sz) ++ e' ++ es.flatten.drop (i * sz + sz)
  | [], _, _, _, _, _, h => by simp at h
  | x :: r, sz, 0, e', hsz, he, h => by
    have := hsz x (by simp)
    simp [← this]
  | x :: r, sz, i + 1, e', hsz, he, h => by
    have hx := hsz x (by simp)
    have ih := flatten_set r sz i e' (fun e h => hsz e (by simp [h])) he (by simpa using h)
    have e1 : (i + 1) * sz = x.length + i * sz := by rw [hx, Nat.succ_mul]; omega
    rw [List.set_cons_succ, List.flatten_cons, ih, List.flatten_cons, e1, List.take_length_add_append, Nat.add_assoc, List.drop_length_add_append]
    simp [List.append_assoc]

theorem flatten_len {α : Type} : ∀ (es : List (List α)) (sz : Nat), (∀ e ∈ es, e.length = sz) → es.flatten.length = es.length * sz
  | [], _, _ => by simp
  | x :: r, sz, h => by
    have := flatten_len r sz (fun e he => h e (by simp [he]))
    simp only [List.flatten_cons, List.length_append, List.length_cons, this, h x (by simp), Nat.succ_mul]
    omega

theorem take_at {α : Type} : ∀ (es : List (List α)) (sz i : Nat) (e : List α), (∀ e ∈ es, e.length = sz) → es[i]? = some e → es.flatten = es.flatten.take (i * sz) ++ e ++ es.flatten.drop (i * sz + sz)
  | [], _, _, _, _, h => by simp at h
  | x :: r, sz, 0, e, hsz, h => by
    simp at h; subst h
    have := hsz x (by simp)
    simp [← this]
  | x :: r, sz, i + 1, e, hsz, h => by
    have hx := hsz x (by simp)
    have ih := take_at r sz i e (fun e h => hsz e (by simp [h])) (by simpa using h)
    have e1 : (i + 1) * sz = x.length + i * sz := by rw [hx, Nat.succ_mul]; omega
    rw [List.flatten_cons, e1, List.take_length_add_append, Nat.add_assoc, List.drop_length_add_append]
    conv => lhs; rw [ih]
    simp [List.append_assoc]

theorem take_mid {α : Type} (A e B : List α) (n k : Nat) (hA : A.length = n) (hk : k ≤ e.length) : (A ++ e ++ B).take (n + k) = A ++ e.take k := by
  subst hA
  rw [List.append_assoc, List.take_length_add_append, List.take_append_of_le_length hk]
theorem drop_mid {α : Type} (A e B : List α) (n k : Nat) (hA : A.length = n) (hk : k ≤ e.length) : (A ++ e ++ B).drop (n + k) = e.drop k ++ B := by
  subst hA
  rw [List.append_assoc, List.drop_length_add_append, List.drop_append_of_le_length hk]

/-- A row's cells behind a store into one of its elements. -/
theorem flatten_put {es : List (List PV)} {sz i oo : Nat} {new : List PV} (hsz : ∀ e ∈ es, e.length = sz) (hi : i < es.length) (ho : oo + new.length ≤ sz) :
    (es.set i (putAt (es.getD i []) oo new)).flatten = putAt es.flatten (i * sz + oo) new := by
  have he := getD_of (d := []) hi
  have hlen := hsz _ (List.mem_of_getElem? he)
  rw [flatten_set es sz i _ hsz (by rw [putAt_length (by omega)]; exact hlen) hi]
  have hf := take_at es sz i _ hsz he
  have hfl := flatten_len es sz hsz
  have hle : i * sz + sz ≤ es.length * sz := by
    have := Nat.mul_le_mul_right sz (show i + 1 ≤ es.length from hi)
    rw [Nat.succ_mul] at this
    exact this
  have l1 : (es.flatten.take (i * sz)).length = i * sz := by rw [List.length_take, hfl]; omega
  unfold putAt
  have t1 := take_mid (es.flatten.take (i * sz)) (es.getD i []) (es.flatten.drop (i * sz + sz)) (i * sz) oo l1 (by omega)
  have t2 := drop_mid (es.flatten.take (i * sz)) (es.getD i []) (es.flatten.drop (i * sz + sz)) (i * sz) (oo + new.length) l1 (by omega)
  rw [← hf] at t1 t2
  rw [t1, Nat.add_assoc, t2]
  simp [List.append_assoc]

theorem cellsAt_put {rd : Rd} {β : Bt} {ps new : List PV} {cur : Array Value} {vs : List Value} {k : Nat} (h : CellsAt rd β ps cur) (hl : vs.length = new.length) (hk : k + new.length ≤ ps.length) (hcur : ps.length ≤ cur.size)
    (hn : ∀ (j : Nat) q u, new[j]? = some q → vs[j]? = some u → VR rd β q u) : CellsAt rd β (putAt ps k new) (cur.toList.take k ++ vs ++ cur.toList.drop (k + vs.length)).toArray := by
  intro j p hp
  unfold putAt at hp
  simp only [List.getElem?_toArray]
  rw [List.append_assoc] at hp ⊢
  rw [List.getElem?_append] at hp ⊢
  have l1 : (ps.take k).length = k := by simp; omega
  have l2 : (cur.toList.take k).length = k := by simp; omega
  rw [l1] at hp
  rw [l2]
  split at hp
  · rename_i hj
    rw [if_pos hj]
    rw [List.getElem?_take, if_pos hj] at hp ⊢
    obtain ⟨v, h1, h2⟩ := h j p hp
    exact ⟨v, by simpa using h1, h2⟩
  · rename_i hj
    rw [if_neg hj]
    rw [List.getElem?_append] at hp ⊢
    rw [hl]
    split at hp
    · rename_i hj2
      rw [if_pos hj2]
      have : j - k < vs.length := by omega
      refine ⟨vs[j - k], by simp [this], hn (j - k) p _ hp (by simp [this])⟩
    · rename_i hj2
      rw [if_neg hj2]
      rw [List.getElem?_drop] at hp ⊢
      have e : k + new.length + (j - k - new.length) = j := by omega
      rw [e] at hp ⊢
      obtain ⟨v, h1, h2⟩ := h j p hp
      exact ⟨v, by simpa using h1, h2⟩

theorem putAt_cell {cs new : List PV} {k : Nat} (h : ∀ p ∈ cs, p.cell = true) (hn : new.all PV.cell = true) : ∀ p ∈ putAt cs k new, p.cell = true := by
  intro p hp
  unfold putAt at hp
  rw [List.mem_append, List.mem_append] at hp
  rcases hp with (hp | hp) | hp
  · exact h p (List.mem_of_mem_take hp)
  · exact List.all_eq_true.1 hn p hp
  · exact h p (List.mem_of_mem_drop hp)

theorem ok_store {T : TypeId} {x y : Operand} (ho : o.op = .store T x y) (hd : dstOk C o = true) (hx : opndOk x = true) (hy : opndOk y = true) (h : (stStore C (tI P T) (evP σ.t x) (evP σ.t y) σ.h).1) :
    OpOK P C o nid σ (stStore C (tI P T) (evP σ.t x) (evP σ.t y) σ.h).2 := by
  unfold stStore at h ⊢
  split at h
  · rename_i ti id i oo hti hp
    split at h
    · rename_i pb hpb
      simp only [hpb]
      obtain ⟨h0, h1, h2, h3, h4, h5⟩ := h
      intro E0 fr a E hs hfr K Q hK
      have e := hs.eval x hx
      rw [hp] at e
      have ey := hs.eval y hy
      obtain ⟨b, tot, cur, hβ, hv, hc, hcs, ht, hone, hlen, hcell⟩ := row_cells hs hpb h0 h1 e
      obtain ⟨c1, c2, c3⟩ := vr_cells ey h4
      obtain ⟨l, hl, hrow⟩ := hs.ok.heap.row id pb hpb
      rw [hβ] at hl; cases hl
      obtain ⟨_, cur0, hc0, hca, _⟩ := hrow.blk b rfl
      have hc0 := (hc0.cells h0).1
      rw [hc] at hc0; cases hc0
      have hfl := flatten_len pb.es pb.sz hrow.el
      have hle : i * pb.sz + pb.sz ≤ pb.es.length * pb.sz := by
        have := Nat.mul_le_mul_right pb.sz (show i + 1 ≤ pb.es.length from h1)
        rw [Nat.succ_mul] at this
        exact this
      have hle2 : pb.es.length * pb.sz ≤ cur.size := by rw [hcs]; exact Nat.mul_le_mul_right _ ht
      have hst := run_storeCells_at P b (i * pb.sz + oo) pb.ty (a.eval y).cells.toList 0 cur E.w hc (by rw [c1, h3]; omega) c3
      simp only [Nat.add_zero] at hst
      have hf := flatten_put (es := pb.es) (sz := pb.sz) (i := i) (oo := oo) (new := cellsOf (evP σ.t y)) hrow.el h1 (by omega)
      have hset := hs.setRow hpb hβ rfl hc h5 (cur.toList.take (i * pb.sz + oo) ++ (a.eval y).cells.toList ++ cur.toList.drop (i * pb.sz + oo + (a.eval y).cells.toList.length)).toArray (pb.es.set i (putAt (pb.es.getD i []) oo (cellsOf (evP σ.t y))))
        (by simp only [List.size_toArray, List.length_append, List.length_take, List.length_drop, Array.length_toList, c1, h3]; omega)
        (fun e he => by
          rcases List.mem_or_eq_of_mem_set he with h | h
          · exact hrow.el e h
          · rw [h, putAt_length (by omega)]; exact hlen)
        (fun e he => by
          rcases List.mem_or_eq_of_mem_set he with h | h
          · exact hrow.cell e h
          · rw [h]
            exact putAt_cell (hrow.cell _ (List.mem_of_getElem? (getD_of (d := []) h1))) h4)
        (by simpa using ht)
        (by rw [hf]; exact cellsAt_put hca c1 (by omega) (by omega) c2)
        (fun v hv => by
          simp only [List.mem_append] at hv
          rcases hv with (hv | hv) | hv
          · exact hone v (List.mem_of_mem_take hv)
          · exact c3 v hv
          · exact hone v (List.mem_of_mem_drop hv))
      have hr : (execOp a.eval o).run P E.w = .ok .skip (E.w.setRow b (cur.toList.take (i * pb.sz + oo) ++ (a.eval y).cells.toList ++ cur.toList.drop (i * pb.sz + oo + (a.eval y).cells.toList.length)).toArray) := by
        have hsz : ¬ ((a.eval y).cells.size ≠ ti.sz) := by
          have : (a.eval y).cells.size = (a.eval y).cells.toList.length := by simp
          rw [this, c1, h3]; simp
        simp only [execOp, ho, hv, Instr.storeAt, Instr.sureAddr, storeVar, Sem.run_bind, Sem.run_pure, Result.andThen_ok, run_sz hti, Sem.run_ite, if_neg hsz, hst]
      unfold Oper.wp
      rw [hr]
      exact hK undef _ ((hset.2.put o.dst (dstOk_lt hd) (.any undef)).fr_mono fun j hj => hj.1)
    · exact h.elim
  · exact h.elim

theorem ok_fieldAddr {T : TypeId} {x : Operand} {f : Nat} (ho : o.op = .fieldAddr T x f) (hd : dstOk C o = true) (hx : opndOk x = true) (h : (stFieldAddr (tSt P T) f (evP σ.t x)).1) : OpOK P C o nid σ (stFieldAddr (tSt P T) f (evP σ.t x)).2 := by
  unfold stFieldAddr at h ⊢
  split at h
  · rename_i fs hfs
    obtain ⟨Fs, hu, hl, hf⟩ := tSt_spec hfs
    have run : ∀ (off : Nat) (ti : TI), fs[f]? = some (off, ti) → ti.sz ≠ 0 → ∀ (w : World) (b k : Nat), (Instr.fieldAt T (.pointer (some ⟨b, k, none⟩)) f).run P w = .ok (.pointer (some ⟨b, k + off, none⟩)) w := by
      intro off ti hfe hsz w b k
      have hlt : f < Fs.size := by rw [← hl]; exact (List.getElem?_eq_some_iff.1 hfe).1
      have hF : Fs[f]? = some Fs[f] := by simp [hlt]
      obtain ⟨ti', h1, h2⟩ := hf f _ hF
      rw [hfe] at h1
      cases h1
      simp only [Instr.fieldAt, Sem.run_bind, run_underlying hu, Result.andThen_ok, hF, Instr.sureAddr, Sem.run_pure, fieldPlace, run_sz h2, Sem.run_ite, if_neg hsz, addr_add]
    split at h
    · rename_i off ti id i oo hfe hp
      simp only [hfe, hp]
      refine .value hd fun E0 fr a E hs => ?_
      have e := hs.eval x hx
      rw [hp] at e
      obtain ⟨b, sz, tot, hβ, hv⟩ := vr_ptr e
      have hr := run off ti hfe h E.w b (i * sz + oo)
      rw [Nat.add_assoc] at hr
      exact ⟨_, by simp only [execOp, ho, hv, Sem.run_bind, hr, Result.andThen_ok, Sem.run_pure], .ptr _ _ _ b sz tot hβ⟩
    · rename_i off ti cs hfe hp
      simp only [hfe, hp]
      refine .value hd fun E0 fr a E hs => ?_
      have e := hs.eval x hx
      rw [hp] at e
      obtain ⟨b, k, cur, vs, hv, hvl, hb, hvc, hvr⟩ := vr_pim e
      refine ⟨_, by simp only [execOp, ho, hv, Sem.run_bind, run off ti hfe h, Result.andThen_ok, Sem.run_pure], .pim _ b (k + off) cur (vs.drop off) (by simp [hvl]) hb (fun j v hj => ?_) (fun j d v hj hv => ?_)⟩
      · rw [List.getElem?_drop] at hj
        rw [Nat.add_assoc]; exact hvc _ v hj
      · rw [List.getElem?_drop] at hj hv
        exact hvr _ d v hj hv
    · exact h.elim
  · exact h.elim

theorem vr_agg {rd : Rd} {β : Bt} {cs : List PV} {v : Value} (h : VR rd β (.agg cs) v) : ∃ vs : List Value, v = .agg vs.toArray ∧ vs.length = cs.length ∧ (∀ v ∈ vs, v.oneCell' = true) ∧ (∀ (j : Nat) p v, cs[j]? = some p → vs[j]? = some v → VR rd β p v) := by
  cases h with
  | agg _ vs h1 h2 h3 => exact ⟨vs, rfl, h1, h2, h3⟩

theorem run_part {t : TypeId} {ti : TI} (ht : tI P t = some ti) (w : World) (vs : List Value) (off : Nat) (hn : off + ti.sz ≤ vs.length) (hone : ti.agg = true ∨ ti.sz = 1) :
    (part t vs.toArray off).run P w = .ok (if ti.agg then .agg ((vs.drop off).take ti.sz).toArray else (vs.drop off).headD undef) w := by
  unfold part
  simp only [Sem.run_bind, run_agg ht w, Result.andThen_ok]
  by_cases hagg : ti.agg = true
  · simp only [hagg, if_true, Sem.run_bind, run_sz ht w, Result.andThen_ok, Sem.run_pure]
    congr 2
    simp [List.extract_eq_take_drop]
  · have h1 : ti.sz = 1 := hone.resolve_left hagg
    have hlt : off < vs.length := by omega
    simp only [hagg, Bool.false_eq_true, if_false, List.getElem?_toArray]
    rw [List.getElem?_eq_getElem hlt, List.drop_eq_getElem_cons hlt]
    rfl

theorem vr_part {rd : Rd} {β : Bt} {ti : TI} {ps : List PV} {vs : List Value} {off : Nat} (hl : vs.length = ps.length) (hn : off + ti.sz ≤ ps.length) (hone : ti.agg = true ∨ ti.sz = 1) (h1 : ∀ v ∈ vs, v.oneCell' = true)
    (hel : ∀ (j : Nat) p v, ps[j]? = some p → vs[j]? = some v → VR rd β p v) : VR rd β (ldP ti (ps.drop off)) (if ti.agg then .agg ((vs.drop off).take ti.sz).toArray else (vs.drop off).headD undef) :=
  vr_ldP (by simp [hl]) (by simp; omega) hone (fun v hv => h1 v (List.mem_of_mem_drop hv)) (fun j p v hp hv => by
    rw [List.getElem?_drop] at hp hv
    exact hel _ p v hp hv)

theorem ok_field {T : TypeId} {x : Operand} {f : Nat} (ho : o.op = .field T x f) (hd : dstOk C o = true) (hx : opndOk x = true) (h : (stField (tSt P T) f (evP σ.t x)).1) : OpOK P C o nid σ (stField (tSt P T) f (evP σ.t x)).2 := by
  unfold stField at h ⊢
  split at h
  · rename_i fs hfs
    obtain ⟨Fs, hu, hl, hf⟩ := tSt_spec hfs
    split at h
    · rename_i off ti cs hfe hp
      simp only [hfe, hp]
      obtain ⟨h1, h2⟩ := h
      refine .value hd fun E0 fr a E hs => ?_
      have e := hs.eval x hx
      rw [hp] at e
      obtain ⟨vs, hv, hvl, hone, hvr⟩ := vr_agg e
      have hlt : f < Fs.size := by rw [← hl]; exact (List.getElem?_eq_some_iff.1 hfe).1
      have hF : Fs[f]? = some Fs[f] := by simp [hlt]
      obtain ⟨ti', g1, g2⟩ := hf f _ hF
      rw [hfe] at g1
      cases g1
      exact ⟨_, by simp only [execOp, ho, hv, Instr.field, asAgg, Sem.run_bind, run_underlying hu, hF, Result.andThen_ok, Sem.run_pure, run_part g2 E.w vs Fs[f].offset (by omega) h2], vr_part hvl h1 h2 hone hvr⟩
    · exact h.elim
  · exact h.elim

end sound
end Go.PM
