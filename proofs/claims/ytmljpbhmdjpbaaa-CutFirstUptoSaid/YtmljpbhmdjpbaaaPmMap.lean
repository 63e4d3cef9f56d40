/- The pure machine: maps. A map is a row with an element for each entry: the key's cells, then the value's one cell. -/
import Derived.Test.YtmljpbhmdjpbaaaPmEq
import Derived.Test.YtmljpbhmdjpbaaaPm12
import Derived.MapKept
namespace Go.PM
set_option linter.unusedVariables false
set_option linter.unusedSimpArgs false
section
variable {P : Program}

theorem run_checkKey_flat (em : Bool) (m : Nat) : ∀ (d : Nat) (t : TypeId) (ks : List LK), flatK P d t = some ks → ∀ (w : World) (v : Value) (vs : List Value), Stands P t v vs → vs.length = ks.length → (Instr.checkKey em (m + d) t v).run P w = .ok () w
  | 0, _, _, h => by simp [flatK] at h
  | d + 1, t, ks, h => by
    intro w v vs hv hl
    rw [show m + (d + 1) = (m + d) + 1 from rfl]
    unfold flatK at h
    split at h
    · rename_i hu
      unfold Instr.checkKey
      simp only [Sem.run_bind, run_underlying hu, Result.andThen_ok]
      cases v <;> rfl
    · rename_i k hu
      unfold Instr.checkKey
      simp only [Sem.run_bind, run_underlying hu, Result.andThen_ok]
      cases v <;> rfl
    · rename_i hu
      unfold Instr.checkKey
      simp only [Sem.run_bind, run_underlying hu, Result.andThen_ok]
      cases v <;> rfl
    · rename_i n e hu
      split at h
      · rename_i k1 hk1
        split at h
        · rename_i hc
          cases h
          simp only [Stands, hu] at hv
          subst hv
          obtain ⟨i, hi⟩ : ∃ i, P.info? e = some i := by
            cases d with
            | zero => simp [flatK] at hk1
            | succ d =>
              unfold flatK at hk1
              cases hue : P.underlying e with
              | none => simp [hue] at hk1
              | some _ => exact info_of_underlying hue
          rw [rep_len] at hl
          rw [Instr.checkKey]
          simp only [Sem.run_bind, run_underlying hu, Result.andThen_ok]
          simp only [Std.Legacy.Range.forIn_eq_forIn_range', Std.Legacy.Range.size, Nat.sub_zero, Nat.add_one_sub_one, Nat.div_one]
          have each : ∀ j ∈ List.range' 0 n, j < n := fun j hj => by
            have := List.mem_range'_1.1 hj
            omega
          generalize List.range' 0 n = is at each
          induction is with
          | nil => simp
          | cons j is ih =>
            have hj := each j (by simp)
            have hle : j * k1.length + k1.length ≤ n * k1.length := by
              have := Nat.mul_le_mul_right k1.length (show j + 1 ≤ n from hj)
              rw [Nat.succ_mul] at this
              exact this
            obtain ⟨a, p1, s1⟩ := run_part_stands (xs := vs.toArray) (off := j * k1.length) hk1 rfl (by simp [hl]; omega) w
            have p2 := run_checkKey_flat em m d e k1 hk1 w a _ s1 (by simp [hl]; omega)
            simp only [List.forIn_cons, Sem.run_bind, run_sizeOf w hi, Result.andThen_ok, hc.1, p1, p2, Sem.run_pure]
            exact ih (fun y hy => each y (by simp [hy]))
        · cases h
      · cases h
    · rename_i fs hu
      split at h
      · cases h
      · split at h
        · rename_i k1 hk1
          split at h
          · cases h
            simp only [Stands, hu] at hv
            subst hv
            rw [Instr.checkKey]
            simp only [Sem.run_bind, run_underlying hu, Result.andThen_ok]
            rw [← Array.forIn_toList]
            have key : ∀ (L : List Field) (off : Nat) (ks : List LK), flatFs (flatK P d) L off = some ks → off + ks.length ≤ vs.length →
                (forIn L PUnit.unit fun f _ => do if f.name ≠ "_" then do Instr.checkKey em (m + d) f.type (← part f.type vs.toArray f.offset); pure (ForInStep.yield PUnit.unit) else pure (ForInStep.yield PUnit.unit) : Sem PUnit).run P w = .ok PUnit.unit w := by
              intro L
              induction L with
              | nil => intro off ks _ _; simp
              | cons f L ih =>
                intro off ks hf hle
                unfold flatFs at hf
                split at hf
                · rename_i hof
                  split at hf
                  · rename_i k2 hk2
                    simp only [Option.map_eq_some_iff] at hf
                    obtain ⟨k3, hk3, rfl⟩ := hf
                    rw [List.length_append] at hle
                    obtain ⟨hoff, hname⟩ := hof
                    obtain ⟨a, p1, s1⟩ := run_part_stands (xs := vs.toArray) (off := off) hk2 rfl (by simp; omega) w
                    have p2 := run_checkKey_flat em m d f.type k2 hk2 w a _ s1 (by simp; omega)
                    simp only [List.forIn_cons, Sem.run_bind, hname, ne_eq, not_false_eq_true, if_true, hoff, Result.andThen_ok, p1, p2, Sem.run_pure]
                    exact ih _ _ hk3 (by omega)
                  · cases hf
                · cases hf
            have h2 := key fs.toList 0 _ hk1 (by omega)
            simp at h2 ⊢
            rw [h2]
            rfl
          · cases h
        · cases h
    · cases h

/-- Where a key lies among the entries. -/
def findM (ks : List LK) (kv : List Value) : List (List PV) → Option (Option Nat)
  | [] => some none
  | e :: r => match valsOf (e.take ks.length) with
    | some ev => match eqvL ks kv ev with
      | some true => some (some 0)
      | some false => (findM ks kv r).map (·.map (· + 1))
      | none => none
    | none => none

theorem findM_lt {ks : List LK} {kv : List Value} : ∀ {es : List (List PV)} {j : Nat}, findM ks kv es = some (some j) → j < es.length
  | [], j, h => by simp [findM] at h
  | e :: r, j, h => by
    unfold findM at h
    split at h
    · split at h
      · simp at h; subst h; simp
      · simp only [Option.map_eq_some_iff] at h
        obtain ⟨x, hx, h⟩ := h
        obtain ⟨y, hy, rfl⟩ := h
        subst hy
        have := findM_lt hx
        simp; omega
      · cases h
    · cases h

/-- The key's and the value's types of a map: the cells of a key, the value's zero. -/
def tMp (P : Program) (T : TypeId) : Option (List LK × Value) := match P.underlying T with
  | some (.map k e) => match P.underlying k, flatK P 8 k, P.info? e, tI P e with
    | some (.array _ _), some ks, some i, some ti => (match i.zero with | some z => if z.oneCell' && decide (LK.str ∉ ks) && decide (ti.sz = 1) && !ti.agg then some (ks, z) else none | none => none)
    | some (.struct _), some ks, some i, some ti => (match i.zero with | some z => if z.oneCell' && decide (LK.str ∉ ks) && decide (ti.sz = 1) && !ti.agg then some (ks, z) else none | none => none)
    | _, _, _, _ => none
  | _ => none

theorem tMp_spec {T : TypeId} {ks : List LK} {z : Value} (h : tMp P T = some (ks, z)) : ∃ k e, P.underlying T = some (.map k e) ∧ ((∃ n e', P.underlying k = some (.array n e')) ∨ ∃ fs, P.underlying k = some (.struct fs)) ∧ flatK P 8 k = some ks ∧ (∀ w, (zeroValue e).run P w = .ok z w) ∧ z.oneCell' = true ∧ LK.str ∉ ks := by
  unfold tMp at h
  split at h
  · rename_i k e hu
    split at h
    · rename_i n e' ks' i ti hk hks hi _
      split at h
      · rename_i z' hz
        split at h
        · rename_i hc
          cases h
          simp only [Bool.and_eq_true] at hc
          exact ⟨k, e, hu, .inl ⟨n, e', hk⟩, hks, fun w => by simp [zeroValue, typeInfo, hi, hz], hc.1.1.1, of_decide_eq_true hc.1.1.2⟩
        · cases h
      · cases h
    · rename_i fs ks' i ti hk hks hi _
      split at h
      · rename_i z' hz
        split at h
        · rename_i hc
          cases h
          simp only [Bool.and_eq_true] at hc
          exact ⟨k, e, hu, .inr ⟨fs, hk⟩, hks, fun w => by simp [zeroValue, typeInfo, hi, hz], hc.1.1.1, of_decide_eq_true hc.1.1.2⟩
        · cases h
      · cases h
    · cases h
  · cases h

/-- An entry and an element of the row. -/
def EntRel (rd : Rd) (β : Bt) (kn : Nat) (e : List PV) (x : MapEntry) : Prop :=
  ∃ cs : List Value, x.key = .agg cs.toArray ∧ cs.length = kn ∧ x.val.oneCell' = true ∧ (∀ (j : Nat) p v, (e.take kn)[j]? = some p → cs[j]? = some v → VR rd β p v) ∧ (e.take kn).length = kn ∧ (∀ p, e[kn]? = some p → VR rd β p x.val)

theorem run_findAsking_flat {k : TypeId} {ks : List LK} (hk : flatK P 8 k = some ks) (hw : (∃ n e', P.underlying k = some (.array n e')) ∨ ∃ fs, P.underlying k = some (.struct fs)) {rd : Rd} {β : Bt} (w : World) (kv : List Value) : ∀ (es : List (List PV)) (xs : List MapEntry) (i : Nat) (r : Option Nat),
    xs.length = es.length → (∀ (j : Nat) e x, es[j]? = some e → xs[j]? = some x → EntRel rd β ks.length e x) → findM ks kv es = some r →
    (Instr.findAsking k (.agg kv.toArray) xs i).run P w = .ok (r.bind fun j => (xs[j]?).map fun x => (i + j, x.val)) w
  | [], [], i, r, _, _, h => by
    simp [findM] at h
    subst h
    simp [Instr.findAsking]
  | [], _ :: _, _, _, hl, _, _ => by simp at hl
  | _ :: _, [], _, _, hl, _, _ => by simp at hl
  | e :: es, x :: xs, i, r, hl, hr, h => by
    unfold findM at h
    split at h
    · rename_i ev hev
      obtain ⟨cs, c1, c2, c3, c4, c5, c6⟩ := hr 0 e x rfl rfl
      have := valsOf_vr _ ev cs hev (by rw [c2, c5]) c4
      subst this
      have sx : ∀ vs : List Value, Stands P k (.agg vs.toArray) vs := by
        intro vs
        unfold Stands
        rcases hw with ⟨n, e, hu⟩ | ⟨fs, hu⟩ <;> rw [hu]
      have eqr : ∀ b, eqvL ks kv cs = some b → (Op.equal k (.agg kv.toArray) x.key).run P w = .ok b w := by
        intro b hb
        rw [c1]
        exact run_equalIn_flat (P := P) 9992 8 k ks hk w _ _ _ _ b (sx _) (sx _) hb
      split at h
      · rename_i hb
        cases h
        simp only [Instr.findAsking, Sem.run_bind, eqr true hb, Result.andThen_ok, if_true, Sem.run_pure]
        simp
      · rename_i hb
        simp only [Option.map_eq_some_iff] at h
        obtain ⟨r', h1, rfl⟩ := h
        have ih := run_findAsking_flat hk hw (rd := rd) (β := β) w kv es xs (i + 1) r' (by simpa using hl) (fun j e x h1 h2 => hr (j + 1) e x (by simpa using h1) (by simpa using h2)) h1
        simp only [Instr.findAsking, Sem.run_bind, eqr false hb, Result.andThen_ok, Bool.false_eq_true, if_false, ih]
        cases r' with
        | none => rfl
        | some j => simp [Nat.add_assoc, Nat.add_comm 1 j]
      · cases h
    · cases h

theorem run_findKey_flat {k : TypeId} {ks : List LK} (hk : flatK P 8 k = some ks) (hw : (∃ n e', P.underlying k = some (.array n e')) ∨ ∃ fs, P.underlying k = some (.struct fs)) {rd : Rd} {β : Bt} (w : World) (kv : List Value) (es : List (List PV)) (xs : List MapEntry) (r : Option Nat)
    (hl : xs.length = es.length) (hr : ∀ (j : Nat) e x, es[j]? = some e → xs[j]? = some x → EntRel rd β ks.length e x) (h : findM ks kv es = some r) :
    (Instr.findKey k (.agg kv.toArray) xs).run P w = .ok (r.bind fun j => (xs[j]?).map fun x => (j, x.val)) w := by
  have h1 := run_findAsking_flat hk hw (rd := rd) (β := β) w kv es xs 0 r hl hr h
  simp only [Nat.zero_add] at h1
  obtain ⟨d, hd, hdn⟩ : ∃ d, P.underlying k = some d ∧ ∀ a b, Instr.sameNow d a b = none := by
    rcases hw with ⟨n, e', hu⟩ | ⟨fs, hu⟩
    · exact ⟨_, hu, fun a b => rfl⟩
    · exact ⟨_, hu, fun a b => rfl⟩
  unfold Instr.findKey
  simp only [Sem.run_bind, run_underlying hd, Result.andThen_ok]
  cases xs with
  | nil =>
    simp only [Instr.findNow, Sem.run_pure]
    cases r <;> rfl
  | cons x xs =>
    simp only [Instr.findNow, hdn]
    exact h1

theorem eqvL_same : ∀ (ks : List LK) (xs ys : List Value), eqvL ks xs ys = some true → ∀ p ∈ xs.zip ys, Instr.sameBits 9999 p.1 p.2 = true
  | [], [], [], _, p, hp => by simp at hp
  | k :: ks, x :: xs, y :: ys, h, p, hp => by
    unfold eqvL at h
    split at h
    · rename_i a b h1 h2
      simp only [Option.some.injEq, Bool.and_eq_true] at h
      obtain ⟨rfl, rfl⟩ := h
      rw [List.zip_cons_cons] at hp
      rcases List.mem_cons.1 hp with rfl | hp
      · unfold LK.eqv at h1
        split at h1
        · simp at h1; simp [Instr.sameBits, h1]
        · split at h1
          · rename_i hkk; simp at h1; simp [Instr.sameBits, h1, hkk]
          · cases h1
        · simp at h1; simp [Instr.sameBits, h1]
        · cases h1
      · exact eqvL_same ks xs ys h2 p hp
    · cases h
  | [], _ :: _, _, h, _, _ => by simp [eqvL] at h
  | [], [], _ :: _, h, _, _ => by simp [eqvL] at h
  | _ :: _, [], _, h, _, _ => by simp [eqvL] at h
  | _ :: _, _ :: _, [], h, _, _ => by simp [eqvL] at h

theorem findM_eqv {ks : List LK} {kv : List Value} : ∀ {es : List (List PV)} {j : Nat}, findM ks kv es = some (some j) → ∃ e ev, es[j]? = some e ∧ valsOf (e.take ks.length) = some ev ∧ eqvL ks kv ev = some true
  | [], j, h => by simp [findM] at h
  | e :: r, j, h => by
    unfold findM at h
    split at h
    · rename_i ev hev
      split at h
      · rename_i hb
        simp at h; subst h
        exact ⟨e, ev, rfl, hev, hb⟩
      · simp only [Option.map_eq_some_iff] at h
        obtain ⟨x, hx, h⟩ := h
        obtain ⟨y, hy, rfl⟩ := h
        subst hy
        obtain ⟨e', ev', h1, h2, h3⟩ := findM_eqv hx
        exact ⟨e', ev', by simpa using h1, h2, h3⟩
      · cases h
    · cases h

end

theorem one_cells {v : Value} (h : v.oneCell' = true) : v.cells.toList = [v] := by
  cases v <;> first | rfl | cases h

/-- An element and an entry, cell by cell. -/
def CRel (rd : Rd) (β : Bt) (e : List PV) (x : MapEntry) : Prop := (entCells x).length = e.length ∧ ∀ (i : Nat) p v, e[i]? = some p → (entCells x)[i]? = some v → VR rd β p v

theorem cells_of_rel {rd : Rd} {β : Bt} : ∀ (es : List (List PV)) (xs : List MapEntry), xs.length = es.length → (∀ (j : Nat) e x, es[j]? = some e → xs[j]? = some x → CRel rd β e x) →
    ∀ (j : Nat) p, es.flatten[j]? = some p → ∃ v, (xs.flatMap entCells)[j]? = some v ∧ VR rd β p v
  | [], _, _, _, j, p, hp => by simp at hp
  | _ :: _, [], hl, _, _, _, _ => by simp at hl
  | e :: es, x :: xs, hl, hr, j, p, hp => by
    obtain ⟨h1, h2⟩ := hr 0 e x rfl rfl
    rw [List.flatten_cons, List.getElem?_append] at hp
    rw [List.flatMap_cons, List.getElem?_append, h1]
    split at hp
    · rename_i hlt
      rw [if_pos hlt]
      have hlt2 : j < (entCells x).length := by omega
      exact ⟨(entCells x)[j], List.getElem?_eq_getElem hlt2, h2 j p _ hp (List.getElem?_eq_getElem hlt2)⟩
    · rename_i hlt
      rw [if_neg hlt]
      exact cells_of_rel es xs (by simpa using hl) (fun j e x h1 h2 => hr (j + 1) e x (by simpa using h1) (by simpa using h2)) _ p hp

theorem rel_of_cells {rd : Rd} {β : Bt} {es : List (List PV)} {xs : List MapEntry} {sz : Nat} {cur : Array Value} (hl : xs.length = es.length) (he : ∀ e ∈ es, e.length = sz) (hx : ∀ x ∈ xs, (entCells x).length = sz) (hcur : cur.toList = xs.flatMap entCells) (hc : CellsAt rd β es.flatten cur) :
    ∀ (j : Nat) e x, es[j]? = some e → xs[j]? = some x → CRel rd β e x := by
  intro j e x h1 h2
  have e1 := he e (List.mem_of_getElem? h1)
  have x1 := hx x (List.mem_of_getElem? h2)
  refine ⟨by rw [e1, x1], fun i p v hp hv => ?_⟩
  have hi : i < sz := by rw [← e1]; exact (List.getElem?_eq_some_iff.1 hp).1
  have g1 := flatten_at es sz j i e he h1 hi
  rw [hp] at g1
  have g2 := flatten_at (xs.map entCells) sz j i (entCells x) (fun c hc => by obtain ⟨y, hy, rfl⟩ := List.mem_map.1 hc; exact hx y hy) (by rw [List.getElem?_map, h2]; rfl) hi
  rw [hv] at g2
  obtain ⟨u, hu, hur⟩ := hc _ p g1
  have : cur.toList[j * sz + i]? = some v := by rw [hcur, List.flatMap_def]; exact g2
  rw [Array.getElem?_toList] at this
  rw [this] at hu
  cases hu
  exact hur

theorem ent_len {kn vn : Nat} {ka va : Bool} {x : MapEntry} (h1 : ShapeOk ka kn x.key) (h2 : ShapeOk va vn x.val) : (entCells x).length = kn + vn := by
  have aux : ∀ {a : Bool} {n : Nat} {v : Value}, ShapeOk a n v → v.cells.toList.length = n := by
    intro a n v h
    unfold ShapeOk at h
    split at h
    · obtain ⟨cs, rfl, rfl⟩ := h; rfl
    · obtain ⟨rfl, h⟩ := h
      rw [one_cells h]; rfl
  unfold entCells
  rw [List.length_append, aux h1, aux h2]

theorem ent_of {rd : Rd} {β : Bt} {kn : Nat} {e : List PV} {x : MapEntry} (h : CRel rd β e x) (hl : e.length = kn + 1) (h1 : ShapeOk true kn x.key) (h2 : ShapeOk false 1 x.val) : EntRel rd β kn e x := by
  obtain ⟨c1, c2⟩ := h
  unfold ShapeOk at h1 h2
  simp only [if_true, Bool.false_eq_true, if_false] at h1 h2
  obtain ⟨cs, k1, k2⟩ := h1
  have hc : entCells x = cs ++ [x.val] := by
    unfold entCells
    rw [k1, one_cells h2.2]; rfl
  rw [hc] at c2
  refine ⟨cs, k1, k2, h2.2, fun j p v hp hv => ?_, by simp; omega, fun p hp => c2 kn p _ hp (by simp [k2])⟩
  rw [List.getElem?_take] at hp
  split at hp
  · exact c2 j p v hp (by rw [List.getElem?_append, if_pos (by omega)]; exact hv)
  · cases hp

theorem mapTy_inj {kn kn' vn' : Nat} {ka' va' : Bool} (h : mapTy kn 1 true false = mapTy kn' vn' ka' va') (hs : kn + 1 = kn' + vn') : kn' = kn ∧ vn' = 1 ∧ ka' = true ∧ va' = false := by
  have h : (1000000000 + ((kn * 1000 + 1) * 4 + (2 + 0)) : Nat) = 1000000000 + ((kn' * 1000 + vn') * 4 + ((if ka' = true then 2 else 0) + (if va' = true then 1 else 0))) := h
  cases ka' <;> cases va' <;> simp only [Bool.false_eq_true, if_false, if_true] at h <;> refine ⟨?_, ?_, ?_, ?_⟩ <;> first | rfl | omega

section sound
variable {P : Program} {C : Cx} {o : Oper} {nid : Nat} {σ : Core}

abbrev mapRow (ks : List LK) (es : List (List PV)) : PB := ⟨mapTy ks.length 1 true false, ks.length + 1, es⟩

/-- What a map's value leads to. -/
theorem map_row {E0 : Env} {fr : Nat → Prop} {a : Act} {E : Env} (hs : SatF E0 C fr σ a E) {id : Nat} {ks : List LK} {es : List (List PV)} {v : Value} (hh : σ.h id = some (mapRow ks es)) (hv : E.vr (.mp id) v) :
    ∃ (b : Nat) (xs : Array MapEntry) (clock : Nat) (cur : Array Value), v = .map (some b) ∧ E.β id = some ⟨some b, ks.length + 1, maxLen + 1⟩ ∧ E.w.heap[b]? = some (.map xs clock) ∧ xs.toList.length = es.length ∧ (∀ e ∈ es, e.length = ks.length + 1) ∧ (∀ e ∈ es, ∀ p ∈ e, p.cell = true) ∧ cur.toList = xs.toList.flatMap entCells ∧
      (∀ x ∈ xs.toList, ShapeOk true ks.length x.key ∧ ShapeOk false 1 x.val) ∧ (∀ u ∈ cur.toList, u.oneCell' = true) ∧ (∀ (j : Nat) e x, es[j]? = some e → xs.toList[j]? = some x → CRel E.rd E.β e x) := by
  cases hv with
  | mp _ b sz hβ =>
    obtain ⟨l, hl, hrow⟩ := hs.ok.heap.row id _ hh
    rw [hβ] at hl; cases hl
    have hsz : sz = ks.length + 1 := hrow.sz
    subst hsz
    obtain ⟨_, cur, hc, hcell, h1⟩ := hrow.blk b rfl
    rcases hc with ⟨_, _, _, h⟩ | ⟨_, kn, vn, ka, va, xs, clock, g1, g2, g3, g4, g5, g6⟩
    · have : maxLen + 1 ≤ maxLen := h
      omega
    · obtain ⟨rfl, rfl, rfl, rfl⟩ := mapTy_inj g1 g2
      exact ⟨b, xs, clock, cur, rfl, hβ, g3, g4, hrow.el, hrow.cell, g5, g6, h1, rel_of_cells g4 hrow.el (fun x hx => ent_len (g6 x hx).1 (g6 x hx).2) g5 hcell⟩

def stMakeMap (mt : Option (List LK × Value)) (nid : Nat) : Out := match mt with
  | some (ks, _) => (True, ⟨.mp nid, [], [(nid, some (mapRow ks []))]⟩)
  | none => nope

theorem ok_makeMap {T : TypeId} (ho : o.op = .makeMap T none) (hd : dstOk C o = true) (h : (stMakeMap (tMp P T) nid).1) : OpOK P C o nid σ (stMakeMap (tMp P T) nid).2 := by
  unfold stMakeMap at h ⊢
  split at h
  · rename_i ks z hT
    intro E0 fr a E hs hfr K Q hK
    obtain ⟨E', hw, hβ, hx, hs'⟩ := hs.allocO nid (hfr 0 (by omega)) E.w (.refl _) (.map #[] 0) #[] (mapRow ks []) (maxLen + 1) (.inr ⟨rfl, ks.length, 1, true, false, #[], 0, rfl, rfl, rfl, rfl, rfl, by simp⟩) (by simp) (by simp) (by intro j p hp; simp at hp) (by simp)
    have hr : (execOp a.eval o).run P E.w = .ok (.value (.map (some E.w.heap.size))) (E.w.alloc (.map #[] 0)) := by
      simp [execOp, ho, Instr.makeMap]
    unfold Oper.wp
    rw [hr, ← hw]
    refine hK _ E' ((hs'.put o.dst (dstOk_lt hd) (.mp nid _ _ hβ)).fr_mono fun j hj => ⟨hj.1, fun e => hj.2 ?_⟩)
    omega
  · exact h.elim

def pvR (z : Value) (ks : List LK) (es : List (List PV)) : Option Nat → PV
  | some j => (es.getD j []).getD ks.length .any
  | none => .d (.val z)
def lookR (z : Value) (ks : List LK) (es : List (List PV)) (commaOk : Bool) (r : Option Nat) : PV :=
  if commaOk then .tup [pvR z ks es r, .b r.isSome] else pvR z ks es r
def okR (xs : List MapEntry) (z u : Value) (ok : Bool) : Option Nat → Prop
  | some j => ∃ y, xs[j]? = some y ∧ u = y.val ∧ ok = true
  | none => u = z ∧ ok = false
def putR (es : List (List PV)) (c : List PV) : Option Nat → List (List PV)
  | some j => es.set j c
  | none => es ++ [c]

def stLookup (mt : Option (List LK × Value)) (h : Hp) (p q : PV) (commaOk : Bool) : Out := match mt, p, q with
  | some (ks, z), .mp id, .agg cs => match h id, valsOf cs with
    | some pb, some kv => match findM ks kv pb.es with
      | some r => (pb.ty = mapTy ks.length 1 true false ∧ pb.sz = ks.length + 1 ∧ cs.length = ks.length, ⟨lookR z ks pb.es commaOk r, [id], []⟩)
      | none => nope
    | _, _ => nope
  | _, _, _ => nope

theorem ok_lookup {T : TypeId} {x y : Operand} {q : Bool} (ho : o.op = .lookup T x y q) (hd : dstOk C o = true) (hx : opndOk x = true) (hy : opndOk y = true) (h : (stLookup (tMp P T) σ.h (evP σ.t x) (evP σ.t y) q).1) :
    OpOK P C o nid σ (stLookup (tMp P T) σ.h (evP σ.t x) (evP σ.t y) q).2 := by
  unfold stLookup at h ⊢
  split at h
  · rename_i ks z id cs hT hp hq
    split at h
    · rename_i pb kv hh hkv
      try simp only [hh, hkv]
      split at h
      · rename_i r hr
        try simp only [hr]
        obtain ⟨g1, g2, g3⟩ := h
        obtain ⟨ty, sz, es⟩ := pb
        subst g1; subst g2
        obtain ⟨k, e, hu, hw, hk, hz, hz1, _⟩ := tMp_spec hT
        refine .value hd fun E0 fr a E hs => ?_
        have ex := hs.eval x hx
        have ey := hs.eval y hy
        rw [hp] at ex
        rw [hq] at ey
        obtain ⟨b, xs, clock, cur, hv, hβ, hb, hl, hel, hcl, hcur, hsh, hone, hrel⟩ := map_row hs hh ex
        obtain ⟨vs, hyv, hyl, _, hyr⟩ := vr_agg ey
        have := valsOf_vr cs kv vs hkv hyl hyr
        subst this
        have hent : ∀ (j : Nat) e x, es[j]? = some e → xs.toList[j]? = some x → EntRel E.rd E.β ks.length e x := fun j e x h1 h2 =>
          ent_of (hrel j e x h1 h2) (hel e (List.mem_of_getElem? h1)) (hsh x (List.mem_of_getElem? h2)).1 (hsh x (List.mem_of_getElem? h2)).2
        have hf := run_findKey_flat (P := P) hk hw E.w vs es xs.toList r hl hent hr
        have hst : Stands P k (.agg vs.toArray) vs := by
          unfold Stands
          rcases hw with ⟨n, e, hu⟩ | ⟨fs, hu⟩ <;> rw [hu]
        have hck := run_checkKey_flat (P := P) xs.isEmpty 9992 8 k ks hk E.w _ vs hst (by rw [hyl, g3])
        have hrun : ∀ (u : Value) (ok : Bool), okR xs.toList z u ok r →
            (execOp a.eval o).run P E.w = .ok (.value (if q then .tuple #[u, .bool ok] else u)) E.w := by
          intro u ok hu2
          simp only [execOp, ho, hv, hyv, Instr.lookup, Sem.run_bind, run_underlying hu, Result.andThen_ok, MapKept.run_getObj_map hb, Sem.run_pure, hck, hf]
          cases r with
          | none =>
            obtain ⟨rfl, rfl⟩ := hu2
            simp only [Option.bind_none, hz, Sem.run_bind, Result.andThen_ok, Sem.run_pure]
          | some j =>
            obtain ⟨y, hy1, rfl, rfl⟩ := hu2
            simp only [Option.bind_some, hy1, Option.map_some, Sem.run_bind, Result.andThen_ok, Sem.run_pure]
        have hval : ∃ (u : Value) (ok : Bool), okR xs.toList z u ok r ∧ ok = r.isSome ∧
            VR E.rd E.β (pvR z ks es r) u := by
          cases r with
          | none => exact ⟨z, false, ⟨rfl, rfl⟩, rfl, .d _ _ (.val z hz1)⟩
          | some j =>
            have hjl : j < es.length := findM_lt hr
            have hej := getD_of (d := []) hjl
            have hjx : j < xs.toList.length := by omega
            obtain ⟨y, hy1⟩ : ∃ y, xs.toList[j]? = some y := ⟨xs.toList[j], List.getElem?_eq_getElem hjx⟩
            obtain ⟨cs', _, _, _, _, _, h6⟩ := hent j _ y hej hy1
            refine ⟨y.val, true, ⟨y, hy1, rfl, rfl⟩, rfl, ?_⟩
            have hlen := hel _ (List.mem_of_getElem? hej)
            exact h6 _ (getD_of (d := PV.any) (by omega))
        obtain ⟨u, ok, h1, h2, h3⟩ := hval
        refine ⟨_, hrun u ok h1, ?_⟩
        unfold lookR
        cases q
        · exact h3
        · simp only [if_true]
          refine .tup _ [u, .bool ok] rfl (fun j p v hp hv => ?_)
          match j with
          | 0 => simp at hp hv; subst hp; subst hv; exact h3
          | 1 => simp at hp hv; subst hp; subst hv; rw [h2]; exact .d _ _ (.val _ rfl)
          | j + 2 => simp at hp
      · exact h.elim
    · exact h.elim
  · exact h.elim

def stMapUpdate (C : Cx) (mt : Option (List LK × Value)) (h : Hp) (p q v : PV) : Out := match mt, p, q with
  | some (ks, _), .mp id, .agg cs => match h id, valsOf cs with
    | some pb, some kv => match findM ks kv pb.es with
      | some r => (pb.ty = mapTy ks.length 1 true false ∧ pb.sz = ks.length + 1 ∧ cs.length = ks.length ∧ v.cell = true ∧ (id ∈ C.T ∨ C.n0 ≤ id),
          ⟨.any, [id], [(id, some { pb with es := putR pb.es (cs ++ [v]) r })]⟩)
      | none => nope
    | _, _ => nope
  | _, _, _ => nope

theorem valsOf_cell : ∀ {cs : List PV} {xs : List Value}, valsOf cs = some xs → ∀ p ∈ cs, p.cell = true
  | [], _, _, p, hp => by cases hp
  | c :: cs, xs, h, p, hp => by
    unfold valsOf at h
    split at h
    · rename_i h0; cases h0
    · rename_i v r hc
      cases hc
      simp only [Option.map_eq_some_iff] at h
      obtain ⟨ys, hys, _⟩ := h
      rcases List.mem_cons.1 hp with rfl | hp
      · rfl
      · exact valsOf_cell hys p hp
    · cases h

theorem setBlk_other (w : World) (b k : Nat) (x : Obj) (h : k ≠ b) : ({ w with heap := w.heap.setIfInBounds b x } : World).heap[k]? = w.heap[k]? := by
  simp [Array.getElem?_setIfInBounds, Ne.symm h]

theorem ok_mapUpdate {T : TypeId} {x y z : Operand} (ho : o.op = .mapUpdate T x y z) (hd : dstOk C o = true) (hx : opndOk x = true) (hy : opndOk y = true) (hz : opndOk z = true) (h : (stMapUpdate C (tMp P T) σ.h (evP σ.t x) (evP σ.t y) (evP σ.t z)).1) :
    OpOK P C o nid σ (stMapUpdate C (tMp P T) σ.h (evP σ.t x) (evP σ.t y) (evP σ.t z)).2 := by
  unfold stMapUpdate at h ⊢
  split at h
  · rename_i ks z0 id cs hT hp hq
    split at h
    · rename_i pb kv hh hkv
      try simp only [hh, hkv]
      split at h
      · rename_i r hr
        try simp only [hr]
        obtain ⟨g1, g2, g3, g4, g5⟩ := h
        obtain ⟨ty, sz, es⟩ := pb
        subst g1; subst g2
        obtain ⟨k, e, hu, hw, hk, _, _, hns⟩ := tMp_spec hT
        intro E0 fr a E hs hfr K Q hK
        have ex := hs.eval x hx
        have ey := hs.eval y hy
        have ez := hs.eval z hz
        rw [hp] at ex
        rw [hq] at ey
        obtain ⟨b, xs, clock, cur, hv, hβ, hb, hl, hel, hcl, hcur, hsh, hone, hrel⟩ := map_row hs hh ex
        obtain ⟨vs, hyv, hyl, hyone, hyr⟩ := vr_agg ey
        have := valsOf_vr cs kv vs hkv hyl hyr
        subst this
        have hent : ∀ (j : Nat) e x, es[j]? = some e → xs.toList[j]? = some x → EntRel E.rd E.β ks.length e x := fun j e x h1 h2 =>
          ent_of (hrel j e x h1 h2) (hel e (List.mem_of_getElem? h1)) (hsh x (List.mem_of_getElem? h2)).1 (hsh x (List.mem_of_getElem? h2)).2
        have hf := run_findKey_flat (P := P) hk hw E.w vs es xs.toList r hl hent hr
        have hst : Stands P k (.agg vs.toArray) vs := by
          unfold Stands
          rcases hw with ⟨n, e, hu⟩ | ⟨fs, hu⟩ <;> rw [hu]
        have hck := run_checkKey_flat (P := P) false 9992 8 k ks hk E.w _ vs hst (by rw [hyl, g3])
        have hblt : b < E.w.heap.size := (Array.getElem?_eq_some_iff.1 hb).1
        have hzone : (a.eval z).oneCell' = true := ez.one g4
        -- the new entry's cells
        have hnew : ∀ born, CRel E.rd E.β (cs ++ [evP σ.t z]) { key := .agg vs.toArray, val := a.eval z, born := born } := by
          intro born
          have hc : entCells { key := .agg vs.toArray, val := a.eval z, born := born } = vs ++ [a.eval z] := by
            unfold entCells
            rw [one_cells hzone]; rfl
          refine ⟨by rw [hc]; simp [hyl], fun i p v hp hv => ?_⟩
          rw [hc] at hv
          rw [List.getElem?_append] at hp hv
          rw [hyl] at hv
          split at hp
          · rename_i hlt
            rw [if_pos hlt] at hv
            exact hyr i p v hp hv
          · rename_i hlt
            rw [if_neg hlt] at hv
            match hi : i - cs.length with
            | 0 => rw [hi] at hp hv; simp at hp hv; subst hp; subst hv; exact ez
            | j + 1 => rw [hi] at hp; simp at hp
        have hnsh : ∀ born, ShapeOk true ks.length ({ key := .agg vs.toArray, val := a.eval z, born := born } : MapEntry).key ∧ ShapeOk false 1 ({ key := .agg vs.toArray, val := a.eval z, born := born } : MapEntry).val := fun born =>
          ⟨by unfold ShapeOk; simp only [if_true]; exact ⟨vs, rfl, by rw [hyl, g3]⟩, by unfold ShapeOk; simp only [Bool.false_eq_true, if_false]; exact ⟨trivial, hzone⟩⟩
        have hnone : ∀ born, ∀ u ∈ entCells { key := .agg vs.toArray, val := a.eval z, born := born }, u.oneCell' = true := by
          intro born u hu2
          unfold entCells at hu2
          rw [one_cells hzone] at hu2
          rcases List.mem_append.1 hu2 with h | h
          · exact hyone u h
          · simp at h; subst h; exact hzone
        have hnl : (cs ++ [evP σ.t z]).length = ks.length + 1 := by simp [g3]
        have hncell : ∀ p ∈ cs ++ [evP σ.t z], p.cell = true := by
          intro p hp
          rcases List.mem_append.1 hp with h | h
          · exact valsOf_cell hkv p h
          · simp at h; subst h; exact g4
        have hones : ∀ x ∈ xs.toList, ∀ u ∈ entCells x, u.oneCell' = true := fun x hx u hu2 => hone u (by rw [hcur]; exact List.mem_flatMap.2 ⟨x, hx, hu2⟩)
        -- the end, from the entries behind it
        have fin : ∀ (xs' : List MapEntry) (clock' : Nat), xs'.length = (putR es (cs ++ [evP σ.t z]) r).length → (∀ e ∈ putR es (cs ++ [evP σ.t z]) r, e.length = ks.length + 1) → (∀ e ∈ putR es (cs ++ [evP σ.t z]) r, ∀ p ∈ e, p.cell = true) → (∀ x ∈ xs', ShapeOk true ks.length x.key ∧ ShapeOk false 1 x.val) →
            (∀ x ∈ xs', ∀ u ∈ entCells x, u.oneCell' = true) → (∀ (j : Nat) e x, (putR es (cs ++ [evP σ.t z]) r)[j]? = some e → xs'[j]? = some x → CRel E.rd E.β e x) →
            (execOp a.eval o).run P E.w = .ok .skip { E.w with heap := E.w.heap.setIfInBounds b (.map xs'.toArray clock') } → o.wp P a E.w K Q := by
          intro xs' clock' f1 f2 f3 f4 f5 f6 hrun
          obtain ⟨w2, hw2⟩ : ∃ w2 : World, w2 = { E.w with heap := E.w.heap.setIfInBounds b (.map xs'.toArray clock') } := ⟨_, rfl⟩
          have hset := hs.setO (pb := mapRow ks es) hh hβ rfl g5 w2 (fun j hj => by rw [hw2]; exact setBlk_other E.w b j _ hj) (by rw [hw2]; simp) (by rw [hw2]) (by rw [hw2]) (by rw [hw2]) (xs'.flatMap entCells).toArray (putR es (cs ++ [evP σ.t z]) r)
            (.inr ⟨rfl, ks.length, 1, true, false, xs'.toArray, clock', rfl, rfl, by rw [hw2]; simp [hblt], by simpa using f1, by simp, by simpa using f4⟩) f2 f3
            (fun j p hp => by
              obtain ⟨v, hv, hvr⟩ := cells_of_rel _ xs' f1 f6 j p hp
              exact ⟨v, by simpa using hv, hvr⟩)
            (fun v hv => by
              obtain ⟨x, hx, hvx⟩ := List.mem_flatMap.1 (by simpa using hv)
              exact f5 x hx v hvx)
          unfold Oper.wp
          rw [hrun, ← hw2]
          exact hK undef { E with w := w2 } ((hset.2.put o.dst (dstOk_lt hd) (.any undef)).fr_mono fun j hj => hj.1)
        cases r with
        | none =>
          have hrun : (execOp a.eval o).run P E.w = .ok .skip { E.w with heap := E.w.heap.setIfInBounds b (.map (xs.toList ++ [({ key := .agg vs.toArray, val := a.eval z, born := clock } : MapEntry)]).toArray (clock + 1)) } := by
            have e1 : (xs.toList ++ [({ key := .agg vs.toArray, val := a.eval z, born := clock } : MapEntry)]).toArray = xs.push { key := .agg vs.toArray, val := a.eval z, born := clock } := by
              apply Array.ext'; simp
            rw [e1]
            simp only [execOp, ho, hv, hyv, Instr.mapUpdate, Sem.run_bind, run_underlying hu, Result.andThen_ok, MapKept.run_getObj_map hb, hck, hf, Option.bind_none, MapKept.run_setObj_map _ hb, Sem.run_pure]
          exact fin _ _ (by simpa [putR] using hl) (fun e he => by
            rcases List.mem_append.1 he with h | h
            · exact hel e h
            · simp at h; subst h; exact hnl) (fun e he => by
            rcases List.mem_append.1 he with h | h
            · exact hcl e h
            · simp at h; subst h; exact hncell) (fun x hx => by
            rcases List.mem_append.1 hx with h | h
            · exact hsh x h
            · simp at h; subst h; exact hnsh clock) (fun x hx => by
            rcases List.mem_append.1 hx with h | h
            · exact hones x h
            · simp at h; subst h; exact hnone clock) (fun j e x h1 h2 => by
            unfold putR at h1
            rw [List.getElem?_append] at h1 h2
            rw [hl] at h2
            split at h1
            · rename_i hlt
              rw [if_pos hlt] at h2
              exact hrel j e x h1 h2
            · rename_i hlt
              rw [if_neg hlt] at h2
              match hi : j - es.length with
              | 0 => rw [hi] at h1 h2; simp at h1 h2; subst h1; subst h2; exact hnew clock
              | i + 1 => rw [hi] at h1; simp at h1) hrun
        | some j =>
          have hjl : j < es.length := findM_lt hr
          have hjx : j < xs.toList.length := by omega
          obtain ⟨y, hy1⟩ : ∃ y, xs.toList[j]? = some y := ⟨xs.toList[j], List.getElem?_eq_getElem hjx⟩
          obtain ⟨ej, ev, q1, q2, q3⟩ := findM_eqv hr
          obtain ⟨cs', c1, c2, _, c4, c5, _⟩ := hent j ej y q1 hy1
          have := valsOf_vr _ ev cs' q2 (by rw [c2, c5]) c4
          subst this
          have hsame : Instr.sameBits 10000 y.key (.agg vs.toArray) = true := by
            rw [c1]
            show Instr.sameBits (9999 + 1) _ _ = true
            have hlen := eqvL_len _ _ _ _ q3
            simp only [Instr.sameBits, Bool.and_eq_true, List.all_eq_true]
            refine ⟨by simp [hlen.1, hlen.2], fun p hp => ?_⟩
            have hsw : ∀ (ks : List LK) (xs ys : List Value), LK.str ∉ ks → eqvL ks xs ys = some true → eqvL ks ys xs = some true := by
              intro ks
              induction ks with
              | nil => intro xs ys _ h; cases xs <;> cases ys <;> simp_all [eqvL]
              | cons k ks ih =>
                intro xs ys hns h
                simp only [List.mem_cons, not_or] at hns
                cases xs <;> cases ys <;> simp only [eqvL, reduceCtorEq] at h ⊢
                split at h
                · rename_i a b h1 h2
                  simp only [Option.some.injEq, Bool.and_eq_true] at h
                  obtain ⟨rfl, rfl⟩ := h
                  rw [ih _ _ hns.2 h2]
                  have : ∀ u v : Value, k.eqv u v = some true → k.eqv v u = some true := by
                    intro u v huv
                    unfold LK.eqv at huv
                    split at huv
                    · simp at huv; simp [LK.eqv, huv]
                    · split at huv
                      · rename_i hkk; simp at huv; simp [LK.eqv, huv, hkk]
                      · cases huv
                    · exact absurd rfl hns.1
                    · cases huv
                  rw [this _ _ h1]; rfl
                · cases h
            exact eqvL_same ks _ _ (hsw ks _ _ hns q3) p hp
          have hrun : (execOp a.eval o).run P E.w = .ok .skip { E.w with heap := E.w.heap.setIfInBounds b (.map (xs.toList.set j { key := .agg vs.toArray, val := a.eval z, born := y.born }).toArray clock) } := by
            have e1 : (xs.toList.set j { key := .agg vs.toArray, val := a.eval z, born := y.born }).toArray = xs.modify j fun e => { e with key := .agg vs.toArray, val := a.eval z } := by
              apply Array.ext'
              apply List.ext_getElem?
              intro i
              rw [Array.toList_modify, List.getElem?_modify, List.getElem?_set]
              split
              · rename_i hij
                subst hij
                rw [hy1]
                simp [hjx]
              · simp
            rw [e1]
            have hxj : xs[j]? = some y := by simpa using hy1
            simp only [execOp, ho, hv, hyv, Instr.mapUpdate, Sem.run_bind, run_underlying hu, Result.andThen_ok, MapKept.run_getObj_map hb, hck, hf, Option.bind_some, hy1, Option.map_some, hxj, Option.getD_some, Instr.keyThatStays, hsame, if_true, MapKept.run_setObj_map _ hb, Sem.run_pure]
          exact fin _ _ (by simpa [putR] using hl) (fun e he => by
            rcases List.mem_or_eq_of_mem_set he with h | h
            · exact hel e h
            · rw [h]; exact hnl) (fun e he => by
            rcases List.mem_or_eq_of_mem_set he with h | h
            · exact hcl e h
            · rw [h]; exact hncell) (fun x hx => by
            rcases List.mem_or_eq_of_mem_set hx with h | h
            · exact hsh x h
            · rw [h]; exact hnsh y.born) (fun x hx => by
            rcases List.mem_or_eq_of_mem_set hx with h | h
            · exact hones x h
            · rw [h]; exact hnone y.born) (fun i e x h1 h2 => by
            unfold putR at h1
            rw [List.getElem?_set] at h1 h2
            by_cases hij : j = i
            · rw [if_pos hij] at h1
              rw [if_pos hij] at h2
              rw [if_pos hjx] at h2
              rw [if_pos hjl] at h1
              cases h1; cases h2; exact hnew y.born
            · rw [if_neg hij] at h1 h2
              exact hrel i e x h1 h2) hrun
      · exact h.elim
    · exact h.elim
  · exact h.elim

end sound
end Go.PM
