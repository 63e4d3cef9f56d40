/- The pure machine: copy. -/
import Derived.Test.YtmljpbhmdjpbaaaPm12
namespace Go.PM
set_option linter.unusedVariables false
set_option linter.unusedSimpArgs false

def stCopy (C : Cx) (sl : Option (TypeId × TI)) (h : Hp) (p q : PV) : Out := match sl with
  | some (e, ti) => match elemsOf h q with
    | some new => match p with
      | .own id sz off len => match h id with
        | some pb => (pb.ty < 1000000000 ∧ off + len ≤ pb.es.length ∧ sz = ti.sz ∧ pb.sz = ti.sz ∧ pb.ty = e ∧ (id ∈ C.T ∨ C.n0 ≤ id) ∧ new.length ≤ len ∧ (∀ c ∈ new, c.length = ti.sz) ∧ new.length = lenP q,
            ⟨.d (.val (.int .i64 (new.length : Int))), id :: footOf q, [(id, some { pb with es := pb.es.take off ++ new ++ pb.es.drop (off + new.length) })]⟩)
        | none => nope
      | _ => nope
    | none => nope
  | none => nope

theorem hup_self {h : Hp} {id : Nat} {x : Option PB} (e : h id = x) : hup h id x = h := by
  funext j
  unfold hup
  split
  · rename_i hj; rw [hj, e]
  · rfl

section sound
variable {P : Program} {C : Cx} {o : Oper} {nid : Nat} {σ : Core}

theorem run_copy_at {T T' e : TypeId} {i : TypeInfo} (hu : P.underlying T = some (.slice e)) (hi : P.info? e = some i) (ty : TypeId) (b k dLen dCap : Nat) (cur : Array Value) (w : World) (hg : w.heap[b]? = some (.cells cur e (0, 0)))
    (src : Value) (m : Nat) (news : List Value) (hsrc : (src = .slice none 0 0 ∧ news = [] ∧ m = 0) ∨ ∃ ad c, src = .slice (some ad) m c ∧ ∀ (j : Nat) u, news[j]? = some u → w.cell? (ad.add j) = some u)
    (hm : m ≤ dLen) (hl : news.length = m * i.size) (h1 : ∀ u ∈ news, u.oneCell' = true) (hfit : k + news.length ≤ cur.size) :
    (Builtin.copy_ #[T, T'] ty #[.slice (some ⟨b, k, none⟩) dLen dCap, src]).run P w = .ok (.int .i64 (m : Int)) (w.setRow b (cur.toList.take k ++ news ++ cur.toList.drop (k + news.length)).toArray) := by
  have hst := run_storeCells_at P b k e news 0 cur w hg (by simpa using hfit) h1
  simp only [Nat.add_zero] at hst
  rcases hsrc with ⟨rfl, rfl, rfl⟩ | ⟨ad, c, rfl, hn⟩
  · simp only [List.length_nil, Nat.add_zero, List.append_nil, List.take_append_drop, Array.toArray_toList] at hst ⊢
    simp [Builtin.copy_, run_underlying hu, Builtin.lenOf, sizeOf, typeInfo, hi, Builtin.firstCells, hst, goInt]
  · have hf := run_firstCells_some (P := P) w i.size m ad m c news hl hn
    have hmin : Nat.min m dLen = m := Nat.min_eq_left hm
    simp [Builtin.copy_, run_underlying hu, Builtin.lenOf, sizeOf, typeInfo, hi, hmin, hf, hst, goInt]

theorem ok_copy {T T' : TypeId} {x y : Operand} (ho : o.op = .call { callee := .builtin .copy, args := #[x, y], argTypes := #[T, T'] }) (hd : dstOk C o = true) (hx : opndOk x = true) (hy : opndOk y = true) (h : (stCopy C (tSl P T) σ.h (evP σ.t x) (evP σ.t y)).1) :
    OpOK P C o nid σ (stCopy C (tSl P T) σ.h (evP σ.t x) (evP σ.t y)).2 := by
  unfold stCopy at h ⊢
  split at h
  · rename_i e ti hsl
    obtain ⟨hu, hti⟩ := tSl_spec hsl
    split at h
    · rename_i new hnew
      obtain ⟨i, d, z, hi, _, hz, hisz, hby, _, hzc⟩ := tI_info hti
      split at h
      · rename_i id sz off len hp
        split at h
        · rename_i pb hh
          simp only [hh]
          obtain ⟨g0, g1, g2, g3, g4, g5, g6, g7, g8⟩ := h
          subst g2
          subst g4
          intro E0 fr a E hs hfr K Q hK
          have ex := hs.eval x hx
          have ey := hs.eval y hy
          rw [hp] at ex
          have hsrc := src_cases hs (sz := ti.sz) ey hnew g7 g8
          obtain ⟨l, hl, hrow⟩ := hs.ok.heap.row id pb hh
          generalize hax : a.eval x = vx at ex
          have run : ∀ (v : Value) (w' : World), (Builtin.copy_ #[T, T'] o.type #[a.eval x, a.eval y]).run P E.w = .ok v w' → (execOp a.eval o).run P E.w = .ok (.value v) w' := by
            intro v w' hr
            simp only [execOp, ho, resolve, Sem.run_bind, Sem.run_pure, Result.andThen_ok, invoke, builtin, List.map_toArray, List.map_cons, List.map_nil, hr]
          cases ex with
          | ownNil _ _ hβ =>
            rw [hβ] at hl; cases hl
            have hes := (hrow.nl rfl).1
            have hn0 : new = [] := List.eq_nil_of_length_eq_zero (by omega)
            subst hn0
            have hr : (Builtin.copy_ #[T, T'] o.type #[a.eval x, a.eval y]).run P E.w = .ok (.int .i64 ((([] : List (List PV)).length : Nat) : Int)) E.w := by
              rw [hax]
              rcases hsrc with ⟨hv, _⟩ | ⟨ad, c, news, hv, _⟩ <;> rw [hv]
              · simp [Builtin.copy_, run_underlying hu, Builtin.lenOf, sizeOf, typeInfo, hi, Builtin.firstCells, goInt]
              · simp [Builtin.copy_, run_underlying hu, Builtin.lenOf, sizeOf, typeInfo, hi, Builtin.firstCells, goInt, loadCells, loadCellsFrom]
            unfold Oper.wp
            rw [run _ _ hr]
            refine hK _ E ?_
            have := hs.put (p := .d (.val (.int .i64 ((([] : List (List PV)).length : Nat) : Int)))) (v := .int .i64 ((([] : List (List PV)).length : Nat) : Int)) o.dst (dstOk_lt hd) (vr_mk _ _ _ rfl)
            have h2 : (σ.app o.dst ⟨.d (.val (.int .i64 ((([] : List (List PV)).length : Nat) : Int))), id :: footOf (evP σ.t y), [(id, some { pb with es := pb.es.take 0 ++ [] ++ pb.es.drop (0 + ([] : List (List PV)).length) })]⟩) = σ.put o.dst (.d (.val (.int .i64 ((([] : List (List PV)).length : Nat) : Int)))) := by
              simp only [Core.app, List.take_zero, List.nil_append, List.length_nil, Nat.add_zero, List.drop_zero]
              rw [show happ σ.h [(id, some ({ ty := pb.ty, sz := pb.sz, es := pb.es } : PB))] = σ.h from hup_self hh]
            rw [h2]
            exact this.fr_mono fun j hj => hj.1
          | own _ _ _ cap b _ tot ad hβ hlc ht ha =>
            rw [hβ] at hl; cases hl
            obtain ⟨hIb, cur, hcS, hcell, hone⟩ := hrow.blk b rfl
            obtain ⟨hc, hcs, htot, htm⟩ := hcS.cells g0
            have hfl := flatten_len pb.es pb.sz hrow.el
            have hnf := flatten_len new ti.sz g7
            have hsum : off * ti.sz + new.length * ti.sz ≤ pb.es.length * ti.sz := by
              rw [← Nat.add_mul]; exact Nat.mul_le_mul_right _ (by omega)
            have hcsz : pb.es.length * ti.sz ≤ cur.size := by rw [hcs, g3]; exact Nat.mul_le_mul_right _ htot
            obtain ⟨news, n1, n3, n4, n5, hrs⟩ : ∃ news : List Value, news.length = new.flatten.length ∧ (∀ (j : Nat) p u, new.flatten[j]? = some p → news[j]? = some u → E.vr p u) ∧ (∀ u ∈ news, u.oneCell' = true) ∧ (∀ c ∈ new, ∀ p ∈ c, p.cell = true) ∧
                ((a.eval y = .slice none 0 0 ∧ news = [] ∧ new.length = 0) ∨ ∃ ad c, a.eval y = .slice (some ad) new.length c ∧ ∀ (j : Nat) u, news[j]? = some u → E.w.cell? (ad.add j) = some u) := by
              rcases hsrc with ⟨hv, h0⟩ | ⟨ad, c, news, hv, n1, n2, n3, n4, n5⟩
              · subst h0
                exact ⟨[], rfl, by simp, by simp, by simp, .inl ⟨hv, rfl, rfl⟩⟩
              · exact ⟨news, n1, n3, n4, n5, .inr ⟨ad, c, hv, n2⟩⟩
            have hr := run_copy_at (P := P) (T' := T') hu hi o.type b (off * ti.sz) len cap cur E.w hc (a.eval y) new.length news hrs g6 (by rw [n1, hnf, hisz]) n4 (by rw [n1, hnf]; omega)
            rw [show (⟨b, off * ti.sz, none⟩ : Addr) = ad from ha.symm, ← hax] at hr
            have hfp : (pb.es.take off ++ new ++ pb.es.drop (off + new.length)).flatten = putAt pb.es.flatten (off * ti.sz) new.flatten := by
              unfold putAt
              have e1 : pb.es.flatten = (pb.es.take off).flatten ++ (pb.es.drop off).flatten := by rw [← List.flatten_append, List.take_append_drop]
              have e2 : pb.es.flatten = (pb.es.take (off + new.length)).flatten ++ (pb.es.drop (off + new.length)).flatten := by rw [← List.flatten_append, List.take_append_drop]
              have l1 : (pb.es.take off).flatten.length = off * ti.sz := by
                rw [flatten_len _ ti.sz (fun c hc => by rw [← g3]; exact hrow.el c (List.mem_of_mem_take hc))]; simp; rw [Nat.min_eq_left (by omega)]
              have l2 : (pb.es.take (off + new.length)).flatten.length = off * ti.sz + new.flatten.length := by
                rw [flatten_len _ ti.sz (fun c hc => by rw [← g3]; exact hrow.el c (List.mem_of_mem_take hc)), hnf, ← Nat.add_mul]; simp; rw [Nat.min_eq_left (by omega)]
              have t1 : pb.es.flatten.take (off * ti.sz) = (pb.es.take off).flatten := by
                conv => lhs; rw [e1]
                rw [← l1, List.take_left]
              have t2 : pb.es.flatten.drop (off * ti.sz + new.flatten.length) = (pb.es.drop (off + new.length)).flatten := by
                conv => lhs; rw [e2]
                rw [← l2, List.drop_left]
              rw [t1, t2, List.flatten_append, List.flatten_append]
            have hset := hs.setRow hh hβ rfl hc g5 (cur.toList.take (off * ti.sz) ++ news ++ cur.toList.drop (off * ti.sz + news.length)).toArray (pb.es.take off ++ new ++ pb.es.drop (off + new.length))
              (by simp only [List.size_toArray, List.length_append, List.length_take, List.length_drop, Array.length_toList, n1, hnf]; omega)
              (fun c hc => by
                rcases List.mem_append.1 hc with h | h
                · rcases List.mem_append.1 h with h | h
                  · exact hrow.el c (List.mem_of_mem_take h)
                  · rw [g3]; exact g7 c h
                · exact hrow.el c (List.mem_of_mem_drop h))
              (fun c hc => by
                rcases List.mem_append.1 hc with h | h
                · rcases List.mem_append.1 h with h | h
                  · exact hrow.cell c (List.mem_of_mem_take h)
                  · exact n5 c h
                · exact hrow.cell c (List.mem_of_mem_drop h))
              (by
                simp only [List.length_append, List.length_take, List.length_drop]
                have : pb.es.length ≤ tot := htot
                show _ ≤ tot
                omega)
              (by
                rw [hfp]
                exact cellsAt_put hcell n1 (by rw [hnf, hfl, g3]; omega) (by rw [hfl, g3]; exact hcsz) n3)
              (fun v hv => by
                simp only [List.mem_append] at hv
                rcases hv with (hv | hv) | hv
                · exact hone v (List.mem_of_mem_take hv)
                · exact n4 v hv
                · exact hone v (List.mem_of_mem_drop hv))
            unfold Oper.wp
            rw [run _ _ hr]
            exact hK _ _ ((hset.2.put o.dst (dstOk_lt hd) (vr_mk _ _ _ rfl)).fr_mono fun j hj => hj.1)
        · exact h.elim
      · exact h.elim
    · exact h.elim
  · exact h.elim
end sound
end Go.PM
