/- The pure machine, part 6: indexes, arithmetic, lengths. -/
import Derived.Test.YtmljpbhmdjpbaaaPm5
import Derived.WalkSpells
namespace Go.PM
set_option linter.unusedVariables false
set_option linter.unusedSimpArgs false
section sound
variable {P : Program} {C : Cx} {o : Oper} {nid : Nat} {σ : Core}

theorem vr_int {rd : Rd} {β : Bt} {k : IntKind} {n : Int} {v : Value} (h : VR rd β (.d (.val (.int k n))) v) : v = .int k n := vr_val h

theorem run_indexAt_slice {t e : TypeId} {ti : TI} (ht : tSl P t = some (e, ti)) (w : World) (b off len cap : Nat) (k : IntKind) (j : Int) (h0 : 0 ≤ j) (h1 : j < (len : Int)) :
    (Instr.indexAt t (.slice (some ⟨b, off, none⟩) len cap) (.int k j)).run P w = .ok (.pointer (some ⟨b, off + j.toNat * ti.sz, none⟩)) w := by
  obtain ⟨hu, hi⟩ := tSl_spec ht
  simp only [Instr.indexAt, asIntOf, Sem.run_bind, Sem.run_pure, Result.andThen_ok, run_underlying hu, Sem.run_ite, run_sz hi, if_pos (And.intro h0 h1), addr_add]

theorem run_indexAt_array {t : TypeId} {n : Nat} {ti : TI} (ht : tAr P t = some (n, ti)) (w : World) (b off : Nat) (k : IntKind) (j : Int) (h0 : 0 ≤ j) (h1 : j < (n : Int)) :
    (Instr.indexAt t (.pointer (some ⟨b, off, none⟩)) (.int k j)).run P w = .ok (.pointer (some ⟨b, off + j.toNat * ti.sz, none⟩)) w := by
  obtain ⟨e, hu, hi⟩ := tAr_spec ht
  simp only [Instr.indexAt, asIntOf, Sem.run_bind, Sem.run_pure, Result.andThen_ok, run_underlying hu, Instr.sureAddr, Sem.run_ite, run_sz hi, if_pos (And.intro h0 h1), addr_add]

theorem dr_imm {rd : Rd} {es : List (List DV)} {v : Value} (h : DR rd (.imm es) v) (hne : 0 < es.flatten.length) : ∃ (b off cap sz : Nat) (vs : List Value) (cur : Array Value), v = .slice (some ⟨b, off, none⟩) es.length cap ∧ es.length ≤ cap ∧ (∀ e ∈ es, e.length = sz) ∧ vs.length = es.flatten.length ∧
    rd b = some cur ∧ (∀ (j : Nat) v, vs[j]? = some v → cur[off + j]? = some v) ∧ (∀ (j : Nat) d v, es.flatten[j]? = some d → vs[j]? = some v → DR rd d v) := by
  cases h with
  | nil => simp at hne
  | nilA a cap => simp at hne
  | imm _ b off cap sz vs hcap hsz hlen hcell hel =>
    rcases hcell with h | ⟨cur, h1, h2⟩
    · subst h
      rw [← hlen] at hne
      simp at hne
    · exact ⟨b, off, cap, sz, vs, cur, rfl, hcap, hsz, hlen, h1, h2, hel⟩

theorem flatten_pos {α : Type} {es : List (List α)} {i : Nat} (h : i < es.length) (hn : (es.getD i []).length ≠ 0) : 0 < es.flatten.length := by
  have he := List.mem_of_getElem? (getD_of (d := []) h)
  rcases Nat.eq_zero_or_pos es.flatten.length with h0 | h0
  · have h1 : es.flatten = [] := List.eq_nil_of_length_eq_zero h0
    have h2 := List.flatten_eq_nil_iff.1 h1 _ he
    rw [h2] at hn
    simp at hn
  · exact h0

theorem ok_indexAddr {T : TypeId} {x y : Operand} (ho : o.op = .indexAddr T x y) (hd : dstOk C o = true) (hx : opndOk x = true) (hy : opndOk y = true) (h : (stIndexAddr (tSl P T) (tAr P T) (evP σ.t x) (evP σ.t y)).1) :
    OpOK P C o nid σ (stIndexAddr (tSl P T) (tAr P T) (evP σ.t x) (evP σ.t y)).2 := by
  unfold stIndexAddr at h ⊢
  split at h
  · rename_i e ti id sz off len k j hsl hp hq
    obtain ⟨h1, h2, h3⟩ := h
    refine .value hd fun E0 fr a E hs => ?_
    have ex := hs.eval x hx
    have ey := hs.eval y hy
    rw [hp] at ex
    rw [hq] at ey
    have ey := vr_int ey
    generalize hax : a.eval x = vx at ex
    cases ex with
    | ownNil => exact absurd h3 (by simp; omega)
    | own _ _ _ cap b _ tot ad hβ hl ht ha =>
      have hcap : cap ≠ 0 := by omega
      subst ha
      have := VR.ptr (rd := E.rd) (β := E.β) id (off + j.toNat) 0 b sz tot hβ
      rw [Nat.add_zero, Nat.add_mul] at this
      have hr := run_indexAt_slice hsl E.w b (off * sz) len cap k j h2 h3
      rw [← h1] at hr
      exact ⟨_, by simp only [execOp, ho, ey, hax, Sem.run_bind, hr, Result.andThen_ok, Sem.run_pure], this⟩
  · rename_i e ti es k j hsl hp hq
    obtain ⟨h1, h2, h3, h4⟩ := h
    refine .value hd fun E0 fr a E hs => ?_
    have ex := hs.eval x hx
    have ey := hs.eval y hy
    rw [hp] at ex
    rw [hq] at ey
    have ey := vr_int ey
    have hjl : j.toNat < es.length := by omega
    generalize hex : a.eval x = vx at ex
    cases ex with
    | d _ _ hdr =>
      obtain ⟨b, off, cap, sz, vs, cur, hv, hcap, hsz, hvl, hb, hvc, hvr⟩ := dr_imm hdr (flatten_pos hjl (by rw [h3]; exact h4))
      have hej := getD_of (d := []) hjl
      have hsz2 : sz = ti.sz := by rw [← hsz _ (List.mem_of_getElem? hej), h3]
      subst hsz2
      subst hv
      refine ⟨.pointer (some ⟨b, off + j.toNat * ti.sz, none⟩), by simp only [execOp, ho, ey, hex, Sem.run_bind, run_indexAt_slice hsl E.w b off es.length cap k j h1 h2, Result.andThen_ok, Sem.run_pure], ?_⟩
      have hfl := flatten_len es ti.sz hsz
      have hle : j.toNat * ti.sz + ti.sz ≤ es.length * ti.sz := by
        have := Nat.mul_le_mul_right ti.sz (show j.toNat + 1 ≤ es.length from hjl)
        rw [Nat.succ_mul] at this
        exact this
      refine .pim _ b _ cur ((vs.drop (j.toNat * ti.sz)).take ti.sz) (by rw [List.length_take, List.length_drop, hvl, hfl, h3]; omega) hb (fun i v hi => ?_) (fun i d v hi hv => ?_)
      · rw [List.getElem?_take] at hi
        split at hi
        · rw [List.getElem?_drop] at hi
          rw [Nat.add_assoc]
          exact hvc _ v hi
        · cases hi
      · rw [List.getElem?_take] at hv
        split at hv
        · rename_i hit
          rw [List.getElem?_drop] at hv
          exact hvr _ d v ((flatten_at es ti.sz j.toNat i _ hsz hej hit).trans hi) hv
        · cases hv
  · rename_i n ti id i oo k j hsl har hp hq
    obtain ⟨h1, h2⟩ := h
    refine .value hd fun E0 fr a E hs => ?_
    have ex := hs.eval x hx
    have ey := hs.eval y hy
    rw [hp] at ex
    rw [hq] at ey
    have ey := vr_int ey
    obtain ⟨b, sz, tot, hβ, hv⟩ := vr_ptr ex
    have hr := run_indexAt_array har E.w b (i * sz + oo) k j h1 h2
    rw [Nat.add_assoc] at hr
    exact ⟨_, by simp only [execOp, ho, ey, hv, Sem.run_bind, hr, Result.andThen_ok, Sem.run_pure], .ptr _ _ _ b sz tot hβ⟩
  · rename_i n ti cs k j hsl har hp hq
    obtain ⟨h1, h2⟩ := h
    refine .value hd fun E0 fr a E hs => ?_
    have ex := hs.eval x hx
    have ey := hs.eval y hy
    rw [hp] at ex
    rw [hq] at ey
    have ey := vr_int ey
    obtain ⟨b, off, cur, vs, hv, hvl, hb, hvc, hvr⟩ := vr_pim ex
    refine ⟨_, by simp only [execOp, ho, ey, hv, Sem.run_bind, run_indexAt_array har E.w b off k j h1 h2, Result.andThen_ok, Sem.run_pure], .pim _ b (off + j.toNat * ti.sz) cur (vs.drop (j.toNat * ti.sz)) (by simp [hvl]) hb (fun i v hi => ?_) (fun i d v hi hv => ?_)⟩
    · rw [List.getElem?_drop] at hi
      rw [Nat.add_assoc]; exact hvc _ v hi
    · rw [List.getElem?_drop] at hi hv
      exact hvr _ d v hi hv
  · exact h.elim

theorem ok_index {T : TypeId} {x y : Operand} (ho : o.op = .index T x y) (hd : dstOk C o = true) (hx : opndOk x = true) (hy : opndOk y = true) (hstr : tAr P T = none → P.underlying T = some .string) (h : (stIndex (tAr P T) (evP σ.t x) (evP σ.t y)).1) :
    OpOK P C o nid σ (stIndex (tAr P T) (evP σ.t x) (evP σ.t y)).2 := by
  unfold stIndex at h ⊢
  split at h
  · rename_i n ti cs k j har hp hq
    obtain ⟨h1, h2, h3, h4⟩ := h
    refine .value hd fun E0 fr a E hs => ?_
    have ex := hs.eval x hx
    have ey := hs.eval y hy
    rw [hp] at ex
    rw [hq] at ey
    have ey := vr_int ey
    obtain ⟨vs, hv, hvl, hone, hvr⟩ := vr_agg ex
    obtain ⟨e, hu, hi⟩ := tAr_spec har
    exact ⟨_, by simp only [execOp, ho, ey, hv, Instr.index, asIntOf, Sem.run_bind, Sem.run_pure, Result.andThen_ok, run_underlying hu, Sem.run_ite, if_pos (And.intro h1 h2), run_sz hi, run_part hi E.w vs (j.toNat * ti.sz) (by omega) h4], vr_part hvl h3 h4 hone hvr⟩
  · rename_i s k j har hp hq
    obtain ⟨h1, h2⟩ := h
    refine .value hd fun E0 fr a E hs => ?_
    have ex := hs.eval x hx
    have ey := hs.eval y hy
    rw [hp] at ex
    rw [hq] at ey
    have ey := vr_int ey
    have ex := vr_val ex
    have hu := hstr har
    have hlt : j.toNat < s.size := by omega
    obtain ⟨c, hg⟩ : ∃ c, s[j.toNat]? = some c := ⟨s[j.toNat], by simp [hlt]⟩
    refine ⟨.int .u8 ((s[j.toNat]?).getD 0).toNat, ?_, .d _ _ (.val _ rfl)⟩
    simp only [execOp, ho, ey, ex, Instr.index, asIntOf, Sem.run_bind, Sem.run_pure, Result.andThen_ok, run_underlying hu, if_pos h1, hg, Option.getD_some]
  · exact h.elim

end sound
end Go.PM
