/- The pure machine, part 10: make, slice expressions, append. -/
import Derived.Test.YtmljpbhmdjpbaaaPm9
namespace Go.PM
set_option linter.unusedVariables false
set_option linter.unusedSimpArgs false
section sound
variable {P : Program} {C : Cx} {o : Oper} {nid : Nat} {σ : Core}

theorem flatten_replicate_get {α : Type} (l : List α) (n j : Nat) (hl : l ≠ []) (h : j < n * l.length) : (List.replicate n l).flatten[j]? = l[j % l.length]? := by
  have hp : 0 < l.length := List.length_pos_iff.2 hl
  have hi : j / l.length < n := Nat.div_lt_of_lt_mul (by rw [Nat.mul_comm]; exact h)
  have := flatten_at (List.replicate n l) l.length (j / l.length) (j % l.length) l (fun e he => by rw [(List.mem_replicate.1 he).2]) (by rw [List.getElem?_replicate, if_pos hi]) (Nat.mod_lt _ hp)
  rw [← this, Nat.mul_comm, Nat.div_add_mod]

theorem ok_makeSlice {T : TypeId} {x y : Operand} (ho : o.op = .makeSlice T x y) (hd : dstOk C o = true) (hx : opndOk x = true) (hy : opndOk y = true) (h : (stMakeSlice (tSl P T) (evP σ.t x) (evP σ.t y) nid).1) :
    OpOK P C o nid σ (stMakeSlice (tSl P T) (evP σ.t x) (evP σ.t y) nid).2 := by
  unfold stMakeSlice at h ⊢
  split at h
  · rename_i e ti hsl
    split at h
    · rename_i kl l kc c hp hq
      obtain ⟨h1, h2, h3, h3', h4, h5, h6⟩ := h
      obtain ⟨hu, hti⟩ := tSl_spec hsl
      obtain ⟨i, d, z, hi, _, hz, hsz, hby, _, hzc⟩ := tI_info hti
      refine .newBlock hd fun E0 fr a E hs => ?_
      have ex := hs.eval x hx
      have ey := hs.eval y hy
      rw [hp] at ex
      rw [hq] at ey
      have ex := vr_val ex
      have ey := vr_val ey
      obtain ⟨z1, z2, z3⟩ := zP_cells (rd := E.rd) (β := E.β) hzc h6
      have hzs : z.cells.size = ti.sz := by rw [← Array.length_toList, hzc, h4]
      have hr := run_make (P := P) E.w T e i z hu hi hz kl kc l c h1 h2 (by rw [hby]; omega) (by omega)
      rw [hsz] at hr
      have hzl : (zP ti).length = ti.sz := by rw [z2, hzs]
      have hpos : 0 < ti.sz := Nat.pos_of_ne_zero h5
      refine ⟨.slice (some ⟨E.w.heap.size, 0, none⟩) l.toNat c.toNat, E.w, madeCells z.cells (c.toNat * ti.sz), c.toNat, ?_, .refl _, size_madeCells _ _, ?_, ?_, ?_, ?_, ?_, ?_, ?_⟩
      · simp only [execOp, ho, ex, ey, Sem.run_bind, hr, Result.andThen_ok, Sem.run_pure]
      · intro el hel; rw [(List.mem_replicate.1 hel).2]; exact hzl
      · intro el hel p hp
        rw [(List.mem_replicate.1 hel).2] at hp
        simp [zP] at hp
        obtain ⟨v, _, rfl⟩ := hp
        rfl
      · simp; omega
      · unfold maxLen; omega
      · intro j p hp
        have hlt : j < l.toNat * ti.sz := by
          have := (List.getElem?_eq_some_iff.1 hp).1
          rw [flatten_len _ ti.sz (fun el hel => by rw [(List.mem_replicate.1 hel).2]; exact hzl)] at this
          simpa using this
        rw [flatten_replicate_get _ _ _ (by intro e; rw [e] at hzl; simp at hzl; omega) (by rw [hzl]; exact hlt), hzl] at hp
        obtain ⟨v, hv, hvr⟩ := z1 _ p hp
        refine ⟨v, ?_, hvr⟩
        have hlt2 : j < c.toNat * ti.sz := Nat.lt_of_lt_of_le hlt (Nat.mul_le_mul_right _ (by omega))
        have hm : j % z.cells.size < z.cells.size := Nat.mod_lt _ (by rw [hzs]; exact hpos)
        simp only [madeCells, Array.getElem?_map, Array.getElem?_range, if_pos hlt2, Option.map_some]
        rw [← hzs] at hv
        congr 1
        have hg : z.cells[j % z.cells.size]! = z.cells[j % z.cells.size] := by simp [hm]
        rw [hg]
        rw [Array.getElem?_eq_getElem hm] at hv
        exact Option.some.inj hv
      · intro v hv
        simp only [madeCells, Array.toList_map, List.mem_map] at hv
        obtain ⟨j, _, rfl⟩ := hv
        have hm : j % z.cells.size < z.cells.size := Nat.mod_lt _ (by rw [hzs]; exact hpos)
        have hg : z.cells[j % z.cells.size]! = z.cells[j % z.cells.size] := by simp [hm]
        rw [hg]
        exact z3 _ (by simp)
      · intro E' _ hβ
        have := VR.own (rd := E'.rd) (β := E'.β) nid 0 l.toNat c.toNat E.w.heap.size ti.sz c.toNat ⟨E.w.heap.size, 0, none⟩ hβ (by omega) (by omega) (by simp)
        exact this
    · exact h.elim
  · exact h.elim

theorem dr_imm_slice {rd : Rd} {es : List (List DV)} {v : Value} (h : DR rd (.imm es) v) : ∃ (ad : Option Addr) (cap : Nat), v = .slice ad es.length cap ∧ es.length ≤ cap := by
  cases h with
  | nil => exact ⟨none, 0, rfl, Nat.le_refl _⟩
  | nilA a cap => exact ⟨some a, cap, rfl, Nat.zero_le _⟩
  | imm _ b off cap sz vs hcap => exact ⟨_, cap, rfl, hcap⟩

/-- A part of an immutable slice. -/
theorem dr_cut {rd : Rd} {es : List (List DV)} {ad : Option Addr} {cap l h size : Nat} (hdr : DR rd (.imm es) (.slice ad es.length cap)) (hl : l ≤ h) (hh : h ≤ es.length) (hsz : ∀ e ∈ es, e.length = size) :
    DR rd (.imm ((es.take h).drop l)) (.slice (if cap = l then ad else ad.map (·.add (l * size))) (h - l) (cap - l)) := by
  have hlen : ((es.take h).drop l).length = h - l := by simp; omega
  generalize hv : Value.slice ad es.length cap = v at hdr
  cases hdr with
  | nil =>
    cases hv
    have : h = 0 := by simpa using hh
    subst this
    have : l = 0 := by omega
    subst this
    simpa using DR.nil (rd := rd)
  | nilA a cap' =>
    injection hv with e1 e2 e3
    subst e1
    subst e3
    have h0 : h = 0 := by simpa using hh
    subst h0
    have l0 : l = 0 := by omega
    subst l0
    by_cases hc : cap = 0
    · rw [if_pos hc]; simpa using DR.nilA (rd := rd) a cap
    · rw [if_neg hc]; simpa using DR.nilA (rd := rd) (a.add (0 * size)) cap
  | imm _ b off cap' sz vs hcap hsz' hvl hcell hel =>
    injection hv with e1 e2 e3
    subst e1
    subst e3
    by_cases hlh : l = h
    · subst hlh
      have he : (es.take l).drop l = [] := List.eq_nil_of_length_eq_zero (by rw [hlen]; omega)
      rw [he, Nat.sub_self]
      by_cases hc : cap = l
      · rw [if_pos hc]
        exact .imm [] b off (cap - l) sz [] (by simp) (by simp) (by simp) (.inl rfl) (by simp)
      · rw [if_neg hc]
        simp only [Option.map_some, addr_add]
        exact .imm [] b (off + l * size) (cap - l) sz [] (by simp) (by simp) (by simp) (.inl rfl) (by simp)
    · have hc : cap ≠ l := by omega
      rw [if_neg hc]
      simp only [Option.map_some, addr_add]
      have hne : es ≠ [] := by intro e; subst e; simp at hh; omega
      obtain ⟨e0, r0, rfl⟩ := List.exists_cons_of_ne_nil hne
      have hss : sz = size := by rw [← hsz' e0 (by simp), hsz e0 (by simp)]
      subst hss
      generalize hes : e0 :: r0 = es at *
      have hfl := flatten_len es sz hsz'
      have e1 : (es.take h).flatten = es.flatten.take (h * sz) := by
        rw [← List.take_append_drop h es, List.flatten_append]
        have hl1 : (es.take h).flatten.length = h * sz := by
          rw [flatten_len _ sz (fun e he => hsz' e (List.mem_of_mem_take he))]
          simp; rw [Nat.min_eq_left hh]
        rw [List.take_append_drop, ← hl1, List.take_left]
      have e2 : ((es.take h).drop l).flatten = (es.flatten.take (h * sz)).drop (l * sz) := by
        rw [← e1]
        conv => rhs; rw [← List.take_append_drop l (es.take h), List.flatten_append]
        have hl1 : ((es.take h).take l).flatten.length = l * sz := by
          rw [flatten_len _ sz (fun e he => hsz' e (List.mem_of_mem_take (List.mem_of_mem_take he)))]
          simp; rw [Nat.min_eq_left (by omega)]
        rw [← hl1, List.drop_left]
      have hlen2 : h * sz ≤ es.length * sz := Nat.mul_le_mul_right _ hh
      rw [← hlen]
      refine .imm _ b (off + l * sz) (cap - l) sz ((vs.take (h * sz)).drop (l * sz)) (by rw [hlen]; omega) (fun e he => hsz' e (List.mem_of_mem_take (List.mem_of_mem_drop he))) ?_ ?_ ?_
      · rw [e2]; simp [hvl]
      · rcases hcell with h0 | ⟨cur, h1, h2⟩
        · exact .inl (by simp [h0])
        · refine .inr ⟨cur, h1, fun j v hj => ?_⟩
          rw [List.getElem?_drop, List.getElem?_take] at hj
          split at hj
          · rw [Nat.add_assoc]; exact h2 _ v hj
          · cases hj
      · intro j d v hd hv
        rw [e2, List.getElem?_drop, List.getElem?_take] at hd
        rw [List.getElem?_drop, List.getElem?_take] at hv
        split at hd
        · rename_i hlt
          rw [if_pos hlt] at hv
          exact hel _ d v hd hv
        · cases hd

theorem run_sliceBound (v : Int) (k : IntKind) (y : Nat) (c : BoundsCode) (w : World) (h0 : 0 ≤ v) (h1 : v ≤ (y : Int)) : (Instr.sliceBound (.int k v) y c).run P w = .ok v.toNat w := by
  simp [Instr.sliceBound, asIntOf, h0, h1]

/-- The bounds of a slice expression, as the machine takes them. -/
def cutOf (len : Nat) : Option PV → Option PV → Option (Nat × Nat)
  | none, none => some (0, len)
  | none, some (.d (.val (.int _ h))) => if 0 ≤ h ∧ h ≤ (len : Int) then some (0, h.toNat) else none
  | some (.d (.val (.int _ l))), none => if 0 ≤ l ∧ l ≤ (len : Int) then some (l.toNat, len) else none
  | some (.d (.val (.int _ l))), some (.d (.val (.int _ h))) => if 0 ≤ l ∧ l ≤ h ∧ h ≤ (len : Int) then some (l.toNat, h.toNat) else none
  | _, _ => none

theorem run_bounds {E0 : Env} {fr : Nat → Prop} {a : Act} {E : Env} (hs : SatF E0 C fr σ a E) (isS : Bool) (lo hi : Option Operand) (hlo : ∀ x, lo = some x → opndOk x = true) (hhi : ∀ x, hi = some x → opndOk x = true) (len cap l h : Nat) (hlc : len ≤ cap)
    (hc : cutOf len (lo.map (evP σ.t)) (hi.map (evP σ.t)) = some (l, h)) : (Instr.sliceBounds isS len cap (lo.map a.eval) (hi.map a.eval) none).run P E.w = .ok (l, h, cap) E.w ∧ l ≤ h ∧ h ≤ len := by
  have val : ∀ x, opndOk x = true → ∀ k n, evP σ.t x = .d (.val (.int k n)) → a.eval x = .int k n := by
    intro x hx k n he
    have := hs.eval x hx
    rw [he] at this
    exact vr_val this
  unfold cutOf at hc
  cases lo with
  | none =>
    cases hi with
    | none =>
      simp only [Option.map_none] at hc ⊢
      cases hc
      simp [Instr.sliceBounds]
    | some y =>
      simp only [Option.map_none, Option.map_some] at hc ⊢
      split at hc
      · rename_i heq; cases heq
      · rename_i k n e1 e2
        injection e2 with e2
        have := val y (hhi y rfl) k n e2
        split at hc
        · rename_i hb
          cases hc
          refine ⟨?_, Nat.zero_le _, by omega⟩
          cases isS <;> simp [Instr.sliceBounds, this, run_sliceBound (P := P) n k cap _ E.w hb.1 (by omega)]
        · cases hc
      · rename_i e1 _; cases e1
      · rename_i e1 _; cases e1
      · cases hc
  | some x =>
    cases hi with
    | none =>
      simp only [Option.map_none, Option.map_some] at hc ⊢
      split at hc
      · rename_i e1 _; cases e1
      · rename_i e1 _; cases e1
      · rename_i k n e1 e2
        injection e1 with e1
        have := val x (hlo x rfl) k n e1
        split at hc
        · rename_i hb
          cases hc
          refine ⟨?_, by omega, Nat.le_refl _⟩
          cases isS <;> simp [Instr.sliceBounds, this, run_sliceBound (P := P) n k len _ E.w hb.1 (by omega)]
        · cases hc
      · rename_i e1 e2; cases e2
      · cases hc
    | some y =>
      simp only [Option.map_some] at hc ⊢
      split at hc
      · rename_i e1 _; cases e1
      · rename_i e1 _; cases e1
      · rename_i e1 e2; cases e2
      · rename_i k n k' m e1 e2
        injection e1 with e1
        injection e2 with e2
        have t1 := val x (hlo x rfl) k n e1
        have t2 := val y (hhi y rfl) k' m e2
        split at hc
        · rename_i hb
          cases hc
          refine ⟨?_, by omega, by omega⟩
          cases isS <;> simp [Instr.sliceBounds, t1, t2, run_sliceBound (P := P) m k' cap _ E.w (by omega) (by omega), run_sliceBound (P := P) n k m.toNat _ E.w hb.1 (by omega)]
        · cases hc
      · cases hc

def stSlice2 (sl : Option (TypeId × TI)) (ut : Option TypeDesc) (p : PV) (lo hi : Option PV) : Out := match sl, p with
  | some (_, _), .own id sz off len => match cutOf len lo hi with
    | some (l, h) => (l = 0, ⟨.own id sz off h, [], []⟩)
    | none => nope
  | some (_, ti), .d (.imm es) => match cutOf es.length lo hi with
    | some (l, h) => ((∀ e ∈ es, e.length = ti.sz), ⟨.d (.imm ((es.take h).drop l)), [], []⟩)
    | none => nope
  | none, .d (.val (.string s)) => match cutOf s.size lo hi with
    | some (l, h) => (ut = some .string, ⟨.d (.val (.string (s.extract l h))), [], []⟩)
    | none => nope
  | _, _ => nope

theorem ok_slice {T : TypeId} {x : Operand} {lo hi : Option Operand} (ho : o.op = .slice T x lo hi none) (hd : dstOk C o = true) (hx : opndOk x = true) (hlo : ∀ x, lo = some x → opndOk x = true) (hhi : ∀ x, hi = some x → opndOk x = true)
    (h : (stSlice2 (tSl P T) (P.underlying T) (evP σ.t x) (lo.map (evP σ.t)) (hi.map (evP σ.t))).1) : OpOK P C o nid σ (stSlice2 (tSl P T) (P.underlying T) (evP σ.t x) (lo.map (evP σ.t)) (hi.map (evP σ.t))).2 := by
  unfold stSlice2 at h ⊢
  split at h
  · rename_i e ti id sz off len hsl hp
    obtain ⟨hu, hti⟩ := tSl_spec hsl
    split at h
    · rename_i l hh hc
      simp only at h
      subst h
      refine .value hd fun E0 fr a E hs => ?_
      have ex := hs.eval x hx
      rw [hp] at ex
      generalize hax : a.eval x = vx at ex
      cases ex with
      | own _ _ _ cap b _ tot ad hβ hl ht ha =>
        obtain ⟨hr, h1, h2⟩ := run_bounds (P := P) hs true lo hi hlo hhi len cap 0 hh hl hc
        refine ⟨.slice (some ad) hh cap, ?_, .own _ _ _ cap b sz tot ad hβ (by omega) ht ha⟩
        simp only [execOp, ho, Instr.sliceAt, Sem.run_bind, run_underlying hu, Result.andThen_ok, hax, Instr.slice, Option.map_none, hr, run_sz hti, Sem.run_pure]
        by_cases hc0 : cap = 0
        · simp [hc0]
        · simp [hc0, Addr.add]
      | ownNil =>
        obtain ⟨hr, h1, h2⟩ := run_bounds (P := P) hs true lo hi hlo hhi 0 0 0 hh (Nat.le_refl _) hc
        have : hh = 0 := by omega
        subst this
        refine ⟨.slice none 0 0, ?_, .ownNil _ _ (by assumption)⟩
        simp [execOp, ho, Instr.sliceAt, run_underlying hu, hax, Instr.slice, hr, run_sz hti]
    · exact h.elim
  · rename_i e ti es hsl hp
    obtain ⟨hu, hti⟩ := tSl_spec hsl
    split at h
    · rename_i l hh hc
      refine .value hd fun E0 fr a E hs => ?_
      have ex := hs.eval x hx
      rw [hp] at ex
      generalize hax : a.eval x = vx at ex
      cases ex with
      | d _ _ hdr =>
        obtain ⟨ad, cap, hv, hcap⟩ := dr_imm_slice hdr
        subst hv
        obtain ⟨hr, h1, h2⟩ := run_bounds (P := P) hs true lo hi hlo hhi es.length cap l hh hcap hc
        refine ⟨_, ?_, .d _ _ (dr_cut hdr h1 h2 h)⟩
        simp only [execOp, ho, Instr.sliceAt, Sem.run_bind, run_underlying hu, Result.andThen_ok, hax, Instr.slice, Option.map_none, hr, run_sz hti, Sem.run_pure]
    · exact h.elim
  · rename_i s hsl hp
    split at h
    · rename_i l hh hc
      refine .value hd fun E0 fr a E hs => ?_
      have ex := hs.eval x hx
      rw [hp] at ex
      have ex := vr_val ex
      obtain ⟨hr, h1, h2⟩ := run_bounds (P := P) hs false lo hi hlo hhi s.size s.size l hh (Nat.le_refl _) hc
      refine ⟨.string (s.extract l hh), ?_, vr_mk _ _ _ rfl⟩
      have hu : P.underlying T = some .string := h
      simp only [execOp, ho, Instr.sliceAt, Sem.run_bind, run_underlying hu, Result.andThen_ok, ex, Instr.slice, Option.map_none, Option.isSome_none, Bool.false_eq_true, if_false, hr, Sem.run_pure]
    · exact h.elim
  · exact h.elim

end sound
end Go.PM
