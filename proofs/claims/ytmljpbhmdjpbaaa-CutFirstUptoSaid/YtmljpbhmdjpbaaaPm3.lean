/- The pure machine, part 3: what one operation does (its value, the rows that it looks at, the rows that it changes), and that the model does the same. -/
import Derived.Test.YtmljpbhmdjpbaaaPm2
import Derived.Laws.Entries
namespace Go.PM
set_option linter.unusedVariables false
set_option linter.unusedSimpArgs false

/-! ### The tables of the program, in short -/
structure TI where
  sz : Nat
  bytes : Nat
  agg : Bool
  zero : List Value

def isAggD : TypeDesc → Bool
  | .struct _ | .array _ _ => true
  | _ => false

def tI (P : Program) (t : TypeId) : Option TI :=
  match P.info? t, P.underlying t with
  | some i, some d => match i.zero with
    | some z => some ⟨i.size, i.bytes, isAggD d, z.cells.toList⟩
    | none => none
  | _, _ => none
def tSl (P : Program) (t : TypeId) : Option (TypeId × TI) :=
  match P.underlying t with
  | some (.slice e) => (tI P e).map (e, ·)
  | _ => none
def tAr (P : Program) (t : TypeId) : Option (Nat × TI) :=
  match P.underlying t with
  | some (.array n e) => (tI P e).map (n, ·)
  | _ => none
def tFs (P : Program) : List Field → Option (List (Nat × TI))
  | [] => some []
  | f :: r => match tI P f.type, tFs P r with
    | some ti, some l => some ((f.offset, ti) :: l)
    | _, _ => none
def tSt (P : Program) (t : TypeId) : Option (List (Nat × TI)) :=
  match P.underlying t with
  | some (.struct fs) => tFs P fs.toList
  | _ => none

theorem tI_info {P : Program} {t : TypeId} {x : TI} (h : tI P t = some x) : ∃ i d z, P.info? t = some i ∧ P.underlying t = some d ∧ i.zero = some z ∧ i.size = x.sz ∧ i.bytes = x.bytes ∧ isAggD d = x.agg ∧ z.cells.toList = x.zero := by
  unfold tI at h
  split at h
  · rename_i i d hi hd
    split at h
    · rename_i z hz
      cases h
      exact ⟨i, d, z, hi, hd, hz, rfl, rfl, rfl, rfl⟩
    · cases h
  · cases h
theorem tSl_spec {P : Program} {t e : TypeId} {x : TI} (h : tSl P t = some (e, x)) : P.underlying t = some (.slice e) ∧ tI P e = some x := by
  unfold tSl at h
  split at h
  · rename_i e' he
    cases hx : tI P e' with
    | none => rw [hx] at h; cases h
    | some y => rw [hx] at h; cases h; exact ⟨he, hx⟩
  · cases h
theorem tAr_spec {P : Program} {t : TypeId} {n : Nat} {x : TI} (h : tAr P t = some (n, x)) : ∃ e, P.underlying t = some (.array n e) ∧ tI P e = some x := by
  unfold tAr at h
  split at h
  · rename_i n' e' he
    cases hx : tI P e' with
    | none => rw [hx] at h; cases h
    | some y => rw [hx] at h; cases h; exact ⟨e', he, hx⟩
  · cases h
theorem tFs_spec {P : Program} : ∀ (fs : List Field) (l : List (Nat × TI)), tFs P fs = some l → l.length = fs.length ∧ ∀ (k : Nat) f, fs[k]? = some f → ∃ ti, l[k]? = some (f.offset, ti) ∧ tI P f.type = some ti
  | [], l, h => by cases h; exact ⟨rfl, by simp⟩
  | f :: r, l, h => by
    unfold tFs at h
    split at h
    · rename_i ti l' h1 h2
      cases h
      obtain ⟨hl, hr⟩ := tFs_spec r l' h2
      refine ⟨by simp [hl], fun k g hk => ?_⟩
      cases k with
      | zero => simp at hk; subst hk; exact ⟨ti, rfl, h1⟩
      | succ k => simpa using hr k g (by simpa using hk)
    · cases h
theorem tSt_spec {P : Program} {t : TypeId} {l : List (Nat × TI)} (h : tSt P t = some l) : ∃ fs : Array Field, P.underlying t = some (.struct fs) ∧ l.length = fs.size ∧ ∀ (k : Nat) f, fs[k]? = some f → ∃ ti, l[k]? = some (f.offset, ti) ∧ tI P f.type = some ti := by
  unfold tSt at h
  split at h
  · rename_i fs hfs
    obtain ⟨h1, h2⟩ := tFs_spec _ _ h
    exact ⟨fs, hfs, by simpa using h1, fun k f hk => h2 k f (by simpa using hk)⟩
  · cases h

section runs
variable {P : Program} {t : TypeId} {x : TI}
theorem run_sz (h : tI P t = some x) (w : World) : (sizeOf t).run P w = .ok x.sz w := by
  obtain ⟨i, d, z, h1, _, _, h4, _⟩ := tI_info h
  simp [sizeOf, typeInfo, h1, h4]
theorem run_agg (h : tI P t = some x) (w : World) : (isAgg t).run P w = .ok x.agg w := by
  obtain ⟨i, d, z, h1, h2, _, _, _, h5, _⟩ := tI_info h
  unfold isAgg
  simp only [Sem.run_bind, run_underlying h2, Result.andThen_ok]
  rw [← h5]
  cases d <;> rfl
theorem run_zero (h : tI P t = some x) (w : World) : ∃ z : Value, (zeroValue t).run P w = .ok z w ∧ z.cells.toList = x.zero := by
  obtain ⟨i, d, z, h1, h2, h3, _, _, _, h6⟩ := tI_info h
  exact ⟨z, by simp [zeroValue, typeInfo, h1, h3], h6⟩
end runs

/-! ### Operands -/
def cellC (v : Value) : PV := if v.oneCell' then .d (.val v) else .any
def constP : Value → PV
  | .agg cs => .agg (cs.toList.map cellC)
  | v => cellC v
def evP (t : Nat → PV) : Operand → PV
  | .tmp k => t k
  | .const v => constP v
  | .func f => .fn (.func f) [] []
  | .global _ => .any

theorem vr_cellC (rd : Rd) (β : Bt) (v : Value) : VR rd β (cellC v) v := by
  unfold cellC
  split
  · rename_i h; exact .d _ _ (.val v h)
  · exact .any v
theorem vr_constP (rd : Rd) (β : Bt) (v : Value) (hagg : ∀ cs, v = .agg cs → ∀ c ∈ cs.toList, c.oneCell' = true) : VR rd β (constP v) v := by
  unfold constP
  split
  · rename_i cs
    have := VR.agg (rd := rd) (β := β) (cs.toList.map cellC) cs.toList (by simp) (hagg cs rfl) (fun j p v hp hv => by
      rw [List.getElem?_map, hv] at hp
      cases hp
      exact vr_cellC rd β v)
    simpa using this
  · exact vr_cellC rd β v

def opndOk : Operand → Bool
  | .const (.agg cs) => cs.toList.all (·.oneCell')
  | _ => true

theorem SatF.eval {E0 : Env} {C : Cx} {fr : Nat → Prop} {σ : Core} {a : Act} {E : Env} (hs : SatF E0 C fr σ a E) (x : Operand) (hx : opndOk x = true) : E.vr (evP σ.t x) (a.eval x) := by
  cases x with
  | tmp k =>
    show E.vr (σ.t k) (a.tmps.getD k undef)
    by_cases hk : k < a.tmps.size
    · have : a.tmps[k]? = some a.tmps[k] := by simp [hk]
      have h := hs.slots k _ this
      simpa [Array.getD, hk] using h
    · rw [hs.hi k (by rw [← hs.size]; exact Nat.le_of_not_lt hk)]
      exact .any _
  | const v =>
    refine vr_constP _ _ v (fun cs e => ?_)
    subst e
    exact List.all_eq_true.1 hx
  | global g => exact .any _
  | func f =>
    exact .fn (.func f) [] [] [] [] rfl rfl (by simp) (by simp)

/-! ### Effects -/
structure Eff where
  v : PV
  foot : List Nat := []
  up : List (Nat × Option PB) := []

def happ (h : Hp) : List (Nat × Option PB) → Hp
  | [] => h
  | (k, x) :: r => happ (hup h k x) r
def Core.app (σ : Core) (dst : Option Tmp) (ε : Eff) : Core := Core.put ⟨σ.t, happ σ.h ε.up⟩ dst ε.v

/-- The operation does this, in every state that fits. -/
def OpOK (P : Program) (C : Cx) (o : Oper) (nid : Nat) (σ : Core) (ε : Eff) : Prop :=
  ∀ (E0 : Env) (fr : Nat → Prop) (a : Act) (E : Env), SatF E0 C fr σ a E → (∀ k, k < 4 → fr (nid + k)) → ∀ (K : Act → World → Prop) (Q : Exit → Act → World → Prop),
    (∀ (v : Value) (E' : Env), SatF E0 C (fun j => fr j ∧ ¬ (nid ≤ j ∧ j < nid + 4)) (σ.app o.dst ε) (a.put o.dst v) E' → K (a.put o.dst v) E'.w) → o.wp P a E.w K Q

def dstOk (C : Cx) (o : Oper) : Bool := match o.dst with | some d => decide (d < C.nt) | none => true

theorem dstOk_lt {C : Cx} {o : Oper} (h : dstOk C o = true) : ∀ d : Nat, o.dst = some d → d < C.nt := by
  intro d hd
  simpa [dstOk, hd] using h

/-- An operation that only yields a value. -/
theorem OpOK.value {P : Program} {C : Cx} {o : Oper} {nid : Nat} {σ : Core} {p : PV} {foot : List Nat} (hd : dstOk C o = true)
    (h : ∀ (E0 : Env) (fr : Nat → Prop) (a : Act) (E : Env), SatF E0 C fr σ a E → ∃ v, (execOp a.eval o).run P E.w = .ok (.value v) E.w ∧ E.vr p v) : OpOK P C o nid σ ⟨p, foot, []⟩ := by
  intro E0 fr a E hs hfr K Q hK
  obtain ⟨v, hr, hv⟩ := h E0 fr a E hs
  unfold Oper.wp
  rw [hr]
  exact hK v E ((hs.put o.dst (dstOk_lt hd) hv).fr_mono fun j hj => hj.1)

/-- What is left after a new block has been laid. -/
theorem OpOK.newBlock {P : Program} {C : Cx} {o : Oper} {nid : Nat} {σ : Core} {p : PV} {foot : List Nat} {pb : PB} (hd : dstOk C o = true)
    (h : ∀ (E0 : Env) (fr : Nat → Prop) (a : Act) (E : Env), SatF E0 C fr σ a E → ∃ v w1 cells tot, (execOp a.eval o).run P E.w = .ok (.value v) (w1.alloc (.cells cells pb.ty)) ∧ Drawn E.w w1 ∧
      cells.size = tot * pb.sz ∧ (∀ e ∈ pb.es, e.length = pb.sz) ∧ (∀ e ∈ pb.es, ∀ p ∈ e, p.cell = true) ∧ pb.es.length ≤ tot ∧ tot ≤ maxLen ∧ CellsAt E.rd E.β pb.es.flatten cells ∧ (∀ v ∈ cells.toList, v.oneCell' = true) ∧
      (∀ E' : Env, Ext [] E E' → E'.β nid = some ⟨some E.w.heap.size, pb.sz, tot⟩ → E'.vr p v)) : OpOK P C o nid σ ⟨p, foot, [(nid, some pb)]⟩ := by
  intro E0 fr a E hs hfr K Q hK
  obtain ⟨v, w1, cells, tot, hr, hdr, h1, h2, h3, h4, h5, h6, h7, h8⟩ := h E0 fr a E hs
  obtain ⟨E', hw, hβ, hx, hs'⟩ := hs.alloc nid (hfr 0 (by omega)) w1 hdr cells pb tot h1 h2 h3 h4 h5 h6 h7
  unfold Oper.wp
  rw [hr, ← hw]
  refine hK v E' ((hs'.put o.dst (dstOk_lt hd) (h8 E' hx hβ)).fr_mono fun j hj => ⟨hj.1, fun e => hj.2 ?_⟩)
  omega

end Go.PM
