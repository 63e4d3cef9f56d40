/- The pure machine, part 2: the state of an activation, and how it goes on when a block is made, when a row is written, when a slot is set. -/
import Derived.Test.YtmljpbhmdjpbaaaPm1
namespace Go.PM
set_option linter.unusedVariables false
set_option linter.unusedSimpArgs false

structure Core where
  t : Nat → PV
  h : Hp

/-- 'n0': the rows from here on are the activation's own; 'T': the older ones that it may write. -/
structure Cx where
  n0 : Nat
  T : List Nat
  nt : Nat

def upd (t : Nat → PV) (k : Nat) (p : PV) : Nat → PV := fun j => if j = k then p else t j
def hup (h : Hp) (k : Nat) (x : Option PB) : Hp := fun j => if j = k then x else h j
def Core.put (σ : Core) (dst : Option Tmp) (p : PV) : Core := match dst with | some d => { σ with t := upd σ.t d p } | none => σ

structure SatF (E0 : Env) (C : Cx) (fr : Nat → Prop) (σ : Core) (a : Act) (E : Env) : Prop where
  ok : OkE E σ.h fr
  n0 : ∀ id, C.n0 ≤ id → E0.β id = none
  ext : Ext C.T E0 E
  slots : ∀ (k : Nat) v, a.tmps[k]? = some v → E.vr (σ.t k) v
  defers : a.defers = []
  size : a.tmps.size = C.nt
  hi : ∀ k, C.nt ≤ k → σ.t k = .any

theorem HRel.lt {I : Nat → Bool} {β : Bt} {h : Hp} {w : World} (hr : HRel I β h w) {id : Nat} {pb : PB} {l : Loc} {b : Nat} (hh : h id = some pb) (hl : β id = some l) (hb : l.b = some b) : b < w.heap.size := by
  obtain ⟨l', hl', hrow⟩ := hr.row id pb hh
  rw [hl] at hl'; cases hl'
  obtain ⟨_, cur, hc, _⟩ := hrow.blk b hb
  obtain ⟨_, hc⟩ := hc.some
  exact (Array.getElem?_eq_some_iff.1 hc).1

theorem SatF.put {E0 : Env} {C : Cx} {fr : Nat → Prop} {σ : Core} {a : Act} {E : Env} (hs : SatF E0 C fr σ a E) (dst : Option Tmp) (hd : ∀ d : Nat, dst = some d → d < C.nt) {p : PV} {v : Value} (hv : E.vr p v) : SatF E0 C fr (σ.put dst p) (a.put dst v) E := by
  cases dst with
  | none => exact hs
  | some d =>
    refine ⟨hs.ok, hs.n0, hs.ext, ?_, hs.defers, by simpa [Act.put] using hs.size, fun k hk => ?_⟩
    rotate_left
    · have := hd d rfl
      simp only [Core.put, upd]
      rw [if_neg (show ¬ k = d from fun e => absurd this (Nat.not_lt.mpr (e ▸ hk)))]
      exact hs.hi k hk
    intro k u hk
    simp only [Core.put, upd]
    simp only [Act.put, Array.getElem?_setIfInBounds] at hk
    split at hk
    · rename_i hdk
      subst hdk
      rw [if_pos rfl]
      split at hk
      · cases hk; exact hv
      · cases hk
    · rename_i hdk
      rw [if_neg (fun h => hdk h.symm)]
      exact hs.slots k u hk

theorem SatF.fr_mono {E0 : Env} {C : Cx} {fr fr' : Nat → Prop} {σ : Core} {a : Act} {E : Env} (hs : SatF E0 C fr σ a E) (h : ∀ id, fr' id → fr id) : SatF E0 C fr' σ a E :=
  ⟨⟨hs.ok.heap, fun id hid => hs.ok.fresh id (h id hid), hs.ok.ibound⟩, hs.n0, hs.ext, hs.slots, hs.defers, hs.size, hs.hi⟩

theorem RowAt.mono {E E' : Env} {T : List Nat} (hx : Ext T E E') {pb : PB} {l : Loc} (h : RowAt E.rd E.β E.I E.w pb l) (hI : ∀ b, l.b = some b → E'.I b = false) (hb : ∀ b, l.b = some b → E'.w.heap[b]? = E.w.heap[b]?) :
    RowAt E'.rd E'.β E'.I E'.w pb l where
  sz := h.sz
  el := h.el
  cell := h.cell
  nl := h.nl
  blk b hlb := by
    obtain ⟨h1, cur, h2, h6, h7⟩ := h.blk b hlb
    exact ⟨hI b hlb, cur, by rw [hb b hlb]; exact h2, h6.mono hx.rd hx.β, h7⟩

/-- The world has only drawn. -/
structure Drawn (w w' : World) : Prop where
  heap : w'.heap = w.heap
  os : w'.os = w.os
  tape : w'.tape = w.tape
  output : w'.output = w.output

theorem Drawn.refl (w : World) : Drawn w w := ⟨rfl, rfl, rfl, rfl⟩
theorem Drawn.drew (w : World) : Drawn w w.drew := ⟨rfl, rfl, rfl, rfl⟩

theorem Ext.drawn {E : Env} {w' : World} (hd : Drawn E.w w') : Ext [] E { E with w := w' } where
  i _ h := h
  β _ _ h := h
  new id l b h h' _ := by rw [h] at h'; cases h'
  newI _ h := .inl h
  os := hd.os
  tape := hd.tape
  output := hd.output
  size := by show E.w.heap.size ≤ w'.heap.size; rw [hd.heap]; exact Nat.le_refl _
  block k _ _ := by show w'.heap[k]? = _; rw [hd.heap]
  imm b _ := by show w'.heap[b]? = _; rw [hd.heap]

theorem SatF.drawn {E0 : Env} {C : Cx} {fr : Nat → Prop} {σ : Core} {a : Act} {E : Env} (hs : SatF E0 C fr σ a E) {w' : World} (hd : Drawn E.w w') : SatF E0 C fr σ a { E with w := w' } := by
  have hx := Ext.drawn (E := E) hd
  refine ⟨⟨⟨?_, hs.ok.heap.inj⟩, hs.ok.fresh, fun b hb => ?_⟩, hs.n0, hs.ext.trans hx (by simp), fun k v hk => hx.vr (hs.slots k v hk), hs.defers, hs.size, hs.hi⟩
  · intro id pb hh
    obtain ⟨l, hl, hrow⟩ := hs.ok.heap.row id pb hh
    refine ⟨l, hl, RowAt.mono (E := E) (E' := { E with w := w' }) hx hrow (fun b hb => (hrow.blk b hb).1) (fun b _ => ?_)⟩
    show w'.heap[b]? = _
    rw [hd.heap]
  · show b < w'.heap.size
    rw [hd.heap]; exact hs.ok.ibound b hb

/-- Rows may be dropped. -/
theorem SatF.drop {E0 : Env} {C : Cx} {fr : Nat → Prop} {σ : Core} {a : Act} {E : Env} (hs : SatF E0 C fr σ a E) (h' : Hp) (hsub : ∀ id pb, h' id = some pb → σ.h id = some pb) : SatF E0 C fr { σ with h := h' } a E :=
  ⟨⟨⟨fun id pb hh => hs.ok.heap.row id pb (hsub _ _ hh), fun id id' pb pb' l l' b h1 h2 => hs.ok.heap.inj id id' pb pb' l l' b (hsub _ _ h1) (hsub _ _ h2)⟩, hs.ok.fresh, hs.ok.ibound⟩, hs.n0, hs.ext, hs.slots, hs.defers, hs.size, hs.hi⟩

/-- A new block under a new name. -/
theorem SatF.allocO {E0 : Env} {C : Cx} {fr : Nat → Prop} {σ : Core} {a : Act} {E : Env} (hs : SatF E0 C fr σ a E) (id : Nat) (hid : fr id) (w1 : World) (hd : Drawn E.w w1) (obj : Obj) (cells : Array Value) (pb : PB) (tot : Nat)
    (hsee : Sees (some obj) pb ⟨some E.w.heap.size, pb.sz, tot⟩ cells) (hel : ∀ e ∈ pb.es, e.length = pb.sz) (hcl : ∀ e ∈ pb.es, ∀ p ∈ e, p.cell = true) (hc : CellsAt E.rd E.β pb.es.flatten cells) (h1 : ∀ v ∈ cells.toList, v.oneCell' = true) :
    ∃ E' : Env, E'.w = w1.alloc obj ∧ E'.β id = some ⟨some E.w.heap.size, pb.sz, tot⟩ ∧ Ext [] E E' ∧ SatF E0 C (fun j => fr j ∧ j ≠ id) { σ with h := hup σ.h id (some pb) } a E' := by
  have hβid : E.β id = none := hs.ok.fresh id hid
  let E' : Env := { I := E.I, β := fun j => if j = id then some ⟨some E.w.heap.size, pb.sz, tot⟩ else E.β j, w := w1.alloc obj }
  have hsz1 : w1.heap.size = E.w.heap.size := by rw [hd.heap]
  have hold : ∀ k, k < E.w.heap.size → E'.w.heap[k]? = E.w.heap[k]? := by
    intro k hk
    show (w1.alloc _).heap[k]? = _
    rw [heap_alloc_old w1 _ k (by rw [hsz1]; exact hk), hd.heap]
  have hnew : E'.w.heap[E.w.heap.size]? = some obj := by
    have := heap_alloc_new w1 obj
    rw [hsz1] at this
    exact this
  have hx : Ext [] E E' := {
    i := fun _ h => h
    β := fun j l hj => by
      show (if j = id then _ else _) = _
      rw [if_neg (fun e => by subst e; rw [hβid] at hj; cases hj)]; exact hj
    new := fun j l b hj hn hb => by
      have hj' : (if j = id then some (⟨some E.w.heap.size, pb.sz, tot⟩ : Loc) else E.β j) = some l := hj
      split at hj'
      · cases hj'; cases hb; exact .inl (Nat.le_refl _)
      · rw [hn] at hj'; cases hj'
    newI := fun _ h => .inl h
    os := hd.os
    tape := hd.tape
    output := hd.output
    size := by show _ ≤ (w1.alloc _).heap.size; rw [World.size_alloc, hsz1]; omega
    block := fun k hk _ => hold k hk
    imm := fun b hb => hold b (hs.ok.ibound b hb) }
  refine ⟨E', rfl, by show (if id = id then _ else _) = _; rw [if_pos rfl], hx, ?_⟩
  refine ⟨⟨⟨?_, ?_⟩, ?_, ?_⟩, hs.n0, hs.ext.trans hx (by simp), fun k v hk => hx.vr (hs.slots k v hk), hs.defers, hs.size, hs.hi⟩
  · intro j pbj hj
    have hj' : (if j = id then some pb else σ.h j) = some pbj := hj
    split at hj'
    · rename_i hji
      subst hji
      cases hj'
      refine ⟨⟨some E.w.heap.size, pb.sz, tot⟩, by show (if j = j then _ else _) = _; rw [if_pos rfl], ⟨rfl, hel, hcl, fun h => (by cases h), ?_⟩⟩
      intro b hb
      cases hb
      refine ⟨?_, cells, by rw [hnew]; exact hsee, hc.mono hx.rd hx.β, h1⟩
      cases hI : E'.I E.w.heap.size with
      | false => rfl
      | true => exact absurd (hs.ok.ibound _ hI) (Nat.lt_irrefl _)
    · rename_i hji
      obtain ⟨l, hl, hrow⟩ := hs.ok.heap.row j pbj hj'
      refine ⟨l, hx.β j l hl, RowAt.mono (E := E) (E' := E') hx hrow (fun b hb => (hrow.blk b hb).1) (fun b hb => hold b (hs.ok.heap.lt hj' hl hb))⟩
  · intro j j' pbj pbj' l l' b hj hj' hl hl' hb hb'
    have hj1 : (if j = id then some pb else σ.h j) = some pbj := hj
    have hj2 : (if j' = id then some pb else σ.h j') = some pbj' := hj'
    have hl1 : (if j = id then some (⟨some E.w.heap.size, pb.sz, tot⟩ : Loc) else E.β j) = some l := hl
    have hl2 : (if j' = id then some (⟨some E.w.heap.size, pb.sz, tot⟩ : Loc) else E.β j') = some l' := hl'
    by_cases e1 : j = id <;> by_cases e2 : j' = id
    · rw [e1, e2]
    · rw [if_pos e1] at hl1
      rw [if_neg e2] at hj2 hl2
      cases hl1; cases hb
      exact absurd (hs.ok.heap.lt hj2 hl2 hb') (Nat.lt_irrefl _)
    · rw [if_neg e1] at hj1 hl1
      rw [if_pos e2] at hl2
      cases hl2; cases hb'
      exact absurd (hs.ok.heap.lt hj1 hl1 hb) (Nat.lt_irrefl _)
    · rw [if_neg e1] at hj1 hl1
      rw [if_neg e2] at hj2 hl2
      exact hs.ok.heap.inj j j' pbj pbj' l l' b hj1 hj2 hl1 hl2 hb hb'
  · intro j ⟨hj, hne⟩
    show (if j = id then _ else _) = _
    rw [if_neg hne]; exact hs.ok.fresh j hj
  · intro b hb
    exact Nat.lt_of_lt_of_le (hs.ok.ibound b hb) hx.size

theorem SatF.alloc {E0 : Env} {C : Cx} {fr : Nat → Prop} {σ : Core} {a : Act} {E : Env} (hs : SatF E0 C fr σ a E) (id : Nat) (hid : fr id) (w1 : World) (hd : Drawn E.w w1) (cells : Array Value) (pb : PB) (tot : Nat)
    (hsize : cells.size = tot * pb.sz) (hel : ∀ e ∈ pb.es, e.length = pb.sz) (hcl : ∀ e ∈ pb.es, ∀ p ∈ e, p.cell = true) (htot : pb.es.length ≤ tot) (hm : tot ≤ maxLen) (hc : CellsAt E.rd E.β pb.es.flatten cells) (h1 : ∀ v ∈ cells.toList, v.oneCell' = true) :
    ∃ E' : Env, E'.w = w1.alloc (.cells cells pb.ty) ∧ E'.β id = some ⟨some E.w.heap.size, pb.sz, tot⟩ ∧ Ext [] E E' ∧ SatF E0 C (fun j => fr j ∧ j ≠ id) { σ with h := hup σ.h id (some pb) } a E' :=
  hs.allocO id hid w1 hd (.cells cells pb.ty) cells pb tot (.inl ⟨rfl, hsize, htot, hm⟩) hel hcl hc h1

/-- A new name for a row of which nothing has been made yet. -/
theorem SatF.allocNil {E0 : Env} {C : Cx} {fr : Nat → Prop} {σ : Core} {a : Act} {E : Env} (hs : SatF E0 C fr σ a E) (id : Nat) (hid : fr id) (ty : TypeId) (sz : Nat) :
    ∃ E' : Env, E'.w = E.w ∧ E'.β id = some ⟨none, sz, 0⟩ ∧ Ext [] E E' ∧ SatF E0 C (fun j => fr j ∧ j ≠ id) { σ with h := hup σ.h id (some ⟨ty, sz, []⟩) } a E' := by
  have hβid : E.β id = none := hs.ok.fresh id hid
  let E' : Env := { I := E.I, β := fun j => if j = id then some ⟨none, sz, 0⟩ else E.β j, w := E.w }
  have hx : Ext [] E E' := {
    i := fun _ h => h
    β := fun j l hj => by
      show (if j = id then _ else _) = _
      rw [if_neg (fun e => by subst e; rw [hβid] at hj; cases hj)]; exact hj
    new := fun j l b hj hn hb => by
      have hj' : (if j = id then some (⟨none, sz, 0⟩ : Loc) else E.β j) = some l := hj
      split at hj'
      · cases hj'; cases hb
      · rw [hn] at hj'; cases hj'
    newI := fun _ h => .inl h
    os := rfl
    tape := rfl
    output := rfl
    size := Nat.le_refl _
    block := fun k hk _ => rfl
    imm := fun b hb => rfl }
  refine ⟨E', rfl, by show (if id = id then _ else _) = _; rw [if_pos rfl], hx, ?_⟩
  refine ⟨⟨⟨?_, ?_⟩, ?_, hs.ok.ibound⟩, hs.n0, hs.ext.trans hx (by simp), fun k v hk => hx.vr (hs.slots k v hk), hs.defers, hs.size, hs.hi⟩
  · intro j pbj hj
    have hj' : (if j = id then some ⟨ty, sz, []⟩ else σ.h j) = some pbj := hj
    split at hj'
    · rename_i hji
      subst hji
      cases hj'
      exact ⟨⟨none, sz, 0⟩, by show (if j = j then _ else _) = _; rw [if_pos rfl], ⟨rfl, by simp, by simp, fun _ => ⟨rfl, rfl⟩, by simp⟩⟩
    · obtain ⟨l, hl, hrow⟩ := hs.ok.heap.row j pbj hj'
      exact ⟨l, hx.β j l hl, RowAt.mono (E := E) (E' := E') hx hrow (fun b hb => (hrow.blk b hb).1) (fun b hb => rfl)⟩
  · intro j j' pbj pbj' l l' b hj hj' hl hl' hb hb'
    have hj1 : (if j = id then some ⟨ty, sz, []⟩ else σ.h j) = some pbj := hj
    have hj2 : (if j' = id then some ⟨ty, sz, []⟩ else σ.h j') = some pbj' := hj'
    have hl1 : (if j = id then some (⟨none, sz, 0⟩ : Loc) else E.β j) = some l := hl
    have hl2 : (if j' = id then some (⟨none, sz, 0⟩ : Loc) else E.β j') = some l' := hl'
    by_cases e1 : j = id <;> by_cases e2 : j' = id
    · rw [e1, e2]
    · rw [if_pos e1] at hl1
      cases hl1; cases hb
    · rw [if_pos e2] at hl2
      cases hl2; cases hb'
    · rw [if_neg e1] at hj1 hl1
      rw [if_neg e2] at hj2 hl2
      exact hs.ok.heap.inj j j' pbj pbj' l l' b hj1 hj2 hl1 hl2 hb hb'
  · intro j ⟨hj, hne⟩
    show (if j = id then _ else _) = _
    rw [if_neg hne]; exact hs.ok.fresh j hj

/-- A row is written. -/
theorem SatF.setO {E0 : Env} {C : Cx} {fr : Nat → Prop} {σ : Core} {a : Act} {E : Env} (hs : SatF E0 C fr σ a E) {id : Nat} {pb : PB} {l : Loc} {b : Nat} (hh : σ.h id = some pb) (hl : E.β id = some l) (hlb : l.b = some b)
    (hperm : id ∈ C.T ∨ C.n0 ≤ id) (w2 : World) (hoth : ∀ k, k ≠ b → w2.heap[k]? = E.w.heap[k]?) (hws : w2.heap.size = E.w.heap.size) (hos : w2.os = E.w.os) (htape : w2.tape = E.w.tape) (hout : w2.output = E.w.output) (cur' : Array Value) (es' : List (List PV)) (hsee : Sees w2.heap[b]? { pb with es := es' } l cur') (hel : ∀ e ∈ es', e.length = pb.sz) (hcl : ∀ e ∈ es', ∀ p ∈ e, p.cell = true)
    (hc : CellsAt E.rd E.β es'.flatten cur') (h1 : ∀ v ∈ cur'.toList, v.oneCell' = true) :
    Ext [id] E { E with w := w2 } ∧ SatF E0 C fr { σ with h := hup σ.h id (some { pb with es := es' }) } a { E with w := w2 } := by
  obtain ⟨l', hl', hrow⟩ := hs.ok.heap.row id pb hh
  rw [hl] at hl'; cases hl'
  obtain ⟨hIb, _, _, _, _⟩ := hrow.blk b hlb
  let E' : Env := { E with w := w2 }
  have hx : Ext [id] E E' := {
    i := fun _ h => h
    β := fun _ _ h => h
    new := fun j l2 b2 hj hn hb => by
      have hj' : E.β j = some l2 := hj
      rw [hj'] at hn; cases hn
    newI := fun _ h => .inl h
    os := hos
    tape := htape
    output := hout
    size := by show _ ≤ w2.heap.size; rw [hws]; exact Nat.le_refl _
    block := fun k hk hno => hoth k (fun e => hno id (by simp) l hl (by rw [hlb, e]))
    imm := fun c hc => hoth c (fun e => by subst e; rw [hIb] at hc; cases hc) }
  refine ⟨hx, ⟨⟨?_, ?_⟩, hs.ok.fresh, ?_⟩, hs.n0, hs.ext.trans hx ?_, fun k v hk => hx.vr (hs.slots k v hk), hs.defers, hs.size, hs.hi⟩
  · intro j pbj hj
    have hj' : (if j = id then some { pb with es := es' } else σ.h j) = some pbj := hj
    split at hj'
    · rename_i hji
      subst hji
      cases hj'
      refine ⟨l, hl, ⟨hrow.sz, hel, hcl, fun h => (by rw [hlb] at h; cases h), ?_⟩⟩
      intro c hc2
      rw [hlb] at hc2; cases hc2
      exact ⟨hIb, cur', hsee, hc.mono hx.rd hx.β, h1⟩
    · rename_i hji
      obtain ⟨lj, hlj, hrowj⟩ := hs.ok.heap.row j pbj hj'
      refine ⟨lj, hlj, RowAt.mono (E := E) (E' := E') hx hrowj (fun c hc2 => (hrowj.blk c hc2).1) (fun c hc2 => hoth c (fun e => ?_))⟩
      subst e
      exact hji (hs.ok.heap.inj j id pbj pb lj l c hj' hh hlj hl hc2 hlb)
  · intro j j' pbj pbj' l1 l2 c hj hj' hl1 hl2 hb1 hb2
    have aux : ∀ k pk, hup σ.h id (some { pb with es := es' }) k = some pk → ∃ pk', σ.h k = some pk' := by
      intro k pk hk
      have hk' : (if k = id then some { pb with es := es' } else σ.h k) = some pk := hk
      split at hk'
      · rename_i e; subst e; exact ⟨pb, hh⟩
      · exact ⟨pk, hk'⟩
    obtain ⟨p1, hp1⟩ := aux j pbj hj
    obtain ⟨p2, hp2⟩ := aux j' pbj' hj'
    exact hs.ok.heap.inj j j' p1 p2 l1 l2 c hp1 hp2 hl1 hl2 hb1 hb2
  · intro c hc2
    exact Nat.lt_of_lt_of_le (hs.ok.ibound c hc2) hx.size
  · intro j hj
    rw [List.mem_singleton] at hj
    subst hj
    rcases hperm with h | h
    · exact .inl h
    · exact .inr (hs.n0 j h)

theorem SatF.setRow {E0 : Env} {C : Cx} {fr : Nat → Prop} {σ : Core} {a : Act} {E : Env} (hs : SatF E0 C fr σ a E) {id : Nat} {pb : PB} {l : Loc} {b : Nat} {cur : Array Value} (hh : σ.h id = some pb) (hl : E.β id = some l) (hlb : l.b = some b)
    (hcur : E.w.heap[b]? = some (.cells cur pb.ty (0, 0))) (hperm : id ∈ C.T ∨ C.n0 ≤ id) (cur' : Array Value) (es' : List (List PV)) (hsize : cur'.size = cur.size) (hel : ∀ e ∈ es', e.length = pb.sz) (hcl : ∀ e ∈ es', ∀ p ∈ e, p.cell = true) (htot : es'.length ≤ l.tot)
    (hc : CellsAt E.rd E.β es'.flatten cur') (h1 : ∀ v ∈ cur'.toList, v.oneCell' = true) :
    Ext [id] E { E with w := E.w.setRow b cur' } ∧ SatF E0 C fr { σ with h := hup σ.h id (some { pb with es := es' }) } a { E with w := E.w.setRow b cur' } := by
  obtain ⟨l', hl', hrow⟩ := hs.ok.heap.row id pb hh
  rw [hl] at hl'; cases hl'
  obtain ⟨hIb, cur0, hc0, _, _⟩ := hrow.blk b hlb
  obtain ⟨hc0, hsz0, _, hm⟩ : some (Obj.cells cur pb.ty (0, 0)) = some (Obj.cells cur0 pb.ty (0, 0)) ∧ cur0.size = l.tot * pb.sz ∧ pb.es.length ≤ l.tot ∧ l.tot ≤ maxLen := by
    rcases hc0 with h | ⟨_, _, _, _, _, _, _, _, _, h, _⟩
    · rw [hcur] at h; exact h
    · rw [hcur] at h; cases h
  cases hc0
  exact hs.setO hh hl hlb hperm (E.w.setRow b cur') (fun k hk => setRow_other E.w b k cur' hk) (setRow_size _ _ _) rfl rfl rfl cur' es' (.inl ⟨setRow_heap E.w b cur cur' pb.ty (0, 0) hcur, by rw [hsize]; exact hsz0, htot, hm⟩) hel hcl hc h1

end Go.PM
