/- The pure machine, part 1: values as trees, how they stand for the model's values in a world, and how this is kept when the world grows. -/
import Derived.Calls
import Derived.Laws.AppendOwn
import Derived.Below
namespace Go.PM
set_option linter.unusedVariables false
set_option linter.unusedSimpArgs false

/-- Data: a scalar, or an immutable slice, each element given by its cells. -/
inductive DV where
  | val (v : Value)
  | imm (es : List (List DV))
deriving Inhabited

/-- The cells of the immutable blocks. -/
abbrev Rd := Nat → Option (Array Value)

inductive DR (rd : Rd) : DV → Value → Prop
  | val (v : Value) (h : v.oneCell' = true) : DR rd (.val v) v
  | nil : DR rd (.imm []) (.slice none 0 0)
  | nilA (a : Addr) (cap : Nat) : DR rd (.imm []) (.slice (some a) 0 cap)
  | imm (es : List (List DV)) (b off cap sz : Nat) (vs : List Value) (hcap : es.length ≤ cap) (hsz : ∀ e ∈ es, e.length = sz) (hlen : vs.length = es.flatten.length)
      (hcell : vs = [] ∨ ∃ cur, rd b = some cur ∧ ∀ (j : Nat) v, vs[j]? = some v → cur[off + j]? = some v)
      (hel : ∀ (j : Nat) d v, es.flatten[j]? = some d → vs[j]? = some v → DR rd d v) :
      DR rd (.imm es) (.slice (some ⟨b, off, none⟩) es.length cap)

theorem DR.one {rd : Rd} {d : DV} {v : Value} (h : DR rd d v) : v.oneCell' = true := by
  cases h <;> first | assumption | rfl

theorem DR.mono {rd rd' : Rd} (hm : ∀ b cur, rd b = some cur → rd' b = some cur) {d : DV} {v : Value} (h : DR rd d v) : DR rd' d v := by
  induction h with
  | val v h => exact .val v h
  | nil => exact .nil
  | nilA a cap => exact .nilA a cap
  | imm es b off cap sz vs hcap hsz hlen hcell hel ih =>
    refine .imm es b off cap sz vs hcap hsz hlen ?_ ih
    rcases hcell with h | ⟨cur, h1, h2⟩
    · exact .inl h
    · exact .inr ⟨cur, hm _ _ h1, h2⟩

/-- Where a row of the pure heap lies: its block (none: nothing has been made yet), the cells of an element, how many elements have room. -/
structure Loc where
  b : Option Nat
  sz : Nat
  tot : Nat

inductive PV where
  | any
  | d (x : DV)
  | own (id sz off len : Nat)
  | ptr (id i o : Nat)
  | pim (cs : List DV)
  | mp (id : Nat)
  | fn (fn : Fn) (first caps : List PV)
  | agg (cs : List PV)
  | tup (vs : List PV)
deriving Inhabited

abbrev Bt := Nat → Option Loc

inductive VR (rd : Rd) (β : Bt) : PV → Value → Prop
  | any (v : Value) : VR rd β .any v
  | d (x : DV) (v : Value) (h : DR rd x v) : VR rd β (.d x) v
  | own (id off len cap b sz tot : Nat) (a : Addr) (hβ : β id = some ⟨some b, sz, tot⟩) (hl : len ≤ cap) (ht : off + cap ≤ tot) (ha : a = ⟨b, off * sz, none⟩) :
      VR rd β (.own id sz off len) (.slice (some a) len cap)
  | ownNil (id sz : Nat) (hβ : β id = some ⟨none, sz, 0⟩) : VR rd β (.own id sz 0 0) (.slice none 0 0)
  | ptr (id i o b sz tot : Nat) (hβ : β id = some ⟨some b, sz, tot⟩) : VR rd β (.ptr id i o) (.pointer (some ⟨b, i * sz + o, none⟩))
  | pim (cs : List DV) (b off : Nat) (cur : Array Value) (vs : List Value) (hlen : vs.length = cs.length) (hb : rd b = some cur) (hcell : ∀ (j : Nat) v, vs[j]? = some v → cur[off + j]? = some v)
      (hel : ∀ (j : Nat) d v, cs[j]? = some d → vs[j]? = some v → DR rd d v) : VR rd β (.pim cs) (.pointer (some ⟨b, off, none⟩))
  | mp (id b sz : Nat) (hβ : β id = some ⟨some b, sz, maxLen + 1⟩) : VR rd β (.mp id) (.map (some b))
  | fn (fn : Fn) (first caps : List PV) (us vs : List Value) (hu : us.length = first.length) (hv : vs.length = caps.length)
      (h1 : ∀ (j : Nat) p v, first[j]? = some p → us[j]? = some v → VR rd β p v) (h2 : ∀ (j : Nat) p v, caps[j]? = some p → vs[j]? = some v → VR rd β p v) :
      VR rd β (.fn fn first caps) (.func fn us.toArray vs.toArray)
  | agg (cs : List PV) (vs : List Value) (hlen : vs.length = cs.length) (h1 : ∀ v ∈ vs, v.oneCell' = true) (hel : ∀ (j : Nat) p v, cs[j]? = some p → vs[j]? = some v → VR rd β p v) :
      VR rd β (.agg cs) (.agg vs.toArray)
  | tup (ps : List PV) (vs : List Value) (hlen : vs.length = ps.length) (hel : ∀ (j : Nat) p v, ps[j]? = some p → vs[j]? = some v → VR rd β p v) :
      VR rd β (.tup ps) (.tuple vs.toArray)

theorem VR.mono {rd rd' : Rd} {β β' : Bt} (hm : ∀ b cur, rd b = some cur → rd' b = some cur) (hβm : ∀ id l, β id = some l → β' id = some l) {p : PV} {v : Value} (h : VR rd β p v) : VR rd' β' p v := by
  induction h with
  | any v => exact .any v
  | d x v h => exact .d x v (h.mono hm)
  | own id off len cap b sz tot a hβ hl ht ha => exact .own id off len cap b sz tot a (hβm _ _ hβ) hl ht ha
  | ownNil id sz hβ => exact .ownNil id sz (hβm _ _ hβ)
  | ptr id i o b sz tot hβ => exact .ptr id i o b sz tot (hβm _ _ hβ)
  | pim cs b off cur vs hlen hb hcell hel => exact .pim cs b off cur vs hlen (hm _ _ hb) hcell (fun j d v h1 h2 => (hel j d v h1 h2).mono hm)
  | mp id b sz hβ => exact .mp id b sz (hβm _ _ hβ)
  | fn fn first caps us vs hu hv h1 h2 ih1 ih2 => exact .fn fn first caps us vs hu hv ih1 ih2
  | agg cs vs hlen h1 hel ih => exact .agg cs vs hlen h1 ih
  | tup ps vs hlen hel ih => exact .tup ps vs hlen ih

/-- What may lie in one cell of memory. -/
def PV.cell : PV → Bool
  | .d _ | .own .. | .ptr .. | .pim _ | .mp _ | .fn .. => true
  | _ => false

theorem VR.one {rd : Rd} {β : Bt} {p : PV} {v : Value} (h : VR rd β p v) (hc : p.cell = true) : v.oneCell' = true := by
  cases h <;> first | rfl | (simp [PV.cell] at hc; done) | (rename_i h; exact h.one)

/-- A row of the pure heap: the type of its elements, their cells' number, the elements. -/
structure PB where
  ty : TypeId
  sz : Nat
  es : List (List PV)

abbrev Hp := Nat → Option PB

/-- The cells 'ps' stand in the block's cells 'cur' from its begin on. -/
def CellsAt (rd : Rd) (β : Bt) (ps : List PV) (cur : Array Value) : Prop :=
  ∀ (j : Nat) p, ps[j]? = some p → ∃ v, cur[j]? = some v ∧ VR rd β p v

/-- Type names from here on stand for maps: a row of a map has an element for each entry, the key's cells and the value's. -/
def mapTy (kn vn : Nat) (ka va : Bool) : TypeId := 1000000000 + ((kn * 1000 + vn) * 4 + ((if ka then 2 else 0) + (if va then 1 else 0)))
def ShapeOk (a : Bool) (n : Nat) (v : Value) : Prop := if a then ∃ cs : List Value, v = .agg cs.toArray ∧ cs.length = n else n = 1 ∧ v.oneCell' = true
def entCells (e : MapEntry) : List Value := e.key.cells.toList ++ e.val.cells.toList
/-- What a block holds, as cells. -/
def Sees (o : Option Obj) (pb : PB) (l : Loc) (cur : Array Value) : Prop :=
  (o = some (.cells cur pb.ty (0, 0)) ∧ cur.size = l.tot * pb.sz ∧ pb.es.length ≤ l.tot ∧ l.tot ≤ maxLen) ∨
  (l.tot = maxLen + 1 ∧ ∃ kn vn ka va es clock, pb.ty = mapTy kn vn ka va ∧ pb.sz = kn + vn ∧ o = some (.map es clock) ∧ es.toList.length = pb.es.length ∧ cur.toList = es.toList.flatMap entCells ∧ (∀ e ∈ es.toList, ShapeOk ka kn e.key ∧ ShapeOk va vn e.val))

theorem Sees.some {o : Option Obj} {pb : PB} {l : Loc} {cur : Array Value} (h : Sees o pb l cur) : ∃ x, o = some x := by
  rcases h with ⟨h, _⟩ | ⟨_, _, _, _, _, _, _, _, _, h, _⟩ <;> exact ⟨_, h⟩
theorem Sees.cells {o : Option Obj} {pb : PB} {l : Loc} {cur : Array Value} (h : Sees o pb l cur) (ht : pb.ty < 1000000000) : o = Option.some (.cells cur pb.ty (0, 0)) ∧ cur.size = l.tot * pb.sz ∧ pb.es.length ≤ l.tot ∧ l.tot ≤ maxLen := by
  rcases h with h | ⟨_, _, _, _, _, _, _, h, _⟩
  · exact h
  · rw [h] at ht
    exact absurd ht (Nat.not_lt.mpr (Nat.le_add_right _ _))
theorem Sees.congr {o : Option Obj} {pb pb' : PB} {l : Loc} {cur : Array Value} (h : Sees o pb l cur) (h1 : pb.ty = pb'.ty) (h2 : pb.sz = pb'.sz) (h3 : pb.es.length = pb'.es.length) : Sees o pb' l cur := by
  unfold Sees at *
  rw [← h1, ← h2, ← h3]
  exact h

structure RowAt (rd : Rd) (β : Bt) (I : Nat → Bool) (w : World) (pb : PB) (l : Loc) : Prop where
  sz : l.sz = pb.sz
  el : ∀ e ∈ pb.es, e.length = pb.sz
  cell : ∀ e ∈ pb.es, ∀ p ∈ e, p.cell = true
  nl : l.b = none → pb.es = [] ∧ l.tot = 0
  blk : ∀ b, l.b = some b → I b = false ∧ ∃ cur, Sees w.heap[b]? pb l cur ∧ CellsAt rd β pb.es.flatten cur ∧ (∀ v ∈ cur.toList, v.oneCell' = true)

def rdOf (I : Nat → Bool) (w : World) : Rd := fun b =>
  if I b then (match w.heap[b]? with | some (.cells cur _ _) => some cur | _ => none) else none

structure HRel (I : Nat → Bool) (β : Bt) (h : Hp) (w : World) : Prop where
  row : ∀ id pb, h id = some pb → ∃ l, β id = some l ∧ RowAt (rdOf I w) β I w pb l
  inj : ∀ id id' pb pb' l l' b, h id = some pb → h id' = some pb' → β id = some l → β id' = some l' → l.b = some b → l'.b = some b → id = id'

/-- A world with what is immutable in it and where the rows of the pure heap lie. -/
structure Env where
  I : Nat → Bool
  β : Bt
  w : World

def Env.rd (E : Env) : Rd := rdOf E.I E.w
abbrev Env.vr (E : Env) (p : PV) (v : Value) : Prop := VR E.rd E.β p v

structure OkE (E : Env) (h : Hp) (fr : Nat → Prop) : Prop where
  heap : HRel E.I E.β h E.w
  fresh : ∀ id, fr id → E.β id = none
  ibound : ∀ b, E.I b = true → b < E.w.heap.size

/-- How the world may go on: 'T' are the rows (of those that were there) that may be written. -/
structure Ext (T : List Nat) (E E' : Env) : Prop where
  i : ∀ b, E.I b = true → E'.I b = true
  β : ∀ id l, E.β id = some l → E'.β id = some l
  new : ∀ id l b, E'.β id = some l → E.β id = none → l.b = some b → E.w.heap.size ≤ b ∨ ∃ id0 ∈ T, ∃ l0, E.β id0 = some l0 ∧ l0.b = some b
  newI : ∀ b, E'.I b = true → E.I b = true ∨ E.w.heap.size ≤ b ∨ ∃ id0 ∈ T, ∃ l0, E.β id0 = some l0 ∧ l0.b = some b
  os : E'.w.os = E.w.os
  tape : E'.w.tape = E.w.tape
  output : E'.w.output = E.w.output
  size : E.w.heap.size ≤ E'.w.heap.size
  block : ∀ k, k < E.w.heap.size → (∀ id ∈ T, ∀ l, E.β id = some l → l.b ≠ some k) → E'.w.heap[k]? = E.w.heap[k]?
  imm : ∀ b, E.I b = true → E'.w.heap[b]? = E.w.heap[b]?

theorem Ext.refl (T : List Nat) (E : Env) : Ext T E E :=
  ⟨fun _ h => h, fun _ _ h => h, fun _ _ _ h h' => by (rw [h] at h'; cases h'), fun _ h => .inl h, rfl, rfl, rfl, Nat.le_refl _, fun _ _ _ => rfl, fun _ _ => rfl⟩

theorem Ext.trans {T T' : List Nat} {A B C : Env} (h : Ext T A B) (k : Ext T' B C) (hT : ∀ id ∈ T', id ∈ T ∨ A.β id = none) : Ext T A C where
  i b hb := k.i b (h.i b hb)
  β id l hl := k.β id l (h.β id l hl)
  new id l b hl hn hb := by
    cases hB : B.β id with
    | none =>
      rcases k.new id l b hl hB hb with h1 | ⟨id0, h0, l0, hl0, hb0⟩
      · exact .inl (Nat.le_trans h.size h1)
      · cases hA : A.β id0 with
        | none => exact h.new id0 l0 b hl0 hA hb0
        | some l1 =>
          have := h.β id0 l1 hA
          rw [hl0] at this
          cases this
          rcases hT id0 h0 with h1 | h1
          · exact .inr ⟨id0, h1, l0, hA, hb0⟩
          · rw [h1] at hA; cases hA
    | some l0 =>
      have := k.β id l0 hB
      rw [hl] at this
      cases this
      exact h.new id l b hB hn hb
  newI b hb := by
    rcases k.newI b hb with h1 | h1 | ⟨id0, h0, l0, hl0, hb0⟩
    · exact h.newI b h1
    · exact .inr (.inl (Nat.le_trans h.size h1))
    · cases hA : A.β id0 with
      | none => exact .inr (h.new id0 l0 b hl0 hA hb0)
      | some l1 =>
        have := h.β id0 l1 hA
        rw [hl0] at this
        cases this
        rcases hT id0 h0 with h1 | h1
        · exact .inr (.inr ⟨id0, h1, l0, hA, hb0⟩)
        · rw [h1] at hA; cases hA
  os := k.os.trans h.os
  tape := k.tape.trans h.tape
  output := k.output.trans h.output
  size := Nat.le_trans h.size k.size
  block j hj hno := by
    refine (k.block j (Nat.lt_of_lt_of_le hj h.size) ?_).trans (h.block j hj hno)
    intro id hid l hl hlb
    cases hA : A.β id with
    | none =>
      rcases h.new id l j hl hA hlb with h1 | ⟨id0, h0, l0, hl0, hb0⟩
      · omega
      · exact hno id0 h0 l0 hl0 hb0
    | some l0 =>
      have := h.β id l0 hA
      rw [hl] at this
      cases this
      rcases hT id hid with h1 | h1
      · exact hno id h1 l hA hlb
      · rw [h1] at hA; cases hA
  imm b hb := (k.imm b (h.i b hb)).trans (h.imm b hb)

theorem Ext.weaken {T T' : List Nat} {A B : Env} (h : Ext T A B) (hT : ∀ id ∈ T, id ∈ T' ∨ A.β id = none) : Ext T' A B := by
  have := Ext.trans (Ext.refl T' A) h (by simpa using hT)
  exact this

theorem Ext.rd {T : List Nat} {E E' : Env} (h : Ext T E E') : ∀ b cur, E.rd b = some cur → E'.rd b = some cur := by
  intro b cur hb
  unfold Env.rd rdOf at *
  split at hb
  · rename_i hI
    rw [if_pos (h.i b hI), h.imm b hI]
    exact hb
  · cases hb

theorem Ext.vr {T : List Nat} {E E' : Env} (h : Ext T E E') {p : PV} {v : Value} (hv : E.vr p v) : E'.vr p v := VR.mono h.rd h.β hv

theorem CellsAt.mono {rd rd' : Rd} {β β' : Bt} (hm : ∀ b cur, rd b = some cur → rd' b = some cur) (hβm : ∀ id l, β id = some l → β' id = some l) {ps : List PV} {cur : Array Value} (h : CellsAt rd β ps cur) : CellsAt rd' β' ps cur :=
  fun j p hp => let ⟨v, h1, h2⟩ := h j p hp; ⟨v, h1, h2.mono hm hβm⟩

end Go.PM
