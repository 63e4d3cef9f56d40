/- The pure machine, part 4: the operations one by one. -/
import Derived.Test.YtmljpbhmdjpbaaaPm3
import Derived.Laws.Append
namespace Go.PM
set_option linter.unusedVariables false
set_option linter.unusedSimpArgs false

abbrev Out := Prop × Eff
def nope : Out := (False, ⟨.any, [], []⟩)
abbrev PV.i (n : Int) : PV := .d (.val (.int .i64 n))
abbrev PV.b (q : Bool) : PV := .d (.val (.bool q))

def cellsOf : PV → List PV
  | .agg cs => cs
  | p => [p]

def stPick : PV → PV → PV → Out
  | .d (.val (.bool q)), a, b => (True, ⟨if q then a else b, [], []⟩)
  | _, _, _ => nope

def ldP (ti : TI) (cs : List PV) : PV := if ti.agg then .agg (cs.take ti.sz) else cs.headD .any

def stLoad (ti : Option TI) (p : PV) (h : Hp) : Out := match ti, p with
  | some ti, .ptr id i o => match h id with
    | some pb => (pb.ty < 1000000000 ∧ i < pb.es.length ∧ o + ti.sz ≤ pb.sz ∧ (ti.agg = true ∨ ti.sz = 1), ⟨ldP ti ((pb.es.getD i []).drop o), [id], []⟩)
    | none => nope
  | some ti, .pim cs => (ti.sz ≤ cs.length ∧ (ti.agg = true ∨ ti.sz = 1), ⟨ldP ti (cs.map .d), [], []⟩)
  | _, _ => nope

def putAt (cs : List PV) (o : Nat) (new : List PV) : List PV := cs.take o ++ new ++ cs.drop (o + new.length)

def stStore (C : Cx) (ti : Option TI) (p v : PV) (h : Hp) : Out := match ti, p with
  | some ti, .ptr id i o => match h id with
    | some pb => (pb.ty < 1000000000 ∧ i < pb.es.length ∧ o + ti.sz ≤ pb.sz ∧ (cellsOf v).length = ti.sz ∧ (cellsOf v).all PV.cell = true ∧ (id ∈ C.T ∨ C.n0 ≤ id),
        ⟨.any, [id], [(id, some { pb with es := pb.es.set i (putAt (pb.es.getD i []) o (cellsOf v)) })]⟩)
    | none => nope
  | _, _ => nope

def stFieldAddr (fs : Option (List (Nat × TI))) (f : Nat) (p : PV) : Out := match fs with
  | some fs => match fs[f]?, p with
    | some (off, ti), .ptr id i o => (ti.sz ≠ 0, ⟨.ptr id i (o + off), [], []⟩)
    | some (off, ti), .pim cs => (ti.sz ≠ 0, ⟨.pim (cs.drop off), [], []⟩)
    | _, _ => nope
  | none => nope

def stField (fs : Option (List (Nat × TI))) (f : Nat) (p : PV) : Out := match fs with
  | some fs => match fs[f]?, p with
    | some (off, ti), .agg cs => (off + ti.sz ≤ cs.length ∧ (ti.agg = true ∨ ti.sz = 1), ⟨ldP ti (cs.drop off), [], []⟩)
    | _, _ => nope
  | none => nope

def stIndexAddr : Option (TypeId × TI) → Option (Nat × TI) → PV → PV → Out
  | some (_, ti), _, .own id sz off len, .d (.val (.int _ j)) => (sz = ti.sz ∧ 0 ≤ j ∧ j < (len : Int), ⟨.ptr id (off + j.toNat) 0, [], []⟩)
  | some (_, ti), _, .d (.imm es), .d (.val (.int _ j)) => (0 ≤ j ∧ j < (es.length : Int) ∧ (es.getD j.toNat []).length = ti.sz ∧ ti.sz ≠ 0, ⟨.pim (es.getD j.toNat []), [], []⟩)
  | none, some (n, ti), .ptr id i o, .d (.val (.int _ j)) => (0 ≤ j ∧ j < (n : Int), ⟨.ptr id i (o + j.toNat * ti.sz), [], []⟩)
  | none, some (n, ti), .pim cs, .d (.val (.int _ j)) => (0 ≤ j ∧ j < (n : Int), ⟨.pim (cs.drop (j.toNat * ti.sz)), [], []⟩)
  | _, _, _, _ => nope

def stIndex : Option (Nat × TI) → PV → PV → Out
  | some (n, ti), .agg cs, .d (.val (.int _ j)) => (0 ≤ j ∧ j < (n : Int) ∧ j.toNat * ti.sz + ti.sz ≤ cs.length ∧ (ti.agg = true ∨ ti.sz = 1), ⟨ldP ti (cs.drop (j.toNat * ti.sz)), [], []⟩)
  | none, .d (.val (.string s)), .d (.val (.int _ j)) => (0 ≤ j ∧ j < (s.size : Int), ⟨.d (.val (.int .u8 ((s[j.toNat]?).getD 0).toNat)), [], []⟩)
  | _, _, _ => nope

def stExtract (p : PV) (k : Nat) : Out := match p with
  | .tup vs => (k < vs.length, ⟨vs.getD k .any, [], []⟩)
  | _ => nope

def stNilCheck : PV → Out
  | .ptr id i o => (True, ⟨.ptr id i o, [], []⟩)
  | .pim cs => (True, ⟨.pim cs, [], []⟩)
  | .fn (.func f) a b => (True, ⟨.fn (.func f) a b, [], []⟩)
  | _ => nope

def stIntBin : BinOp → IntKind → Int → IntKind → Int → Out
  | .add, k, a, k', b => (k = k', ⟨.d (.val (.int k (k.wrap (a + b)))), [], []⟩)
  | .sub, k, a, k', b => (k = k', ⟨.d (.val (.int k (k.wrap (a - b)))), [], []⟩)
  | .mul, k, a, k', b => (k = k', ⟨.d (.val (.int k (k.wrap (a * b)))), [], []⟩)
  | .quo, k, a, k', b => (k = k' ∧ b ≠ 0, ⟨.d (.val (.int k (k.wrap (a.tdiv b)))), [], []⟩)
  | .rem, k, a, k', b => (k = k' ∧ b ≠ 0, ⟨.d (.val (.int k (a.tmod b))), [], []⟩)
  | .and, k, a, k', b => (k = k', ⟨.d (.val (.int k (k.wrap (BitVec.ofInt k.bits a &&& BitVec.ofInt k.bits b).toNat))), [], []⟩)
  | .or, k, a, k', b => (k = k', ⟨.d (.val (.int k (k.wrap (BitVec.ofInt k.bits a ||| BitVec.ofInt k.bits b).toNat))), [], []⟩)
  | .xor, k, a, k', b => (k = k', ⟨.d (.val (.int k (k.wrap (BitVec.ofInt k.bits a ^^^ BitVec.ofInt k.bits b).toNat))), [], []⟩)
  | .andNot, k, a, k', b => (k = k', ⟨.d (.val (.int k (k.wrap (BitVec.ofInt k.bits a &&& ~~~ BitVec.ofInt k.bits b).toNat))), [], []⟩)
  | .shl, k, a, _, b => (0 ≤ b, ⟨.d (.val (.int k (k.wrap (a * 2 ^ (min b.toNat k.bits))))), [], []⟩)
  | .shr, k, a, _, b => (0 ≤ b, ⟨.d (.val (.int k (a.fdiv (2 ^ (min b.toNat k.bits))))), [], []⟩)
  | .eql, k, a, k', b => (k = k', ⟨.b (decide (a = b)), [], []⟩)
  | .neq, k, a, k', b => (k = k', ⟨.b (!decide (a = b)), [], []⟩)
  | .lss, k, a, k', b => (k = k', ⟨.b (decide (a < b)), [], []⟩)
  | .leq, k, a, k', b => (k = k', ⟨.b (decide (a ≤ b)), [], []⟩)
  | .gtr, k, a, k', b => (k = k', ⟨.b (decide (b < a)), [], []⟩)
  | .geq, k, a, k', b => (k = k', ⟨.b (decide (b ≤ a)), [], []⟩)

/-- Whether a slice is nil, where that is known. -/
def isNilP : PV → Option Bool
  | .d (.val (.slice none 0 0)) => some true
  | .d (.imm (_ :: _)) => some false
  | .own _ _ _ (_ + 1) => some false
  | _ => none

def isNilC : Operand → Bool
  | .const (.slice none 0 0) => true
  | _ => false

/-- Slices and nil. -/
def stNilBin (op : BinOp) (p : PV) : Out := match op with
  | .eql => match isNilP p with | some q => (True, ⟨.b q, [], []⟩) | none => nope
  | .neq => match isNilP p with | some q => (True, ⟨.b (!q), [], []⟩) | none => nope
  | _ => nope

def isSliceD : Option TypeDesc → Bool
  | some (.slice _) => true
  | _ => false
def isBoolD : Option TypeDesc → Bool
  | some .bool => true
  | _ => false

def stBoolBin (op : BinOp) (a b : Bool) : Out := match op with
  | .eql => (True, ⟨.b (a == b), [], []⟩)
  | .neq => (True, ⟨.b (!(a == b)), [], []⟩)
  | _ => nope
def stStrBin (op : BinOp) (a b : ByteArray) : Out := match op with
  | .eql => (True, ⟨.b (a.toList == b.toList), [], []⟩)
  | .neq => (True, ⟨.b (!(a.toList == b.toList)), [], []⟩)
  | .lss => (True, ⟨.b (Op.bytesLess a.toList b.toList), [], []⟩)
  | .leq => (True, ⟨.b (Op.bytesLess a.toList b.toList || a.toList == b.toList), [], []⟩)
  | .gtr => (True, ⟨.b (!(Op.bytesLess a.toList b.toList || a.toList == b.toList)), [], []⟩)
  | .geq => (True, ⟨.b (!(Op.bytesLess a.toList b.toList)), [], []⟩)
  | .add => (a.size + b.size ≤ maxLen, ⟨.d (.val (.string (a ++ b))), [], []⟩)
  | _ => nope

def stBin (op : BinOp) (ut : Option TypeDesc) (y : Operand) (px py : PV) : Out :=
  if isSliceD ut && isNilC y then stNilBin op px
  else match px, py with
    | .d (.val (.int k a)), .d (.val (.int k' b)) => stIntBin op k a k' b
    | .d (.val (.bool a)), .d (.val (.bool b)) => if isBoolD ut then stBoolBin op a b else nope
    | .d (.val (.string a)), .d (.val (.string b)) => stStrBin op a b
    | _, _ => nope

def stUn : UnOp → PV → Out
  | .not, .d (.val (.bool q)) => (True, ⟨.b (!q), [], []⟩)
  | .neg, .d (.val (.int k n)) => (True, ⟨.d (.val (.int k (k.wrap (0 - n)))), [], []⟩)
  | _, _ => nope

def stConvert : Option TypeDesc → Option TypeDesc → PV → Out
  | some (.int _), some (.int k), .d (.val (.int _ n)) => (True, ⟨.d (.val (.int k (k.wrap n))), [], []⟩)
  | _, _, _ => nope

def stLen : Option TypeDesc → PV → Out
  | some (.slice _), .own _ _ _ len => (True, ⟨.i len, [], []⟩)
  | some (.slice _), .d (.imm es) => (True, ⟨.i es.length, [], []⟩)
  | some (.slice _), .d (.val (.slice none 0 0)) => (True, ⟨.i 0, [], []⟩)
  | some .string, .d (.val (.string s)) => (True, ⟨.i s.size, [], []⟩)
  | some (.array n _), _ => (True, ⟨.i n, [], []⟩)
  | _, _ => nope

def stMin : PV → PV → Out
  | .d (.val (.int k a)), .d (.val (.int _ b)) => (True, ⟨.d (.val (.int k (if b < a then b else a))), [], []⟩)
  | _, _ => nope
def stMax : PV → PV → Out
  | .d (.val (.int k a)), .d (.val (.int _ b)) => (True, ⟨.d (.val (.int k (if b > a then b else a))), [], []⟩)
  | _, _ => nope

def zP (ti : TI) : List PV := ti.zero.map fun v => .d (.val v)

def stAlloc (ti : Option TI) (T : TypeId) (nid : Nat) : Out := match ti with
  | some ti => (ti.zero.length = ti.sz ∧ ti.zero.all (·.oneCell') = true, ⟨.ptr nid 0 0, [], [(nid, some ⟨T, ti.sz, [zP ti]⟩)]⟩)
  | none => nope

def stBox (T : TypeId) (p : PV) (nid : Nat) : Out := ((cellsOf p).all PV.cell = true, ⟨.ptr nid 0 0, [], [(nid, some ⟨T, (cellsOf p).length, [cellsOf p]⟩)]⟩)

def fillP (place : Nat → Option (Nat × Nat)) (cells : List PV) : List (Nat × PV) → Prop × List PV
  | [] => (True, cells)
  | (i, p) :: r => match place i with
    | none => (False, [])
    | some (off, sz) => ((cellsOf p).length = sz ∧ off + sz ≤ cells.length ∧ (cellsOf p).all PV.cell = true ∧ (fillP place (putAt cells off (cellsOf p)) r).1, (fillP place (putAt cells off (cellsOf p)) r).2)

def stBuild (st : Option (List (Nat × TI))) (ar : Option (Nat × TI)) (ti : Option TI) (parts : List (Nat × PV)) : Out := match ti with
  | none => nope
  | some ti => match st, ar with
    | some fs, _ => (ti.zero.all (·.oneCell') = true ∧ (fillP (fun i => (fs[i]?).map fun x => (x.1, x.2.sz)) (zP ti) parts).1, ⟨.agg (fillP (fun i => (fs[i]?).map fun x => (x.1, x.2.sz)) (zP ti) parts).2, [], []⟩)
    | none, some (_, te) => (ti.zero.all (·.oneCell') = true ∧ (fillP (fun i => some (i * te.sz, te.sz)) (zP ti) parts).1, ⟨.agg (fillP (fun i => some (i * te.sz, te.sz)) (zP ti) parts).2, [], []⟩)
    | _, _ => nope

def stBuildSlice (sl : Option (TypeId × TI)) (len : Nat) (parts : List (Nat × PV)) (nid : Nat) : Out := match sl with
  | some (e, ti) => (parts.map (·.1) = List.range len ∧ (parts.map fun x => cellsOf x.2).all (fun c => c.length == ti.sz && c.all PV.cell) = true ∧ len * ti.sz ≤ 16777216 ∧ len ≤ 16777216 ∧ ti.zero.all (·.oneCell') = true ∧ ti.zero.length = ti.sz,
      ⟨.own nid ti.sz 0 len, [], [(nid, some ⟨e, ti.sz, parts.map fun x => cellsOf x.2⟩)]⟩)
  | none => nope

def stMakeSlice (sl : Option (TypeId × TI)) (p q : PV) (nid : Nat) : Out := match sl with
  | some (e, ti) => match p, q with
    | .d (.val (.int _ l)), .d (.val (.int _ c)) => (0 ≤ l ∧ l ≤ c ∧ (ti.bytes : Int) * c ≤ 140737488355328 ∧ c ≤ 140737488355328 ∧ ti.zero.length = ti.sz ∧ ti.sz ≠ 0 ∧ ti.zero.all (·.oneCell') = true,
        ⟨.own nid ti.sz 0 l.toNat, [], [(nid, some ⟨e, ti.sz, List.replicate l.toNat (zP ti)⟩)]⟩)
    | _, _ => nope
  | none => nope

/-- The elements that a slice holds. -/
def elemsOf (h : Hp) : PV → Option (List (List PV))
  | .own id _ off len => (h id).bind fun pb => if pb.ty < 1000000000 then some ((pb.es.drop off).take len) else none
  | .d (.imm es) => some (es.map (·.map .d))
  | .d (.val (.slice none 0 0)) => some []
  | _ => none
def footOf : PV → List Nat
  | .own id _ _ _ => [id]
  | _ => []

def lenP : PV → Nat
  | .own _ _ _ len => len
  | .d (.imm es) => es.length
  | _ => 0

def stAppend (C : Cx) (sl : Option (TypeId × TI)) (h : Hp) (p q : PV) (nid : Nat) : Out := match sl with
  | some (e, ti) => match elemsOf h q with
    | some new => match p with
      | .own id sz off len => match h id with
        | some pb => (pb.ty < 1000000000 ∧ off = 0 ∧ len ≤ pb.es.length ∧ sz = ti.sz ∧ pb.sz = ti.sz ∧ pb.ty = e ∧ (id ∈ C.T ∨ C.n0 ≤ id) ∧ (len + new.length) * ti.bytes ≤ 140737488355328 ∧ len + new.length ≤ 140737488355328 ∧ ti.zero.length = ti.sz ∧ ti.sz ≠ 0 ∧ ti.zero.all (·.oneCell') = true ∧ (∀ c ∈ new, c.length = ti.sz) ∧ new.length = lenP q,
            ⟨.own nid ti.sz 0 (len + new.length), id :: footOf q, [(id, none), (nid, some ⟨e, ti.sz, pb.es.take len ++ new⟩)]⟩)
        | none => nope
      | .d (.val (.slice none 0 0)) => (new.length * ti.bytes ≤ 140737488355328 ∧ new.length ≤ 140737488355328 ∧ ti.zero.length = ti.sz ∧ ti.sz ≠ 0 ∧ ti.zero.all (·.oneCell') = true ∧ (∀ c ∈ new, c.length = ti.sz) ∧ new.length = lenP q,
            ⟨.own nid ti.sz 0 new.length, footOf q, [(nid, some ⟨e, ti.sz, new⟩)]⟩)
      | _ => nope
    | none => nope
  | none => nope

section sound
variable {P : Program} {C : Cx} {o : Oper} {nid : Nat} {σ : Core}

theorem ok_move {x : Operand} (ho : o.op = .move x) (hd : dstOk C o = true) (hx : opndOk x = true) : OpOK P C o nid σ ⟨evP σ.t x, [], []⟩ :=
  .value hd fun _ _ a E hs => ⟨a.eval x, by simp [execOp, ho], hs.eval x hx⟩
theorem ok_assign {x : Operand} (ho : o.op = .assign x) (hd : dstOk C o = true) (hx : opndOk x = true) : OpOK P C o nid σ ⟨evP σ.t x, [], []⟩ :=
  .value hd fun _ _ a E hs => ⟨a.eval x, by simp [execOp, ho], hs.eval x hx⟩

theorem vr_val {rd : Rd} {β : Bt} {x v : Value} (h : VR rd β (.d (.val x)) v) : v = x := by
  cases h with
  | d _ _ h => cases h; rfl

theorem ok_pick {c x y : Operand} (ho : o.op = .pick c x y) (hd : dstOk C o = true) (hc : opndOk c = true) (hx : opndOk x = true) (hy : opndOk y = true)
    (h : (stPick (evP σ.t c) (evP σ.t x) (evP σ.t y)).1) : OpOK P C o nid σ (stPick (evP σ.t c) (evP σ.t x) (evP σ.t y)).2 := by
  unfold stPick at h ⊢
  split at h
  · rename_i q hq
    simp only [hq]
    refine .value hd fun _ _ a E hs => ?_
    have e := hs.eval c hc
    rw [hq] at e
    have e := vr_val e
    refine ⟨if q then a.eval x else a.eval y, ?_, ?_⟩
    · simp only [execOp, ho, e, asBool]
      cases q <;> simp
    · cases q
      · simpa using hs.eval y hy
      · simpa using hs.eval x hx
  · exact h.elim

theorem addr_add (b o n : Nat) : (⟨b, o, none⟩ : Addr).add n = ⟨b, o + n, none⟩ := by
  unfold Addr.add; split <;> simp_all

theorem run_loadVar_cells {ti : TI} {t : TypeId} (ht : tI P t = some ti) (w : World) (b off : Nat) (vs : List Value) (hn : ti.sz ≤ vs.length) (hone : ti.agg = true ∨ ti.sz = 1)
    (hc : ∀ (j : Nat) v, vs[j]? = some v → w.cell? ⟨b, off + j, none⟩ = some v) :
    (loadVar t ⟨b, off, none⟩).run P w = .ok (if ti.agg then .agg (vs.take ti.sz).toArray else vs.headD undef) w := by
  unfold loadVar
  simp only [Sem.run_bind, run_agg ht w, Result.andThen_ok]
  by_cases hagg : ti.agg = true
  · simp only [hagg, if_true, Sem.run_bind, run_sz ht w, Result.andThen_ok]
    have hl := run_loadCells_list (P := P) w ⟨b, off, none⟩ (vs.take ti.sz) (fun j v hj => by
      rw [addr_add]
      rw [List.getElem?_take] at hj
      split at hj
      · exact hc j v hj
      · cases hj)
    rw [show (vs.take ti.sz).length = ti.sz from by simp; omega] at hl
    rw [hl]; rfl
  · have h1 : ti.sz = 1 := hone.resolve_left hagg
    cases vs with
    | nil => simp at hn; omega
    | cons v r =>
      have := hc 0 v rfl
      simp only [Nat.add_zero] at this
      simp [hagg, this]

theorem vr_ldP {rd : Rd} {β : Bt} {ti : TI} {ps : List PV} {vs : List Value} (hl : vs.length = ps.length) (hn : ti.sz ≤ ps.length) (hone : ti.agg = true ∨ ti.sz = 1) (h1 : ∀ v ∈ vs, v.oneCell' = true)
    (hel : ∀ (j : Nat) p v, ps[j]? = some p → vs[j]? = some v → VR rd β p v) : VR rd β (ldP ti ps) (if ti.agg then .agg (vs.take ti.sz).toArray else vs.headD undef) := by
  unfold ldP
  by_cases hagg : ti.agg = true
  · simp only [hagg, if_true]
    refine .agg _ _ (by simp [hl]) (fun v hv => h1 v (List.mem_of_mem_take hv)) (fun j p v hp hv => ?_)
    rw [List.getElem?_take] at hp hv
    split at hp
    · rename_i hj
      rw [if_pos hj] at hv
      exact hel j p v hp hv
    · cases hp
  · have hs1 : ti.sz = 1 := hone.resolve_left hagg
    simp only [hagg, Bool.false_eq_true, if_false]
    cases ps with
    | nil => simp at hn; omega
    | cons p r =>
      cases vs with
      | nil => simp at hl
      | cons v r' => exact hel 0 p v rfl rfl

/-- The cells of element 'i' of a row, from 'o' on. -/
theorem flatten_at {α : Type} : ∀ (es : List (List α)) (sz i j : Nat) (e : List α), (∀ e ∈ es, e.length = sz) → es[i]? = some e → j < sz → es.flatten[i * sz + j]? = e[j]?
  | [], _, _, _, _, _, h, _ => by simp at h
  | x :: r, sz, 0, j, e, hsz, h, hj => by
    simp at h; subst h
    have := hsz x (by simp)
    simp [List.getElem?_append, this, hj]
  | x :: r, sz, i + 1, j, e, hsz, h, hj => by
    have hx := hsz x (by simp)
    have := flatten_at r sz i j e (fun e he => hsz e (by simp [he])) (by simpa using h) hj
    rw [List.flatten_cons, List.getElem?_append_right (by rw [hx, Nat.succ_mul]; omega), hx]
    rw [← this]
    congr 1
    rw [Nat.succ_mul]; omega

theorem vr_ptr {rd : Rd} {β : Bt} {id i o : Nat} {v : Value} (h : VR rd β (.ptr id i o) v) : ∃ b sz tot, β id = some ⟨some b, sz, tot⟩ ∧ v = .pointer (some ⟨b, i * sz + o, none⟩) := by
  cases h with
  | ptr _ _ _ b sz tot hβ => exact ⟨b, sz, tot, hβ, rfl⟩

theorem getD_of {α : Type} {l : List α} {i : Nat} {d : α} (h : i < l.length) : l[i]? = some (l.getD i d) := by
  simp [List.getD, h]

/-- What a pointer into a row leads to. -/
theorem row_cells {E0 : Env} {fr : Nat → Prop} {a : Act} {E : Env} (hs : SatF E0 C fr σ a E) {id i oo : Nat} {pb : PB} {v : Value} (hh : σ.h id = some pb) (hty : pb.ty < 1000000000) (hi : i < pb.es.length) (hv : E.vr (.ptr id i oo) v) :
    ∃ b tot cur, E.β id = some ⟨some b, pb.sz, tot⟩ ∧ v = .pointer (some ⟨b, i * pb.sz + oo, none⟩) ∧ E.w.heap[b]? = some (.cells cur pb.ty (0, 0)) ∧ cur.size = tot * pb.sz ∧ pb.es.length ≤ tot ∧ (∀ v ∈ cur.toList, v.oneCell' = true) ∧
      (pb.es.getD i []).length = pb.sz ∧ (∀ j p, (pb.es.getD i [])[j]? = some p → ∃ v, cur[i * pb.sz + j]? = some v ∧ E.vr p v) := by
  obtain ⟨b, sz, tot, hβ, rfl⟩ := vr_ptr hv
  obtain ⟨l, hl, hrow⟩ := hs.ok.heap.row id pb hh
  rw [hβ] at hl; cases hl
  have hsz : sz = pb.sz := hrow.sz
  subst hsz
  obtain ⟨_, cur, hc0, hcell, h1⟩ := hrow.blk b rfl
  obtain ⟨hc, hcs, ht, _⟩ := hc0.cells hty
  have he := getD_of (d := []) hi
  have hlen := hrow.el _ (List.mem_of_getElem? he)
  refine ⟨b, tot, cur, hβ, rfl, hc, hcs, ht, h1, hlen, fun j p hp => ?_⟩
  have hj : j < pb.sz := by
    rw [← hlen]
    exact (List.getElem?_eq_some_iff.1 hp).1
  have := flatten_at pb.es pb.sz i j _ hrow.el he hj
  exact hcell (i * pb.sz + j) p (this.trans hp)

theorem cell_of_heap {w : World} {b k : Nat} {cur : Array Value} {ty : TypeId} {fz : Nat × Nat} (h : w.heap[b]? = some (.cells cur ty fz)) : w.cell? ⟨b, k, none⟩ = cur[k]? := by
  simp [World.cell?, h]

theorem cells_list {rd : Rd} {β : Bt} {cur : Array Value} {k : Nat} : ∀ {ps : List PV}, (∀ (j : Nat) p, ps[j]? = some p → ∃ v, cur[k + j]? = some v ∧ VR rd β p v) →
    ∃ vs : List Value, vs.length = ps.length ∧ (∀ (j : Nat) v, vs[j]? = some v → cur[k + j]? = some v) ∧ (∀ (j : Nat) p v, ps[j]? = some p → vs[j]? = some v → VR rd β p v) := by
  intro ps h
  refine ⟨(List.range ps.length).map fun j => cur.getD (k + j) undef, by simp, fun j v hv => ?_, fun j p v hp hv => ?_⟩
  · rw [List.getElem?_map] at hv
    cases hr : (List.range ps.length)[j]? with
    | none => rw [hr] at hv; cases hv
    | some j' =>
      rw [hr] at hv
      have hlt := (List.getElem?_eq_some_iff.1 hr).1
      simp at hlt
      have hj' : j' = j := by rw [List.getElem?_range hlt] at hr; cases hr; rfl
      subst hj'
      cases hv
      obtain ⟨u, hu, _⟩ := h j' ps[j'] (by simp [hlt])
      simp only [Array.getD_eq_getD_getElem?, hu, Option.getD_some]
  · have hlt := (List.getElem?_eq_some_iff.1 hp).1
    obtain ⟨u, hu, hvr⟩ := h j p hp
    rw [List.getElem?_map, List.getElem?_range hlt] at hv
    simp only [Option.map_some, Array.getD_eq_getD_getElem?, hu, Option.getD_some] at hv
    cases hv
    exact hvr

theorem vr_pim {rd : Rd} {β : Bt} {cs : List DV} {v : Value} (h : VR rd β (.pim cs) v) : ∃ (b off : Nat) (cur : Array Value) (vs : List Value), v = .pointer (some ⟨b, off, none⟩) ∧ vs.length = cs.length ∧ rd b = some cur ∧ (∀ (j : Nat) v, vs[j]? = some v → cur[off + j]? = some v) ∧
    (∀ (j : Nat) d v, cs[j]? = some d → vs[j]? = some v → DR rd d v) := by
  cases h with
  | pim _ b off cur vs h1 h2 h3 h4 => exact ⟨b, off, cur, vs, rfl, h1, h2, h3, h4⟩

theorem rd_cell {E : Env} {b k : Nat} {cur : Array Value} (h : E.rd b = some cur) : E.w.cell? ⟨b, k, none⟩ = cur[k]? := by
  unfold Env.rd rdOf at h
  split at h
  · split at h
    · rename_i c ty fz hb
      cases h
      exact cell_of_heap hb
    · cases h
  · cases h

theorem ok_load {T : TypeId} {x : Operand} (ho : o.op = .load T x) (hd : dstOk C o = true) (hx : opndOk x = true) (h : (stLoad (tI P T) (evP σ.t x) σ.h).1) : OpOK P C o nid σ (stLoad (tI P T) (evP σ.t x) σ.h).2 := by
  unfold stLoad at h ⊢
  split at h
  · rename_i ti id i oo hti hp
    split at h
    · rename_i pb hpb
      simp only [hpb]
      obtain ⟨h0, h1, h2, h3⟩ := h
      refine .value hd fun E0 fr a E hs => ?_
      have e := hs.eval x hx
      rw [hp] at e
      obtain ⟨b, tot, cur, hβ, hv, hc, hcs, ht, hone, hlen, hcell⟩ := row_cells hs hpb h0 h1 e
      obtain ⟨vs, hvl, hvc, hvr⟩ := cells_list (k := i * pb.sz + oo) (ps := (pb.es.getD i []).drop oo) (rd := E.rd) (β := E.β) (cur := cur) (fun j p hj => by
        rw [List.getElem?_drop] at hj
        obtain ⟨u, hu, hur⟩ := hcell (oo + j) p hj
        exact ⟨u, by rw [Nat.add_assoc]; exact hu, hur⟩)
      have hld : vs.length = ((pb.es.getD i []).drop oo).length := hvl
      have hlen2 : ((pb.es.getD i []).drop oo).length = pb.sz - oo := by rw [List.length_drop, hlen]
      refine ⟨_, ?_, vr_ldP hvl (by rw [hlen2]; omega) h3 (fun v hv => ?_) hvr⟩
      · have hr := run_loadVar_cells (P := P) hti E.w b (i * pb.sz + oo) vs (by rw [hvl, hlen2]; omega) h3 (fun j v hj => by rw [cell_of_heap hc]; exact hvc j v hj)
        simp only [execOp, ho, hv, Instr.loadAt, Instr.sureAddr, Sem.run_bind, Sem.run_pure, Result.andThen_ok, hr]
      · obtain ⟨j, hj⟩ := List.mem_iff_getElem?.1 hv
        exact hone v (by have := hvc j v hj; exact List.mem_iff_getElem?.2 ⟨_, by simpa using this⟩)
    · exact h.elim
  · rename_i ti cs hti hp
    simp only [hti, hp]
    obtain ⟨h2, h3⟩ := h
    refine .value hd fun E0 fr a E hs => ?_
    have e := hs.eval x hx
    rw [hp] at e
    obtain ⟨b, off, cur, vs, hv, hvl, hb, hvc, hvr⟩ := vr_pim e
    refine ⟨_, ?_, vr_ldP (ps := cs.map .d) (vs := vs) (by simpa using hvl) (by simpa using h2) h3 (fun v hv => ?_) (fun j p v hp hv => ?_)⟩
    · have hr := run_loadVar_cells (P := P) hti E.w b off vs (by omega) h3 (fun j v hj => by rw [rd_cell hb]; exact hvc j v hj)
      simp only [execOp, ho, hv, Instr.loadAt, Instr.sureAddr, Sem.run_bind, Sem.run_pure, Result.andThen_ok, hr]
    · obtain ⟨j, hj⟩ := List.mem_iff_getElem?.1 hv
      have hlt : j < cs.length := by rw [← hvl]; exact (List.getElem?_eq_some_iff.1 hj).1
      exact (hvr j cs[j] v (by simp [hlt]) hj).one
    · rw [List.getElem?_map] at hp
      cases hcj : cs[j]? with
      | none => rw [hcj] at hp; cases hp
      | some d => rw [hcj] at hp; cases hp; exact .d _ _ (hvr j d v hcj hv)
  · exact h.elim

end sound
end Go.PM
