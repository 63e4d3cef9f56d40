/- The pure machine, part 18: a region that draws its order: one walk in the order of the text serves every order. -/
import Derived.Test.YtmljpbhmdjpbaaaPm17
import Derived.Still
namespace Go.PM
set_option linter.unusedVariables false
set_option linter.unusedSimpArgs false

section
variable {P : Program} {C : Cx}

theorem stLoad_congr {ti : Option TI} {p : PV} {h h2 : Hp} (hf : ∀ id ∈ (stLoad ti p h).2.foot, h2 id = h id) (h1 : (stLoad ti p h).1) : stLoad ti p h2 = stLoad ti p h := by
  unfold stLoad at *
  split at h1
  · rename_i ti id i o
    split at h1
    · rename_i pb hpb
      simp only [hpb] at hf
      have := hf id (by simp)
      simp only [this, hpb]
    · exact h1.elim
  · rfl
  · exact h1.elim

theorem stStore_congr {ti : Option TI} {p v : PV} {h h2 : Hp} (hf : ∀ id ∈ (stStore C ti p v h).2.foot, h2 id = h id) (h1 : (stStore C ti p v h).1) : stStore C ti p v h2 = stStore C ti p v h := by
  unfold stStore at *
  split at h1
  · rename_i ti id i o
    split at h1
    · rename_i pb hpb
      simp only [hpb] at hf
      have := hf id (by simp)
      simp only [this, hpb]
    · exact h1.elim
  · exact h1.elim

theorem stLookup_congr {mt : Option (List LK × Value)} {p q : PV} {h h2 : Hp} {w : Bool} (hf : ∀ id ∈ (stLookup mt h p q w).2.foot, h2 id = h id) (h1 : (stLookup mt h p q w).1) : stLookup mt h2 p q w = stLookup mt h p q w := by
  unfold stLookup at *
  split at h1
  · rename_i ks z id cs
    split at h1
    · rename_i pb kv hh hkv
      simp only [hh, hkv] at hf ⊢
      split at h1
      · rename_i r hr
        simp only [hr] at hf
        rw [hf id (by simp), hh]
        simp only [hr]
      · exact h1.elim
    · exact h1.elim
  · exact h1.elim

theorem stMapUpdate_congr {mt : Option (List LK × Value)} {p q v : PV} {h h2 : Hp} (hf : ∀ id ∈ (stMapUpdate C mt h p q v).2.foot, h2 id = h id) (h1 : (stMapUpdate C mt h p q v).1) : stMapUpdate C mt h2 p q v = stMapUpdate C mt h p q v := by
  unfold stMapUpdate at *
  split at h1
  · rename_i ks z id cs
    split at h1
    · rename_i pb kv hh hkv
      simp only [hh, hkv] at hf ⊢
      split at h1
      · rename_i r hr
        simp only [hr] at hf
        rw [hf id (by simp), hh]
        simp only [hr]
      · exact h1.elim
    · exact h1.elim
  · exact h1.elim

theorem elemsOf_congr {h h2 : Hp} {q : PV} (hf : ∀ id ∈ footOf q, h2 id = h id) : elemsOf h2 q = elemsOf h q := by
  cases q with
  | own id a b c => simp only [elemsOf, hf id (by simp [footOf])]
  | d x =>
    cases x with
    | imm es => rfl
    | val v =>
      cases v with
      | slice a n c => cases a <;> cases n <;> cases c <;> rfl
      | _ => rfl
  | _ => rfl

theorem stAppend_congr {sl : Option (TypeId × TI)} {p q : PV} {h h2 : Hp} {nid : Nat} (hf : ∀ id ∈ (stAppend C sl h p q nid).2.foot, h2 id = h id) (h1 : (stAppend C sl h p q nid).1) : stAppend C sl h2 p q nid = stAppend C sl h p q nid := by
  unfold stAppend at *
  split at h1
  · rename_i e ti
    split at h1
    · rename_i new hnew
      simp only [hnew] at hf
      split at h1
      · rename_i id sz off len
        split at h1
        · rename_i pb hpb
          simp only [hpb] at hf
          have e1 : h2 id = h id := hf id (by simp)
          have e2 : elemsOf h2 q = elemsOf h q := elemsOf_congr fun j hj => hf j (List.mem_cons_of_mem _ hj)
          simp only [e2, hnew, e1, hpb]
        · exact h1.elim
      · simp only at hf
        have e2 : elemsOf h2 q = elemsOf h q := elemsOf_congr fun j hj => hf j hj
        simp only [e2, hnew]
      · exact h1.elim
    · exact h1.elim
  · exact h1.elim

theorem stCopy_congr {sl : Option (TypeId × TI)} {p q : PV} {h h2 : Hp} (hf : ∀ id ∈ (stCopy C sl h p q).2.foot, h2 id = h id) (h1 : (stCopy C sl h p q).1) : stCopy C sl h2 p q = stCopy C sl h p q := by
  unfold stCopy at *
  split at h1
  · rename_i e ti
    split at h1
    · rename_i new hnew
      simp only [hnew] at hf
      split at h1
      · rename_i id sz off len
        split at h1
        · rename_i pb hpb
          simp only [hpb] at hf
          have e1 : h2 id = h id := hf id (by simp)
          have e2 : elemsOf h2 q = elemsOf h q := elemsOf_congr fun j hj => hf j (List.mem_cons_of_mem _ hj)
          simp only [e2, hnew, e1, hpb]
        · exact h1.elim
      · exact h1.elim
    · exact h1.elim
  · exact h1.elim

theorem mem_args {c : Call} {x : Operand} {l : List Operand} (h : c.args.toList = l) (hx : x ∈ l) : x ∈ (Op.call c).operands := by
  show x ∈ c.operands
  unfold Call.operands
  rw [Array.mem_append]
  exact .inr (by rw [← h] at hx; exact Array.mem_toList_iff.1 hx)

theorem stepCall_congr {t t2 : Nat → PV} {h h2 : Hp} {nid : Nat} {c : Call} (h1 : (stepCall P C t h nid c).1) (ht : ∀ x ∈ (Op.call c).operands, evP t2 x = evP t x) (hf : ∀ id ∈ (stepCall P C t h nid c).2.foot, h2 id = h id) :
    stepCall P C t2 h2 nid c = stepCall P C t h nid c := by
  unfold stepCall at *
  split at h1
  · rename_i x T e0 e1 e2
    rw [ht x (mem_args e1 (by simp))]
  · rename_i x y T T' e0 e1 e2
    rw [ht x (mem_args e1 (by simp)), ht y (mem_args e1 (by simp))]
  · rename_i x y T T' e0 e1 e2
    rw [ht x (mem_args e1 (by simp)), ht y (mem_args e1 (by simp))]
  · rename_i x y T T' e0 e1 e2
    simp only [e0, e1, e2] at hf
    rw [ht x (mem_args e1 (by simp)), ht y (mem_args e1 (by simp)), stAppend_congr (h := h) (h2 := h2) hf h1.2.2.2]
  · rename_i x y T T' e0 e1 e2
    simp only [e0, e1, e2] at hf
    rw [ht x (mem_args e1 (by simp)), ht y (mem_args e1 (by simp)), stCopy_congr (h := h) (h2 := h2) hf h1.2.2]
  · exact h1.elim

theorem parts_congr {t t2 : Nat → PV} {parts : Array (Nat × Operand)} (h : ∀ x ∈ (parts.toList.map (·.2)).toArray, evP t2 x = evP t x) : (parts.toList.map fun x => (x.1, evP t2 x.2)) = (parts.toList.map fun x => (x.1, evP t x.2)) := by
  apply List.map_congr_left
  intro x hx
  rw [h x.2 (by simp; exact ⟨x.1, by simpa using hx⟩)]

theorem stepO_congr {t t2 : Nat → PV} {h h2 : Hp} {nid : Nat} {op : Op} (h1 : (stepO P C t h nid op).1) (ht : ∀ x ∈ op.operands, evP t2 x = evP t x) (hf : ∀ id ∈ (stepO P C t h nid op).2.foot, h2 id = h id) : stepO P C t2 h2 nid op = stepO P C t h nid op := by
  cases op with
  | call c => exact stepCall_congr h1 ht hf
  | load T x =>
    have := ht x (by simp [Op.operands])
    simp only [stepO] at *
    rw [this, stLoad_congr (h := h) (h2 := h2) hf h1.2]
  | store T x y =>
    have e1 := ht x (by simp [Op.operands])
    have e2 := ht y (by simp [Op.operands])
    simp only [stepO] at *
    rw [e1, e2, stStore_congr (h := h) (h2 := h2) hf h1.2.2]
  | build T parts =>
    have := parts_congr (t := t) (t2 := t2) (parts := parts) (fun x hx => ht x (by simpa [Op.operands] using hx))
    simp only [stepO] at *
    rw [this]
  | buildSlice T n parts =>
    have := parts_congr (t := t) (t2 := t2) (parts := parts) (fun x hx => ht x (by simpa [Op.operands] using hx))
    simp only [stepO] at *
    rw [this]
  | makeFunc f first caps =>
    simp only [stepO, stMakeFunc] at *
    have e1 : first.toList.map (evP t2) = first.toList.map (evP t) := List.map_congr_left fun x hx => ht x (by simp only [Op.operands, Array.mem_append]; exact .inl (Array.mem_toList_iff.1 hx))
    have e2 : caps.toList.map (evP t2) = caps.toList.map (evP t) := List.map_congr_left fun x hx => ht x (by simp only [Op.operands, Array.mem_append]; exact .inr (Array.mem_toList_iff.1 hx))
    rw [e1, e2]
  | slice T x lo hi mx =>
    cases mx with
    | some _ => exact h1.elim
    | none =>
      have e1 := ht x (by simp [Op.operands])
      simp only [stepO] at *
      have e2 : lo.map (evP t2) = lo.map (evP t) := by
        cases lo with
        | none => rfl
        | some y => rw [Option.map_some, Option.map_some, ht y (by simp [Op.operands])]
      have e3 : hi.map (evP t2) = hi.map (evP t) := by
        cases hi with
        | none => rfl
        | some y => rw [Option.map_some, Option.map_some, ht y (by simp [Op.operands])]
      rw [e1, e2, e3]
  | alloc T => rfl
  | makeMap T r =>
    cases r with
    | none => rfl
    | some _ => exact h1.elim
  | lookup T x y q =>
    have e1 := ht x (by simp [Op.operands])
    have e2 := ht y (by simp [Op.operands])
    simp only [stepO] at *
    rw [e1, e2, stLookup_congr (h := h) (h2 := h2) hf h1.2.2]
  | mapUpdate T x y z =>
    have e1 := ht x (by simp [Op.operands])
    have e2 := ht y (by simp [Op.operands])
    have e3 := ht z (by simp [Op.operands])
    simp only [stepO] at *
    rw [e1, e2, e3, stMapUpdate_congr (h := h) (h2 := h2) hf h1.2.2.2]
  | move x | assign x | box T x | nilCheck x | unOp u T x | convert T T' x | fieldAddr T x f | field T x f | extract x k =>
    have e1 := ht x (by simp [Op.operands])
    simp only [stepO, e1]
  | pick c x y =>
    have e1 := ht c (by simp [Op.operands])
    have e2 := ht x (by simp [Op.operands])
    have e3 := ht y (by simp [Op.operands])
    simp only [stepO, e1, e2, e3]
  | binOp b T x y T' | makeSlice T x y | indexAddr T x y | index T x y =>
    have e1 := ht x (by simp [Op.operands])
    have e2 := ht y (by simp [Op.operands])
    simp only [stepO, e1, e2]
  | _ => exact h1.elim

/-- The operation does this in every state that agrees on what it looks at. -/
def Yl (P : Program) (C : Cx) (ops : Array Oper) (o : Oper) (nid : Nat) (σ : Core) (ε : Eff) : Prop :=
  ∀ σ2 : Core, (∀ k ∈ o.looksAt ops, σ2.t k = σ.t k) → (∀ id ∈ ε.foot, σ2.h id = σ.h id) → OpOK P C o nid σ2 ε

theorem ev_looks {ops : Array Oper} {o : Oper} {t t2 : Nat → PV} (h : ∀ k ∈ o.looksAt ops, t2 k = t k) : ∀ x ∈ o.op.operands, evP t2 x = evP t x := by
  intro x hx
  cases x with
  | tmp k => exact h k (List.mem_append_left _ (List.mem_filterMap.2 ⟨.tmp k, by simpa using hx, rfl⟩))
  | _ => rfl

theorem Yl.step {ops : Array Oper} {o : Oper} {nid : Nat} {σ : Core} (hd : dstOk C o = true) (h : (stepO P C σ.t σ.h nid o.op).1) : Yl P C ops o nid σ (stepO P C σ.t σ.h nid o.op).2 := by
  intro σ2 ht hh
  have e := stepO_congr (t2 := σ2.t) (h2 := σ2.h) h (ev_looks ht) hh
  rw [← e] at h ⊢
  exact stepO_ok hd h

theorem Yl.call {ops : Array Oper} {o : Oper} {nid : Nat} {σ : Core} {c : Call} {x : Operand} {f : FuncId} {first caps : List PV} {r : PV} (hd : dstOk C o = true) (ho : o.op = .call c) (hc : c.callee = .value x) (hx : opndOk x = true) (hxs : c.args.toList.all opndOk = true) (hev : evP σ.t x = .fn (.func f) first caps)
    (hp : PCall P f (first ++ c.args.toList.map (evP σ.t) ++ caps) r) (hids : PV.idsInL (fun _ => false) (first ++ c.args.toList.map (evP σ.t) ++ caps) = true) : Yl P C ops o nid σ ⟨r, [], []⟩ := by
  intro σ2 ht _ E0 fr a E hs hfr K Q hK
  have hlk := ev_looks ht
  rw [ho] at hlk
  have e1 : evP σ2.t x = .fn (.func f) first caps := by
    rw [← hev]
    refine hlk x ?_
    show x ∈ c.operands
    unfold Call.operands
    rw [Array.mem_append, hc]
    exact .inl (by simp)
  have e2 : c.args.toList.map (evP σ2.t) = c.args.toList.map (evP σ.t) := List.map_congr_left fun y hy => hlk y (mem_args rfl hy)
  exact callK_ok (K := fun σ' => σ' = σ2.put o.dst r) ho hc hx hxs e1 hd (by rw [e2]; exact .inl ⟨r, hp, hids, rfl⟩) hs hfr (fun σ' v E' hk hs' => hK v E' (by rw [hk] at hs'; exact hs'))

theorem happ_append (u v : List (Nat × Option PB)) (h : Hp) : happ h (u ++ v) = happ (happ h u) v := by
  induction u generalizing h with
  | nil => rfl
  | cons x u ih => exact ih _

theorem happ_lent (g : Nat → Option PB) (F : Rows) (h : Hp) (id : Nat) : happ h (F.map fun x => (x.1, g x.1)) id = if hasId F id then g id else h id := by
  induction F generalizing h with
  | nil => rfl
  | cons x F ih =>
    show happ (hup h x.1 (g x.1)) (F.map fun x => (x.1, g x.1)) id = _
    rw [ih]
    have e : hasId (x :: F) id = (x.1 == id || hasId F id) := rfl
    rw [e]
    by_cases h1 : hasId F id = true
    · simp [h1]
    · by_cases h2 : x.1 = id
      · subst h2; simp [h1, hup]
      · have : (x.1 == id) = false := by simpa using h2
        simp [h1, this, hup, Ne.symm h2]

theorem happ_news (L : Rows) (h : Hp) (id : Nat) : happ h (L.reverse.map fun x => (x.1, some x.2)) id = match rowsH L id with | some pb => some pb | none => h id := by
  induction L with
  | nil => rfl
  | cons x L ih =>
    rw [List.reverse_cons, List.map_append, happ_append]
    show (if id = x.1 then some x.2 else happ h (L.reverse.map fun x => (x.1, some x.2)) id) = _
    rw [ih]
    unfold rowsH
    rw [List.find?_cons]
    by_cases h2 : x.1 = id
    · subst h2; simp
    · have : (x.1 == id) = false := by simpa using h2
      rw [this, if_neg (Ne.symm h2)]

/-- What a call does, as an effect. -/
def callEff (F G : Rows) (r : Nat → PV) (news : List PB) (nid : Nat) : Eff :=
  ⟨r nid, F.map (·.1), (F.map fun x => (x.1, rowsH G x.1)) ++ ((nRows nid news).reverse.map fun x => (x.1, some x.2))⟩

theorem callEff_happ {F G : Rows} {r : Nat → PV} {news : List PB} {nid : Nat} {h : Hp} (hFn : ∀ x ∈ F, x.1 < nid) : happ h (callEff F G r news nid).up = callH h F G nid news := by
  funext id
  show happ h ((F.map fun x => (x.1, rowsH G x.1)) ++ ((nRows nid news).reverse.map fun x => (x.1, some x.2))) id = _
  rw [happ_append, happ_news, happ_lent]
  unfold callH
  by_cases hF : hasId F id = true
  · rw [if_pos hF, if_pos hF]
    cases hn : rowsH (nRows nid news) id with
    | none => rfl
    | some pb =>
      have := (nRows_spec hn).1
      obtain ⟨x, hx, he⟩ := List.any_eq_true.1 hF
      have h1 := hFn x hx
      have h2 : x.1 = id := by simpa using he
      omega
  · rw [if_neg hF, if_neg hF]
    cases rowsH (nRows nid news) id <;> rfl

/-- A call by a contract: what must hold for it. -/
structure CallOk (P : Program) (C : Cx) (h : Hp) (nid : Nat) (f : FuncId) (args : List PV) (F : Rows) (T : List Nat) (r : Nat → PV) (G : Rows) (news : List PB) : Prop where
  call : HCall P f args F T r G news
  rows : ∀ x ∈ F, h x.1 = some x.2
  lt : ∀ x ∈ F, x.1 < nid
  nl : news.length ≤ 4
  args : PV.idsInL (hasId F) args = true
  inner : F.all (fun x => x.2.es.all fun e => PV.idsInL (hasId F) e) = true
  back : G.all (fun x => hasId F x.1) = true
  wr : T.all (hasId F) = true
  perm : ∀ id ∈ T, id ∈ C.T ∨ C.n0 ≤ id

theorem Yl.callR {ops : Array Oper} {o : Oper} {nid : Nat} {σ : Core} {c : Call} {x : Operand} {f : FuncId} {first caps : List PV} {F : Rows} {T : List Nat} {r : Nat → PV} {G : Rows} {news : List PB} (hd : dstOk C o = true) (ho : o.op = .call c) (hc : c.callee = .value x) (hx : opndOk x = true) (hxs : c.args.toList.all opndOk = true) (hev : evP σ.t x = .fn (.func f) first caps)
    (hp : CallOk P C σ.h nid f (first ++ c.args.toList.map (evP σ.t) ++ caps) F T r G news) : Yl P C ops o nid σ (callEff F G r news nid) := by
  intro σ2 ht hh E0 fr a E hs hfr K Q hK
  have hlk := ev_looks ht
  rw [ho] at hlk
  have e1 : evP σ2.t x = .fn (.func f) first caps := by
    rw [← hev]
    refine hlk x ?_
    show x ∈ c.operands
    unfold Call.operands
    rw [Array.mem_append, hc]
    exact .inl (by simp)
  have e2 : c.args.toList.map (evP σ2.t) = c.args.toList.map (evP σ.t) := List.map_congr_left fun y hy => hlk y (mem_args rfl hy)
  have e3 : ∀ y ∈ F, σ2.h y.1 = some y.2 := fun y hy => (hh y.1 (List.mem_map.2 ⟨y, hy, rfl⟩)).trans (hp.rows y hy)
  exact callK_ok (K := fun σ' => σ' = Core.put ⟨σ2.t, callH σ2.h F G nid news⟩ o.dst (r nid)) ho hc hx hxs e1 hd (by rw [e2]; exact .inr ⟨F, T, r, G, news, hp.call, e3, hp.lt, hp.nl, hp.args, hp.inner, hp.back, hp.wr, hp.perm, rfl⟩) hs hfr (fun σ' v E' hk hs' => hK v E' (by
    rw [hk, ← callEff_happ (r := r) hp.lt] at hs'; exact hs'))

end
end Go.PM
