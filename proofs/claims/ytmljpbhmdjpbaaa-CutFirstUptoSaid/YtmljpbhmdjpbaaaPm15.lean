/- The pure machine, part 15: one operation, a region in the order of its text. -/
import Derived.Test.YtmljpbhmdjpbaaaPm14
import Derived.Test.YtmljpbhmdjpbaaaPmMap
import Derived.Test.YtmljpbhmdjpbaaaPmCp
namespace Go.PM
set_option linter.unusedVariables false
set_option linter.unusedSimpArgs false

def stepCall (P : Program) (C : Cx) (t : Nat → PV) (h : Hp) (nid : Nat) (c : Call) : Out :=
  match c.callee, c.args.toList, c.argTypes.toList with
  | .builtin .len, [x], [T] => (opndOk x = true ∧ (stLen (P.underlying T) (evP t x)).1, (stLen (P.underlying T) (evP t x)).2)
  | .builtin .min, [x, y], [_, _] => (opndOk x = true ∧ opndOk y = true ∧ (stMin (evP t x) (evP t y)).1, (stMin (evP t x) (evP t y)).2)
  | .builtin .max, [x, y], [_, _] => (opndOk x = true ∧ opndOk y = true ∧ (stMax (evP t x) (evP t y)).1, (stMax (evP t x) (evP t y)).2)
  | .builtin .append, [x, y], [T, T'] => (T = T' ∧ opndOk x = true ∧ opndOk y = true ∧ (stAppend C (tSl P T) h (evP t x) (evP t y) nid).1, (stAppend C (tSl P T) h (evP t x) (evP t y) nid).2)
  | .builtin .copy, [x, y], [T, _] => (opndOk x = true ∧ opndOk y = true ∧ (stCopy C (tSl P T) h (evP t x) (evP t y)).1, (stCopy C (tSl P T) h (evP t x) (evP t y)).2)
  | _, _, _ => nope

def stBinA (tb : Option (List LK)) (b : BinOp) (ut : Option TypeDesc) (y : Operand) : PV → PV → Out
  | .agg cs, .agg cs' => stAggEq tb b cs cs'
  | p, q => stBin b ut y p q

theorem stBinA_d (tb : Option (List LK)) (b : BinOp) (ut : Option TypeDesc) (y : Operand) (d : DV) (q : PV) : stBinA tb b ut y (.d d) q = stBin b ut y (.d d) q := rfl
theorem stBinA_own (tb : Option (List LK)) (b : BinOp) (ut : Option TypeDesc) (y : Operand) (i s o l : Nat) (q : PV) : stBinA tb b ut y (.own i s o l) q = stBin b ut y (.own i s o l) q := rfl
theorem stBinA_agg (tb : Option (List LK)) (b : BinOp) (ut : Option TypeDesc) (y : Operand) (cs cs' : List PV) : stBinA tb b ut y (.agg cs) (.agg cs') = stAggEq tb b cs cs' := rfl

def opndsOk (ps : List (Nat × Operand)) : Bool := ps.all fun x => opndOk x.2
def optOk : Option Operand → Bool
  | some x => opndOk x
  | none => true

/-- What an operation does that calls no Go function. -/
def stepO (P : Program) (C : Cx) (t : Nat → PV) (h : Hp) (nid : Nat) (op : Op) : Out :=
  match op with
  | .move x => (opndOk x = true, ⟨evP t x, [], []⟩)
  | .assign x => (opndOk x = true, ⟨evP t x, [], []⟩)
  | .pick c x y => (opndOk c = true ∧ opndOk x = true ∧ opndOk y = true ∧ (stPick (evP t c) (evP t x) (evP t y)).1, (stPick (evP t c) (evP t x) (evP t y)).2)
  | .alloc T => stAlloc (tI P T) T nid
  | .box T x => (opndOk x = true ∧ (stBox T (evP t x) nid).1, (stBox T (evP t x) nid).2)
  | .build T parts => (opndsOk parts.toList = true ∧ (stBuild (tSt P T) (tAr P T) (tI P T) (parts.toList.map fun x => (x.1, evP t x.2))).1, (stBuild (tSt P T) (tAr P T) (tI P T) (parts.toList.map fun x => (x.1, evP t x.2))).2)
  | .buildSlice T len parts => (opndsOk parts.toList = true ∧ (stBuildSlice (tSl P T) len (parts.toList.map fun x => (x.1, evP t x.2)) nid).1, (stBuildSlice (tSl P T) len (parts.toList.map fun x => (x.1, evP t x.2)) nid).2)
  | .load T x => (opndOk x = true ∧ (stLoad (tI P T) (evP t x) h).1, (stLoad (tI P T) (evP t x) h).2)
  | .store T x y => (opndOk x = true ∧ opndOk y = true ∧ (stStore C (tI P T) (evP t x) (evP t y) h).1, (stStore C (tI P T) (evP t x) (evP t y) h).2)
  | .nilCheck x => (opndOk x = true ∧ (stNilCheck (evP t x)).1, (stNilCheck (evP t x)).2)
  | .binOp b T x y _ => (opndOk x = true ∧ opndOk y = true ∧ (stBinA (tEq P T) b (P.underlying T) y (evP t x) (evP t y)).1, (stBinA (tEq P T) b (P.underlying T) y (evP t x) (evP t y)).2)
  | .unOp u _ x => (opndOk x = true ∧ (stUn u (evP t x)).1, (stUn u (evP t x)).2)
  | .convert T T' x => (opndOk x = true ∧ (stConvert (P.underlying T) (P.underlying T') (evP t x)).1, (stConvert (P.underlying T) (P.underlying T') (evP t x)).2)
  | .makeFunc f first caps => (first.toList.all opndOk = true ∧ caps.toList.all opndOk = true, (stMakeFunc t f first caps).2)
  | .makeSlice T x y => (opndOk x = true ∧ opndOk y = true ∧ (stMakeSlice (tSl P T) (evP t x) (evP t y) nid).1, (stMakeSlice (tSl P T) (evP t x) (evP t y) nid).2)
  | .slice T x lo hi none => (opndOk x = true ∧ optOk lo = true ∧ optOk hi = true ∧ (stSlice2 (tSl P T) (P.underlying T) (evP t x) (lo.map (evP t)) (hi.map (evP t))).1, (stSlice2 (tSl P T) (P.underlying T) (evP t x) (lo.map (evP t)) (hi.map (evP t))).2)
  | .fieldAddr T x f => (opndOk x = true ∧ (stFieldAddr (tSt P T) f (evP t x)).1, (stFieldAddr (tSt P T) f (evP t x)).2)
  | .field T x f => (opndOk x = true ∧ (stField (tSt P T) f (evP t x)).1, (stField (tSt P T) f (evP t x)).2)
  | .indexAddr T x y => (opndOk x = true ∧ opndOk y = true ∧ (stIndexAddr (tSl P T) (tAr P T) (evP t x) (evP t y)).1, (stIndexAddr (tSl P T) (tAr P T) (evP t x) (evP t y)).2)
  | .index T x y => (opndOk x = true ∧ opndOk y = true ∧ (tAr P T = none → P.underlying T = some .string) ∧ (stIndex (tAr P T) (evP t x) (evP t y)).1, (stIndex (tAr P T) (evP t x) (evP t y)).2)
  | .extract x k => (opndOk x = true ∧ (stExtract (evP t x) k).1, (stExtract (evP t x) k).2)
  | .makeMap T none => stMakeMap (tMp P T) nid
  | .lookup T x y q => (opndOk x = true ∧ opndOk y = true ∧ (stLookup (tMp P T) h (evP t x) (evP t y) q).1, (stLookup (tMp P T) h (evP t x) (evP t y) q).2)
  | .mapUpdate T x y z => (opndOk x = true ∧ opndOk y = true ∧ opndOk z = true ∧ (stMapUpdate C (tMp P T) h (evP t x) (evP t y) (evP t z)).1, (stMapUpdate C (tMp P T) h (evP t x) (evP t y) (evP t z)).2)
  | .call c => stepCall P C t h nid c
  | _ => nope

section
variable {P : Program} {C : Cx} {o : Oper} {nid : Nat} {σ : Core}

theorem arr_of {α : Type} {xs : Array α} {l : List α} (h : xs.toList = l) : xs = l.toArray := by rw [← h]

theorem stepCall_ok {c : Call} (ho : o.op = .call c) (hd : dstOk C o = true) (h : (stepCall P C σ.t σ.h nid c).1) : OpOK P C o nid σ (stepCall P C σ.t σ.h nid c).2 := by
  obtain ⟨callee, args, types⟩ := c
  unfold stepCall at h ⊢
  simp only at h ⊢
  split at h
  · rename_i x T e1 e2
    obtain ⟨h1, h2⟩ := h
    have a1 := arr_of e1; have a2 := arr_of e2
    subst a1; subst a2
    exact ok_len ho hd h1 h2
  · rename_i x y T T' e1 e2
    obtain ⟨h1, h2, h3⟩ := h
    have a1 := arr_of e1; have a2 := arr_of e2
    subst a1; subst a2
    exact ok_min ho hd h1 h2 h3
  · rename_i x y T T' e1 e2
    obtain ⟨h1, h2, h3⟩ := h
    have a1 := arr_of e1; have a2 := arr_of e2
    subst a1; subst a2
    exact ok_max ho hd h1 h2 h3
  · rename_i x y T T' e1 e2
    obtain ⟨h0, h1, h2, h3⟩ := h
    have a1 := arr_of e1; have a2 := arr_of e2
    subst a1; subst a2; subst h0
    exact ok_append ho hd h1 h2 h3
  · rename_i x y T T' e1 e2
    obtain ⟨h1, h2, h3⟩ := h
    have a1 := arr_of e1; have a2 := arr_of e2
    subst a1; subst a2
    exact ok_copy ho hd h1 h2 h3
  · exact h.elim

theorem optOk_all {x : Option Operand} (h : optOk x = true) : ∀ y, x = some y → opndOk y = true := by
  intro y hy; subst hy; exact h

theorem stepO_ok (hd : dstOk C o = true) (h : (stepO P C σ.t σ.h nid o.op).1) : OpOK P C o nid σ (stepO P C σ.t σ.h nid o.op).2 := by
  generalize ho : o.op = op at h ⊢
  unfold stepO at h ⊢
  split at h
  · exact ok_move ho hd h
  · exact ok_assign ho hd h
  · exact ok_pick ho hd h.1 h.2.1 h.2.2.1 h.2.2.2
  · exact ok_alloc ho hd h
  · exact ok_box ho hd h.1 h.2
  · exact ok_build ho hd h.1 h.2
  · exact ok_buildSlice ho hd h.1 h.2
  · exact ok_load ho hd h.1 h.2
  · exact ok_store ho hd h.1 h.2.1 h.2.2
  · exact ok_nilCheck ho hd h.1 h.2
  · rename_i b T x y T'
    obtain ⟨g1, g2, g3⟩ := h
    show OpOK P C o nid σ (stBinA (tEq P T) b (P.underlying T) y (evP σ.t x) (evP σ.t y)).2
    unfold stBinA at g3 ⊢
    split at g3
    · rename_i cs cs' e1 e2
      exact ok_aggEq ho hd g1 g2 e1 e2 g3
    · exact ok_bin ho hd g1 g2 g3
  · exact ok_un ho hd h.1 h.2
  · exact ok_convert ho hd h.1 h.2
  · exact ok_makeFunc ho hd h.1 h.2
  · exact ok_makeSlice ho hd h.1 h.2.1 h.2.2
  · exact ok_slice ho hd h.1 (optOk_all h.2.1) (optOk_all h.2.2.1) h.2.2.2
  · exact ok_fieldAddr ho hd h.1 h.2
  · exact ok_field ho hd h.1 h.2
  · exact ok_indexAddr ho hd h.1 h.2.1 h.2.2
  · exact ok_index ho hd h.1 h.2.1 h.2.2.1 h.2.2.2
  · exact ok_extract ho hd h.1 h.2
  · exact ok_makeMap ho hd h
  · exact ok_lookup ho hd h.1 h.2.1 h.2.2
  · exact ok_mapUpdate ho hd h.1 h.2.1 h.2.2.1 h.2.2.2
  · exact stepCall_ok ho hd h
  · exact h.elim

/-- A contract that needs no rows and makes none. -/
def PCall (P : Program) (f : FuncId) (args : List PV) (r : PV) : Prop := HCall P f args [] [] (fun _ => r) [] []

theorem callH_nil (h : Hp) (nid : Nat) : callH h [] [] nid [] = h := by
  funext id
  simp [callH, hasId, nRows, rowsH]

/-- A call of a Go function, by a contract. -/
def callK (P : Program) (C : Cx) (σ : Core) (nid : Nat) (dst : Option Tmp) (f : FuncId) (args : List PV) (K : Core → Prop) : Prop :=
  (∃ r, PCall P f args r ∧ PV.idsInL (fun _ => false) args = true ∧ K (σ.put dst r)) ∨
  (∃ F T r G news, HCall P f args F T r G news ∧ (∀ x ∈ F, σ.h x.1 = some x.2) ∧ (∀ x ∈ F, x.1 < nid) ∧ news.length ≤ 4 ∧ PV.idsInL (hasId F) args = true ∧ F.all (fun x => x.2.es.all fun e => PV.idsInL (hasId F) e) = true ∧
    G.all (fun x => hasId F x.1) = true ∧ T.all (hasId F) = true ∧ (∀ id ∈ T, id ∈ C.T ∨ C.n0 ≤ id) ∧ K (Core.put ⟨σ.t, callH σ.h F G nid news⟩ dst (r nid)))

theorem run_callFunc {f : FuncId} (h : GoFn P f) (args : Array Value) (w : World) : (callFunc f args).run P w = .ok (.enter f args) w := by
  obtain ⟨fn, h1, h2, h3⟩ := h
  simp only [callFunc, Sem.run_bind, run_program, Result.andThen_ok, h1, h2, h3, Bool.false_eq_true, if_false, Sem.run_pure]

theorem vrs_append {rd : Rd} {β : Bt} {ps qs : List PV} {us vs : List Value} (h : VRs rd β ps us) (k : VRs rd β qs vs) : VRs rd β (ps ++ qs) (us ++ vs) := by
  refine ⟨by simp [h.1, k.1], fun j p v hp hv => ?_⟩
  rw [List.getElem?_append] at hp hv
  rw [h.1] at hv
  split at hp
  · rename_i hj; rw [if_pos hj] at hv; exact h.2 j p v hp hv
  · rename_i hj; rw [if_neg hj] at hv; exact k.2 _ p v hp hv

theorem callK_ok {c : Call} {x : Operand} {f : FuncId} {first caps : List PV} (ho : o.op = .call c) (hc : c.callee = .value x) (hx : opndOk x = true) (hxs : c.args.toList.all opndOk = true) (hev : evP σ.t x = .fn (.func f) first caps) (hd : dstOk C o = true)
    {K : Core → Prop} (h : callK P C σ nid o.dst f (first ++ c.args.toList.map (evP σ.t) ++ caps) K) {E0 : Env} {fr : Nat → Prop} {a : Act} {E : Env} (hs : SatF E0 C fr σ a E) (hfr : ∀ k, k < 4 → fr (nid + k)) {Kc : Act → World → Prop} {Q : Exit → Act → World → Prop}
    (hK : ∀ (σ' : Core) (v : Value) (E' : Env), K σ' → SatF E0 C (fun j => fr j ∧ ¬ (nid ≤ j ∧ j < nid + 4)) σ' (a.put o.dst v) E' → Kc (a.put o.dst v) E'.w) : o.wp P a E.w Kc Q := by
  have ex := hs.eval x hx
  rw [hev] at ex
  generalize hax : a.eval x = vx at ex
  cases ex with
  | fn _ _ _ us vs hu hv h1 h2 =>
    have hmid : VRs E.rd E.β (c.args.toList.map (evP σ.t)) (c.args.toList.map a.eval) := by
      refine ⟨by simp, fun j p v hp hv => ?_⟩
      rw [List.getElem?_map] at hp hv
      cases hj : c.args.toList[j]? with
      | none => rw [hj] at hp; cases hp
      | some y =>
        rw [hj] at hp hv; cases hp; cases hv
        exact hs.eval y (List.all_eq_true.1 hxs y (List.mem_of_getElem? hj))
    have hall : VRs E.rd E.β (first ++ c.args.toList.map (evP σ.t) ++ caps) (us ++ c.args.toList.map a.eval ++ vs) := vrs_append (vrs_append ⟨hu, h1⟩ hmid) ⟨hv, h2⟩
    have harr : us.toArray ++ c.args.map a.eval ++ vs.toArray = (us ++ c.args.toList.map a.eval ++ vs).toArray := by
      apply Array.ext'; simp
    have run : GoFn P f → (execOp a.eval o).run P E.w = .ok (.enter f (us ++ c.args.toList.map a.eval ++ vs).toArray) E.w := by
      intro hg
      simp only [execOp, ho, resolve, hc, hax, Deferred.ofValue, Sem.run_bind, Sem.run_pure, Result.andThen_ok, invoke, run_callFunc hg, harr]
    rcases h with ⟨r, hp, hids, hk⟩ | ⟨F, T, r, G, news, hp, g1, g2, g3, g4, g5, g6, g7, g8, hk⟩
    · have := call_spec (σ := σ) (C := C) (nid := nid) hp (by simp) (by simp) (by simp) hids rfl rfl rfl (by simp) hs hfr hall
      unfold Oper.wp
      rw [run hp.1]
      refine this.mono ?_
      rintro e w' ⟨v, E', hw, rfl, hvr, hs'⟩
      rw [callH_nil] at hs'
      subst hw
      exact hK _ v E' hk (hs'.put o.dst (dstOk_lt hd) hvr)
    · have := call_spec (σ := σ) (C := C) (nid := nid) hp g1 g2 g3 g4 g5 g6 g7 g8 hs hfr hall
      unfold Oper.wp
      rw [run hp.1]
      refine this.mono ?_
      rintro e w' ⟨v, E', hw, rfl, hvr, hs'⟩
      subst hw
      exact hK _ v E' hk (hs'.put o.dst (dstOk_lt hd) hvr)

/-- One operation. -/
def opK (P : Program) (C : Cx) (o : Oper) (nid : Nat) (σ : Core) (K : Core → Prop) : Prop :=
  match o.op with
  | .call c => match c.callee with
    | .value x => match evP σ.t x with
      | .fn (.func f) first caps => opndOk x = true ∧ c.args.toList.all opndOk = true ∧ callK P C σ nid o.dst f (first ++ c.args.toList.map (evP σ.t) ++ caps) K
      | _ => False
    | _ => (stepCall P C σ.t σ.h nid c).1 ∧ K (σ.app o.dst (stepCall P C σ.t σ.h nid c).2)
  | op => (stepO P C σ.t σ.h nid op).1 ∧ K (σ.app o.dst (stepO P C σ.t σ.h nid op).2)

theorem opK_ok (hd : dstOk C o = true) {K : Core → Prop} (h : opK P C o nid σ K) {E0 : Env} {fr : Nat → Prop} {a : Act} {E : Env} (hs : SatF E0 C fr σ a E) (hfr : ∀ k, k < 4 → fr (nid + k)) {Kc : Act → World → Prop} {Q : Exit → Act → World → Prop}
    (hK : ∀ (σ' : Core) (v : Value) (E' : Env), K σ' → SatF E0 C (fun j => fr j ∧ ¬ (nid ≤ j ∧ j < nid + 4)) σ' (a.put o.dst v) E' → Kc (a.put o.dst v) E'.w) : o.wp P a E.w Kc Q := by
  unfold opK at h
  split at h
  · rename_i c ho
    split at h
    · rename_i x hc
      split at h
      · rename_i f first caps hev
        exact callK_ok ho hc h.1 h.2.1 hev hd h.2.2 hs hfr hK
      · exact h.elim
    · have := stepCall_ok (P := P) (C := C) (o := o) (nid := nid) (σ := σ) ho hd h.1
      exact this E0 fr a E hs hfr Kc Q (fun v E' h' => hK _ v E' h.2 h')
  · have := stepO_ok (P := P) (C := C) (o := o) (nid := nid) (σ := σ) hd h.1
    exact this E0 fr a E hs hfr Kc Q (fun v E' h' => hK _ v E' h.2 h')

/-- What a guard has been decided to. -/
def gval (ops : Array Oper) (t : Nat → PV) (j : Nat) (want : Bool) : Option Bool :=
  match (ops[j]?).bind (·.dst) with
  | some d => match t d with | .d (.val (.bool b)) => some b | .tup [] => some (!want) | _ => none
  | none => none
theorem vr_undef (rd : Rd) (β : Bt) : VR rd β (.tup []) undef := .tup [] [] rfl (fun j p v h _ => by simp at h)

def runOps (P : Program) (C : Cx) (ops : Array Oper) : List Oper → Nat → Core → (Core → Prop) → Prop
  | [], _, σ, K => K σ
  | o :: r, nid, σ, K => dstOk C o = true ∧ (match o.guard with
    | none => opK P C o nid σ (fun σ' => runOps P C ops r (nid + 4) σ' K)
    | some (j, want) => match gval ops σ.t j want with
      | some b => if b = want then opK P C o nid σ (fun σ' => runOps P C ops r (nid + 4) σ' K) else runOps P C ops r (nid + 4) (σ.put o.dst (.tup [])) K
      | none => False)

theorem gval_yielded {ops : Array Oper} {E0 : Env} {fr : Nat → Prop} {a : Act} {E : Env} (hs : SatF E0 C fr σ a E) {j : Nat} {b want : Bool} (h : gval ops σ.t j want = some b) : (yielded ops a.tmps j == some want) = (b == want) := by
  unfold gval at h
  unfold yielded
  cases hd : (ops[j]?).bind (·.dst) with
  | none => rw [hd] at h; cases h
  | some d =>
    rw [hd] at h
    simp only at h
    split at h
    · rename_i b' hp
      cases h
      have hlt : d < a.tmps.size := by
        rcases Nat.lt_or_ge d a.tmps.size with h | h
        · exact h
        · rw [hs.hi d (by rw [← hs.size]; exact h)] at hp; cases hp
      have hv : a.tmps[d]? = some a.tmps[d] := by simp [hlt]
      have := hs.slots d _ hv
      rw [hp] at this
      have := vr_val this
      simp only [Option.bind_some, hv, this]
      rfl
    · rename_i hp
      cases h
      have hlt : d < a.tmps.size := by
        rcases Nat.lt_or_ge d a.tmps.size with h | h
        · exact h
        · rw [hs.hi d (by rw [← hs.size]; exact h)] at hp; cases hp
      have hv : a.tmps[d]? = some a.tmps[d] := by simp [hlt]
      have := hs.slots d _ hv
      rw [hp] at this
      obtain ⟨vs, h1, _⟩ := vr_tup this
      simp only [Option.bind_some, hv, h1]
      cases want <;> rfl
    · cases h

theorem runOps_ok {ops : Array Oper} {E0 : Env} {Q : Exit → Act → World → Prop} : ∀ (l : List Oper) (k nid : Nat) (σ : Core) (K : Core → Prop), (∀ j, l[j]? = ops[k + j]?) → runOps P C ops l nid σ K → ∀ (fr : Nat → Prop) (a : Act) (E : Env), SatF E0 C fr σ a E → (∀ id, nid ≤ id → fr id) →
    (∀ (σ' : Core) (a' : Act) (E' : Env), K σ' → SatF E0 C (fun j => nid + 4 * l.length ≤ j) σ' a' E' → Q .normal a' E'.w) → wpOps P ops Q (List.range' k l.length) a E.w
  | [], k, nid, σ, K, _, h, fr, a, E, hs, hfr, hQ => by
    simp only [List.length_nil, List.range'_zero, wpOps]
    exact hQ σ a E h (hs.fr_mono fun j hj => hfr j (by simpa using hj))
  | o :: r, k, nid, σ, K, hl, h, fr, a, E, hs, hfr, hQ => by
    have h0 : ops[k]? = some o := by simpa using (hl 0).symm
    have hl' : ∀ j, r[j]? = ops[k + 1 + j]? := fun j => by have := hl (j + 1); simpa [Nat.add_assoc, Nat.add_comm 1 j] using this
    simp only [List.length_cons, List.range'_succ, wpOps, h0]
    unfold runOps at h
    obtain ⟨hd, h⟩ := h
    have ih : ∀ (σ' : Core) (a' : Act) (E' : Env), runOps P C ops r (nid + 4) σ' K → SatF E0 C (fun j => fr j ∧ ¬ (nid ≤ j ∧ j < nid + 4)) σ' a' E' → wpOps P ops Q (List.range' (k + 1) r.length) a' E'.w := by
      intro σ' a' E' hr' hs'
      refine runOps_ok r (k + 1) (nid + 4) σ' K hl' hr' _ a' E' hs' (fun id hid => ⟨hfr id (by omega), by omega⟩) (fun σ2 a2 E2 hK2 hs2 => hQ σ2 a2 E2 hK2 (hs2.fr_mono fun j hj => ?_))
      have : nid + 4 + 4 * r.length ≤ j := by
        have hj' : nid + 4 * (r.length + 1) ≤ j := hj
        omega
      exact this
    have wanted : Region.wanted o (yielded ops a.tmps) = true → opK P C o nid σ (fun σ' => runOps P C ops r (nid + 4) σ' K) → (if Region.wanted o (yielded ops a.tmps) then o.wp P a E.w (wpOps P ops Q (List.range' (k + 1) r.length)) Q ∨ (o.asks P a E.w ∧ LetsOut Q) else wpOps P ops Q (List.range' (k + 1) r.length) (a.put o.dst undef) E.w) := by
      intro hw hop
      rw [if_pos hw]
      exact .inl (opK_ok hd hop hs (fun j _ => hfr _ (by omega)) (fun σ' v E' hr' hs' => ih σ' _ E' hr' hs'))
    split at h
    · rename_i hg
      exact wanted (by simp [Region.wanted, hg]) h
    · rename_i j want hg
      split at h
      · rename_i b hb
        have hy := gval_yielded hs hb
        by_cases hbw : b = want
        · exact wanted (by simp only [Region.wanted, hg, hy, hbw]; simp) (by rw [if_pos hbw] at h; exact h)
        · have hw : Region.wanted o (yielded ops a.tmps) = false := by simp only [Region.wanted, hg, hy]; simpa using hbw
          rw [hw]
          simp only [Bool.false_eq_true, if_false]
          exact ih _ _ E (by rw [if_neg hbw] at h; exact h) ((hs.put o.dst (dstOk_lt hd) (vr_undef _ _)).fr_mono fun j hj => hj.1)
      · exact h.elim

end
end Go.PM
