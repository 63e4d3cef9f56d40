/- The pure machine, part 14: freezing a row; contracts of functions; a call. -/
import Derived.Test.YtmljpbhmdjpbaaaPm13
namespace Go.PM
set_option linter.unusedVariables false
set_option linter.unusedSimpArgs false

/-- A row of data becomes immutable. -/
theorem SatF.freeze {E0 : Env} {C : Cx} {fr : Nat → Prop} {σ : Core} {a : Act} {E : Env} (hs : SatF E0 C fr σ a E) {id : Nat} {pb : PB} {ds : List (List DV)} (hh : σ.h id = some pb) (hds : pb.es = up ds) (hperm : id ∈ C.T ∨ C.n0 ≤ id) (hty : pb.ty < 1000000000) :
    ∃ E' : Env, E'.w = E.w ∧ E'.β = E.β ∧ SatF E0 C fr (σ.frz id ds) a E' := by
  obtain ⟨l, hl, hrow⟩ := hs.ok.heap.row id pb hh
  have hperm' : ∀ j ∈ [id], j ∈ C.T ∨ E0.β j = none := by
    intro j hj
    rw [List.mem_singleton] at hj
    subst hj
    rcases hperm with h | h
    · exact .inl h
    · exact .inr (hs.n0 j h)
  -- the block, if there is one, joins the immutable ones
  let E' : Env := { E with I := fun b => E.I b || (l.b == some b) }
  have hx : Ext [id] E E' := {
    i := fun b hb => by show (E.I b || _) = true; rw [hb]; rfl
    β := fun _ _ h => h
    new := fun j x b hj hn hb => by
      have hj' : E.β j = some x := hj
      rw [hj'] at hn; cases hn
    newI := fun b hb => by
      have hb' : (E.I b || (l.b == some b)) = true := hb
      rw [Bool.or_eq_true] at hb'
      rcases hb' with h | h
      · exact .inl h
      · exact .inr (.inr ⟨id, by simp, l, hl, by simpa using h⟩)
    os := rfl
    tape := rfl
    output := rfl
    size := Nat.le_refl _
    block := fun _ _ _ => rfl
    imm := fun _ _ => rfl }
  have hrow' : ∀ (sz off len : Nat) (v : Value), VR E.rd E.β (.own id sz off len) v → off + len ≤ ds.length → DR E'.rd (.imm ((ds.drop off).take len)) v := by
    intro sz off len v hv hb
    have hv' := hx.vr hv
    cases hlb : l.b with
    | none =>
      obtain ⟨lb, lsz, ltot⟩ := l
      simp only at hlb
      subst hlb
      cases hv with
      | ownNil _ _ h2 =>
        have : (ds.drop 0).take 0 = [] := by simp
        rw [this]
        exact .nil
      | own _ _ _ cap b _ tot ad h2 => rw [hl] at h2; cases h2
    | some b =>
      obtain ⟨_, cur, hcS, hcell, hone⟩ := hrow.blk b hlb
      obtain ⟨hc, hcs, htot, htm⟩ := hcS.cells hty
      obtain ⟨lb, lsz, ltot⟩ := l
      simp only at hlb
      subst hlb
      have hlsz : lsz = pb.sz := hrow.sz
      subst hlsz
      have hrd : E'.rd b = some cur := by
        show rdOf E'.I E'.w b = some cur
        unfold rdOf
        rw [if_pos (by show (E.I b || (some b == some b)) = true; simp)]
        show (match E.w.heap[b]? with | some (.cells cur _ _) => some cur | _ => none) = some cur
        rw [hc]
      have hels : ∀ e ∈ ds, e.length = pb.sz := by
        intro e he
        have := hrow.el (e.map .d) (by rw [hds]; exact List.mem_map.2 ⟨e, he, rfl⟩)
        simpa using this
      refine dr_of_own (β := E'.β) (show E'.β id = _ from hl) hrd hels (fun j d hd => ?_) hv' hb
      have hp : pb.es.flatten[j]? = some (.d d) := by
        rw [hds, flatten_map_map, List.getElem?_map, hd]; rfl
      obtain ⟨u, hu, hvr⟩ := hcell j _ hp
      refine ⟨u, hu, ?_⟩
      cases hvr with
      | d _ _ h => exact h.mono hx.rd
  refine ⟨E', rfl, rfl, ⟨⟨⟨?_, ?_⟩, hs.ok.fresh, ?_⟩, hs.n0, hs.ext.trans hx hperm', fun k v hk => ?_, hs.defers, hs.size, fun k hk => ?_⟩⟩
  · intro j pbj hj
    have hj' : (if j = id then none else (σ.h j).map (PB.frz id ds)) = some pbj := hj
    split at hj'
    · cases hj'
    · rename_i hne
      cases hsj : σ.h j with
      | none => rw [hsj] at hj'; cases hj'
      | some p0 =>
        rw [hsj] at hj'
        cases hj'
        obtain ⟨lj, hlj, hrj⟩ := hs.ok.heap.row j p0 hsj
        refine ⟨lj, hlj, ⟨hrj.sz, ?_, ?_, ?_, ?_⟩⟩
        · intro e he
          obtain ⟨e0, he0, rfl⟩ := List.mem_map.1 he
          simp only [List.length_map]
          exact hrj.el e0 he0
        · intro e he p hp
          obtain ⟨e0, he0, rfl⟩ := List.mem_map.1 he
          obtain ⟨p0, hp0, rfl⟩ := List.mem_map.1 hp
          exact PV.frz_cell (hrj.cell e0 he0 p0 hp0)
        · intro hb
          have := hrj.nl hb
          refine ⟨?_, this.2⟩
          simp [PB.frz, this.1]
        · intro b hb
          obtain ⟨hI, cur, hc, hcell, hone⟩ := hrj.blk b hb
          refine ⟨?_, cur, hc.congr rfl rfl (by simp [PB.frz]), ?_, hone⟩
          · show (E.I b || (l.b == some b)) = false
            rw [hI, Bool.false_or]
            cases hlb : l.b with
            | none => rfl
            | some c =>
              have : c ≠ b := by
                intro e; subst e
                exact hne (hs.ok.heap.inj j id p0 pb lj l c hsj hh hlj hl hb hlb)
              simp [this]
          · intro k p hp
            have hp' : (p0.es.flatten.map (PV.frz id ds))[k]? = some p := by
              rw [← flatten_map_map]; exact hp
            rw [List.getElem?_map] at hp'
            cases hk : p0.es.flatten[k]? with
            | none => rw [hk] at hp'; cases hp'
            | some q =>
              rw [hk] at hp'; cases hp'
              obtain ⟨u, hu, hvr⟩ := hcell k q hk
              exact ⟨u, hu, VR.frz hx.rd (fun _ _ h => h) hrow' hvr⟩
  · intro j j' pbj pbj' l1 l2 b hj hj' hl1 hl2 hb1 hb2
    have aux : ∀ k pk, (σ.frz id ds).h k = some pk → ∃ p0, σ.h k = some p0 := by
      intro k pk hk
      have hk' : (if k = id then none else (σ.h k).map (PB.frz id ds)) = some pk := hk
      split at hk'
      · cases hk'
      · cases hsk : σ.h k with
        | none => rw [hsk] at hk'; cases hk'
        | some p0 => exact ⟨p0, rfl⟩
    obtain ⟨p1, hp1⟩ := aux j pbj hj
    obtain ⟨p2, hp2⟩ := aux j' pbj' hj'
    exact hs.ok.heap.inj j j' p1 p2 l1 l2 b hp1 hp2 hl1 hl2 hb1 hb2
  · intro b hb
    have hb' : (E.I b || (l.b == some b)) = true := hb
    rw [Bool.or_eq_true] at hb'
    rcases hb' with h | h
    · exact hs.ok.ibound b h
    · exact hs.ok.heap.lt hh hl (by simpa using h)
  · exact VR.frz hx.rd (fun _ _ h => h) hrow' (hs.slots k v hk)
  · show (σ.t k).frz id ds = .any
    rw [hs.hi k hk]; rfl

/-! ### Contracts -/
abbrev Rows := List (Nat × PB)
def rowsH (F : Rows) : Hp := fun id => (F.find? fun x => x.1 == id).map (·.2)
def hasId (F : Rows) (id : Nat) : Bool := F.any fun x => x.1 == id

def VRs (rd : Rd) (β : Bt) (ps : List PV) (vs : List Value) : Prop := vs.length = ps.length ∧ ∀ (j : Nat) p v, ps[j]? = some p → vs[j]? = some v → VR rd β p v

/-- A Go function, with a body. -/
def GoFn (P : Program) (f : FuncId) : Prop := ∃ fn, P.funcs[f]? = some fn ∧ (fn.name == "runtime.NumGoroutine") = false ∧ fn.body.isNone = false

/-- 'f' called with 'args', where the rows 'F' lie: it returns 'r n'; the rows of F that 'G' still lists are as G says; rows 'news' have been made and are named n, n + 1, ..; of the older memory only the rows 'T' may have been written. -/
def HCall (P : Program) (f : FuncId) (args : List PV) (F : Rows) (T : List Nat) (r : Nat → PV) (G : Rows) (news : List PB) : Prop :=
  GoFn P f ∧ ∀ (E : Env) (n : Nat) (vals : List Value), OkE E (rowsH F) (fun id => n ≤ id) → (∀ x ∈ F, x.1 < n) → (∀ id l, E.β id = some l → hasId F id = true) → VRs E.rd E.β args vals →
    Calls P f vals.toArray E.w fun e w' => ∃ (v : Value) (E' : Env), E'.w = w' ∧ e = .returned v ∧ Ext T E E' ∧ OkE E' (rowsH (G ++ (news.zipIdx n).map fun x => (x.2, x.1))) (fun id => n + news.length ≤ id) ∧ (∀ id, id < n → E'.β id = E.β id) ∧ E'.vr (r n) v

theorem rowsH_has {F : Rows} {id : Nat} {pb : PB} (h : rowsH F id = some pb) : (id, pb) ∈ F ∧ hasId F id = true := by
  unfold rowsH at h
  cases hf : F.find? (fun x => x.1 == id) with
  | none => rw [hf] at h; cases h
  | some x =>
    rw [hf] at h
    cases h
    have h1 := List.find?_some hf
    have h2 := List.mem_of_find?_eq_some hf
    have : x.1 = id := by simpa using h1
    refine ⟨by rw [← this]; exact h2, ?_⟩
    unfold hasId
    exact List.any_eq_true.2 ⟨x, h2, h1⟩

theorem hasId_rows {F : Rows} {id : Nat} (h : hasId F id = true) : ∃ pb, rowsH F id = some pb := by
  unfold hasId at h
  obtain ⟨x, hx, he⟩ := List.any_eq_true.1 h
  unfold rowsH
  cases hf : F.find? (fun x => x.1 == id) with
  | none => exact absurd he (by simpa using List.find?_eq_none.1 hf x hx)
  | some y => exact ⟨y.2, rfl⟩

section
variable {P : Program} {C : Cx} {o : Oper} {nid : Nat} {σ : Core}

def nRows (n : Nat) (news : List PB) : Rows := (news.zipIdx n).map fun x => (x.2, x.1)

/-- The heap behind a call. -/
def callH (h : Hp) (F G : Rows) (nid : Nat) (news : List PB) : Hp := fun id => if hasId F id then rowsH G id else match rowsH (nRows nid news) id with | some pb => some pb | none => h id

theorem nRows_spec {n : Nat} {news : List PB} {id : Nat} {pb : PB} (h : rowsH (nRows n news) id = some pb) : n ≤ id ∧ id < n + news.length := by
  have := (rowsH_has h).1
  unfold nRows at this
  obtain ⟨x, hx, he⟩ := List.mem_map.1 this
  cases he
  obtain ⟨j, hj⟩ := List.mem_iff_getElem?.1 hx
  rw [List.getElem?_zipIdx] at hj
  cases hk : news[j]? with
  | none => rw [hk] at hj; cases hj
  | some y =>
    rw [hk] at hj
    cases hj
    have := (List.getElem?_eq_some_iff.1 hk).1
    exact ⟨by simp, by simpa using this⟩

theorem rowsH_append {F G : Rows} {id : Nat} : rowsH (F ++ G) id = match rowsH F id with | some pb => some pb | none => rowsH G id := by
  unfold rowsH
  rw [List.find?_append]
  cases hf : F.find? (fun x => x.1 == id) <;> simp

/-- A call, by the callee's contract. -/
theorem call_spec {f : FuncId} {args : List PV} {F : Rows} {T : List Nat} {r : Nat → PV} {G : Rows} {news : List PB} (hc : HCall P f args F T r G news) (hF : ∀ x ∈ F, σ.h x.1 = some x.2) (hFn : ∀ x ∈ F, x.1 < nid) (hnl : news.length ≤ 4)
    (hargs : PV.idsInL (hasId F) args = true) (hrows : F.all (fun x => x.2.es.all fun e => PV.idsInL (hasId F) e) = true) (hG : G.all (fun x => hasId F x.1) = true) (hT : T.all (hasId F) = true) (hperm : ∀ id ∈ T, id ∈ C.T ∨ C.n0 ≤ id)
    {E0 : Env} {fr : Nat → Prop} {a : Act} {E : Env} (hs : SatF E0 C fr σ a E) (hfr : ∀ k, k < 4 → fr (nid + k)) {vals : List Value} (hv : VRs E.rd E.β args vals) :
    Calls P f vals.toArray E.w fun e w' => ∃ (v : Value) (E' : Env), E'.w = w' ∧ e = .returned v ∧ E'.vr (r nid) v ∧ SatF E0 C (fun j => fr j ∧ ¬ (nid ≤ j ∧ j < nid + 4)) ⟨σ.t, callH σ.h F G nid news⟩ a E' := by
  let Ec : Env := { E with β := fun id => if hasId F id then E.β id else none }
  have hβc : ∀ id l, hasId F id = true → E.β id = some l → Ec.β id = some l := fun id l h1 h2 => by show (if hasId F id then E.β id else none) = _; rw [if_pos h1]; exact h2
  have hβc' : ∀ id l, Ec.β id = some l → hasId F id = true ∧ E.β id = some l := by
    intro id l h
    have h' : (if hasId F id then E.β id else none) = some l := h
    split at h'
    · rename_i h1; exact ⟨h1, h'⟩
    · cases h'
  have hlt : ∀ id, hasId F id = true → id < nid := by
    intro id h
    obtain ⟨x, hx, he⟩ := List.any_eq_true.1 h
    have := hFn x hx
    have e : x.1 = id := by simpa using he
    omega
  have hFrow : ∀ id pb, rowsH F id = some pb → σ.h id = some pb := fun id pb h => hF (id, pb) (rowsH_has h).1
  have hFsome : ∀ id, hasId F id = true → ∃ pb, rowsH F id = some pb ∧ σ.h id = some pb := fun id h => by
    obtain ⟨pb, hp⟩ := hasId_rows h
    exact ⟨pb, hp, hFrow id pb hp⟩
  have hrd : Ec.rd = E.rd := rfl
  have hok : OkE Ec (rowsH F) (fun id => nid ≤ id) := by
    refine ⟨⟨?_, ?_⟩, ?_, hs.ok.ibound⟩
    · intro id pb h
      obtain ⟨l, hl, hrow⟩ := hs.ok.heap.row id pb (hFrow id pb h)
      refine ⟨l, hβc id l (rowsH_has h).2 hl, ⟨hrow.sz, hrow.el, hrow.cell, hrow.nl, fun b hb => ?_⟩⟩
      obtain ⟨h1, cur, h2, h6, h7⟩ := hrow.blk b hb
      refine ⟨h1, cur, h2, fun j p hp => ?_, h7⟩
      obtain ⟨u, hu, hvr⟩ := h6 j p hp
      refine ⟨u, hu, VR.restrict (S := hasId F) hβc hvr ?_⟩
      obtain ⟨e, he, hpe⟩ := List.mem_flatten.1 (List.mem_of_getElem? hp)
      exact PV.idsInL_mem (List.all_eq_true.1 (List.all_eq_true.1 hrows (id, pb) (rowsH_has h).1) e he) p hpe
    · intro id id' pb pb' l l' b h1 h2 h3 h4 h5 h6
      exact hs.ok.heap.inj id id' pb pb' l l' b (hFrow _ _ h1) (hFrow _ _ h2) (hβc' _ _ h3).2 (hβc' _ _ h4).2 h5 h6
    · intro id hid
      show (if hasId F id then E.β id else none) = none
      rw [if_neg (fun h => absurd (hlt id h) (Nat.not_lt.mpr hid))]
  have hvc : VRs Ec.rd Ec.β args vals := ⟨hv.1, fun j p v hp hv2 => VR.restrict (S := hasId F) hβc (hv.2 j p v hp hv2) (PV.idsInL_mem hargs p (List.mem_of_getElem? hp))⟩
  refine (hc.2 Ec nid vals hok hFn (fun id l h => (hβc' id l h).1) hvc).mono ?_
  rintro e w' ⟨v, Ec', hw, he, hx, hok', hβ', hvr⟩
  -- the caller's names beside the callee's
  let E' : Env := { Ec' with β := fun id => if nid ≤ id ∧ id < nid + 4 then Ec'.β id else E.β id }
  have hcx : ∀ id l, Ec'.β id = some l → E'.β id = some l := by
    intro id l h
    show (if nid ≤ id ∧ id < nid + 4 then Ec'.β id else E.β id) = some l
    split
    · exact h
    · rename_i hn
      by_cases hlow : id < nid
      · rw [hβ' id hlow] at h
        exact (hβc' id l h).2
      · have : Ec'.β id = none := hok'.fresh id (by omega)
        rw [this] at h; cases h
  have hEx : ∀ id l, E.β id = some l → E'.β id = some l := by
    intro id l h
    show (if nid ≤ id ∧ id < nid + 4 then Ec'.β id else E.β id) = some l
    rw [if_neg]
    · exact h
    · intro hb
      have := hs.ok.fresh (nid + (id - nid)) (hfr (id - nid) (by omega))
      rw [show nid + (id - nid) = id by omega] at this
      rw [this] at h; cases h
  have hTF : ∀ id ∈ T, hasId F id = true := fun id hid => List.all_eq_true.1 hT id hid
  have hxE : Ext T E E' := {
    i := hx.i
    β := hEx
    new := fun id l b hl hn hb => by
      have hl' : (if nid ≤ id ∧ id < nid + 4 then Ec'.β id else E.β id) = some l := hl
      split at hl'
      · rename_i hin
        have hcn : Ec.β id = none := by
          show (if hasId F id then E.β id else none) = none
          rw [hn]; split <;> rfl
        rcases hx.new id l b hl' hcn hb with h | ⟨id0, h0, l0, hl0, hb0⟩
        · exact .inl h
        · exact .inr ⟨id0, h0, l0, (hβc' _ _ hl0).2, hb0⟩
      · rw [hn] at hl'; cases hl'
    newI := fun b hb => by
      rcases hx.newI b hb with h | h | ⟨id0, h0, l0, hl0, hb0⟩
      · exact .inl h
      · exact .inr (.inl h)
      · exact .inr (.inr ⟨id0, h0, l0, (hβc' _ _ hl0).2, hb0⟩)
    os := hx.os
    tape := hx.tape
    output := hx.output
    size := hx.size
    block := fun k hk hno => hx.block k hk (fun id hid l hl => hno id hid l (hβc' _ _ hl).2)
    imm := hx.imm }
  -- a row that was not lent is untouched
  have hout : ∀ id pb l b, hasId F id = false → σ.h id = some pb → E.β id = some l → l.b = some b → E'.w.heap[b]? = E.w.heap[b]? ∧ E'.I b = false := by
    intro id pb l b hnF hh hl hb
    have hlt2 := hs.ok.heap.lt hh hl hb
    have noT : ∀ id0 ∈ T, ∀ l0, E.β id0 = some l0 → l0.b ≠ some b := by
      intro id0 h0 l0 hl0 hb0
      obtain ⟨pb0, _, hh0⟩ := hFsome id0 (hTF id0 h0)
      have := hs.ok.heap.inj id id0 pb pb0 l l0 b hh hh0 hl hl0 hb hb0
      subst this
      rw [hTF id h0] at hnF; cases hnF
    refine ⟨hxE.block b hlt2 noT, ?_⟩
    cases hI : E'.I b with
    | false => rfl
    | true =>
      rcases hxE.newI b hI with h | h | ⟨id0, h0, l0, hl0, hb0⟩
      · obtain ⟨l1, hl1, hrow⟩ := hs.ok.heap.row id pb hh
        rw [hl] at hl1; cases hl1
        rw [(hrow.blk b hb).1] at h; cases h
      · omega
      · exact absurd hb0 (noT id0 h0 l0 hl0)
  have hGF : ∀ id pb, rowsH G id = some pb → hasId F id = true := fun id pb h => List.all_eq_true.1 hG (id, pb) (rowsH_has h).1
  -- the callee's heap
  have hcal : ∀ id pb, callH σ.h F G nid news id = some pb → (rowsH (G ++ nRows nid news) id = some pb) ∨ (hasId F id = false ∧ rowsH (nRows nid news) id = none ∧ σ.h id = some pb) := by
    intro id pb h
    unfold callH at h
    split at h
    · left; rw [rowsH_append, h]
    · rename_i hnF
      cases hn : rowsH (nRows nid news) id with
      | some p =>
        rw [hn] at h
        left
        rw [rowsH_append]
        cases hg : rowsH G id with
        | some q => exact absurd (hGF id q hg) hnF
        | none => rw [hn]; exact h
      | none =>
        rw [hn] at h
        exact .inr ⟨by simpa using hnF, rfl, h⟩
  have hok2 : OkE Ec' (rowsH (G ++ nRows nid news)) (fun id => nid + news.length ≤ id) := hok'
  refine ⟨v, E', hw, he, VR.mono (rd := Ec'.rd) (rd' := E'.rd) (fun _ _ h => h) hcx hvr, ⟨⟨⟨?_, ?_⟩, ?_, hok'.ibound⟩, hs.n0, hs.ext.trans hxE (fun id hid => ?_), fun k u hk => hxE.vr (hs.slots k u hk), hs.defers, hs.size, hs.hi⟩⟩
  · intro id pb h
    rcases hcal id pb h with h1 | ⟨hnF, hnn, hh⟩
    · obtain ⟨l, hl, hrow⟩ := hok2.heap.row id pb h1
      refine ⟨l, hcx id l hl, ⟨hrow.sz, hrow.el, hrow.cell, hrow.nl, fun b hb => ?_⟩⟩
      obtain ⟨h1, cur, h2, h6, h7⟩ := hrow.blk b hb
      exact ⟨h1, cur, h2, h6.mono (fun _ _ h => h) hcx, h7⟩
    · obtain ⟨l, hl, hrow⟩ := hs.ok.heap.row id pb hh
      exact ⟨l, hEx id l hl, RowAt.mono (E := E) (E' := E') hxE hrow (fun b hb => (hout id pb l b hnF hh hl hb).2) (fun b hb => (hout id pb l b hnF hh hl hb).1)⟩
  · intro id id' pb pb' l l' b h h' hl hl' hb hb'
    have key : ∀ i j p q li lj c, rowsH (G ++ nRows nid news) i = some p → hasId F j = false → σ.h j = some q → E'.β i = some li → E'.β j = some lj → li.b = some c → lj.b = some c → False := by
      intro i j p q li lj c hi hjF hj hli hlj hbi hbj
      obtain ⟨li', hli', hrowi⟩ := hok2.heap.row i p hi
      have e1 := hcx i li' hli'
      rw [hli] at e1; cases e1
      obtain ⟨lj', hlj', hrowj⟩ := hs.ok.heap.row j q hj
      have e2 := hEx j lj' hlj'
      rw [hlj] at e2; cases e2
      have hcl := hs.ok.heap.lt hj hlj' hbj
      cases hci : Ec.β i with
      | some lo =>
        obtain ⟨hiF, hio⟩ := hβc' i lo hci
        have := hx.β i lo hci
        rw [hli'] at this; cases this
        obtain ⟨pi, _, hhi⟩ := hFsome i hiF
        have := hs.ok.heap.inj i j pi q li lj c hhi hj hio hlj' hbi hbj
        subst this
        rw [hiF] at hjF; cases hjF
      | none =>
        rcases hx.new i li c hli' hci hbi with h1 | ⟨id0, h0, l0, hl0, hb0⟩
        · have : E.w.heap.size ≤ c := h1
          omega
        · obtain ⟨h0F, h0β⟩ := hβc' id0 l0 hl0
          obtain ⟨p0, _, hh0⟩ := hFsome id0 h0F
          have := hs.ok.heap.inj id0 j p0 q l0 lj c hh0 hj h0β hlj' hb0 hbj
          subst this
          rw [h0F] at hjF; cases hjF
    rcases hcal id pb h with h1 | ⟨hnF, _, hh⟩ <;> rcases hcal id' pb' h' with h2 | ⟨hnF', _, hh'⟩
    · obtain ⟨li, hli, _⟩ := hok2.heap.row id pb h1
      obtain ⟨lj, hlj, _⟩ := hok2.heap.row id' pb' h2
      have e1 := hcx id li hli
      have e2 := hcx id' lj hlj
      rw [hl] at e1; cases e1
      rw [hl'] at e2; cases e2
      exact hok2.heap.inj id id' pb pb' l l' b h1 h2 hli hlj hb hb'
    · exact (key id id' pb pb' l l' b h1 hnF' hh' hl hl' hb hb').elim
    · exact (key id' id pb' pb l' l b h2 hnF hh hl' hl hb' hb).elim
    · obtain ⟨li, hli, _⟩ := hs.ok.heap.row id pb hh
      obtain ⟨lj, hlj, _⟩ := hs.ok.heap.row id' pb' hh'
      have e1 := hEx id li hli
      have e2 := hEx id' lj hlj
      rw [hl] at e1; cases e1
      rw [hl'] at e2; cases e2
      exact hs.ok.heap.inj id id' pb pb' l l' b hh hh' hli hlj hb hb'
  · intro id ⟨hid, hnot⟩
    show (if nid ≤ id ∧ id < nid + 4 then Ec'.β id else E.β id) = none
    rw [if_neg hnot]; exact hs.ok.fresh id hid
  · rcases hperm id hid with h | h
    · exact .inl h
    · exact .inr (hs.n0 id h)

end
end Go.PM
