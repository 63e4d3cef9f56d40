/- The pure machine, part 16: the code of a function, and its contract. -/
import Derived.Test.YtmljpbhmdjpbaaaPm15
namespace Go.PM
set_option linter.unusedVariables false
set_option linter.unusedSimpArgs false

abbrev PPost := Exit → Core → Nat → Prop
def conc (E0 : Env) (C : Cx) (Q : PPost) : Exit → Act → World → Prop := fun e a w => ∃ σ n E, E.w = w ∧ SatF E0 C (fun id => n ≤ id) σ a E ∧ Q e σ n

/-- From every state that fits, the code comes to one of Q. -/
def Tr (P : Program) (C : Cx) (c : Code) (σ : Core) (n : Nat) (Q : PPost) : Prop := ∀ (E0 : Env) (a : Act) (E : Env), SatF E0 C (fun id => n ≤ id) σ a E → c.wp P (conc E0 C Q) a E.w

def PPost.seq (next : Core → Nat → Prop) (Q : PPost) : PPost
  | .normal, σ, n => next σ n
  | e, σ, n => Q e σ n
def PPost.blk (id : Nat) (Q : PPost) : PPost
  | .exit id', σ, n => if id' = id then Q .normal σ n else Q (.exit id') σ n
  | e, σ, n => Q e σ n

section
variable {P : Program} {C : Cx} {σ : Core} {n : Nat} {Q : PPost}

theorem Tr.mono {c : Code} {Q' : PPost} (h : Tr P C c σ n Q) (hq : ∀ e σ n, Q e σ n → Q' e σ n) : Tr P C c σ n Q' :=
  fun E0 a E hs => wp_mono (h E0 a E hs) fun e a w ⟨σ, n, E, h1, h2, h3⟩ => ⟨σ, n, E, h1, h2, hq e σ n h3⟩

theorem Tr.skip (h : Q .normal σ n) : Tr P C .skip σ n Q := fun E0 a E hs => wp_skip ⟨σ, n, E, rfl, hs, h⟩
theorem Tr.label {l : Nat} (h : Q .normal σ n) : Tr P C (.label l) σ n Q := fun E0 a E hs => wp_label ⟨σ, n, E, rfl, hs, h⟩
theorem Tr.exit {id : Nat} (h : Q (.exit id) σ n) : Tr P C (.exit id) σ n Q := fun E0 a E hs => wp_exit ⟨σ, n, E, rfl, hs, h⟩
theorem Tr.ret (h : Q .ret σ n) : Tr P C .ret σ n Q := fun E0 a E hs => wp_ret ⟨σ, n, E, rfl, hs, h⟩

theorem Tr.seq {x y : Code} (h : Tr P C x σ n (PPost.seq (fun σ n => Tr P C y σ n Q) Q)) : Tr P C (.seq x y) σ n Q := by
  intro E0 a E hs
  refine wp_seq (wp_mono (h E0 a E hs) ?_)
  rintro e a w ⟨σ', n', E', rfl, hs', hq⟩
  cases e with
  | normal => exact hq E0 a E' hs'
  | _ => exact ⟨σ', n', E', rfl, hs', hq⟩

theorem Tr.cond {c : Operand} {x y : Code} {q : Bool} (hc : evP σ.t c = .d (.val (.bool q))) (ho : opndOk c = true) (ht : q = true → Tr P C x σ n Q) (hf : q = false → Tr P C y σ n Q) : Tr P C (.cond c x y) σ n Q := by
  intro E0 a E hs
  have := hs.eval c ho
  rw [hc] at this
  exact wp_cond_split (vr_val this) (fun h => ht h E0 a E hs) (fun h => hf h E0 a E hs)

theorem Tr.block {id : Nat} {c : Code} (h : Tr P C c σ n (PPost.blk id Q)) : Tr P C (.block id c) σ n Q := by
  intro E0 a E hs
  refine wp_block (wp_mono (h E0 a E hs) ?_)
  rintro e a w ⟨σ', n', E', rfl, hs', hq⟩
  cases e with
  | exit id' =>
    simp only [PPost.blk] at hq
    simp only [Exit.inBlock]
    split at hq
    · rename_i he; rw [if_pos he]; exact ⟨σ', n', E', rfl, hs', hq⟩
    · rename_i he; rw [if_neg he]; exact ⟨σ', n', E', rfl, hs', hq⟩
  | _ => exact ⟨σ', n', E', rfl, hs', hq⟩

theorem Tr.region {id : Nat} {ops : Array Oper} (h : runOps P C ops ops.toList n σ (fun σ' => Q .normal σ' (n + 4 * ops.size))) : Tr P C (.region id ops false) σ n Q := by
  intro E0 a E hs
  refine wp_region ?_
  have := runOps_ok (E0 := E0) (Q := conc E0 C Q) ops.toList 0 n σ _ (fun j => by simp) h _ a E hs (fun _ h => h) (fun σ' a' E' hK hs' => ⟨σ', n + 4 * ops.size, E', rfl, by simpa using hs', hK⟩)
  rw [List.range_eq_range']
  simpa using this

/-- The same, what follows behind a variable. -/
theorem Tr.regionK {id : Nat} {ops : Array Oper} (h : ∀ K : Core → Prop, (∀ σ', Q .normal σ' (n + 4 * ops.size) → K σ') → runOps P C ops ops.toList n σ K) : Tr P C (.region id ops false) σ n Q :=
  Tr.region (h _ fun _ h => h)

/-- A loop. 'I' holds at every round's head; 'μ' falls from round to round. -/
theorem Tr.loop {c : Code} (I : Core → Nat → Prop) (μ : Core → Nat → Nat) (h0 : I σ n) (round : ∀ σ n, I σ n → Tr P C c σ n (PPost.seq (fun σ' n' => I σ' n' ∧ μ σ' n' < μ σ n) Q)) : Tr P C (.loop c) σ n Q := by
  intro E0 a E hs b kk cs
  have key : ∀ (k : Nat) (σ : Core) (n : Nat) (a : Act) (E : Env), μ σ n = k → I σ n → SatF E0 C (fun id => n ≤ id) σ a E →
      ∃ e a' w', conc E0 C Q e a' w' ∧ Arrives P (lone (b.at a (.code c :: .inLoop c :: kk)) cs E.w) b kk cs e a' w' := by
    intro k
    induction k using Nat.strongRecOn with
    | _ k ih =>
      intro σ n a E hk hI hs
      obtain ⟨e, a1, w1, hq, harr⟩ := round σ n hI E0 a E hs b (.inLoop c :: kk) cs
      obtain ⟨σ1, n1, E1, rfl, hs1, hq1⟩ := hq
      cases e with
      | normal =>
        obtain ⟨hI1, hlt⟩ := hq1
        obtain ⟨e2, a2, w2, hq2, harr2⟩ := ih (μ σ1 n1) (hk ▸ hlt) σ1 n1 a1 E1 rfl hI1 hs1
        exact ⟨e2, a2, w2, hq2, .of_steps (Steps.trans harr (.one step_inLoop)) harr2⟩
      | exit id => exact ⟨_, a1, E1.w, ⟨σ1, n1, E1, rfl, hs1, hq1⟩, .pass (x := .inLoop c) rfl (fun _ _ => .inl (by simp)) harr⟩
      | goto l => exact ⟨_, a1, E1.w, ⟨σ1, n1, E1, rfl, hs1, hq1⟩, .pass (x := .inLoop c) rfl (fun _ _ => .inl (by simp)) harr⟩
      | ret => exact ⟨_, a1, E1.w, ⟨σ1, n1, E1, rfl, hs1, hq1⟩, .pass (x := .inLoop c) rfl (fun _ _ => .inl (by simp)) harr⟩
      | panic ch => exact ⟨_, a1, E1.w, ⟨σ1, n1, E1, rfl, hs1, hq1⟩, .pass (x := .inLoop c) rfl (fun _ _ => .inl (by simp)) harr⟩
      | outgrown => exact ⟨_, a1, E1.w, ⟨σ1, n1, E1, rfl, hs1, hq1⟩, .pass (x := .inLoop c) rfl (fun _ _ => .inl (by simp)) harr⟩
  obtain ⟨e, a', w', hq, harr⟩ := key _ σ n a E rfl h0 hs
  exact ⟨e, a', w', hq, .of_steps (.one step_loop) harr⟩

/-- A row becomes immutable. -/
theorem Tr.freeze {c : Code} {id : Nat} {pb : PB} (ds : List (List DV)) (hh : σ.h id = some pb) (hds : pb.es = up ds) (hperm : id ∈ C.T ∨ C.n0 ≤ id) (hty : pb.ty < 1000000000) (h : Tr P C c (σ.frz id ds) n Q) : Tr P C c σ n Q := by
  intro E0 a E hs
  obtain ⟨E', hw, _, hs'⟩ := hs.freeze hh hds hperm hty
  have := h E0 a E' hs'
  rw [hw] at this
  exact this

/-- What is known may be forgotten. -/
def PVle (p q : PV) : Prop := ∀ rd β v, VR rd β p v → VR rd β q v
theorem PVle.refl (p : PV) : PVle p p := fun _ _ _ h => h
theorem PVle.any (p : PV) : PVle p .any := fun _ _ v _ => .any v
theorem PVle.nil : PVle (.d (.val (.slice none 0 0))) (.d (.imm [])) := fun _ _ _ h => by rw [vr_val h]; exact .d _ _ .nil

theorem Tr.weaken {c : Code} (t' : Nat → PV) (ht : ∀ k, PVle (σ.t k) (t' k)) (hi : ∀ k, C.nt ≤ k → t' k = .any) (h : Tr P C c ⟨t', σ.h⟩ n Q) : Tr P C c σ n Q := by
  intro E0 a E hs
  exact h E0 a E ⟨hs.ok, hs.n0, hs.ext, fun k v hk => ht k _ _ _ (hs.slots k v hk), hs.defers, hs.size, hi⟩

theorem Tr.drop {c : Code} (h' : Hp) (hsub : ∀ id pb, h' id = some pb → σ.h id = some pb) (h : Tr P C c ⟨σ.t, h'⟩ n Q) : Tr P C c σ n Q := fun E0 a E hs => h E0 a E (hs.drop h' hsub)

/-- A nil slice in a slot begins a row of the function's own. -/
theorem Tr.nilOwn {c : Code} (k : Nat) (ty : TypeId) (sz : Nat) (hk : σ.t k = .d (.val (.slice none 0 0))) (h : Tr P C c ⟨upd σ.t k (.own n sz 0 0), hup σ.h n (some ⟨ty, sz, []⟩)⟩ (n + 1) Q) : Tr P C c σ n Q := by
  intro E0 a E hs
  obtain ⟨E', hw, hβ, hx, hs'⟩ := hs.allocNil n (Nat.le_refl n) ty sz
  have := h E0 a E' ⟨⟨hs'.ok.heap, fun id hid => hs'.ok.fresh id ⟨by omega, by omega⟩, hs'.ok.ibound⟩, hs'.n0, hs'.ext, fun j v hj => ?_, hs'.defers, hs'.size, fun j hj => ?_⟩
  · rw [hw] at this; exact this
  · have hv := hs'.slots j v hj
    simp only [upd]
    split
    · rename_i e
      subst e
      rw [hk] at hv
      rw [vr_val hv]
      exact .ownNil _ _ hβ
    · exact hv
  · simp only [upd]
    split
    · rename_i e
      subst e
      have := hs.hi j hj
      rw [hk] at this; cases this
    · exact hs.hi j hj

/-! ### A function -/
def resP (P : Program) (σ : Core) : ResultVar → Out
  | .tmp t => (True, ⟨σ.t t, [], []⟩)
  | .cell a T => stLoad (tI P T) (σ.t a) σ.h

def resAll (P : Program) (σ : Core) (rs : List ResultVar) : Prop := ∀ r ∈ rs, (resP P σ r).1
def resOne (ps : List PV) : PV := match ps with | [p] => p | ps => .tup ps

/-- Where a function may end: its results, and the rows that it hands back. -/
structure Fin (P : Program) (C : Cx) (rs : List ResultVar) (F : Rows) (r : PV) (G : Rows) (σ : Core) : Prop where
  res : resAll P σ rs
  eq : r = resOne (rs.map fun x => (resP P σ x).2.v)
  ids : r.idsIn (hasId F) = true
  rows : ∀ x ∈ G, σ.h x.1 = some x.2 ∧ hasId F x.1 = true ∧ (x.2.es.all fun e => PV.idsInL (hasId F) e) = true

def resRead (tmps : Array Value) : ResultVar → Sem Value
  | .tmp t => pure (tmps.getD t undef)
  | .cell a t => do loadVar t (← asAddr (tmps.getD a undef))

theorem results_eq (fn : Func) (tmps : Array Value) : results fn tmps = (do
    let vs ← fn.results.mapM (resRead tmps)
    pure (if h : vs.size = 1 then vs[0] else .tuple vs)) := by
  unfold results
  congr 1

theorem run_res {E0 : Env} {fr : Nat → Prop} {a : Act} {E : Env} (hs : SatF E0 C fr σ a E) (rv : ResultVar) (h : (resP P σ rv).1) :
    ∃ v, (resRead a.tmps rv).run P E.w = .ok v E.w ∧ E.vr (resP P σ rv).2.v v := by
  unfold resRead
  cases rv with
  | tmp t => exact ⟨a.tmps.getD t undef, rfl, hs.eval (.tmp t) rfl⟩
  | cell x T =>
    simp only [resP] at h ⊢
    unfold stLoad at h ⊢
    split at h
    · rename_i ti id i oo hti hp
      split at h
      · rename_i pb hpb
        simp only [hpb]
        obtain ⟨h0, h1, h2, h3⟩ := h
        have e := hs.eval (.tmp x) rfl
        have e' : E.vr (.ptr id i oo) (a.eval (.tmp x)) := by rw [← hp]; exact e
        obtain ⟨b, tot, cur, hβ, hv, hc, hcs, ht, hone, hlen, hcell⟩ := row_cells hs hpb h0 h1 e'
        obtain ⟨vs, hvl, hvc, hvr⟩ := cells_list (k := i * pb.sz + oo) (ps := (pb.es.getD i []).drop oo) (rd := E.rd) (β := E.β) (cur := cur) (fun j p hj => by
          rw [List.getElem?_drop] at hj
          obtain ⟨u, hu, hur⟩ := hcell (oo + j) p hj
          exact ⟨u, by rw [Nat.add_assoc]; exact hu, hur⟩)
        have hlen2 : ((pb.es.getD i []).drop oo).length = pb.sz - oo := by rw [List.length_drop, hlen]
        have hv' : a.tmps.getD x undef = .pointer (some ⟨b, i * pb.sz + oo, none⟩) := hv
        refine ⟨_, ?_, vr_ldP hvl (by rw [hlen2]; omega) h3 (fun v hv => ?_) hvr⟩
        · have hr := run_loadVar_cells (P := P) hti E.w b (i * pb.sz + oo) vs (by rw [hvl, hlen2]; omega) h3 (fun j v hj => by rw [cell_of_heap hc]; exact hvc j v hj)
          simp only [hv', asAddr, Sem.run_bind, Sem.run_pure, Result.andThen_ok, hr]
        · obtain ⟨j, hj⟩ := List.mem_iff_getElem?.1 hv
          exact hone v (by have := hvc j v hj; exact List.mem_iff_getElem?.2 ⟨_, by simpa using this⟩)
      · exact h.elim
    · rename_i ti cs hti hp
      obtain ⟨h2, h3⟩ := h
      have e := hs.eval (.tmp x) rfl
      have e' : E.vr (.pim cs) (a.eval (.tmp x)) := by rw [← hp]; exact e
      obtain ⟨b, off, cur, vs, hv, hvl, hb, hvc, hvr⟩ := vr_pim e'
      have hv' : a.tmps.getD x undef = .pointer (some ⟨b, off, none⟩) := hv
      refine ⟨_, ?_, vr_ldP (ps := cs.map .d) (vs := vs) (by simpa using hvl) (by simpa using h2) h3 (fun v hv => ?_) (fun j p v hp hv => ?_)⟩
      · have hr := run_loadVar_cells (P := P) hti E.w b off vs (by omega) h3 (fun j v hj => by rw [rd_cell hb]; exact hvc j v hj)
        simp only [hv', asAddr, Sem.run_bind, Sem.run_pure, Result.andThen_ok, hr]
      · obtain ⟨j, hj⟩ := List.mem_iff_getElem?.1 hv
        have hlt : j < cs.length := by rw [← hvl]; exact (List.getElem?_eq_some_iff.1 hj).1
        exact (hvr j cs[j] v (by simp [hlt]) hj).one
      · rw [List.getElem?_map] at hp
        cases hcj : cs[j]? with
        | none => rw [hcj] at hp; cases hp
        | some d => rw [hcj] at hp; cases hp; exact .d _ _ (hvr j d v hcj hv)
    · exact h.elim

theorem run_resList {E0 : Env} {fr : Nat → Prop} {a : Act} {E : Env} (hs : SatF E0 C fr σ a E) : ∀ (rs : List ResultVar), resAll P σ rs →
    ∃ vs : List Value, (rs.mapM (resRead a.tmps)).run P E.w = .ok vs E.w ∧ VRs E.rd E.β (rs.map fun x => (resP P σ x).2.v) vs
  | [], _ => ⟨[], by simp, by simp [VRs]⟩
  | r :: rs, h => by
    obtain ⟨v, h1, h2⟩ := run_res hs r (h r (by simp))
    obtain ⟨vs, h3, h4⟩ := run_resList hs rs (fun x hx => h x (by simp [hx]))
    refine ⟨v :: vs, ?_, ?_⟩
    · rw [List.mapM_cons]
      simp only [Sem.run_bind, h1, h3, Sem.run_pure, Result.andThen_ok]
    · have := vrs_append (rd := E.rd) (β := E.β) (ps := [(resP P σ r).2.v]) (us := [v]) ⟨rfl, fun j p u hp hu => by
        cases j with
        | zero => simp at hp hu; subst hp; subst hu; exact h2
        | succ j => simp at hp⟩ h4
      simpa using this

theorem run_results {E0 : Env} {fr : Nat → Prop} {a : Act} {E : Env} (hs : SatF E0 C fr σ a E) (fn : Func) (h : resAll P σ fn.results.toList) :
    ∃ v : Value, (results fn a.tmps).run P E.w = .ok v E.w ∧ E.vr (resOne (fn.results.toList.map fun x => (resP P σ x).2.v)) v := by
  obtain ⟨vs, h1, h2⟩ := run_resList hs fn.results.toList h
  rw [results_eq]
  have hm : (fn.results.mapM (resRead a.tmps)).run P E.w = .ok vs.toArray E.w := by
    rw [Array.mapM_eq_mapM_toList]
    simp only [Sem.run_map, h1, Result.andThen_ok]
  refine ⟨if h : vs.toArray.size = 1 then vs.toArray[0] else .tuple vs.toArray, by simp only [Sem.run_bind, hm, Result.andThen_ok, Sem.run_pure], ?_⟩
  generalize (fn.results.toList.map fun x => (resP P σ x).2.v) = ps at h2 ⊢
  obtain ⟨hl, hv⟩ := h2
  unfold resOne
  split
  · rename_i p
    have h1 : vs.length = 1 := hl
    have hs1 : vs.toArray.size = 1 := by simpa using h1
    rw [dif_pos hs1]
    exact hv 0 p _ rfl (by simp [h1])
  · rename_i hne
    have h1 : ¬ vs.toArray.size = 1 := by
      intro e
      have : ps.length = 1 := by rw [← hl]; simpa using e
      match ps, this with
      | [p], _ => exact hne p rfl
    rw [dif_neg h1]
    exact .tup _ vs hl hv

/-- A function's contract, from the walk through its code. -/
theorem hcall_of_tr {f : FuncId} {fn : Func} {c : Code} {args : List PV} {F : Rows} {T : List Nat} {r : PV} {G : Rows} (hf : P.funcs[f]? = some fn) (hn : (fn.name == "runtime.NumGoroutine") = false) (hb : fn.body = some c) (hargs : args.length ≤ fn.ntmps)
    (h : ∀ n, (∀ x ∈ F, x.1 < n) → Tr P ⟨n, T, fn.ntmps⟩ c ⟨fun k => args.getD k .any, rowsH F⟩ n (fun e σ _ => (e = .normal ∨ e = .ret) ∧ Fin P ⟨n, T, fn.ntmps⟩ fn.results.toList F r G σ)) : HCall P f args F T (fun _ => r) G [] := by
  refine ⟨⟨fn, hf, hn, by simp [hb]⟩, fun E n vals hok hFn hβF hv => ?_⟩
  refine calls_of_wp hf hb ?_
  have hvl : vals.length ≤ fn.ntmps := by rw [hv.1]; exact hargs
  have hs : SatF E ⟨n, T, fn.ntmps⟩ (fun id => n ≤ id) ⟨fun k => args.getD k .any, rowsH F⟩ { tmps := vals.toArray ++ Array.replicate (fn.ntmps - vals.toArray.size) undef, defers := [] } E := by
    refine ⟨hok, hok.fresh, .refl _ _, ?_, rfl, ?_, ?_⟩
    · intro k v hk
      show E.vr (args.getD k .any) v
      by_cases hka : k < args.length
      · have hkv : k < vals.length := by rw [hv.1]; exact hka
        rw [Array.getElem?_append, if_pos (by simpa using hkv)] at hk
        exact hv.2 k _ v (getD_of hka) (by simpa using hk)
      · have : args.getD k .any = .any := by simp [List.getD, Nat.le_of_not_lt hka]
        rw [this]; exact .any v
    · simp; omega
    · intro k hk
      have hk' : fn.ntmps ≤ k := hk
      show args.getD k .any = .any
      simp only [List.getD]
      rw [List.getElem?_eq_none (by omega)]
      rfl
  refine wp_mono (h n hFn E _ E hs) ?_
  rintro e a w ⟨σ, n', E', rfl, hs', he, hfin⟩
  -- the caller's names alone
  let E2 : Env := { E' with β := E.β }
  have hβ2 : ∀ id l, hasId F id = true → E'.β id = some l → E2.β id = some l := by
    intro id l hid hl
    obtain ⟨pb, hp⟩ := hasId_rows hid
    obtain ⟨l0, hl0, _⟩ := hok.heap.row id pb hp
    have := hs'.ext.β id l0 hl0
    rw [hl] at this
    cases this
    exact hl0
  have hx2 : Ext T E E2 := {
    i := hs'.ext.i
    β := fun _ _ h => h
    new := fun id l b h h' _ => by
      have h2 : E.β id = some l := h
      rw [h2] at h'; cases h'
    newI := hs'.ext.newI
    os := hs'.ext.os
    tape := hs'.ext.tape
    output := hs'.ext.output
    size := hs'.ext.size
    block := hs'.ext.block
    imm := hs'.ext.imm }
  obtain ⟨v, hr, hvr⟩ := run_results (P := P) hs' fn hfin.res
  have post : a.defers = [] ∧ ∃ v, (results fn a.tmps).run P E'.w = .ok v E'.w ∧ (∃ (v' : Value) (E3 : Env), E3.w = E'.w ∧ Ending.returned v = .returned v' ∧ Ext T E E3 ∧ OkE E3 (rowsH (G ++ (([] : List PB).zipIdx n).map fun x => (x.2, x.1))) (fun id => n + ([] : List PB).length ≤ id) ∧ (∀ id, id < n → E3.β id = E.β id) ∧ E3.vr r v') := by
    refine ⟨hs'.defers, v, hr, v, E2, rfl, rfl, hx2, ⟨⟨?_, ?_⟩, fun id hid => hok.fresh id (by simpa using hid), hs'.ok.ibound⟩, fun _ _ => rfl, ?_⟩
    · intro id pb hp
      have hp' : rowsH G id = some pb := by simpa using hp
      obtain ⟨g1, g2, g3⟩ := hfin.rows (id, pb) (rowsH_has hp').1
      obtain ⟨l, hl, hrow⟩ := hs'.ok.heap.row id pb g1
      refine ⟨l, hβ2 id l g2 hl, ⟨hrow.sz, hrow.el, hrow.cell, hrow.nl, fun b hb => ?_⟩⟩
      obtain ⟨k1, cur, k2, k6, k7⟩ := hrow.blk b hb
      refine ⟨k1, cur, k2, fun j p hp => ?_, k7⟩
      obtain ⟨u, hu, hur⟩ := k6 j p hp
      refine ⟨u, hu, VR.restrict (S := hasId F) hβ2 hur ?_⟩
      obtain ⟨e, he, hpe⟩ := List.mem_flatten.1 (List.mem_of_getElem? hp)
      exact PV.idsInL_mem (List.all_eq_true.1 g3 e he) p hpe
    · intro id id' pb pb' l l' b h1 h2 h3 h4 h5 h6
      have h1' : rowsH G id = some pb := by simpa using h1
      have h2' : rowsH G id' = some pb' := by simpa using h2
      obtain ⟨g1, _, _⟩ := hfin.rows (id, pb) (rowsH_has h1').1
      obtain ⟨g1', _, _⟩ := hfin.rows (id', pb') (rowsH_has h2').1
      exact hs'.ok.heap.inj id id' pb pb' l l' b g1 g1' (hs'.ext.β _ _ h3) (hs'.ext.β _ _ h4) h5 h6
    · rw [hfin.eq] at *
      exact VR.restrict (S := hasId F) hβ2 hvr (by have := hfin.ids; exact this)
  rcases he with rfl | rfl
  · exact post
  · exact post

end
end Go.PM
