/- The pure machine, part 38: a round of a loop over a function; a region that calls yield. -/
import Derived.Test.YtmljpbhmdjpbaaaPm37
namespace Go.PM
set_option linter.unusedVariables false
set_option linter.unusedSimpArgs false
open Go.RowKit

/-- An environment of which nothing is asked. -/
def Env.bare (E : Env) : Env := ⟨fun _ => false, fun _ => none, { E.w with heap := #[] }⟩
theorem Ext.bare (T : List Nat) (E : Env) : Ext T E.bare E where
  i _ h := by cases h
  β _ _ h := by cases h
  new _ _ _ _ _ _ := .inl (Nat.zero_le _)
  newI _ _ := .inr (.inl (Nat.zero_le _))
  os := rfl
  tape := rfl
  output := rfl
  size := Nat.zero_le _
  block _ hk _ := absurd hk (Nat.not_lt_zero _)
  imm _ h := by cases h

/-- What stands in the temporaries. -/
def Slots (E : Env) (t : Nat → PV) (nt : Nat) (tmps : Array Value) : Prop := tmps.size = nt ∧ (∀ (k : Nat) v, tmps[k]? = some v → E.vr (t k) v) ∧ ∀ k, nt ≤ k → t k = .any

theorem Slots.ext {T : List Nat} {E E' : Env} {t : Nat → PV} {nt : Nat} {tmps : Array Value} (h : Slots E t nt tmps) (hx : Ext T E E') : Slots E' t nt tmps :=
  ⟨h.1, fun k v hk => hx.vr (h.2.1 k v hk), h.2.2⟩
theorem Slots.set {E : Env} {t : Nat → PV} {nt : Nat} {tmps : Array Value} (h : Slots E t nt tmps) {p : Nat} (hp : p < nt) {q : PV} {v : Value} (hv : E.vr q v) : Slots E (upd t p q) nt (tmps.setIfInBounds p v) := by
  refine ⟨by simpa using h.1, fun k u hk => ?_, fun k hk => ?_⟩
  · simp only [Array.getElem?_setIfInBounds] at hk
    unfold upd
    split at hk
    · rename_i e; subst e
      rw [if_pos rfl]
      split at hk
      · cases hk; exact hv
      · cases hk
    · rename_i e
      rw [if_neg (fun h => e h.symm)]
      exact h.2.1 k u hk
  · unfold upd
    rw [if_neg (by omega)]
    exact h.2.2 k hk

section
variable {E0 : Env} {C : Cx} {fr : Nat → Prop} {σ : Core} {a : Act} {E : Env}

theorem SatF.bare (hs : SatF E0 C fr σ a E) : SatF E.bare C fr σ a E := ⟨hs.ok, fun _ _ => rfl, .bare _ _, hs.slots, hs.defers, hs.size, hs.hi⟩

/-- No row lies where a loop's record lies. -/
theorem OkE.noRow {h : Hp} (hs : OkE E h fr) {l : Nat} {r : Loop} (hl : E.w.heap[l]? = some (.loop r)) : ∀ id pb loc, h id = some pb → E.β id = some loc → loc.b ≠ some l := by
  intro id pb loc h1 h2 h3
  obtain ⟨loc', g1, g2⟩ := hs.heap.row id pb h1
  rw [h2] at g1; cases g1
  obtain ⟨_, cur, hsee, _⟩ := g2.blk l h3
  rw [hl] at hsee
  rcases hsee with ⟨h, _⟩ | ⟨_, _, _, _, _, _, _, _, _, h, _⟩ <;> cases h

/-- The same heap, an activation of its own, a begin of its own; block l holds something else. -/
theorem SatF.begin (hs : SatF E0 C fr σ a E) {l : Nat} {r : Loop} (hl : E.w.heap[l]? = some (.loop r)) (hI : E.I l = false) (o : Obj) {t : Nat → PV} {nt : Nat} {tmps : Array Value} (ht : Slots E t nt tmps) (n : Nat) (hn : ∀ id, n ≤ id → fr id) (T : List Nat) :
    SatF { E with w := E.w.putObj l o } ⟨n, T, nt⟩ (fun id => n ≤ id) ⟨t, σ.h⟩ { tmps := tmps, defers := [] } { E with w := E.w.putObj l o } := by
  have h0 : SatF E.bare ⟨n, T, nt⟩ fr ⟨t, σ.h⟩ { tmps := tmps, defers := [] } E := ⟨hs.ok, fun _ _ => rfl, .bare _ _, ht.2.1, rfl, ht.1, ht.2.2⟩
  have h1 := h0.turned (Turned.putObj E.w l o) hI (Nat.zero_le _) (fun b h => by cases h) (hs.ok.noRow hl)
  exact ⟨⟨h1.ok.heap, fun id hid => h1.ok.fresh id (hn id hid), h1.ok.ibound⟩, fun id hid => h1.ok.fresh id (hn id hid), .refl _ _, h1.slots, rfl, h1.size, h1.hi⟩

/-- Both sides turn at one block. -/
theorem Ext.both {T : List Nat} {A B : Env} (h : Ext T A B) (l : Nat) (o : Obj) (hl : l < A.w.heap.size) (hA : A.I l = false) : Ext T { A with w := A.w.putObj l o } { B with w := B.w.putObj l o } where
  i := h.i
  β := h.β
  new := fun id l' b h1 h2 h3 => by
    have := h.new id l' b h1 h2 h3
    simpa using this
  newI := fun b hb => by simpa using h.newI b hb
  os := h.os
  tape := h.tape
  output := h.output
  size := by simpa using h.size
  block := fun k hk hno => by
    have hk' : k < A.w.heap.size := by simpa using hk
    by_cases e : k = l
    · subst e
      show (B.w.putObj k o).heap[k]? = (A.w.putObj k o).heap[k]?
      rw [World.putObj_heap_same hk', World.putObj_heap_same (Nat.lt_of_lt_of_le hk' h.size)]
    · show (B.w.putObj l o).heap[k]? = (A.w.putObj l o).heap[k]?
      rw [World.putObj_heap_other e, World.putObj_heap_other e]
      exact h.block k hk' hno
  imm := fun b hb => by
    have e : b ≠ l := by rintro rfl; rw [hA] at hb; cases hb
    show (B.w.putObj l o).heap[b]? = (A.w.putObj l o).heap[b]?
    rw [World.putObj_heap_other e, World.putObj_heap_other e]
    exact h.imm b hb

theorem World.putObj_back {w : World} {l : Nat} {x o : Obj} (h : w.heap[l]? = some x) : (w.putObj l o).putObj l x = w := by
  unfold World.putObj
  congr 1
  obtain ⟨hl, hx⟩ := Array.getElem?_eq_some_iff.1 h
  apply Array.ext_getElem?
  intro k
  by_cases e : l = k
  · subst e
    simp [hl, hx]
  · simp [Array.getElem?_setIfInBounds_ne e]
end

/-- A walk in a round's frame. -/
def TrR (l m : Nat) (P : Program) (C : Cx) (c : Code) (σ : Core) (n : Nat) (Q : PPost) : Prop := ∀ (E0 : Env) (a : Act) (E : Env), SatF E0 C (fun id => n ≤ id) σ a E → c.wpIn (FW (some l)) m P (conc E0 C Q) a E.w

theorem TrR.region {l m : Nat} {P : Program} {C : Cx} {σ : Core} {n : Nat} {Q : PPost} {id : Nat} {ops : Array Oper} (hd : ∀ o ∈ ops.toList, ∀ c, o.op ≠ .defer c) (hq : ∀ σ n, ¬ Q .outgrown σ n)
    (h : ∀ K : Core → Prop, (∀ σ', Q .normal σ' (n + 4 * ops.size) → K σ') → runOps P C ops ops.toList n σ K) : TrR l m P C (.region id ops false) σ n Q := by
  intro E0 a E hs
  refine wpIn_region ?_
  refine wpOps_FW (.inr hd) (fun hx => by obtain ⟨a, w, σ', n', E', _, _, hx⟩ := hx; exact hq _ _ hx) _ _ _ ?_
  have := runOps_ok (E0 := E0) (Q := conc E0 C Q) ops.toList 0 n σ _ (fun j => by simp) (h _ fun _ h => h) _ a E hs (fun _ h => h) (fun σ' a' E' hK hs' => ⟨σ', n + 4 * ops.size, E', rfl, by simpa using hs', hK⟩)
  rw [List.range_eq_range']
  simpa using this
theorem TrR.skip {l m : Nat} {P : Program} {C : Cx} {σ : Core} {n : Nat} {Q : PPost} (h : Q .normal σ n) : TrR l m P C .skip σ n Q := by
  intro E0 a E hs b k cs hro hb hr
  exact ⟨.normal, a, E.w, ⟨σ, n, E, rfl, hs, h⟩, .one (fenced_calm (fr := b.atR a (.code .skip :: k)) hb hr rfl) stepR_skip⟩

/-- What a round does to the rows: 'R' holds of them behind it. -/
def RoundOK (l m : Nat) (P : Program) (r : Loop) (C' : Cx) (T' : List Nat) (σ : Core) (R : Hp → Nat → Prop) : Prop :=
  TrR l m P C' r.assign σ C'.n0 fun e σ' n' => e = .normal ∧ TrR l m P ⟨n', T', C'.nt⟩ r.body σ' n' fun e σ2 n2 => e = .normal ∧ R σ2.h n2

/-- **A round**, seen from the function that calls yield. -/
theorem round_ok {E0 : Env} {C : Cx} {fr : Nat → Prop} {σ : Core} {a : Act} {E : Env} {P : Program} {l m : Nat} {r : Loop} (hs : SatF E0 C fr σ a E) (hl : E.w.heap[l]? = some (.loop r)) (hr : r.state = .ready) (hp : r.pending = none) (hI : E.I l = false)
    {t : Nat → PV} {nt : Nat} {tmps : Array Value} (ht : Slots E t nt tmps) {n : Nat} (hn : ∀ id, n ≤ id → fr id) {T T' : List Nat} (hT : ∀ id ∈ T, id ∈ C.T ∨ C.n0 ≤ id) (hT0 : ∀ id ∈ T, ∃ pb, σ.h id = some pb) (hT' : ∀ id ∈ T', id ∈ T ∨ n ≤ id) {R : Hp → Nat → Prop} (hR : RoundOK l m P r ⟨n, T, nt⟩ T' ⟨t, σ.h⟩ R) :
    RoundIn (FW none) m P l r.fn tmps r.assign r.body E.w fun e w' => ∃ (E' : Env) (h' : Hp) (n' : Nat), E'.w = w' ∧ e = .returned (.bool true) ∧ R h' n' ∧ SatF E0 C (fun id => n' ≤ id) ⟨σ.t, h'⟩ a E' := by
  have hlt : l < E.w.heap.size := (Array.getElem?_eq_some_iff.1 hl).1
  have s0 : SatF E ⟨n, T, nt⟩ (fun id => n ≤ id) ⟨t, σ.h⟩ { tmps := tmps, defers := [] } E :=
    ⟨⟨hs.ok.heap, fun id hid => hs.ok.fresh id (hn id hid), hs.ok.ibound⟩, fun id hid => hs.ok.fresh id (hn id hid), .refl _ _, ht.2.1, rfl, ht.1, ht.2.2⟩
  have noT : ∀ id ∈ T, ∀ loc, E.β id = some loc → loc.b ≠ some l := by
    intro id hid loc hloc
    obtain ⟨pb, hpb⟩ := hT0 id hid
    exact hs.ok.noRow hl id pb loc hpb hloc
  refine roundIn_of_wpIn trivial (wpIn_mono (hR E _ E s0) ?_)
  rintro e a1 w1 ⟨σ1, n1, E1, rfl, hs1, rfl, hbody⟩
  have hl1 : E1.w.heap[l]? = some (.loop r) := (hs1.ext.block l hlt noT).trans hl
  have hI1 : E1.I l = false := by
    cases h : E1.I l with
    | false => rfl
    | true =>
      rcases hs1.ext.newI l h with g | g | ⟨id0, g0, l0, g1, g2⟩
      · rw [hI] at g; cases g
      · omega
      · exact absurd g2 (noT id0 g0 l0 g1)
  have hlt1 : l < E1.w.heap.size := (Array.getElem?_eq_some_iff.1 hl1).1
  refine ⟨_, run_beginRound hl1 hr, ?_⟩
  obtain ⟨o, ho⟩ : ∃ o : Obj, o = .loop { r with state := .busy } := ⟨_, rfl⟩
  rw [← ho]
  have s1 := hs1.begin hl1 hI1 o (t := σ1.t) (nt := nt) (tmps := a1.tmps) ⟨hs1.size, hs1.slots, hs1.hi⟩ n1 (fun _ h => h) T'
  have ea : ({ tmps := a1.tmps, defers := [] } : Act) = a1 := by
    have := hs1.defers
    cases a1; simp only at this; rw [this]
  rw [ea] at s1
  have hb := hbody _ _ _ s1
  refine wpIn_mono hb ?_
  rintro e a2 w2 ⟨σ2, n2, E2, rfl, hs2, rfl, hRR⟩
  have noT1 : ∀ id ∈ T', ∀ loc, E1.β id = some loc → loc.b ≠ some l := by
    intro id hid loc hloc hb
    cases he : E.β id with
    | none =>
      rcases hs1.ext.new id loc l hloc he hb with g | ⟨id0, g0, l0, g1, g2⟩
      · omega
      · exact noT id0 g0 l0 g1 g2
    | some loc0 =>
      have := hs1.ext.β id loc0 he
      rw [hloc] at this; cases this
      rcases hT' id hid with g | g
      · exact noT id g loc he hb
      · rw [hs.ok.fresh id (hn id g)] at he; cases he
  have hl2 : E2.w.heap[l]? = some o := by
    refine (hs2.ext.block l (by simpa using hlt1) noT1).trans ?_
    exact World.putObj_heap_same hlt1
  have hI2 : E2.I l = false := by
    cases h : E2.I l with
    | false => rfl
    | true =>
      rcases hs2.ext.newI l h with g | g | ⟨id0, g0, l0, g1, g2⟩
      · have g : E1.I l = true := g
        rw [hI1] at g; cases g
      · have g : (E1.w.putObj l o).heap.size ≤ l := g
        simp at g; omega
      · exact absurd g2 (noT1 id0 g0 l0 g1)
  rw [ho] at hl2
  refine ⟨_, _, run_endRound none hl2, ?_⟩
  have er : ({ ({ r with state := .busy } : Loop) with state := if (none : Option Code).isNone then .ready else .done, pending := none } : Loop) = r := by
    cases r; simp only at hr hp; subst hr; subst hp; rfl
  rw [er]
  -- the whole way
  have x1 : Ext T { E with w := E.w.putObj l o } { E1 with w := E1.w.putObj l o } := hs1.ext.both l o hlt hI
  have x2 : Ext T { E with w := E.w.putObj l o } E2 := x1.trans hs2.ext (fun id hid => (hT' id hid).imp (fun h => h) fun h => hs.ok.fresh id (hn id h))
  have x3 := x2.both l (.loop r) (by simpa using hlt) hI
  have e0 : ({ E with w := (E.w.putObj l o).putObj l (.loop r) } : Env) = E := by
    rw [World.putObj_back hl]
  have x4 : Ext T E { E2 with w := E2.w.putObj l (.loop r) } := by
    have : ({ ({ E with w := E.w.putObj l o } : Env) with w := (E.w.putObj l o).putObj l (.loop r) } : Env) = E := e0
    rw [this] at x3
    exact x3
  have s3 := hs2.bare.turned (Turned.putObj E2.w l (.loop r)) hI2 (Nat.zero_le _) (fun b h => by cases h) (hs2.ok.noRow hl2)
  refine ⟨{ E2 with w := E2.w.putObj l (.loop r) }, σ2.h, n2, rfl, rfl, hRR, ⟨s3.ok, hs.n0, ?_, fun k v hk => x4.vr (hs.slots k v hk), hs.defers, hs.size, hs.hi⟩⟩
  refine hs.ext.trans x4 (fun id hid => (hT id hid).imp (fun h => h) fun h => hs.n0 id h)

/-- What the caller of yield knows of the loop's record at its begin. -/
structure RecAt (E0 : Env) (C : Cx) (l : Nat) (r : Loop) (τ : Nat → PV) (nt : Nat) : Prop where
  lies : E0.w.heap[l]? = some (.loop r)
  ready : r.state = .ready
  pend : r.pending = none
  imm : E0.I l = false
  free : ∀ id ∈ C.T, ∀ loc, E0.β id = some loc → loc.b ≠ some l
  slots : Slots E0 τ nt r.tmps

theorem RecAt.now {E0 : Env} {C : Cx} {l : Nat} {r : Loop} {τ : Nat → PV} {nt : Nat} (h : RecAt E0 C l r τ nt) {fr : Nat → Prop} {σ : Core} {a : Act} {E : Env} (hs : SatF E0 C fr σ a E) : E.w.heap[l]? = some (.loop r) ∧ E.I l = false ∧ Slots E τ nt r.tmps := by
  have hlt : l < E0.w.heap.size := (Array.getElem?_eq_some_iff.1 h.lies).1
  refine ⟨(hs.ext.block l hlt h.free).trans h.lies, ?_, h.slots.ext hs.ext⟩
  cases hI : E.I l with
  | false => rfl
  | true =>
    rcases hs.ext.newI l hI with g | g | ⟨id0, g0, l0, g1, g2⟩
    · rw [h.imm] at g; cases g
    · omega
    · exact absurd g2 (h.free id0 g0 l0 g1)

def updL (t : Nat → PV) : List (Nat × PV) → Nat → PV
  | [] => t
  | (k, p) :: L => updL (upd t k p) L

theorem Slots.fold {E : Env} {nt : Nat} : ∀ (ps : List Nat) (qs : List PV) (vs : List Value) {t : Nat → PV} {tmps : Array Value}, Slots E t nt tmps → (∀ p ∈ ps, p < nt) → VRs E.rd E.β qs vs → ps.length = qs.length →
    Slots E (updL t (ps.zip qs)) nt ((ps.zip vs).foldl (fun t (x : Nat × Value) => t.setIfInBounds x.1 x.2) tmps)
  | [], [], _, _, _, h, _, _, _ => h
  | p :: ps, q :: qs, [], _, _, _, _, hv, _ => by have := hv.1; simp at this
  | p :: ps, q :: qs, v :: vs, t, tmps, h, hp, hv, hl => by
    have h0 : VR E.rd E.β q v := hv.2 0 q v rfl rfl
    have h1 := h.set (hp p (by simp)) h0
    exact Slots.fold ps qs vs h1 (fun x hx => hp x (by simp [hx])) ⟨by have := hv.1; simpa using this, fun j a b ha hb => hv.2 (j + 1) a b (by simpa using ha) (by simpa using hb)⟩ (by simpa using hl)
  | [], q :: qs, _, _, _, _, _, _, hl => by simp at hl
  | p :: ps, [], _, _, _, _, _, _, hl => by simp at hl

/-- The call of yield, as one operation. -/
theorem yield_op {E0 : Env} {C : Cx} {fr : Nat → Prop} {σ : Core} {a : Act} {E : Env} {P : Program} {l m : Nat} {r : Loop} {τ : Nat → PV} {nt : Nat} {o : Oper} {c : Call} {x : Operand} (hrec : RecAt E0 C l r τ nt) (hs : SatF E0 C fr σ a E)
    (ho : o.op = .call c) (hc : c.callee = .value x) (hx : opndOk x = true) (hxs : c.args.toList.all opndOk = true) (hev : evP σ.t x = .fn (.yield l) [] []) (hd : dstOk C o = true)
    (hps : c.args.size = r.params.size) (hpl : ∀ p ∈ r.params.toList, p < nt) {n : Nat} (hn : ∀ id, n ≤ id → fr id) {T T' : List Nat} (hT : ∀ id ∈ T, id ∈ C.T ∨ C.n0 ≤ id) (hT0 : ∀ id ∈ T, ∃ pb, σ.h id = some pb) (hT' : ∀ id ∈ T', id ∈ T ∨ n ≤ id) {R : Hp → Nat → Prop}
    (hR : RoundOK l m P r ⟨n, T, nt⟩ T' ⟨updL τ (r.params.toList.zip (c.args.toList.map (evP σ.t))), σ.h⟩ R) {next : Act → World → Prop} {Q : Exit → Act → World → Prop}
    (hK : ∀ (E' : Env) (h' : Hp) (n' : Nat), R h' n' → SatF E0 C (fun id => n' ≤ id) (Core.put ⟨σ.t, h'⟩ o.dst (.d (.val (.bool true)))) (a.put o.dst (.bool true)) E' → next (a.put o.dst (.bool true)) E'.w) : o.wpIn (FW none) (m + 1) P a E.w next Q := by
  obtain ⟨hl, hI, hτ⟩ := hrec.now hs
  have ex := hs.eval x hx
  rw [hev] at ex
  generalize hax : a.eval x = vx at ex
  cases ex with
  | fn _ _ _ us vs hu hv h1 h2 =>
    obtain rfl : us = [] := List.length_eq_zero_iff.1 hu
    obtain rfl : vs = [] := List.length_eq_zero_iff.1 hv
    have hmid : VRs E.rd E.β (c.args.toList.map (evP σ.t)) (c.args.toList.map a.eval) := by
      refine ⟨by simp, fun j p v hp hv => ?_⟩
      rw [List.getElem?_map] at hp hv
      cases hj : c.args.toList[j]? with
      | none => rw [hj] at hp; cases hp
      | some y =>
        rw [hj] at hp hv; cases hp; cases hv
        exact hs.eval y (List.all_eq_true.1 hxs y (List.mem_of_getElem? hj))
    refine ⟨fun _ _ => trivial, ?_⟩
    have run : (o.semAt (FW none).round a.eval).run P E.w = .ok (.round l r.fn ((r.params.zip (c.args.map a.eval)).foldl (fun t (p, v) => t.setIfInBounds p v) r.tmps) r.assign r.body) E.w := by
      show (execOp a.eval o).run P E.w = _
      have hy := run_yield (P := P) (args := c.args.map a.eval) hl (by simpa using hps)
      simp only [execOp, ho, resolve, hc, hax, Deferred.ofValue, Sem.run_bind, Sem.run_pure, Result.andThen_ok, invoke, Array.empty_append, Array.append_empty]
      first | exact hy | simpa using hy
    rw [run]
    refine ⟨fun h => (by cases h), ?_⟩
    have hfold := Slots.fold r.params.toList (c.args.toList.map (evP σ.t)) (c.args.toList.map a.eval) hτ hpl hmid (by simpa using hps.symm)
    have e1 : ((r.params.zip (c.args.map a.eval)).foldl (fun t (p, v) => t.setIfInBounds p v) r.tmps) = ((r.params.toList.zip (c.args.toList.map a.eval)).foldl (fun t (x : Nat × Value) => t.setIfInBounds x.1 x.2) r.tmps) := by
      rw [← Array.foldl_toList]
      simp
    rw [e1]
    refine (round_ok hs hl hrec.ready hrec.pend hI hfold hn hT hT0 hT' hR).mono ?_
    rintro e w' ⟨E', h', n', rfl, rfl, hRR, hs'⟩
    refine hK E' h' n' hRR (hs'.put o.dst (dstOk_lt hd) (.d _ _ (.val _ rfl)))
end Go.PM
