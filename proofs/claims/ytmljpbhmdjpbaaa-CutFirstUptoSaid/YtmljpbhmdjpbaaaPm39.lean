/- The pure machine, part 39: the statement 'for .. := range f'; what follows it, walked with the mark among the deferred calls. -/
import Derived.Test.YtmljpbhmdjpbaaaPm38
namespace Go.PM
set_option linter.unusedVariables false
set_option linter.unusedSimpArgs false
open Go.RowKit

theorem runOps_pre {P : Program} {C : Cx} {ops : Array Oper} {E0 : Env} {Q : Exit → Act → World → Prop} : ∀ (l : List Oper) (k nid : Nat) (σ : Core) (K : Core → Prop), (∀ j : Nat, j < l.length → l[j]? = ops[k + j]?) → runOps P C ops l nid σ K → ∀ (fr : Nat → Prop) (a : Act) (E : Env), SatF E0 C fr σ a E → (∀ id, nid ≤ id → fr id) →
    (∀ (σ' : Core) (a' : Act) (E' : Env), K σ' → SatF E0 C (fun j => nid + 4 * l.length ≤ j) σ' a' E' → Q .normal a' E'.w) → wpOps P ops Q (List.range' k l.length) a E.w
  | [], k, nid, σ, K, _, h, fr, a, E, hs, hfr, hQ => by
    simp only [List.length_nil, List.range'_zero, wpOps]
    exact hQ σ a E h (hs.fr_mono fun j hj => hfr j (by simpa using hj))
  | o :: r, k, nid, σ, K, hl, h, fr, a, E, hs, hfr, hQ => by
    have h0 : ops[k]? = some o := by simpa using (hl 0 (by simp)).symm
    have hl' : ∀ j : Nat, j < r.length → r[j]? = ops[k + 1 + j]? := fun j hj => by have := hl (j + 1) (by simpa using hj); simpa [Nat.add_assoc, Nat.add_comm 1 j] using this
    simp only [List.length_cons, List.range'_succ, wpOps, h0]
    unfold runOps at h
    obtain ⟨hd, h⟩ := h
    have ih : ∀ (σ' : Core) (a' : Act) (E' : Env), runOps P C ops r (nid + 4) σ' K → SatF E0 C (fun j => fr j ∧ ¬ (nid ≤ j ∧ j < nid + 4)) σ' a' E' → wpOps P ops Q (List.range' (k + 1) r.length) a' E'.w := by
      intro σ' a' E' hr' hs'
      refine runOps_pre r (k + 1) (nid + 4) σ' K hl' hr' _ a' E' hs' (fun id hid => ⟨hfr id (by omega), by omega⟩) (fun σ2 a2 E2 hK2 hs2 => hQ σ2 a2 E2 hK2 (hs2.fr_mono fun j hj => ?_))
      have : nid + 4 + 4 * r.length ≤ j := by
        have hj' : nid + 4 * (r.length + 1) ≤ j := hj
        omega
      exact this
    have wanted : Region.wanted o (yielded ops a.tmps) = true → opK P C o nid σ (fun σ' => runOps P C ops r (nid + 4) σ' K) → (if Region.wanted o (yielded ops a.tmps) then o.wp P a E.w (wpOps P ops Q (List.range' (k + 1) r.length)) Q ∨ (o.asks P a E.w ∧ LetsOut Q) else wpOps P ops Q (List.range' (k + 1) r.length) (a.put o.dst undef) E.w) := by
      intro hw hop
      rw [if_pos hw]
      exact .inl (opK_ok hd hop hs (fun j _ => hfr _ (by omega)) (fun σ' v E' hr' hs' => ih σ' _ E' hr' hs'))
    split at h
    · rename_i hg
      exact wanted (by simp [Region.wanted, hg]) h
    · rename_i j want hg
      split at h
      · rename_i b hb
        have hy := gval_yielded hs hb
        by_cases hbw : b = want
        · exact wanted (by simp only [Region.wanted, hg, hy, hbw]; simp) (by rw [if_pos hbw] at h; exact h)
        · have hw : Region.wanted o (yielded ops a.tmps) = false := by simp only [Region.wanted, hg, hy]; simpa using hbw
          rw [hw]
          simp only [Bool.false_eq_true, if_false]
          exact ih _ _ E (by rw [if_neg hbw] at h; exact h) ((hs.put o.dst (dstOk_lt hd) (vr_undef _ _)).fr_mono fun j hj => hj.1)
      · exact h.elim


/-- A region in which yield is called. -/
theorem TrE.regionY {E0 : Env} {P : Program} {C : Cx} {σ : Core} {n : Nat} {Q : PPost} {id : Nat} {ops : Array Oper} {l : Nat} {r : Loop} {τ : Nat → PV} {nt : Nat} (hrec : RecAt E0 C l r τ nt) (hq : ∀ σ n, ¬ Q .outgrown σ n) (hpl : ∀ p ∈ r.params.toList, p < nt)
    (pre suf : List Oper) (o : Oper) (c : Call) (x : Operand) (hops : ops.toList = pre ++ o :: suf) (ho : o.op = .call c) (hc : c.callee = .value x) (hx : opndOk x = true) (hxs : c.args.toList.all opndOk = true) (hd : dstOk C o = true) (hps : c.args.size = r.params.size)
    (h : ∀ K : Core → Prop, (∀ σ1 : Core, (match o.guard with | none => True | some (j, want) => gval ops σ1.t j want = some want) ∧ evP σ1.t x = .fn (.yield l) [] [] ∧
        (∃ (T T' : List Nat) (R : Hp → Nat → Prop), (∀ id ∈ T, id ∈ C.T ∨ C.n0 ≤ id) ∧ (∀ id ∈ T, ∃ pb, σ1.h id = some pb) ∧ (∀ id ∈ T', id ∈ T ∨ n + 4 * pre.length ≤ id) ∧
          RoundOK l 0 P r ⟨n + 4 * pre.length, T, nt⟩ T' ⟨updL τ (r.params.toList.zip (c.args.toList.map (evP σ1.t))), σ1.h⟩ R ∧
          ∀ (h' : Hp) (n' : Nat), R h' n' → ∀ K2 : Core → Prop, (∀ σ2, Q .normal σ2 (n' + 4 * suf.length) → K2 σ2) → runOps P C ops suf n' (Core.put ⟨σ1.t, h'⟩ o.dst (.d (.val (.bool true)))) K2) → K σ1) → runOps P C ops pre n σ K) :
    TrE E0 P C (.region id ops false) σ n Q := by
  intro a E hs
  refine (wpIn_wide (n := 1)).1 ?_
  show Code.wpIn (FW none) 1 P _ (conc E0 C Q) a E.w
  refine wpIn_region ?_
  have hsz : ops.size = pre.length + (1 + suf.length) := by
    have := congrArg List.length hops
    simp at this
    omega
  have hgo : ¬ LetsOut (conc E0 C Q) := by
    rintro ⟨a, w, σ', n', E', _, _, hx⟩
    exact hq _ _ hx
  rw [List.range_eq_range', hsz, ← List.range'_append_1, Nat.zero_add, ← List.range'_append_1]
  refine wpOpsIn_append _ _ _ ?_
  refine wpOps_FW (.inl rfl) ?_ _ _ _ ?_
  · rintro ⟨a, w, h⟩
    exact hgo ⟨a, w, h⟩
  have hpre : ∀ j : Nat, j < pre.length → pre[j]? = ops[0 + j]? := fun j hj => by
    rw [Nat.zero_add, ← Array.getElem?_toList, hops, List.getElem?_append_left hj]
  have h0 : ops[pre.length]? = some o := by
    rw [← Array.getElem?_toList, hops]; simp
  have hsuf : ∀ j : Nat, suf[j]? = ops[pre.length + 1 + j]? := fun j => by
    rw [← Array.getElem?_toList, hops, List.getElem?_append_right (by omega), show pre.length + 1 + j - pre.length = j + 1 by omega]; simp
  refine runOps_pre (E0 := E0) pre 0 n σ _ hpre (h _ fun σ1 h => h) _ a E hs (fun id h => h) ?_
  intro σ1 a1 E1 ⟨hg, hev, T, T', R, hT, hT0, hT', hR, hgoOn⟩ hs1
  show wpOpsIn _ _ _ _ _ (List.range' pre.length 1 ++ List.range' (pre.length + 1) suf.length) a1 E1.w
  simp only [List.range'_one, List.singleton_append, wpOpsIn, h0]
  have hw : Region.wanted o (yielded ops a1.tmps) = true := by
    unfold Region.wanted
    split at hg
    · rename_i hgd; simp [hgd]
    · rename_i j want hgd
      have := gval_yielded hs1 hg
      simp [hgd] at this ⊢
      exact this
  rw [if_pos hw]
  refine yield_op (m := 0) hrec hs1 ho hc hx hxs hev hd hps hpl (fun _ h => h) hT hT0 hT' hR ?_
  intro E2 h' n' hRR hs2
  have h2 := hgoOn h' n' hRR _ (fun _ h => h)
  have := runOps_ok (E0 := E0) (Q := conc E0 C Q) suf (pre.length + 1) n' _ _ hsuf h2 _ _ E2 hs2 (fun _ h => h) (fun σ' a' E' hK hs' => ⟨σ', n' + 4 * suf.length, E', rfl, hs', hK⟩)
  exact wpOps_FW (.inl rfl) hgo _ _ _ this

/-- The same, yield's place given. -/
theorem TrE.regionYk {E0 : Env} {P : Program} {C : Cx} {σ : Core} {n : Nat} {Q : PPost} {id : Nat} {ops : Array Oper} {l : Nat} {r : Loop} {τ : Nat → PV} {nt : Nat} (k : Nat) (hrec : RecAt E0 C l r τ nt) (hq : ∀ σ n, ¬ Q .outgrown σ n) (hpl : ∀ p ∈ r.params.toList, p < nt)
    {o : Oper} {c : Call} {x : Operand} (hk : ops.toList[k]? = some o) (ho : o.op = .call c) (hc : c.callee = .value x) (hx : opndOk x = true) (hxs : c.args.toList.all opndOk = true) (hd : dstOk C o = true) (hps : c.args.size = r.params.size)
    (h : ∀ K : Core → Prop, (∀ σ1 : Core, (match o.guard with | none => True | some (j, want) => gval ops σ1.t j want = some want) ∧ evP σ1.t x = .fn (.yield l) [] [] ∧
        (∃ (T T' : List Nat) (R : Hp → Nat → Prop), (∀ id ∈ T, id ∈ C.T ∨ C.n0 ≤ id) ∧ (∀ id ∈ T, ∃ pb, σ1.h id = some pb) ∧ (∀ id ∈ T', id ∈ T ∨ n + 4 * k ≤ id) ∧
          RoundOK l 0 P r ⟨n + 4 * k, T, nt⟩ T' ⟨updL τ (r.params.toList.zip (c.args.toList.map (evP σ1.t))), σ1.h⟩ R ∧
          ∀ (h' : Hp) (n' : Nat), R h' n' → ∀ K2 : Core → Prop, (∀ σ2, Q .normal σ2 (n' + 4 * (ops.size - (k + 1))) → K2 σ2) → runOps P C ops (ops.toList.drop (k + 1)) n' (Core.put ⟨σ1.t, h'⟩ o.dst (.d (.val (.bool true)))) K2) → K σ1) → runOps P C ops (ops.toList.take k) n σ K) :
    TrE E0 P C (.region id ops false) σ n Q := by
  have hlt := (List.getElem?_eq_some_iff.1 hk).1
  have hl : (ops.toList.take k).length = k := by rw [List.length_take]; omega
  have hl2 : (ops.toList.drop (k + 1)).length = ops.size - (k + 1) := by rw [List.length_drop]; simp
  refine TrE.regionY hrec hq hpl (ops.toList.take k) (ops.toList.drop (k + 1)) o c x ?_ ho hc hx hxs hd hps ?_
  · conv => lhs; rw [← List.take_append_drop k ops.toList]
    rw [List.drop_eq_getElem_cons hlt, (List.getElem?_eq_some_iff.1 hk).2]
  · rw [hl, hl2]; exact h

/-- The k-th operation is a call of a function's value. -/
def atCall (Φ : Oper → Call → Operand → Prop) : List Oper → Nat → Prop
  | [], _ => False
  | o :: _, 0 => match o.op with
    | .call c => match c.callee with
      | .value x => Φ o c x
      | _ => False
    | _ => False
  | _ :: l, k + 1 => atCall Φ l k
theorem atCall_spec {Φ : Oper → Call → Operand → Prop} : ∀ {l : List Oper} {k : Nat}, atCall Φ l k → ∃ o c x, l[k]? = some o ∧ o.op = .call c ∧ c.callee = .value x ∧ Φ o c x
  | [], _, h => h.elim
  | o :: _, 0, h => by
    unfold atCall at h
    split at h
    · rename_i c ho
      split at h
      · rename_i x hc
        exact ⟨o, c, x, rfl, ho, hc, h⟩
      · exact h.elim
    · exact h.elim
  | _ :: l, k + 1, h => by
    obtain ⟨o, c, x, h1, h2⟩ := atCall_spec (l := l) (k := k) h
    exact ⟨o, c, x, by simpa using h1, h2⟩

theorem TrE.regionYa {E0 : Env} {P : Program} {C : Cx} {σ : Core} {n : Nat} {Q : PPost} {id : Nat} {ops : Array Oper} {l : Nat} {r : Loop} {τ : Nat → PV} {nt : Nat} (k : Nat) (hrec : RecAt E0 C l r τ nt) (hq : ∀ σ n, ¬ Q .outgrown σ n) (hpl : ∀ p ∈ r.params.toList, p < nt)
    (h : atCall (fun o c x => opndOk x = true ∧ c.args.toList.all opndOk = true ∧ dstOk C o = true ∧ c.args.size = r.params.size ∧
      ∀ K : Core → Prop, (∀ σ1 : Core, (match o.guard with | none => True | some (j, want) => gval ops σ1.t j want = some want) ∧ evP σ1.t x = .fn (.yield l) [] [] ∧
        (∃ (T T' : List Nat) (R : Hp → Nat → Prop), (∀ id ∈ T, id ∈ C.T ∨ C.n0 ≤ id) ∧ (∀ id ∈ T, ∃ pb, σ1.h id = some pb) ∧ (∀ id ∈ T', id ∈ T ∨ n + 4 * k ≤ id) ∧
          RoundOK l 0 P r ⟨n + 4 * k, T, nt⟩ T' ⟨updL τ (r.params.toList.zip (c.args.toList.map (evP σ1.t))), σ1.h⟩ R ∧
          ∀ (h' : Hp) (n' : Nat), R h' n' → ∀ K2 : Core → Prop, (∀ σ2, Q .normal σ2 (n' + 4 * (ops.size - (k + 1))) → K2 σ2) → runOps P C ops (ops.toList.drop (k + 1)) n' (Core.put ⟨σ1.t, h'⟩ o.dst (.d (.val (.bool true)))) K2) → K σ1) → runOps P C ops (ops.toList.take k) n σ K) ops.toList k) :
    TrE E0 P C (.region id ops false) σ n Q := by
  obtain ⟨o, c, x, hk, ho, hc, hx, hxs, hd, hps, h⟩ := atCall_spec h
  exact TrE.regionYk k hrec hq hpl hk ho hc hx hxs hd hps h

/-- Deferred calls behind those that there are. -/
def push (d : List Deferred) (a : Act) : Act := { a with defers := a.defers ++ d }
def Pushed (d : List Deferred) (Q : Exit → Act → World → Prop) : Exit → Act → World → Prop := fun e a w => ∃ a0, a = push d a0 ∧ Q e a0 w

section
variable {P : Program} {d : List Deferred} {Q : Exit → Act → World → Prop}
theorem push_put (a : Act) (dst : Option Tmp) (v : Value) : (push d a).put dst v = push d (a.put dst v) := by cases dst <;> rfl
theorem push_eval (a : Act) : (push d a).eval = a.eval := by
  funext x; cases x <;> rfl
theorem upon_push {o : Oper} {a : Act} {next next' : Act → World → Prop} {r : Result Next} (hn : ∀ a w, next a w → next' (push d a) w) (h : o.upon P a next Q r) : o.upon P (push d a) next' (Pushed d Q) r := by
  cases r with
  | ok x w' =>
    cases x with
    | value v => show next' _ _; rw [push_put]; exact hn _ _ h
    | skip => show next' _ _; rw [push_put]; exact hn _ _ h
    | defer d' => have := hn _ _ h; rw [← push_put] at this; exact this
    | enter f args =>
      refine Calls.mono h ?_
      intro e w' he
      cases e with
      | returned v => show next' _ _; rw [push_put]; exact hn _ _ he
      | panicked c => exact ⟨a, rfl, he⟩
      | outgrown => obtain ⟨a0, w0, h⟩ := he; exact ⟨push d a0, w0, a0, rfl, h⟩
    | row row args =>
      intro c cs
      obtain ⟨v, w2, h1, h2⟩ := h c cs
      exact ⟨v, w2, by show next' _ _; rw [push_put]; exact hn _ _ h1, h2⟩
    | _ => exact h.elim
  | halt x w' =>
    cases x with
    | panic v => exact ⟨a, rfl, h⟩
    | _ => exact h.elim

theorem wpOps_push {ops : Array Oper} : ∀ (l : List Nat) (a : Act) (w : World), wpOps P ops Q l a w → wpOps P ops (Pushed d Q) l (push d a) w
  | [], a, w, h => ⟨a, rfl, h⟩
  | i :: l, a, w, h => by
    simp only [wpOps] at h ⊢
    cases ho : ops[i]? with
    | none => simp only [ho] at h ⊢; exact wpOps_push l a w h
    | some o =>
      simp only [ho] at h ⊢
      have hy : yielded ops (push d a).tmps = yielded ops a.tmps := rfl
      rw [hy]
      split at h
      · rename_i hw
        rw [if_pos hw]
        rcases h with h | h
        · refine .inl ?_
          unfold Oper.wp at h ⊢
          rw [push_eval]
          exact upon_push (fun a w h => wpOps_push l a w h) h
        · refine .inr ⟨?_, ?_⟩
          · have := h.1
            unfold Oper.asks at this ⊢
            rw [push_eval]; exact this
          · obtain ⟨a0, w0, hh⟩ := h.2; exact ⟨push d a0, w0, a0, rfl, hh⟩
      · rename_i hw
        rw [if_neg hw, push_put]
        exact wpOps_push l _ w h
end

theorem Ext.turned {E : Env} {l : Nat} {w2 : World} (hw : Turned l E.w w2) (hl : E.w.heap.size ≤ l) (hib : ∀ b, E.I b = true → b < E.w.heap.size) : Ext [] E { E with w := w2 } where
  i _ h := h
  β _ _ h := h
  new id l b h h' _ := by
    have h0 : E.β id = some l := h
    rw [h'] at h0; cases h0
  newI _ h := .inl h
  os := hw.os
  tape := hw.tape
  output := hw.output
  size := hw.size
  block k hk _ := hw.same k hk (by omega)
  imm b hb := hw.same b (hib b hb) (by have := hib b hb; omega)

theorem wp_wpIn {P : Program} {c : Code} {Q : Exit → Act → World → Prop} {a : Act} {w : World} (h : c.wpIn (FW none) 1 P Q a w) : c.wp P Q a w := (wpIn_wide (n := 1)).1 h

/-- What lies ready behind a loop over a function. -/
def Looped (E0 : Env) (C : Cx) (t : Nat → PV) (R : Hp → Nat → Prop) (a : Act) : Exit → Act → World → Prop := fun e a' w' =>
  e = .normal ∧ ∃ (D : Nat) (E' : Env) (h' : Hp) (n' : Nat), a' = push [{ target := .collected D, args := #[] }] a ∧ E'.w = w' ∧ R h' n' ∧ SatF E0 C (fun id => n' ≤ id) ⟨t, h'⟩ a E' ∧ w'.heap[D]? = some (.deferred (some [])) ∧ E0.w.heap.size ≤ D ∧ E'.I D = false

/-- **'for .. := range g'.** -/
theorem rangeFunc_ok {E0 : Env} {C : Cx} {σ : Core} {n : Nat} {a : Act} {E : Env} {P : Program} (hs : SatF E0 C (fun id => n ≤ id) σ a E) {g : Operand} {ps : Array Tmp} {assign body gc : Code} {gf : FuncId} {gfn : Func} {caps : List PV} {T : List Nat} {R : Hp → Nat → Prop}
    (hg : evP σ.t g = .fn (.func gf) [] caps) (ho : opndOk g = true) (hf : P.funcs[gf]? = some gfn) (hn : (gfn.name == "runtime.NumGoroutine") = false) (hb : gfn.body = some gc) (hsz : 1 + caps.length ≤ gfn.ntmps) (hres : gfn.results = #[])
    (hT : ∀ id ∈ T, id ∈ C.T ∨ C.n0 ≤ id) (hT0 : ∀ id ∈ T, ∃ pb, σ.h id = some pb) (hE0 : ∀ b, E0.I b = true → b < E0.w.heap.size)
    (hbody : ∀ (E1 : Env) (l : Nat) (r : Loop), RecAt E1 ⟨n, T, gfn.ntmps⟩ l r σ.t C.nt → r.params = ps → r.assign = assign → r.body = body →
      TrE E1 P ⟨n, T, gfn.ntmps⟩ gc ⟨fun k => ((.fn (.yield l) [] []) :: caps).getD k .any, σ.h⟩ n (fun e σ' n' => (e = .normal ∨ e = .ret) ∧ R σ'.h n')) :
    (Code.rangeFunc g ps assign body).wp P (Looped E0 C σ.t R a) a E.w := by
  refine wp_wpIn (wpIn_rangeFunc ?_)
  intro fn _
  have eg := hs.eval g ho
  rw [hg] at eg
  generalize hag : a.eval g = vg at eg
  cases eg with
  | fn _ _ _ us vs hu hv h1 h2 =>
    obtain rfl : us = [] := List.length_eq_zero_iff.1 hu
    obtain ⟨r, hr⟩ : ∃ r : Loop, r = { state := .ready, pending := none, fn, tmps := a.tmps, params := ps, assign, body, defers := E.w.heap.size } := ⟨_, rfl⟩
    obtain ⟨w1, hw1⟩ : ∃ w1, (E.w.alloc (.deferred (some []))).alloc (.loop r) = w1 := ⟨_, rfl⟩
    have hl1 : w1.heap[E.w.heap.size + 1]? = some (.loop r) := by
      rw [← hw1]; have := World.alloc_heap_new (E.w.alloc (.deferred (some []))) (.loop r); rwa [World.size_alloc] at this
    have hk1 : w1.heap[E.w.heap.size]? = some (.deferred (some [])) := by
      rw [← hw1]; exact (Below.heap_alloc _ _ _ (by simp)).trans (World.alloc_heap_new E.w _)
    have hsize1 : w1.heap.size = E.w.heap.size + 2 := by rw [← hw1]; simp
    have htu : Turned E.w.heap.size E.w w1 := by rw [← hw1]; exact (Turned.alloc _ _ _).trans (Turned.alloc _ _ _)
    have hI0 : ∀ k, E.w.heap.size ≤ k → E.I k = false := fun k hk => by
      cases h : E.I k with
      | false => rfl
      | true => have := hs.ok.ibound k h; omega
    have hno : ∀ id pb loc, σ.h id = some pb → E.β id = some loc → loc.b ≠ some E.w.heap.size := fun id pb loc g1 g2 g3 => absurd (hs.ok.heap.lt g1 g2 g3) (Nat.lt_irrefl _)
    let E1 : Env := { E with w := w1 }
    have x1 : Ext [] E E1 := Ext.turned htu (Nat.le_refl _) hs.ok.ibound
    have s1 := hs.bare.turned htu (hI0 _ (Nat.le_refl _)) (Nat.zero_le _) (fun b h => by cases h) hno
    have hslots : Slots E1 σ.t C.nt a.tmps := ⟨hs.size, s1.slots, hs.hi⟩
    have hrec : RecAt E1 ⟨n, T, gfn.ntmps⟩ (E.w.heap.size + 1) r σ.t C.nt := by
      refine ⟨hl1, by rw [hr], by rw [hr], hI0 _ (by omega), fun id hid loc hloc hlb => ?_, by rw [hr]; exact hslots⟩
      obtain ⟨pb, hpb⟩ := hT0 id hid
      have := hs.ok.heap.lt hpb (show E.β id = some loc from hloc) hlb
      omega
    refine ⟨E.w.heap.size + 1, [{ target := .collected E.w.heap.size, args := #[] }], w1, { target := .fn (.func gf) vs.toArray, args := #[.func (.yield (E.w.heap.size + 1)) #[] #[]] }, w1, gf,
      #[.func (.yield (E.w.heap.size + 1)) #[] #[]] ++ vs.toArray, w1, ?_, ?_, fun _ _ => trivial, ?_, fun h => (by cases h), ?_⟩
    · rw [← hw1, hr]; exact run_enterLoop_outer _ _ _ _ _
    · simp only [resolve, hag]
      simp [Deferred.ofValue, Sem.run_pure, Act.eval]
    · simp only [invoke, run_callFunc ⟨gfn, hf, hn, by simp [hb]⟩]
    · refine callsIn_wide.2 (calls_of_wp hf hb ?_)
      have hs1 : SatF E1 ⟨n, T, gfn.ntmps⟩ (fun id => n ≤ id) ⟨fun k => ((.fn (.yield (E.w.heap.size + 1)) [] []) :: caps).getD k .any, σ.h⟩
          { tmps := (#[Value.func (.yield (E.w.heap.size + 1)) #[] #[]] ++ vs.toArray) ++ Array.replicate (gfn.ntmps - (#[Value.func (.yield (E.w.heap.size + 1)) #[] #[]] ++ vs.toArray).size) undef, defers := [] } E1 := by
        refine ⟨s1.ok, fun id hid => s1.ok.fresh id hid, .refl _ _, fun k v hk => ?_, rfl, ?_, fun k hk => ?_⟩
        · obtain ⟨Y, hY⟩ : ∃ Y : PV, Y = .fn (.yield (E.w.heap.size + 1)) [] [] := ⟨_, rfl⟩
          show VR E1.rd E1.β (((PV.fn (.yield (E.w.heap.size + 1)) [] []) :: caps).getD k .any) v
          rw [← hY]
          rw [Array.getElem?_append, Array.getElem?_append] at hk
          cases k with
          | zero =>
            simp at hk
            subst hk
            show VR E1.rd E1.β Y _
            rw [hY]
            exact .fn _ [] [] [] [] rfl rfl (by simp) (by simp)
          | succ k =>
            show VR E1.rd E1.β (caps.getD k .any) v
            by_cases hkc : k < vs.length
            · rw [if_pos (by simp; omega)] at hk
              simp at hk
              have hcap : caps[k]? = some (caps[k]'(by rw [← hv]; exact hkc)) := List.getElem?_eq_getElem (by rw [← hv]; exact hkc)
              have h3 : E.vr _ v := h2 k _ v hcap hk
              have e : caps.getD k .any = caps[k]'(by rw [← hv]; exact hkc) := by simp [List.getD, hcap]
              rw [e]
              exact x1.vr h3
            · have e : caps.getD k .any = .any := by
                simp only [List.getD]
                rw [List.getElem?_eq_none (by rw [← hv]; omega)]; rfl
              rw [e]; exact .any v
        · simp; omega
        · have hk' : gfn.ntmps ≤ k := hk
          show (_ :: caps).getD k .any = .any
          simp only [List.getD]
          rw [List.getElem?_eq_none (by simp; omega)]; rfl
      refine wp_mono (hbody E1 _ r hrec (by rw [hr]) (by rw [hr]) (by rw [hr]) _ E1 hs1) ?_
      rintro e a2 w2 ⟨σ2, n2, E2, rfl, hs2, he2, hR⟩
      obtain ⟨hl2, hI2, _⟩ := hrec.now hs2
      have hT1 : ∀ id ∈ T, ∀ loc, E1.β id = some loc → loc.b ≠ some E.w.heap.size := by
        intro id hid loc hloc hlb
        obtain ⟨pb, hpb⟩ := hT0 id hid
        exact absurd (hs.ok.heap.lt hpb (show E.β id = some loc from hloc) hlb) (Nat.lt_irrefl _)
      have hk2 : E2.w.heap[E.w.heap.size]? = some (.deferred (some [])) := (hs2.ext.block _ (by show _ < w1.heap.size; omega) hT1).trans hk1
      have hID : E2.I E.w.heap.size = false := by
        cases hI : E2.I E.w.heap.size with
        | false => rfl
        | true =>
          rcases hs2.ext.newI _ hI with g | g | ⟨id0, g0, l0, g1, g2⟩
          · have g : E.I E.w.heap.size = true := g
            rw [hI0 _ (Nat.le_refl _)] at g; cases g
          · have g : w1.heap.size ≤ E.w.heap.size := g
            omega
          · exact absurd g2 (hT1 id0 g0 l0 g1)
      have post : a2.defers = [] ∧ ∃ v, (results gfn a2.tmps).run P E2.w = .ok v E2.w ∧ rangePost (FW none) 1 P (E.w.heap.size + 1) (Looped E0 C σ.t R a) { a with defers := [{ target := .collected E.w.heap.size, args := #[] }] ++ a.defers } (.returned v) E2.w := by
        refine ⟨hs2.defers, .tuple #[], by simp [results, hres], none, E2.w.putObj (E.w.heap.size + 1) (.loop { r with state := .exhausted }), ?_, ?_⟩
        · have := run_endLoop (P := P) hl2 (by rw [hr]; simp)
          have hp : r.pending = none := by rw [hr]
          exact this.trans (by rw [hp])
        · refine ⟨rfl, E.w.heap.size, { E2 with w := E2.w.putObj (E.w.heap.size + 1) (.loop { r with state := .exhausted }) }, σ2.h, n2, ?_, rfl, hR, ?_, (World.putObj_heap_other (by omega)).trans hk2, hs.ext.size, hID⟩
          · simp [push, hs.defers]
          · have hx : Ext C.T E0 E2 := (hs.ext.trans x1 (by simp)).trans hs2.ext (fun id hid => (hT id hid).imp (fun h => h) fun h => hs.n0 id h)
            have s2 : SatF E0 C (fun id => n2 ≤ id) ⟨σ.t, σ2.h⟩ a E2 := ⟨hs2.ok, hs.n0, hx, fun k v hk => hs2.ext.vr (x1.vr (hs.slots k v hk)), hs.defers, hs.size, hs.hi⟩
            exact s2.turned (Turned.putObj _ _ _) hI2 (by have := hs.ext.size; omega) hE0 (hs2.ok.noRow hl2)
      rcases he2 with rfl | rfl
      · exact post
      · exact post

theorem wpIn_wp {P : Program} {c : Code} {Q : Exit → Act → World → Prop} {a : Act} {w : World} (h : c.wp P Q a w) : c.wpIn Fence.wide 1 P Q a w := (wpIn_wide (n := 1)).2 h

/-- A block of deferred calls is no data. -/
theorem SatF.unI {E0 : Env} {C : Cx} {fr : Nat → Prop} {σ : Core} {a : Act} {E : Env} (hs : SatF E0 C fr σ a E) {l : Nat} {x : Option (List Deferred)} (hl : E.w.heap[l]? = some (.deferred x)) (hl0 : E0.w.heap.size ≤ l) (hE0 : ∀ b, E0.I b = true → b < E0.w.heap.size) : SatF E0 C fr σ a { E with I := fun b => E.I b && decide (b ≠ l) } := by
  have hrd : rdOf (fun b => E.I b && decide (b ≠ l)) E.w = E.rd := by
    funext b
    unfold Env.rd rdOf
    by_cases hb : b = l
    · subst hb
      simp [hl]
    · simp [hb]
  refine ⟨⟨⟨fun id pb hh => ?_, hs.ok.heap.inj⟩, hs.ok.fresh, fun b hb => ?_⟩, hs.n0, ?_, fun k v hk => ?_, hs.defers, hs.size, hs.hi⟩
  · obtain ⟨loc, h1, h2⟩ := hs.ok.heap.row id pb hh
    refine ⟨loc, h1, h2.sz, h2.el, h2.cell, h2.nl, fun b hb => ?_⟩
    obtain ⟨g1, cur, g2, g3, g4⟩ := h2.blk b hb
    refine ⟨by simp [g1], cur, g2, ?_, g4⟩
    show CellsAt (rdOf (fun b => E.I b && decide (b ≠ l)) E.w) _ _ _
    rw [hrd]; exact g3
  · have : E.I b = true := by
      have hb' : (E.I b && decide (b ≠ l)) = true := hb
      simp at hb'; exact hb'.1
    exact hs.ok.ibound b this
  · have hx := hs.ext
    refine ⟨fun b hb => ?_, hx.β, hx.new, fun b hb => ?_, hx.os, hx.tape, hx.output, hx.size, hx.block, hx.imm⟩
    · have := hx.i b hb
      have h1 := hE0 b hb
      show (E.I b && decide (b ≠ l)) = true
      simp [this]; omega
    · have hb' : (E.I b && decide (b ≠ l)) = true := hb
      simp at hb'
      exact hx.newI b hb'.1
  · show VR (rdOf (fun b => E.I b && decide (b ≠ l)) E.w) E.β _ _
    rw [hrd]; exact hs.slots k v hk

/-- **A function whose walk leaves a mark among its deferred calls.** -/
theorem pcall_of_marks {P : Program} {f : FuncId} {fn : Func} {c : Code} {args : List PV} {r : PV} (hf : P.funcs[f]? = some fn) (hn : (fn.name == "runtime.NumGoroutine") = false) (hb : fn.body = some c) (hargs : args.length ≤ fn.ntmps) (hids : r.idsIn (fun _ => false) = true)
    (h : ∀ (n : Nat) (E0 : Env) (a : Act), SatF E0 ⟨n, [], fn.ntmps⟩ (fun id => n ≤ id) ⟨fun k => args.getD k .any, rowsH []⟩ a E0 → (∀ b, E0.I b = true → b < E0.w.heap.size) → c.wp P (fun e a' w' => (e = .normal ∨ e = .ret) ∧ ∃ (D : Nat) (a0 : Act) (σ' : Core) (n' : Nat) (E' : Env),
      a' = push [{ target := .collected D, args := #[] }] a0 ∧ E'.w = w' ∧ SatF E0 ⟨n, [], fn.ntmps⟩ (fun id => n' ≤ id) σ' a0 E' ∧ w'.heap[D]? = some (.deferred (some [])) ∧ E0.w.heap.size ≤ D ∧ resAll P σ' fn.results.toList ∧ resOne (fn.results.toList.map fun x => (resP P σ' x).2.v) = r) a E0.w) : PCall P f args r := by
  refine ⟨⟨fn, hf, hn, by simp [hb]⟩, fun E n vals hok hFn hβF hv => ?_⟩
  refine callsIn_wide.1 (callsIn_of_wp_marks (n := 1) hf hb trivial (wpIn_wp ?_))
  have hvl : vals.length ≤ fn.ntmps := by rw [hv.1]; exact hargs
  have hs : SatF E ⟨n, [], fn.ntmps⟩ (fun id => n ≤ id) ⟨fun k => args.getD k .any, rowsH []⟩ { tmps := vals.toArray ++ Array.replicate (fn.ntmps - vals.toArray.size) undef, defers := [] } E := by
    refine ⟨hok, hok.fresh, .refl _ _, ?_, rfl, ?_, ?_⟩
    · intro k v hk
      show E.vr (args.getD k .any) v
      by_cases hka : k < args.length
      · have hkv : k < vals.length := by rw [hv.1]; exact hka
        rw [Array.getElem?_append, if_pos (by simpa using hkv)] at hk
        exact hv.2 k _ v (getD_of hka) (by simpa using hk)
      · have : args.getD k .any = .any := by simp [List.getD, Nat.le_of_not_lt hka]
        rw [this]; exact .any v
    · simp; omega
    · intro k hk
      have hk' : fn.ntmps ≤ k := hk
      show args.getD k .any = .any
      simp only [List.getD]
      rw [List.getElem?_eq_none (by omega)]
      rfl
  refine wp_mono (h n E _ hs hok.ibound) ?_
  rintro e a' w' ⟨he, D, a0, σ', n', E', rfl, rfl, hs', hD, hDs, hres, hr⟩
  replace hs' := hs'.unI hD hDs hok.ibound
  have hI : (fun b => E'.I b && decide (b ≠ D)) D = false := by simp
  have hno : ∀ id pb loc, σ'.h id = some pb → E'.β id = some loc → loc.b ≠ some D := by
    intro id pb loc h1 h2 h3
    obtain ⟨loc', g1, g2⟩ := hs'.ok.heap.row id pb h1
    rw [h2] at g1; cases g1
    obtain ⟨_, cur, hsee, _⟩ := g2.blk D h3
    rw [hD] at hsee
    rcases hsee with ⟨h, _⟩ | ⟨_, _, _, _, _, _, _, _, _, h, _⟩ <;> cases h
  have hs2 := hs'.turned (Turned.putObj E'.w D (.deferred none)) hI hDs hok.ibound hno
  obtain ⟨v, hrun, hvr⟩ := run_results (P := P) hs2 fn hres
  rw [hr] at hvr
  have hx := hs2.ext
  have post : LeavesInM Fence.wide 1 P fn (push [{ target := .collected D, args := #[] }] a0).tmps (fun e w' => ∃ (v : Value) (E2 : Env), E2.w = w' ∧ e = .returned v ∧ Ext [] E E2 ∧ OkE E2 (rowsH ([] ++ (([] : List PB).zipIdx n).map fun x => (x.2, x.1))) (fun id => n + ([] : List PB).length ≤ id) ∧ (∀ id, id < n → E2.β id = E.β id) ∧ E2.vr r v) (push [{ target := .collected D, args := #[] }] a0).defers .returning E'.w := by
    show LeavesInM _ _ _ _ _ _ (a0.defers ++ [_]) _ _
    rw [hs'.defers]
    refine ⟨by simp, .inl ⟨D, _, rfl, run_takeDeferred hD, ?_⟩⟩
    show LeavesIn _ _ _ _ _ _ _ _ _
    refine ⟨v, hrun, v, { I := fun b => E'.I b && decide (b ≠ D), w := E'.w.putObj D (.deferred none), β := E.β }, rfl, rfl, ⟨hx.i, fun _ _ h => h, fun id l b h h' _ => (by have h0 : E.β id = some l := h; rw [h'] at h0; cases h0), hx.newI, hx.os, hx.tape, hx.output, hx.size, hx.block, hx.imm⟩,
      ⟨⟨fun id pb hh => ?_, fun id id' pb pb' l l' b hh => ?_⟩, fun id hid => hok.fresh id (by simpa using hid), hs2.ok.ibound⟩, fun _ _ => rfl, ?_⟩
    · simp at hh
    · simp at hh
    · exact VR.restrict (S := fun _ => false) (fun id l h => by cases h) hvr hids
  rcases he with rfl | rfl
  · exact post
  · exact post

/-- Two walks, the second begun anew where the first ended. -/
theorem SatF.back {E0 E E2 : Env} {C C2 : Cx} {fr fr2 : Nat → Prop} {σ σ2 : Core} {a a2 : Act} (hs : SatF E0 C fr σ a E) (h2 : SatF E C2 fr2 σ2 a2 E2) (hT : ∀ id ∈ C2.T, id ∈ C.T ∨ C.n0 ≤ id) (hnt : C2.nt = C.nt) : SatF E0 C fr2 σ2 a2 E2 :=
  ⟨h2.ok, hs.n0, hs.ext.trans h2.ext (fun id hid => (hT id hid).imp (fun h => h) fun h => hs.n0 id h), h2.slots, h2.defers, h2.size.trans hnt, fun k hk => h2.hi k (hnt ▸ hk)⟩

/-- A piece that ends normally, then the rest. -/
theorem TrE.andThen {E0 : Env} {P : Program} {C : Cx} {σ : Core} {n : Nat} {a : Act} {E : Env} {x y : Code} {Q : Exit → Act → World → Prop} (hs : SatF E0 C (fun id => n ≤ id) σ a E)
    (h : TrE E0 P C x σ n (fun e σ' n' => e = .normal ∧ ∀ a E, SatF E0 C (fun id => n' ≤ id) σ' a E → y.wp P Q a E.w)) : (Code.seq x y).wp P Q a E.w := by
  refine wp_seq (wp_mono (h a E hs) ?_)
  rintro e a w ⟨σ', n', E', rfl, hs', rfl, hq⟩
  exact hq a E' hs'

/-- The last region and the return, the mark among the deferred calls. -/
theorem tail_ok {E0 : Env} {P : Program} {C : Cx} {σ : Core} {n : Nat} {a : Act} {E : Env} {d : List Deferred} {id : Nat} {ops : Array Oper} {Φ : Core → Prop} (hs : SatF E0 C (fun id => n ≤ id) σ a E) (h : ∀ K : Core → Prop, (∀ σ', Φ σ' → K σ') → runOps P C ops ops.toList n σ K) :
    (Code.seq (.region id ops false) .ret).wp P (fun e a' w' => e = .ret ∧ ∃ (a0 : Act) (σ' : Core) (n' : Nat) (E' : Env), a' = push d a0 ∧ E'.w = w' ∧ SatF E0 C (fun id => n' ≤ id) σ' a0 E' ∧ Φ σ') (push d a) E.w := by
  refine wp_seq ?_
  have h1 := runOps_ok (E0 := E0) (Q := fun e a' w' => e = .normal ∧ ∃ (σ' : Core) (n' : Nat) (E' : Env), E'.w = w' ∧ SatF E0 C (fun id => n' ≤ id) σ' a' E' ∧ Φ σ') ops.toList 0 n σ _ (fun j => by simp) (h _ fun _ h => h) _ a E hs (fun _ h => h) (fun σ' a' E' hK hs' => ⟨rfl, σ', n + 4 * ops.size, E', rfl, by simpa using hs', hK⟩)
  have h2 := wpOps_push (d := d) _ _ _ h1
  refine wp_mono (Q := Pushed d fun e a' w' => e = .normal ∧ ∃ (σ' : Core) (n' : Nat) (E' : Env), E'.w = w' ∧ SatF E0 C (fun id => n' ≤ id) σ' a' E' ∧ Φ σ') (wp_region ?_) ?_
  · rw [List.range_eq_range']
    simpa using h2
  · rintro e a' w' ⟨a0, rfl, rfl, σ', n', E', rfl, hs', hΦ⟩
    exact wp_ret ⟨rfl, a0, σ', n', E', rfl, rfl, hs', hΦ⟩

theorem SatF.toSt {E0 : Env} {C : Cx} {fr : Nat → Prop} {σ : Core} {a : Act} {E : Env} (hs : SatF E0 C fr σ a E) (L : List (Nat × PV)) (R : Rows) (hL : slotsLe none C.nt σ.t L) (hR : rowsLe none σ.h R) : SatF E0 C fr (St L R) a E :=
  hs.le none (by simp) (slotsF L) (rowsH R) (fun k => (hL.all k).1) (fun k hk => (hL.all k).2 hk) hR.all
theorem TrR.block {l m : Nat} {P : Program} {C : Cx} {σ : Core} {n : Nat} {Q : PPost} {id : Nat} {c : Code} (h : TrR l m P C c σ n (PPost.blk id Q)) : TrR l m P C (.block id c) σ n Q := by
  intro E0 a E hs
  refine wpIn_block (wpIn_mono (h E0 a E hs) ?_)
  rintro e a w ⟨σ', n', E', rfl, hs', hq⟩
  cases e with
  | exit id' =>
    simp only [PPost.blk] at hq
    simp only [Exit.inBlock]
    split at hq
    · rename_i he; rw [if_pos he]; exact ⟨σ', n', E', rfl, hs', hq⟩
    · rename_i he; rw [if_neg he]; exact ⟨σ', n', E', rfl, hs', hq⟩
  | _ => exact ⟨σ', n', E', rfl, hs', hq⟩
theorem SatF.start {E0 : Env} {C : Cx} {fr : Nat → Prop} {σ : Core} {a : Act} {E : Env} (hs : SatF E0 C fr σ a E) {n0 : Nat} {T : List Nat} (hn : ∀ id, n0 ≤ id → fr id) : SatF E ⟨n0, T, C.nt⟩ fr σ a E :=
  ⟨hs.ok, fun id h => hs.ok.fresh id (hn id h), .refl _ _, hs.slots, hs.defers, hs.size, hs.hi⟩
attribute [simp] updL
end Go.PM
