/- The pure machine, part 19: the theorem on regions that draw their order. -/
import Derived.Test.YtmljpbhmdjpbaaaPm18
namespace Go.PM
set_option linter.unusedVariables false
set_option linter.unusedSimpArgs false

abbrev OEff := Option Eff
def OEff.w : OEff → Bool
  | some ε => !ε.up.isEmpty
  | none => false
def OEff.ids : OEff → List Nat
  | some ε => ε.foot ++ ε.up.map (·.1)
  | none => []
/-- Two effects that do not meet. -/
def Ap (x y : OEff) : Prop := (x.w = false ∧ y.w = false) ∨ ∀ id ∈ x.ids, id ∉ y.ids

theorem Ap.symm {x y : OEff} (h : Ap x y) : Ap y x := by
  rcases h with ⟨a, b⟩ | h
  · exact .inl ⟨b, a⟩
  · exact .inr fun id h1 h2 => h id h2 h1

def apOf (σ : Core) (o : Oper) : OEff → Core
  | some ε => σ.app o.dst ε
  | none => σ.put o.dst (.tup [])

theorem happ_notin {id : Nat} : ∀ (u : List (Nat × Option PB)) (h : Hp), (∀ x ∈ u, x.1 ≠ id) → happ h u id = h id
  | [], _, _ => rfl
  | (k, x) :: r, h, hn => by
    unfold happ
    rw [happ_notin r _ fun y hy => hn y (by simp [hy])]
    show (if id = k then x else h id) = h id
    rw [if_neg (fun e => hn (k, x) (by simp) e.symm)]
theorem happ_congr {id : Nat} : ∀ (u : List (Nat × Option PB)) (h h2 : Hp), h id = h2 id → happ h u id = happ h2 u id
  | [], _, _, e => e
  | (k, x) :: r, h, h2, e => by
    unfold happ
    refine happ_congr r _ _ ?_
    show (if id = k then x else h id) = (if id = k then x else h2 id)
    split
    · rfl
    · exact e

theorem happ_comm (u v : List (Nat × Option PB)) (h : Hp) (hd : ∀ x ∈ u, ∀ y ∈ v, x.1 ≠ y.1) : happ (happ h u) v = happ (happ h v) u := by
  funext id
  by_cases hu : ∃ x ∈ u, x.1 = id
  · obtain ⟨x, hx, e⟩ := hu
    have hv : ∀ y ∈ v, y.1 ≠ id := fun y hy e2 => hd x hx y hy (e.trans e2.symm)
    rw [happ_notin v _ hv]
    exact happ_congr u _ _ (happ_notin v h hv).symm
  · have hu' : ∀ x ∈ u, x.1 ≠ id := fun x hx e => hu ⟨x, hx, e⟩
    rw [happ_notin u (happ h v) hu']
    exact happ_congr v _ _ (happ_notin u h hu')

theorem put_comm (σ : Core) {d e : Option Tmp} (p q : PV) (h : ∀ k, d = some k → e ≠ some k) : (σ.put d p).put e q = (σ.put e q).put d p := by
  cases d with
  | none => rfl
  | some a =>
    cases e with
    | none => rfl
    | some b =>
      have hne : a ≠ b := fun e => h a rfl (by rw [e])
      simp only [Core.put]
      congr 1
      funext j
      simp only [upd]
      by_cases h1 : j = a
      · subst h1; simp [hne]
      · by_cases h2 : j = b
        · subst h2; simp [h1]
        · simp [h1, h2]

theorem Core.put_h (σ : Core) (d : Option Tmp) (p : PV) : (σ.put d p).h = σ.h := by cases d <;> rfl
theorem Core.put_mk (σ : Core) (d : Option Tmp) (p : PV) (h : Hp) : (⟨(σ.put d p).t, h⟩ : Core) = Core.put ⟨σ.t, h⟩ d p := by cases d <;> rfl
theorem apOf_h (σ : Core) (o : Oper) (x : OEff) : (apOf σ o x).h = match x with | some ε => happ σ.h ε.up | none => σ.h := by
  cases x <;> simp only [apOf, Core.app, Core.put_h]
theorem Core.put_t (σ : Core) (d : Option Tmp) (p : PV) (k : Nat) (h : ∀ j, d = some j → j ≠ k) : (σ.put d p).t k = σ.t k := by
  cases d with
  | none => rfl
  | some j =>
    show (if k = j then p else σ.t k) = σ.t k
    rw [if_neg (fun e => h j rfl e.symm)]
theorem apOf_t (σ : Core) (o : Oper) (x : OEff) (k : Nat) (h : ∀ j, o.dst = some j → j ≠ k) : (apOf σ o x).t k = σ.t k := by
  cases x with
  | none => exact Core.put_t σ _ _ k h
  | some ε => exact Core.put_t ⟨σ.t, happ σ.h ε.up⟩ _ _ k h

theorem apOf_comm {σ : Core} {oi oj : Oper} {x y : OEff} (hd : ∀ k, oi.dst = some k → oj.dst ≠ some k) (ha : Ap x y) : apOf (apOf σ oi x) oj y = apOf (apOf σ oj y) oi x := by
  have hup : ∀ ε ε', x = some ε → y = some ε' → ∀ a ∈ ε.up, ∀ b ∈ ε'.up, a.1 ≠ b.1 := by
    intro ε ε' hx hy a ha' b hb e
    rcases ha with ⟨h1, h2⟩ | h
    · subst hx
      simp [OEff.w] at h1
      rw [h1] at ha'; cases ha'
    · subst hx; subst hy
      exact h a.1 (by simp only [OEff.ids, List.mem_append, List.mem_map]; exact .inr ⟨a, ha', rfl⟩) (by simp only [OEff.ids, List.mem_append, List.mem_map]; exact .inr ⟨b, hb, e.symm⟩)
  cases x with
  | none =>
    cases y with
    | none => exact put_comm σ _ _ hd
    | some ε' =>
      simp only [apOf, Core.app]
      rw [Core.put_h, Core.put_mk]
      exact put_comm _ _ _ hd
  | some ε =>
    cases y with
    | none =>
      simp only [apOf, Core.app]
      rw [Core.put_h, Core.put_mk]
      exact put_comm _ _ _ hd
    | some ε' =>
      simp only [apOf, Core.app]
      rw [Core.put_h, Core.put_h, Core.put_mk, Core.put_mk, happ_comm _ _ _ (hup ε ε' rfl rfl)]
      exact put_comm _ _ _ hd

section
variable {P : Program} {C : Cx} {ops : Array Oper} {n : Nat}

def gOK (ops : Array Oper) (o : Oper) (t : Nat → PV) (q : Bool) : Prop :=
  match o.guard with
  | none => q = true
  | some (j, want) => ∃ b, gval ops t j want = some b ∧ (b == want) = q

def YP (P : Program) (C : Cx) (ops : Array Oper) (n i : Nat) (o : Oper) (σ : Core) : OEff → Prop
  | some ε => dstOk C o = true ∧ gOK ops o σ.t true ∧ Yl P C ops o (n + 4 * i) σ ε
  | none => dstOk C o = true ∧ gOK ops o σ.t false

theorem gOK_congr {o : Oper} {t t2 : Nat → PV} (h : ∀ k ∈ o.looksAt ops, t2 k = t k) {q : Bool} (hg : gOK ops o t q) : gOK ops o t2 q := by
  unfold gOK at *
  cases hgd : o.guard with
  | none => rw [hgd] at hg; exact hg
  | some gw =>
    obtain ⟨j, want⟩ := gw
    rw [hgd] at hg
    obtain ⟨b, h1, h2⟩ := hg
    refine ⟨b, ?_, h2⟩
    rw [← h1]
    unfold gval
    cases hd : (ops[j]?).bind (·.dst) with
    | none => rfl
    | some d =>
      simp only
      rw [h d (by simp [Oper.looksAt, hgd, hd])]

theorem YP.congr {i : Nat} {o : Oper} {σ σ2 : Core} {x : OEff} (h : YP P C ops n i o σ x) (ht : ∀ k ∈ o.looksAt ops, σ2.t k = σ.t k) (hh : ∀ id ∈ (match x with | some ε => ε.foot | none => []), σ2.h id = σ.h id) : YP P C ops n i o σ2 x := by
  cases x with
  | none => exact ⟨h.1, gOK_congr ht h.2⟩
  | some ε =>
    refine ⟨h.1, gOK_congr ht h.2.1, fun σ3 h3 h4 => h.2.2 σ3 (fun k hk => (h3 k hk).trans (ht k hk)) (fun id hid => (h4 id hid).trans (hh id hid))⟩

theorem YP.other {i : Nat} {oi oj : Oper} {σ : Core} {x y : OEff} (hl : ∀ d, oj.dst = some d → d ∉ oi.looksAt ops) (ha : Ap x y) : YP P C ops n i oi σ x ↔ YP P C ops n i oi (apOf σ oj y) x := by
  have ht : ∀ k ∈ oi.looksAt ops, (apOf σ oj y).t k = σ.t k := fun k hk => apOf_t σ oj y k fun j hj e => hl j hj (by rw [e]; exact hk)
  have hh : ∀ id ∈ (match x with | some ε => ε.foot | none => []), (apOf σ oj y).h id = σ.h id := by
    intro id hid
    rw [apOf_h]
    cases y with
    | none => rfl
    | some ε' =>
      cases x with
      | none => cases hid
      | some ε =>
        simp only at hid ⊢
        rcases ha with ⟨_, h2⟩ | h
        · have : ε'.up = [] := by simpa [OEff.w] using h2
          rw [this]; rfl
        · exact happ_notin _ _ fun z hz e => h id (by simp only [OEff.ids, List.mem_append]; exact .inl hid) (by simp only [OEff.ids, List.mem_append, List.mem_map]; exact .inr ⟨z, hz, e⟩)
  exact ⟨fun h => h.congr ht hh, fun h => h.congr (fun k hk => (ht k hk).symm) (fun id hid => (hh id hid).symm)⟩

/-- One of the two waits for the other. -/
def touch (ops : Array Oper) (i j : Nat) : Bool :=
  (match ops[i]? with | some o => o.after.any fun e => Region.binds .any e && e.on == j | none => false) ||
  (match ops[j]? with | some o => o.after.any fun e => Region.binds .any e && e.on == i | none => false)

theorem touch_comm (ops : Array Oper) (i j : Nat) : touch ops i j = touch ops j i := by
  unfold touch; exact Bool.or_comm _ _

def okL (ops : Array Oper) (i : Nat) (x : OEff) (L : List (Nat × OEff)) : Prop := ∀ p ∈ L, touch ops i p.1 = false → Ap x p.2

/-- Whatever order is picked from here on. -/
def pAny (P : Program) (C : Cx) (ops : Array Oper) (n : Nat) (K : Core → Prop) : Nat → Array Bool → List (Nat × OEff) → Core → Prop
  | 0, listed, _, σ => Region.ready .any ops listed = [] ∧ K σ
  | fuel + 1, listed, L, σ => (Region.ready .any ops listed = [] → K σ) ∧
    ∀ i ∈ Region.ready .any ops listed, ∀ o, ops[i]? = some o → ∃ x, YP P C ops n i o σ x ∧ okL ops i x L ∧ pAny P C ops n K fuel (listed.setIfInBounds i true) ((i, x) :: L) (apOf σ o x)

theorem pAny_sub {K : Core → Prop} : ∀ (fuel : Nat) (listed : Array Bool) (L L' : List (Nat × OEff)) (σ : Core), (∀ p ∈ L', p ∈ L) → pAny P C ops n K fuel listed L σ → pAny P C ops n K fuel listed L' σ
  | 0, _, _, _, _, _, h => h
  | fuel + 1, listed, L, L', σ, hs, h => ⟨h.1, fun i hi o ho => by
    obtain ⟨x, h1, h2, h3⟩ := h.2 i hi o ho
    refine ⟨x, h1, fun p hp => h2 p (hs p hp), pAny_sub fuel _ _ _ _ (fun p hp => ?_) h3⟩
    rcases List.mem_cons.1 hp with h | h
    · exact List.mem_cons.2 (.inl h)
    · exact List.mem_cons.2 (.inr (hs p h))⟩

theorem ready_touch {i j : Nat} {listed : Array Bool} (hi : i ∈ Region.ready .any ops listed) (hj : j ∈ Region.ready .any ops listed) : touch ops i j = false := by
  have aux : ∀ i j, i ∈ Region.ready .any ops listed → j ∈ Region.ready .any ops listed → (match ops[i]? with | some o => o.after.any fun e => Region.binds .any e && e.on == j | none => false) = false := by
    intro i j hi hj
    obtain ⟨_, o, ho, hall⟩ := mem_ready.1 hi
    obtain ⟨hjun, oj, hoj, _⟩ := mem_ready.1 hj
    rw [ho]
    simp only
    rw [Array.any_eq_false]
    intro k hk
    cases hb : Region.binds .any o.after[k] with
    | false => simp
    | true =>
      have := hall _ (Array.getElem_mem hk) hb
      simp only [Bool.true_and, beq_iff_eq]
      intro e
      rw [e] at this
      rcases Nat.lt_or_ge j listed.size with h' | h'
      · simp [h'] at this hjun; rw [this] at hjun; cases hjun
      · simp [Array.getElem?_eq_none h'] at this
  unfold touch
  rw [aux i j hi hj, aux j i hj hi]
  rfl

/-- An operation that may come now may be taken first. -/
theorem pAny_first {K : Core → Prop} {i : Nat} {oi : Oper} {x : OEff} (hi : ops[i]? = some oi) : ∀ (fuel : Nat) (listed : Array Bool) (L : List (Nat × OEff)) (σ : Core),
    (∀ j oj, ops[j]? = some oj → j ≠ i → listed.getD j true = false → (∀ e ∈ oj.after, Region.binds .any e = true → e.on ≠ i) → oi.apart ops oj = true) →
    i ∈ Region.ready .any ops listed → YP P C ops n i oi σ x → okL ops i x L →
    pAny P C ops n K fuel (listed.setIfInBounds i true) ((i, x) :: L) (apOf σ oi x) → pAny P C ops n K (fuel + 1) listed L σ := by
  intro fuel
  induction fuel with
  | zero =>
    intro listed L σ _ hr hy hok H
    refine ⟨fun h => (by rw [h] at hr; cases hr), fun j hj o ho => ?_⟩
    by_cases hji : j = i
    · subst hji
      rw [hi] at ho; cases ho
      exact ⟨x, hy, hok, H⟩
    · have := ready_mono hj hji
      rw [H.1] at this
      cases this
  | succ fuel ih =>
    intro listed L σ hfree hr hy hok H
    refine ⟨fun h => (by rw [h] at hr; cases hr), fun j hj oj hoj => ?_⟩
    by_cases hji : j = i
    · subst hji
      rw [hi] at hoj; cases hoj
      exact ⟨x, hy, hok, H⟩
    · obtain ⟨y, y1, y2, y3⟩ := H.2 j (ready_mono hj hji) oj hoj
      obtain ⟨hjun, oj', hoj', hall⟩ := mem_ready.1 hj
      rw [hoj] at hoj'; cases hoj'
      have hnot : ∀ e ∈ oj.after, Region.binds .any e = true → e.on ≠ i := fun e he hb heq => by
        have h1 := hall e he hb
        have h0 := (mem_ready.1 hr).1
        rw [heq] at h1
        rcases Nat.lt_or_ge i listed.size with h' | h'
        · simp [h'] at h0 h1; rw [h0] at h1; cases h1
        · simp [Array.getElem?_eq_none h'] at h1
      obtain ⟨a1, a2, a3⟩ := Oper.apart_spec (hfree j oj hoj hji hjun hnot)
      have ht := ready_touch hj hr
      have hap : Ap y x := y2 (i, x) (by simp) ht
      have y1' : YP P C ops n j oj σ y := (YP.other (P := P) (C := C) (n := n) (i := j) a1 hap).2 y1
      have hy' : YP P C ops n i oi (apOf σ oj y) x := (YP.other (P := P) (C := C) (n := n) (i := i) a3 hap.symm).1 hy
      have hcomm := apOf_comm (σ := σ) (oi := oi) (oj := oj) (x := x) (y := y) a2 hap.symm
      have hfree' : ∀ k ok, ops[k]? = some ok → k ≠ i → (listed.setIfInBounds j true).getD k true = false →
          (∀ e ∈ ok.after, Region.binds .any e = true → e.on ≠ i) → oi.apart ops ok = true := fun k ok hk hki hun hno => by
        refine hfree k ok hk hki ?_ hno
        by_cases hjk : j = k
        · subst hjk; exact hjun
        · rw [getD_set_ne true hjk] at hun; exact hun
      refine ⟨y, y1', fun p hp => y2 p (by simp [hp]), ih _ _ _ hfree' (ready_mono hr (Ne.symm hji)) hy' (fun p hp hpt => ?_) ?_⟩
      · rcases List.mem_cons.1 hp with rfl | hp
        · exact hap.symm
        · exact hok p hp hpt
      · rw [Array.setIfInBounds_comm _ _ hji, ← hcomm]
        refine pAny_sub fuel _ _ _ _ (fun p hp => ?_) y3
        simp only [List.mem_cons] at hp ⊢
        rcases hp with h | h | h
        · exact .inr (.inl h)
        · exact .inl h
        · exact .inr (.inr h)

/-- The walk in the order of the text. -/
def pLex (P : Program) (C : Cx) (ops : Array Oper) (n : Nat) (K : Core → Prop) : List Oper → Nat → List (Nat × OEff) → Core → Prop
  | [], _, _, σ => K σ
  | o :: r, i, L, σ => ∃ x, YP P C ops n i o σ x ∧ okL ops i x L ∧ pLex P C ops n K r (i + 1) ((i, x) :: L) (apOf σ o x)

theorem pAny_lex {K : Core → Prop} : ∀ (l : List Oper) (k : Nat) (listed : Array Bool) (L : List (Nat × OEff)) (σ : Core), (∀ j, l[j]? = ops[k + j]?) →
    Region.lexFrom .any ops l.length k listed = true → pLex P C ops n K l k L σ → pAny P C ops n K l.length listed L σ
  | [], _, _, _, _, _, hB, h => ⟨by simpa [Region.lexFrom] using hB, h⟩
  | o :: l, k, listed, L, σ, hl, hB, h => by
    have h0 : ops[k]? = some o := by simpa using (hl 0).symm
    simp only [List.length_cons, Region.lexFrom, Bool.and_eq_true] at hB
    obtain ⟨⟨hr, hf⟩, hB'⟩ := hB
    obtain ⟨x, h1, h2, h3⟩ := h
    exact pAny_first h0 l.length listed L σ (Region.free_spec h0 hf) (by simpa using hr) h1 h2
      (pAny_lex l (k + 1) _ _ _ (fun j => by have := hl (j + 1); simpa [Nat.add_assoc, Nat.add_comm 1 j] using this) hB' h3)

theorem wpAny_of_pAny {E0 : Env} {K : Core → Prop} {Q : Exit → Act → World → Prop} (hQ : ∀ (σ : Core) (a : Act) (E : Env), K σ → SatF E0 C (fun j => n + 4 * ops.size ≤ j) σ a E → Q .normal a E.w) :
    ∀ (fuel : Nat) (listed : Array Bool) (L : List (Nat × OEff)) (σ : Core) (a : Act) (E : Env), listed.size = ops.size → SatF E0 C (fun j => n ≤ j ∧ ∀ i, i < ops.size → listed.getD i false = true → ¬ (n + 4 * i ≤ j ∧ j < n + 4 * i + 4)) σ a E →
      pAny P C ops n K fuel listed L σ → wpAny P .any ops Q fuel listed a E.w := by
  have fin : ∀ (listed : Array Bool) (σ : Core) (a : Act) (E : Env), SatF E0 C (fun j => n ≤ j ∧ ∀ i, i < ops.size → listed.getD i false = true → ¬ (n + 4 * i ≤ j ∧ j < n + 4 * i + 4)) σ a E → K σ → Q .normal a E.w := by
    intro listed σ a E hs hK
    refine hQ σ a E hK (hs.fr_mono fun j hj => ⟨by omega, fun i hi _ => by omega⟩)
  intro fuel
  induction fuel with
  | zero => intro listed L σ a E _ hs h; exact ⟨h.1, fin listed σ a E hs h.2⟩
  | succ fuel ih =>
    intro listed L σ a E hsz hs h
    refine ⟨fun h0 => fin listed σ a E hs (h.1 h0), fun i hi => ?_⟩
    obtain ⟨hun, o, ho, _⟩ := mem_ready.1 hi
    have hilt : i < ops.size := (Array.getElem?_eq_some_iff.1 ho).1
    obtain ⟨x, h1, h2, h3⟩ := h.2 i hi o ho
    have hunf : listed.getD i false = false := by
      have hl : i < listed.size := by rw [hsz]; exact hilt
      simp [hl] at hun ⊢; exact hun
    have hset : ∀ k, (listed.setIfInBounds i true).getD k false = true → k = i ∨ listed.getD k false = true := by
      intro k hk
      by_cases e : i = k
      · exact .inl e.symm
      · rw [getD_set_ne false e] at hk; exact .inr hk
    unfold wpOp
    rw [ho]
    simp only
    cases x with
    | some ε =>
      obtain ⟨hd, hg, hyl⟩ := h1
      have hw : Region.wanted o (yielded ops a.tmps) = true := by
        unfold gOK at hg
        cases hgd : o.guard with
        | none => simp [Region.wanted, hgd]
        | some gw =>
          obtain ⟨j, want⟩ := gw
          rw [hgd] at hg
          obtain ⟨b, hb1, hb2⟩ := hg
          simp only [Region.wanted, hgd, gval_yielded hs hb1]
          simpa using hb2
      rw [if_pos hw]
      refine .inl (hyl σ (fun _ _ => rfl) (fun _ _ => rfl) E0 _ a E hs (fun k hk => ⟨by omega, fun i' hi' hl' => ?_⟩) _ _ (fun v E' hs' => ih _ _ _ _ _ (by simpa using hsz) (hs'.fr_mono fun j hj => ⟨⟨hj.1, fun i' hi' hl' => ?_⟩, ?_⟩) h3))
      · have : i' ≠ i := fun e => by rw [e, hunf] at hl'; cases hl'
        omega
      · exact hj.2 i' hi' (by
          by_cases e : i = i'
          · subst e
            have hl : i < listed.size := by rw [hsz]; exact hilt
            simp [hl]
          · rw [getD_set_ne false e]; exact hl')
      · exact hj.2 i hilt (by
          have hl : i < listed.size := by rw [hsz]; exact hilt
          simp [hl])
    | none =>
      obtain ⟨hd, hg⟩ := h1
      have hw : Region.wanted o (yielded ops a.tmps) = false := by
        unfold gOK at hg
        cases hgd : o.guard with
        | none => rw [hgd] at hg; cases hg
        | some gw =>
          obtain ⟨j, want⟩ := gw
          rw [hgd] at hg
          obtain ⟨b, hb1, hb2⟩ := hg
          simp only [Region.wanted, hgd, gval_yielded hs hb1]
          simpa using hb2
      rw [hw]
      simp only [Bool.false_eq_true, if_false]
      refine ih _ _ _ _ _ (by simpa using hsz) ((hs.put o.dst (dstOk_lt hd) (vr_undef _ _)).fr_mono fun j hj => ⟨hj.1, fun i' hi' hl' => hj.2 i' hi' ?_⟩) h3
      by_cases e : i = i'
      · subst e
        have hl : i < listed.size := by rw [hsz]; exact hilt
        simp [hl]
      · rw [getD_set_ne false e]; exact hl'

/-- What the walk through the text asks of one operation. -/
def yK (P : Program) (C : Cx) (ops : Array Oper) (n i : Nat) (o : Oper) (σ : Core) (L : List (Nat × OEff)) (K : List (Nat × OEff) → Core → Prop) : Prop :=
  match o.op with
  | .call c => match c.callee with
    | .value x => match evP σ.t x with
      | .fn (.func f) first caps => opndOk x = true ∧ c.args.toList.all opndOk = true ∧ ((PV.idsInL (fun _ => false) (first ++ c.args.toList.map (evP σ.t) ++ caps) = true ∧ ∃ r, PCall P f (first ++ c.args.toList.map (evP σ.t) ++ caps) r ∧ K L (σ.put o.dst r)) ∨
        ∃ F T r G news, CallOk P C σ.h (n + 4 * i) f (first ++ c.args.toList.map (evP σ.t) ++ caps) F T r G news ∧ okL ops i (some (callEff F G r news (n + 4 * i))) L ∧ K ((i, some (callEff F G r news (n + 4 * i))) :: L) (σ.app o.dst (callEff F G r news (n + 4 * i))))
      | _ => False
    | _ => (stepCall P C σ.t σ.h (n + 4 * i) c).1 ∧ okL ops i (some (stepCall P C σ.t σ.h (n + 4 * i) c).2) L ∧ K ((i, some (stepCall P C σ.t σ.h (n + 4 * i) c).2) :: L) (σ.app o.dst (stepCall P C σ.t σ.h (n + 4 * i) c).2)
  | op => (stepO P C σ.t σ.h (n + 4 * i) op).1 ∧ okL ops i (some (stepO P C σ.t σ.h (n + 4 * i) op).2) L ∧ K ((i, some (stepO P C σ.t σ.h (n + 4 * i) op).2) :: L) (σ.app o.dst (stepO P C σ.t σ.h (n + 4 * i) op).2)

def runD (P : Program) (C : Cx) (ops : Array Oper) (n : Nat) : List Oper → Nat → List (Nat × OEff) → Core → (Core → Prop) → Prop
  | [], _, _, σ, K => K σ
  | o :: r, i, L, σ, K => dstOk C o = true ∧ (match o.guard with
    | none => yK P C ops n i o σ L (fun L σ' => runD P C ops n r (i + 1) L σ' K)
    | some (j, want) => match gval ops σ.t j want with
      | some b => ((b = want) → yK P C ops n i o σ L (fun L σ' => runD P C ops n r (i + 1) L σ' K)) ∧ ((b ≠ want) → runD P C ops n r (i + 1) L (σ.put o.dst (.tup [])) K)
      | none => False)

theorem okL_quiet (i : Nat) (x : OEff) (hx : x.w = false) (hid : x.ids = []) (L : List (Nat × OEff)) : okL ops i x L := fun p _ _ => .inr (by rw [hid]; simp)

theorem pLex_sub {K : Core → Prop} : ∀ (l : List Oper) (i : Nat) (L L' : List (Nat × OEff)) (σ : Core), (∀ p ∈ L', p ∈ L ∨ p.2.ids = []) → pLex P C ops n K l i L σ → pLex P C ops n K l i L' σ
  | [], _, _, _, _, _, h => h
  | o :: r, i, L, L', σ, hs, ⟨x, h1, h2, h3⟩ => by
    refine ⟨x, h1, fun p hp ht => ?_, pLex_sub r _ _ _ _ (fun p hp => ?_) h3⟩
    · rcases hs p hp with h | h
      · exact h2 p h ht
      · exact .inr (by rw [h]; simp)
    · rcases List.mem_cons.1 hp with rfl | hp
      · exact .inl (by simp)
      · rcases hs p hp with h | h
        · exact .inl (by simp [h])
        · exact .inr h

theorem pLex_of_runD {K : Core → Prop} : ∀ (l : List Oper) (i : Nat) (L : List (Nat × OEff)) (σ : Core), runD P C ops n l i L σ K → pLex P C ops n K l i L σ
  | [], _, _, _, h => h
  | o :: r, i, L, σ, h => by
    unfold runD at h
    obtain ⟨hd, h⟩ := h
    have key : gOK ops o σ.t true → yK P C ops n i o σ L (fun L σ' => runD P C ops n r (i + 1) L σ' K) → pLex P C ops n K (o :: r) i L σ := by
      intro hg hy
      unfold yK at hy
      split at hy
      · rename_i c ho
        split at hy
        · rename_i x hc
          split at hy
          · rename_i f first caps hev
            obtain ⟨g1, g2, ⟨g3, res, g4, g5⟩ | ⟨F, T, res, G, news, g4, g5, g6⟩⟩ := hy
            · have := pLex_of_runD r (i + 1) L (σ.put o.dst res) g5
              refine ⟨some ⟨res, [], []⟩, ⟨hd, hg, Yl.call hd ho hc g1 g2 hev g4 g3⟩, okL_quiet i _ rfl rfl L, pLex_sub r (i + 1) L _ _ (fun p hp => ?_) this⟩
              rcases List.mem_cons.1 hp with rfl | hp
              · exact .inr rfl
              · exact .inl hp
            · exact ⟨some (callEff F G res news (n + 4 * i)), ⟨hd, hg, Yl.callR hd ho hc g1 g2 hev g4⟩, g5, pLex_of_runD r (i + 1) _ _ g6⟩
          · exact hy.elim
        · obtain ⟨g1, g2, g3⟩ := hy
          have hst := Yl.step (P := P) (C := C) (ops := ops) (o := o) (nid := n + 4 * i) (σ := σ) hd (by rw [ho]; exact g1)
          rw [ho] at hst
          exact ⟨some (stepCall P C σ.t σ.h (n + 4 * i) c).2, ⟨hd, hg, hst⟩, g2, pLex_of_runD r (i + 1) _ _ g3⟩
      · obtain ⟨g1, g2, g3⟩ := hy
        exact ⟨some (stepO P C σ.t σ.h (n + 4 * i) o.op).2, ⟨hd, hg, Yl.step hd g1⟩, g2, pLex_of_runD r (i + 1) _ _ g3⟩
    split at h
    · rename_i hgd
      exact key (by unfold gOK; rw [hgd]) h
    · rename_i j want hgd
      split at h
      · rename_i b hb
        by_cases hbw : b = want
        · exact key (by unfold gOK; rw [hgd]; exact ⟨b, hb, by simp [hbw]⟩) (h.1 hbw)
        · have := pLex_of_runD r (i + 1) L _ (h.2 hbw)
          refine ⟨none, ⟨hd, by unfold gOK; rw [hgd]; exact ⟨b, hb, by simp [hbw]⟩⟩, okL_quiet i _ rfl rfl L, pLex_sub r (i + 1) L _ _ (fun p hp => ?_) this⟩
          rcases List.mem_cons.1 hp with rfl | hp
          · exact .inr rfl
          · exact .inl hp
      · exact h.elim

/-- **A region that draws its order.** -/
theorem Tr.regionD {σ : Core} {Q : PPost} {id : Nat} (hm : P.follows .mixedOrders = true) (hB : Region.lexB .any ops = true) (h : ∀ K : Core → Prop, (∀ σ', Q .normal σ' (n + 4 * ops.size) → K σ') → runD P C ops n ops.toList 0 [] σ K) : Tr P C (.region id ops true) σ n Q := by
  intro E0 a E hs
  refine wp_region_any hm ?_
  have h1 := pLex_of_runD _ _ _ _ (h _ fun _ h => h)
  simp only [Region.lexB, Bool.and_eq_true] at hB
  have h2 := pAny_lex (P := P) (C := C) (ops := ops) (n := n) ops.toList 0 (Array.replicate ops.size false) [] σ (fun j => by simp) (by simpa using hB.2) h1
  have h3 := wpAny_of_pAny (P := P) (C := C) (ops := ops) (n := n) (E0 := E0) (K := fun σ' => Q .normal σ' (n + 4 * ops.size)) (Q := conc E0 C Q) (fun σ' a' E' hK hs' => ⟨σ', n + 4 * ops.size, E', rfl, hs', hK⟩) ops.toList.length (Array.replicate ops.size false) [] σ a { E with w := { E.w with drawn := E.w.drawn + 1 } } (by simp) ((hs.drawn (w' := { E.w with drawn := E.w.drawn + 1 }) ⟨rfl, rfl, rfl, rfl⟩).fr_mono fun j hj => hj.1) h2
  simpa using h3

end
attribute [simp] runD yK
end Go.PM
