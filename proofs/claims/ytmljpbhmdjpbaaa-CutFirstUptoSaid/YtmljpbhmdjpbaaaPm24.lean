/- The pure machine, part 24: regions that draw their order, reckoned with what was read and what was written. -/
import Derived.Test.YtmljpbhmdjpbaaaPm23
namespace Go.PM
set_option linter.unusedVariables false
set_option linter.unusedSimpArgs false

abbrev Ids := List (Nat × List Nat)
def apart : List Nat → List Nat → Prop
  | [], _ => True
  | a :: r, l => a ∉ l ∧ apart r l
theorem apart_spec : ∀ {l m : List Nat}, apart l m → ∀ id ∈ l, id ∉ m
  | a :: r, m, h, id, hid => by
    rcases List.mem_cons.1 hid with rfl | hid
    · exact h.1
    · exact apart_spec h.2 id hid

def okIds (ops : Array Oper) (i : Nat) (ids : List Nat) : Ids → Prop
  | [] => True
  | (j, js) :: L => (apart ids js ∨ touch ops i j = true) ∧ okIds ops i ids L

theorem okIds_spec {ops : Array Oper} {i : Nat} {ids : List Nat} : ∀ {L : Ids}, okIds ops i ids L → ∀ x ∈ L, touch ops i x.1 = false → ∀ id ∈ ids, id ∉ x.2
  | (j, js) :: L, h, x, hx, ht => by
    rcases List.mem_cons.1 hx with rfl | hx
    · rcases h.1 with h1 | h1
      · exact apart_spec h1
      · have ht' : touch ops i j = false := ht
        rw [h1] at ht'; cases ht'
    · exact okIds_spec h.2 x hx ht

/-- What one operation must not meet. -/
def okE (ops : Array Oper) (i : Nat) (ε : Eff) (R W : Ids) : Prop := match ε.up with
  | [] => okIds ops i ε.foot W
  | _ :: _ => okIds ops i (ε.foot ++ ε.up.map (·.1)) W ∧ okIds ops i (ε.foot ++ ε.up.map (·.1)) R

def addR (i : Nat) (ε : Eff) (R : Ids) : Ids := match ε.up, ε.foot with
  | [], [] => R
  | [], f :: fs => (i, f :: fs) :: R
  | _ :: _, _ => R
def addW (i : Nat) (ε : Eff) (W : Ids) : Ids := match ε.up with
  | [] => W
  | u :: us => (i, ε.foot ++ (u :: us).map (·.1)) :: W

/-- 'R' and 'W' list what matters of L. -/
def Lists (L : List (Nat × OEff)) (R W : Ids) : Prop := ∀ p ∈ L, p.2.ids = [] ∨ (p.2.w = false ∧ (p.1, p.2.ids) ∈ R) ∨ (p.1, p.2.ids) ∈ W

theorem Lists.add {L : List (Nat × OEff)} {R W : Ids} (h : Lists L R W) (i : Nat) (ε : Eff) : Lists ((i, some ε) :: L) (addR i ε R) (addW i ε W) := by
  intro p hp
  rcases List.mem_cons.1 hp with rfl | hp0
  · obtain ⟨v, foot, up⟩ := ε
    cases up with
    | nil =>
      cases foot with
      | nil => exact .inl rfl
      | cons f fs => exact .inr (.inl ⟨rfl, by simp [addR, OEff.ids]⟩)
    | cons u us => exact .inr (.inr (by simp [addW, OEff.ids]))
  · obtain ⟨v, foot, up⟩ := ε
    rcases h p hp0 with h | h | h
    · exact .inl h
    · refine .inr (.inl ⟨h.1, ?_⟩)
      cases up <;> cases foot <;> simp [addR, h.2]
    · refine .inr (.inr ?_)
      cases up <;> simp [addW, h]

theorem okE_okL {ops : Array Oper} {i : Nat} {ε : Eff} {R W : Ids} {L : List (Nat × OEff)} (hl : Lists L R W) (h : okE ops i ε R W) : okL ops i (some ε) L := by
  intro p hp ht
  obtain ⟨v, foot, up⟩ := ε
  rcases hl p hp with h1 | h1 | h1
  · exact .inr (by rw [h1]; simp)
  · cases up with
    | nil => exact .inl ⟨rfl, h1.1⟩
    | cons u us => exact .inr fun id hid => okIds_spec h.2 _ h1.2 ht id hid
  · cases up with
    | nil => exact .inr fun id hid => okIds_spec (show okIds ops i foot W from h) _ h1 ht id (by simpa [OEff.ids] using hid)
    | cons u us => exact .inr fun id hid => okIds_spec h.1 _ h1 ht id hid

section
variable {P : Program} {C : Cx} {ops : Array Oper} {n : Nat}

def yE (P : Program) (C : Cx) (ops : Array Oper) (n i : Nat) (o : Oper) (σ : Core) (R W : Ids) (K : Ids → Ids → Core → Prop) : Prop :=
  match o.op with
  | .call c => match c.callee with
    | .value x => match evP σ.t x with
      | .fn (.func f) first caps => opndOk x = true ∧ c.args.toList.all opndOk = true ∧ ((PV.idsInL (fun _ => false) (first ++ c.args.toList.map (evP σ.t) ++ caps) = true ∧ ∃ r, PCall P f (first ++ c.args.toList.map (evP σ.t) ++ caps) r ∧ K R W (σ.put o.dst r)) ∨
        ∃ F T r G news, CallOk P C σ.h (n + 4 * i) f (first ++ c.args.toList.map (evP σ.t) ++ caps) F T r G news ∧ okE ops i (callEff F G r news (n + 4 * i)) R W ∧ K (addR i (callEff F G r news (n + 4 * i)) R) (addW i (callEff F G r news (n + 4 * i)) W) (σ.app o.dst (callEff F G r news (n + 4 * i))))
      | _ => False
    | _ => (stepCall P C σ.t σ.h (n + 4 * i) c).1 ∧ okE ops i (stepCall P C σ.t σ.h (n + 4 * i) c).2 R W ∧ K (addR i (stepCall P C σ.t σ.h (n + 4 * i) c).2 R) (addW i (stepCall P C σ.t σ.h (n + 4 * i) c).2 W) (σ.app o.dst (stepCall P C σ.t σ.h (n + 4 * i) c).2)
  | op => (stepO P C σ.t σ.h (n + 4 * i) op).1 ∧ okE ops i (stepO P C σ.t σ.h (n + 4 * i) op).2 R W ∧ K (addR i (stepO P C σ.t σ.h (n + 4 * i) op).2 R) (addW i (stepO P C σ.t σ.h (n + 4 * i) op).2 W) (σ.app o.dst (stepO P C σ.t σ.h (n + 4 * i) op).2)

def runE (P : Program) (C : Cx) (ops : Array Oper) (n : Nat) : List Oper → Nat → Ids → Ids → Core → (Core → Prop) → Prop
  | [], _, _, _, σ, K => K σ
  | o :: r, i, R, W, σ, K => dstOk C o = true ∧ (match o.guard with
    | none => yE P C ops n i o σ R W (fun R W σ' => runE P C ops n r (i + 1) R W σ' K)
    | some (j, want) => match gval ops σ.t j want with
      | some b => if b = want then yE P C ops n i o σ R W (fun R W σ' => runE P C ops n r (i + 1) R W σ' K) else runE P C ops n r (i + 1) R W (σ.put o.dst (.tup [])) K
      | none => False)

theorem pLex_of_runE {K : Core → Prop} : ∀ (l : List Oper) (i : Nat) (R W : Ids) (L : List (Nat × OEff)) (σ : Core), Lists L R W → runE P C ops n l i R W σ K → pLex P C ops n K l i L σ
  | [], _, _, _, _, _, _, h => h
  | o :: r, i, R, W, L, σ, hl, h => by
    unfold runE at h
    obtain ⟨hd, h⟩ := h
    have hq : ∀ (x : OEff), x.ids = [] → Lists ((i, x) :: L) R W := fun x hx p hp => by
      rcases List.mem_cons.1 hp with rfl | hp
      · exact .inl hx
      · exact hl p hp
    have key : gOK ops o σ.t true → yE P C ops n i o σ R W (fun R W σ' => runE P C ops n r (i + 1) R W σ' K) → pLex P C ops n K (o :: r) i L σ := by
      intro hg hy
      unfold yE at hy
      split at hy
      · rename_i c ho
        split at hy
        · rename_i x hc
          split at hy
          · rename_i f first caps hev
            obtain ⟨g1, g2, ⟨g3, res, g4, g5⟩ | ⟨F, T, res, G, news, g4, g5, g6⟩⟩ := hy
            · exact ⟨some ⟨res, [], []⟩, ⟨hd, hg, Yl.call hd ho hc g1 g2 hev g4 g3⟩, okL_quiet i _ rfl rfl L, pLex_of_runE r (i + 1) R W _ (σ.put o.dst res) (hq _ rfl) g5⟩
            · exact ⟨some (callEff F G res news (n + 4 * i)), ⟨hd, hg, Yl.callR hd ho hc g1 g2 hev g4⟩, okE_okL hl g5, pLex_of_runE r (i + 1) _ _ _ _ (hl.add i _) g6⟩
          · exact hy.elim
        · obtain ⟨g1, g2, g3⟩ := hy
          have hst := Yl.step (P := P) (C := C) (ops := ops) (o := o) (nid := n + 4 * i) (σ := σ) hd (by rw [ho]; exact g1)
          rw [ho] at hst
          exact ⟨some (stepCall P C σ.t σ.h (n + 4 * i) c).2, ⟨hd, hg, hst⟩, okE_okL hl g2, pLex_of_runE r (i + 1) _ _ _ _ (hl.add i _) g3⟩
      · obtain ⟨g1, g2, g3⟩ := hy
        exact ⟨some (stepO P C σ.t σ.h (n + 4 * i) o.op).2, ⟨hd, hg, Yl.step hd g1⟩, okE_okL hl g2, pLex_of_runE r (i + 1) _ _ _ _ (hl.add i _) g3⟩
    split at h
    · rename_i hgd
      exact key (by unfold gOK; rw [hgd]) h
    · rename_i j want hgd
      split at h
      · rename_i b hb
        by_cases hbw : b = want
        · exact key (by unfold gOK; rw [hgd]; exact ⟨b, hb, by simp [hbw]⟩) (by rw [if_pos hbw] at h; exact h)
        · exact ⟨none, ⟨hd, by unfold gOK; rw [hgd]; exact ⟨b, hb, by simp [hbw]⟩⟩, okL_quiet i _ rfl rfl L, pLex_of_runE r (i + 1) R W _ _ (hq _ rfl) (by rw [if_neg hbw] at h; exact h)⟩
      · exact h.elim

/-- **A region that draws its order.** -/
theorem Tr.regionE {σ : Core} {Q : PPost} {id : Nat} (hm : P.follows .mixedOrders = true) (hB : Region.lexB .any ops = true) (h : ∀ K : Core → Prop, (∀ σ', Q .normal σ' (n + 4 * ops.size) → K σ') → runE P C ops n ops.toList 0 [] [] σ K) : Tr P C (.region id ops true) σ n Q := by
  intro E0 a E hs
  refine wp_region_any hm ?_
  have h1 := pLex_of_runE (P := P) (C := C) (ops := ops) (n := n) _ _ _ _ [] _ (by intro p hp; cases hp) (h _ fun _ h => h)
  simp only [Region.lexB, Bool.and_eq_true] at hB
  have h2 := pAny_lex (P := P) (C := C) (ops := ops) (n := n) ops.toList 0 (Array.replicate ops.size false) [] σ (fun j => by simp) (by simpa using hB.2) h1
  have h3 := wpAny_of_pAny (P := P) (C := C) (ops := ops) (n := n) (E0 := E0) (K := fun σ' => Q .normal σ' (n + 4 * ops.size)) (Q := conc E0 C Q) (fun σ' a' E' hK hs' => ⟨σ', n + 4 * ops.size, E', rfl, hs', hK⟩) ops.toList.length (Array.replicate ops.size false) [] σ a { E with w := { E.w with drawn := E.w.drawn + 1 } } (by simp) ((hs.drawn (w' := { E.w with drawn := E.w.drawn + 1 }) ⟨rfl, rfl, rfl, rfl⟩).fr_mono fun j hj => hj.1) h2
  simpa using h3

end

/-! ### Calls, what follows kept out of simp's sight -/
/-- A call in a region that goes by the text's order. -/
inductive CallO (P : Program) (C : Cx) (ops : Array Oper) (nid : Nat) (dst : Option Tmp) (f : FuncId) (args : List PV) (σ : Core) (r : List Oper) (K : Core → Prop) : Prop
  | inl (h : ∃ res, PCall P f args res ∧ PV.idsInL (fun _ => false) args = true ∧ runOps P C ops r (nid + 4) (σ.put dst res) K)
  | inr (h : ∃ F T res G news, CallOk P C σ.h nid f args F T res G news ∧ runOps P C ops r (nid + 4) (Core.put ⟨σ.t, callH σ.h F G nid news⟩ dst (res nid)) K)

def opF (P : Program) (C : Cx) (ops : Array Oper) (o : Oper) (nid : Nat) (σ : Core) (r : List Oper) (K : Core → Prop) : Prop :=
  match o.op with
  | .call c => match c.callee with
    | .value x => match evP σ.t x with
      | .fn (.func f) first caps => opndOk x = true ∧ c.args.toList.all opndOk = true ∧ CallO P C ops nid o.dst f (first ++ c.args.toList.map (evP σ.t) ++ caps) σ r K
      | _ => False
    | _ => (stepCall P C σ.t σ.h nid c).1 ∧ runOps P C ops r (nid + 4) (σ.app o.dst (stepCall P C σ.t σ.h nid c).2) K
  | op => (stepO P C σ.t σ.h nid op).1 ∧ runOps P C ops r (nid + 4) (σ.app o.dst (stepO P C σ.t σ.h nid op).2) K

theorem opF_eq {P : Program} {C : Cx} {ops : Array Oper} {o : Oper} {nid : Nat} {σ : Core} {r : List Oper} {K : Core → Prop} : opF P C ops o nid σ r K = opK P C o nid σ (fun σ' => runOps P C ops r (nid + 4) σ' K) := by
  rcases o with ⟨dst, op, ty, pos, after, guard⟩
  cases op
  case call c =>
    rcases c with ⟨callee, args, tys⟩
    cases callee
    case value x =>
      simp only [opF, opK]
      generalize evP σ.t x = p
      cases p
      case fn f first caps =>
        cases f
        case func f =>
          simp only
          congr 2
          refine propext ⟨fun h => ?_, fun h => ?_⟩
          · cases h with
            | inl h => exact .inl h
            | inr h =>
              obtain ⟨F, T, res, G, news, k, h⟩ := h
              exact .inr ⟨F, T, res, G, news, k.call, k.rows, k.lt, k.nl, k.args, k.inner, k.back, k.wr, k.perm, h⟩
          · rcases h with h | ⟨F, T, res, G, news, k1, k2, k3, k4, k5, k6, k7, k8, k9, h⟩
            · exact .inl h
            · exact .inr ⟨F, T, res, G, news, ⟨k1, k2, k3, k4, k5, k6, k7, k8, k9⟩, h⟩
        all_goals rfl
      all_goals rfl
    all_goals rfl
  all_goals rfl

theorem runOps_nil {P : Program} {C : Cx} {ops : Array Oper} {nid : Nat} {σ : Core} {K : Core → Prop} : runOps P C ops [] nid σ K = K σ := rfl
theorem runOps_cons {P : Program} {C : Cx} {ops : Array Oper} {o : Oper} {r : List Oper} {nid : Nat} {σ : Core} {K : Core → Prop} : runOps P C ops (o :: r) nid σ K = (dstOk C o = true ∧ (match o.guard with
    | none => opF P C ops o nid σ r K
    | some (j, want) => match gval ops σ.t j want with
      | some b => if b = want then opF P C ops o nid σ r K else runOps P C ops r (nid + 4) (σ.put o.dst (.tup [])) K
      | none => False)) := by
  rw [opF_eq]; rfl

/-- A call in a region that draws its order. -/
inductive CallE (P : Program) (C : Cx) (ops : Array Oper) (n i : Nat) (dst : Option Tmp) (f : FuncId) (args : List PV) (σ : Core) (R W : Ids) (r : List Oper) (K : Core → Prop) : Prop
  | inl (h : ∃ res, PCall P f args res ∧ PV.idsInL (fun _ => false) args = true ∧ runE P C ops n r (i + 1) R W (σ.put dst res) K)
  | inr (h : ∃ F T res G news, CallOk P C σ.h (n + 4 * i) f args F T res G news ∧ okE ops i (callEff F G res news (n + 4 * i)) R W ∧
      runE P C ops n r (i + 1) (addR i (callEff F G res news (n + 4 * i)) R) (addW i (callEff F G res news (n + 4 * i)) W) (σ.app dst (callEff F G res news (n + 4 * i))) K)

def yF (P : Program) (C : Cx) (ops : Array Oper) (n i : Nat) (o : Oper) (σ : Core) (R W : Ids) (r : List Oper) (K : Core → Prop) : Prop :=
  match o.op with
  | .call c => match c.callee with
    | .value x => match evP σ.t x with
      | .fn (.func f) first caps => opndOk x = true ∧ c.args.toList.all opndOk = true ∧ CallE P C ops n i o.dst f (first ++ c.args.toList.map (evP σ.t) ++ caps) σ R W r K
      | _ => False
    | _ => (stepCall P C σ.t σ.h (n + 4 * i) c).1 ∧ okE ops i (stepCall P C σ.t σ.h (n + 4 * i) c).2 R W ∧ runE P C ops n r (i + 1) (addR i (stepCall P C σ.t σ.h (n + 4 * i) c).2 R) (addW i (stepCall P C σ.t σ.h (n + 4 * i) c).2 W) (σ.app o.dst (stepCall P C σ.t σ.h (n + 4 * i) c).2) K
  | op => (stepO P C σ.t σ.h (n + 4 * i) op).1 ∧ okE ops i (stepO P C σ.t σ.h (n + 4 * i) op).2 R W ∧ runE P C ops n r (i + 1) (addR i (stepO P C σ.t σ.h (n + 4 * i) op).2 R) (addW i (stepO P C σ.t σ.h (n + 4 * i) op).2 W) (σ.app o.dst (stepO P C σ.t σ.h (n + 4 * i) op).2) K

theorem yF_eq {P : Program} {C : Cx} {ops : Array Oper} {n i : Nat} {o : Oper} {σ : Core} {R W : Ids} {r : List Oper} {K : Core → Prop} : yF P C ops n i o σ R W r K = yE P C ops n i o σ R W (fun R W σ' => runE P C ops n r (i + 1) R W σ' K) := by
  rcases o with ⟨dst, op, ty, pos, after, guard⟩
  cases op
  case call c =>
    rcases c with ⟨callee, args, tys⟩
    cases callee
    case value x =>
      simp only [yF, yE]
      generalize evP σ.t x = p
      cases p
      case fn f first caps =>
        cases f
        case func f =>
          simp only
          congr 2
          refine propext ⟨fun h => ?_, fun h => ?_⟩
          · cases h with
            | inl h => obtain ⟨res, k1, k2, k3⟩ := h; exact .inl ⟨k2, res, k1, k3⟩
            | inr h => exact .inr h
          · rcases h with ⟨k2, res, k1, k3⟩ | h
            · exact .inl ⟨res, k1, k2, k3⟩
            · exact .inr h
        all_goals rfl
      all_goals rfl
    all_goals rfl
  all_goals rfl

theorem runE_nil {P : Program} {C : Cx} {ops : Array Oper} {n i : Nat} {R W : Ids} {σ : Core} {K : Core → Prop} : runE P C ops n [] i R W σ K = K σ := rfl
theorem runE_cons {P : Program} {C : Cx} {ops : Array Oper} {n i : Nat} {o : Oper} {r : List Oper} {R W : Ids} {σ : Core} {K : Core → Prop} : runE P C ops n (o :: r) i R W σ K = (dstOk C o = true ∧ (match o.guard with
    | none => yF P C ops n i o σ R W r K
    | some (j, want) => match gval ops σ.t j want with
      | some b => if b = want then yF P C ops n i o σ R W r K else runE P C ops n r (i + 1) R W (σ.put o.dst (.tup [])) K
      | none => False)) := by
  rw [yF_eq]; rfl

/-! ### Names -/
theorem eq_add_false {s n k : Nat} (h : s < n) : (s = n + k) = False := by simp; omega
theorem add_eq_false {s n k : Nat} (h : s < n) : (n + k = s) = False := by simp; omega
theorem lt_add_true {s n k : Nat} (h : s < n) : (s < n + k) = True := by simp; omega
attribute [simp] runOps_nil runOps_cons opF runE_nil runE_cons yF okE okIds addR addW apart touch callEff nRows eq_add_false add_eq_false lt_add_true
end Go.PM
