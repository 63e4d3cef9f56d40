/- Plain law: instants at which a motion is in a box, by rational numbers; the leaves cover the box of a tree; what is reached along a motion. Plain law: the leaves cover the box of a tree; what is reached is carried along a motion that meets no colliding leaf. Plain law: what is made lies in its box; bounds; what Meet's point says. -/
import Derived.Test.YtmljpbhmdjpbaaaM8
namespace Go.Proofs.Ytmljpbhmdjpbaaa
set_option linter.unusedVariables false
set_option linter.unusedSimpArgs false
open Go.PM

def Fr.val (f : Fr) : Rat := (f.num : Rat) / (f.den : Rat)
theorem cast_pos {d : Int} (h : 0 < d) : (0 : Rat) < (d : Rat) := by exact_mod_cast h
theorem cast_le {a b : Int} (h : a ≤ b) : (a : Rat) ≤ (b : Rat) := by exact_mod_cast h
theorem cast_lt {a b : Int} (h : a < b) : (a : Rat) < (b : Rat) := by exact_mod_cast h
theorem le_cast {a b : Int} (h : (a : Rat) ≤ (b : Rat)) : a ≤ b := by exact_mod_cast h
theorem val_mul {f : Fr} (h : 0 < f.den) : f.val * (f.den : Rat) = (f.num : Rat) := by
  have := cast_pos h
  unfold Fr.val
  rw [Rat.div_mul_cancel]
  grind
theorem less_val {f g : Fr} (hf : 0 < f.den) (hg : 0 < g.den) : f.less g = true ↔ f.val < g.val := by
  have h1 := cast_pos hf
  have h2 := cast_pos hg
  have e1 := val_mul hf
  have e2 := val_mul hg
  have h3 := Rat.mul_pos h1 h2
  have key : (f.num * g.den < g.num * f.den) ↔ ((f.num : Rat) * (g.den : Rat) < (g.num : Rat) * (f.den : Rat)) := by
    constructor
    · intro h; exact_mod_cast h
    · intro h; exact_mod_cast h
  unfold Fr.less
  rw [decide_eq_true_eq, key, ← e1, ← e2]
  constructor
  · intro h
    apply Classical.byContradiction
    intro hn
    have : g.val ≤ f.val := by grind
    have := Rat.mul_le_mul_of_nonneg_right this (Rat.le_of_lt h3)
    grind
  · intro h
    have := Rat.mul_lt_mul_of_pos_right h h3
    grind
theorem not_less {f g : Fr} (hf : 0 < f.den) (hg : 0 < g.den) : f.less g = false ↔ g.val ≤ f.val := by
  have := less_val hf hg
  constructor
  · intro h; have : ¬ f.val < g.val := fun x => by rw [this.2 x] at h; cases h
    grind
  · intro h
    cases hh : f.less g with
    | false => rfl
    | true => have := this.1 hh; grind
theorem div_le {a d : Int} {t : Rat} (h : 0 < d) : (⟨a, d⟩ : Fr).val ≤ t ↔ (a : Rat) ≤ (d : Rat) * t := by
  have h1 := cast_pos h
  have e := val_mul (f := ⟨a, d⟩) h
  simp only at e
  rw [← e]
  constructor
  · intro h2
    have := Rat.mul_le_mul_of_nonneg_right h2 (Rat.le_of_lt h1)
    grind
  · intro h2
    apply Classical.byContradiction
    intro hn
    have : t < (⟨a, d⟩ : Fr).val := by grind
    have := Rat.mul_lt_mul_of_pos_right this h1
    grind
theorem le_div {a d : Int} {t : Rat} (h : 0 < d) : t ≤ (⟨a, d⟩ : Fr).val ↔ (d : Rat) * t ≤ (a : Rat) := by
  have h1 := cast_pos h
  have e := val_mul (f := ⟨a, d⟩) h
  simp only at e
  rw [← e]
  constructor
  · intro h2
    have := Rat.mul_le_mul_of_nonneg_right h2 (Rat.le_of_lt h1)
    grind
  · intro h2
    apply Classical.byContradiction
    intro hn
    have : (⟨a, d⟩ : Fr).val < t := by grind
    have := Rat.mul_lt_mul_of_pos_right this h1
    grind

/-- At instant t a motion from a to c is in the interval x. -/
def ptIn (x : Iv) (a c : Int) (t : Rat) : Prop := (x.lo : Rat) ≤ (a : Rat) + ((c : Rat) - (a : Rat)) * t ∧ (a : Rat) + ((c : Rat) - (a : Rat)) * t ≤ (x.hi : Rat)
def segIn (p q : List Int) (b : List Iv) (t : Rat) : Prop := ∀ (i : Nat) x a c, b[i]? = some x → p[i]? = some a → q[i]? = some c → ptIn x a c t

theorem entStep_none {d lo hi : Int} {s : Fr × Fr} (hd : 0 ≤ d) (h : entStep d lo hi s = none) {t : Rat} (h0 : 0 ≤ t) : ¬ ((lo : Rat) ≤ (d : Rat) * t ∧ (d : Rat) * t ≤ (hi : Rat)) := by
  unfold entStep at h
  split at h
  · rename_i hc
    have hd' : (0 : Rat) ≤ (d : Rat) := by exact_mod_cast hd
    have hm := Rat.mul_nonneg hd' h0
    rintro ⟨h1, h2⟩
    rcases hc with hc | ⟨rfl, hc⟩
    · have : (hi : Rat) < 0 := by exact_mod_cast hc
      grind
    · have : (0 : Rat) < (lo : Rat) := by exact_mod_cast hc
      have e0 : ((0 : Int) : Rat) = 0 := rfl
      rw [e0] at h1
      grind
  · split at h <;> cases h
theorem entStep_spec {d lo hi : Int} {s s' : Fr × Fr} (hd : 0 ≤ d) (g : Good s) (h : entStep d lo hi s = some s') {t : Rat} (h0 : 0 ≤ t) :
    ((s.1.val ≤ t ∧ t ≤ s.2.val) ∧ (lo : Rat) ≤ (d : Rat) * t ∧ (d : Rat) * t ≤ (hi : Rat)) ↔ (s'.1.val ≤ t ∧ t ≤ s'.2.val) := by
  have hd' : (0 : Rat) ≤ (d : Rat) := by exact_mod_cast hd
  have hm := Rat.mul_nonneg hd' h0
  unfold entStep at h
  split at h
  · cases h
  rename_i hn
  split at h
  · rename_i hd0
    cases h
    subst hd0
    have h1 : (lo : Rat) ≤ 0 := by have : lo ≤ 0 := by omega
                                   exact_mod_cast this
    have h2 : (0 : Rat) ≤ (hi : Rat) := by have : 0 ≤ hi := by omega
                                           exact_mod_cast this
    have e0 : ((0 : Int) : Rat) = 0 := rfl
    rw [e0]
    grind
  · rename_i hd0
    cases h
    have hdp : 0 < d := by omega
    have k1 := div_le (a := lo) (t := t) hdp
    have k2 := le_div (a := hi) (t := t) hdp
    have l1 := less_val (f := s.1) (g := ⟨lo, d⟩) g.c hdp
    have l2 := less_val (f := ⟨hi, d⟩) (g := s.2) hdp g.d
    have m1 := not_less (f := s.1) (g := ⟨lo, d⟩) g.c hdp
    have m2 := not_less (f := ⟨hi, d⟩) (g := s.2) hdp g.d
    have A : (s.1.val ≤ t ∧ (lo : Rat) ≤ (d : Rat) * t) ↔ (if 0 < lo ∧ s.1.less ⟨lo, d⟩ = true then (⟨lo, d⟩ : Fr) else s.1).val ≤ t := by
      split
      · rename_i hc
        have := l1.1 hc.2
        rw [← k1]
        grind
      · rename_i hc
        by_cases hlo : 0 < lo
        · have : s.1.less ⟨lo, d⟩ = false := by
            cases hh : s.1.less ⟨lo, d⟩ with
            | false => rfl
            | true => exact absurd ⟨hlo, hh⟩ hc
          have := m1.1 this
          rw [← k1]
          grind
        · have : (lo : Rat) ≤ 0 := by have : lo ≤ 0 := by omega
                                      exact_mod_cast this
          grind
    have B : (t ≤ s.2.val ∧ (d : Rat) * t ≤ (hi : Rat)) ↔ t ≤ (if Fr.less ⟨hi, d⟩ s.2 = true then (⟨hi, d⟩ : Fr) else s.2).val := by
      split
      · rename_i hc
        have := l2.1 hc
        rw [← k2]
        grind
      · rename_i hc
        have : Fr.less ⟨hi, d⟩ s.2 = false := by simpa using hc
        have := m2.1 this
        rw [← k2]
        grind
    dsimp only
    rw [← A, ← B]
    grind
theorem turn_ptIn (x : Iv) (a c : Int) (t : Rat) : ptIn x a c t ↔ (if c - a < 0 then (((-(x.hi - a) : Int) : Rat) ≤ ((-(c - a) : Int) : Rat) * t ∧ ((-(c - a) : Int) : Rat) * t ≤ ((-(x.lo - a) : Int) : Rat)) else ((((x.lo - a) : Int) : Rat) ≤ (((c - a) : Int) : Rat) * t ∧ (((c - a) : Int) : Rat) * t ≤ (((x.hi - a) : Int) : Rat))) := by
  unfold ptIn
  split
  · simp only [Rat.intCast_neg, Rat.intCast_sub]
    grind
  · simp only [Rat.intCast_sub]
    grind
theorem entTurn_none {a c : Int} {x : Iv} {s : Fr × Fr} (h : entTurn a c x s = none) {t : Rat} (h0 : 0 ≤ t) : ¬ ptIn x a c t := by
  rw [turn_ptIn]
  unfold entTurn at h
  split at h
  · rename_i hc; rw [if_pos hc]; exact entStep_none (by omega) h h0
  · rename_i hc; rw [if_neg hc]; exact entStep_none (by omega) h h0
theorem entTurn_spec {a c : Int} {x : Iv} {s s' : Fr × Fr} (g : Good s) (h : entTurn a c x s = some s') {t : Rat} (h0 : 0 ≤ t) : ((s.1.val ≤ t ∧ t ≤ s.2.val) ∧ ptIn x a c t) ↔ (s'.1.val ≤ t ∧ t ≤ s'.2.val) := by
  rw [turn_ptIn]
  unfold entTurn at h
  split at h
  · rename_i hc; rw [if_pos hc]; exact entStep_spec (by omega) g h h0
  · rename_i hc; rw [if_neg hc]; exact entStep_spec (by omega) g h h0
theorem val01 : (⟨0, 1⟩ : Fr).val = 0 := by decide +kernel
theorem val11 : (⟨1, 1⟩ : Fr).val = 1 := by decide +kernel
def segTo (p q : List Int) (b : List Iv) (j : Nat) (t : Rat) : Prop := ∀ (i : Nat) x a c, i < j → b[i]? = some x → p[i]? = some a → q[i]? = some c → ptIn x a c t
theorem segTo_succ {p q : List Int} {b : List Iv} {j : Nat} {t : Rat} {a c : Int} {x : Iv} (ha : p[j]? = some a) (hc : q[j]? = some c) (hx : b[j]? = some x) : segTo p q b (j + 1) t ↔ segTo p q b j t ∧ ptIn x a c t := by
  constructor
  · intro h
    exact ⟨fun i x a c hi => h i x a c (by omega), h j x a c (Nat.lt_succ_self j) hx ha hc⟩
  · rintro ⟨h1, h2⟩ i x' a' c' hi hx' ha' hc'
    rcases Nat.lt_succ_iff_lt_or_eq.1 hi with hi | rfl
    · exact h1 i x' a' c' hi hx' ha' hc'
    · rw [hx] at hx'; rw [ha] at ha'; rw [hc] at hc'
      cases hx'; cases ha'; cases hc'
      exact h2
theorem entS_spec {p q : List Int} {b : List Iv} (hp : p.length = b.length) (hq : q.length = b.length) {t : Rat} (h0 : 0 ≤ t) (h1 : t ≤ 1) : ∀ j, j ≤ b.length →
    (∀ s, entS p q b j = some s → ((s.1.val ≤ t ∧ t ≤ s.2.val) ↔ segTo p q b j t)) ∧ (entS p q b j = none → ¬ segTo p q b j t)
  | 0, _ => by
    refine ⟨fun s h => ?_, fun h => by cases h⟩
    simp only [entS, Option.some.injEq] at h
    subst h
    dsimp only
    rw [val01, val11]
    exact ⟨fun _ i x a c hi => absurd hi (Nat.not_lt_zero _), fun _ => ⟨h0, h1⟩⟩
  | j + 1, hj => by
    obtain ⟨i1, i2⟩ := entS_spec hp hq h0 h1 j (by omega)
    have ha : p[j]? = some (p[j]'(by omega)) := List.getElem?_eq_getElem (by omega)
    have hc : q[j]? = some (q[j]'(by omega)) := List.getElem?_eq_getElem (by omega)
    have hx : b[j]? = some (b[j]'(by omega)) := List.getElem?_eq_getElem (by omega)
    have hsucc := segTo_succ (t := t) ha hc hx
    cases hs0 : entS p q b j with
    | none =>
      refine ⟨fun s h => by simp [entS, hs0] at h, fun _ h => i2 hs0 (hsucc.1 h).1⟩
    | some s0 =>
      rw [entS_succ hs0 ha hc hx]
      have e0 := i1 s0 hs0
      refine ⟨fun s h => ?_, fun h hh => entTurn_none h h0 (hsucc.1 hh).2⟩
      rw [← entTurn_spec (entS_good hs0) h h0, hsucc, ← e0]
theorem segIn_to {p q : List Int} {b : List Iv} {t : Rat} : segIn p q b t ↔ segTo p q b b.length t :=
  ⟨fun h i x a c _ => h i x a c, fun h i x a c hx => h i x a c (List.getElem?_eq_some_iff.1 hx).1 hx⟩

def segA (p q : List Int) (b : List Iv) : Rat := match entS p q b b.length with
  | some s => s.1.val
  | none => 2
def segB (p q : List Int) (b : List Iv) : Rat := match entS p q b b.length with
  | some s => s.2.val
  | none => -1
/-- **When a motion is in a box.** -/
theorem seg_iff {p q : List Int} {b : List Iv} (hp : p.length = b.length) (hq : q.length = b.length) {t : Rat} (h0 : 0 ≤ t) (h1 : t ≤ 1) : segIn p q b t ↔ segA p q b ≤ t ∧ t ≤ segB p q b := by
  obtain ⟨i1, i2⟩ := entS_spec hp hq h0 h1 b.length (Nat.le_refl _)
  rw [segIn_to]
  unfold segA segB
  cases hs : entS p q b b.length with
  | some s => exact (i1 s hs).symm
  | none =>
    dsimp only
    exact ⟨fun h => absurd h (i2 hs), fun h => by grind⟩
theorem entS_low {p q : List Int} {b : List Iv} : ∀ {j : Nat} {s : Fr × Fr}, entS p q b j = some s → 0 ≤ s.1.num
  | 0, s, h => by simp only [entS, Option.some.injEq] at h; subst h; decide
  | j + 1, s, h => by
    cases h0 : entS p q b j with
    | none => simp [entS, h0] at h
    | some s0 =>
      have ih := entS_low h0
      simp only [entS, h0, Option.bind_some] at h
      split at h
      · have key : ∀ {d lo hi : Int} {s s' : Fr × Fr}, 0 ≤ s.1.num → entStep d lo hi s = some s' → 0 ≤ s'.1.num := by
          intro d lo hi s s' h1 h2
          unfold entStep at h2
          split at h2
          · cases h2
          split at h2
          · cases h2; exact h1
          · cases h2
            dsimp only
            split
            · rename_i hc; have := hc.1; dsimp only; omega
            · exact h1
        unfold entTurn at h
        split at h <;> exact key ih h
      · cases h
theorem segA_nonneg (p q : List Int) (b : List Iv) : 0 ≤ segA p q b := by
  unfold segA
  cases hs : entS p q b b.length with
  | none => dsimp only; decide
  | some s =>
    dsimp only
    have g := entS_good hs
    have h1 := cast_pos g.c
    have e := val_mul g.c
    have h2 : (0 : Rat) ≤ (s.1.num : Rat) := by exact_mod_cast entS_low hs
    apply Classical.byContradiction
    intro hn
    have := Rat.mul_lt_mul_of_pos_right (show s.1.val < 0 by grind) h1
    grind
theorem segB_le (p q : List Int) (b : List Iv) : segB p q b ≤ 1 := by
  unfold segB
  cases hs : entS p q b b.length with
  | none => dsimp only; decide
  | some s =>
    dsimp only
    have g := entS_good hs
    have h1 := cast_pos g.d
    have e := val_mul g.d
    have h2 : (s.2.num : Rat) ≤ (s.2.den : Rat) := by exact_mod_cast g.b
    apply Classical.byContradiction
    intro hn
    have := Rat.mul_lt_mul_of_pos_right (show 1 < s.2.val by grind) h1
    grind
theorem entryR_true {p q : List Int} {b : List Iv} (h : (entryR p q b).2 = true) : (entryR p q b).1.val = segA p q b ∧ segA p q b ≤ segB p q b := by
  unfold entryR segA segB at *
  cases hs : entS p q b b.length with
  | none => rw [hs] at h; cases h
  | some s =>
    rw [hs] at h
    dsimp only at h ⊢
    have g := entS_good hs
    refine ⟨rfl, (not_less g.d g.c).1 (by simpa using h)⟩
theorem entryR_false {p q : List Int} {b : List Iv} (h : (entryR p q b).2 = false) : segB p q b < segA p q b := by
  unfold entryR segA segB at *
  cases hs : entS p q b b.length with
  | none => dsimp only; decide
  | some s =>
    rw [hs] at h
    dsimp only at h ⊢
    have g := entS_good hs
    exact (less_val g.d g.c).1 (by simpa using h)
end Go.Proofs.Ytmljpbhmdjpbaaa
namespace Go.Proofs.Ytmljpbhmdjpbaaa
set_option linter.unusedVariables false
set_option linter.unusedSimpArgs false
open Go.PM

/-- A point, by its coordinates, in a box. -/
def ptB (b : List Iv) (x : Nat → Rat) : Prop := ∀ (i : Nat) v, b[i]? = some v → (v.lo : Rat) ≤ x i ∧ x i ≤ (v.hi : Rat)
theorem halve_ptB {b l h : List Iv} {j : Int} (e : halve b j = some (l, h)) {x : Nat → Rat} (hx : ptB b x) : ptB l x ∨ ptB h x := by
  unfold halve at e
  split at e
  · rename_i hc
    obtain ⟨c1, c2, c3, c4⟩ := hc
    simp only [Option.some.injEq, Prod.mk.injEq] at e
    have hv : b[j.toNat]? = some (b[j.toNat]'c4) := List.getElem?_eq_getElem c4
    have hd : b.getD j.toNat ⟨0, 0⟩ = b[j.toNat]'c4 := by rw [List.getD_eq_getElem?_getD, hv]; rfl
    rw [hd] at e
    generalize b[j.toNat]'c4 = v at *
    obtain ⟨m, hm⟩ : ∃ m, (v.lo + v.hi) / 2 = m := ⟨_, rfl⟩
    rw [hm] at e
    have hvx := hx _ v hv
    have key : ∀ (w : Iv), (w.lo : Rat) ≤ x j.toNat ∧ x j.toNat ≤ (w.hi : Rat) → ptB (b.set j.toNat w) x := by
      intro w hw i u hu
      rw [List.getElem?_set] at hu
      split at hu
      · rename_i e1
        subst e1
        cases hu; exact hw
      · exact hx i u hu
    by_cases hle : x j.toNat ≤ (m : Rat)
    · left; rw [← e.1]; exact key _ ⟨hvx.1, hle⟩
    · right; rw [← e.2]; exact key _ ⟨by dsimp only; grind, hvx.2⟩
  · cases e
theorem cover_at {t : Tree} (hn : 0 < t.cells.length) {x : Nat → Rat} (hx : ptB t.root x) : ∀ {i : Nat} {outs : Outs}, bst t i = some outs → i ≤ t.cells.length → ∃ (j : Nat) (b : List Iv), outs[j]? = some (some b) ∧ ptB b x ∧ (i ≤ j ∨ leafAt t j = true)
  | 0, outs, h, _ => by
    simp only [bst, Option.some.injEq] at h
    subst h
    exact ⟨0, t.root, by rw [List.getElem?_set, if_pos rfl, if_pos (by simpa using hn)], hx, .inl (Nat.le_refl 0)⟩
  | i + 1, outs, h, hi => by
    cases hb : bst t i with
    | none => simp [bst, hb] at h
    | some o0 =>
      obtain ⟨j, b, h1, h2, h3⟩ := cover_at hn hx hb (by omega)
      have hci : t.cells[i]? = some t.cells[i] := List.getElem?_eq_getElem (by omega)
      rw [bst_succ hb hci] at h
      obtain ⟨bi, hbo, hc⟩ := bstep_cases h
      rcases hc with ⟨c1, _, rfl⟩ | ⟨_, _, c2, c3, c4, c5, c6, c7, c8, l, hh, e, rfl⟩
      · refine ⟨j, b, h1, h2, ?_⟩
        rcases h3 with h3 | h3
        · rcases Nat.eq_or_lt_of_le h3 with rfl | h3
          · exact .inr (by rw [leafAt_eq hci]; exact c1)
          · exact .inl h3
        · exact .inr h3
      · have hlen := (bst_inv hb (by omega)).1
        by_cases hj : j = i
        · subst hj
          rw [hbo] at h1; cases h1
          have n1 : t.cells[j].hi.toNat ≠ t.cells[j].lo.toNat := by omega
          rcases halve_ptB e h2 with hp | hp
          · refine ⟨t.cells[j].lo.toNat, l, ?_, hp, .inl (by omega)⟩
            rw [List.getElem?_set_ne n1, List.getElem?_set, if_pos rfl, if_pos (by omega)]
          · refine ⟨t.cells[j].hi.toNat, hh, ?_, hp, .inl (by omega)⟩
            rw [List.getElem?_set, if_pos rfl, if_pos (by simp; omega)]
        · refine ⟨j, b, ?_, h2, ?_⟩
          · have n1 : t.cells[i].lo.toNat ≠ j := by rintro rfl; rw [c7] at h1; cases h1
            have n2 : t.cells[i].hi.toNat ≠ j := by rintro rfl; rw [c8] at h1; cases h1
            rw [List.getElem?_set_ne n2, List.getElem?_set_ne n1]; exact h1
          · rcases h3 with h3 | h3
            · exact .inl (by omega)
            · exact .inr h3
/-- **The leaves cover the box.** -/
theorem cover {t : Tree} {l : List (List Iv)} (h : boxesT t = some l) {x : Nat → Rat} (hx : ptB t.root x) : ∃ i, i < t.cells.length ∧ leafAt t i = true ∧ ptB (boxAt l i) x := by
  obtain ⟨h1, h2⟩ := boxesT_iff h
  obtain ⟨j, b, g1, g2, g3⟩ := cover_at (List.length_pos_iff.2 (treeOk_iff.1 h1).2.1) hx h2 (Nat.le_refl _)
  have hll := boxesT_length h
  have hj : j < t.cells.length := by have := (List.getElem?_eq_some_iff.1 g1).1; simpa [hll] using this
  rw [List.getElem?_map] at g1
  cases hlj : l[j]? with
  | none => rw [hlj] at g1; cases g1
  | some b' =>
    rw [hlj] at g1
    have : b' = b := by simpa using g1
    subst this
    refine ⟨j, hj, ?_, by rw [boxAt_eq hlj]; exact g2⟩
    rcases g3 with g3 | g3
    · omega
    · exact g3
theorem touch_pt {x : Nat → Rat} : ∀ {a b : List Iv} (k : Nat), (∀ (i : Nat) v, a[i]? = some v → (v.lo : Rat) ≤ x (k + i) ∧ x (k + i) ≤ (v.hi : Rat)) → (∀ (i : Nat) v, b[i]? = some v → (v.lo : Rat) ≤ x (k + i) ∧ x (k + i) ≤ (v.hi : Rat)) → touchB a b = true
  | [], [], _, _, _ => rfl
  | [], _ :: _, _, _, _ => rfl
  | _ :: _, [], _, _, _ => rfl
  | u :: a, v :: b, k, h1, h2 => by
    have ih := touch_pt (a := a) (b := b) (x := x) (k + 1) (fun i w hw => by have := h1 (i + 1) w (by simpa using hw); rw [show k + (i + 1) = k + 1 + i by omega] at this; exact this) (fun i w hw => by have := h2 (i + 1) w (by simpa using hw); rw [show k + (i + 1) = k + 1 + i by omega] at this; exact this)
    have a0 := h1 0 u rfl
    have b0 := h2 0 v rfl
    unfold touchB at *
    simp only [List.zip_cons_cons, List.all_cons, ih, Bool.and_true]
    unfold over
    rw [Bool.and_eq_true, decide_eq_true_eq, decide_eq_true_eq]
    exact ⟨le_cast (by grind), le_cast (by grind)⟩
theorem touch_of {a b : List Iv} {x : Nat → Rat} (h1 : ptB a x) (h2 : ptB b x) : touchB a b = true :=
  touch_pt (x := x) 0 (fun i v hv => by have := h1 i v hv; rw [Nat.zero_add]; exact this) (fun i v hv => by have := h2 i v hv; rw [Nat.zero_add]; exact this)

/-- The point of a motion at an instant. -/
def segPt (p q : List Int) (t : Rat) (i : Nat) : Rat := ((p.getD i 0 : Int) : Rat) + (((q.getD i 0 : Int) : Rat) - ((p.getD i 0 : Int) : Rat)) * t
theorem segIn_pt {p q : List Int} {b : List Iv} {t : Rat} (hp : p.length = b.length) (hq : q.length = b.length) : segIn p q b t ↔ ptB b (segPt p q t) := by
  constructor
  · intro h i v hv
    have hi := (List.getElem?_eq_some_iff.1 hv).1
    have ha : p[i]? = some (p[i]'(by omega)) := List.getElem?_eq_getElem (by omega)
    have hc : q[i]? = some (q[i]'(by omega)) := List.getElem?_eq_getElem (by omega)
    have := h i v _ _ hv ha hc
    unfold segPt
    rw [List.getD_eq_getElem?_getD, ha, List.getD_eq_getElem?_getD, hc]
    exact this
  · intro h i x a c hx ha hc
    have := h i x hx
    unfold segPt at this
    rw [List.getD_eq_getElem?_getD, ha, List.getD_eq_getElem?_getD, hc] at this
    exact this
/-- What holds at both ends of a motion in a box holds throughout. -/
theorem convex {a c lo hi : Rat} {t : Rat} (h0 : 0 ≤ t) (h1 : t ≤ 1) (ha : lo ≤ a ∧ a ≤ hi) (hc : lo ≤ c ∧ c ≤ hi) : lo ≤ a + (c - a) * t ∧ a + (c - a) * t ≤ hi := by
  have e : a + (c - a) * t = a * (1 - t) + c * t := by grind
  rw [e]
  have h2 : 0 ≤ 1 - t := by grind
  have m1 := Rat.mul_le_mul_of_nonneg_right ha.1 h2
  have m2 := Rat.mul_le_mul_of_nonneg_right ha.2 h2
  have m3 := Rat.mul_le_mul_of_nonneg_right hc.1 h0
  have m4 := Rat.mul_le_mul_of_nonneg_right hc.2 h0
  grind
theorem has_at {r : List Iv} {q : List Int} (h : boxHas r q = true) {i : Nat} {v : Iv} {a : Int} (hv : r[i]? = some v) (ha : q[i]? = some a) : v.lo ≤ a ∧ a ≤ v.hi := by
  unfold boxHas hasAll at h
  simp only [Bool.and_eq_true, decide_eq_true_eq] at h
  have := List.all_eq_true.1 h.2.2 _ (List.mem_of_getElem? (zip_get hv ha))
  unfold Iv.has at this
  simp only [Bool.and_eq_true, decide_eq_true_eq] at this
  exact this.2
theorem has_of {r : List Iv} {q : List Int} (hr : boxOk r = true) (hl : r.length = q.length) (h : ∀ (i : Nat) v a, r[i]? = some v → q[i]? = some a → v.lo ≤ a ∧ a ≤ v.hi) : boxHas r q = true := by
  unfold boxHas hasAll
  simp only [Bool.and_eq_true, decide_eq_true_eq]
  refine ⟨hr, hl, List.all_eq_true.2 fun x hx => ?_⟩
  obtain ⟨i, hi⟩ := List.mem_iff_getElem?.1 hx
  rw [List.getElem?_zip_eq_some] at hi
  have h1 := h i x.1 x.2 hi.1 hi.2
  unfold Iv.has
  simp only [Bool.and_eq_true, decide_eq_true_eq]
  exact ⟨boxOk_at hr hi.1, h1⟩
theorem seg_root {r : List Iv} {p q : List Int} (hp : boxHas r p = true) (hq : boxHas r q = true) {t : Rat} (h0 : 0 ≤ t) (h1 : t ≤ 1) : segIn p q r t := by
  intro i x a c hx ha hc
  have k1 := has_at hp hx ha
  have k2 := has_at hq hx hc
  exact convex h0 h1 ⟨cast_le k1.1, cast_le k1.2⟩ ⟨cast_le k2.1, cast_le k2.2⟩
theorem seg_zero {b : List Iv} {p q : List Int} (hb : boxOk b = true) (hp : p.length = b.length) (hq : q.length = b.length) : segIn p q b 0 ↔ boxHas b p = true := by
  constructor
  · intro h
    refine has_of hb hp.symm fun i v a hv ha => ?_
    have hi := (List.getElem?_eq_some_iff.1 hv).1
    have hc : q[i]? = some (q[i]'(by omega)) := List.getElem?_eq_getElem (by omega)
    have := h i v a _ hv ha hc
    unfold ptIn at this
    exact ⟨le_cast (by grind), le_cast (by grind)⟩
  · intro h i x a c hx ha hc
    have := has_at h hx ha
    have h1 := cast_le this.1
    have h2 := cast_le this.2
    unfold ptIn
    grind
theorem seg_one {b : List Iv} {p q : List Int} (hb : boxOk b = true) (hp : p.length = b.length) (hq : q.length = b.length) : segIn p q b 1 ↔ boxHas b q = true := by
  constructor
  · intro h
    refine has_of hb hq.symm fun i v c hv hc => ?_
    have hi := (List.getElem?_eq_some_iff.1 hv).1
    have ha : p[i]? = some (p[i]'(by omega)) := List.getElem?_eq_getElem (by omega)
    have := h i v _ c hv ha hc
    unfold ptIn at this
    exact ⟨le_cast (by grind), le_cast (by grind)⟩
  · intro h i x a c hx ha hc
    have := has_at h hx hc
    have h1 := cast_le this.1
    have h2 := cast_le this.2
    unfold ptIn
    grind

theorem exists_most (f : Nat → Rat) (P : Nat → Prop) : ∀ n, (∃ i, i < n ∧ P i) → ∃ m, m < n ∧ P m ∧ ∀ i, i < n → P i → f i ≤ f m
  | 0, ⟨i, h, _⟩ => absurd h (Nat.not_lt_zero i)
  | n + 1, ⟨i, hi, hp⟩ => by
    by_cases h : ∃ i, i < n ∧ P i
    · obtain ⟨m, h1, h2, h3⟩ := exists_most f P n h
      by_cases hn : P n ∧ f m ≤ f n
      · refine ⟨n, Nat.lt_succ_self n, hn.1, fun i hi hp => ?_⟩
        rcases Nat.lt_succ_iff_lt_or_eq.1 hi with hi | rfl
        · have := h3 i hi hp; grind
        · exact Rat.le_refl
      · refine ⟨m, by omega, h2, fun i hi hp => ?_⟩
        rcases Nat.lt_succ_iff_lt_or_eq.1 hi with hi | rfl
        · exact h3 i hi hp
        · have : ¬ f m ≤ f i := fun x => hn ⟨hp, x⟩
          grind
    · have hin : i = n := by
        rcases Nat.lt_succ_iff_lt_or_eq.1 hi with hi | h'
        · exact absurd ⟨i, hi, hp⟩ h
        · exact h'
      subst hin
      refine ⟨i, hi, hp, fun k hk hpk => ?_⟩
      rcases Nat.lt_succ_iff_lt_or_eq.1 hk with hk | rfl
      · exact absurd ⟨k, hk, hpk⟩ h
      · exact Rat.le_refl
theorem exists_least (f : Nat → Rat) (P : Nat → Prop) (n : Nat) (h : ∃ i, i < n ∧ P i) : ∃ m, m < n ∧ P m ∧ ∀ i, i < n → P i → f m ≤ f i := by
  obtain ⟨m, h1, h2, h3⟩ := exists_most (fun i => - f i) P n h
  exact ⟨m, h1, h2, fun i hi hp => by have := h3 i hi hp; grind⟩

/-- **What is reached is carried along a motion that meets no colliding leaf.** -/
theorem seg_reach {t : Tree} {l : List (List Iv)} (h : boxesT t = some l) {p q : List Int} (hp : boxHas t.root p = true) (hq : boxHas t.root q = true) {R : Nat → Prop} (hno : ∀ i, i < t.cells.length → leafAt t i = true → collAt t i = true → ∀ s, 0 ≤ s → s ≤ 1 → ¬ segIn p q (boxAt l i) s)
    (hR : ∀ i j, R j → i < t.cells.length → openAt t i = true → adjV l i j = true → R i) (h0 : ∃ i, i < t.cells.length ∧ R i ∧ segIn p q (boxAt l i) 0) : ∃ i, i < t.cells.length ∧ R i ∧ segIn p q (boxAt l i) 1 := by
  have hll := boxesT_length h
  have hlen : ∀ i, i < t.cells.length → p.length = (boxAt l i).length ∧ q.length = (boxAt l i).length := by
    intro i hi
    have hb : l[i]? = some (l[i]'(by omega)) := List.getElem?_eq_getElem (by omega)
    rw [boxAt_eq hb, boxes_len h hb]
    exact ⟨(has_in32 hp).2, (has_in32 hq).2⟩
  have hseg : ∀ i, i < t.cells.length → ∀ s : Rat, 0 ≤ s → s ≤ 1 → (segIn p q (boxAt l i) s ↔ segA p q (boxAt l i) ≤ s ∧ s ≤ segB p q (boxAt l i)) := fun i hi s s0 s1 => seg_iff (hlen i hi).1 (hlen i hi).2 s0 s1
  obtain ⟨i0, hi0, hRi0, hs0⟩ := h0
  obtain ⟨m, hm, ⟨hRm, hmA⟩, hmax⟩ := exists_most (fun i => segB p q (boxAt l i)) (fun i => R i ∧ segA p q (boxAt l i) ≤ segB p q (boxAt l i)) t.cells.length ⟨i0, hi0, hRi0, by have := (hseg i0 hi0 0 (by decide) (by decide)).1 hs0; grind⟩
  have hA0 := segA_nonneg p q (boxAt l m)
  have hB1 := segB_le p q (boxAt l m)
  obtain ⟨T, hT⟩ : ∃ T, segB p q (boxAt l m) = T := ⟨_, rfl⟩
  rw [hT] at hB1 hmA
  simp only [hT] at hmax
  have hmT : segIn p q (boxAt l m) T := (hseg m hm T (by grind) hB1).2 ⟨hmA, by rw [hT]; exact Rat.le_refl⟩
  by_cases hT1 : T = 1
  · subst hT1
    exact ⟨m, hm, hRm, hmT⟩
  exfalso
  have hTl : T < 1 := by grind
  have hU : ∃ U : Rat, T < U ∧ U ≤ 1 ∧ ∀ i, i < t.cells.length → T < segA p q (boxAt l i) → U ≤ segA p q (boxAt l i) ∨ 1 ≤ segA p q (boxAt l i) := by
    by_cases hex : ∃ i, i < t.cells.length ∧ (T < segA p q (boxAt l i))
    · obtain ⟨k, hk, hk1, hk2⟩ := exists_least (fun i => segA p q (boxAt l i)) (fun i => T < segA p q (boxAt l i)) t.cells.length hex
      by_cases hk3 : segA p q (boxAt l k) ≤ 1
      · exact ⟨_, hk1, hk3, fun i hi h1 => .inl (hk2 i hi h1)⟩
      · exact ⟨1, hTl, Rat.le_refl, fun i hi h1 => .inr (by have := hk2 i hi h1; grind)⟩
    · exact ⟨1, hTl, Rat.le_refl, fun i hi h1 => absurd ⟨i, hi, h1⟩ hex⟩
  obtain ⟨U, hU1, hU2, hU3⟩ := hU
  obtain ⟨u, hu⟩ : ∃ u : Rat, (T + U) / 2 = u := ⟨_, rfl⟩
  have u1 : T < u := by grind
  have u2 : u < U := by grind
  have hT0 : 0 ≤ T := by grind
  have hroot := (segIn_pt (b := t.root) (has_in32 hp).2 (has_in32 hq).2).1 (seg_root hp hq (t := u) (by grind) (by grind))
  obtain ⟨i, hi, hlf, hpt⟩ := cover h hroot
  have hin := (segIn_pt (hlen i hi).1 (hlen i hi).2).2 hpt
  have hin2 := (hseg i hi u (by grind) (by grind)).1 hin
  obtain ⟨c, hc⟩ : ∃ c, t.cells[i]? = some c := ⟨_, List.getElem?_eq_getElem hi⟩
  by_cases hcol : collAt t i = true
  · exact hno i hi hlf hcol u (by grind) (by grind) hin
  · have hop : openAt t i = true := by
      rw [openAt_eq hc]
      rw [collAt_eq hc] at hcol
      rw [leafAt_eq hc] at hlf
      rw [hlf]; simpa using hcol
    by_cases hRi : R i
    · have := hmax i hi ⟨hRi, by grind⟩
      grind
    · by_cases hlt : T < segA p q (boxAt l i)
      · rcases hU3 i hi hlt with h1 | h1 <;> grind
      · have hiT : segIn p q (boxAt l i) T := (hseg i hi T hT0 hB1).2 ⟨by grind, by grind⟩
        refine hRi (hR i m hRm hi hop ?_)
        exact touch_of ((segIn_pt (hlen m hm).1 (hlen m hm).2).1 hmT) ((segIn_pt (hlen i hi).1 (hlen i hi).2).1 hiT)
end Go.Proofs.Ytmljpbhmdjpbaaa
namespace Go.Proofs.Ytmljpbhmdjpbaaa
set_option linter.unusedVariables false
set_option linter.unusedSimpArgs false
open Go.PM

/-- Coordinates of moderate size. -/
def Small (x : Int) : Prop := -128 ≤ x ∧ x ≤ 128
def SmallB (b : List Iv) : Prop := ∀ v ∈ b, Small v.lo ∧ Small v.hi
theorem rootS_small (l : List Int) (j : Nat) : ∀ i, SmallB (rootS l j i).1
  | 0 => by intro v h; simp [rootS] at h
  | i + 1 => by
    intro v h
    rcases List.mem_append.1 h with h | h
    · exact rootS_small l j i v h
    · simp only [List.mem_singleton] at h
      subst h
      have h1 := nextV_rng l (rootS l j i).2 (k := 81) (by omega)
      have h2 := nextV_rng l (nextN l (rootS l j i).2) (k := 60) (by omega)
      unfold Small
      dsimp only
      omega
theorem treeV_root (l : List Int) : (treeV l).root = (rootV l 0).1 := by
  have h := (newTree_ok (rootV_ok l 0)).2
  have h0 : (boxesT ⟨(rootV l 0).1, [leafCel]⟩).isSome = true := by rw [h]; rfl
  have h1 := dvS_ok h0 l (nextV l (rootV l 0).2 14).toNat
  unfold treeV divide
  rw [(stS_ok h1.1 _ l _ _).2.1, h1.2]
theorem tree_small (l : List Int) : SmallB (treeV l).root := by
  rw [treeV_root]; exact rootS_small l _ _
theorem small_at {b : List Iv} (h : SmallB b) {i : Nat} {v : Iv} (hv : b[i]? = some v) : Small v.lo ∧ Small v.hi := h v (List.mem_of_getElem? hv)
theorem has_small {r : List Iv} (h : SmallB r) {q : List Int} (hq : boxHas r q = true) : ∀ x ∈ q, Small x := by
  intro x hx
  obtain ⟨i, hi⟩ := List.mem_iff_getElem?.1 hx
  have hl := (has_in32 hq).2
  have hv : r[i]? = some (r[i]'(by rw [← hl]; exact (List.getElem?_eq_some_iff.1 hi).1)) := List.getElem?_eq_getElem _
  have h1 := small_at h hv
  have h2 := has_at hq hv hi
  unfold Small at *
  omega
theorem halve_small {b l h : List Iv} {j : Int} (e : halve b j = some (l, h)) (hb : SmallB b) : SmallB l ∧ SmallB h := by
  unfold halve at e
  split at e
  · rename_i hc
    obtain ⟨c1, c2, c3, c4⟩ := hc
    simp only [Option.some.injEq, Prod.mk.injEq] at e
    have hx : b[j.toNat]? = some (b[j.toNat]'c4) := List.getElem?_eq_getElem c4
    have hd : b.getD j.toNat ⟨0, 0⟩ = b[j.toNat]'c4 := by rw [List.getD_eq_getElem?_getD, hx]; rfl
    rw [hd] at e
    have hs := small_at hb hx
    have ho := Iv.ok_iff.1 (boxOk_at c1 hx)
    unfold Small at hs
    rw [← e.1, ← e.2]
    refine ⟨fun v hm => ?_, fun v hm => ?_⟩
    · rcases List.mem_or_eq_of_mem_set hm with h | h
      · exact hb v h
      · subst h; unfold Small; dsimp only; omega
    · rcases List.mem_or_eq_of_mem_set hm with h | h
      · exact hb v h
      · subst h; unfold Small; dsimp only; omega
  · cases e
theorem bst_small {t : Tree} (hr : SmallB t.root) : ∀ {i : Nat} {outs : Outs}, bst t i = some outs → i ≤ t.cells.length → ∀ b, some b ∈ outs → SmallB b
  | 0, outs, h, _ => by
    simp only [bst, Option.some.injEq] at h
    subst h
    intro b hb
    rcases List.mem_or_eq_of_mem_set hb with h | h
    · have := (List.mem_replicate.1 h).2; cases this
    · cases h; exact hr
  | i + 1, outs, h, hi => by
    cases hb : bst t i with
    | none => simp [bst, hb] at h
    | some o0 =>
      have i2 := bst_small hr hb (by omega)
      have hci : t.cells[i]? = some t.cells[i] := List.getElem?_eq_getElem (by omega)
      rw [bst_succ hb hci] at h
      obtain ⟨b, hbo, hc⟩ := bstep_cases h
      rcases hc with ⟨_, _, rfl⟩ | ⟨_, _, c2, c3, c4, c5, c6, c7, c8, l, hh, e, rfl⟩
      · exact i2
      · have hl := halve_small e (i2 b (List.mem_of_getElem? hbo))
        intro b' hb'
        rcases List.mem_or_eq_of_mem_set hb' with h | h
        · rcases List.mem_or_eq_of_mem_set h with h | h
          · exact i2 b' h
          · cases h; exact hl.1
        · cases h; exact hl.2
theorem boxes_small {t : Tree} {l : List (List Iv)} (h : boxesT t = some l) (hr : SmallB t.root) {b : List Iv} (hb : b ∈ l) : SmallB b := by
  obtain ⟨h1, h2⟩ := boxesT_iff h
  exact bst_small hr h2 (Nat.le_refl _) b (List.mem_map.2 ⟨b, hb, rfl⟩)

theorem inS_at {b : List Iv} (hb : boxOk b = true) (m : List Int) : ∀ k, k ≤ b.length → ∀ (i : Nat) v a, b[i]? = some v → (inS b m k).1[i]? = some a → v.lo ≤ a ∧ a ≤ v.hi
  | 0, _, i, v, a, _, ha => by simp [inS] at ha
  | k + 1, hk, i, v, a, hv, ha => by
    have ih := inS_at hb m k (by omega)
    have hl := inS_len b m k
    have hkv : b[k]? = some (b[k]'(by omega)) := List.getElem?_eq_getElem (by omega)
    have hgd : b.getD k ⟨0, 0⟩ = b[k]'(by omega) := by rw [List.getD_eq_getElem?_getD, hkv]; rfl
    have ho := Iv.ok_iff.1 (boxOk_at hb hkv)
    have key : ∀ y : Int, (inS b m k).1[i]? = some a ∨ (i = k ∧ a = y) → ((b[k]'(by omega)).lo ≤ y ∧ y ≤ (b[k]'(by omega)).hi) → v.lo ≤ a ∧ a ≤ v.hi := by
      rintro y (h | ⟨rfl, rfl⟩) hy
      · exact ih i v a hv h
      · rw [hkv] at hv; cases hv; exact hy
    have app : ∀ y : Int, ((inS b m k).1 ++ [y])[i]? = some a → (inS b m k).1[i]? = some a ∨ (i = k ∧ a = y) := by
      intro y h
      rcases Nat.lt_or_ge i k with h1 | h1
      · rw [List.getElem?_append_left (by omega)] at h; exact .inl h
      · rw [List.getElem?_append_right (by omega), hl] at h
        have : i - k = 0 := by
          have := (List.getElem?_eq_some_iff.1 h).1
          simp at this; omega
        rw [this] at h
        exact .inr ⟨by omega, by simpa using h.symm⟩
    simp only [inS] at ha
    rw [hgd] at ha
    split at ha
    · exact key _ (app _ ha) ⟨Int.le_refl _, ho.2.1⟩
    · split at ha
      · exact key _ (app _ ha) ⟨ho.2.1, Int.le_refl _⟩
      · split at ha
        · refine key _ (app _ ha) ?_
          unfold Iv.mid
          rw [if_pos (boxOk_at hb hkv)]
          omega
        · refine key _ (app _ ha) ?_
          have := nextV_rng m (nextN m (inS b m k).2) (k := (b[k]'(by omega)).hi - (b[k]'(by omega)).lo + 1) (by omega)
          omega
theorem inV_has {b : List Iv} (hb : boxOk b = true) (m : List Int) : boxHas b (inV b m) = true :=
  has_of hb (inS_len b m b.length).symm fun i v a hv ha => inS_at hb m b.length (Nat.le_refl _) i v a hv ha
theorem lineV_has {b : List Iv} (hb : boxOk b = true) (l : List Int) : ∀ n, ∀ q ∈ lineV b l n, boxHas b q = true
  | 0, q, h => by simp [lineV, lineS] at h
  | n + 1, q, h => by
    unfold lineV at h
    simp only [lineS] at h
    rcases List.mem_append.1 h with h | h
    · exact lineV_has hb l n q h
    · simp only [List.mem_singleton] at h
      subst h
      exact inV_has hb _
theorem lineV_len (b : List Iv) (l : List Int) (n : Nat) : (lineV b l n).length = n := lineS_len b l n

/-- Numbers and denominators of moderate size. -/
def Fr.S (f : Fr) : Prop := (0 ≤ f.num ∧ f.num ≤ 1024) ∧ 0 ≤ f.den ∧ f.den ≤ 1024
theorem entS_small {p q : List Int} {b : List Iv} (hp : ∀ x ∈ p, Small x) (hq : ∀ x ∈ q, Small x) (hb : SmallB b) : ∀ {j : Nat} {s : Fr × Fr}, entS p q b j = some s → s.1.S ∧ s.2.S
  | 0, s, h => by
    simp only [entS, Option.some.injEq] at h
    subst h
    exact ⟨⟨⟨by decide, by decide⟩, by decide, by decide⟩, ⟨by decide, by decide⟩, by decide, by decide⟩
  | j + 1, s, h => by
    cases h0 : entS p q b j with
    | none => simp [entS, h0] at h
    | some s0 =>
      have ih := entS_small hp hq hb h0
      simp only [entS, h0, Option.bind_some] at h
      have key : ∀ {d lo hi : Int} {s s' : Fr × Fr}, (0 ≤ d ∧ d ≤ 1024) → lo ≤ 1024 → hi ≤ 1024 → s.1.S → s.2.S → entStep d lo hi s = some s' → s'.1.S ∧ s'.2.S := by
        intro d lo hi s s' hd hlo hhi h1 h2 h
        unfold entStep at h
        split at h
        · cases h
        · rename_i hn
          split at h
          · cases h; exact ⟨h1, h2⟩
          · cases h
            refine ⟨?_, ?_⟩
            · dsimp only
              split
              · exact ⟨⟨by dsimp only; omega, by dsimp only; omega⟩, by dsimp only; omega, by dsimp only; omega⟩
              · exact h1
            · dsimp only
              split
              · exact ⟨⟨by dsimp only; omega, by dsimp only; omega⟩, by dsimp only; omega, by dsimp only; omega⟩
              · exact h2
      split at h
      · rename_i a c x ha hc hx
        have s1 := hp _ (List.mem_of_getElem? ha)
        have s2 := hq _ (List.mem_of_getElem? hc)
        have s3 := small_at hb hx
        unfold Small at s1 s2 s3
        unfold entTurn at h
        split at h
        · exact key (by omega) (by omega) (by omega) ih.1 ih.2 h
        · exact key (by omega) (by omega) (by omega) ih.1 ih.2 h
      · cases h
theorem entryR_small {p q : List Int} {b : List Iv} (hp : ∀ x ∈ p, Small x) (hq : ∀ x ∈ q, Small x) (hb : SmallB b) : (entryR p q b).1.S := by
  unfold entryR
  cases h : entS p q b b.length with
  | none => exact ⟨⟨by decide, by decide⟩, by decide, by decide⟩
  | some s => exact (entS_small hp hq hb h).1

theorem lowF_val {f : Fr} (hn : 0 ≤ f.num) (hd : 0 < f.den) : f.lowF.val = f.val ∧ 0 < f.lowF.den ∧ f.lowF.den ≤ f.den ∧ 0 ≤ f.lowF.num ∧ f.lowF.num ≤ f.num := by
  obtain ⟨a, ha⟩ := Int.eq_ofNat_of_zero_le hn
  obtain ⟨b, hb⟩ := Int.eq_ofNat_of_zero_le (Int.le_of_lt hd)
  have hb0 : 0 < b := by omega
  have hf : f = ⟨(a : Int), (b : Int)⟩ := by cases f; simp only at ha hb; rw [ha, hb]
  subst hf
  rw [lowF_eq rfl]
  have g0 := Nat.gcd_pos_of_pos_right a hb0
  obtain ⟨g, hg⟩ : ∃ g, Nat.gcd a b = g := ⟨_, rfl⟩
  rw [hg] at g0
  obtain ⟨x, hx⟩ : g ∣ a := hg ▸ Nat.gcd_dvd_left a b
  obtain ⟨y, hy⟩ : g ∣ b := hg ▸ Nat.gcd_dvd_right a b
  have e1 : a / g = x := by rw [hx, Nat.mul_div_cancel_left _ g0]
  have e2 : b / g = y := by rw [hy, Nat.mul_div_cancel_left _ g0]
  have hy0 : 0 < y := by
    rcases Nat.eq_zero_or_pos y with h | h
    · subst h; simp at hy; omega
    · exact h
  unfold Fr.low
  rw [hg, e1, e2]
  have l1 : x ≤ a := by rw [← e1]; exact Nat.div_le_self a g
  have l2 : y ≤ b := by rw [← e2]; exact Nat.div_le_self b g
  refine ⟨?_, by dsimp only; omega, by dsimp only; omega, by dsimp only; omega, by dsimp only; omega⟩
  have v1 := val_mul (f := ⟨(x : Int), (y : Int)⟩) (by dsimp only; omega)
  have v2 := val_mul (f := ⟨(a : Int), (b : Int)⟩) hd
  dsimp only at v1 v2
  have py : (0 : Rat) < ((y : Int) : Rat) := cast_pos (by omega)
  have pg : (0 : Rat) < ((g : Int) : Rat) := cast_pos (by omega)
  have c1 : ((a : Int) : Rat) = ((g : Int) : Rat) * ((x : Int) : Rat) := by rw [hx]; simp [Rat.intCast_mul]
  have c2 : ((b : Int) : Rat) = ((g : Int) : Rat) * ((y : Int) : Rat) := by rw [hy]; simp [Rat.intCast_mul]
  have pgy := Rat.mul_pos pg py
  rw [c1, c2] at v2
  have key : (Fr.val ⟨(x : Int), (y : Int)⟩ - Fr.val ⟨(a : Int), (b : Int)⟩) * (((g : Int) : Rat) * ((y : Int) : Rat)) = 0 := by grind
  rcases Rat.mul_eq_zero.1 key with h | h
  · grind
  · grind

/-- In the box at an instant, by whole numbers. -/
def atV (b : List Iv) (p q : List Int) (num den : Int) : Bool := (List.range b.length).all fun i => decide ((b.getD i ⟨0, 0⟩).lo * den ≤ p.getD i 0 * den + (q.getD i 0 - p.getD i 0) * num ∧ p.getD i 0 * den + (q.getD i 0 - p.getD i 0) * num ≤ (b.getD i ⟨0, 0⟩).hi * den)
theorem ptIn_scaled {x : Iv} {a c num den : Int} (hd : 0 < den) : ptIn x a c (Fr.val ⟨num, den⟩) ↔ (x.lo * den ≤ a * den + (c - a) * num ∧ a * den + (c - a) * num ≤ x.hi * den) := by
  have hp := cast_pos hd
  have v := val_mul (f := ⟨num, den⟩) hd
  dsimp only at v
  generalize Fr.val ⟨num, den⟩ = t at *
  have e : ((a * den + (c - a) * num : Int) : Rat) = ((a : Rat) + ((c : Rat) - (a : Rat)) * t) * (den : Rat) := by
    simp only [Rat.intCast_add, Rat.intCast_mul, Rat.intCast_sub]
    rw [← v]; grind
  have e1 : ((x.lo * den : Int) : Rat) = (x.lo : Rat) * (den : Rat) := Rat.intCast_mul _ _
  have e2 : ((x.hi * den : Int) : Rat) = (x.hi : Rat) * (den : Rat) := Rat.intCast_mul _ _
  have mono : ∀ u w : Rat, u ≤ w ↔ u * (den : Rat) ≤ w * (den : Rat) := by
    intro u w
    constructor
    · intro h; exact Rat.mul_le_mul_of_nonneg_right h (Rat.le_of_lt hp)
    · intro h
      apply Classical.byContradiction
      intro hn
      have := Rat.mul_lt_mul_of_pos_right (show w < u by grind) hp
      grind
  unfold ptIn
  constructor
  · rintro ⟨h1, h2⟩
    exact ⟨le_cast (by rw [e, e1]; exact (mono _ _).1 h1), le_cast (by rw [e, e2]; exact (mono _ _).1 h2)⟩
  · rintro ⟨h1, h2⟩
    have g1 := cast_le h1
    have g2 := cast_le h2
    rw [e, e1] at g1
    rw [e, e2] at g2
    exact ⟨(mono _ _).2 g1, (mono _ _).2 g2⟩
theorem atV_iff {b : List Iv} {p q : List Int} {num den : Int} (hd : 0 < den) (hp : p.length = b.length) (hq : q.length = b.length) : atV b p q num den = true ↔ segIn p q b (Fr.val ⟨num, den⟩) := by
  unfold atV
  rw [List.all_eq_true]
  constructor
  · intro h i x a c hx ha hc
    have hi := (List.getElem?_eq_some_iff.1 hx).1
    have := of_decide_eq_true (h i (List.mem_range.2 hi))
    rw [List.getD_eq_getElem?_getD, hx, List.getD_eq_getElem?_getD, ha, List.getD_eq_getElem?_getD, hc] at this
    exact (ptIn_scaled hd).2 this
  · intro h i hi
    rw [List.mem_range] at hi
    have hx : b[i]? = some (b[i]'hi) := List.getElem?_eq_getElem hi
    have ha : p[i]? = some (p[i]'(by omega)) := List.getElem?_eq_getElem (by omega)
    have hc : q[i]? = some (q[i]'(by omega)) := List.getElem?_eq_getElem (by omega)
    rw [List.getD_eq_getElem?_getD, hx, List.getD_eq_getElem?_getD, ha, List.getD_eq_getElem?_getD, hc]
    exact decide_eq_true ((ptIn_scaled hd).1 (h i _ _ _ hx ha hc))

theorem bestF_least {E : List Iv → Fr × Bool} (hE : ∀ b, (E b).2 = true → 0 < (E b).1.den) {t : Tree} {l : List (List Iv)} : ∀ i j, j < i → collAt t j = true → (E (boxAt l j)).2 = true → 0 ≤ (bestF E t l i).2 ∧ (bestF E t l i).1.val ≤ (E (boxAt l j)).1.val
  | 0, j, h, _, _ => absurd h (Nat.not_lt_zero j)
  | i + 1, j, h, hc, hy => by
    simp only [bestF]
    split
    · rename_i hcc
      refine ⟨Int.natCast_nonneg i, ?_⟩
      rcases Nat.lt_succ_iff_lt_or_eq.1 h with h | rfl
      · have ih := bestF_least hE i j h hc hy
        rcases hcc.2.2 with h1 | h1
        · omega
        · obtain ⟨k, _, _, _, k4, k5⟩ := bestF_some i ih.1
          rw [less_val (hE _ hcc.2.1) (by rw [k5]; exact hE _ k4)] at h1
          dsimp only
          grind
      · exact Rat.le_refl
    · rename_i hcc
      rcases Nat.lt_succ_iff_lt_or_eq.1 h with h | rfl
      · exact bestF_least hE i j h hc hy
      · have h0 : ¬ (bestF E t l j).2 < 0 := fun x => hcc ⟨hc, hy, .inl x⟩
        have h1 : (E (boxAt l j)).1.less (bestF E t l j).1 = false := by
          cases hh : (E (boxAt l j)).1.less (bestF E t l j).1 with
          | false => rfl
          | true => exact absurd ⟨hc, hy, .inr hh⟩ hcc
        have h2 : 0 ≤ (bestF E t l j).2 := by omega
        obtain ⟨k, _, _, _, k4, k5⟩ := bestF_some j h2
        exact ⟨h2, (not_less (hE _ hy) (by rw [k5]; exact hE _ k4)).1 h1⟩

/-- **What Meet's point says.** -/
structure Meets (t : Tree) (l : List (List Iv)) (line : List (List Int)) (m : Mt) (k j : Nat) : Prop where
  motion : m.motion = k
  leaf : m.leaf = j
  kl : k + 1 < line.length
  jn : j < t.cells.length
  coll : collAt t j = true
  yes : (entryR (qAt line k) (qAt line (k + 1)) (boxAt l j)).2 = true
  num : m.num = (entryR (qAt line k) (qAt line (k + 1)) (boxAt l j)).1.lowF.num
  den : m.den = (entryR (qAt line k) (qAt line (k + 1)) (boxAt l j)).1.lowF.den
  before : ∀ k', k' < k → ∀ i, i < t.cells.length → collAt t i = true → (entryR (qAt line k') (qAt line (k' + 1)) (boxAt l i)).2 = false
  least : ∀ i, i < t.cells.length → collAt t i = true → (entryR (qAt line k) (qAt line (k + 1)) (boxAt l i)).2 = true → (entryR (qAt line k) (qAt line (k + 1)) (boxAt l j)).1.val ≤ (entryR (qAt line k) (qAt line (k + 1)) (boxAt l i)).1.val
theorem entry_no {t : Tree} {l : List (List Iv)} {line : List (List Int)} {k : Nat} (h : decide (0 ≤ (meetK t l line k).2) = false) : ∀ i, i < t.cells.length → collAt t i = true → (entryR (qAt line k) (qAt line (k + 1)) (boxAt l i)).2 = false := by
  intro i hi hc
  cases hh : (entryR (qAt line k) (qAt line (k + 1)) (boxAt l i)).2 with
  | false => rfl
  | true =>
    have := (bestF_least (E := entryR (qAt line k) (qAt line (k + 1))) (t := t) (l := l) (fun b hb => entryR_pos hb) t.cells.length i hi hc hh).1
    unfold meetK at h
    have h2 := of_decide_eq_false h
    omega
theorem meet_some {t : Tree} {l : List (List Iv)} {line : List (List Int)} {m : Mt} (hh : boxesT t = some l) (hr : regularL t.root line = true) (h : meetT t line = some m) : ∃ k j, Meets t l line m k j := by
  rw [show meetT t line = (meetL t l line).map (meetM t l line) by unfold meetT; rw [hh]; simp [hr]] at h
  obtain ⟨k, hk, rfl⟩ := Option.map_eq_some_iff.1 h
  unfold meetL at hk
  rw [List.find?_range_eq_some] at hk
  obtain ⟨h1, h2, h3⟩ := hk
  have h1 := of_decide_eq_true h1
  rw [List.mem_range] at h2
  unfold meetK at h1
  obtain ⟨j, j1, j2, j3, j4, j5⟩ := bestF_some t.cells.length h1
  refine ⟨k, j, ⟨rfl, j2, by omega, j1, j3, j4, ?_, ?_, ?_, ?_⟩⟩
  · show (meetK t l line k).1.lowF.num = _
    unfold meetK; rw [j5]
  · show (meetK t l line k).1.lowF.den = _
    unfold meetK; rw [j5]
  · intro k' hk'
    exact entry_no (by have := h3 k' hk'; simpa using this)
  · intro i hi hc hy
    rw [← j5]
    exact (bestF_least (E := entryR (qAt line k) (qAt line (k + 1))) (fun b hb => entryR_pos hb) t.cells.length i hi hc hy).2
theorem meet_none {t : Tree} {l : List (List Iv)} {line : List (List Int)} (hh : boxesT t = some l) (hr : regularL t.root line = true) (h : meetT t line = none) : ∀ k, k + 1 < line.length → ∀ i, i < t.cells.length → collAt t i = true → (entryR (qAt line k) (qAt line (k + 1)) (boxAt l i)).2 = false := by
  rw [show meetT t line = (meetL t l line).map (meetM t l line) by unfold meetT; rw [hh]; simp [hr]] at h
  have h : meetL t l line = none := by simpa using h
  unfold meetL at h
  rw [List.find?_range_eq_none] at h
  intro k hk
  exact entry_no (by have := h k (by omega); simpa using this)

theorem entry_misses {p q : List Int} {b : List Iv} (hp : p.length = b.length) (hq : q.length = b.length) (h : (entryR p q b).2 = false) {s : Rat} (h0 : 0 ≤ s) (h1 : s ≤ 1) : ¬ segIn p q b s := by
  have h2 := entryR_false h
  rw [seg_iff hp hq h0 h1]
  intro ⟨h3, h4⟩
  grind
/-- **A tree that separates is met by every polyline from one to the other.** -/
theorem topology {t : Tree} {line : List (List Int)} {p q : List Int} (hr : regularL t.root line = true) (hs : sepT t p q = true) (hp : line[0]? = some p) (hq : line[line.length - 1]? = some q) : ∃ m, meetT t line = some m := by
  cases hm : meetT t line with
  | some m => exact ⟨m, rfl⟩
  | none =>
    exfalso
    unfold sepT at hs
    cases hh : boxesT t with
    | none => rw [hh] at hs; cases hs
    | some l =>
      rw [hh] at hs
      simp only [Bool.and_eq_true] at hs
      obtain ⟨s1, s2, s3⟩ := hs
      obtain ⟨r1, r2, r3⟩ := regularL_iff.1 hr
      have hno := meet_none hh hr hm
      have hll := boxesT_length hh
      have hlb : ∀ i, i < t.cells.length → ∃ b, l[i]? = some b ∧ boxAt l i = b ∧ boxOk b = true ∧ b.length = t.root.length := by
        intro i hi
        have hb : l[i]? = some (l[i]'(by omega)) := List.getElem?_eq_getElem (by omega)
        exact ⟨_, hb, boxAt_eq hb, boxes_ok hh (List.mem_of_getElem? hb), boxes_len hh hb⟩
      have hqa : ∀ k, k < line.length → boxHas t.root (qAt line k) = true := by
        intro k hk
        have hx : line[k]? = some (line[k]'hk) := List.getElem?_eq_getElem hk
        rw [qAt_eq hx]; exact r3 _ (List.mem_of_getElem? hx)
      have hmiss : ∀ k, k + 1 < line.length → ∀ i, i < t.cells.length → leafAt t i = true → collAt t i = true → ∀ s, 0 ≤ s → s ≤ 1 → ¬ segIn (qAt line k) (qAt line (k + 1)) (boxAt l i) s := by
        intro k hk i hi _ hc s h0 h1
        obtain ⟨b, b1, b2, b3, b4⟩ := hlb i hi
        have e1 := (has_in32 (hqa k (by omega))).2
        have e2 := (has_in32 (hqa (k + 1) hk)).2
        refine entry_misses ?_ ?_ (hno k hk i hi hc) h0 h1
        · rw [b2, e1, b4]
        · rw [b2, e2, b4]
      have key : ∀ k, k < line.length → ∃ i, i < t.cells.length ∧ Reach t.cells.length (openAt t) (inV1 l p) (adjV l) i ∧ boxHas (boxAt l i) (qAt line k) = true := by
        intro k
        induction k with
        | zero =>
          intro hk
          have hroot := (segIn_pt (b := t.root) (has_in32 (hqa 0 hk)).2 (has_in32 (hqa 1 (by omega))).2).1 (seg_root (hqa 0 hk) (hqa 1 (by omega)) (t := 0) (by decide) (by decide))
          obtain ⟨i, hi, hlf, hpt⟩ := cover hh hroot
          obtain ⟨b, b1, b2, b3, b4⟩ := hlb i hi
          have e1 : (qAt line 0).length = (boxAt l i).length := by rw [b2, (has_in32 (hqa 0 hk)).2, b4]
          have e2 : (qAt line 1).length = (boxAt l i).length := by rw [b2, (has_in32 (hqa 1 (by omega))).2, b4]
          have hin := (segIn_pt e1 e2).2 hpt
          have hcol : collAt t i = false := by
            cases hc : collAt t i with
            | false => rfl
            | true => exact absurd hin (hmiss 0 (by omega) i hi hlf hc 0 (by decide) (by decide))
          have hhas := (seg_zero (by rw [b2]; exact b3) e1 e2).1 hin
          obtain ⟨c, hc⟩ : ∃ c, t.cells[i]? = some c := ⟨_, List.getElem?_eq_getElem hi⟩
          refine ⟨i, hi, .start i hi ?_ ?_, hhas⟩
          · rw [openAt_eq hc]
            rw [collAt_eq hc] at hcol
            rw [leafAt_eq hc] at hlf
            rw [hlf, hcol]; rfl
          · show boxHas (boxAt l i) p = true
            rw [qAt_eq hp] at hhas; exact hhas
        | succ k ih =>
          intro hk
          obtain ⟨i, hi, hRi, hhas⟩ := ih (by omega)
          have len2 : ∀ i, i < t.cells.length → (qAt line k).length = (boxAt l i).length ∧ (qAt line (k + 1)).length = (boxAt l i).length := by
            intro i hi
            obtain ⟨b, b1, b2, b3, b4⟩ := hlb i hi
            rw [b2, b4]
            exact ⟨(has_in32 (hqa k (by omega))).2, (has_in32 (hqa (k + 1) hk)).2⟩
          obtain ⟨b, b1, b2, b3, b4⟩ := hlb i hi
          obtain ⟨i', hi', hR', hseg'⟩ := seg_reach hh (hqa k (by omega)) (hqa (k + 1) hk) (R := Reach t.cells.length (openAt t) (inV1 l p) (adjV l)) (hmiss k hk) (fun i j hj h1 h2 h3 => .step i j hj h1 h2 h3) ⟨i, hi, hRi, (seg_zero (by rw [b2]; exact b3) (len2 i hi).1 (len2 i hi).2).2 hhas⟩
          obtain ⟨b', c1, c2, c3, c4⟩ := hlb i' hi'
          exact ⟨i', hi', hR', (seg_one (by rw [c2]; exact c3) (len2 i' hi').1 (len2 i' hi').2).1 hseg'⟩
      obtain ⟨i, hi, hR, hhas⟩ := key (line.length - 1) (by omega)
      rw [qAt_eq hq] at hhas
      rw [apart_hit hi (getD_true.2 (floodL_true.2 hR)) hhas] at s3
      cases s3
end Go.Proofs.Ytmljpbhmdjpbaaa
