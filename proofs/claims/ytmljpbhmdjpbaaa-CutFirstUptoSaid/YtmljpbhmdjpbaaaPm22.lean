/- The pure machine, part 22: states written as lists. -/
import Derived.Test.YtmljpbhmdjpbaaaPm21
namespace Go.PM
set_option linter.unusedVariables false
set_option linter.unusedSimpArgs false

def slotsF : List (Nat × PV) → Nat → PV
  | [], _ => .any
  | (k, p) :: L, j => if j = k then p else slotsF L j

/-- A state, by the slots and the rows that count. -/
def St (L : List (Nat × PV)) (R : Rows) : Core := ⟨slotsF L, rowsH R⟩

theorem hup_eq (h : Hp) (k : Nat) (x : Option PB) : hup h k x k = x := by simp [hup]
theorem hup_ne (h : Hp) (k : Nat) (x : Option PB) (j : Nat) (hj : j ≠ k) : hup h k x j = h j := by simp [hup, hj]
theorem rowsH_eq (id : Nat) (pb : PB) (R : Rows) : rowsH ((id, pb) :: R) id = some pb := by simp [rowsH]
theorem rowsH_ne (id : Nat) (pb : PB) (R : Rows) (j : Nat) (hj : id ≠ j) : rowsH ((id, pb) :: R) j = rowsH R j := by
  unfold rowsH
  rw [List.find?_cons]
  have : (id == j) = false := by simpa using hj
  simp [this]
theorem rowsH_nil' (j : Nat) : rowsH [] j = none := rfl
theorem callH_old (h : Hp) (F G : Rows) (nid : Nat) (news : List PB) (j : Nat) (hj : j < nid) (hF : hasId F j = false) : callH h F G nid news j = h j := by
  unfold callH
  rw [hF]
  cases hn : rowsH (nRows nid news) j with
  | none => rfl
  | some pb =>
    have := (nRows_spec hn).1
    omega
theorem callH_lent (h : Hp) (F G : Rows) (nid : Nat) (news : List PB) (j : Nat) (hF : hasId F j = true) : callH h F G nid news j = rowsH G j := by
  unfold callH
  rw [if_pos hF]
theorem hasId_nil (j : Nat) : hasId [] j = false := rfl
theorem hasId_eq (id : Nat) (pb : PB) (F : Rows) : hasId ((id, pb) :: F) id = true := by simp [hasId]
theorem hasId_ne (id : Nat) (pb : PB) (F : Rows) (j : Nat) (hj : id ≠ j) : hasId ((id, pb) :: F) j = hasId F j := by
  have : (id == j) = false := by simpa using hj
  simp [hasId, this]

/-! ### What is known may be forgotten -/
/-- 'q' says no more than 'p'; where X is given, that name is a row that has no block yet. -/
def LeX (X : Option (Nat × Nat)) (p q : PV) : Prop := ∀ rd β v, (∀ x, X = some x → β x.1 = some ⟨none, x.2, 0⟩) → VR rd β p v → VR rd β q v

theorem LeX.refl (X : Option (Nat × Nat)) (p : PV) : LeX X p p := fun _ _ _ _ h => h
theorem LeX.any (X : Option (Nat × Nat)) (p : PV) : LeX X p .any := fun _ _ v _ _ => .any v
theorem LeX.nilImm (X : Option (Nat × Nat)) : LeX X (.d (.val (.slice none 0 0))) (.d (.imm [])) := fun _ _ _ _ h => by rw [vr_val h]; exact .d _ _ .nil
theorem LeX.nilOwn (n sz : Nat) : LeX (some (n, sz)) (.d (.val (.slice none 0 0))) (.own n sz 0 0) := fun _ _ _ hx h => by rw [vr_val h]; exact .ownNil _ _ (hx _ rfl)

def cellsLe (X : Option (Nat × Nat)) : List PV → List PV → Prop
  | [], [] => True
  | p :: ps, q :: qs => LeX X p q ∧ q.cell = true ∧ cellsLe X ps qs
  | _, _ => False
def elsLe (X : Option (Nat × Nat)) : List (List PV) → List (List PV) → Prop
  | [], [] => True
  | e :: es, f :: fs => cellsLe X e f ∧ elsLe X es fs
  | _, _ => False

section
variable {X : Option (Nat × Nat)}

theorem cellsLe.refl : ∀ (ps : List PV), (∀ p ∈ ps, p.cell = true) → cellsLe X ps ps
  | [], _ => trivial
  | p :: ps, h => ⟨.refl X p, h p (by simp), cellsLe.refl ps fun q hq => h q (by simp [hq])⟩
theorem elsLe.refl : ∀ (es : List (List PV)), (∀ e ∈ es, ∀ p ∈ e, p.cell = true) → elsLe X es es
  | [], _ => trivial
  | e :: es, h => ⟨cellsLe.refl e (h e (by simp)), elsLe.refl es fun q hq => h q (by simp [hq])⟩
theorem cellsLe.length : ∀ {ps qs : List PV}, cellsLe X ps qs → ps.length = qs.length
  | [], [], _ => rfl
  | _ :: _, _ :: _, h => by simp [cellsLe.length h.2.2]
  | [], _ :: _, h => h.elim
  | _ :: _, [], h => h.elim
theorem cellsLe.get : ∀ {ps qs : List PV}, cellsLe X ps qs → ∀ (j : Nat) q, qs[j]? = some q → ∃ p, ps[j]? = some p ∧ LeX X p q
  | p :: ps, q :: qs, h, 0, r, hr => by simp at hr; subst hr; exact ⟨p, rfl, h.1⟩
  | p :: ps, q :: qs, h, j + 1, r, hr => by simpa using cellsLe.get h.2.2 j r (by simpa using hr)
  | [], [], _, _, _, hr => by simp at hr
  | [], _ :: _, h, _, _, _ => h.elim
  | _ :: _, [], h, _, _, _ => h.elim
theorem cellsLe.cell : ∀ {ps qs : List PV}, cellsLe X ps qs → ∀ q ∈ qs, q.cell = true
  | p :: ps, q :: qs, h, r, hr => by
    rcases List.mem_cons.1 hr with rfl | hr
    · exact h.2.1
    · exact cellsLe.cell h.2.2 r hr
  | [], [], _, _, hr => by cases hr
  | [], _ :: _, h, _, _ => h.elim
  | _ :: _, [], h, _, _ => h.elim
theorem cellsLe.append : ∀ {ps qs ps' qs' : List PV}, cellsLe X ps qs → cellsLe X ps' qs' → cellsLe X (ps ++ ps') (qs ++ qs')
  | [], [], _, _, _, h => h
  | p :: ps, q :: qs, _, _, h, k => ⟨h.1, h.2.1, cellsLe.append h.2.2 k⟩
  | [], _ :: _, _, _, h, _ => h.elim
  | _ :: _, [], _, _, h, _ => h.elim
theorem elsLe.length : ∀ {ps qs : List (List PV)}, elsLe X ps qs → ps.length = qs.length
  | [], [], _ => rfl
  | _ :: _, _ :: _, h => by simp [elsLe.length h.2]
  | [], _ :: _, h => h.elim
  | _ :: _, [], h => h.elim
theorem elsLe.mem : ∀ {ps qs : List (List PV)}, elsLe X ps qs → ∀ f ∈ qs, ∃ e ∈ ps, cellsLe X e f
  | e :: es, f :: fs, h, g, hg => by
    rcases List.mem_cons.1 hg with rfl | hg
    · exact ⟨e, by simp, h.1⟩
    · obtain ⟨e', h1, h2⟩ := elsLe.mem h.2 g hg
      exact ⟨e', by simp [h1], h2⟩
  | [], [], _, _, hg => by cases hg
  | [], _ :: _, h, _, _ => h.elim
  | _ :: _, [], h, _, _ => h.elim
theorem elsLe.flat : ∀ {ps qs : List (List PV)}, elsLe X ps qs → cellsLe X ps.flatten qs.flatten
  | [], [], _ => trivial
  | e :: es, f :: fs, h => cellsLe.append h.1 (elsLe.flat h.2)
  | [], _ :: _, h => h.elim
  | _ :: _, [], h => h.elim
end

structure RowLe (X : Option (Nat × Nat)) (p q : PB) : Prop where
  ty : p.ty = q.ty
  sz : p.sz = q.sz
  es : elsLe X p.es q.es

theorem RowLe.refl {X : Option (Nat × Nat)} {p : PB} (h : ∀ e ∈ p.es, ∀ c ∈ e, c.cell = true) : RowLe X p p := ⟨rfl, rfl, elsLe.refl _ h⟩

theorem SatF.le {E0 : Env} {C : Cx} {fr : Nat → Prop} {σ : Core} {a : Act} {E : Env} (hs : SatF E0 C fr σ a E) (X : Option (Nat × Nat)) (hX : ∀ x, X = some x → E.β x.1 = some ⟨none, x.2, 0⟩) (t' : Nat → PV) (h' : Hp)
    (ht : ∀ k, LeX X (σ.t k) (t' k)) (hi : ∀ k, C.nt ≤ k → t' k = .any) (hh : ∀ id pb', h' id = some pb' → ∃ pb, σ.h id = some pb ∧ (pb = pb' ∨ RowLe X pb pb')) : SatF E0 C fr ⟨t', h'⟩ a E := by
  refine ⟨⟨⟨fun id pb' hid => ?_, fun id id' pb pb' l l' b h1 h2 h3 h4 h5 h6 => ?_⟩, hs.ok.fresh, hs.ok.ibound⟩, hs.n0, hs.ext, fun k v hk => ht k _ _ _ hX (hs.slots k v hk), hs.defers, hs.size, hi⟩
  · obtain ⟨pb, hpb, hle⟩ := hh id pb' hid
    obtain ⟨l, hl, hrow⟩ := hs.ok.heap.row id pb hpb
    rcases hle with rfl | hle
    · exact ⟨l, hl, hrow⟩
    refine ⟨l, hl, ⟨hrow.sz.trans hle.sz, fun f hf => ?_, fun f hf q hq => ?_, fun hb => ?_, fun b hb => ?_⟩⟩
    · obtain ⟨e, he, hef⟩ := hle.es.mem f hf
      rw [← hef.length, hrow.el e he, hle.sz]
    · obtain ⟨e, he, hef⟩ := hle.es.mem f hf
      exact hef.cell q hq
    · have := hrow.nl hb
      have hl0 := hle.es.length
      rw [this.1] at hl0
      exact ⟨List.length_eq_zero_iff.1 hl0.symm, this.2⟩
    · obtain ⟨h1, cur, h2, h6, h7⟩ := hrow.blk b hb
      refine ⟨h1, cur, h2.congr hle.ty hle.sz hle.es.length, fun j q hq => ?_, h7⟩
      obtain ⟨p, hp, hpq⟩ := hle.es.flat.get j q hq
      obtain ⟨v, hv, hvr⟩ := h6 j p hp
      exact ⟨v, hv, hpq _ _ _ hX hvr⟩
  · obtain ⟨p1, hp1, _⟩ := hh id pb h1
    obtain ⟨p2, hp2, _⟩ := hh id' pb' h2
    exact hs.ok.heap.inj id id' p1 p2 l l' b hp1 hp2 h3 h4 h5 h6

def slotsLe (X : Option (Nat × Nat)) (nt : Nat) (t : Nat → PV) : List (Nat × PV) → Prop
  | [] => True
  | (k, p) :: L => LeX X (t k) p ∧ k < nt ∧ slotsLe X nt t L
def rowsLe (X : Option (Nat × Nat)) (h : Hp) : Rows → Prop
  | [] => True
  | (id, pb) :: R => (∃ p0, h id = some p0 ∧ (p0 = pb ∨ RowLe X p0 pb)) ∧ rowsLe X h R

theorem slotsLe.all {X : Option (Nat × Nat)} {nt : Nat} {t : Nat → PV} : ∀ {L : List (Nat × PV)}, slotsLe X nt t L → ∀ k, LeX X (t k) (slotsF L k) ∧ (nt ≤ k → slotsF L k = .any)
  | [], _, k => ⟨LeX.any X _, fun _ => rfl⟩
  | (j, p) :: L, h, k => by
    unfold slotsF
    split
    · rename_i e
      subst e
      exact ⟨h.1, fun hk => absurd h.2.1 (Nat.not_lt.mpr hk)⟩
    · exact slotsLe.all h.2.2 k
theorem rowsLe.all {X : Option (Nat × Nat)} {h : Hp} : ∀ {R : Rows}, rowsLe X h R → ∀ id pb', rowsH R id = some pb' → ∃ pb, h id = some pb ∧ (pb = pb' ∨ RowLe X pb pb')
  | [], _, id, pb', hp => by cases hp
  | (j, p) :: R, hr, id, pb', hp => by
    by_cases e : j = id
    · subst e
      rw [rowsH_eq] at hp
      cases hp
      exact hr.1
    · rw [rowsH_ne _ _ _ _ e] at hp
      exact rowsLe.all hr.2 id pb' hp

section
variable {P : Program} {C : Cx} {σ : Core} {n : Nat} {Q : PPost}

/-- The state in another writing, of which less may be known. -/
theorem Tr.toSt {c : Code} (L : List (Nat × PV)) (R : Rows) (hL : slotsLe none C.nt σ.t L) (hR : rowsLe none σ.h R) (h : Tr P C c (St L R) n Q) : Tr P C c σ n Q := by
  intro E0 a E hs
  exact h E0 a E (hs.le none (by simp) (slotsF L) (rowsH R) (fun k => (hL.all k).1) (fun k hk => (hL.all k).2 hk) hR.all)

/-- The same, where a nil slice becomes a row 'n' of the function's own. -/
theorem Tr.toSt1 {c : Code} (ty : TypeId) (sz : Nat) (L : List (Nat × PV)) (R : Rows) (hL : slotsLe (some (n, sz)) C.nt σ.t L) (hR : rowsLe (some (n, sz)) (hup σ.h n (some ⟨ty, sz, []⟩)) R) (h : Tr P C c (St L R) (n + 1) Q) : Tr P C c σ n Q := by
  intro E0 a E hs
  obtain ⟨E', hw, hβ, hx, hs'⟩ := hs.allocNil n (Nat.le_refl n) ty sz
  have h1 := hs'.le (some (n, sz)) (by intro x hx; cases hx; exact hβ) (slotsF L) (rowsH R) (fun k => (hL.all k).1) (fun k hk => (hL.all k).2 hk) hR.all
  have := h E0 a E' (h1.fr_mono fun id hid => ⟨by omega, by omega⟩)
  rw [hw] at this
  exact this
end

theorem St_t (L : List (Nat × PV)) (R : Rows) : (St L R).t = slotsF L := rfl
theorem St_h (L : List (Nat × PV)) (R : Rows) : (St L R).h = rowsH R := rfl
attribute [simp] slotsF slotsLe rowsLe St_t St_h hup_eq hup_ne rowsH_eq rowsH_ne rowsH_nil' callH_old callH_lent hasId_nil hasId_eq hasId_ne callH_nil LeX.refl LeX.any LeX.nilImm LeX.nilOwn
end Go.PM
