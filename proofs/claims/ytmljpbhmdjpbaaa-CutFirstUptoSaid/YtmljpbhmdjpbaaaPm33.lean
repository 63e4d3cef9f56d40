/- The pure machine, part 33: loops whose rows are found by the ways that lead to them; nil slices that become rows at a loop's begin. -/
import Derived.Test.YtmljpbhmdjpbaaaPm32
namespace Go.PM
set_option linter.unusedVariables false
set_option linter.unusedSimpArgs false

def PV.rid : PV → Nat
  | .own id _ _ _ => id
  | .ptr id _ _ => id
  | .mp id => id
  | _ => 0

/-- A way to a row: what a slot names, what a cell of a row names, the j-th of the nil slices. -/
inductive Pth where
  | slot (k : Nat)
  | cell (p : Pth) (i j : Nat)
  | nil (j : Nat)
  | fix (id : Nat)

def Pth.val (σ : Core) (n : Nat) : Pth → PV
  | .slot k => σ.t k
  | .cell p i j => match σ.h (Pth.val σ n p).rid with
    | some pb => (pb.es.getD i []).getD j .any
    | none => .any
  | .nil j => .mp (n + j)
  | .fix id => .ptr id 0 0
def names (σ : Core) (n : Nat) (ps : List Pth) : List Nat := ps.map fun p => (p.val σ n).rid

/-- 'q' says no more than 'p'; the names in X are rows that have no block yet. -/
def LeY (X : List (Nat × Nat)) (p q : PV) : Prop := ∀ rd β v, (∀ x ∈ X, β x.1 = some ⟨none, x.2, 0⟩) → VR rd β p v → VR rd β q v
theorem LeY.refl (X : List (Nat × Nat)) (p : PV) : LeY X p p := fun _ _ _ _ h => h
theorem LeY.any (X : List (Nat × Nat)) (p : PV) : LeY X p .any := fun _ _ v _ _ => .any v
theorem LeY.nilImm (X : List (Nat × Nat)) : LeY X (.d (.val (.slice none 0 0))) (.d (.imm [])) := fun _ _ _ _ h => by rw [vr_val h]; exact .d _ _ .nil
theorem LeY.nilOwn {X : List (Nat × Nat)} {n sz : Nat} (h : (n, sz) ∈ X) : LeY X (.d (.val (.slice none 0 0))) (.own n sz 0 0) := fun _ _ _ hx hv => by rw [vr_val hv]; exact .ownNil _ _ (hx _ h)

def cellsY (X : List (Nat × Nat)) : List PV → List PV → Prop
  | [], [] => True
  | p :: ps, q :: qs => (p = q ∨ (LeY X p q ∧ q.cell = true)) ∧ cellsY X ps qs
  | _, _ => False
def elsY (X : List (Nat × Nat)) : List (List PV) → List (List PV) → Prop
  | [], [] => True
  | e :: es, f :: fs => cellsY X e f ∧ elsY X es fs
  | _, _ => False
def rowY (X : List (Nat × Nat)) (p q : PB) : Prop := p = q ∨ (p.ty = q.ty ∧ p.sz = q.sz ∧ elsY X p.es q.es)

section
variable {X : List (Nat × Nat)}
theorem cellsY.length : ∀ {ps qs : List PV}, cellsY X ps qs → ps.length = qs.length
  | [], [], _ => rfl
  | _ :: _, _ :: _, h => by simp [cellsY.length h.2]
  | [], _ :: _, h => h.elim
  | _ :: _, [], h => h.elim
theorem cellsY.get : ∀ {ps qs : List PV}, cellsY X ps qs → ∀ (j : Nat) q, qs[j]? = some q → ∃ p, ps[j]? = some p ∧ LeY X p q
  | p :: ps, q :: qs, h, 0, r, hr => by
    simp at hr; subst hr
    refine ⟨p, rfl, ?_⟩
    rcases h.1 with rfl | h
    · exact .refl X _
    · exact h.1
  | p :: ps, q :: qs, h, j + 1, r, hr => by simpa using cellsY.get h.2 j r (by simpa using hr)
  | [], [], _, _, _, hr => by simp at hr
  | [], _ :: _, h, _, _, _ => h.elim
  | _ :: _, [], h, _, _, _ => h.elim
theorem cellsY.cell : ∀ {ps qs : List PV}, cellsY X ps qs → (∀ p ∈ ps, p.cell = true) → ∀ q ∈ qs, q.cell = true
  | p :: ps, q :: qs, h, hp, r, hr => by
    rcases List.mem_cons.1 hr with rfl | hr
    · rcases h.1 with rfl | h
      · exact hp _ (by simp)
      · exact h.2
    · exact cellsY.cell h.2 (fun p h => hp p (by simp [h])) r hr
  | [], [], _, _, _, hr => by cases hr
  | [], _ :: _, h, _, _, _ => h.elim
  | _ :: _, [], h, _, _, _ => h.elim
theorem cellsY.append : ∀ {ps qs ps' qs' : List PV}, cellsY X ps qs → cellsY X ps' qs' → cellsY X (ps ++ ps') (qs ++ qs')
  | [], [], _, _, _, h => h
  | p :: ps, q :: qs, _, _, h, k => ⟨h.1, cellsY.append h.2 k⟩
  | [], _ :: _, _, _, h, _ => h.elim
  | _ :: _, [], _, _, h, _ => h.elim
theorem cellsY.refl : ∀ (ps : List PV), cellsY X ps ps
  | [] => trivial
  | _ :: ps => ⟨.inl rfl, cellsY.refl ps⟩
theorem elsY.refl : ∀ (es : List (List PV)), elsY X es es
  | [] => trivial
  | e :: es => ⟨cellsY.refl e, elsY.refl es⟩
theorem elsY.length : ∀ {ps qs : List (List PV)}, elsY X ps qs → ps.length = qs.length
  | [], [], _ => rfl
  | _ :: _, _ :: _, h => by simp [elsY.length h.2]
  | [], _ :: _, h => h.elim
  | _ :: _, [], h => h.elim
theorem elsY.mem : ∀ {ps qs : List (List PV)}, elsY X ps qs → ∀ f ∈ qs, ∃ e ∈ ps, cellsY X e f
  | e :: es, f :: fs, h, g, hg => by
    rcases List.mem_cons.1 hg with rfl | hg
    · exact ⟨e, by simp, h.1⟩
    · obtain ⟨e', h1, h2⟩ := elsY.mem h.2 g hg
      exact ⟨e', by simp [h1], h2⟩
  | [], [], _, _, hg => by cases hg
  | [], _ :: _, h, _, _ => h.elim
  | _ :: _, [], h, _, _ => h.elim
theorem elsY.flat : ∀ {ps qs : List (List PV)}, elsY X ps qs → cellsY X ps.flatten qs.flatten
  | [], [], _ => trivial
  | e :: es, f :: fs, h => cellsY.append h.1 (elsY.flat h.2)
  | [], _ :: _, h => h.elim
  | _ :: _, [], h => h.elim
end

def slotsY (X : List (Nat × Nat)) (ρ : Nat → Nat) (nt : Nat) (t : Nat → PV) : List (Nat × PV) → Prop
  | [] => True
  | (k, p) :: L => LeY X (t k) (p.ren ρ) ∧ k < nt ∧ slotsY X ρ nt t L
def rowsY (X : List (Nat × Nat)) (ρ : Nat → Nat) (h : Hp) : Rows → Prop
  | [] => True
  | (id, pb) :: R => (∃ p0, h (ρ id) = some p0 ∧ rowY X p0 (pb.ren ρ)) ∧ rowsY X ρ h R

theorem slotsY.all {X : List (Nat × Nat)} {ρ : Nat → Nat} {nt : Nat} {t : Nat → PV} : ∀ {L : List (Nat × PV)}, slotsY X ρ nt t L → ∀ k, LeY X (t k) ((slotsF L k).ren ρ) ∧ (nt ≤ k → slotsF L k = .any)
  | [], _, k => ⟨LeY.any X _, fun _ => rfl⟩
  | (j, p) :: L, h, k => by
    unfold slotsF
    split
    · rename_i e
      subst e
      exact ⟨h.1, fun hk => absurd h.2.1 (Nat.not_lt.mpr hk)⟩
    · exact slotsY.all h.2.2 k
theorem rowsY.all {X : List (Nat × Nat)} {ρ : Nat → Nat} {h : Hp} : ∀ {R : Rows}, rowsY X ρ h R → ∀ id pb', rowsH R id = some pb' → ∃ pb, h (ρ id) = some pb ∧ rowY X pb (pb'.ren ρ)
  | [], _, id, pb', hp => by cases hp
  | (j, p) :: R, hr, id, pb', hp => by
    by_cases e : j = id
    · subst e
      rw [rowsH_eq] at hp
      cases hp
      exact hr.1
    · rw [rowsH_ne _ _ _ _ e] at hp
      exact rowsY.all hr.2 id pb' hp

/-- The heap with the nil slices' rows. -/
def nilsH (n : Nat) : List (TypeId × Nat) → Hp → Hp
  | [], h => h
  | (ty, sz) :: r, h => nilsH (n + 1) r (hup h n (some ⟨ty, sz, []⟩))
def nilsX (n : Nat) : List (TypeId × Nat) → List (Nat × Nat)
  | [] => []
  | (_, sz) :: r => (n, sz) :: nilsX (n + 1) r

/-- The state, with its own rows under their new names, is at least this one. -/
structure AtY (C : Cx) (nils : List (TypeId × Nat)) (m : Nat) (σ : Core) (n : Nat) (ks : List Nat) (S : List (Nat × PV) × Rows) : Prop where
  len : ks.length = m
  nodup : ks.Nodup
  own : ∀ k ∈ ks, C.n0 ≤ k
  slots : slotsY (nilsX n nils) (inv C.n0 (n + nils.length) ks) C.nt σ.t S.1
  rows : rowsY (nilsX n nils) (inv C.n0 (n + nils.length) ks) (nilsH n nils σ.h) S.2

theorem SatF.nils {E0 : Env} {C : Cx} {a : Act} : ∀ (nils : List (TypeId × Nat)) (n : Nat) (σ : Core) (E : Env), SatF E0 C (fun id => n ≤ id) σ a E →
    ∃ E' : Env, E'.w = E.w ∧ (∀ id l, E.β id = some l → E'.β id = some l) ∧ SatF E0 C (fun id => n + nils.length ≤ id) ⟨σ.t, nilsH n nils σ.h⟩ a E' ∧ ∀ x ∈ nilsX n nils, E'.β x.1 = some ⟨none, x.2, 0⟩
  | [], n, σ, E, hs => ⟨E, rfl, fun _ _ h => h, by simpa [nilsH] using hs, by simp [nilsX]⟩
  | (ty, sz) :: r, n, σ, E, hs => by
    obtain ⟨E1, h1, h2, h3, h4⟩ := hs.allocNil n (Nat.le_refl n) ty sz
    obtain ⟨E2, g1, g2, g3, g4⟩ := SatF.nils r (n + 1) ⟨σ.t, hup σ.h n (some ⟨ty, sz, []⟩)⟩ E1 (h4.fr_mono fun id hid => ⟨by omega, by omega⟩)
    refine ⟨E2, g1.trans h1, fun id l h => g2 id l (h3.β id l h), ?_, fun x hx => ?_⟩
    · rw [List.length_cons, Nat.add_comm r.length 1, ← Nat.add_assoc]
      exact g3
    · rcases List.mem_cons.1 hx with rfl | hx
      · exact g2 n _ h2
      · exact g4 x hx

theorem SatF.renumY {E0 : Env} {C : Cx} {nils : List (TypeId × Nat)} {m n : Nat} {σ : Core} {ks : List Nat} {S : List (Nat × PV) × Rows} {a : Act} {E : Env} (hs0 : SatF E0 C (fun id => n ≤ id) σ a E) (hat : AtY C nils m σ n ks S) :
    ∃ E' : Env, E'.w = E.w ∧ SatF E0 C (fun id => C.n0 + m ≤ id) (St S.1 S.2) a E' := by
  obtain ⟨rfl, hnd, hown, hsl, hro⟩ := hat
  obtain ⟨E1, hw1, hβ1, hs, hX⟩ := SatF.nils nils n σ E hs0
  generalize hn1 : n + nils.length = n1 at *
  let E' : Env := { E1 with β := fun id => E1.β (inv C.n0 n1 ks id) }
  have hfresh : ∀ id, C.n0 + ks.length ≤ id → E'.β id = none := by
    intro id hid
    show E1.β (inv C.n0 n1 ks id) = none
    unfold inv
    rw [if_neg (by omega), if_neg (by omega)]
    exact hs.ok.fresh _ (by show n1 ≤ _; omega)
  have hinv0 : ∀ id, C.n0 ≤ id → C.n0 ≤ inv C.n0 n1 ks id ∨ E1.β (inv C.n0 n1 ks id) = none := by
    intro id hid
    unfold inv
    rw [if_neg (by omega)]
    split
    · rename_i hlt
      exact .inl (hown _ (List.mem_of_getElem? (getD_of (d := 0) hlt)))
    · exact .inr (hs.ok.fresh _ (by show n1 ≤ _; omega))
  have hun : ∀ {p : PV} {v : Value}, VR E1.rd E1.β (p.ren (inv C.n0 n1 ks)) v → VR E'.rd E'.β p v := fun {p v} h => VR.unren (ρ := inv C.n0 n1 ks) (β' := E'.β) (fun id l h => h) h p rfl
  refine ⟨E', hw1, ⟨⟨⟨fun id pb' hid => ?_, fun id id' pb pb' l l' b h1 h2 h3 h4 h5 h6 => ?_⟩, hfresh, hs.ok.ibound⟩, hs.n0, ?_, fun k v hk => ?_, hs.defers, hs.size, fun k hk => (hsl.all k).2 hk⟩⟩
  · obtain ⟨pb, hpb, hle⟩ := hro.all id pb' hid
    obtain ⟨l, hl, hrow⟩ := hs.ok.heap.row _ pb hpb
    have hel : elsY (nilsX n nils) pb.es (pb'.ren (inv C.n0 n1 ks)).es ∧ pb.ty = pb'.ty ∧ pb.sz = pb'.sz := by
      rcases hle with rfl | ⟨h1, h2, h3⟩
      · exact ⟨elsY.refl _, rfl, rfl⟩
      · exact ⟨h3, h1, h2⟩
    obtain ⟨hes, hty, hsz⟩ := hel
    have hlen : pb.es.length = pb'.es.length := by
      rw [hes.length]; simp [PB.ren]
    refine ⟨l, hl, ⟨hrow.sz.trans hsz, fun f hf => ?_, fun f hf q hq => ?_, fun hb => ?_, fun b hb => ?_⟩⟩
    · obtain ⟨e, he, hef⟩ := hes.mem (f.map (PV.ren (inv C.n0 n1 ks))) (List.mem_map.2 ⟨f, hf, rfl⟩)
      have := hef.length
      rw [List.length_map] at this
      rw [← this, hrow.el e he, hsz]
    · obtain ⟨e, he, hef⟩ := hes.mem (f.map (PV.ren (inv C.n0 n1 ks))) (List.mem_map.2 ⟨f, hf, rfl⟩)
      exact PV.ren_cell' (hef.cell (hrow.cell e he) _ (List.mem_map.2 ⟨q, hq, rfl⟩))
    · have := hrow.nl hb
      rw [this.1] at hlen
      exact ⟨List.length_eq_zero_iff.1 hlen.symm, this.2⟩
    · obtain ⟨h1, cur, h2, h6, h7⟩ := hrow.blk b hb
      refine ⟨h1, cur, h2.congr hty hsz hlen, fun j q hq => ?_, h7⟩
      have hq' : (pb'.ren (inv C.n0 n1 ks)).es.flatten[j]? = some (q.ren (inv C.n0 n1 ks)) := by
        show (pb'.es.map (·.map (PV.ren (inv C.n0 n1 ks)))).flatten[j]? = _
        rw [flatten_map_map, List.getElem?_map, hq]; rfl
      obtain ⟨p, hp, hpq⟩ := hes.flat.get j _ hq'
      obtain ⟨v, hv, hvr⟩ := h6 j p hp
      exact ⟨v, hv, hun (hpq _ _ _ hX hvr)⟩
  · obtain ⟨p1, hp1, _⟩ := hro.all id pb h1
    obtain ⟨p2, hp2, _⟩ := hro.all id' pb' h2
    have hin : ∀ id p, nilsH n nils σ.h (inv C.n0 n1 ks id) = some p → id < C.n0 + ks.length := by
      intro id p hp
      obtain ⟨l, hl, _⟩ := hs.ok.heap.row _ p hp
      rcases Nat.lt_or_ge id (C.n0 + ks.length) with h | h
      · exact h
      · have : E1.β (inv C.n0 n1 ks id) = none := hfresh id h
        rw [this] at hl; cases hl
    have e := hs.ok.heap.inj _ _ p1 p2 l l' b hp1 hp2 h3 h4 h5 h6
    have i1 := hin id p1 hp1
    have i2 := hin id' p2 hp2
    unfold inv at e
    by_cases a1 : id < C.n0
    · by_cases a2 : id' < C.n0
      · simpa [a1, a2] using e
      · rw [if_pos a1, if_neg a2, if_pos (by omega)] at e
        have := hown _ (List.mem_of_getElem? (getD_of (d := 0) (show id' - C.n0 < ks.length by omega)))
        omega
    · by_cases a2 : id' < C.n0
      · rw [if_neg a1, if_pos a2, if_pos (by omega)] at e
        have := hown _ (List.mem_of_getElem? (getD_of (d := 0) (show id - C.n0 < ks.length by omega)))
        omega
      · rw [if_neg a1, if_neg a2, if_pos (by omega), if_pos (by omega)] at e
        have l1 : id - C.n0 < ks.length := by omega
        have l2 : id' - C.n0 < ks.length := by omega
        have e1 : ks[id - C.n0]? = ks[id' - C.n0]? := (getD_of (d := 0) l1).trans ((congrArg some e).trans (getD_of (d := 0) l2).symm)
        have := (List.getElem?_inj l1 hnd).1 e1
        omega
  · exact {
      i := hs.ext.i
      β := fun id l hl => by
        have hlow : id < C.n0 := by
          rcases Nat.lt_or_ge id C.n0 with h | h
          · exact h
          · rw [hs.n0 id h] at hl; cases hl
        show E1.β (inv C.n0 n1 ks id) = some l
        rw [inv_low hlow]
        exact hs.ext.β id l hl
      new := fun id l b hl hn hb => by
        have hl' : E1.β (inv C.n0 n1 ks id) = some l := hl
        by_cases hlow : id < C.n0
        · rw [inv_low hlow] at hl'
          exact hs.ext.new id l b hl' hn hb
        · rcases hinv0 id (by omega) with h | h
          · exact hs.ext.new _ l b hl' (hs.n0 _ h) hb
          · rw [h] at hl'; cases hl'
      newI := hs.ext.newI
      os := hs.ext.os
      tape := hs.ext.tape
      output := hs.ext.output
      size := hs.ext.size
      block := hs.ext.block
      imm := hs.ext.imm }
  · exact hun ((hsl.all k).1 _ _ _ hX (hs.slots k v hk))

section
variable {P : Program} {C : Cx} {σ : Core} {n : Nat} {Q : PPost}

/-- The rows that count, named anew; nil slices may become rows. -/
theorem Tr.renumY {c : Code} (nils : List (TypeId × Nat)) (ps : List Pth) (L : List (Nat × PV)) (R : Rows) (hat : AtY C nils ps.length σ n (names σ n ps) (L, R)) (h : Tr P C c (St L R) (C.n0 + ps.length) Q) : Tr P C c σ n Q := by
  intro E0 a E hs
  obtain ⟨E', hw, hs'⟩ := hs.renumY hat
  have := h E0 a E' hs'
  rw [hw] at this
  exact this

/-- At a round's end. -/
abbrev AtP (C : Cx) (ps : List Pth) (σ : Core) (n : Nat) (S : List (Nat × PV) × Rows) : Prop := AtY C [] ps.length σ n (names σ n ps) S

/-- **A loop.** -/
theorem Tr.loopP {ι : Type} (nils : List (TypeId × Nat)) (ps0 ps : List Pth) (S : ι → List (Nat × PV) × Rows) (ok : ι → Prop) (μ : ι → Nat) {c : Code} (i0 : ι) (hl : ps0.length = ps.length) (h0 : ok i0) (hat : AtY C nils ps0.length σ n (names σ n ps0) (S i0))
    (round : ∀ i, ok i → ∀ I : Core → Nat → Prop, (∀ (σ' : Core) (n' : Nat) (i' : ι), ok i' → μ i' < μ i → AtP C ps σ' n' (S i') → I σ' n') → Tr P C c (St (S i).1 (S i).2) (C.n0 + ps.length) (PPost.seq I Q)) : Tr P C (.loop c) σ n Q := by
  intro E0 a E hs b kk cs
  have step : ∀ (i : ι), ok i → ∀ (E : Env) (a : Act), SatF E0 C (fun id => C.n0 + ps.length ≤ id) (St (S i).1 (S i).2) a E → ∃ e a' w', conc E0 C (PPost.seq (fun σ' n' => ∃ i', ok i' ∧ μ i' < μ i ∧ AtP C ps σ' n' (S i')) Q) e a' w' ∧ Arrives P (lone (b.at a (.code c :: .inLoop c :: kk)) cs E.w) b (.inLoop c :: kk) cs e a' w' :=
    fun i hi E a hs => round i hi _ (fun σ' n' i' h1 h2 h3 => ⟨i', h1, h2, h3⟩) E0 a E hs b (.inLoop c :: kk) cs
  have key : ∀ (k : Nat) (i : ι) (a : Act) (E : Env), μ i = k → ok i → SatF E0 C (fun id => C.n0 + ps.length ≤ id) (St (S i).1 (S i).2) a E →
      ∃ e a' w', conc E0 C Q e a' w' ∧ Arrives P (lone (b.at a (.code c :: .inLoop c :: kk)) cs E.w) b kk cs e a' w' := by
    intro k
    induction k using Nat.strongRecOn with
    | _ k ih =>
      intro i a E hi hok hs2
      obtain ⟨e, a1, w1, hq, harr⟩ := step i hok E a hs2
      obtain ⟨σ1, n1, E1, rfl, hs1, hq1⟩ := hq
      cases e with
      | normal =>
        obtain ⟨i', hok', hlt, hat'⟩ := hq1
        obtain ⟨E3, hw, hs3⟩ := hs1.renumY hat'
        obtain ⟨e2, a2, w2, hq2, harr2⟩ := ih (μ i') (hi ▸ hlt) i' a1 E3 rfl hok' hs3
        rw [hw] at harr2
        exact ⟨e2, a2, w2, hq2, .of_steps (Steps.trans harr (.one step_inLoop)) harr2⟩
      | exit id => exact ⟨_, a1, E1.w, ⟨σ1, n1, E1, rfl, hs1, hq1⟩, .pass (x := .inLoop c) rfl (fun _ _ => .inl (by simp)) harr⟩
      | goto l => exact ⟨_, a1, E1.w, ⟨σ1, n1, E1, rfl, hs1, hq1⟩, .pass (x := .inLoop c) rfl (fun _ _ => .inl (by simp)) harr⟩
      | ret => exact ⟨_, a1, E1.w, ⟨σ1, n1, E1, rfl, hs1, hq1⟩, .pass (x := .inLoop c) rfl (fun _ _ => .inl (by simp)) harr⟩
      | panic ch => exact ⟨_, a1, E1.w, ⟨σ1, n1, E1, rfl, hs1, hq1⟩, .pass (x := .inLoop c) rfl (fun _ _ => .inl (by simp)) harr⟩
      | outgrown => exact ⟨_, a1, E1.w, ⟨σ1, n1, E1, rfl, hs1, hq1⟩, .pass (x := .inLoop c) rfl (fun _ _ => .inl (by simp)) harr⟩
  obtain ⟨E2, hw, hs2⟩ := hs.renumY hat
  rw [hl] at hs2
  obtain ⟨e, a', w', hq, harr⟩ := key _ i0 a E2 rfl h0 hs2
  rw [hw] at harr
  exact ⟨e, a', w', hq, .of_steps (.one step_loop) harr⟩
end

theorem upm_append {α : Type} (f : α → List DV) (l m : List α) : upm f (l ++ m) = upm f l ++ upm f m := by simp [upm]
theorem upm_one {α : Type} (f : α → List DV) (x : α) : upm f [x] = [(f x).map .d] := rfl
attribute [simp] PV.rid Pth.val names LeY.refl LeY.any LeY.nilImm LeY.nilOwn cellsY elsY rowY slotsY rowsY nilsH nilsX upm_nil upm_append upm_one upm_ren upm_frz
end Go.PM
