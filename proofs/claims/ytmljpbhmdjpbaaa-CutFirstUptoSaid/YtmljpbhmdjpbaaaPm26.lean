/- The pure machine, part 26: the activation's own rows named anew, in a fixed order. -/
import Derived.Test.YtmljpbhmdjpbaaaPm25
namespace Go.PM
set_option linter.unusedVariables false
set_option linter.unusedSimpArgs false

/-- The old name behind a new one: 'n0 + j' stands for the j-th of ks. -/
def inv (n0 n : Nat) (ks : List Nat) (id : Nat) : Nat := if id < n0 then id else if id - n0 < ks.length then ks.getD (id - n0) 0 else n + id

theorem VR.unren {rd : Rd} {β β' : Bt} {ρ : Nat → Nat} (hβ : ∀ id l, β (ρ id) = some l → β' id = some l) {q : PV} {v : Value} (h : VR rd β q v) : ∀ p : PV, q = p.ren ρ → VR rd β' p v := by
  induction h with
  | any v => intro p hp; cases p <;> simp only [PV.ren, reduceCtorEq] at hp; exact .any v
  | d x v h => intro p hp; cases p <;> simp only [PV.ren, reduceCtorEq] at hp; cases hp; exact .d x v h
  | own id off len cap b sz tot a hb hl ht ha => intro p hp; cases p <;> simp only [PV.ren, reduceCtorEq] at hp; cases hp; exact .own _ off len cap b sz tot a (hβ _ _ hb) hl ht ha
  | ownNil id sz hb => intro p hp; cases p <;> simp only [PV.ren, reduceCtorEq] at hp; cases hp; exact .ownNil _ sz (hβ _ _ hb)
  | ptr id i o b sz tot hb => intro p hp; cases p <;> simp only [PV.ren, reduceCtorEq] at hp; cases hp; exact .ptr _ i o b sz tot (hβ _ _ hb)
  | mp id b sz hb => intro p hp; cases p <;> simp only [PV.ren, reduceCtorEq] at hp; cases hp; exact .mp _ b sz (hβ _ _ hb)
  | pim cs b off cur vs hlen hb hcell hel => intro p hp; cases p <;> simp only [PV.ren, reduceCtorEq] at hp; cases hp; exact .pim cs b off cur vs hlen hb hcell hel
  | fn f first caps us vs hu hv h1 h2 ih1 ih2 =>
    intro p hp
    cases p <;> simp only [PV.ren, reduceCtorEq] at hp
    rename_i g a b
    rw [PV.renL_map, PV.renL_map] at hp
    simp only [PV.fn.injEq] at hp
    obtain ⟨rfl, rfl, rfl⟩ := hp
    refine .fn _ a b us vs (by simpa using hu) (by simpa using hv) (fun j p v hp hv => ?_) (fun j p v hp hv => ?_)
    · exact ih1 j (p.ren ρ) v (by rw [List.getElem?_map, hp]; rfl) hv p rfl
    · exact ih2 j (p.ren ρ) v (by rw [List.getElem?_map, hp]; rfl) hv p rfl
  | agg cs vs hlen h1 hel ih =>
    intro p hp
    cases p <;> simp only [PV.ren, reduceCtorEq] at hp
    rw [PV.renL_map] at hp
    cases hp
    exact .agg _ vs (by simpa using hlen) h1 (fun j p v hp hv => ih j (p.ren ρ) v (by rw [List.getElem?_map, hp]; rfl) hv p rfl)
  | tup cs vs hlen hel ih =>
    intro p hp
    cases p <;> simp only [PV.ren, reduceCtorEq] at hp
    rw [PV.renL_map] at hp
    cases hp
    exact .tup _ vs (by simpa using hlen) (fun j p v hp hv => ih j (p.ren ρ) v (by rw [List.getElem?_map, hp]; rfl) hv p rfl)

theorem PV.ren_cell' {ρ : Nat → Nat} {p : PV} (h : (p.ren ρ).cell = true) : p.cell = true := by
  cases p <;> first | rfl | (simp [PV.ren, PV.cell] at h; done)

def slotsLeR (ρ : Nat → Nat) (nt : Nat) (t : Nat → PV) : List (Nat × PV) → Prop
  | [] => True
  | (k, p) :: L => LeX none (t k) (p.ren ρ) ∧ k < nt ∧ slotsLeR ρ nt t L
def rowsLeR (ρ : Nat → Nat) (h : Hp) : Rows → Prop
  | [] => True
  | (id, pb) :: R => (∃ p0, h (ρ id) = some p0 ∧ (p0 = pb.ren ρ ∨ RowLe none p0 (pb.ren ρ))) ∧ rowsLeR ρ h R

theorem slotsLeR.all {ρ : Nat → Nat} {nt : Nat} {t : Nat → PV} : ∀ {L : List (Nat × PV)}, slotsLeR ρ nt t L → ∀ k, LeX none (t k) ((slotsF L k).ren ρ) ∧ (nt ≤ k → slotsF L k = .any)
  | [], _, k => ⟨LeX.any none _, fun _ => rfl⟩
  | (j, p) :: L, h, k => by
    unfold slotsF
    split
    · rename_i e
      subst e
      exact ⟨h.1, fun hk => absurd h.2.1 (Nat.not_lt.mpr hk)⟩
    · exact slotsLeR.all h.2.2 k
theorem rowsLeR.all {ρ : Nat → Nat} {h : Hp} : ∀ {R : Rows}, rowsLeR ρ h R → ∀ id pb', rowsH R id = some pb' → ∃ pb, h (ρ id) = some pb ∧ (pb = pb'.ren ρ ∨ RowLe none pb (pb'.ren ρ))
  | [], _, id, pb', hp => by cases hp
  | (j, p) :: R, hr, id, pb', hp => by
    by_cases e : j = id
    · subst e
      rw [rowsH_eq] at hp
      cases hp
      exact hr.1
    · rw [rowsH_ne _ _ _ _ e] at hp
      exact rowsLeR.all hr.2 id pb' hp

/-- The state, with its own rows under their new names, is at least this one. -/
structure AtK (C : Cx) (m : Nat) (σ : Core) (n : Nat) (ks : List Nat) (S : List (Nat × PV) × Rows) : Prop where
  len : ks.length = m
  nodup : ks.Nodup
  own : ∀ k ∈ ks, C.n0 ≤ k
  slots : slotsLeR (inv C.n0 n ks) C.nt σ.t S.1
  rows : rowsLeR (inv C.n0 n ks) σ.h S.2

theorem inv_low {n0 n : Nat} {ks : List Nat} {id : Nat} (h : id < n0) : inv n0 n ks id = id := by unfold inv; rw [if_pos h]

theorem SatF.renum {E0 : Env} {C : Cx} {m n : Nat} {σ : Core} {ks : List Nat} {S : List (Nat × PV) × Rows} {a : Act} {E : Env} (hs : SatF E0 C (fun id => n ≤ id) σ a E) (hat : AtK C m σ n ks S) :
    ∃ E' : Env, E'.w = E.w ∧ SatF E0 C (fun id => C.n0 + m ≤ id) (St S.1 S.2) a E' := by
  obtain ⟨rfl, hnd, hown, hsl, hro⟩ := hat
  let E' : Env := { E with β := fun id => E.β (inv C.n0 n ks id) }
  have hfresh : ∀ id, C.n0 + ks.length ≤ id → E'.β id = none := by
    intro id hid
    show E.β (inv C.n0 n ks id) = none
    unfold inv
    rw [if_neg (by omega), if_neg (by omega)]
    exact hs.ok.fresh _ (by omega)
  have hinv0 : ∀ id, C.n0 ≤ id → C.n0 ≤ inv C.n0 n ks id ∨ E.β (inv C.n0 n ks id) = none := by
    intro id hid
    unfold inv
    rw [if_neg (by omega)]
    split
    · rename_i hlt
      exact .inl (hown _ (List.mem_of_getElem? (getD_of (d := 0) hlt)))
    · exact .inr (hs.ok.fresh _ (by omega))
  have hun : ∀ {p : PV} {v : Value}, VR E.rd E.β (p.ren (inv C.n0 n ks)) v → VR E'.rd E'.β p v := fun {p v} h => VR.unren (ρ := inv C.n0 n ks) (β' := E'.β) (fun id l h => h) h p rfl
  refine ⟨E', rfl, ⟨⟨⟨fun id pb' hid => ?_, fun id id' pb pb' l l' b h1 h2 h3 h4 h5 h6 => ?_⟩, hfresh, hs.ok.ibound⟩, hs.n0, ?_, fun k v hk => ?_, hs.defers, hs.size, fun k hk => (hsl.all k).2 hk⟩⟩
  · obtain ⟨pb, hpb, hle⟩ := hro.all id pb' hid
    obtain ⟨l, hl, hrow⟩ := hs.ok.heap.row _ pb hpb
    have hel : elsLe none pb.es (pb'.ren (inv C.n0 n ks)).es ∧ pb.ty = pb'.ty ∧ pb.sz = pb'.sz := by
      rcases hle with rfl | hle
      · exact ⟨elsLe.refl _ hrow.cell, rfl, rfl⟩
      · exact ⟨hle.es, hle.ty, hle.sz⟩
    obtain ⟨hes, hty, hsz⟩ := hel
    have hlen : pb.es.length = pb'.es.length := by
      rw [hes.length]; simp [PB.ren]
    refine ⟨l, hl, ⟨hrow.sz.trans hsz, fun f hf => ?_, fun f hf q hq => ?_, fun hb => ?_, fun b hb => ?_⟩⟩
    · obtain ⟨e, he, hef⟩ := hes.mem (f.map (PV.ren (inv C.n0 n ks))) (List.mem_map.2 ⟨f, hf, rfl⟩)
      have := hef.length
      rw [List.length_map] at this
      rw [← this, hrow.el e he, hsz]
    · obtain ⟨e, he, hef⟩ := hes.mem (f.map (PV.ren (inv C.n0 n ks))) (List.mem_map.2 ⟨f, hf, rfl⟩)
      exact PV.ren_cell' (hef.cell _ (List.mem_map.2 ⟨q, hq, rfl⟩))
    · have := hrow.nl hb
      rw [this.1] at hlen
      exact ⟨List.length_eq_zero_iff.1 hlen.symm, this.2⟩
    · obtain ⟨h1, cur, h2, h6, h7⟩ := hrow.blk b hb
      refine ⟨h1, cur, h2.congr hty hsz hlen, fun j q hq => ?_, h7⟩
      have hq' : (pb'.ren (inv C.n0 n ks)).es.flatten[j]? = some (q.ren (inv C.n0 n ks)) := by
        show (pb'.es.map (·.map (PV.ren (inv C.n0 n ks)))).flatten[j]? = _
        rw [flatten_map_map, List.getElem?_map, hq]; rfl
      obtain ⟨p, hp, hpq⟩ := hes.flat.get j _ hq'
      obtain ⟨v, hv, hvr⟩ := h6 j p hp
      exact ⟨v, hv, hun (hpq _ _ _ (by simp) hvr)⟩
  · obtain ⟨p1, hp1, _⟩ := hro.all id pb h1
    obtain ⟨p2, hp2, _⟩ := hro.all id' pb' h2
    have hin : ∀ id p, σ.h (inv C.n0 n ks id) = some p → id < C.n0 + ks.length := by
      intro id p hp
      obtain ⟨l, hl, _⟩ := hs.ok.heap.row _ p hp
      rcases Nat.lt_or_ge id (C.n0 + ks.length) with h | h
      · exact h
      · have : E.β (inv C.n0 n ks id) = none := hfresh id h
        rw [this] at hl; cases hl
    have e := hs.ok.heap.inj _ _ p1 p2 l l' b hp1 hp2 h3 h4 h5 h6
    have i1 := hin id p1 hp1
    have i2 := hin id' p2 hp2
    unfold inv at e
    by_cases a1 : id < C.n0
    · by_cases a2 : id' < C.n0
      · simpa [a1, a2] using e
      · rw [if_pos a1, if_neg a2, if_pos (by omega)] at e
        have := hown _ (List.mem_of_getElem? (getD_of (d := 0) (show id' - C.n0 < ks.length by omega)))
        omega
    · by_cases a2 : id' < C.n0
      · rw [if_neg a1, if_pos a2, if_pos (by omega)] at e
        have := hown _ (List.mem_of_getElem? (getD_of (d := 0) (show id - C.n0 < ks.length by omega)))
        omega
      · rw [if_neg a1, if_neg a2, if_pos (by omega), if_pos (by omega)] at e
        have l1 : id - C.n0 < ks.length := by omega
        have l2 : id' - C.n0 < ks.length := by omega
        have e1 : ks[id - C.n0]? = ks[id' - C.n0]? := (getD_of (d := 0) l1).trans ((congrArg some e).trans (getD_of (d := 0) l2).symm)
        have := (List.getElem?_inj l1 hnd).1 e1
        omega
  · exact {
      i := hs.ext.i
      β := fun id l hl => by
        have hlow : id < C.n0 := by
          rcases Nat.lt_or_ge id C.n0 with h | h
          · exact h
          · rw [hs.n0 id h] at hl; cases hl
        show E.β (inv C.n0 n ks id) = some l
        rw [inv_low hlow]
        exact hs.ext.β id l hl
      new := fun id l b hl hn hb => by
        have hl' : E.β (inv C.n0 n ks id) = some l := hl
        by_cases hlow : id < C.n0
        · rw [inv_low hlow] at hl'
          exact hs.ext.new id l b hl' hn hb
        · rcases hinv0 id (by omega) with h | h
          · exact hs.ext.new _ l b hl' (hs.n0 _ h) hb
          · rw [h] at hl'; cases hl'
      newI := hs.ext.newI
      os := hs.ext.os
      tape := hs.ext.tape
      output := hs.ext.output
      size := hs.ext.size
      block := hs.ext.block
      imm := hs.ext.imm }
  · exact hun ((hsl.all k).1 _ _ _ (by simp) (hs.slots k v hk))

section
variable {P : Program} {C : Cx} {σ : Core} {n : Nat} {Q : PPost}

/-- The rows that count, named anew. -/
theorem Tr.renum {c : Code} (ks : List Nat) (L : List (Nat × PV)) (R : Rows) (hat : AtK C ks.length σ n ks (L, R)) (h : Tr P C c (St L R) (C.n0 + ks.length) Q) : Tr P C c σ n Q := by
  intro E0 a E hs
  obtain ⟨E', hw, hs'⟩ := hs.renum hat
  have := h E0 a E' hs'
  rw [hw] at this
  exact this

/-- **A loop.** At each round's head the state is one of the family S, its own rows named from C.n0 on. -/
theorem Tr.loopK {ι : Type} (m : Nat) (S : ι → List (Nat × PV) × Rows) (ok : ι → Prop) (μ : ι → Nat) {c : Code} (h0 : ∃ i ks, ok i ∧ AtK C m σ n ks (S i))
    (round : ∀ i, ok i → Tr P C c (St (S i).1 (S i).2) (C.n0 + m) (PPost.seq (fun σ' n' => ∃ i' ks, (ok i' ∧ μ i' < μ i) ∧ AtK C m σ' n' ks (S i')) Q)) : Tr P C (.loop c) σ n Q := by
  intro E0 a E hs b kk cs
  have key : ∀ (k : Nat) (σ : Core) (n : Nat) (a : Act) (E : Env), (∃ i ks, μ i = k ∧ ok i ∧ AtK C m σ n ks (S i)) → SatF E0 C (fun id => n ≤ id) σ a E →
      ∃ e a' w', conc E0 C Q e a' w' ∧ Arrives P (lone (b.at a (.code c :: .inLoop c :: kk)) cs E.w) b kk cs e a' w' := by
    intro k
    induction k using Nat.strongRecOn with
    | _ k ih =>
      rintro σ n a E ⟨i, ks, hi, hok, hat⟩ hs
      obtain ⟨E2, hw, hs2⟩ := hs.renum hat
      rw [← hw]
      obtain ⟨e, a1, w1, hq, harr⟩ := round i hok E0 a E2 hs2 b (.inLoop c :: kk) cs
      obtain ⟨σ1, n1, E1, rfl, hs1, hq1⟩ := hq
      cases e with
      | normal =>
        obtain ⟨i', ks', ⟨hok', hlt⟩, hat'⟩ := hq1
        obtain ⟨e2, a2, w2, hq2, harr2⟩ := ih (μ i') (hi ▸ hlt) σ1 n1 a1 E1 ⟨i', ks', rfl, hok', hat'⟩ hs1
        exact ⟨e2, a2, w2, hq2, .of_steps (Steps.trans harr (.one step_inLoop)) harr2⟩
      | exit id => exact ⟨_, a1, E1.w, ⟨σ1, n1, E1, rfl, hs1, hq1⟩, .pass (x := .inLoop c) rfl (fun _ _ => .inl (by simp)) harr⟩
      | goto l => exact ⟨_, a1, E1.w, ⟨σ1, n1, E1, rfl, hs1, hq1⟩, .pass (x := .inLoop c) rfl (fun _ _ => .inl (by simp)) harr⟩
      | ret => exact ⟨_, a1, E1.w, ⟨σ1, n1, E1, rfl, hs1, hq1⟩, .pass (x := .inLoop c) rfl (fun _ _ => .inl (by simp)) harr⟩
      | panic ch => exact ⟨_, a1, E1.w, ⟨σ1, n1, E1, rfl, hs1, hq1⟩, .pass (x := .inLoop c) rfl (fun _ _ => .inl (by simp)) harr⟩
      | outgrown => exact ⟨_, a1, E1.w, ⟨σ1, n1, E1, rfl, hs1, hq1⟩, .pass (x := .inLoop c) rfl (fun _ _ => .inl (by simp)) harr⟩
  obtain ⟨i, ks, h1, h2⟩ := h0
  obtain ⟨e, a', w', hq, harr⟩ := key _ σ n a E ⟨i, ks, rfl, h1, h2⟩ hs
  exact ⟨e, a', w', hq, .of_steps (.one step_loop) harr⟩

/-- Later names only. -/
theorem Tr.bump {c : Code} (h : ∀ m, n ≤ m → Tr P C c σ m Q) : Tr P C c σ n Q := fun E0 a E hs => h n (Nat.le_refl n) E0 a E hs
end

theorem add_lt_self_false (n k : Nat) : (n + k < n) = False := by simp
theorem add_add (n j k : Nat) : n + j + k = n + (j + k) := Nat.add_assoc n j k
attribute [simp] add_lt_self_false slotsLeR rowsLeR PV.ren PV.renL PB.ren inv
end Go.PM
