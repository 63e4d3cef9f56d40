/- The pure machine, part 35: walks from one given begin: what is known of its world is at hand throughout. -/
import Derived.Test.YtmljpbhmdjpbaaaPm34
namespace Go.PM
set_option linter.unusedVariables false
set_option linter.unusedSimpArgs false

/-- A walk at one begin E0. -/
def TrE (E0 : Env) (P : Program) (C : Cx) (c : Code) (σ : Core) (n : Nat) (Q : PPost) : Prop := ∀ (a : Act) (E : Env), SatF E0 C (fun id => n ≤ id) σ a E → c.wp P (conc E0 C Q) a E.w

section
variable {E0 : Env} {P : Program} {C : Cx} {σ : Core} {n : Nat} {Q : PPost}

theorem TrE.of {c : Code} (h : Tr P C c σ n Q) : TrE E0 P C c σ n Q := fun a E hs => h E0 a E hs
theorem TrE.skip (h : Q .normal σ n) : TrE E0 P C .skip σ n Q := .of (Tr.skip h)
theorem TrE.exit {id : Nat} (h : Q (.exit id) σ n) : TrE E0 P C (.exit id) σ n Q := .of (Tr.exit h)
theorem TrE.ret (h : Q .ret σ n) : TrE E0 P C .ret σ n Q := .of (Tr.ret h)
theorem TrE.seq {x y : Code} (h : TrE E0 P C x σ n (PPost.seq (fun σ n => TrE E0 P C y σ n Q) Q)) : TrE E0 P C (.seq x y) σ n Q := by
  intro a E hs
  refine wp_seq (wp_mono (h a E hs) ?_)
  rintro e a w ⟨σ', n', E', rfl, hs', hq⟩
  cases e with
  | normal => exact hq a E' hs'
  | _ => exact ⟨σ', n', E', rfl, hs', hq⟩
theorem TrE.cond {c : Operand} {x y : Code} {q : Bool} (hc : evP σ.t c = .d (.val (.bool q))) (ho : opndOk c = true) (ht : q = true → TrE E0 P C x σ n Q) (hf : q = false → TrE E0 P C y σ n Q) : TrE E0 P C (.cond c x y) σ n Q := by
  intro a E hs
  have := hs.eval c ho
  rw [hc] at this
  exact wp_cond_split (vr_val this) (fun h => ht h a E hs) (fun h => hf h a E hs)
theorem TrE.block {id : Nat} {c : Code} (h : TrE E0 P C c σ n (PPost.blk id Q)) : TrE E0 P C (.block id c) σ n Q := by
  intro a E hs
  refine wp_block (wp_mono (h a E hs) ?_)
  rintro e a w ⟨σ', n', E', rfl, hs', hq⟩
  cases e with
  | exit id' =>
    simp only [PPost.blk] at hq
    simp only [Exit.inBlock]
    split at hq
    · rename_i he; rw [if_pos he]; exact ⟨σ', n', E', rfl, hs', hq⟩
    · rename_i he; rw [if_neg he]; exact ⟨σ', n', E', rfl, hs', hq⟩
  | _ => exact ⟨σ', n', E', rfl, hs', hq⟩
theorem TrE.toSt {c : Code} (L : List (Nat × PV)) (R : Rows) (hL : slotsLe none C.nt σ.t L) (hR : rowsLe none σ.h R) (h : TrE E0 P C c (St L R) n Q) : TrE E0 P C c σ n Q := by
  intro a E hs
  exact h a E (hs.le none (by simp) (slotsF L) (rowsH R) (fun k => (hL.all k).1) (fun k hk => (hL.all k).2 hk) hR.all)
theorem TrE.bump {c : Code} {m : Nat} (hm : n ≤ m) (h : TrE E0 P C c σ m Q) : TrE E0 P C c σ n Q := fun a E hs => h a E (hs.fr_mono fun id hid => Nat.le_trans hm hid)

/-- **A loop.** -/
theorem TrE.loopP {ι : Type} (nils : List (TypeId × Nat)) (ps0 ps : List Pth) (S : ι → List (Nat × PV) × Rows) (ok : ι → Prop) (μ : ι → Nat) {c : Code} (i0 : ι) (hl : ps0.length = ps.length) (h0 : ok i0) (hat : AtY C nils ps0.length σ n (names σ n ps0) (S i0))
    (round : ∀ i, ok i → ∀ I : Core → Nat → Prop, (∀ (σ' : Core) (n' : Nat) (i' : ι), ok i' → μ i' < μ i → AtP C ps σ' n' (S i') → I σ' n') → TrE E0 P C c (St (S i).1 (S i).2) (C.n0 + ps.length) (PPost.seq I Q)) : TrE E0 P C (.loop c) σ n Q := by
  intro a E hs b kk cs
  have step : ∀ (i : ι), ok i → ∀ (E : Env) (a : Act), SatF E0 C (fun id => C.n0 + ps.length ≤ id) (St (S i).1 (S i).2) a E → ∃ e a' w', conc E0 C (PPost.seq (fun σ' n' => ∃ i', ok i' ∧ μ i' < μ i ∧ AtP C ps σ' n' (S i')) Q) e a' w' ∧ Arrives P (lone (b.at a (.code c :: .inLoop c :: kk)) cs E.w) b (.inLoop c :: kk) cs e a' w' :=
    fun i hi E a hs => round i hi _ (fun σ' n' i' h1 h2 h3 => ⟨i', h1, h2, h3⟩) a E hs b (.inLoop c :: kk) cs
  have key : ∀ (k : Nat) (i : ι) (a : Act) (E : Env), μ i = k → ok i → SatF E0 C (fun id => C.n0 + ps.length ≤ id) (St (S i).1 (S i).2) a E →
      ∃ e a' w', conc E0 C Q e a' w' ∧ Arrives P (lone (b.at a (.code c :: .inLoop c :: kk)) cs E.w) b kk cs e a' w' := by
    intro k
    induction k using Nat.strongRecOn with
    | _ k ih =>
      intro i a E hi hok hs2
      obtain ⟨e, a1, w1, hq, harr⟩ := step i hok E a hs2
      obtain ⟨σ1, n1, E1, rfl, hs1, hq1⟩ := hq
      cases e with
      | normal =>
        obtain ⟨i', hok', hlt, hat'⟩ := hq1
        obtain ⟨E3, hw, hs3⟩ := hs1.renumY hat'
        obtain ⟨e2, a2, w2, hq2, harr2⟩ := ih (μ i') (hi ▸ hlt) i' a1 E3 rfl hok' hs3
        rw [hw] at harr2
        exact ⟨e2, a2, w2, hq2, .of_steps (Steps.trans harr (.one step_inLoop)) harr2⟩
      | exit id => exact ⟨_, a1, E1.w, ⟨σ1, n1, E1, rfl, hs1, hq1⟩, .pass (x := .inLoop c) rfl (fun _ _ => .inl (by simp)) harr⟩
      | goto l => exact ⟨_, a1, E1.w, ⟨σ1, n1, E1, rfl, hs1, hq1⟩, .pass (x := .inLoop c) rfl (fun _ _ => .inl (by simp)) harr⟩
      | ret => exact ⟨_, a1, E1.w, ⟨σ1, n1, E1, rfl, hs1, hq1⟩, .pass (x := .inLoop c) rfl (fun _ _ => .inl (by simp)) harr⟩
      | panic ch => exact ⟨_, a1, E1.w, ⟨σ1, n1, E1, rfl, hs1, hq1⟩, .pass (x := .inLoop c) rfl (fun _ _ => .inl (by simp)) harr⟩
      | outgrown => exact ⟨_, a1, E1.w, ⟨σ1, n1, E1, rfl, hs1, hq1⟩, .pass (x := .inLoop c) rfl (fun _ _ => .inl (by simp)) harr⟩
  obtain ⟨E2, hw, hs2⟩ := hs.renumY hat
  rw [hl] at hs2
  obtain ⟨e, a', w', hq, harr⟩ := key _ i0 a E2 rfl h0 hs2
  rw [hw] at harr
  exact ⟨e, a', w', hq, .of_steps (.one step_loop) harr⟩
end
end Go.PM
