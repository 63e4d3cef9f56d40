/- The pure machine, part 25: loops over a family of states. -/
import Derived.Test.YtmljpbhmdjpbaaaPm24
namespace Go.PM
set_option linter.unusedVariables false
set_option linter.unusedSimpArgs false

/-- The state is at least this one. -/
def At (nt : Nat) (σ : Core) (L : List (Nat × PV)) (R : Rows) : Prop := slotsLe none nt σ.t L ∧ rowsLe none σ.h R

section
variable {P : Program} {C : Cx} {σ : Core} {n : Nat} {Q : PPost}

theorem Tr.loopAt {ι : Type} (S : ι → List (Nat × PV) × Rows) (ok : ι → Nat → Prop) (μ : ι → Nat) {c : Code} (h0 : ∃ i, ok i n ∧ At C.nt σ (S i).1 (S i).2)
    (round : ∀ i n, ok i n → Tr P C c (St (S i).1 (S i).2) n (PPost.seq (fun σ' n' => ∃ i', (ok i' n' ∧ μ i' < μ i) ∧ At C.nt σ' (S i').1 (S i').2) Q)) : Tr P C (.loop c) σ n Q := by
  intro E0 a E hs b kk cs
  have key : ∀ (k : Nat) (σ : Core) (n : Nat) (a : Act) (E : Env), (∃ i, μ i = k ∧ ok i n ∧ At C.nt σ (S i).1 (S i).2) → SatF E0 C (fun id => n ≤ id) σ a E →
      ∃ e a' w', conc E0 C Q e a' w' ∧ Arrives P (lone (b.at a (.code c :: .inLoop c :: kk)) cs E.w) b kk cs e a' w' := by
    intro k
    induction k using Nat.strongRecOn with
    | _ k ih =>
      rintro σ n a E ⟨i, hi, hok, hat⟩ hs
      have hs2 := hs.le none (by simp) (slotsF (S i).1) (rowsH (S i).2) (fun k => (hat.1.all k).1) (fun k hk => (hat.1.all k).2 hk) hat.2.all
      obtain ⟨e, a1, w1, hq, harr⟩ := round i n hok E0 a E hs2 b (.inLoop c :: kk) cs
      obtain ⟨σ1, n1, E1, rfl, hs1, hq1⟩ := hq
      cases e with
      | normal =>
        obtain ⟨i', ⟨hok', hlt⟩, hat'⟩ := hq1
        obtain ⟨e2, a2, w2, hq2, harr2⟩ := ih (μ i') (hi ▸ hlt) σ1 n1 a1 E1 ⟨i', rfl, hok', hat'⟩ hs1
        exact ⟨e2, a2, w2, hq2, .of_steps (Steps.trans harr (.one step_inLoop)) harr2⟩
      | exit id => exact ⟨_, a1, E1.w, ⟨σ1, n1, E1, rfl, hs1, hq1⟩, .pass (x := .inLoop c) rfl (fun _ _ => .inl (by simp)) harr⟩
      | goto l => exact ⟨_, a1, E1.w, ⟨σ1, n1, E1, rfl, hs1, hq1⟩, .pass (x := .inLoop c) rfl (fun _ _ => .inl (by simp)) harr⟩
      | ret => exact ⟨_, a1, E1.w, ⟨σ1, n1, E1, rfl, hs1, hq1⟩, .pass (x := .inLoop c) rfl (fun _ _ => .inl (by simp)) harr⟩
      | panic ch => exact ⟨_, a1, E1.w, ⟨σ1, n1, E1, rfl, hs1, hq1⟩, .pass (x := .inLoop c) rfl (fun _ _ => .inl (by simp)) harr⟩
      | outgrown => exact ⟨_, a1, E1.w, ⟨σ1, n1, E1, rfl, hs1, hq1⟩, .pass (x := .inLoop c) rfl (fun _ _ => .inl (by simp)) harr⟩
  obtain ⟨i, h1, h2⟩ := h0
  obtain ⟨e, a', w', hq, harr⟩ := key _ σ n a E ⟨i, rfl, h1, h2⟩ hs
  exact ⟨e, a', w', hq, .of_steps (.one step_loop) harr⟩

theorem exit_s {id : Nat} {next : Core → Nat → Prop} (h : Q (.exit id) σ n) : PPost.seq next Q (.exit id) σ n := h
theorem exit_b {id : Nat} (h : Q .normal σ n) : PPost.blk id Q (.exit id) σ n := by simp only [PPost.blk, if_true]; exact h
theorem exit_o {id id' : Nat} (hne : id' ≠ id) (h : Q (.exit id') σ n) : PPost.blk id Q (.exit id') σ n := by simp only [PPost.blk, if_neg hne]; exact h

/-- A row of data becomes immutable, and the state is written anew. -/
theorem Tr.freezeTo {c : Code} (id : Nat) (ds : List (List DV)) {ty : TypeId} {sz : Nat} (L : List (Nat × PV)) (R : Rows) (hty : ty < 1000000000) (hh : σ.h id = some ⟨ty, sz, up ds⟩) (hperm : id ∈ C.T ∨ C.n0 ≤ id)
    (hL : slotsLe none C.nt (fun k => (σ.t k).frz id ds) L) (hR : rowsLe none (fun j => if j = id then none else (σ.h j).map (PB.frz id ds)) R) (h : Tr P C c (St L R) n Q) : Tr P C c σ n Q :=
  Tr.freeze ds hh rfl hperm hty (Tr.toSt L R hL hR h)
end

theorem up_frz (id : Nat) (ds es : List (List DV)) : (up es).map (fun e => e.map (PV.frz id ds)) = up es := by
  unfold up
  rw [List.map_map]
  apply List.map_congr_left
  intro e _
  simp only [Function.comp_apply, List.map_map]
  rfl
theorem up_append (a b : List (List DV)) : up (a ++ b) = up a ++ up b := by simp
theorem up_length (a : List (List DV)) : (up a).length = a.length := by simp
end Go.PM
