/- CutTopology, walked. -/
import Derived.Test.YtmljpbhmdjpbaaaM9
namespace Go.Proofs.Ytmljpbhmdjpbaaa
set_option linter.unusedVariables false
set_option linter.unusedSimpArgs false
open Go.PM

theorem mul_small {x y : Int} (hx : -256 ≤ x ∧ x ≤ 256) (hy : 0 ≤ y ∧ y ≤ 1024) : -262144 ≤ x * y ∧ x * y ≤ 262144 := by
  have h1 := Int.mul_le_mul_of_nonneg_right hx.1 hy.1
  have h2 := Int.mul_le_mul_of_nonneg_right hx.2 hy.1
  omega
theorem num_le_den {a d : Int} (h : 0 < d) (hv : Fr.val ⟨a, d⟩ ≤ 1) : a ≤ d := by
  have h1 := cast_pos h
  have e := val_mul (f := ⟨a, d⟩) h
  dsimp only at e
  have := Rat.mul_le_mul_of_nonneg_right hv (Rat.le_of_lt h1)
  exact le_cast (by grind)
theorem atV_false {b : List Iv} {p q : List Int} {num den : Int} {i : Nat} {v : Iv} {a c : Int} (hv : b[i]? = some v) (ha : p[i]? = some a) (hc : q[i]? = some c) (h : a * den + (c - a) * num < v.lo * den ∨ v.hi * den < a * den + (c - a) * num) : atV b p q num den = false := by
  unfold atV
  refine all_false (x := i) (List.getElem?_range (List.getElem?_eq_some_iff.1 hv).1) (decide_eq_false ?_)
  rw [List.getD_eq_getElem?_getD, hv, List.getD_eq_getElem?_getD, ha, List.getD_eq_getElem?_getD, hc]
  simp only [Option.getD_some]
  omega
theorem atV_true {b : List Iv} {p q : List Int} {num den : Int} (h : ∀ (i : Nat) v a c, i < b.length → b[i]? = some v → p[i]? = some a → q[i]? = some c → ¬ (a * den + (c - a) * num < v.lo * den) ∧ ¬ (v.hi * den < a * den + (c - a) * num)) (hp : p.length = b.length) (hq : q.length = b.length) : atV b p q num den = true := by
  unfold atV
  rw [List.all_eq_true]
  intro i hi
  rw [List.mem_range] at hi
  have hx : b[i]? = some (b[i]'hi) := List.getElem?_eq_getElem hi
  have ha : p[i]? = some (p[i]'(by omega)) := List.getElem?_eq_getElem (by omega)
  have hc : q[i]? = some (q[i]'(by omega)) := List.getElem?_eq_getElem (by omega)
  have := h i _ _ _ hi hx ha hc
  rw [List.getD_eq_getElem?_getD, hx, List.getD_eq_getElem?_getD, ha, List.getD_eq_getElem?_getD, hc]
  simp only [Option.getD_some]
  exact decide_eq_true (by omega)
set_option maxRecDepth 8000 in
set_option maxHeartbeats 4000000 in
theorem pcall_at (b : List Iv) (p q : List Int) (num den : Int) (hp : p.length = b.length) (hq0 : q.length = b.length) (hl : b.length ≤ 1048576) (sp : ∀ x ∈ p, Small x) (sq : ∀ x ∈ q, Small x) (sb : SmallB b) (hn : 0 ≤ num ∧ num ≤ 1024) (hd : 0 ≤ den ∧ den ≤ 1024) :
    PCall Try.prog 24 [.d (.imm (ivs b)), .d (.imm (ints p)), .d (.imm (ints q)), .i num, .i den] (.b (atV b p q num den)) := by
  refine walk Try.func24 (by kernel_rfl) rfl 57 rfl (Nat.le_of_ble_eq_true rfl) fun nid _ => ?_
  refine Tr.seq (Tr.regionK fun K hK => ?_)
  simp (maxSteps := 1000000)
  refine hK _ ?_; clear hK K
  refine Tr.seq ?_
  refine Tr.seq (Tr.regionK fun K hK => ?_)
  simp (maxSteps := 1000000) [add_add]
  refine hK _ ?_; clear hK K
  refine Tr.block ?_
  refine Tr.loopP [] [] [] (fun i : Nat => ([(0, .d (.imm (ivs b))), (1, .d (.imm (ints p))), (2, .d (.imm (ints q))), (3, .i num), (4, .i den), (11, .i i)],
  [])) (fun i : Nat => i ≤ b.length ∧ ∀ (j : Nat) v a c, j < i → b[j]? = some v → p[j]? = some a → q[j]? = some c → ¬ (a * den + (c - a) * num < v.lo * den) ∧ ¬ (v.hi * den < a * den + (c - a) * num)) (fun i : Nat => b.length - i) 0 rfl ?_ ?_ ?_
  · exact ⟨Nat.zero_le _, fun j v a c hj => absurd hj (Nat.not_lt_zero _)⟩
  · refine ⟨rfl, ?_, ?_, ?_, ?_⟩ <;> simp [add_add]
  rintro i ⟨hi, hall⟩ I hI0
  have w : IntKind.i64.wrap ((i : Int) + 1) = (i : Int) + 1 := wrapIn (by omega) (by omega)
  refine Tr.seq ?_
  refine Tr.seq (Tr.regionK fun K hK => ?_)
  simp (maxSteps := 1000000) [add_add]
  refine hK _ ?_; clear hK K
  refine Tr.cond rfl rfl (fun hq => ?_) (fun hq => ?_)
  · simp at hq
    have hip : i < p.length := by omega
    have hiq : i < q.length := by omega
    obtain ⟨v, hv, hv'⟩ : ∃ v, b[i]? = some v ∧ b[i] = v := ⟨b[i], List.getElem?_eq_getElem hq, rfl⟩
    obtain ⟨a, ha, ha'⟩ : ∃ a, p[i]? = some a ∧ p[i] = a := ⟨p[i], List.getElem?_eq_getElem hip, rfl⟩
    obtain ⟨c, hc, hc'⟩ : ∃ c, q[i]? = some c ∧ q[i] = c := ⟨q[i], List.getElem?_eq_getElem hiq, rfl⟩
    have s1 := small_at sb hv
    have s2 := sp a (List.mem_of_getElem? ha)
    have s3 := sq c (List.mem_of_getElem? hc)
    unfold Small at s1 s2 s3
    obtain ⟨A, hA⟩ : ∃ A, a * den = A := ⟨_, rfl⟩
    obtain ⟨D, hD⟩ : ∃ D, c - a = D := ⟨_, rfl⟩
    obtain ⟨M, hM⟩ : ∃ M, D * num = M := ⟨_, rfl⟩
    obtain ⟨X, hX⟩ : ∃ X, A + M = X := ⟨_, rfl⟩
    obtain ⟨Lo, hLo⟩ : ∃ Lo, v.lo * den = Lo := ⟨_, rfl⟩
    obtain ⟨Hi, hHi⟩ : ∃ Hi, v.hi * den = Hi := ⟨_, rfl⟩
    have bA := mul_small (x := a) (y := den) (by omega) hd
    have bM := mul_small (x := D) (y := num) (by omega) hn
    have bLo := mul_small (x := v.lo) (y := den) (by omega) hd
    have bHi := mul_small (x := v.hi) (y := den) (by omega) hd
    rw [hA] at bA
    rw [hM] at bM
    rw [hLo] at bLo
    rw [hHi] at bHi
    have wA : IntKind.i64.wrap A = A := wrapIn (by omega) (by omega)
    have wD : IntKind.i64.wrap D = D := wrapIn (by omega) (by omega)
    have wM : IntKind.i64.wrap M = M := wrapIn (by omega) (by omega)
    have wX : IntKind.i64.wrap X = X := wrapIn (by omega) (by omega)
    have wLo : IntKind.i64.wrap Lo = Lo := wrapIn (by omega) (by omega)
    have wHi : IntKind.i64.wrap Hi = Hi := wrapIn (by omega) (by omega)
    refine Tr.skip ?_
    refine Tr.seq ?_
    refine Tr.block ?_
    refine Tr.seq (Tr.regionE mixed (by kernel_rfl) fun K hK => ?_)
    simp (maxSteps := 1000000) [ha', hc', hq, hip, hiq, hA, wA, hD, wD, hM, wM, hX, wX]
    refine hK _ ?_; clear hK K
    by_cases s5_0 : X < Lo
    · have s5_0' := s5_0
      have hf : atV b p q num den = false := atV_false hv ha hc (.inl (by rw [hA, hD, hM, hX, hLo]; exact s5_0))
      refine Tr.seq (Tr.regionK fun K hK => ?_)
      simp (maxSteps := 1000000) [add_add, hv', hq, s5_0, hLo, wLo]
      refine hK _ ?_; clear hK K
      refine Tr.cond rfl rfl (fun hq1 => ?_) (fun hq1 => by first | (cases hq1; done) | (simp at hq1; done) | (simp_all; done))
      refine Tr.seq (Tr.regionK fun K hK => ?_)
      simp (maxSteps := 1000000) [add_add]
      refine hK _ ?_; clear hK K
      refine Tr.ret ⟨.inr rfl, ?_, ?_, ?_, ?_⟩ <;> simp [Try.f24, hf]
    by_cases s5_1 : Hi < X
    · have s5_1' := s5_1
      have hf : atV b p q num den = false := atV_false hv ha hc (.inr (by rw [hA, hD, hM, hX, hHi]; exact s5_1))
      refine Tr.seq (Tr.regionK fun K hK => ?_)
      simp (maxSteps := 1000000) [add_add, hv', hq, s5_0, s5_1, hLo, wLo, hHi, wHi]
      refine hK _ ?_; clear hK K
      refine Tr.cond rfl rfl (fun hq2 => ?_) (fun hq2 => by first | (cases hq2; done) | (simp at hq2; done) | (simp_all; done))
      refine Tr.seq (Tr.regionK fun K hK => ?_)
      simp (maxSteps := 1000000) [add_add]
      refine hK _ ?_; clear hK K
      refine Tr.ret ⟨.inr rfl, ?_, ?_, ?_, ?_⟩ <;> simp [Try.f24, hf]
    refine Tr.seq (Tr.regionK fun K hK => ?_)
    simp (maxSteps := 1000000) [add_add, hv', hq, s5_0, s5_1, hLo, wLo, hHi, wHi]
    refine hK _ ?_; clear hK K
    refine Tr.cond rfl rfl (fun hq3 => by first | (cases hq3; done) | (simp at hq3; done) | (simp_all; done)) (fun hq3 => ?_)
    refine Tr.skip ?_
    refine Tr.regionK fun K hK => ?_
    simp (maxSteps := 1000000) [add_add, w]
    refine hK _ ?_; clear hK K
    refine hI0 _ _ (i + 1) (⟨hq, fun j v' a' c' hj g1 g2 g3 => (Nat.lt_succ_iff_lt_or_eq.1 hj).elim (fun h => hall j v' a' c' h g1 g2 g3) (fun e => by subst e; rw [hv] at g1; rw [ha] at g2; rw [hc] at g3; cases g1; cases g2; cases g3; rw [hA, hD, hM, hX, hLo, hHi]; exact ⟨s5_0, s5_1⟩)⟩) (by first | (show _ < _; omega) | (simp; omega)) ⟨rfl, ?_, ?_, ?_, ?_⟩ <;> simp [add_add]
  simp at hq
  refine Tr.exit (exit_s (exit_s (exit_b ?_)))
  have hin : i = b.length := by omega
  subst hin
  have hf : atV b p q num den = true := atV_true (fun j v a c hj => hall j v a c hj) hp hq0
  refine Tr.seq (Tr.regionK fun K hK => ?_)
  simp (maxSteps := 1000000) [add_add]
  refine hK _ ?_; clear hK K
  refine Tr.ret ⟨.inr rfl, ?_, ?_, ?_, ?_⟩ <;> simp [Try.f24, hf]
set_option maxRecDepth 8000 in
set_option maxHeartbeats 4000000 in
theorem pcall_law4 (l m o line : List Int) (n : Int) (hl : Ok64 l) (hlen : l.length ≤ 1048576) (hm : Ok64 m) (hmen : m.length ≤ 1048576) (ho : Ok64 o) (hoen : o.length ≤ 1048576) (hi : Ok64 line) (hien : line.length ≤ 1048576) (hn : R64 n) :
    PCall Try.prog 4 [.d (.imm (ints l)), .d (.imm (ints m)), .d (.imm (ints o)), .d (.imm (ints line)), .i n] (.b true) := by
  obtain ⟨k, hk, hk9⟩ := mod_nat n 9 (by omega)
  have hpt := pcall_tree l hl hlen
  have hT1 := treeV_ok l
  have hT2 := tree_box l
  have hT3 := tree_small l
  obtain ⟨T, hT⟩ : ∃ T, treeV l = T := ⟨_, rfl⟩
  rw [hT] at hpt hT1 hT2 hT3
  obtain ⟨bl, hh⟩ := Option.isSome_iff_exists.1 hT1
  have hrl := root_len hh
  have hcl := cells_len hh
  have hll := boxesT_length hh
  have hpi := pcall_in T.root m (by omega) hT2 hm hmen
  have hqi := pcall_in T.root o (by omega) hT2 ho hoen
  have hph := inV_has hT2 m
  have hqh := inV_has hT2 o
  obtain ⟨p, hp⟩ : ∃ p, inV T.root m = p := ⟨_, rfl⟩
  obtain ⟨q, hq⟩ : ∃ q, inV T.root o = q := ⟨_, rfl⟩
  rw [hp] at hpi hph
  rw [hq] at hqi hqh
  have hLi := pcall_line T.root line k (by omega) hT2 (by omega) hi hien
  have hLh := lineV_has hT2 line k
  have hLl := lineV_len T.root line k
  obtain ⟨L, hL⟩ : ∃ L, lineV T.root line k = L := ⟨_, rfl⟩
  rw [hL] at hLi hLh hLl
  have hwl : (p :: (L ++ [q])).length = k + 2 := by simp [hLl]
  obtain ⟨w, hw⟩ : ∃ w, p :: (L ++ [q]) = w := ⟨_, rfl⟩
  have hreg : regularL T.root w = true := regularL_iff.2 ⟨by rw [← hw, hwl]; omega, by rw [← hw, hwl]; omega, fun x hx => by rw [← hw] at hx; simp at hx; rcases hx with rfl | hx | rfl; exact hph; exact hLh x hx; exact hqh⟩
  have hw0 : w[0]? = some p := by rw [← hw]; rfl
  have hwz : w[w.length - 1]? = some q := by rw [← hw, hwl]; simp [hLl]
  refine walk Try.func4 (by kernel_rfl) rfl 140 rfl (Nat.le_of_ble_eq_true rfl) fun nid _ => ?_
  refine Tr.seq (Tr.regionK fun K hK => ?_)
  simp (maxSteps := 1000000)
  refine hK _ ?_; clear hK K
  refine Tr.seq (Tr.regionK fun K hK => ?_)
  simp (maxSteps := 1000000) [add_add]
  refine .inl ⟨_, hpt, rfl, ?_⟩
  simp (maxSteps := 1000000) [add_add]
  refine hK _ ?_; clear hK K
  refine Tr.seq (Tr.regionE mixed (by kernel_rfl) fun K hK => ?_)
  simp (maxSteps := 1000000) [add_add]
  refine .inl ⟨_, hpi, rfl, ?_⟩
  simp (maxSteps := 1000000)
  refine .inl ⟨_, hqi, rfl, ?_⟩
  simp (maxSteps := 1000000)
  refine hK _ ?_; clear hK K
  refine Tr.seq ?_
  rcases Bool.eq_false_or_eq_true (sepT T p q) with s3_0 | s3_0
  · have s3_0' := s3_0
    obtain ⟨x, hx⟩ := topology hreg s3_0 hw0 hwz
    obtain ⟨kk, j, hM⟩ := meet_some hh hreg hx
    obtain ⟨x1, x2, x3, x4⟩ := x
    obtain ⟨e1, e2, e3, e4, e5, e6, e7, e8, e9, e10⟩ := hM
    dsimp only at e1 e2 e7 e8
    subst e1
    subst e2
    rw [hw] at hwl
    obtain ⟨_, _, hwq⟩ := regularL_iff.1 hreg
    have hk0 : kk < w.length := by omega
    have hjb : j < bl.length := by omega
    obtain ⟨p', hP, hP'⟩ : ∃ p', w[kk]? = some p' ∧ w[kk] = p' := ⟨w[kk], List.getElem?_eq_getElem hk0, rfl⟩
    obtain ⟨q', hQ, hQ'⟩ : ∃ q', w[kk + 1]? = some q' ∧ w[kk + 1] = q' := ⟨w[kk + 1], List.getElem?_eq_getElem e3, rfl⟩
    obtain ⟨bx, hbx, hbx'⟩ : ∃ bx, bl[j]? = some bx ∧ bl[j] = bx := ⟨bl[j], List.getElem?_eq_getElem hjb, rfl⟩
    obtain ⟨c, hc, hc'⟩ : ∃ c, T.cells[j]? = some c ∧ T.cells[j] = c := ⟨T.cells[j], List.getElem?_eq_getElem e4, rfl⟩
    have hbm := List.mem_of_getElem? hbx
    rw [qAt_eq hP, qAt_eq hQ, boxAt_eq hbx] at e6 e7 e8
    have hPh := hwq p' (List.mem_of_getElem? hP)
    have hQh := hwq q' (List.mem_of_getElem? hQ)
    have hbs := boxes_small hh hT3 hbm
    have hPs := has_small hT3 hPh
    have hQs := has_small hT3 hQh
    have hS := entryR_small hPs hQs hbs
    have hbl := boxes_len hh hbx
    have hPl : p'.length = bx.length := by rw [hbl]; exact (has_in32 hPh).2
    have hQl : q'.length = bx.length := by rw [hbl]; exact (has_in32 hQh).2
    obtain ⟨v1, v2, v3, v4, v5⟩ := lowF_val hS.1.1 (entryR_pos e6)
    obtain ⟨t1, t2⟩ := entryR_true e6
    have t3 := segB_le p' q' bx
    have t4 := segA_nonneg p' q' bx
    rw [t1] at v1
    obtain ⟨f, hfe⟩ : ∃ f, (entryR p' q' bx).1.lowF = f := ⟨_, rfl⟩
    rw [hfe] at v1 v2 v3 v4 v5 e7 e8
    have hSn := hS.1.2
    have hSd := hS.2.2
    obtain ⟨f1, f2⟩ := f
    dsimp only at e7 e8 v2 v3 v4 v5
    subst e7
    subst e8
    have hat := (atV_iff (b := bx) (p := p') (q := q') (num := x2) v2 hPl hQl).2 ((seg_iff hPl hQl (by rw [v1]; exact t4) (by rw [v1]; grind)).2 ⟨by rw [v1]; exact Rat.le_refl, by rw [v1]; exact t2⟩)
    have hle : x2 ≤ x3 := num_le_den v2 (by rw [v1]; grind)
    have hck : c.v.kind = 2 := by rw [collAt_eq hc] at e5; unfold Cel.coll at e5; exact of_decide_eq_true e5
    have hbo : boxOf T (j : Int) = some bx := by unfold boxOf; rw [hh]; simp [hbx]
    have g1 : ((w.length : Int) ≤ (kk : Int) + 1) = False := by simp; omega
    have g7 : ((kk : Int) < 0) = False := by simp
    have g8 : ((j : Int) < 0) = False := by simp
    have g2 : (T.cells.length ≤ j) = False := by simp; omega
    have g3 : (x3 < 1) = False := by simp; omega
    have g4 : (x2 < 0) = False := by simp; omega
    have g5 : (x3 < x2) = False := by simp; omega
    have g6 : IntKind.i64.wrap ((kk : Int) + 1) = (kk : Int) + 1 := wrapIn (by omega) (by omega)
    refine Tr.seq (Tr.regionK fun K hK => ?_)
    simp (maxSteps := 1000000) [add_add]
    refine .inl ⟨_, pcall_separates T p q (by omega), rfl, ?_⟩
    simp (maxSteps := 1000000) [add_add, s3_0]
    refine hK _ ?_; clear hK K
    refine Tr.cond rfl rfl (fun hq0 => by first | (cases hq0; done) | (simp at hq0; done) | (simp_all; done)) (fun hq0 => ?_)
    refine Tr.skip ?_
    refine Tr.seq (Tr.regionE mixed (by kernel_rfl) fun K hK => ?_)
    simp (maxSteps := 1000000) [add_add, Region.binds]
    refine .inl ⟨_, pcall_round n 9 hn.1 hn.2 (by omega) (by omega), rfl, ?_⟩
    simp (maxSteps := 1000000) [Region.binds, hk]
    refine .inl ⟨_, hLi, rfl, ?_⟩
    simp (maxSteps := 1000000) [add_add, Region.binds]
    repeat (first | refine ⟨by omega, ?_⟩ | refine ⟨⟨by omega, by omega⟩, ?_⟩ | refine ⟨rfl, ?_⟩)
    refine hK _ ?_; clear hK K
    refine Tr.seq (Tr.regionK fun K hK => ?_)
    simp (maxSteps := 1000000) [add_add]
    repeat (first | refine ⟨by omega, ?_⟩ | refine ⟨⟨by omega, by omega⟩, ?_⟩ | refine ⟨rfl, ?_⟩)
    refine hK _ ?_; clear hK K
    refine Tr.freezeM (nid + 132) qD w [(11, .ptr (nid + 12) 0 0), (14, .d (.imm (qs w)))] [(nid + 12, ⟨25, 2, [[.d (.imm (ivs T.root)), .d (.imm (cels T.cells))]]⟩)] (ty := 35) (sz := 1) ?_ ?_ ?_ ?_ ?_
    · simp [← hw, upm, up]; rw [List.take_of_length_le (by simp; omega)]; rfl
    · simp
    · have e : 1 + (L.length + 1) = w.length := by omega
      simp [e]
    · simp
    refine Tr.seq (Tr.regionK fun K hK => ?_)
    simp (maxSteps := 1000000) [add_add]
    refine .inl ⟨_, pcall_meet T w (by omega), rfl, ?_⟩
    simp (maxSteps := 1000000) [add_add, hx, meetP]
    refine hK _ ?_; clear hK K
    refine Tr.seq ?_
    refine Tr.seq (Tr.regionK fun K hK => ?_)
    simp (maxSteps := 1000000) [add_add, g1, g2, g3, g4, g5, g6, g7, g8]
    refine hK _ ?_; clear hK K
    refine Tr.cond rfl rfl (fun hq1 => by first | (cases hq1; done) | (simp at hq1; done) | (simp_all; done)) (fun hq1 => ?_)
    refine Tr.skip ?_
    refine Tr.seq (Tr.regionK fun K hK => ?_)
    simp (maxSteps := 1000000) [add_add]
    refine .inl ⟨_, pcall_refBoxOf T j (by omega), rfl, ?_⟩
    simp (maxSteps := 1000000) [add_add, hbo, boxOfP]
    refine hK _ ?_; clear hK K
    refine Tr.seq (Tr.regionE mixed (by kernel_rfl) fun K hK => ?_)
    simp (maxSteps := 1000000) [add_add]
    refine .inl ⟨_, pcall_awake, rfl, ?_⟩
    simp (maxSteps := 1000000) [e4, hc', hk0, hP', hQ', e3, hck, g6]
    repeat (first | refine ⟨by omega, ?_⟩ | refine ⟨⟨by omega, by omega⟩, ?_⟩ | refine ⟨rfl, ?_⟩)
    refine .inl ⟨_, pcall_at bx p' q' x2 x3 hPl hQl (by omega) hPs hQs hbs ⟨by omega, by omega⟩ ⟨by omega, by omega⟩, rfl, ?_⟩
    simp (maxSteps := 1000000) [hat]
    refine hK _ ?_; clear hK K
    refine Tr.ret ⟨.inr rfl, ?_, ?_, ?_, ?_⟩ <;> simp [Try.f4]
  refine Tr.seq (Tr.regionK fun K hK => ?_)
  simp (maxSteps := 1000000) [add_add]
  refine .inl ⟨_, pcall_separates T p q (by omega), rfl, ?_⟩
  simp (maxSteps := 1000000) [add_add, s3_0]
  refine hK _ ?_; clear hK K
  refine Tr.cond rfl rfl (fun hq2 => ?_) (fun hq2 => by first | (cases hq2; done) | (simp at hq2; done) | (simp_all; done))
  refine Tr.seq (Tr.regionK fun K hK => ?_)
  simp (maxSteps := 1000000) [add_add]
  refine .inl ⟨_, pcall_awake, rfl, ?_⟩
  simp (maxSteps := 1000000) [add_add]
  refine hK _ ?_; clear hK K
  refine Tr.ret ⟨.inr rfl, ?_, ?_, ?_, ?_⟩ <;> simp [Try.f4]
end Go.Proofs.Ytmljpbhmdjpbaaa
