/- When a motion is in a box: what the reference reckons. Plain law: the two reckonings of when a motion is in a box agree. Plain law: what is reached from where one begins. celltree.Leaves: the leaves of a valid tree, gathered by a loop over a function. celltree.Leaves, walked. -/
import Derived.Test.YtmljpbhmdjpbaaaM4
import Derived.Test.YtmljpbhmdjpbaaaPm39
namespace Go.Proofs.Ytmljpbhmdjpbaaa
set_option linter.unusedVariables false
set_option linter.unusedSimpArgs false
open Go.PM

def enStep (d lo hi : Int) (s : Fr × Fr) : Option (Fr × Fr) :=
  if d < lo ∨ hi < 0 then none
  else some (if 0 < lo ∧ s.1.less ⟨lo, d⟩ = true then ⟨lo, d⟩ else s.1, if hi < d ∧ Fr.less ⟨hi, d⟩ s.2 = true then ⟨hi, d⟩ else s.2)
def enTurn (p q : Int) (x : Iv) (s : Fr × Fr) : Option (Fr × Fr) :=
  if q - p = 0 then (if p < x.lo ∨ x.hi < p then none else some s)
  else if q - p < 0 then enStep (-(q - p)) (p - x.hi) (p - x.lo) s else enStep (q - p) (x.lo - p) (x.hi - p) s
def enS (p q : List Int) (b : List Iv) : Nat → Option (Fr × Fr)
  | 0 => some (⟨0, 1⟩, ⟨1, 1⟩)
  | j + 1 => (enS p q b j).bind fun s => match p[j]?, q[j]?, b[j]? with
    | some a, some c, some x => enTurn a c x s
    | _, _, _ => none
theorem enS_succ {p q : List Int} {b : List Iv} {j : Nat} {s : Fr × Fr} {a c : Int} {x : Iv} (h : enS p q b j = some s) (ha : p[j]? = some a) (hc : q[j]? = some c) (hx : b[j]? = some x) : enS p q b (j + 1) = enTurn a c x s := by
  simp only [enS, h, ha, hc, hx, Option.bind_some]
theorem enS_none {p q : List Int} {b : List Iv} {j : Nat} (h : enS p q b j = none) : ∀ k, enS p q b (j + k) = none
  | 0 => h
  | k + 1 => by
    have := enS_none h k
    rw [← Nat.add_assoc]
    simp only [enS, this, Option.bind_none]
theorem enStep_R {d lo hi : Int} {s s' : Fr × Fr} (hd : 0 ≤ d ∧ d ≤ 4294967296) (hlo : lo ≤ 4294967296) (hhi : hi ≤ 4294967296) (h : enStep d lo hi s = some s') (h1 : s.1.R) (h2 : s.2.R) : s'.1.R ∧ s'.2.R := by
  unfold enStep at h
  split at h
  · cases h
  · rename_i hn
    cases h
    refine ⟨?_, ?_⟩
    · dsimp only
      split
      · exact ⟨⟨by dsimp only; omega, by dsimp only; omega⟩, by dsimp only; omega, by dsimp only; omega⟩
      · exact h1
    · dsimp only
      split
      · exact ⟨⟨by dsimp only; omega, by dsimp only; omega⟩, by dsimp only; omega, by dsimp only; omega⟩
      · exact h2
theorem enTurn_R {a c : Int} {x : Iv} {s s' : Fr × Fr} (ha : -2147483648 ≤ a ∧ a ≤ 2147483648) (hc : -2147483648 ≤ c ∧ c ≤ 2147483648) (hx : x.ok = true) (h : enTurn a c x s = some s') (h1 : s.1.R) (h2 : s.2.R) : s'.1.R ∧ s'.2.R := by
  have hx := Iv.ok_iff.1 hx
  unfold enTurn at h
  split at h
  · split at h
    · cases h
    · cases h; exact ⟨h1, h2⟩
  · split at h
    · exact enStep_R (by omega) (by omega) (by omega) h h1 h2
    · exact enStep_R (by omega) (by omega) (by omega) h h1 h2
theorem enS_R {p q : List Int} {b : List Iv} (hp : In32 p) (hq : In32 q) (hb : boxOk b = true) : ∀ {j : Nat} {s : Fr × Fr}, enS p q b j = some s → s.1.R ∧ s.2.R
  | 0, s, h => by
    simp only [enS, Option.some.injEq] at h
    subst h
    exact ⟨⟨⟨by decide, by decide⟩, by decide, by decide⟩, ⟨by decide, by decide⟩, by decide, by decide⟩
  | j + 1, s, h => by
    cases h0 : enS p q b j with
    | none => simp [enS, h0] at h
    | some s0 =>
      have ih := enS_R hp hq hb h0
      simp only [enS, h0, Option.bind_some] at h
      split at h
      · rename_i a c x ha hc hx
        exact enTurn_R (hp _ (List.mem_of_getElem? ha)) (hq _ (List.mem_of_getElem? hc)) (boxOk_at hb hx) h ih.1 ih.2
      · cases h
def enV (p q : List Int) (b : List Iv) (j : Nat) : Fr × Fr := (enS p q b j).getD (⟨0, 1⟩, ⟨1, 1⟩)
def enterR (p q : List Int) (b : List Iv) : Fr × Bool := match enS p q b b.length with
  | none => (⟨0, 0⟩, false)
  | some s => (s.1, !(s.2.less s.1))
theorem enterR_none {p q : List Int} {b : List Iv} {j : Nat} (hj : j ≤ b.length) (h : enS p q b j = none) : enterR p q b = (⟨0, 0⟩, false) := by
  unfold enterR
  have := enS_none h (b.length - j)
  rw [Nat.add_sub_cancel' hj] at this
  rw [this]
set_option maxRecDepth 8000 in
set_option maxHeartbeats 4000000 in
theorem pcall_enter (p q : List Int) (b : List Iv) (hp : In32 p) (hq0 : In32 q) (hb : boxOk b = true) (hlb : b.length ≤ 1048576) (hpl : p.length = b.length) (hql : q.length = b.length) :
    PCall Try.prog 109 [.d (.imm (ints p)), .d (.imm (ints q)), .d (.imm (ivs b))] (.tup [frP (enterR p q b).1, .b (enterR p q b).2]) := by
  refine walk Try.func109 (by kernel_rfl) rfl 144 rfl (Nat.le_of_ble_eq_true rfl) fun nid _ => ?_
  refine Tr.seq (Tr.regionK fun K hK => ?_)
  simp (maxSteps := 1000000) [add_add]
  refine hK _ ?_; clear hK K
  refine Tr.seq (Tr.regionK fun K hK => ?_)
  simp (maxSteps := 1000000) [add_add]
  refine hK _ ?_; clear hK K
  refine Tr.seq ?_
  refine Tr.seq (Tr.regionK fun K hK => ?_)
  simp (maxSteps := 1000000) [add_add]
  refine hK _ ?_; clear hK K
  refine Tr.block ?_
  refine Tr.loopP [] [.slot 6, .slot 8, .slot 9] [.slot 6, .slot 8, .slot 9] (fun j : Nat => ([(0, .d (.imm (ints p))), (1, .d (.imm (ints q))), (2, .d (.imm (ivs b))), (6, .ptr nid 0 0), (7, .b false), (8, .ptr (nid + 1) 0 0), (9, .ptr (nid + 2) 0 0), (10, .i j)],
  [(nid, ⟨164, 2, [[.i 0, .i 0]]⟩), (nid + 1, ⟨164, 2, [[.i (enV p q b j).1.num, .i (enV p q b j).1.den]]⟩), (nid + 2, ⟨164, 2, [[.i (enV p q b j).2.num, .i (enV p q b j).2.den]]⟩)])) (fun j : Nat => j ≤ b.length ∧ enS p q b j = some (enV p q b j)) (fun j : Nat => b.length - j) 0 rfl ?_ ?_ ?_
  · exact ⟨Nat.zero_le _, rfl⟩
  · refine ⟨rfl, ?_, ?_, ?_, ?_⟩ <;> simp [add_add, enV, enS]
  rintro j ⟨hj, hes⟩ I hI0
  have w : IntKind.i64.wrap ((j : Int) + 1) = (j : Int) + 1 := wrapIn (by omega) (by omega)
  obtain ⟨⟨s, s'⟩, hst⟩ : ∃ x, enV p q b j = x := ⟨_, rfl⟩
  rw [hst] at hes
  obtain ⟨hR1, hR2⟩ := enS_R hp hq0 hb hes
  simp only at hR1 hR2
  refine Tr.seq ?_
  refine Tr.seq (Tr.regionK fun K hK => ?_)
  simp (maxSteps := 1000000) [add_add, hst]
  refine hK _ ?_; clear hK K
  refine Tr.cond rfl rfl (fun hq => ?_) (fun hq => ?_)
  · simp at hq
    have hjp : j < p.length := by omega
    have hjq : j < q.length := by omega
    obtain ⟨x, hx, hx'⟩ : ∃ x, b[j]? = some x ∧ b[j] = x := ⟨b[j], List.getElem?_eq_getElem hq, rfl⟩
    obtain ⟨a, ha, ha'⟩ : ∃ a, p[j]? = some a ∧ p[j] = a := ⟨p[j], List.getElem?_eq_getElem hjp, rfl⟩
    obtain ⟨c, hc, hc'⟩ : ∃ c, q[j]? = some c ∧ q[j] = c := ⟨q[j], List.getElem?_eq_getElem hjq, rfl⟩
    have hsu := enS_succ hes ha hc hx
    have ra := hp a (List.mem_of_getElem? ha)
    have rc := hq0 c (List.mem_of_getElem? hc)
    have hxo := Iv.ok_iff.1 (boxOk_at hb hx)
    obtain ⟨d, hd⟩ : ∃ d, c - a = d := ⟨_, rfl⟩
    obtain ⟨lo, hlo⟩ : ∃ lo, x.lo - a = lo := ⟨_, rfl⟩
    obtain ⟨hi, hhi⟩ : ∃ hi, x.hi - a = hi := ⟨_, rfl⟩
    have wd : IntKind.i64.wrap d = d := wrapIn (by omega) (by omega)
    have wlo : IntKind.i64.wrap lo = lo := wrapIn (by omega) (by omega)
    have whi : IntKind.i64.wrap hi = hi := wrapIn (by omega) (by omega)
    refine Tr.skip ?_
    refine Tr.seq ?_
    refine Tr.block ?_
    refine Tr.seq (Tr.regionE mixed (by kernel_rfl) fun K hK => ?_)
    simp (maxSteps := 1000000) [add_add, ha', hc', hq, hjp, hjq, hd, wd]
    refine hK _ ?_; clear hK K
    refine Tr.seq ?_
    refine Tr.seq (Tr.regionK fun K hK => ?_)
    simp (maxSteps := 1000000) [add_add]
    refine hK _ ?_; clear hK K
    refine Tr.cond rfl rfl (fun hqd => ?_) (fun hqd => ?_)
    · simp at hqd
      refine Tr.seq ?_
      by_cases s7_0 : a < x.lo
      · have s7_0' := s7_0
        have hf : enterR p q b = (⟨0, 0⟩, false) := enterR_none (j := j + 1) hq (by rw [hsu]; unfold enTurn; rw [hd, if_pos hqd, if_pos (by omega)])
        refine Tr.seq (Tr.regionE mixed (by kernel_rfl) fun K hK => ?_)
        simp (maxSteps := 1000000) [add_add, hx', ha', hq, hjp, s7_0]
        refine hK _ ?_; clear hK K
        refine Tr.cond rfl rfl (fun hq2 => ?_) (fun hq2 => by first | (cases hq2; done) | (simp at hq2; done) | (simp_all; done))
        refine Tr.seq (Tr.regionK fun K hK => ?_)
        simp (maxSteps := 1000000) [add_add]
        refine hK _ ?_; clear hK K
        refine Tr.ret ⟨.inr rfl, ?_, ?_, ?_, ?_⟩ <;> simp [Try.f109, hf]
      by_cases s7_1 : x.hi < a
      · have s7_1' := s7_1
        have hf : enterR p q b = (⟨0, 0⟩, false) := enterR_none (j := j + 1) hq (by rw [hsu]; unfold enTurn; rw [hd, if_pos hqd, if_pos (by omega)])
        refine Tr.seq (Tr.regionE mixed (by kernel_rfl) fun K hK => ?_)
        simp (maxSteps := 1000000) [add_add, hx', ha', hq, hjp, s7_0, s7_1]
        refine hK _ ?_; clear hK K
        refine Tr.cond rfl rfl (fun hq3 => ?_) (fun hq3 => by first | (cases hq3; done) | (simp at hq3; done) | (simp_all; done))
        refine Tr.seq (Tr.regionK fun K hK => ?_)
        simp (maxSteps := 1000000) [add_add]
        refine hK _ ?_; clear hK K
        refine Tr.ret ⟨.inr rfl, ?_, ?_, ?_, ?_⟩ <;> simp [Try.f109, hf]
      refine Tr.seq (Tr.regionE mixed (by kernel_rfl) fun K hK => ?_)
      simp (maxSteps := 1000000) [add_add, hx', ha', hq, hjp, s7_0, s7_1]
      refine hK _ ?_; clear hK K
      refine Tr.cond rfl rfl (fun hq4 => by first | (cases hq4; done) | (simp at hq4; done) | (simp_all; done)) (fun hq4 => ?_)
      refine Tr.skip ?_
      refine Tr.exit (exit_s (exit_b ?_))
      refine Tr.regionK fun K hK => ?_
      simp (maxSteps := 1000000) [add_add, w]
      refine hK _ ?_; clear hK K
      have hs1 : enS p q b (j + 1) = some (s, s') := by rw [hsu]; unfold enTurn; rw [hd, if_pos hqd, if_neg (by omega)]
      have hs2 : enV p q b (j + 1) = (s, s') := by unfold enV; rw [hs1]; rfl
      refine hI0 _ _ (j + 1) (⟨hq, by rw [hs2]; exact hs1⟩) (by first | (show _ < _; omega) | (simp; omega)) ⟨rfl, ?_, ?_, ?_, ?_⟩ <;> simp [add_add, hs2]
    simp at hqd
    refine Tr.skip ?_
    refine Tr.seq (Tr.regionE mixed (by kernel_rfl) fun K hK => ?_)
    simp (maxSteps := 1000000) [add_add, Region.binds, hx', ha', hq, hjp, hlo, hhi, wlo, whi]
    refine hK _ ?_; clear hK K
    refine Tr.seq ?_
    refine Tr.seq (Tr.regionK fun K hK => ?_)
    simp (maxSteps := 1000000) [add_add]
    refine hK _ ?_; clear hK K
    refine Tr.cond rfl rfl (fun hqn => ?_) (fun hqn => ?_)
    · simp at hqn
      obtain ⟨d1, hd1⟩ : ∃ d1, -d = d1 := ⟨_, rfl⟩
      obtain ⟨l1, hl1⟩ : ∃ l1, a - x.hi = l1 := ⟨_, rfl⟩
      obtain ⟨h1, hh1⟩ : ∃ h1, a - x.lo = h1 := ⟨_, rfl⟩
      have hT : enTurn a c x (s, s') = enStep d1 l1 h1 (s, s') := by unfold enTurn; rw [hd, if_neg (by omega), if_pos hqn, hd1, hl1, hh1]
      have wd1 : IntKind.i64.wrap d1 = d1 := wrapIn (by omega) (by omega)
      have wl1 : IntKind.i64.wrap l1 = l1 := wrapIn (by omega) (by omega)
      have wh1 : IntKind.i64.wrap h1 = h1 := wrapIn (by omega) (by omega)
      refine Tr.regionE mixed (by kernel_rfl) fun K hK => ?_
      simp (maxSteps := 1000000) [add_add, Region.binds, hx', ha', hq, hjp, hd1, hl1, hh1, wd1, wl1, wh1]
      refine hK _ ?_; clear hK K
      refine Tr.seq ?_
      by_cases s12_0 : d1 < l1
      · have s12_0' := s12_0
        have hf : enterR p q b = (⟨0, 0⟩, false) := enterR_none (j := j + 1) hq (by rw [hsu]; rw [hT]; unfold enStep; rw [if_pos (by omega)])
        refine Tr.seq (Tr.regionK fun K hK => ?_)
        simp (maxSteps := 1000000) [add_add, s12_0]
        refine hK _ ?_; clear hK K
        refine Tr.cond rfl rfl (fun hq6 => ?_) (fun hq6 => by first | (cases hq6; done) | (simp at hq6; done) | (simp_all; done))
        refine Tr.seq (Tr.regionK fun K hK => ?_)
        simp (maxSteps := 1000000) [add_add]
        refine hK _ ?_; clear hK K
        refine Tr.ret ⟨.inr rfl, ?_, ?_, ?_, ?_⟩ <;> simp [Try.f109, hf]
      by_cases s12_1 : h1 < 0
      · have s12_1' := s12_1
        have hf : enterR p q b = (⟨0, 0⟩, false) := enterR_none (j := j + 1) hq (by rw [hsu]; rw [hT]; unfold enStep; rw [if_pos (by omega)])
        refine Tr.seq (Tr.regionK fun K hK => ?_)
        simp (maxSteps := 1000000) [add_add, s12_0, s12_1]
        refine hK _ ?_; clear hK K
        refine Tr.cond rfl rfl (fun hq7 => ?_) (fun hq7 => by first | (cases hq7; done) | (simp at hq7; done) | (simp_all; done))
        refine Tr.seq (Tr.regionK fun K hK => ?_)
        simp (maxSteps := 1000000) [add_add]
        refine hK _ ?_; clear hK K
        refine Tr.ret ⟨.inr rfl, ?_, ?_, ?_, ?_⟩ <;> simp [Try.f109, hf]
      refine Tr.seq (Tr.regionK fun K hK => ?_)
      simp (maxSteps := 1000000) [add_add, s12_0, s12_1]
      refine hK _ ?_; clear hK K
      refine Tr.cond rfl rfl (fun hq8 => by first | (cases hq8; done) | (simp at hq8; done) | (simp_all; done)) (fun hq8 => ?_)
      refine Tr.skip ?_
      refine Tr.seq ?_
      by_cases s14_0 : 0 < l1
      · have s14_0' := s14_0
        rcases Bool.eq_false_or_eq_true (s.less ⟨l1, d1⟩) with s14_1 | s14_1
        · have s14_1' := s14_1
          have hX : (if 0 < l1 ∧ s.less ⟨l1, d1⟩ = true then (⟨l1, d1⟩ : Fr) else s) = ⟨l1, d1⟩ := by rw [if_pos ⟨s14_0, s14_1⟩]
          refine Tr.seq (Tr.regionK fun K hK => ?_)
          simp (maxSteps := 1000000) [add_add, s14_0]
          refine .inl ⟨_, pcall_refLess s ⟨l1, d1⟩ hR1 ⟨⟨by dsimp only; omega, by dsimp only; omega⟩, by dsimp only; omega, by dsimp only; omega⟩, rfl, ?_⟩
          simp (maxSteps := 1000000) [add_add, s14_1]
          refine hK _ ?_; clear hK K
          refine Tr.cond rfl rfl (fun hq9 => ?_) (fun hq9 => by first | (cases hq9; done) | (simp at hq9; done) | (simp_all; done))
          refine Tr.regionK fun K hK => ?_
          simp (maxSteps := 1000000) [add_add]
          refine hK _ ?_; clear hK K
          by_cases s16_0 : h1 < d1
          · have s16_0' := s16_0
            rcases Bool.eq_false_or_eq_true (Fr.less ⟨h1, d1⟩ s') with s16_1 | s16_1
            · have s16_1' := s16_1
              have hY : (if h1 < d1 ∧ Fr.less ⟨h1, d1⟩ s' = true then (⟨h1, d1⟩ : Fr) else s') = ⟨h1, d1⟩ := by rw [if_pos ⟨s16_0, s16_1⟩]
              refine Tr.seq (Tr.regionK fun K hK => ?_)
              simp (maxSteps := 1000000) [add_add, s16_0]
              refine .inl ⟨_, pcall_refLess ⟨h1, d1⟩ s' ⟨⟨by dsimp only; omega, by dsimp only; omega⟩, by dsimp only; omega, by dsimp only; omega⟩ hR2, rfl, ?_⟩
              simp (maxSteps := 1000000) [add_add, s16_1]
              refine hK _ ?_; clear hK K
              refine Tr.cond rfl rfl (fun hq10 => ?_) (fun hq10 => by first | (cases hq10; done) | (simp at hq10; done) | (simp_all; done))
              refine Tr.regionK fun K hK => ?_
              simp (maxSteps := 1000000) [add_add]
              refine hK _ ?_; clear hK K
              refine Tr.regionK fun K hK => ?_
              simp (maxSteps := 1000000) [add_add, w]
              refine hK _ ?_; clear hK K
              have hs1 : enS p q b (j + 1) = some (if 0 < l1 ∧ s.less ⟨l1, d1⟩ = true then (⟨l1, d1⟩ : Fr) else s, if h1 < d1 ∧ Fr.less ⟨h1, d1⟩ s' = true then (⟨h1, d1⟩ : Fr) else s') := by rw [hsu, hT]; unfold enStep; rw [if_neg (by omega)]
              rw [hX, hY] at hs1
              have hs2 : enV p q b (j + 1) = (enS p q b (j + 1)).getD (⟨0, 1⟩, ⟨1, 1⟩) := rfl
              rw [hs1] at hs2
              simp only [Option.getD_some] at hs2
              refine hI0 _ _ (j + 1) (⟨hq, by rw [hs2]; exact hs1⟩) (by first | (show _ < _; omega) | (simp; omega)) ⟨rfl, ?_, ?_, ?_, ?_⟩ <;> simp [add_add, hs2]
            have hY : (if h1 < d1 ∧ Fr.less ⟨h1, d1⟩ s' = true then (⟨h1, d1⟩ : Fr) else s') = s' := by rw [if_neg]; simp [s16_1]
            refine Tr.seq (Tr.regionK fun K hK => ?_)
            simp (maxSteps := 1000000) [add_add, s16_0]
            refine .inl ⟨_, pcall_refLess ⟨h1, d1⟩ s' ⟨⟨by dsimp only; omega, by dsimp only; omega⟩, by dsimp only; omega, by dsimp only; omega⟩ hR2, rfl, ?_⟩
            simp (maxSteps := 1000000) [add_add, s16_1]
            refine hK _ ?_; clear hK K
            refine Tr.cond rfl rfl (fun hq11 => by first | (cases hq11; done) | (simp at hq11; done) | (simp_all; done)) (fun hq11 => ?_)
            refine Tr.skip ?_
            refine Tr.regionK fun K hK => ?_
            simp (maxSteps := 1000000) [add_add, w]
            refine hK _ ?_; clear hK K
            have hs1 : enS p q b (j + 1) = some (if 0 < l1 ∧ s.less ⟨l1, d1⟩ = true then (⟨l1, d1⟩ : Fr) else s, if h1 < d1 ∧ Fr.less ⟨h1, d1⟩ s' = true then (⟨h1, d1⟩ : Fr) else s') := by rw [hsu, hT]; unfold enStep; rw [if_neg (by omega)]
            rw [hX, hY] at hs1
            have hs2 : enV p q b (j + 1) = (enS p q b (j + 1)).getD (⟨0, 1⟩, ⟨1, 1⟩) := rfl
            rw [hs1] at hs2
            simp only [Option.getD_some] at hs2
            refine hI0 _ _ (j + 1) (⟨hq, by rw [hs2]; exact hs1⟩) (by first | (show _ < _; omega) | (simp; omega)) ⟨rfl, ?_, ?_, ?_, ?_⟩ <;> simp [add_add, hs2]
          have hY : (if h1 < d1 ∧ Fr.less ⟨h1, d1⟩ s' = true then (⟨h1, d1⟩ : Fr) else s') = s' := by rw [if_neg]; simp [s16_0]
          refine Tr.seq (Tr.regionK fun K hK => ?_)
          simp (maxSteps := 1000000) [add_add, s16_0]
          refine hK _ ?_; clear hK K
          refine Tr.cond rfl rfl (fun hq12 => by first | (cases hq12; done) | (simp at hq12; done) | (simp_all; done)) (fun hq12 => ?_)
          refine Tr.skip ?_
          refine Tr.regionK fun K hK => ?_
          simp (maxSteps := 1000000) [add_add, w]
          refine hK _ ?_; clear hK K
          have hs1 : enS p q b (j + 1) = some (if 0 < l1 ∧ s.less ⟨l1, d1⟩ = true then (⟨l1, d1⟩ : Fr) else s, if h1 < d1 ∧ Fr.less ⟨h1, d1⟩ s' = true then (⟨h1, d1⟩ : Fr) else s') := by rw [hsu, hT]; unfold enStep; rw [if_neg (by omega)]
          rw [hX, hY] at hs1
          have hs2 : enV p q b (j + 1) = (enS p q b (j + 1)).getD (⟨0, 1⟩, ⟨1, 1⟩) := rfl
          rw [hs1] at hs2
          simp only [Option.getD_some] at hs2
          refine hI0 _ _ (j + 1) (⟨hq, by rw [hs2]; exact hs1⟩) (by first | (show _ < _; omega) | (simp; omega)) ⟨rfl, ?_, ?_, ?_, ?_⟩ <;> simp [add_add, hs2]
        have hX : (if 0 < l1 ∧ s.less ⟨l1, d1⟩ = true then (⟨l1, d1⟩ : Fr) else s) = s := by rw [if_neg]; simp [s14_1]
        refine Tr.seq (Tr.regionK fun K hK => ?_)
        simp (maxSteps := 1000000) [add_add, s14_0]
        refine .inl ⟨_, pcall_refLess s ⟨l1, d1⟩ hR1 ⟨⟨by dsimp only; omega, by dsimp only; omega⟩, by dsimp only; omega, by dsimp only; omega⟩, rfl, ?_⟩
        simp (maxSteps := 1000000) [add_add, s14_1]
        refine hK _ ?_; clear hK K
        refine Tr.cond rfl rfl (fun hq13 => by first | (cases hq13; done) | (simp at hq13; done) | (simp_all; done)) (fun hq13 => ?_)
        refine Tr.skip ?_
        by_cases s16_0 : h1 < d1
        · have s16_0' := s16_0
          rcases Bool.eq_false_or_eq_true (Fr.less ⟨h1, d1⟩ s') with s16_1 | s16_1
          · have s16_1' := s16_1
            have hY : (if h1 < d1 ∧ Fr.less ⟨h1, d1⟩ s' = true then (⟨h1, d1⟩ : Fr) else s') = ⟨h1, d1⟩ := by rw [if_pos ⟨s16_0, s16_1⟩]
            refine Tr.seq (Tr.regionK fun K hK => ?_)
            simp (maxSteps := 1000000) [add_add, s16_0]
            refine .inl ⟨_, pcall_refLess ⟨h1, d1⟩ s' ⟨⟨by dsimp only; omega, by dsimp only; omega⟩, by dsimp only; omega, by dsimp only; omega⟩ hR2, rfl, ?_⟩
            simp (maxSteps := 1000000) [add_add, s16_1]
            refine hK _ ?_; clear hK K
            refine Tr.cond rfl rfl (fun hq14 => ?_) (fun hq14 => by first | (cases hq14; done) | (simp at hq14; done) | (simp_all; done))
            refine Tr.regionK fun K hK => ?_
            simp (maxSteps := 1000000) [add_add]
            refine hK _ ?_; clear hK K
            refine Tr.regionK fun K hK => ?_
            simp (maxSteps := 1000000) [add_add, w]
            refine hK _ ?_; clear hK K
            have hs1 : enS p q b (j + 1) = some (if 0 < l1 ∧ s.less ⟨l1, d1⟩ = true then (⟨l1, d1⟩ : Fr) else s, if h1 < d1 ∧ Fr.less ⟨h1, d1⟩ s' = true then (⟨h1, d1⟩ : Fr) else s') := by rw [hsu, hT]; unfold enStep; rw [if_neg (by omega)]
            rw [hX, hY] at hs1
            have hs2 : enV p q b (j + 1) = (enS p q b (j + 1)).getD (⟨0, 1⟩, ⟨1, 1⟩) := rfl
            rw [hs1] at hs2
            simp only [Option.getD_some] at hs2
            refine hI0 _ _ (j + 1) (⟨hq, by rw [hs2]; exact hs1⟩) (by first | (show _ < _; omega) | (simp; omega)) ⟨rfl, ?_, ?_, ?_, ?_⟩ <;> simp [add_add, hs2]
          have hY : (if h1 < d1 ∧ Fr.less ⟨h1, d1⟩ s' = true then (⟨h1, d1⟩ : Fr) else s') = s' := by rw [if_neg]; simp [s16_1]
          refine Tr.seq (Tr.regionK fun K hK => ?_)
          simp (maxSteps := 1000000) [add_add, s16_0]
          refine .inl ⟨_, pcall_refLess ⟨h1, d1⟩ s' ⟨⟨by dsimp only; omega, by dsimp only; omega⟩, by dsimp only; omega, by dsimp only; omega⟩ hR2, rfl, ?_⟩
          simp (maxSteps := 1000000) [add_add, s16_1]
          refine hK _ ?_; clear hK K
          refine Tr.cond rfl rfl (fun hq15 => by first | (cases hq15; done) | (simp at hq15; done) | (simp_all; done)) (fun hq15 => ?_)
          refine Tr.skip ?_
          refine Tr.regionK fun K hK => ?_
          simp (maxSteps := 1000000) [add_add, w]
          refine hK _ ?_; clear hK K
          have hs1 : enS p q b (j + 1) = some (if 0 < l1 ∧ s.less ⟨l1, d1⟩ = true then (⟨l1, d1⟩ : Fr) else s, if h1 < d1 ∧ Fr.less ⟨h1, d1⟩ s' = true then (⟨h1, d1⟩ : Fr) else s') := by rw [hsu, hT]; unfold enStep; rw [if_neg (by omega)]
          rw [hX, hY] at hs1
          have hs2 : enV p q b (j + 1) = (enS p q b (j + 1)).getD (⟨0, 1⟩, ⟨1, 1⟩) := rfl
          rw [hs1] at hs2
          simp only [Option.getD_some] at hs2
          refine hI0 _ _ (j + 1) (⟨hq, by rw [hs2]; exact hs1⟩) (by first | (show _ < _; omega) | (simp; omega)) ⟨rfl, ?_, ?_, ?_, ?_⟩ <;> simp [add_add, hs2]
        have hY : (if h1 < d1 ∧ Fr.less ⟨h1, d1⟩ s' = true then (⟨h1, d1⟩ : Fr) else s') = s' := by rw [if_neg]; simp [s16_0]
        refine Tr.seq (Tr.regionK fun K hK => ?_)
        simp (maxSteps := 1000000) [add_add, s16_0]
        refine hK _ ?_; clear hK K
        refine Tr.cond rfl rfl (fun hq16 => by first | (cases hq16; done) | (simp at hq16; done) | (simp_all; done)) (fun hq16 => ?_)
        refine Tr.skip ?_
        refine Tr.regionK fun K hK => ?_
        simp (maxSteps := 1000000) [add_add, w]
        refine hK _ ?_; clear hK K
        have hs1 : enS p q b (j + 1) = some (if 0 < l1 ∧ s.less ⟨l1, d1⟩ = true then (⟨l1, d1⟩ : Fr) else s, if h1 < d1 ∧ Fr.less ⟨h1, d1⟩ s' = true then (⟨h1, d1⟩ : Fr) else s') := by rw [hsu, hT]; unfold enStep; rw [if_neg (by omega)]
        rw [hX, hY] at hs1
        have hs2 : enV p q b (j + 1) = (enS p q b (j + 1)).getD (⟨0, 1⟩, ⟨1, 1⟩) := rfl
        rw [hs1] at hs2
        simp only [Option.getD_some] at hs2
        refine hI0 _ _ (j + 1) (⟨hq, by rw [hs2]; exact hs1⟩) (by first | (show _ < _; omega) | (simp; omega)) ⟨rfl, ?_, ?_, ?_, ?_⟩ <;> simp [add_add, hs2]
      have hX : (if 0 < l1 ∧ s.less ⟨l1, d1⟩ = true then (⟨l1, d1⟩ : Fr) else s) = s := by rw [if_neg]; simp [s14_0]
      refine Tr.seq (Tr.regionK fun K hK => ?_)
      simp (maxSteps := 1000000) [add_add, s14_0]
      refine hK _ ?_; clear hK K
      refine Tr.cond rfl rfl (fun hq17 => by first | (cases hq17; done) | (simp at hq17; done) | (simp_all; done)) (fun hq17 => ?_)
      refine Tr.skip ?_
      by_cases s16_0 : h1 < d1
      · have s16_0' := s16_0
        rcases Bool.eq_false_or_eq_true (Fr.less ⟨h1, d1⟩ s') with s16_1 | s16_1
        · have s16_1' := s16_1
          have hY : (if h1 < d1 ∧ Fr.less ⟨h1, d1⟩ s' = true then (⟨h1, d1⟩ : Fr) else s') = ⟨h1, d1⟩ := by rw [if_pos ⟨s16_0, s16_1⟩]
          refine Tr.seq (Tr.regionK fun K hK => ?_)
          simp (maxSteps := 1000000) [add_add, s16_0]
          refine .inl ⟨_, pcall_refLess ⟨h1, d1⟩ s' ⟨⟨by dsimp only; omega, by dsimp only; omega⟩, by dsimp only; omega, by dsimp only; omega⟩ hR2, rfl, ?_⟩
          simp (maxSteps := 1000000) [add_add, s16_1]
          refine hK _ ?_; clear hK K
          refine Tr.cond rfl rfl (fun hq18 => ?_) (fun hq18 => by first | (cases hq18; done) | (simp at hq18; done) | (simp_all; done))
          refine Tr.regionK fun K hK => ?_
          simp (maxSteps := 1000000) [add_add]
          refine hK _ ?_; clear hK K
          refine Tr.regionK fun K hK => ?_
          simp (maxSteps := 1000000) [add_add, w]
          refine hK _ ?_; clear hK K
          have hs1 : enS p q b (j + 1) = some (if 0 < l1 ∧ s.less ⟨l1, d1⟩ = true then (⟨l1, d1⟩ : Fr) else s, if h1 < d1 ∧ Fr.less ⟨h1, d1⟩ s' = true then (⟨h1, d1⟩ : Fr) else s') := by rw [hsu, hT]; unfold enStep; rw [if_neg (by omega)]
          rw [hX, hY] at hs1
          have hs2 : enV p q b (j + 1) = (enS p q b (j + 1)).getD (⟨0, 1⟩, ⟨1, 1⟩) := rfl
          rw [hs1] at hs2
          simp only [Option.getD_some] at hs2
          refine hI0 _ _ (j + 1) (⟨hq, by rw [hs2]; exact hs1⟩) (by first | (show _ < _; omega) | (simp; omega)) ⟨rfl, ?_, ?_, ?_, ?_⟩ <;> simp [add_add, hs2]
        have hY : (if h1 < d1 ∧ Fr.less ⟨h1, d1⟩ s' = true then (⟨h1, d1⟩ : Fr) else s') = s' := by rw [if_neg]; simp [s16_1]
        refine Tr.seq (Tr.regionK fun K hK => ?_)
        simp (maxSteps := 1000000) [add_add, s16_0]
        refine .inl ⟨_, pcall_refLess ⟨h1, d1⟩ s' ⟨⟨by dsimp only; omega, by dsimp only; omega⟩, by dsimp only; omega, by dsimp only; omega⟩ hR2, rfl, ?_⟩
        simp (maxSteps := 1000000) [add_add, s16_1]
        refine hK _ ?_; clear hK K
        refine Tr.cond rfl rfl (fun hq19 => by first | (cases hq19; done) | (simp at hq19; done) | (simp_all; done)) (fun hq19 => ?_)
        refine Tr.skip ?_
        refine Tr.regionK fun K hK => ?_
        simp (maxSteps := 1000000) [add_add, w]
        refine hK _ ?_; clear hK K
        have hs1 : enS p q b (j + 1) = some (if 0 < l1 ∧ s.less ⟨l1, d1⟩ = true then (⟨l1, d1⟩ : Fr) else s, if h1 < d1 ∧ Fr.less ⟨h1, d1⟩ s' = true then (⟨h1, d1⟩ : Fr) else s') := by rw [hsu, hT]; unfold enStep; rw [if_neg (by omega)]
        rw [hX, hY] at hs1
        have hs2 : enV p q b (j + 1) = (enS p q b (j + 1)).getD (⟨0, 1⟩, ⟨1, 1⟩) := rfl
        rw [hs1] at hs2
        simp only [Option.getD_some] at hs2
        refine hI0 _ _ (j + 1) (⟨hq, by rw [hs2]; exact hs1⟩) (by first | (show _ < _; omega) | (simp; omega)) ⟨rfl, ?_, ?_, ?_, ?_⟩ <;> simp [add_add, hs2]
      have hY : (if h1 < d1 ∧ Fr.less ⟨h1, d1⟩ s' = true then (⟨h1, d1⟩ : Fr) else s') = s' := by rw [if_neg]; simp [s16_0]
      refine Tr.seq (Tr.regionK fun K hK => ?_)
      simp (maxSteps := 1000000) [add_add, s16_0]
      refine hK _ ?_; clear hK K
      refine Tr.cond rfl rfl (fun hq20 => by first | (cases hq20; done) | (simp at hq20; done) | (simp_all; done)) (fun hq20 => ?_)
      refine Tr.skip ?_
      refine Tr.regionK fun K hK => ?_
      simp (maxSteps := 1000000) [add_add, w]
      refine hK _ ?_; clear hK K
      have hs1 : enS p q b (j + 1) = some (if 0 < l1 ∧ s.less ⟨l1, d1⟩ = true then (⟨l1, d1⟩ : Fr) else s, if h1 < d1 ∧ Fr.less ⟨h1, d1⟩ s' = true then (⟨h1, d1⟩ : Fr) else s') := by rw [hsu, hT]; unfold enStep; rw [if_neg (by omega)]
      rw [hX, hY] at hs1
      have hs2 : enV p q b (j + 1) = (enS p q b (j + 1)).getD (⟨0, 1⟩, ⟨1, 1⟩) := rfl
      rw [hs1] at hs2
      simp only [Option.getD_some] at hs2
      refine hI0 _ _ (j + 1) (⟨hq, by rw [hs2]; exact hs1⟩) (by first | (show _ < _; omega) | (simp; omega)) ⟨rfl, ?_, ?_, ?_, ?_⟩ <;> simp [add_add, hs2]
    simp at hqn
    obtain ⟨d1, hd1⟩ : ∃ d1, d = d1 := ⟨_, rfl⟩
    obtain ⟨l1, hl1⟩ : ∃ l1, lo = l1 := ⟨_, rfl⟩
    obtain ⟨h1, hh1⟩ : ∃ h1, hi = h1 := ⟨_, rfl⟩
    have hT : enTurn a c x (s, s') = enStep d1 l1 h1 (s, s') := by unfold enTurn; rw [hd, if_neg (by omega), if_neg (by omega), hlo, hhi, hd1, hl1, hh1]
    have wd1 : IntKind.i64.wrap d1 = d1 := wrapIn (by omega) (by omega)
    have wl1 : IntKind.i64.wrap l1 = l1 := wrapIn (by omega) (by omega)
    have wh1 : IntKind.i64.wrap h1 = h1 := wrapIn (by omega) (by omega)
    refine Tr.skip ?_
    refine Tr.seq ?_
    by_cases s12_0 : d1 < l1
    · have s12_0' := s12_0
      have hf : enterR p q b = (⟨0, 0⟩, false) := enterR_none (j := j + 1) hq (by rw [hsu]; rw [hT]; unfold enStep; rw [if_pos (by omega)])
      refine Tr.seq (Tr.regionK fun K hK => ?_)
      simp (maxSteps := 1000000) [add_add, hd1, hl1, hh1, s12_0]
      refine hK _ ?_; clear hK K
      refine Tr.cond rfl rfl (fun hq21 => ?_) (fun hq21 => by first | (cases hq21; done) | (simp at hq21; done) | (simp_all; done))
      refine Tr.seq (Tr.regionK fun K hK => ?_)
      simp (maxSteps := 1000000) [add_add]
      refine hK _ ?_; clear hK K
      refine Tr.ret ⟨.inr rfl, ?_, ?_, ?_, ?_⟩ <;> simp [Try.f109, hf]
    by_cases s12_1 : h1 < 0
    · have s12_1' := s12_1
      have hf : enterR p q b = (⟨0, 0⟩, false) := enterR_none (j := j + 1) hq (by rw [hsu]; rw [hT]; unfold enStep; rw [if_pos (by omega)])
      refine Tr.seq (Tr.regionK fun K hK => ?_)
      simp (maxSteps := 1000000) [add_add, hd1, hl1, hh1, s12_0, s12_1]
      refine hK _ ?_; clear hK K
      refine Tr.cond rfl rfl (fun hq22 => ?_) (fun hq22 => by first | (cases hq22; done) | (simp at hq22; done) | (simp_all; done))
      refine Tr.seq (Tr.regionK fun K hK => ?_)
      simp (maxSteps := 1000000) [add_add]
      refine hK _ ?_; clear hK K
      refine Tr.ret ⟨.inr rfl, ?_, ?_, ?_, ?_⟩ <;> simp [Try.f109, hf]
    refine Tr.seq (Tr.regionK fun K hK => ?_)
    simp (maxSteps := 1000000) [add_add, hd1, hl1, hh1, s12_0, s12_1]
    refine hK _ ?_; clear hK K
    refine Tr.cond rfl rfl (fun hq23 => by first | (cases hq23; done) | (simp at hq23; done) | (simp_all; done)) (fun hq23 => ?_)
    refine Tr.skip ?_
    refine Tr.seq ?_
    by_cases s14_0 : 0 < l1
    · have s14_0' := s14_0
      rcases Bool.eq_false_or_eq_true (s.less ⟨l1, d1⟩) with s14_1 | s14_1
      · have s14_1' := s14_1
        have hX : (if 0 < l1 ∧ s.less ⟨l1, d1⟩ = true then (⟨l1, d1⟩ : Fr) else s) = ⟨l1, d1⟩ := by rw [if_pos ⟨s14_0, s14_1⟩]
        refine Tr.seq (Tr.regionK fun K hK => ?_)
        simp (maxSteps := 1000000) [add_add, s14_0]
        refine .inl ⟨_, pcall_refLess s ⟨l1, d1⟩ hR1 ⟨⟨by dsimp only; omega, by dsimp only; omega⟩, by dsimp only; omega, by dsimp only; omega⟩, rfl, ?_⟩
        simp (maxSteps := 1000000) [add_add, s14_1]
        refine hK _ ?_; clear hK K
        refine Tr.cond rfl rfl (fun hq24 => ?_) (fun hq24 => by first | (cases hq24; done) | (simp at hq24; done) | (simp_all; done))
        refine Tr.regionK fun K hK => ?_
        simp (maxSteps := 1000000) [add_add]
        refine hK _ ?_; clear hK K
        by_cases s16_0 : h1 < d1
        · have s16_0' := s16_0
          rcases Bool.eq_false_or_eq_true (Fr.less ⟨h1, d1⟩ s') with s16_1 | s16_1
          · have s16_1' := s16_1
            have hY : (if h1 < d1 ∧ Fr.less ⟨h1, d1⟩ s' = true then (⟨h1, d1⟩ : Fr) else s') = ⟨h1, d1⟩ := by rw [if_pos ⟨s16_0, s16_1⟩]
            refine Tr.seq (Tr.regionK fun K hK => ?_)
            simp (maxSteps := 1000000) [add_add, s16_0]
            refine .inl ⟨_, pcall_refLess ⟨h1, d1⟩ s' ⟨⟨by dsimp only; omega, by dsimp only; omega⟩, by dsimp only; omega, by dsimp only; omega⟩ hR2, rfl, ?_⟩
            simp (maxSteps := 1000000) [add_add, s16_1]
            refine hK _ ?_; clear hK K
            refine Tr.cond rfl rfl (fun hq25 => ?_) (fun hq25 => by first | (cases hq25; done) | (simp at hq25; done) | (simp_all; done))
            refine Tr.regionK fun K hK => ?_
            simp (maxSteps := 1000000) [add_add]
            refine hK _ ?_; clear hK K
            refine Tr.regionK fun K hK => ?_
            simp (maxSteps := 1000000) [add_add, w]
            refine hK _ ?_; clear hK K
            have hs1 : enS p q b (j + 1) = some (if 0 < l1 ∧ s.less ⟨l1, d1⟩ = true then (⟨l1, d1⟩ : Fr) else s, if h1 < d1 ∧ Fr.less ⟨h1, d1⟩ s' = true then (⟨h1, d1⟩ : Fr) else s') := by rw [hsu, hT]; unfold enStep; rw [if_neg (by omega)]
            rw [hX, hY] at hs1
            have hs2 : enV p q b (j + 1) = (enS p q b (j + 1)).getD (⟨0, 1⟩, ⟨1, 1⟩) := rfl
            rw [hs1] at hs2
            simp only [Option.getD_some] at hs2
            refine hI0 _ _ (j + 1) (⟨hq, by rw [hs2]; exact hs1⟩) (by first | (show _ < _; omega) | (simp; omega)) ⟨rfl, ?_, ?_, ?_, ?_⟩ <;> simp [add_add, hs2]
          have hY : (if h1 < d1 ∧ Fr.less ⟨h1, d1⟩ s' = true then (⟨h1, d1⟩ : Fr) else s') = s' := by rw [if_neg]; simp [s16_1]
          refine Tr.seq (Tr.regionK fun K hK => ?_)
          simp (maxSteps := 1000000) [add_add, s16_0]
          refine .inl ⟨_, pcall_refLess ⟨h1, d1⟩ s' ⟨⟨by dsimp only; omega, by dsimp only; omega⟩, by dsimp only; omega, by dsimp only; omega⟩ hR2, rfl, ?_⟩
          simp (maxSteps := 1000000) [add_add, s16_1]
          refine hK _ ?_; clear hK K
          refine Tr.cond rfl rfl (fun hq26 => by first | (cases hq26; done) | (simp at hq26; done) | (simp_all; done)) (fun hq26 => ?_)
          refine Tr.skip ?_
          refine Tr.regionK fun K hK => ?_
          simp (maxSteps := 1000000) [add_add, w]
          refine hK _ ?_; clear hK K
          have hs1 : enS p q b (j + 1) = some (if 0 < l1 ∧ s.less ⟨l1, d1⟩ = true then (⟨l1, d1⟩ : Fr) else s, if h1 < d1 ∧ Fr.less ⟨h1, d1⟩ s' = true then (⟨h1, d1⟩ : Fr) else s') := by rw [hsu, hT]; unfold enStep; rw [if_neg (by omega)]
          rw [hX, hY] at hs1
          have hs2 : enV p q b (j + 1) = (enS p q b (j + 1)).getD (⟨0, 1⟩, ⟨1, 1⟩) := rfl
          rw [hs1] at hs2
          simp only [Option.getD_some] at hs2
          refine hI0 _ _ (j + 1) (⟨hq, by rw [hs2]; exact hs1⟩) (by first | (show _ < _; omega) | (simp; omega)) ⟨rfl, ?_, ?_, ?_, ?_⟩ <;> simp [add_add, hs2]
        have hY : (if h1 < d1 ∧ Fr.less ⟨h1, d1⟩ s' = true then (⟨h1, d1⟩ : Fr) else s') = s' := by rw [if_neg]; simp [s16_0]
        refine Tr.seq (Tr.regionK fun K hK => ?_)
        simp (maxSteps := 1000000) [add_add, s16_0]
        refine hK _ ?_; clear hK K
        refine Tr.cond rfl rfl (fun hq27 => by first | (cases hq27; done) | (simp at hq27; done) | (simp_all; done)) (fun hq27 => ?_)
        refine Tr.skip ?_
        refine Tr.regionK fun K hK => ?_
        simp (maxSteps := 1000000) [add_add, w]
        refine hK _ ?_; clear hK K
        have hs1 : enS p q b (j + 1) = some (if 0 < l1 ∧ s.less ⟨l1, d1⟩ = true then (⟨l1, d1⟩ : Fr) else s, if h1 < d1 ∧ Fr.less ⟨h1, d1⟩ s' = true then (⟨h1, d1⟩ : Fr) else s') := by rw [hsu, hT]; unfold enStep; rw [if_neg (by omega)]
        rw [hX, hY] at hs1
        have hs2 : enV p q b (j + 1) = (enS p q b (j + 1)).getD (⟨0, 1⟩, ⟨1, 1⟩) := rfl
        rw [hs1] at hs2
        simp only [Option.getD_some] at hs2
        refine hI0 _ _ (j + 1) (⟨hq, by rw [hs2]; exact hs1⟩) (by first | (show _ < _; omega) | (simp; omega)) ⟨rfl, ?_, ?_, ?_, ?_⟩ <;> simp [add_add, hs2]
      have hX : (if 0 < l1 ∧ s.less ⟨l1, d1⟩ = true then (⟨l1, d1⟩ : Fr) else s) = s := by rw [if_neg]; simp [s14_1]
      refine Tr.seq (Tr.regionK fun K hK => ?_)
      simp (maxSteps := 1000000) [add_add, s14_0]
      refine .inl ⟨_, pcall_refLess s ⟨l1, d1⟩ hR1 ⟨⟨by dsimp only; omega, by dsimp only; omega⟩, by dsimp only; omega, by dsimp only; omega⟩, rfl, ?_⟩
      simp (maxSteps := 1000000) [add_add, s14_1]
      refine hK _ ?_; clear hK K
      refine Tr.cond rfl rfl (fun hq28 => by first | (cases hq28; done) | (simp at hq28; done) | (simp_all; done)) (fun hq28 => ?_)
      refine Tr.skip ?_
      by_cases s16_0 : h1 < d1
      · have s16_0' := s16_0
        rcases Bool.eq_false_or_eq_true (Fr.less ⟨h1, d1⟩ s') with s16_1 | s16_1
        · have s16_1' := s16_1
          have hY : (if h1 < d1 ∧ Fr.less ⟨h1, d1⟩ s' = true then (⟨h1, d1⟩ : Fr) else s') = ⟨h1, d1⟩ := by rw [if_pos ⟨s16_0, s16_1⟩]
          refine Tr.seq (Tr.regionK fun K hK => ?_)
          simp (maxSteps := 1000000) [add_add, s16_0]
          refine .inl ⟨_, pcall_refLess ⟨h1, d1⟩ s' ⟨⟨by dsimp only; omega, by dsimp only; omega⟩, by dsimp only; omega, by dsimp only; omega⟩ hR2, rfl, ?_⟩
          simp (maxSteps := 1000000) [add_add, s16_1]
          refine hK _ ?_; clear hK K
          refine Tr.cond rfl rfl (fun hq29 => ?_) (fun hq29 => by first | (cases hq29; done) | (simp at hq29; done) | (simp_all; done))
          refine Tr.regionK fun K hK => ?_
          simp (maxSteps := 1000000) [add_add]
          refine hK _ ?_; clear hK K
          refine Tr.regionK fun K hK => ?_
          simp (maxSteps := 1000000) [add_add, w]
          refine hK _ ?_; clear hK K
          have hs1 : enS p q b (j + 1) = some (if 0 < l1 ∧ s.less ⟨l1, d1⟩ = true then (⟨l1, d1⟩ : Fr) else s, if h1 < d1 ∧ Fr.less ⟨h1, d1⟩ s' = true then (⟨h1, d1⟩ : Fr) else s') := by rw [hsu, hT]; unfold enStep; rw [if_neg (by omega)]
          rw [hX, hY] at hs1
          have hs2 : enV p q b (j + 1) = (enS p q b (j + 1)).getD (⟨0, 1⟩, ⟨1, 1⟩) := rfl
          rw [hs1] at hs2
          simp only [Option.getD_some] at hs2
          refine hI0 _ _ (j + 1) (⟨hq, by rw [hs2]; exact hs1⟩) (by first | (show _ < _; omega) | (simp; omega)) ⟨rfl, ?_, ?_, ?_, ?_⟩ <;> simp [add_add, hs2]
        have hY : (if h1 < d1 ∧ Fr.less ⟨h1, d1⟩ s' = true then (⟨h1, d1⟩ : Fr) else s') = s' := by rw [if_neg]; simp [s16_1]
        refine Tr.seq (Tr.regionK fun K hK => ?_)
        simp (maxSteps := 1000000) [add_add, s16_0]
        refine .inl ⟨_, pcall_refLess ⟨h1, d1⟩ s' ⟨⟨by dsimp only; omega, by dsimp only; omega⟩, by dsimp only; omega, by dsimp only; omega⟩ hR2, rfl, ?_⟩
        simp (maxSteps := 1000000) [add_add, s16_1]
        refine hK _ ?_; clear hK K
        refine Tr.cond rfl rfl (fun hq30 => by first | (cases hq30; done) | (simp at hq30; done) | (simp_all; done)) (fun hq30 => ?_)
        refine Tr.skip ?_
        refine Tr.regionK fun K hK => ?_
        simp (maxSteps := 1000000) [add_add, w]
        refine hK _ ?_; clear hK K
        have hs1 : enS p q b (j + 1) = some (if 0 < l1 ∧ s.less ⟨l1, d1⟩ = true then (⟨l1, d1⟩ : Fr) else s, if h1 < d1 ∧ Fr.less ⟨h1, d1⟩ s' = true then (⟨h1, d1⟩ : Fr) else s') := by rw [hsu, hT]; unfold enStep; rw [if_neg (by omega)]
        rw [hX, hY] at hs1
        have hs2 : enV p q b (j + 1) = (enS p q b (j + 1)).getD (⟨0, 1⟩, ⟨1, 1⟩) := rfl
        rw [hs1] at hs2
        simp only [Option.getD_some] at hs2
        refine hI0 _ _ (j + 1) (⟨hq, by rw [hs2]; exact hs1⟩) (by first | (show _ < _; omega) | (simp; omega)) ⟨rfl, ?_, ?_, ?_, ?_⟩ <;> simp [add_add, hs2]
      have hY : (if h1 < d1 ∧ Fr.less ⟨h1, d1⟩ s' = true then (⟨h1, d1⟩ : Fr) else s') = s' := by rw [if_neg]; simp [s16_0]
      refine Tr.seq (Tr.regionK fun K hK => ?_)
      simp (maxSteps := 1000000) [add_add, s16_0]
      refine hK _ ?_; clear hK K
      refine Tr.cond rfl rfl (fun hq31 => by first | (cases hq31; done) | (simp at hq31; done) | (simp_all; done)) (fun hq31 => ?_)
      refine Tr.skip ?_
      refine Tr.regionK fun K hK => ?_
      simp (maxSteps := 1000000) [add_add, w]
      refine hK _ ?_; clear hK K
      have hs1 : enS p q b (j + 1) = some (if 0 < l1 ∧ s.less ⟨l1, d1⟩ = true then (⟨l1, d1⟩ : Fr) else s, if h1 < d1 ∧ Fr.less ⟨h1, d1⟩ s' = true then (⟨h1, d1⟩ : Fr) else s') := by rw [hsu, hT]; unfold enStep; rw [if_neg (by omega)]
      rw [hX, hY] at hs1
      have hs2 : enV p q b (j + 1) = (enS p q b (j + 1)).getD (⟨0, 1⟩, ⟨1, 1⟩) := rfl
      rw [hs1] at hs2
      simp only [Option.getD_some] at hs2
      refine hI0 _ _ (j + 1) (⟨hq, by rw [hs2]; exact hs1⟩) (by first | (show _ < _; omega) | (simp; omega)) ⟨rfl, ?_, ?_, ?_, ?_⟩ <;> simp [add_add, hs2]
    have hX : (if 0 < l1 ∧ s.less ⟨l1, d1⟩ = true then (⟨l1, d1⟩ : Fr) else s) = s := by rw [if_neg]; simp [s14_0]
    refine Tr.seq (Tr.regionK fun K hK => ?_)
    simp (maxSteps := 1000000) [add_add, s14_0]
    refine hK _ ?_; clear hK K
    refine Tr.cond rfl rfl (fun hq32 => by first | (cases hq32; done) | (simp at hq32; done) | (simp_all; done)) (fun hq32 => ?_)
    refine Tr.skip ?_
    by_cases s16_0 : h1 < d1
    · have s16_0' := s16_0
      rcases Bool.eq_false_or_eq_true (Fr.less ⟨h1, d1⟩ s') with s16_1 | s16_1
      · have s16_1' := s16_1
        have hY : (if h1 < d1 ∧ Fr.less ⟨h1, d1⟩ s' = true then (⟨h1, d1⟩ : Fr) else s') = ⟨h1, d1⟩ := by rw [if_pos ⟨s16_0, s16_1⟩]
        refine Tr.seq (Tr.regionK fun K hK => ?_)
        simp (maxSteps := 1000000) [add_add, s16_0]
        refine .inl ⟨_, pcall_refLess ⟨h1, d1⟩ s' ⟨⟨by dsimp only; omega, by dsimp only; omega⟩, by dsimp only; omega, by dsimp only; omega⟩ hR2, rfl, ?_⟩
        simp (maxSteps := 1000000) [add_add, s16_1]
        refine hK _ ?_; clear hK K
        refine Tr.cond rfl rfl (fun hq33 => ?_) (fun hq33 => by first | (cases hq33; done) | (simp at hq33; done) | (simp_all; done))
        refine Tr.regionK fun K hK => ?_
        simp (maxSteps := 1000000) [add_add]
        refine hK _ ?_; clear hK K
        refine Tr.regionK fun K hK => ?_
        simp (maxSteps := 1000000) [add_add, w]
        refine hK _ ?_; clear hK K
        have hs1 : enS p q b (j + 1) = some (if 0 < l1 ∧ s.less ⟨l1, d1⟩ = true then (⟨l1, d1⟩ : Fr) else s, if h1 < d1 ∧ Fr.less ⟨h1, d1⟩ s' = true then (⟨h1, d1⟩ : Fr) else s') := by rw [hsu, hT]; unfold enStep; rw [if_neg (by omega)]
        rw [hX, hY] at hs1
        have hs2 : enV p q b (j + 1) = (enS p q b (j + 1)).getD (⟨0, 1⟩, ⟨1, 1⟩) := rfl
        rw [hs1] at hs2
        simp only [Option.getD_some] at hs2
        refine hI0 _ _ (j + 1) (⟨hq, by rw [hs2]; exact hs1⟩) (by first | (show _ < _; omega) | (simp; omega)) ⟨rfl, ?_, ?_, ?_, ?_⟩ <;> simp [add_add, hs2]
      have hY : (if h1 < d1 ∧ Fr.less ⟨h1, d1⟩ s' = true then (⟨h1, d1⟩ : Fr) else s') = s' := by rw [if_neg]; simp [s16_1]
      refine Tr.seq (Tr.regionK fun K hK => ?_)
      simp (maxSteps := 1000000) [add_add, s16_0]
      refine .inl ⟨_, pcall_refLess ⟨h1, d1⟩ s' ⟨⟨by dsimp only; omega, by dsimp only; omega⟩, by dsimp only; omega, by dsimp only; omega⟩ hR2, rfl, ?_⟩
      simp (maxSteps := 1000000) [add_add, s16_1]
      refine hK _ ?_; clear hK K
      refine Tr.cond rfl rfl (fun hq34 => by first | (cases hq34; done) | (simp at hq34; done) | (simp_all; done)) (fun hq34 => ?_)
      refine Tr.skip ?_
      refine Tr.regionK fun K hK => ?_
      simp (maxSteps := 1000000) [add_add, w]
      refine hK _ ?_; clear hK K
      have hs1 : enS p q b (j + 1) = some (if 0 < l1 ∧ s.less ⟨l1, d1⟩ = true then (⟨l1, d1⟩ : Fr) else s, if h1 < d1 ∧ Fr.less ⟨h1, d1⟩ s' = true then (⟨h1, d1⟩ : Fr) else s') := by rw [hsu, hT]; unfold enStep; rw [if_neg (by omega)]
      rw [hX, hY] at hs1
      have hs2 : enV p q b (j + 1) = (enS p q b (j + 1)).getD (⟨0, 1⟩, ⟨1, 1⟩) := rfl
      rw [hs1] at hs2
      simp only [Option.getD_some] at hs2
      refine hI0 _ _ (j + 1) (⟨hq, by rw [hs2]; exact hs1⟩) (by first | (show _ < _; omega) | (simp; omega)) ⟨rfl, ?_, ?_, ?_, ?_⟩ <;> simp [add_add, hs2]
    have hY : (if h1 < d1 ∧ Fr.less ⟨h1, d1⟩ s' = true then (⟨h1, d1⟩ : Fr) else s') = s' := by rw [if_neg]; simp [s16_0]
    refine Tr.seq (Tr.regionK fun K hK => ?_)
    simp (maxSteps := 1000000) [add_add, s16_0]
    refine hK _ ?_; clear hK K
    refine Tr.cond rfl rfl (fun hq35 => by first | (cases hq35; done) | (simp at hq35; done) | (simp_all; done)) (fun hq35 => ?_)
    refine Tr.skip ?_
    refine Tr.regionK fun K hK => ?_
    simp (maxSteps := 1000000) [add_add, w]
    refine hK _ ?_; clear hK K
    have hs1 : enS p q b (j + 1) = some (if 0 < l1 ∧ s.less ⟨l1, d1⟩ = true then (⟨l1, d1⟩ : Fr) else s, if h1 < d1 ∧ Fr.less ⟨h1, d1⟩ s' = true then (⟨h1, d1⟩ : Fr) else s') := by rw [hsu, hT]; unfold enStep; rw [if_neg (by omega)]
    rw [hX, hY] at hs1
    have hs2 : enV p q b (j + 1) = (enS p q b (j + 1)).getD (⟨0, 1⟩, ⟨1, 1⟩) := rfl
    rw [hs1] at hs2
    simp only [Option.getD_some] at hs2
    refine hI0 _ _ (j + 1) (⟨hq, by rw [hs2]; exact hs1⟩) (by first | (show _ < _; omega) | (simp; omega)) ⟨rfl, ?_, ?_, ?_, ?_⟩ <;> simp [add_add, hs2]
  simp at hq
  refine Tr.exit (exit_s (exit_s (exit_b ?_)))
  have hjb : j = b.length := by omega
  have hf : enterR p q b = (s, !(s'.less s)) := by unfold enterR; rw [← hjb, hes]
  refine Tr.seq (Tr.regionE mixed (by kernel_rfl) fun K hK => ?_)
  simp (maxSteps := 1000000) [add_add]
  refine .inl ⟨_, pcall_refLess s' s hR2 hR1, rfl, ?_⟩
  simp (maxSteps := 1000000) [Region.binds]
  refine hK _ ?_; clear hK K
  refine Tr.ret ⟨.inr rfl, ?_, ?_, ?_, ?_⟩ <;> simp [Try.f109, hf]
end Go.Proofs.Ytmljpbhmdjpbaaa
namespace Go.Proofs.Ytmljpbhmdjpbaaa
set_option linter.unusedVariables false
set_option linter.unusedSimpArgs false
open Go.PM

/-- A pair from which no way leads back: the first instant is past the end. -/
structure Late (s : Fr × Fr) : Prop where
  a : s.1.den < s.1.num
  b : s.2.num ≤ s.2.den
  c : 0 < s.1.den
  d : 0 < s.2.den
structure Good (s : Fr × Fr) : Prop where
  b : s.2.num ≤ s.2.den
  c : 0 < s.1.den
  d : 0 < s.2.den
theorem Late.good {s : Fr × Fr} (h : Late s) : Good s := ⟨h.b, h.c, h.d⟩

theorem Late.ends {s : Fr × Fr} (h : Late s) : s.2.less s.1 = true := by
  unfold Fr.less
  rw [decide_eq_true_eq]
  have h1 := Int.mul_le_mul_of_nonneg_right h.b (Int.le_of_lt h.c)
  have h2 := Int.mul_lt_mul_of_pos_left h.a h.d
  rw [Int.mul_comm s.1.num]
  omega
/-- What is greater than what is past the end is past the end. -/
theorem less_late {f g : Fr} (h : f.den < f.num) (hf : 0 < f.den) (hg : 0 < g.den) (hl : f.less g = true) : g.den < g.num := by
  unfold Fr.less at hl
  rw [decide_eq_true_eq] at hl
  rcases Int.lt_or_le g.den g.num with h1 | h1
  · exact h1
  · have h2 := Int.mul_le_mul_of_nonneg_right h1 (Int.le_of_lt hf)
    have h3 := Int.mul_lt_mul_of_pos_left h hg
    rw [Int.mul_comm f.num] at hl
    omega
theorem less_one {f g : Fr} (h : g.num ≤ g.den) (hf : 0 < f.den) (hg : 0 < g.den) (hl : f.less g = true) : f.num < f.den := by
  unfold Fr.less at hl
  rw [decide_eq_true_eq] at hl
  rcases Int.lt_or_le f.num f.den with h1 | h1
  · exact h1
  · have h2 := Int.mul_le_mul_of_nonneg_right h (Int.le_of_lt hf)
    have h3 := Int.mul_le_mul_of_nonneg_right h1 (Int.le_of_lt hg)
    rw [Int.mul_comm g.den] at h2
    omega
theorem one_less {f g : Fr} (h : g.den < g.num) (hl : f.num ≤ f.den) (hf : 0 < f.den) (hg : 0 < g.den) : f.less g = true := by
  unfold Fr.less
  rw [decide_eq_true_eq]
  have h1 := Int.mul_le_mul_of_nonneg_right hl (Int.le_of_lt hg)
  have h2 := Int.mul_lt_mul_of_pos_left h hf
  rw [Int.mul_comm g.num]
  omega

theorem entStep_good {d lo hi : Int} {s s' : Fr × Fr} (hd : 0 ≤ d) (h : entStep d lo hi s = some s') (g : Good s) : Good s' := by
  unfold entStep at h
  split at h
  · cases h
  split at h
  · cases h; exact g
  · rename_i hn hd0
    cases h
    refine ⟨?_, ?_, ?_⟩
    · dsimp only
      split
      · rename_i hl
        have := less_one (f := ⟨hi, d⟩) g.b (by dsimp only; omega) g.d hl
        exact Int.le_of_lt this
      · exact g.b
    · dsimp only
      split
      · dsimp only; omega
      · exact g.c
    · dsimp only
      split
      · dsimp only; omega
      · exact g.d
theorem entStep_late {d lo hi : Int} {s s' : Fr × Fr} (hd : 0 ≤ d) (h : entStep d lo hi s = some s') (g : Late s) : Late s' := by
  have hg := entStep_good hd h g.good
  refine ⟨?_, hg.b, hg.c, hg.d⟩
  unfold entStep at h
  split at h
  · cases h
  split at h
  · cases h; exact g.a
  · rename_i hn hd0
    cases h
    dsimp only
    split
    · rename_i hl
      exact less_late g.a g.c (by dsimp only; omega) hl.2
    · exact g.a
/-- One joint: the same, or neither comes to anything. -/
theorem step_same {d lo hi : Int} {s : Fr × Fr} (hd : 0 < d) (g : Good s) : entStep d lo hi s = enStep d lo hi s ∨ (enStep d lo hi s = none ∧ ∀ s', entStep d lo hi s = some s' → Late s') := by
  by_cases h1 : hi < 0
  · refine .inl ?_
    unfold entStep enStep
    rw [if_pos (.inl h1), if_pos (.inr h1)]
  · by_cases h2 : d < lo
    · refine .inr ⟨by unfold enStep; rw [if_pos (.inl h2)], fun s' h => ?_⟩
      have hg := entStep_good (Int.le_of_lt hd) h g
      refine ⟨?_, hg.b, hg.c, hg.d⟩
      unfold entStep at h
      rw [if_neg (by omega), if_neg (by omega)] at h
      cases h
      dsimp only
      split
      · exact h2
      · rename_i hl
        rcases Int.lt_or_le s.1.den s.1.num with h3 | h3
        · exact h3
        · exact absurd ⟨by omega, one_less (g := ⟨lo, d⟩) h2 h3 g.c hd⟩ hl
    · refine .inl ?_
      unfold entStep enStep
      rw [if_neg (show ¬ (hi < 0 ∨ (d = 0 ∧ 0 < lo)) by omega), if_neg (show ¬ d = 0 by omega), if_neg (show ¬ (d < lo ∨ hi < 0) by omega)]
      congr 2
      by_cases hl : Fr.less ⟨hi, d⟩ s.2 = true
      · have := less_one (f := ⟨hi, d⟩) g.b hd g.d hl
        rw [if_pos hl, if_pos ⟨this, hl⟩]
      · rw [if_neg hl, if_neg (fun h => hl h.2)]
theorem turn_same {a c : Int} {x : Iv} {s : Fr × Fr} (g : Good s) : entTurn a c x s = enTurn a c x s ∨ (enTurn a c x s = none ∧ ∀ s', entTurn a c x s = some s' → Late s') := by
  unfold entTurn enTurn
  rcases Int.lt_trichotomy (c - a) 0 with h | h | h
  · rw [if_pos h, if_neg (show ¬ c - a = 0 by omega), if_pos h, show -(x.hi - a) = a - x.hi by omega, show -(x.lo - a) = a - x.lo by omega]
    exact step_same (by omega) g
  · refine .inl ?_
    rw [if_neg (show ¬ c - a < 0 by omega), if_pos h]
    unfold entStep
    by_cases hb : a < x.lo ∨ x.hi < a
    · rw [if_pos hb, if_pos (by omega)]
    · rw [if_neg hb, if_neg (show ¬ (x.hi - a < 0 ∨ (c - a = 0 ∧ 0 < x.lo - a)) by omega), if_pos h]
  · rw [if_neg (show ¬ c - a < 0 by omega), if_neg (show ¬ c - a = 0 by omega), if_neg (show ¬ c - a < 0 by omega)]
    exact step_same h g
theorem turn_good {a c : Int} {x : Iv} {s s' : Fr × Fr} (h : entTurn a c x s = some s') (g : Good s) : Good s' := by
  unfold entTurn at h
  split at h
  · exact entStep_good (by omega) h g
  · exact entStep_good (by omega) h g
theorem turn_late {a c : Int} {x : Iv} {s s' : Fr × Fr} (h : entTurn a c x s = some s') (g : Late s) : Late s' := by
  unfold entTurn at h
  split at h
  · exact entStep_late (by omega) h g
  · exact entStep_late (by omega) h g
theorem ent_en (p q : List Int) (b : List Iv) : ∀ j, (∀ s, enS p q b j = some s → entS p q b j = some s ∧ Good s) ∧ (enS p q b j = none → ∀ s, entS p q b j = some s → Late s)
  | 0 => ⟨fun s h => by simp only [enS, Option.some.injEq] at h; subst h; exact ⟨rfl, by decide, by decide, by decide⟩, fun h => by cases h⟩
  | j + 1 => by
    obtain ⟨i1, i2⟩ := ent_en p q b j
    cases he : enS p q b j with
    | none =>
      refine ⟨fun s h => by simp [enS, he] at h, fun _ s h => ?_⟩
      cases ht : entS p q b j with
      | none => simp [entS, ht] at h
      | some s0 =>
        simp only [entS, ht, Option.bind_some] at h
        split at h
        · exact turn_late h (i2 he s0 ht)
        · cases h
    | some s0 =>
      obtain ⟨ht, g⟩ := i1 s0 he
      simp only [enS, entS, he, ht, Option.bind_some]
      generalize p[j]? = pa
      generalize q[j]? = qa
      generalize b[j]? = ba
      rcases pa with _ | a
      · exact ⟨fun s h => (by cases h), fun _ s h => (by cases h)⟩
      rcases qa with _ | c
      · exact ⟨fun s h => (by cases h), fun _ s h => (by cases h)⟩
      rcases ba with _ | x
      · exact ⟨fun s h => (by cases h), fun _ s h => (by cases h)⟩
      dsimp only
      rcases turn_same (a := a) (c := c) (x := x) g with h | ⟨h1, h2⟩
      · rw [h]
        exact ⟨fun s hs => ⟨hs, turn_good (h.trans hs) g⟩, fun h0 s hs => by rw [h0] at hs; cases hs⟩
      · rw [h1]
        exact ⟨fun s hs => (by cases hs), fun _ s hs => h2 s hs⟩
/-- **The two codes agree on whether, and if so on when.** -/
theorem entry_enter (p q : List Int) (b : List Iv) : (entryR p q b).2 = (enterR p q b).2 ∧ ((enterR p q b).2 = true → (entryR p q b).1 = (enterR p q b).1) := by
  obtain ⟨i1, i2⟩ := ent_en p q b b.length
  unfold entryR enterR
  cases he : enS p q b b.length with
  | some s => rw [(i1 s he).1]; exact ⟨rfl, fun _ => rfl⟩
  | none =>
    cases ht : entS p q b b.length with
    | none => exact ⟨rfl, fun _ => rfl⟩
    | some s =>
      have := (i2 he s ht).ends
      simp [this]
end Go.Proofs.Ytmljpbhmdjpbaaa
namespace Go.Proofs.Ytmljpbhmdjpbaaa
set_option linter.unusedVariables false
set_option linter.unusedSimpArgs false
open Go.PM

/-- Reached over open places by steps between neighbors. -/
inductive Reach (n : Nat) (op start : Nat → Bool) (adj : Nat → Nat → Bool) : Nat → Prop
  | start (i : Nat) (hi : i < n) (ho : op i = true) (hs : start i = true) : Reach n op start adj i
  | step (i j : Nat) (hj : Reach n op start adj j) (hi : i < n) (ho : op i = true) (ha : adj i j = true) : Reach n op start adj i

def flStep (n : Nat) (op : Nat → Bool) (adj : Nat → Nat → Bool) (f : List Bool) : List Bool := (List.range n).map fun i => f.getD i false || (op i && (List.range n).any fun j => f.getD j false && adj i j)
def flIt (n : Nat) (op start : Nat → Bool) (adj : Nat → Nat → Bool) : Nat → List Bool
  | 0 => (List.range n).map fun i => op i && start i
  | k + 1 => flStep n op adj (flIt n op start adj k)
def floodL (n : Nat) (op start : Nat → Bool) (adj : Nat → Nat → Bool) : List Bool := flIt n op start adj n

/-- How many are marked. -/
def cntT (f : List Bool) : Nat := f.countP id
theorem cntT_le (f : List Bool) : cntT f ≤ f.length := List.countP_le_length
theorem cntT_mono : ∀ {f g : List Bool}, f.length = g.length → (∀ i : Nat, f[i]? = some true → g[i]? = some true) → cntT f ≤ cntT g ∧ (cntT f = cntT g → f = g)
  | [], [], _, _ => ⟨Nat.le_refl _, fun _ => rfl⟩
  | a :: f, b :: g, hl, h => by
    obtain ⟨h1, h2⟩ := cntT_mono (f := f) (g := g) (by simpa using hl) fun i hi => by simpa using h (i + 1) (by simpa using hi)
    have h0 := h 0
    unfold cntT at *
    cases a with
    | true =>
      have : b = true := by simpa using h0 rfl
      subst this
      simp only [List.countP_cons, id]
      exact ⟨by simpa using h1, fun e => by rw [h2 (by simpa using e)]⟩
    | false =>
      cases b with
      | false =>
        simp only [List.countP_cons, id]
        exact ⟨by simpa using h1, fun e => by rw [h2 (by simpa using e)]⟩
      | true =>
        simp only [List.countP_cons, id]
        exact ⟨by simp; omega, fun e => by simp at e; omega⟩
  | [], _ :: _, hl, _ => by simp at hl
  | _ :: _, [], hl, _ => by simp at hl
theorem cntT_full {f : List Bool} (h : cntT f = f.length) {i : Nat} (hi : i < f.length) : f[i]? = some true := by
  have := List.countP_eq_length.1 h _ (List.getElem_mem hi)
  rw [List.getElem?_eq_getElem hi]
  simpa using this

section
variable {n : Nat} {op start : Nat → Bool} {adj : Nat → Nat → Bool}
theorem Reach.lt {i : Nat} (h : Reach n op start adj i) : i < n := by cases h <;> assumption
theorem Reach.isOp {i : Nat} (h : Reach n op start adj i) : op i = true := by cases h <;> assumption
theorem flStep_len (f : List Bool) : (flStep n op adj f).length = n := by simp [flStep]
theorem flIt_len : ∀ k, (flIt n op start adj k).length = n
  | 0 => by simp [flIt]
  | k + 1 => flStep_len _
theorem map_range_true {g : Nat → Bool} {i : Nat} : ((List.range n).map g)[i]? = some true ↔ i < n ∧ g i = true := by
  rw [List.getElem?_map]
  by_cases hi : i < n
  · rw [List.getElem?_range hi]; simp [hi]
  · rw [List.getElem?_eq_none (by simp; omega)]; simp [hi]
theorem getD_true {f : List Bool} {i : Nat} : f.getD i false = true ↔ f[i]? = some true := by
  rw [List.getD_eq_getElem?_getD]
  cases f[i]? <;> simp
theorem flStep_true {f : List Bool} {i : Nat} : (flStep n op adj f)[i]? = some true ↔ i < n ∧ (f[i]? = some true ∨ op i = true ∧ ∃ j, j < n ∧ f[j]? = some true ∧ adj i j = true) := by
  unfold flStep
  rw [map_range_true]
  simp only [Bool.or_eq_true, Bool.and_eq_true, List.any_eq_true, List.mem_range, getD_true]
theorem flIt_reach : ∀ (k i : Nat), (flIt n op start adj k)[i]? = some true → Reach n op start adj i
  | 0, i, h => by
    obtain ⟨h1, h2⟩ := map_range_true.1 h
    rw [Bool.and_eq_true] at h2
    exact .start i h1 h2.1 h2.2
  | k + 1, i, h => by
    obtain ⟨h1, h2 | ⟨h3, j, h4, h5, h6⟩⟩ := flStep_true.1 h
    · exact flIt_reach k i h2
    · exact .step i j (flIt_reach k j h5) h1 h3 h6
theorem flIt_up (k i : Nat) (h : (flIt n op start adj k)[i]? = some true) : (flIt n op start adj (k + 1))[i]? = some true :=
  flStep_true.2 ⟨by have := (List.getElem?_eq_some_iff.1 h).1; rwa [flIt_len] at this, .inl h⟩
theorem flIt_fix (k : Nat) (h : flIt n op start adj (k + 1) = flIt n op start adj k) : ∀ m, flIt n op start adj (k + m) = flIt n op start adj k
  | 0 => rfl
  | m + 1 => by
    have := flIt_fix k h m
    show flStep n op adj (flIt n op start adj (k + m)) = _
    rw [this]; exact h
theorem flIt_grow : ∀ k, (∃ j, j < k ∧ flIt n op start adj (j + 1) = flIt n op start adj j) ∨ k ≤ cntT (flIt n op start adj k)
  | 0 => .inr (Nat.zero_le _)
  | k + 1 => by
    rcases flIt_grow k with ⟨j, h1, h2⟩ | h
    · exact .inl ⟨j, by omega, h2⟩
    · obtain ⟨h1, h2⟩ := cntT_mono (f := flIt n op start adj k) (g := flIt n op start adj (k + 1)) (by rw [flIt_len, flIt_len]) (flIt_up k)
      by_cases e : cntT (flIt n op start adj k) = cntT (flIt n op start adj (k + 1))
      · exact .inl ⟨k, Nat.lt_succ_self k, (h2 e).symm⟩
      · exact .inr (by omega)
theorem flIt_last : flIt n op start adj (n + 1) = flIt n op start adj n := by
  rcases flIt_grow (n := n) (op := op) (start := start) (adj := adj) n with ⟨j, h1, h2⟩ | h
  · have e1 := flIt_fix j h2 (n - j)
    have e2 := flIt_fix j h2 (n + 1 - j)
    rw [show j + (n - j) = n by omega] at e1
    rw [show j + (n + 1 - j) = n + 1 by omega] at e2
    rw [e1, e2]
  · have h1 := cntT_le (flIt n op start adj n)
    rw [flIt_len] at h1
    have h2 : cntT (flIt n op start adj n) = (flIt n op start adj n).length := by rw [flIt_len]; omega
    symm
    refine (cntT_mono (by rw [flIt_len, flIt_len]) (flIt_up n)).2 ?_
    have h3 := (cntT_mono (f := flIt n op start adj n) (g := flIt n op start adj (n + 1)) (by rw [flIt_len, flIt_len]) (flIt_up n)).1
    have h4 := cntT_le (flIt n op start adj (n + 1))
    rw [flIt_len] at h2 h4
    omega
theorem floodL_length : (floodL n op start adj).length = n := flIt_len n
theorem floodL_true {i : Nat} : (floodL n op start adj)[i]? = some true ↔ Reach n op start adj i := by
  refine ⟨flIt_reach n i, fun h => ?_⟩
  induction h with
  | start i hi ho hs =>
    have : ∀ k, (flIt n op start adj k)[i]? = some true := by
      intro k
      induction k with
      | zero => exact map_range_true.2 ⟨hi, by rw [ho, hs]; rfl⟩
      | succ k ih => exact flIt_up k i ih
    exact this n
  | step i j hj hi ho ha ih =>
    show (flIt n op start adj n)[i]? = some true
    rw [← flIt_last]
    exact flStep_true.2 ⟨hi, .inr ⟨ho, j, hj.lt, ih, ha⟩⟩
theorem floodL_get {i : Nat} (hi : i < n) : ∃ b, (floodL n op start adj)[i]? = some b ∧ (b = true ↔ Reach n op start adj i) := by
  have hl : i < (floodL n op start adj).length := by rw [floodL_length]; exact hi
  refine ⟨(floodL n op start adj)[i], List.getElem?_eq_getElem hl, ?_⟩
  rw [← floodL_true, List.getElem?_eq_getElem hl]
  simp
theorem floodL_eq {out : List Bool} (hl : out.length = n) (h : ∀ i : Nat, out[i]? = some true ↔ Reach n op start adj i) : out = floodL n op start adj := by
  apply List.ext_getElem?
  intro i
  by_cases hi : i < n
  · obtain ⟨b, h1, h2⟩ := floodL_get (op := op) (start := start) (adj := adj) hi
    have h3 : out[i]? = some (out[i]'(by omega)) := List.getElem?_eq_getElem (by omega)
    rw [h1, h3]
    congr 1
    rw [Bool.eq_iff_iff, h2, ← h i, h3]
    simp
  · rw [List.getElem?_eq_none (by omega), List.getElem?_eq_none (by rw [floodL_length]; omega)]
/-- What is reached lies in whatever holds the begin and is closed. -/
theorem Reach.sub {S : Nat → Prop} (h0 : ∀ i, i < n → op i = true → start i = true → S i) (h1 : ∀ i j, S j → i < n → op i = true → adj i j = true → S i) {i : Nat} (h : Reach n op start adj i) : S i := by
  induction h with
  | start i hi ho hs => exact h0 i hi ho hs
  | step i j _ hi ho ha ih => exact h1 i j ih hi ho ha
theorem Reach.congr {op' start' : Nat → Bool} {adj' : Nat → Nat → Bool} (h1 : ∀ i, i < n → op i = op' i) (h2 : ∀ i, i < n → op i = true → start i = start' i) (h3 : ∀ i j, i < n → j < n → op i = true → op j = true → adj i j = adj' i j) {i : Nat} (h : Reach n op start adj i) : Reach n op' start' adj' i := by
  induction h with
  | start i hi ho hs => exact .start i hi ((h1 i hi).symm.trans ho) ((h2 i hi ho).symm.trans hs)
  | step i j hj hi ho ha ih => exact .step i j ih hi ((h1 i hi).symm.trans ho) ((h3 i j hi hj.lt ho hj.isOp).symm.trans ha)
/-- The begin is a set, closed: what is reached is it. -/
theorem floodL_of {out : List Bool} (hl : out.length = n) (h0 : ∀ i : Nat, i < n → op i = true → start i = true → out[i]? = some true) (h1 : ∀ i j : Nat, out[j]? = some true → i < n → op i = true → adj i j = true → out[i]? = some true) (h2 : ∀ i : Nat, out[i]? = some true → Reach n op start adj i) : out = floodL n op start adj :=
  floodL_eq hl fun i => ⟨h2 i, fun h => h.sub (S := fun i => out[i]? = some true) h0 (fun i j h3 => h1 i j h3)⟩

/-- The walk with places that wait: 'out' marks what is reached, 'st' whose neighbors have not been looked for, 'wt' what waits. -/
structure Spr (n : Nat) (op start : Nat → Bool) (adj : Nat → Nat → Bool) (out : List Bool) (st wt : List Nat) : Prop where
  len : out.length = n
  reach : ∀ i : Nat, out[i]? = some true → Reach n op start adj i
  wait : ∀ i ∈ wt, i < n ∧ op i = true
  part : ∀ i, i < n → op i = true → out[i]? = some true ∨ i ∈ wt
  begins : ∀ i, i < n → op i = true → start i = true → out[i]? = some true
  closed : ∀ i j : Nat, out[j]? = some true → j ∉ st → i ∈ wt → adj i j = true → out[i]? = some true
  stack : ∀ i ∈ st, out[i]? = some true

theorem Spr.done {out : List Bool} {wt : List Nat} (h : Spr n op start adj out [] wt) : out = floodL n op start adj :=
  floodL_of h.len h.begins (fun i j h1 h2 h3 h4 => (h.part i h2 h3).elim id fun h5 => h.closed i j h1 (by simp) h5 h4) h.reach

/-- While the neighbors of 'c' are looked for: 'w' still to look at, 'k' kept. -/
structure SprIn (n : Nat) (op start : Nat → Bool) (adj : Nat → Nat → Bool) (c : Nat) (out : List Bool) (st w k : List Nat) : Prop where
  len : out.length = n
  reach : ∀ i : Nat, out[i]? = some true → Reach n op start adj i
  wait : ∀ i, (i ∈ w ∨ i ∈ k) → i < n ∧ op i = true
  part : ∀ i, i < n → op i = true → out[i]? = some true ∨ i ∈ w ∨ i ∈ k
  begins : ∀ i, i < n → op i = true → start i = true → out[i]? = some true
  closed : ∀ i j : Nat, out[j]? = some true → j ∉ st → (j ≠ c ∧ (i ∈ w ∨ i ∈ k) ∨ i ∈ k) → adj i j = true → out[i]? = some true
  stack : ∀ i ∈ st, out[i]? = some true
  cur : out[c]? = some true

theorem Spr.enter {out : List Bool} {st wt : List Nat} {c : Nat} (h : Spr n op start adj out (st ++ [c]) wt) : SprIn n op start adj c out st wt [] where
  len := h.len
  reach := h.reach
  wait i hi := h.wait i (by simpa using hi)
  part i h1 h2 := by simpa using h.part i h1 h2
  begins := h.begins
  closed i j h1 h2 h3 h4 := by
    simp at h3
    exact h.closed i j h1 (by simp [h2, h3.1]) h3.2 h4
  stack i hi := h.stack i (by simp [hi])
  cur := h.stack c (by simp)
theorem SprIn.leave {out : List Bool} {st k : List Nat} {c : Nat} (h : SprIn n op start adj c out st [] k) : Spr n op start adj out st k where
  len := h.len
  reach := h.reach
  wait i hi := h.wait i (.inr hi)
  part i h1 h2 := by simpa using h.part i h1 h2
  begins := h.begins
  closed i j h1 h2 h3 h4 := h.closed i j h1 h2 (.inr h3) h4
  stack := h.stack
theorem SprIn.keep {out : List Bool} {st w k : List Nat} {c x : Nat} (h : SprIn n op start adj c out st (x :: w) k) (hx : adj x c = false) : SprIn n op start adj c out st w (k ++ [x]) where
  len := h.len
  reach := h.reach
  wait i hi := h.wait i (by simp at hi ⊢; rcases hi with h | h | h <;> simp [h])
  part i h1 h2 := by
    have := h.part i h1 h2
    simp at this ⊢
    rcases this with h | h | h
    · exact .inl h
    · rcases h with h | h <;> simp [h]
    · simp [h]
  begins := h.begins
  closed i j h1 h2 h3 h4 := by
    by_cases hj : j = c
    · subst hj
      simp at h3
      rcases h3 with h3 | rfl
      · exact h.closed i j h1 h2 (.inr h3) h4
      · rw [hx] at h4; cases h4
    · refine h.closed i j h1 h2 (.inl ⟨hj, ?_⟩) h4
      simp at h3 ⊢
      rcases h3 with ⟨_, h | h | h⟩ | h | h <;> simp [h]
  stack := h.stack
  cur := h.cur
theorem set_true {out : List Bool} {x i : Nat} (hx : x < out.length) : (out.set x true)[i]? = some true ↔ i = x ∨ out[i]? = some true := by
  rw [List.getElem?_set]
  by_cases e : x = i
  · subst e; simp [hx]
  · rw [if_neg e]
    constructor
    · exact .inr
    · rintro (rfl | h)
      · exact absurd rfl e
      · exact h
theorem SprIn.mark {out : List Bool} {st w k : List Nat} {c x : Nat} (h : SprIn n op start adj c out st (x :: w) k) (hx : adj x c = true) : SprIn n op start adj c (out.set x true) (st ++ [x]) w k := by
  obtain ⟨x1, x2⟩ := h.wait x (by simp)
  have hl : x < out.length := by rw [h.len]; exact x1
  refine ⟨by simpa using h.len, fun i hi => ?_, fun i hi => h.wait i (by rcases hi with h | h <;> simp [h]), fun i h1 h2 => ?_, fun i h1 h2 h3 => (set_true hl).2 (.inr (h.begins i h1 h2 h3)), fun i j h1 h2 h3 h4 => ?_, fun i hi => ?_, (set_true hl).2 (.inr h.cur)⟩
  · rcases (set_true hl).1 hi with rfl | hi
    · exact .step i c (h.reach c h.cur) x1 x2 hx
    · exact h.reach i hi
  · have := h.part i h1 h2
    simp at this
    rcases this with h | (rfl | h) | h
    · exact .inl ((set_true hl).2 (.inr h))
    · exact .inl ((set_true hl).2 (.inl rfl))
    · exact .inr (.inl h)
    · exact .inr (.inr h)
  · simp at h2
    rcases (set_true hl).1 h1 with rfl | h1
    · exact absurd rfl h2.2
    · refine (set_true hl).2 (.inr (h.closed i j h1 h2.1 ?_ h4))
      rcases h3 with ⟨a, b | b⟩ | b
      · exact .inl ⟨a, .inl (by simp [b])⟩
      · exact .inl ⟨a, .inr b⟩
      · exact .inr b
  · simp at hi
    rcases hi with hi | rfl
    · exact (set_true hl).2 (.inr (h.stack i hi))
    · exact (set_true hl).2 (.inl rfl)

/-- At the begin: the leaves up to some place have been looked at. -/
structure SprB (n : Nat) (op start : Nat → Bool) (adj : Nat → Nat → Bool) (seen : List Nat) (out : List Bool) (st wt : List Nat) : Prop where
  len : out.length = n
  mark : ∀ i : Nat, out[i]? = some true ↔ i ∈ st
  st1 : ∀ i ∈ st, i < n ∧ op i = true ∧ start i = true
  wt1 : ∀ i ∈ wt, i < n ∧ op i = true ∧ start i = false
  part : ∀ i ∈ seen, op i = true → i ∈ st ∨ i ∈ wt
theorem SprB.nil (m : Nat) : SprB m op start adj [] (List.replicate m false) [] [] := by
  refine ⟨by simp, fun i => ?_, by simp, by simp, by simp⟩
  simp [List.getElem?_replicate]
theorem SprB.shut {seen : List Nat} {out : List Bool} {st wt : List Nat} (h : SprB n op start adj seen out st wt) {x : Nat} (hx : op x = false) : SprB n op start adj (seen ++ [x]) out st wt :=
  ⟨h.len, h.mark, h.st1, h.wt1, fun i hi ho => by
    simp at hi
    rcases hi with hi | rfl
    · exact h.part i hi ho
    · rw [hx] at ho; cases ho⟩
theorem SprB.first {seen : List Nat} {out : List Bool} {st wt : List Nat} (h : SprB n op start adj seen out st wt) {x : Nat} (hn : x < n) (hx : op x = true) (hs : start x = true) : SprB n op start adj (seen ++ [x]) (out.set x true) (st ++ [x]) wt :=
  ⟨by simpa using h.len, fun i => by rw [set_true (by rw [h.len]; exact hn), h.mark]; simp [or_comm], fun i hi => by
    simp at hi
    rcases hi with hi | rfl
    · exact h.st1 i hi
    · exact ⟨hn, hx, hs⟩, h.wt1, fun i hi ho => by
    simp at hi ⊢
    rcases hi with hi | rfl
    · exact (h.part i hi ho).imp .inl id
    · exact .inl (.inr rfl)⟩
theorem SprB.wait {seen : List Nat} {out : List Bool} {st wt : List Nat} (h : SprB n op start adj seen out st wt) {x : Nat} (hn : x < n) (hx : op x = true) (hs : start x = false) : SprB n op start adj (seen ++ [x]) out st (wt ++ [x]) :=
  ⟨h.len, h.mark, h.st1, fun i hi => by
    simp at hi
    rcases hi with hi | rfl
    · exact h.wt1 i hi
    · exact ⟨hn, hx, hs⟩, fun i hi ho => by
    simp at hi ⊢
    rcases hi with hi | rfl
    · exact (h.part i hi ho).imp id .inl
    · exact .inr (.inr rfl)⟩
theorem SprB.done {seen : List Nat} {out : List Bool} {st wt : List Nat} (h : SprB n op start adj seen out st wt) (hall : ∀ i, i < n → op i = true → i ∈ seen) : Spr n op start adj out st wt where
  len := h.len
  reach i hi := by
    obtain ⟨a, b, c⟩ := h.st1 i ((h.mark i).1 hi)
    exact .start i a b c
  wait i hi := ⟨(h.wt1 i hi).1, (h.wt1 i hi).2.1⟩
  part i h1 h2 := (h.part i (hall i h1 h2) h2).imp (h.mark i).2 id
  begins i h1 h2 h3 := by
    rcases h.part i (hall i h1 h2) h2 with h4 | h4
    · exact (h.mark i).2 h4
    · rw [(h.wt1 i h4).2.2] at h3; cases h3
  closed i j h1 h2 _ _ := absurd ((h.mark j).1 h1) h2
  stack i hi := (h.mark i).2 hi
end
end Go.Proofs.Ytmljpbhmdjpbaaa
namespace Go.Proofs.Ytmljpbhmdjpbaaa
set_option linter.unusedVariables false
set_option linter.unusedSimpArgs false
open Go.PM

abbrev treeRow (t : Tree) : PB := ⟨25, 2, [[.d (.imm (ivs t.root)), .d (.imm (cels t.cells))]]⟩
theorem hcall_ctleaves (t : Tree) : HCall Try.prog 119 [treeP t] [] [] (fun n => .fn (.func 155) [] [.ptr n 0 0]) [] [treeRow t] := by
  refine walkN Try.func119 (by kernel_rfl) rfl 4 rfl (Nat.le_of_ble_eq_true rfl) fun nid _ => ?_
  refine Tr.seq (Tr.regionK fun K hK => ?_)
  simp [Try.f119]
  refine hK _ (Tr.seq (Tr.regionK fun K1 hK1 => ?_)); clear hK K
  simp [Try.f119]
  refine hK1 _ (Tr.renum [nid] [(2, .fn (.func 155) [] [.ptr nid 0 0])] [(nid, treeRow t)] ⟨rfl, ?_, ?_, ?_, ?_⟩ (Tr.ret ⟨.inr rfl, [nid], ?_, ?_, ?_, ?_, ?_, ?_, ?_⟩)) <;> simp [Try.f119, renK, add_add]
  intro j k hj
  match j, hj with
  | 0, hj =>
    simp at hj
    subst hj
    simp
  | j + 1, hj => simp at hj

/-- What a round of the loop in Leaves does. -/
abbrev Gather (n ob oi : Nat) (h : Hp) (xs : List Int) (i : Int) : Hp → Nat → Prop := fun h' n' =>
  ∃ k, n ≤ k ∧ k < n' ∧ h' ob = some ⟨27, 1, [[.own k 1 0 (xs.length + 1)]]⟩ ∧ h' k = some ⟨3, 1, upm intD (xs ++ [i])⟩ ∧ ∀ j, j < n → j ≠ ob → j ≠ oi → h' j = h j

set_option maxRecDepth 8000 in
set_option maxHeartbeats 4000000 in
theorem walk155 (t : Tree) (l : List (List Iv)) (hl : boxesT t = some l) {E1 : Env} {lp : Nat} {r : Loop} {τ : Nat → PV} {n tb ob : Nat} (htb : tb < n) (hob : ob < n) (hne : tb ≠ ob) (hrec : RecAt E1 ⟨n, [ob], 33⟩ lp r τ 14) (hps : r.params = #[7, 8])
    (hround : ∀ (n' oi : Nat) (i : Int) (h : Hp) (xs : List Int) (q : PV), ob < n' → oi < n' → oi ≠ ob → xs.length ≤ 2048 → h ob = some ⟨27, 1, [[.own oi 1 0 xs.length]]⟩ → h oi = some ⟨3, 1, upm intD xs⟩ →
      RoundOK lp 0 Try.prog r ⟨n', [ob, oi], 14⟩ [ob, oi] ⟨updL τ [(7, .i i), (8, q)], h⟩ (Gather n' ob oi h xs i)) {h0 : Hp} (h1 : h0 tb = some (treeRow t)) (h2 : h0 ob = some ⟨27, 1, [[nilP]]⟩) :
    TrE E1 Try.prog ⟨n, [ob], 33⟩ (Try.f155.body.getD .skip) ⟨fun k => ((.fn (.yield lp) [] []) :: [.ptr tb 0 0]).getD k .any, h0⟩ n (fun e σ' n' => (e = .normal ∨ e = .ret) ∧ ∃ k, n ≤ k ∧ k < n' ∧ σ'.h ob = some ⟨27, 1, [[.own k 1 0 (lvs t t.cells.length).length]]⟩ ∧ σ'.h k = some ⟨3, 1, upm intD (lvs t t.cells.length)⟩) := by
  have hcl := cells_len hl
  have hll := boxesT_length hl
  have hrl := root_len hl
  refine TrE.toSt [(0, .fn (.yield lp) [] []), (1, .ptr tb 0 0)] [(tb, treeRow t), (ob, ⟨27, 1, [[nilP]]⟩)] ?_ ?_ ?_
  · simp
  · refine ⟨⟨_, h1, .inl rfl⟩, ⟨_, h2, .inl rfl⟩, trivial⟩
  have e1 : (tb = ob) = False := by simp [hne]
  refine TrE.seq (.of ?_)
  refine Tr.regionK fun K hK => ?_
  simp (maxSteps := 1000000) [Try.f155, add_add, Region.binds, htb, hob, hne]
  refine .inl ⟨_, pcall_ctBoxes t (by omega), rfl, ?_⟩
  simp (maxSteps := 1000000) [Try.f155, add_add, Region.binds, htb, hob, hne, hl, boxesP]
  refine hK _ ?_; clear hK K
  refine TrE.seq (.of ?_)
  refine Tr.regionK fun K hK => ?_
  simp (maxSteps := 1000000) [Try.f155, add_add, Region.binds, htb, hob, hne]
  refine hK _ ?_; clear hK K
  refine TrE.block ?_
  refine TrE.loopP [(3, 1)] [.nil 0] [.cell (.fix ob) 0 0] (fun i : Nat => ([(0, .fn (.yield lp) [] []), (1, .ptr tb 0 0), (12, .d (.imm (boxs l))), (13, .i l.length), (14, .i i)],
      [(tb, treeRow t), (ob, ⟨27, 1, [[.own n 1 0 (lvs t i).length]]⟩), (n, ⟨3, 1, upm intD (lvs t i)⟩)])) (fun i => i ≤ l.length) (fun i => l.length - i) 0 rfl ?_ ?_ ?_
  · exact Nat.zero_le _
  · have a1 : tb ≠ n := by omega
    have a2 : ob ≠ n := by omega
    refine ⟨rfl, ?_, ?_, ?_, ?_⟩ <;> simp [add_add, htb, hob, hne, lvs, a1, a2]
  · rintro i hi I hI
    have a1 : tb ≠ n := by omega
    have a2 : ob ≠ n := by omega
    have a3 : ¬ ob = n := a2
    have hlv := lvs_length t i
    have w : IntKind.i64.wrap ((i : Int) + 1) = (i : Int) + 1 := wrapIn (by omega) (by omega)
    refine TrE.seq (.of ?_)
    refine Tr.regionK fun K hK => ?_
    simp (maxSteps := 1000000) [Try.f155, add_add, Region.binds, htb, hob, hne, a1, a2]
    refine hK _ ?_; clear hK K
    refine TrE.seq ?_
    refine TrE.cond rfl rfl (fun hq => ?_) (fun hq => ?_)
    · simp at hq
      obtain ⟨x, hx, hx'⟩ : ∃ x, l[i]? = some x ∧ l[i] = x := ⟨l[i], List.getElem?_eq_getElem hq, rfl⟩
      have hic : i < t.cells.length := by omega
      obtain ⟨c, hc, hc'⟩ : ∃ c, t.cells[i]? = some c ∧ t.cells[i] = c := ⟨t.cells[i], List.getElem?_eq_getElem hic, rfl⟩
      refine TrE.skip ?_
      refine TrE.seq ?_
      refine TrE.block ?_
      refine TrE.seq (.of ?_)
      refine Tr.regionK fun K hK => ?_
      simp (maxSteps := 1000000) [Try.f155, add_add, Region.binds, htb, hob, hne, a1, a2, hq, hx, hx']
      refine hK _ ?_; clear hK K
      refine TrE.seq ?_
      rcases Bool.eq_false_or_eq_true c.leaf with hlf | hlf
      · refine TrE.bump (m := n + 1000) (by simp) ?_
        refine TrE.regionYa 10 hrec (fun _ _ h => ?_) ?_ ?_
        · simp [PPost.seq, PPost.blk] at h
        · rw [hps]; decide
        show _ ∧ _ ∧ _ ∧ _ ∧ _
        refine ⟨rfl, rfl, rfl, by rw [hps]; rfl, fun K hK => ?_⟩
        simp (maxSteps := 1000000) [Try.f155, add_add, Region.binds, htb, hob, hne, a1, a2, hq, hx, hx', hic, hc, hc']
        refine .inl ⟨_, pcall_isLeaf c, rfl, ?_⟩
        simp (maxSteps := 1000000) [Try.f155, add_add, Region.binds, htb, hob, hne, a1, a2, hq, hx, hx', hic, hc, hc', hlf]
        refine hK _ ⟨?_, ?_, [ob, n], [ob, n], Gather (n + 1000 + 40) ob n (rowsH [(tb, treeRow t), (ob, ⟨27, 1, [[.own n 1 0 (lvs t i).length]]⟩), (n, ⟨3, 1, upm intD (lvs t i)⟩)]) (lvs t i) i, ?_, ?_, ?_, ?_, ?_⟩
        · simp [hlf]
        · simp
        · simp
        · simp [hne, a1, a2]
        · simp
        · have := hround (n + 1000 + 40) n i (rowsH [(tb, treeRow t), (ob, ⟨27, 1, [[.own n 1 0 (lvs t i).length]]⟩), (n, ⟨3, 1, upm intD (lvs t i)⟩)]) (lvs t i) (.d (.imm (ivs x))) (by omega) (by omega) (by omega) (by omega) (by simp [hne, a1, a2]) (by simp [hne, a1, a2])
          simpa [hps] using this
        · rintro h' n' ⟨k, k1, k2, k3, k4, k5⟩ K2 hK2
          have k6 := k5 tb (by omega) hne (by omega)
          simp at k6
          simp (maxSteps := 1000000) [Try.f155, add_add, Region.binds, htb, hob, hne, a1, a2, hq, hx, hx', hic, hc, hc', hlf]
          refine hK2 _ ?_
          refine TrE.cond rfl rfl (fun hq => by simp at hq) (fun hq => ?_)
          refine TrE.skip (.of ?_)
          refine Tr.regionK fun K hK => ?_
          simp (maxSteps := 1000000) [Try.f155, add_add, Region.binds, htb, hob, hne, a1, a2, w]
          refine hK _ ?_; clear hK K
          have hlv1 : lvs t (i + 1) = lvs t i ++ [(i : Int)] := by simp [lvs, leafAt_eq hc, hlf]
          refine hI _ _ (i + 1) (by omega) (by omega) ⟨rfl, ?_, ?_, ?_, ?_⟩ <;> simp [add_add, htb, hob, hne, a1, a2, hlv1, k3, k4, k6]
          all_goals omega
      · refine .of (Tr.regionK fun K hK => ?_)
        simp (maxSteps := 1000000) [Try.f155, add_add, Region.binds, htb, hob, hne, a1, a2, hq, hx, hx', hic, hc, hc']
        refine .inl ⟨_, pcall_isLeaf c, rfl, ?_⟩
        simp (maxSteps := 1000000) [Try.f155, add_add, Region.binds, htb, hob, hne, a1, a2, hq, hx, hx', hic, hc, hc', hlf]
        refine hK _ ?_; clear hK K
        refine TrE.cond rfl rfl (fun hq => by simp at hq) (fun hq => ?_)
        refine TrE.skip (.of ?_)
        refine Tr.regionK fun K hK => ?_
        simp (maxSteps := 1000000) [Try.f155, add_add, Region.binds, htb, hob, hne, a1, a2, w]
        refine hK _ ?_; clear hK K
        have hlv1 : lvs t (i + 1) = lvs t i := by simp [lvs, leafAt_eq hc, hlf]
        refine hI _ _ (i + 1) (by omega) (by omega) ⟨rfl, ?_, ?_, ?_, ?_⟩ <;> simp [add_add, htb, hob, hne, a1, a2, hlv1]
    · simp at hq
      have hin : i = t.cells.length := by omega
      refine TrE.exit ?_
      refine ⟨.inl rfl, n, Nat.le_refl n, ?_, ?_, ?_⟩
      · simp
      · subst hin; simp [hne, a1, a2]
      · subst hin; simp [hne, a1, a2]
end Go.Proofs.Ytmljpbhmdjpbaaa
namespace Go.Proofs.Ytmljpbhmdjpbaaa
set_option linter.unusedVariables false
set_option linter.unusedSimpArgs false
open Go.PM

set_option maxRecDepth 8000 in
set_option maxHeartbeats 4000000 in
theorem pcall_ctLeaves (t : Tree) (l : List (List Iv)) (hl : boxesT t = some l) : PCall Try.prog 61 [treeP t] (.d (.imm (ints (lvs t t.cells.length)))) := by
  refine pcall_of_marks Try.func61 (by kernel_rfl) rfl (Nat.le_of_ble_eq_true rfl) (by simp) fun n E0 a hs hE0 => ?_
  have hcl := cells_len hl
  have hlv := lvs_length t t.cells.length
  refine TrE.andThen hs (.of (Tr.regionK fun K hK => ?_))
  simp (maxSteps := 1000000) [Try.f61, add_add]
  refine hK _ ⟨rfl, fun a E hs => ?_⟩; clear hK K
  refine TrE.andThen hs (.of (Tr.regionK fun K hK => ?_))
  simp (maxSteps := 1000000) [Try.f61, add_add]
  refine hK _ ⟨rfl, fun a E hs => ?_⟩; clear hK K
  refine wp_seq ?_
  refine TrE.andThen hs (.of (Tr.regionK fun K hK => ?_))
  simp (maxSteps := 1000000) [Try.f61, add_add]
  refine .inr ⟨[], [], fun n => .fn (.func 155) [] [.ptr n 0 0], [], [treeRow t], ⟨hcall_ctleaves t, by simp, by simp, by simp, by simp, by simp, by simp, by simp, by simp⟩, ?_⟩
  simp (maxSteps := 1000000) [Try.f61, add_add]
  refine hK _ ⟨rfl, fun a E hs => ?_⟩; clear hK K
  refine wp_block ?_
  have hs1 : SatF E0 ⟨n, [], 14⟩ (fun id => n + 100 ≤ id) (St [(3, .ptr (n + 8) 0 0), (6, .fn (.func 155) [] [.ptr (n + 16) 0 0])] [(n + 8, ⟨27, 1, [[nilP]]⟩), (n + 16, treeRow t)]) a E := by
    refine (hs.fr_mono (fr' := fun id => n + 100 ≤ id) (fun id hid => ?_)).toSt _ _ ?_ ?_
    · simp; omega
    · simp
    · simp
  refine wp_mono (rangeFunc_ok (gc := Try.f155.body.getD .skip) (T := [n + 8]) (R := fun h' n' => ∃ k, n + 100 ≤ k ∧ k < n' ∧ h' (n + 8) = some ⟨27, 1, [[.own k 1 0 (lvs t t.cells.length).length]]⟩ ∧ h' k = some ⟨3, 1, upm intD (lvs t t.cells.length)⟩) hs1 (gf := 155) (caps := [.ptr (n + 16) 0 0]) (by simp) rfl Try.func155 (by kernel_rfl) rfl (Nat.le_of_ble_eq_true rfl) rfl ?_ ?_ hE0 ?_) ?_
  · simp
  · simp
  · intro E1 lp r hrec hps has hbd
    refine walk155 t l hl (tb := n + 16) (ob := n + 8) (by omega) (by omega) (by omega) hrec hps ?_ (by simp) (by simp)
    intro n' oi i h xs q g1 g2 g3 g4 g5 g6
    have g7 : (n + 8 = oi) = False := by simp; omega
    have g8 : ∀ k, (n + 8 = n' + k) = False := fun k => by simp; omega
    have g8' : ∀ k, (n = n' + k) = False := fun k => by simp; omega
    have g9 : ∀ k, (oi = n' + k) = False := fun k => by simp; omega
    unfold RoundOK
    rw [has, hbd]
    refine TrR.region (by simp) (fun _ _ h => by cases h.1) fun K hK => ?_
    simp (maxSteps := 1000000) [add_add, g1, g2, g3, g5, g6, g7, g8, g8', g9]
    refine hK _ ⟨rfl, ?_⟩; clear hK K
    refine TrR.block (TrR.region (by simp) (fun _ _ h => by cases h.1) fun K hK => ?_)
    simp (maxSteps := 1000000) [add_add, g1, g2, g3, g5, g6, g7, g8, g8', g9]
    refine ⟨by omega, ?_⟩
    refine hK _ ⟨rfl, n' + 16, by omega, ?_, ?_, ?_, ?_⟩; clear hK K
    · simp
    · simp [g7, g8, g8', g9]
    · have g10 : ∀ k, (n' + k = n) = False := fun k => by simp; omega
      simp [g8, g8', g10]
    · intro j j1 j2 j3
      have j4 : j ≠ n' + 16 := by omega
      have j5 : j ≠ n' + 12 := by omega
      simp [j2, j3, j4, j5]
  · rintro e a1 w1 ⟨rfl, D, E2, h', n', rfl, rfl, ⟨k, k1, k2, k3, k4⟩, hs2, hD, hD0, hID⟩
    obtain ⟨E3, e3, e4, hs3⟩ := hs2.freeze (ds := (lvs t t.cells.length).map intD) k4 rfl (.inr (by show n ≤ k; omega)) (by show (3 : Nat) < _; decide)
    have k5 : (n + 8 = k) = False := by simp; omega
    have hs4 : SatF E0 ⟨n, [], 14⟩ (fun id => n' ≤ id) (St [(3, .ptr (n + 8) 0 0)] [(n + 8, ⟨27, 1, [[.d (.imm (ints (lvs t t.cells.length)))]]⟩)]) a E3 := by
      refine hs3.toSt _ _ ?_ ?_
      · simp [Core.frz, PV.frz, k5]
      · simp [Core.frz, PV.frz, PB.frz, k5, k3]
    have hs5 := hs4.start (n0 := n') (T := []) (fun _ h => h)
    have hD3 : E3.w.heap[D]? = some (.deferred (some [])) := by rw [e3]; exact hD
    rw [← e3]
    refine wp_mono (tail_ok hs5 (Φ := fun σ' => σ'.t 2 = .d (.imm (ints (lvs t t.cells.length)))) fun K hK => ?_) ?_
    · simp (maxSteps := 1000000) [add_add]
      refine hK _ ?_
      simp
    · rintro e a' w' ⟨rfl, a0, σ', n2, E4, rfl, rfl, hs6, hΦ⟩
      refine ⟨.inr rfl, D, a0, σ', n2, E4, rfl, rfl, hs4.back hs6 (by simp) rfl, ?_, hD0, ?_, ?_⟩
      · exact (hs6.ext.block D (Array.getElem?_eq_some_iff.1 hD3).1 (by simp)).trans hD3
      · simp [Try.f61]
      · simp [Try.f61, hΦ]
end Go.Proofs.Ytmljpbhmdjpbaaa
