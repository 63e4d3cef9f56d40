/- CutFirst, walked. -/
import Derived.Test.YtmljpbhmdjpbaaaM10
namespace Go.Proofs.Ytmljpbhmdjpbaaa
set_option linter.unusedVariables false
set_option linter.unusedSimpArgs false
open Go.PM

theorem meet_bound {T : Tree} {bl : List (List Iv)} {w : List (List Int)} (hh : boxesT T = some bl) (hr : regularL T.root w = true) (hb : SmallB T.root) : (0 ≤ ((meetT T w).getD zeroMt).num ∧ ((meetT T w).getD zeroMt).num ≤ 1024) ∧ 0 ≤ ((meetT T w).getD zeroMt).den ∧ ((meetT T w).getD zeroMt).den ≤ 1024 := by
  cases hm : meetT T w with
  | none => exact ⟨⟨by decide, by decide⟩, by decide, by decide⟩
  | some m =>
    obtain ⟨k, j, M⟩ := meet_some hh hr hm
    obtain ⟨_, _, hwq⟩ := regularL_iff.1 hr
    have hk := M.kl
    have hP : w[k]? = some (w[k]'(by omega)) := List.getElem?_eq_getElem (by omega)
    have hQ : w[k + 1]? = some (w[k + 1]'hk) := List.getElem?_eq_getElem hk
    have hjb : j < bl.length := by have := boxesT_length hh; have := M.jn; omega
    have hB : bl[j]? = some (bl[j]'hjb) := List.getElem?_eq_getElem hjb
    have hS := entryR_small (has_small hb (hwq _ (List.mem_of_getElem? hP))) (has_small hb (hwq _ (List.mem_of_getElem? hQ))) (boxes_small hh hb (List.mem_of_getElem? hB))
    rw [← qAt_eq hP, ← qAt_eq hQ, ← boxAt_eq hB] at hS
    obtain ⟨_, v2, v3, v4, v5⟩ := lowF_val hS.1.1 (entryR_pos M.yes)
    have e1 := M.num
    have e2 := M.den
    have := hS.1.2
    have := hS.2.2
    show (0 ≤ m.num ∧ m.num ≤ 1024) ∧ 0 ≤ m.den ∧ m.den ≤ 1024
    omega
theorem first_ok {T : Tree} {bl : List (List Iv)} {w : List (List Int)} (hh : boxesT T = some bl) (hr : regularL T.root w = true) {i : Nat} (hi : i + 1 < w.length) {num den : Int} (hd : 0 < den) (h0 : 0 ≤ num) (h1 : num ≤ den)
    (hb : (meetT T w).isSome = false ∨ ((meetT T w).isSome = true ∧ ((i : Int) < ((meetT T w).getD zeroMt).motion ∨ ((i : Int) = ((meetT T w).getD zeroMt).motion ∧ num * ((meetT T w).getD zeroMt).den < ((meetT T w).getD zeroMt).num * den)))) :
    ∀ (j : Nat) c bx p q, T.cells[j]? = some c → c.v.kind = 2 → bl[j]? = some bx → w[i]? = some p → w[i + 1]? = some q → atV bx p q num den = false := by
  intro j c bx p q hc hk hx hp hq
  obtain ⟨_, _, hwq⟩ := regularL_iff.1 hr
  have hbl := boxes_len hh hx
  have hpl : p.length = bx.length := by rw [hbl]; exact (has_in32 (hwq p (List.mem_of_getElem? hp))).2
  have hql : q.length = bx.length := by rw [hbl]; exact (has_in32 (hwq q (List.mem_of_getElem? hq))).2
  have hj : j < T.cells.length := (List.getElem?_eq_some_iff.1 hc).1
  have hcol : collAt T j = true := by rw [collAt_eq hc]; unfold Cel.coll; exact decide_eq_true hk
  have hdr := cast_pos hd
  have hv := val_mul (f := ⟨num, den⟩) hd
  dsimp only at hv
  have s0 : 0 ≤ Fr.val ⟨num, den⟩ := by
    have := cast_le h0
    exact (le_div hd).2 (by rw [Rat.mul_zero]; exact this)
  have s1 : Fr.val ⟨num, den⟩ ≤ 1 := (div_le hd).2 (by rw [Rat.mul_one]; exact cast_le h1)
  cases hat : atV bx p q num den with
  | false => rfl
  | true =>
    exfalso
    have hin := (atV_iff hd hpl hql).1 hat
    have hyes : (entryR p q bx).2 = true := by
      cases he : (entryR p q bx).2 with
      | true => rfl
      | false => exact absurd hin (entry_misses hpl hql he s0 s1)
    rcases hb with hb | ⟨hb, hlt⟩
    · have hn : meetT T w = none := by cases hm : meetT T w with
        | none => rfl
        | some m => rw [hm] at hb; cases hb
      have := meet_none hh hr hn i hi j hj hcol
      rw [qAt_eq hp, qAt_eq hq, boxAt_eq hx, hyes] at this
      cases this
    · obtain ⟨m, hm⟩ := Option.isSome_iff_exists.1 hb
      rw [hm] at hlt
      obtain ⟨k, j0, M⟩ := meet_some hh hr hm
      simp only [Option.getD_some] at hlt
      rw [M.motion] at hlt
      rcases hlt with hlt | ⟨hlt, hval⟩
      · have := M.before i (by omega) j hj hcol
        rw [qAt_eq hp, qAt_eq hq, boxAt_eq hx, hyes] at this
        cases this
      · have hik : i = k := by omega
        subst hik
        have hl := M.least j hj hcol (by rw [qAt_eq hp, qAt_eq hq, boxAt_eq hx]; exact hyes)
        rw [qAt_eq hp, qAt_eq hq, boxAt_eq hx] at hl
        have ht := entryR_true hyes
        have hs := (seg_iff hpl hql s0 s1).1 hin
        have hMy := M.yes
        have hMn := M.num
        have hMd := M.den
        rw [qAt_eq hp, qAt_eq hq] at hMy hMn hMd
        have hlow : 0 ≤ (entryR p q (boxAt bl j0)).1.num := by
          unfold entryR
          cases hs : entS p q (boxAt bl j0) (boxAt bl j0).length with
          | none => exact Int.le_refl _
          | some s => exact entS_low hs
        obtain ⟨v1, v2, v3, v4, v5⟩ := lowF_val hlow (entryR_pos hMy)
        rw [← hMd] at v2
        have hmd := cast_pos v2
        have hmv := val_mul (f := (entryR p q (boxAt bl j0)).1.lowF) (by rw [← hMd]; exact v2)
        rw [v1, ← hMd, ← hMn] at hmv
        have hc2 := cast_lt hval
        rw [Rat.intCast_mul, Rat.intCast_mul] at hc2
        have hle : Fr.val (entryR p q (boxAt bl j0)).1 ≤ Fr.val ⟨num, den⟩ := by grind
        have h3 := Rat.mul_le_mul_of_nonneg_right hle (Rat.le_of_lt hmd)
        have h4 := Rat.mul_le_mul_of_nonneg_right h3 (Rat.le_of_lt hdr)
        rw [hmv, Rat.mul_assoc, Rat.mul_comm (m.den : Rat), ← Rat.mul_assoc, hv] at h4
        exact absurd hc2 (Rat.not_lt.2 h4)
theorem mul_two {x y : Int} (hx : 0 ≤ x ∧ x ≤ 1024) (hy : 0 ≤ y ∧ y ≤ 1024) : 0 ≤ x * y ∧ x * y ≤ 1048576 := by
  have h1 := Int.mul_le_mul_of_nonneg_right hx.2 hy.1
  have h2 := Int.mul_nonneg hx.1 hy.1
  omega
theorem two_pow (d : Nat) (h : d < 10) : ∃ P : Nat, (2 : Int) ^ d = P ∧ 1 ≤ P ∧ P ≤ 512 := by
  refine ⟨2 ^ d, by simp, Nat.one_le_two_pow, ?_⟩
  have := Nat.pow_le_pow_right (n := 2) (by decide) (show d ≤ 9 by omega)
  simpa using this
set_option maxRecDepth 8000 in
set_option maxHeartbeats 4000000 in
theorem pcall_law5 (l m : List Int) (n k depth index : Int) (hl : Ok64 l) (hlen : l.length ≤ 1048576) (hm : Ok64 m) (hmen : m.length ≤ 1048576) (hn : R64 n) (hk : R64 k) (hde : R64 depth) (hin : R64 index) :
    PCall Try.prog 5 [.d (.imm (ints l)), .d (.imm (ints m)), .i n, .i k, .i depth, .i index] (.b true) := by
  obtain ⟨k5, hk5, hk5'⟩ := mod_nat n 5 (by omega)
  have hpt := pcall_tree l hl hlen
  have hT1 := treeV_ok l
  have hT2 := tree_box l
  have hT3 := tree_small l
  obtain ⟨T, hT⟩ : ∃ T, treeV l = T := ⟨_, rfl⟩
  rw [hT] at hpt hT1 hT2 hT3
  obtain ⟨bl, hh⟩ := Option.isSome_iff_exists.1 hT1
  have hrl := root_len hh
  have hcl := cells_len hh
  have hll := boxesT_length hh
  have hLi := pcall_line T.root m (2 + k5) (by omega) hT2 (by omega) hm hmen
  have hLh := lineV_has hT2 m (2 + k5)
  have hLl := lineV_len T.root m (2 + k5)
  obtain ⟨w, hw⟩ : ∃ L, lineV T.root m (2 + k5) = L := ⟨_, rfl⟩
  rw [hw] at hLi hLh hLl
  have hreg : regularL T.root w = true := regularL_iff.2 ⟨by omega, by omega, hLh⟩
  have hmb := meet_bound hh hreg hT3
  have hfo := fun i => first_ok hh hreg (i := i)
  obtain ⟨mt, hmt⟩ : ∃ x, (meetT T w).getD zeroMt = x := ⟨_, rfl⟩
  obtain ⟨nk, hnk⟩ : ∃ x, (meetT T w).isSome = !x := ⟨!(meetT T w).isSome, by simp⟩
  rw [hmt] at hmb
  simp only [hmt, hnk] at hfo
  obtain ⟨x1, x2, x3, x4⟩ := mt
  dsimp only at hmb hfo
  obtain ⟨i, hi, hi'⟩ := mod_nat k ((w.length : Int) - 1) (by omega)
  obtain ⟨d, hd, hd'⟩ := mod_nat depth 10 (by omega)
  obtain ⟨P, hP, hP1, hP2⟩ := two_pow d (by omega)
  obtain ⟨nu, hnu, hnu'⟩ := mod_nat index ((P : Int) + 1) (by omega)
  have w0 : IntKind.i64.wrap (2 + (k5 : Int)) = ((2 + k5 : Nat) : Int) := by rw [wrapIn (by omega) (by omega)]; simp
  have w1 : IntKind.i64.wrap ((w.length : Int) - 1) = (w.length : Int) - 1 := wrapIn (by omega) (by omega)
  have w2 : IntKind.u64.wrap (d : Int) = d := u64_id (by omega) (by omega)
  have w3 : IntKind.i64.wrap (P : Int) = P := wrapIn (by omega) (by omega)
  have w4 : IntKind.i64.wrap ((P : Int) + 1) = (P : Int) + 1 := wrapIn (by omega) (by omega)
  have hmin : min d 64 = d := by omega
  obtain ⟨X, hX⟩ : ∃ X, (nu : Int) * x3 = X := ⟨_, rfl⟩
  obtain ⟨Y, hY⟩ : ∃ Y, x2 * (P : Int) = Y := ⟨_, rfl⟩
  obtain ⟨ne, hne⟩ : ∃ ne : Bool, ((i : Int) = x1) = (ne = false) := ⟨!decide ((i : Int) = x1), by simp⟩
  have hi1 : i + 1 < w.length := by omega
  have hi0 : i < w.length := by omega
  obtain ⟨p, hp, hp'⟩ : ∃ p, w[i]? = some p ∧ w[i] = p := ⟨w[i], List.getElem?_eq_getElem hi0, rfl⟩
  obtain ⟨q, hq, hq'⟩ : ∃ q, w[(i + 1)]? = some q ∧ w[(i + 1)] = q := ⟨w[(i + 1)], List.getElem?_eq_getElem hi1, rfl⟩
  obtain ⟨_, _, hwq⟩ := regularL_iff.1 hreg
  have hph := hwq p (List.mem_of_getElem? hp)
  have hqh := hwq q (List.mem_of_getElem? hq)
  have hps := has_small hT3 hph
  have hqs := has_small hT3 hqh
  have hpl := (has_in32 hph).2
  have hql := (has_in32 hqh).2
  have wi : IntKind.i64.wrap ((i : Int) + 1) = (i : Int) + 1 := wrapIn (by omega) (by omega)
  have bX := mul_two (x := (nu : Int)) (y := x3) (by omega) (by omega)
  have bY := mul_two (x := x2) (y := (P : Int)) (by omega) (by omega)
  rw [hX] at bX
  rw [hY] at bY
  have wX : IntKind.i64.wrap X = X := wrapIn (by omega) (by omega)
  have wY : IntKind.i64.wrap Y = Y := wrapIn (by omega) (by omega)
  refine walk Try.func5 (by kernel_rfl) rfl 122 rfl (Nat.le_of_ble_eq_true rfl) fun nid _ => ?_
  refine Tr.seq (Tr.regionK fun K hK => ?_)
  simp (maxSteps := 1000000) [Try.f5, add_add, Region.binds, Int.natCast_inj]
  repeat (first | refine ⟨by omega, ?_⟩ | refine ⟨⟨by omega, by omega⟩, ?_⟩ | refine ⟨rfl, ?_⟩)
  refine hK _ ?_; clear hK K
  refine Tr.seq (Tr.regionK fun K hK => ?_)
  simp (maxSteps := 1000000) [Try.f5, add_add, Region.binds, Int.natCast_inj]
  repeat (first | refine ⟨by omega, ?_⟩ | refine ⟨⟨by omega, by omega⟩, ?_⟩ | refine ⟨rfl, ?_⟩)
  refine .inl ⟨_, hpt, rfl, ?_⟩
  simp (maxSteps := 1000000) [Try.f5, add_add, Region.binds, Int.natCast_inj]
  repeat (first | refine ⟨by omega, ?_⟩ | refine ⟨⟨by omega, by omega⟩, ?_⟩ | refine ⟨rfl, ?_⟩)
  refine hK _ ?_; clear hK K
  refine Tr.seq (Tr.regionE mixed (by kernel_rfl) fun K hK => ?_)
  simp (maxSteps := 1000000) [Try.f5, add_add, Region.binds, Int.natCast_inj, hk5, w0]
  repeat (first | refine ⟨by omega, ?_⟩ | refine ⟨⟨by omega, by omega⟩, ?_⟩ | refine ⟨rfl, ?_⟩)
  refine .inl ⟨_, pcall_round n 5 hn.1 hn.2 (by omega) (by omega), rfl, ?_⟩
  simp (maxSteps := 1000000) [Try.f5, add_add, Region.binds, Int.natCast_inj, hk5, w0]
  repeat (first | refine ⟨by omega, ?_⟩ | refine ⟨⟨by omega, by omega⟩, ?_⟩ | refine ⟨rfl, ?_⟩)
  refine .inl ⟨_, hLi, rfl, ?_⟩
  simp (maxSteps := 1000000) [Try.f5, add_add, Region.binds, Int.natCast_inj, hk5, w0]
  repeat (first | refine ⟨by omega, ?_⟩ | refine ⟨⟨by omega, by omega⟩, ?_⟩ | refine ⟨rfl, ?_⟩)
  refine hK _ ?_; clear hK K
  refine Tr.seq (Tr.regionK fun K hK => ?_)
  simp (maxSteps := 1000000) [Try.f5, add_add, Region.binds, Int.natCast_inj, hmt, hnk, meetP, mtP]
  repeat (first | refine ⟨by omega, ?_⟩ | refine ⟨⟨by omega, by omega⟩, ?_⟩ | refine ⟨rfl, ?_⟩)
  refine .inl ⟨_, pcall_meet T w (by omega), rfl, ?_⟩
  simp (maxSteps := 1000000) [Try.f5, add_add, Region.binds, Int.natCast_inj, hmt, hnk, meetP, mtP]
  repeat (first | refine ⟨by omega, ?_⟩ | refine ⟨⟨by omega, by omega⟩, ?_⟩ | refine ⟨rfl, ?_⟩)
  refine hK _ ?_; clear hK K
  refine Tr.seq (Tr.regionK fun K hK => ?_)
  simp (maxSteps := 1000000) [Try.f5, add_add, Region.binds, Int.natCast_inj, w1, hi, hd]
  repeat (first | refine ⟨by omega, ?_⟩ | refine ⟨⟨by omega, by omega⟩, ?_⟩ | refine ⟨rfl, ?_⟩)
  refine .inl ⟨_, pcall_round k ((w.length : Int) - 1) hk.1 hk.2 (by omega) (by omega), rfl, ?_⟩
  simp (maxSteps := 1000000) [Try.f5, add_add, Region.binds, Int.natCast_inj, w1, hi, hd]
  repeat (first | refine ⟨by omega, ?_⟩ | refine ⟨⟨by omega, by omega⟩, ?_⟩ | refine ⟨rfl, ?_⟩)
  refine .inl ⟨_, pcall_round depth 10 hde.1 hde.2 (by omega) (by omega), rfl, ?_⟩
  simp (maxSteps := 1000000) [Try.f5, add_add, Region.binds, Int.natCast_inj, w1, hi, hd]
  repeat (first | refine ⟨by omega, ?_⟩ | refine ⟨⟨by omega, by omega⟩, ?_⟩ | refine ⟨rfl, ?_⟩)
  refine hK _ ?_; clear hK K
  refine Tr.seq (Tr.regionK fun K hK => ?_)
  simp (maxSteps := 1000000) [Try.f5, add_add, Region.binds, Int.natCast_inj, w2, w3, w4, hP, hmin, hnu, IntKind.bits]
  repeat (first | refine ⟨by omega, ?_⟩ | refine ⟨⟨by omega, by omega⟩, ?_⟩ | refine ⟨rfl, ?_⟩)
  refine .inl ⟨_, pcall_round index ((P : Int) + 1) hin.1 hin.2 (by omega) (by omega), rfl, ?_⟩
  simp (maxSteps := 1000000) [Try.f5, add_add, Region.binds, Int.natCast_inj, w2, w3, w4, hP, hmin, hnu, IntKind.bits]
  repeat (first | refine ⟨by omega, ?_⟩ | refine ⟨⟨by omega, by omega⟩, ?_⟩ | refine ⟨rfl, ?_⟩)
  refine hK _ ?_; clear hK K
  rcases Bool.eq_false_or_eq_true (nk) with s6_0 | s6_0
  · have s6_0' := s6_0
    have hno := fun j c bx p q => hfo i (by omega) (num := nu) (den := P) (by omega) (by omega) (by omega) (.inl (by rw [s6_0]; rfl)) j c bx p q
    refine Tr.seq (Tr.regionK fun K hK => ?_)
    simp (maxSteps := 1000000) [Try.f5, add_add, Region.binds, Int.natCast_inj, s6_0, hne, hX, hY, wX, wY]
    repeat (first | refine ⟨by omega, ?_⟩ | refine ⟨⟨by omega, by omega⟩, ?_⟩ | refine ⟨rfl, ?_⟩)
    refine hK _ ?_; clear hK K
    refine Tr.seq ?_
    refine Tr.seq (Tr.regionK fun K hK => ?_)
    simp (maxSteps := 1000000) [Try.f5, add_add, Region.binds, Int.natCast_inj, s6_0]
    repeat (first | refine ⟨by omega, ?_⟩ | refine ⟨⟨by omega, by omega⟩, ?_⟩ | refine ⟨rfl, ?_⟩)
    refine hK _ ?_; clear hK K
    refine Tr.cond rfl rfl (fun hq0 => by first | (cases hq0; done) | (simp at hq0; done) | (simp_all; done)) (fun hq0 => ?_)
    refine Tr.skip ?_
    refine Tr.seq (Tr.regionK fun K hK => ?_)
    simp (maxSteps := 1000000) [Try.f5, add_add, Region.binds, Int.natCast_inj, s6_0, hh, boxesP]
    repeat (first | refine ⟨by omega, ?_⟩ | refine ⟨⟨by omega, by omega⟩, ?_⟩ | refine ⟨rfl, ?_⟩)
    refine .inl ⟨_, pcall_refBoxes T (by omega), rfl, ?_⟩
    simp (maxSteps := 1000000) [Try.f5, add_add, Region.binds, Int.natCast_inj, s6_0, hh, boxesP]
    repeat (first | refine ⟨by omega, ?_⟩ | refine ⟨⟨by omega, by omega⟩, ?_⟩ | refine ⟨rfl, ?_⟩)
    refine hK _ ?_; clear hK K
    refine Tr.seq ?_
    refine Tr.seq (Tr.regionK fun K hK => ?_)
    simp (maxSteps := 1000000) [Try.f5, add_add, Region.binds, Int.natCast_inj, s6_0]
    repeat (first | refine ⟨by omega, ?_⟩ | refine ⟨⟨by omega, by omega⟩, ?_⟩ | refine ⟨rfl, ?_⟩)
    refine hK _ ?_; clear hK K
    refine Tr.block ?_
    refine Tr.loopP [] [.slot 13] [.slot 13] (fun j : Nat => ([(13, .ptr nid 0 0), (14, .d (.imm (qs w))), (17, .i i), (19, .i nu), (20, .i P), (22, .d (.imm (boxs bl))), (24, .i j)],
    [(nid, ⟨25, 2, [[.d (.imm (ivs T.root)), .d (.imm (cels T.cells))]]⟩)])) (fun j : Nat => j ≤ T.cells.length) (fun j : Nat => T.cells.length - j) 0 rfl ?_ ?_ ?_
    · exact Nat.zero_le _
    · refine ⟨rfl, ?_, ?_, ?_, ?_⟩ <;> simp [add_add, s6_0]
    rintro j hj I hI0
    have wj : IntKind.i64.wrap ((j : Int) + 1) = (j : Int) + 1 := wrapIn (by omega) (by omega)
    refine Tr.seq ?_
    refine Tr.seq (Tr.regionK fun K hK => ?_)
    simp (maxSteps := 1000000) [Try.f5, add_add, Region.binds, Int.natCast_inj, s6_0, wj, hll]
    repeat (first | refine ⟨by omega, ?_⟩ | refine ⟨⟨by omega, by omega⟩, ?_⟩ | refine ⟨rfl, ?_⟩)
    refine hK _ ?_; clear hK K
    refine Tr.cond rfl rfl (fun hqj => ?_) (fun hqj => ?_)
    · simp at hqj
      have hjq : j < T.cells.length := by omega
      have hjb : j < bl.length := by omega
      obtain ⟨c, hc, hc'⟩ : ∃ c, T.cells[j]? = some c ∧ T.cells[j] = c := ⟨T.cells[j], List.getElem?_eq_getElem hjq, rfl⟩
      obtain ⟨bx, hbx, hbx'⟩ : ∃ bx, bl[j]? = some bx ∧ bl[j] = bx := ⟨bl[j], List.getElem?_eq_getElem hjb, rfl⟩
      obtain ⟨nc, hnc⟩ := nc_ex c
      have hbbl := boxes_len hh hbx
      have hbs := boxes_small hh hT3 (List.mem_of_getElem? hbx)
      have hat := fun h => hno j c bx p q hc h hbx hp hq
      rw [hnc] at hat
      refine Tr.skip ?_
      refine Tr.seq ?_
      refine Tr.block ?_
      rcases Bool.eq_false_or_eq_true (nc) with s13_0 | s13_0
      · have s13_0' := s13_0
        refine Tr.seq (Tr.regionE mixed (by kernel_rfl) fun K hK => ?_)
        simp (maxSteps := 1000000) [Try.f5, add_add, Region.binds, Int.natCast_inj, s6_0, wj, hjq, hjb, hc, hc', hbx, hbx', s13_0, hnc]
        repeat (first | refine ⟨by omega, ?_⟩ | refine ⟨⟨by omega, by omega⟩, ?_⟩ | refine ⟨rfl, ?_⟩)
        refine hK _ ?_; clear hK K
        refine Tr.cond rfl rfl (fun hq2 => by first | (cases hq2; done) | (simp at hq2; done) | (simp_all; done)) (fun hq2 => ?_)
        refine Tr.skip ?_
        refine Tr.regionK fun K hK => ?_
        simp (maxSteps := 1000000) [Try.f5, add_add, Region.binds, Int.natCast_inj, s6_0, wj, hjq, hjb, hc, hc', hbx, hbx', s13_0]
        repeat (first | refine ⟨by omega, ?_⟩ | refine ⟨⟨by omega, by omega⟩, ?_⟩ | refine ⟨rfl, ?_⟩)
        refine hK _ ?_; clear hK K
        refine hI0 _ _ (j + 1) (hjq) (by first | (show _ < _; omega) | (simp; omega)) ⟨rfl, ?_, ?_, ?_, ?_⟩ <;> simp [add_add, s6_0, wj, hjq, hjb, hc, hc', hbx, hbx', s13_0]
      have hat2 := hat s13_0
      refine Tr.seq (Tr.regionE mixed (by kernel_rfl) fun K hK => ?_)
      simp (maxSteps := 1000000) [Try.f5, add_add, Region.binds, Int.natCast_inj, s6_0, wj, hjq, hjb, hc, hc', hbx, hbx', s13_0, hnc, hp, hp', hq, hq', hi0, hi1, wi, hat2]
      repeat (first | refine ⟨by omega, ?_⟩ | refine ⟨⟨by omega, by omega⟩, ?_⟩ | refine ⟨rfl, ?_⟩)
      refine .inl ⟨_, pcall_at bx p q nu P (by omega) (by omega) (by omega) hps hqs hbs ⟨by omega, by omega⟩ ⟨by omega, by omega⟩, rfl, ?_⟩
      simp (maxSteps := 1000000) [Try.f5, add_add, Region.binds, Int.natCast_inj, s6_0, wj, hjq, hjb, hc, hc', hbx, hbx', s13_0, hnc, hp, hp', hq, hq', hi0, hi1, wi, hat2]
      repeat (first | refine ⟨by omega, ?_⟩ | refine ⟨⟨by omega, by omega⟩, ?_⟩ | refine ⟨rfl, ?_⟩)
      refine hK _ ?_; clear hK K
      refine Tr.cond rfl rfl (fun hq3 => by first | (cases hq3; done) | (simp at hq3; done) | (simp_all; done)) (fun hq3 => ?_)
      refine Tr.skip ?_
      refine Tr.regionK fun K hK => ?_
      simp (maxSteps := 1000000) [Try.f5, add_add, Region.binds, Int.natCast_inj, s6_0, wj, hjq, hjb, hc, hc', hbx, hbx', s13_0]
      repeat (first | refine ⟨by omega, ?_⟩ | refine ⟨⟨by omega, by omega⟩, ?_⟩ | refine ⟨rfl, ?_⟩)
      refine hK _ ?_; clear hK K
      refine hI0 _ _ (j + 1) (hjq) (by first | (show _ < _; omega) | (simp; omega)) ⟨rfl, ?_, ?_, ?_, ?_⟩ <;> simp [add_add, s6_0, wj, hjq, hjb, hc, hc', hbx, hbx', s13_0]
    simp at hqj
    refine Tr.exit (exit_s (exit_s (exit_b ?_)))
    refine Tr.seq (Tr.regionK fun K hK => ?_)
    simp (maxSteps := 1000000) [Try.f5, add_add, Region.binds, Int.natCast_inj, s6_0, wj]
    repeat (first | refine ⟨by omega, ?_⟩ | refine ⟨⟨by omega, by omega⟩, ?_⟩ | refine ⟨rfl, ?_⟩)
    refine .inl ⟨_, pcall_awake, rfl, ?_⟩
    simp (maxSteps := 1000000) [Try.f5, add_add, Region.binds, Int.natCast_inj, s6_0, wj]
    repeat (first | refine ⟨by omega, ?_⟩ | refine ⟨⟨by omega, by omega⟩, ?_⟩ | refine ⟨rfl, ?_⟩)
    refine hK _ ?_; clear hK K
    refine Tr.ret ⟨.inr rfl, ?_, ?_, ?_, ?_⟩ <;> simp [Try.f5, add_add, s6_0, wj]
  by_cases s6_1 : (i : Int) < x1
  · have s6_1' := s6_1
    have hno := fun j c bx p q => hfo i (by omega) (num := nu) (den := P) (by omega) (by omega) (by omega) (.inr ⟨by rw [s6_0]; rfl, .inl s6_1⟩) j c bx p q
    refine Tr.seq (Tr.regionK fun K hK => ?_)
    simp (maxSteps := 1000000) [Try.f5, add_add, Region.binds, Int.natCast_inj, s6_0, s6_1, hne, hX, hY, wX, wY]
    repeat (first | refine ⟨by omega, ?_⟩ | refine ⟨⟨by omega, by omega⟩, ?_⟩ | refine ⟨rfl, ?_⟩)
    refine hK _ ?_; clear hK K
    refine Tr.seq ?_
    refine Tr.seq (Tr.regionK fun K hK => ?_)
    simp (maxSteps := 1000000) [Try.f5, add_add, Region.binds, Int.natCast_inj, s6_0, s6_1]
    repeat (first | refine ⟨by omega, ?_⟩ | refine ⟨⟨by omega, by omega⟩, ?_⟩ | refine ⟨rfl, ?_⟩)
    refine hK _ ?_; clear hK K
    refine Tr.cond rfl rfl (fun hq4 => by first | (cases hq4; done) | (simp at hq4; done) | (simp_all; done)) (fun hq4 => ?_)
    refine Tr.skip ?_
    refine Tr.seq (Tr.regionK fun K hK => ?_)
    simp (maxSteps := 1000000) [Try.f5, add_add, Region.binds, Int.natCast_inj, s6_0, s6_1, hh, boxesP]
    repeat (first | refine ⟨by omega, ?_⟩ | refine ⟨⟨by omega, by omega⟩, ?_⟩ | refine ⟨rfl, ?_⟩)
    refine .inl ⟨_, pcall_refBoxes T (by omega), rfl, ?_⟩
    simp (maxSteps := 1000000) [Try.f5, add_add, Region.binds, Int.natCast_inj, s6_0, s6_1, hh, boxesP]
    repeat (first | refine ⟨by omega, ?_⟩ | refine ⟨⟨by omega, by omega⟩, ?_⟩ | refine ⟨rfl, ?_⟩)
    refine hK _ ?_; clear hK K
    refine Tr.seq ?_
    refine Tr.seq (Tr.regionK fun K hK => ?_)
    simp (maxSteps := 1000000) [Try.f5, add_add, Region.binds, Int.natCast_inj, s6_0, s6_1]
    repeat (first | refine ⟨by omega, ?_⟩ | refine ⟨⟨by omega, by omega⟩, ?_⟩ | refine ⟨rfl, ?_⟩)
    refine hK _ ?_; clear hK K
    refine Tr.block ?_
    refine Tr.loopP [] [.slot 13] [.slot 13] (fun j : Nat => ([(13, .ptr nid 0 0), (14, .d (.imm (qs w))), (17, .i i), (19, .i nu), (20, .i P), (22, .d (.imm (boxs bl))), (24, .i j)],
    [(nid, ⟨25, 2, [[.d (.imm (ivs T.root)), .d (.imm (cels T.cells))]]⟩)])) (fun j : Nat => j ≤ T.cells.length) (fun j : Nat => T.cells.length - j) 0 rfl ?_ ?_ ?_
    · exact Nat.zero_le _
    · refine ⟨rfl, ?_, ?_, ?_, ?_⟩ <;> simp [add_add, s6_0, s6_1]
    rintro j hj I hI0
    have wj : IntKind.i64.wrap ((j : Int) + 1) = (j : Int) + 1 := wrapIn (by omega) (by omega)
    refine Tr.seq ?_
    refine Tr.seq (Tr.regionK fun K hK => ?_)
    simp (maxSteps := 1000000) [Try.f5, add_add, Region.binds, Int.natCast_inj, s6_0, s6_1, wj, hll]
    repeat (first | refine ⟨by omega, ?_⟩ | refine ⟨⟨by omega, by omega⟩, ?_⟩ | refine ⟨rfl, ?_⟩)
    refine hK _ ?_; clear hK K
    refine Tr.cond rfl rfl (fun hqj => ?_) (fun hqj => ?_)
    · simp at hqj
      have hjq : j < T.cells.length := by omega
      have hjb : j < bl.length := by omega
      obtain ⟨c, hc, hc'⟩ : ∃ c, T.cells[j]? = some c ∧ T.cells[j] = c := ⟨T.cells[j], List.getElem?_eq_getElem hjq, rfl⟩
      obtain ⟨bx, hbx, hbx'⟩ : ∃ bx, bl[j]? = some bx ∧ bl[j] = bx := ⟨bl[j], List.getElem?_eq_getElem hjb, rfl⟩
      obtain ⟨nc, hnc⟩ := nc_ex c
      have hbbl := boxes_len hh hbx
      have hbs := boxes_small hh hT3 (List.mem_of_getElem? hbx)
      have hat := fun h => hno j c bx p q hc h hbx hp hq
      rw [hnc] at hat
      refine Tr.skip ?_
      refine Tr.seq ?_
      refine Tr.block ?_
      rcases Bool.eq_false_or_eq_true (nc) with s13_0 | s13_0
      · have s13_0' := s13_0
        refine Tr.seq (Tr.regionE mixed (by kernel_rfl) fun K hK => ?_)
        simp (maxSteps := 1000000) [Try.f5, add_add, Region.binds, Int.natCast_inj, s6_0, s6_1, wj, hjq, hjb, hc, hc', hbx, hbx', s13_0, hnc]
        repeat (first | refine ⟨by omega, ?_⟩ | refine ⟨⟨by omega, by omega⟩, ?_⟩ | refine ⟨rfl, ?_⟩)
        refine hK _ ?_; clear hK K
        refine Tr.cond rfl rfl (fun hq6 => by first | (cases hq6; done) | (simp at hq6; done) | (simp_all; done)) (fun hq6 => ?_)
        refine Tr.skip ?_
        refine Tr.regionK fun K hK => ?_
        simp (maxSteps := 1000000) [Try.f5, add_add, Region.binds, Int.natCast_inj, s6_0, s6_1, wj, hjq, hjb, hc, hc', hbx, hbx', s13_0]
        repeat (first | refine ⟨by omega, ?_⟩ | refine ⟨⟨by omega, by omega⟩, ?_⟩ | refine ⟨rfl, ?_⟩)
        refine hK _ ?_; clear hK K
        refine hI0 _ _ (j + 1) (hjq) (by first | (show _ < _; omega) | (simp; omega)) ⟨rfl, ?_, ?_, ?_, ?_⟩ <;> simp [add_add, s6_0, s6_1, wj, hjq, hjb, hc, hc', hbx, hbx', s13_0]
      have hat2 := hat s13_0
      refine Tr.seq (Tr.regionE mixed (by kernel_rfl) fun K hK => ?_)
      simp (maxSteps := 1000000) [Try.f5, add_add, Region.binds, Int.natCast_inj, s6_0, s6_1, wj, hjq, hjb, hc, hc', hbx, hbx', s13_0, hnc, hp, hp', hq, hq', hi0, hi1, wi, hat2]
      repeat (first | refine ⟨by omega, ?_⟩ | refine ⟨⟨by omega, by omega⟩, ?_⟩ | refine ⟨rfl, ?_⟩)
      refine .inl ⟨_, pcall_at bx p q nu P (by omega) (by omega) (by omega) hps hqs hbs ⟨by omega, by omega⟩ ⟨by omega, by omega⟩, rfl, ?_⟩
      simp (maxSteps := 1000000) [Try.f5, add_add, Region.binds, Int.natCast_inj, s6_0, s6_1, wj, hjq, hjb, hc, hc', hbx, hbx', s13_0, hnc, hp, hp', hq, hq', hi0, hi1, wi, hat2]
      repeat (first | refine ⟨by omega, ?_⟩ | refine ⟨⟨by omega, by omega⟩, ?_⟩ | refine ⟨rfl, ?_⟩)
      refine hK _ ?_; clear hK K
      refine Tr.cond rfl rfl (fun hq7 => by first | (cases hq7; done) | (simp at hq7; done) | (simp_all; done)) (fun hq7 => ?_)
      refine Tr.skip ?_
      refine Tr.regionK fun K hK => ?_
      simp (maxSteps := 1000000) [Try.f5, add_add, Region.binds, Int.natCast_inj, s6_0, s6_1, wj, hjq, hjb, hc, hc', hbx, hbx', s13_0]
      repeat (first | refine ⟨by omega, ?_⟩ | refine ⟨⟨by omega, by omega⟩, ?_⟩ | refine ⟨rfl, ?_⟩)
      refine hK _ ?_; clear hK K
      refine hI0 _ _ (j + 1) (hjq) (by first | (show _ < _; omega) | (simp; omega)) ⟨rfl, ?_, ?_, ?_, ?_⟩ <;> simp [add_add, s6_0, s6_1, wj, hjq, hjb, hc, hc', hbx, hbx', s13_0]
    simp at hqj
    refine Tr.exit (exit_s (exit_s (exit_b ?_)))
    refine Tr.seq (Tr.regionK fun K hK => ?_)
    simp (maxSteps := 1000000) [Try.f5, add_add, Region.binds, Int.natCast_inj, s6_0, s6_1, wj]
    repeat (first | refine ⟨by omega, ?_⟩ | refine ⟨⟨by omega, by omega⟩, ?_⟩ | refine ⟨rfl, ?_⟩)
    refine .inl ⟨_, pcall_awake, rfl, ?_⟩
    simp (maxSteps := 1000000) [Try.f5, add_add, Region.binds, Int.natCast_inj, s6_0, s6_1, wj]
    repeat (first | refine ⟨by omega, ?_⟩ | refine ⟨⟨by omega, by omega⟩, ?_⟩ | refine ⟨rfl, ?_⟩)
    refine hK _ ?_; clear hK K
    refine Tr.ret ⟨.inr rfl, ?_, ?_, ?_, ?_⟩ <;> simp [Try.f5, add_add, s6_0, s6_1, wj]
  rcases Bool.eq_false_or_eq_true (ne) with s6_2 | s6_2
  · have s6_2' := s6_2
    refine Tr.seq (Tr.regionK fun K hK => ?_)
    simp (maxSteps := 1000000) [Try.f5, add_add, Region.binds, Int.natCast_inj, s6_0, s6_1, s6_2, hne, hX, hY, wX, wY]
    repeat (first | refine ⟨by omega, ?_⟩ | refine ⟨⟨by omega, by omega⟩, ?_⟩ | refine ⟨rfl, ?_⟩)
    refine hK _ ?_; clear hK K
    refine Tr.seq ?_
    refine Tr.seq (Tr.regionK fun K hK => ?_)
    simp (maxSteps := 1000000) [Try.f5, add_add, Region.binds, Int.natCast_inj, s6_0, s6_1, s6_2]
    repeat (first | refine ⟨by omega, ?_⟩ | refine ⟨⟨by omega, by omega⟩, ?_⟩ | refine ⟨rfl, ?_⟩)
    refine hK _ ?_; clear hK K
    refine Tr.cond rfl rfl (fun hq8 => ?_) (fun hq8 => by first | (cases hq8; done) | (simp at hq8; done) | (simp_all; done))
    refine Tr.seq (Tr.regionK fun K hK => ?_)
    simp (maxSteps := 1000000) [Try.f5, add_add, Region.binds, Int.natCast_inj, s6_0, s6_1, s6_2]
    repeat (first | refine ⟨by omega, ?_⟩ | refine ⟨⟨by omega, by omega⟩, ?_⟩ | refine ⟨rfl, ?_⟩)
    refine .inl ⟨_, pcall_awake, rfl, ?_⟩
    simp (maxSteps := 1000000) [Try.f5, add_add, Region.binds, Int.natCast_inj, s6_0, s6_1, s6_2]
    repeat (first | refine ⟨by omega, ?_⟩ | refine ⟨⟨by omega, by omega⟩, ?_⟩ | refine ⟨rfl, ?_⟩)
    refine hK _ ?_; clear hK K
    refine Tr.ret ⟨.inr rfl, ?_, ?_, ?_, ?_⟩ <;> simp [Try.f5, add_add, s6_0, s6_1, s6_2]
  by_cases s6_3 : X < Y
  · have s6_3' := s6_3
    have hno := fun j c bx p q => hfo i (by omega) (num := nu) (den := P) (by omega) (by omega) (by omega) (.inr ⟨by rw [s6_0]; rfl, .inr ⟨hne.mpr s6_2, by rw [hX, hY]; exact s6_3⟩⟩) j c bx p q
    refine Tr.seq (Tr.regionK fun K hK => ?_)
    simp (maxSteps := 1000000) [Try.f5, add_add, Region.binds, Int.natCast_inj, s6_0, s6_1, s6_2, s6_3, hne, hX, hY, wX, wY]
    repeat (first | refine ⟨by omega, ?_⟩ | refine ⟨⟨by omega, by omega⟩, ?_⟩ | refine ⟨rfl, ?_⟩)
    refine hK _ ?_; clear hK K
    refine Tr.seq ?_
    refine Tr.seq (Tr.regionK fun K hK => ?_)
    simp (maxSteps := 1000000) [Try.f5, add_add, Region.binds, Int.natCast_inj, s6_0, s6_1, s6_2, s6_3]
    repeat (first | refine ⟨by omega, ?_⟩ | refine ⟨⟨by omega, by omega⟩, ?_⟩ | refine ⟨rfl, ?_⟩)
    refine hK _ ?_; clear hK K
    refine Tr.cond rfl rfl (fun hq9 => by first | (cases hq9; done) | (simp at hq9; done) | (simp_all; done)) (fun hq9 => ?_)
    refine Tr.skip ?_
    refine Tr.seq (Tr.regionK fun K hK => ?_)
    simp (maxSteps := 1000000) [Try.f5, add_add, Region.binds, Int.natCast_inj, s6_0, s6_1, s6_2, s6_3, hh, boxesP]
    repeat (first | refine ⟨by omega, ?_⟩ | refine ⟨⟨by omega, by omega⟩, ?_⟩ | refine ⟨rfl, ?_⟩)
    refine .inl ⟨_, pcall_refBoxes T (by omega), rfl, ?_⟩
    simp (maxSteps := 1000000) [Try.f5, add_add, Region.binds, Int.natCast_inj, s6_0, s6_1, s6_2, s6_3, hh, boxesP]
    repeat (first | refine ⟨by omega, ?_⟩ | refine ⟨⟨by omega, by omega⟩, ?_⟩ | refine ⟨rfl, ?_⟩)
    refine hK _ ?_; clear hK K
    refine Tr.seq ?_
    refine Tr.seq (Tr.regionK fun K hK => ?_)
    simp (maxSteps := 1000000) [Try.f5, add_add, Region.binds, Int.natCast_inj, s6_0, s6_1, s6_2, s6_3]
    repeat (first | refine ⟨by omega, ?_⟩ | refine ⟨⟨by omega, by omega⟩, ?_⟩ | refine ⟨rfl, ?_⟩)
    refine hK _ ?_; clear hK K
    refine Tr.block ?_
    refine Tr.loopP [] [.slot 13] [.slot 13] (fun j : Nat => ([(13, .ptr nid 0 0), (14, .d (.imm (qs w))), (17, .i i), (19, .i nu), (20, .i P), (22, .d (.imm (boxs bl))), (24, .i j)],
    [(nid, ⟨25, 2, [[.d (.imm (ivs T.root)), .d (.imm (cels T.cells))]]⟩)])) (fun j : Nat => j ≤ T.cells.length) (fun j : Nat => T.cells.length - j) 0 rfl ?_ ?_ ?_
    · exact Nat.zero_le _
    · refine ⟨rfl, ?_, ?_, ?_, ?_⟩ <;> simp [add_add, s6_0, s6_1, s6_2, s6_3]
    rintro j hj I hI0
    have wj : IntKind.i64.wrap ((j : Int) + 1) = (j : Int) + 1 := wrapIn (by omega) (by omega)
    refine Tr.seq ?_
    refine Tr.seq (Tr.regionK fun K hK => ?_)
    simp (maxSteps := 1000000) [Try.f5, add_add, Region.binds, Int.natCast_inj, s6_0, s6_1, s6_2, s6_3, wj, hll]
    repeat (first | refine ⟨by omega, ?_⟩ | refine ⟨⟨by omega, by omega⟩, ?_⟩ | refine ⟨rfl, ?_⟩)
    refine hK _ ?_; clear hK K
    refine Tr.cond rfl rfl (fun hqj => ?_) (fun hqj => ?_)
    · simp at hqj
      have hjq : j < T.cells.length := by omega
      have hjb : j < bl.length := by omega
      obtain ⟨c, hc, hc'⟩ : ∃ c, T.cells[j]? = some c ∧ T.cells[j] = c := ⟨T.cells[j], List.getElem?_eq_getElem hjq, rfl⟩
      obtain ⟨bx, hbx, hbx'⟩ : ∃ bx, bl[j]? = some bx ∧ bl[j] = bx := ⟨bl[j], List.getElem?_eq_getElem hjb, rfl⟩
      obtain ⟨nc, hnc⟩ := nc_ex c
      have hbbl := boxes_len hh hbx
      have hbs := boxes_small hh hT3 (List.mem_of_getElem? hbx)
      have hat := fun h => hno j c bx p q hc h hbx hp hq
      rw [hnc] at hat
      refine Tr.skip ?_
      refine Tr.seq ?_
      refine Tr.block ?_
      rcases Bool.eq_false_or_eq_true (nc) with s13_0 | s13_0
      · have s13_0' := s13_0
        refine Tr.seq (Tr.regionE mixed (by kernel_rfl) fun K hK => ?_)
        simp (maxSteps := 1000000) [Try.f5, add_add, Region.binds, Int.natCast_inj, s6_0, s6_1, s6_2, s6_3, wj, hjq, hjb, hc, hc', hbx, hbx', s13_0, hnc]
        repeat (first | refine ⟨by omega, ?_⟩ | refine ⟨⟨by omega, by omega⟩, ?_⟩ | refine ⟨rfl, ?_⟩)
        refine hK _ ?_; clear hK K
        refine Tr.cond rfl rfl (fun hq11 => by first | (cases hq11; done) | (simp at hq11; done) | (simp_all; done)) (fun hq11 => ?_)
        refine Tr.skip ?_
        refine Tr.regionK fun K hK => ?_
        simp (maxSteps := 1000000) [Try.f5, add_add, Region.binds, Int.natCast_inj, s6_0, s6_1, s6_2, s6_3, wj, hjq, hjb, hc, hc', hbx, hbx', s13_0]
        repeat (first | refine ⟨by omega, ?_⟩ | refine ⟨⟨by omega, by omega⟩, ?_⟩ | refine ⟨rfl, ?_⟩)
        refine hK _ ?_; clear hK K
        refine hI0 _ _ (j + 1) (hjq) (by first | (show _ < _; omega) | (simp; omega)) ⟨rfl, ?_, ?_, ?_, ?_⟩ <;> simp [add_add, s6_0, s6_1, s6_2, s6_3, wj, hjq, hjb, hc, hc', hbx, hbx', s13_0]
      have hat2 := hat s13_0
      refine Tr.seq (Tr.regionE mixed (by kernel_rfl) fun K hK => ?_)
      simp (maxSteps := 1000000) [Try.f5, add_add, Region.binds, Int.natCast_inj, s6_0, s6_1, s6_2, s6_3, wj, hjq, hjb, hc, hc', hbx, hbx', s13_0, hnc, hp, hp', hq, hq', hi0, hi1, wi, hat2]
      repeat (first | refine ⟨by omega, ?_⟩ | refine ⟨⟨by omega, by omega⟩, ?_⟩ | refine ⟨rfl, ?_⟩)
      refine .inl ⟨_, pcall_at bx p q nu P (by omega) (by omega) (by omega) hps hqs hbs ⟨by omega, by omega⟩ ⟨by omega, by omega⟩, rfl, ?_⟩
      simp (maxSteps := 1000000) [Try.f5, add_add, Region.binds, Int.natCast_inj, s6_0, s6_1, s6_2, s6_3, wj, hjq, hjb, hc, hc', hbx, hbx', s13_0, hnc, hp, hp', hq, hq', hi0, hi1, wi, hat2]
      repeat (first | refine ⟨by omega, ?_⟩ | refine ⟨⟨by omega, by omega⟩, ?_⟩ | refine ⟨rfl, ?_⟩)
      refine hK _ ?_; clear hK K
      refine Tr.cond rfl rfl (fun hq12 => by first | (cases hq12; done) | (simp at hq12; done) | (simp_all; done)) (fun hq12 => ?_)
      refine Tr.skip ?_
      refine Tr.regionK fun K hK => ?_
      simp (maxSteps := 1000000) [Try.f5, add_add, Region.binds, Int.natCast_inj, s6_0, s6_1, s6_2, s6_3, wj, hjq, hjb, hc, hc', hbx, hbx', s13_0]
      repeat (first | refine ⟨by omega, ?_⟩ | refine ⟨⟨by omega, by omega⟩, ?_⟩ | refine ⟨rfl, ?_⟩)
      refine hK _ ?_; clear hK K
      refine hI0 _ _ (j + 1) (hjq) (by first | (show _ < _; omega) | (simp; omega)) ⟨rfl, ?_, ?_, ?_, ?_⟩ <;> simp [add_add, s6_0, s6_1, s6_2, s6_3, wj, hjq, hjb, hc, hc', hbx, hbx', s13_0]
    simp at hqj
    refine Tr.exit (exit_s (exit_s (exit_b ?_)))
    refine Tr.seq (Tr.regionK fun K hK => ?_)
    simp (maxSteps := 1000000) [Try.f5, add_add, Region.binds, Int.natCast_inj, s6_0, s6_1, s6_2, s6_3, wj]
    repeat (first | refine ⟨by omega, ?_⟩ | refine ⟨⟨by omega, by omega⟩, ?_⟩ | refine ⟨rfl, ?_⟩)
    refine .inl ⟨_, pcall_awake, rfl, ?_⟩
    simp (maxSteps := 1000000) [Try.f5, add_add, Region.binds, Int.natCast_inj, s6_0, s6_1, s6_2, s6_3, wj]
    repeat (first | refine ⟨by omega, ?_⟩ | refine ⟨⟨by omega, by omega⟩, ?_⟩ | refine ⟨rfl, ?_⟩)
    refine hK _ ?_; clear hK K
    refine Tr.ret ⟨.inr rfl, ?_, ?_, ?_, ?_⟩ <;> simp [Try.f5, add_add, s6_0, s6_1, s6_2, s6_3, wj]
  refine Tr.seq (Tr.regionK fun K hK => ?_)
  simp (maxSteps := 1000000) [Try.f5, add_add, Region.binds, Int.natCast_inj, s6_0, s6_1, s6_2, s6_3, hne, hX, hY, wX, wY]
  repeat (first | refine ⟨by omega, ?_⟩ | refine ⟨⟨by omega, by omega⟩, ?_⟩ | refine ⟨rfl, ?_⟩)
  refine hK _ ?_; clear hK K
  refine Tr.seq ?_
  refine Tr.seq (Tr.regionK fun K hK => ?_)
  simp (maxSteps := 1000000) [Try.f5, add_add, Region.binds, Int.natCast_inj, s6_0, s6_1, s6_2, s6_3]
  repeat (first | refine ⟨by omega, ?_⟩ | refine ⟨⟨by omega, by omega⟩, ?_⟩ | refine ⟨rfl, ?_⟩)
  refine hK _ ?_; clear hK K
  refine Tr.cond rfl rfl (fun hq13 => ?_) (fun hq13 => by first | (cases hq13; done) | (simp at hq13; done) | (simp_all; done))
  refine Tr.seq (Tr.regionK fun K hK => ?_)
  simp (maxSteps := 1000000) [Try.f5, add_add, Region.binds, Int.natCast_inj, s6_0, s6_1, s6_2, s6_3]
  repeat (first | refine ⟨by omega, ?_⟩ | refine ⟨⟨by omega, by omega⟩, ?_⟩ | refine ⟨rfl, ?_⟩)
  refine .inl ⟨_, pcall_awake, rfl, ?_⟩
  simp (maxSteps := 1000000) [Try.f5, add_add, Region.binds, Int.natCast_inj, s6_0, s6_1, s6_2, s6_3]
  repeat (first | refine ⟨by omega, ?_⟩ | refine ⟨⟨by omega, by omega⟩, ?_⟩ | refine ⟨rfl, ?_⟩)
  refine hK _ ?_; clear hK K
  refine Tr.ret ⟨.inr rfl, ?_, ?_, ?_, ?_⟩ <;> simp [Try.f5, add_add, s6_0, s6_1, s6_2, s6_3]
end Go.Proofs.Ytmljpbhmdjpbaaa
