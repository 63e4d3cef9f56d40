/- New trees, splitting, settling. Settling. What is made: labels, middles, numbers with a sign. Roots that are made. Configurations that are made. Polylines that are made. Plain laws of trees: splitting and settling keep a tree valid; a valid tree has a leaf. Trees that are made: dividing. -/
import Derived.Test.YtmljpbhmdjpbaaaM2
namespace Go.Proofs.Ytmljpbhmdjpbaaa
set_option linter.unusedVariables false
set_option linter.unusedSimpArgs false
open Go.PM

abbrev leafCel : Cel := ⟨-1, -1, -1, ⟨0, [], ⟨0, [], []⟩⟩⟩
def newTree (r : List Iv) : Option Tree := if (boxesT ⟨r, [leafCel]⟩).isSome = true then some ⟨r, [leafCel]⟩ else none
def newTreeP : Option Tree → PV
  | none => .tup [.agg [nilP, nilP], .b false]
  | some t => .tup [treeP t, .b true]
set_option maxRecDepth 8000 in
set_option maxHeartbeats 4000000 in
theorem pcall_newTree (r : List Iv) (hr : r.length ≤ 1048576) :
    PCall Try.prog 52 [.d (.imm (ivs r))] (newTreeP (newTree r)) := by
  refine walk Try.func52 (by kernel_rfl) rfl 14 rfl (Nat.le_of_ble_eq_true rfl) fun nid _ => ?_
  refine Tr.seq (Tr.regionK fun K hK => ?_)
  simp (maxSteps := 1000000) [add_add]
  refine hK _ ?_; clear hK K
  refine Tr.seq (Tr.regionK fun K hK => ?_)
  simp (maxSteps := 1000000) [add_add]
  refine hK _ ?_; clear hK K
  refine Tr.toSt [(2, .ptr nid 0 0), (3, .b false), (4, .ptr (nid + 24) 0 0)] [(nid, ⟨25, 2, [[nilP, nilP]]⟩), (nid + 16, ⟨50, 8, upm celD [leafCel]⟩), (nid + 24, ⟨25, 2, [[.d (.imm (ivs r)), .own (nid + 16) 8 0 1]]⟩)] ?_ ?_ ?_
  · simp
  · simp [upm, up]; refine ⟨rfl, rfl, ?_⟩; simp [elsLe, cellsLe, LeX.refl, LeX.nilImm]
  refine Tr.freezeM (nid + 16) celD [leafCel] [(2, .ptr nid 0 0), (3, .b false), (4, .ptr (nid + 24) 0 0)] [(nid, ⟨25, 2, [[nilP, nilP]]⟩), (nid + 24, ⟨25, 2, [[.d (.imm (ivs r)), .d (.imm (cels [leafCel]))]]⟩)] (ty := 50) (sz := 8) ?_ ?_ ?_ ?_ ?_
  · simp
  · simp
  · simp
  · simp
  refine Tr.seq ?_
  rcases Bool.eq_false_or_eq_true ((boxesT ⟨r, [leafCel]⟩).isSome) with s2_0 | s2_0
  · have s2_0' := s2_0
    have hf : newTree r = some ⟨r, [leafCel]⟩ := by unfold newTree; rw [if_pos s2_0]
    refine Tr.seq (Tr.regionK fun K hK => ?_)
    simp (maxSteps := 1000000) [add_add]
    refine .inl ⟨_, pcall_refValidTree ⟨r, [leafCel]⟩ hr, rfl, ?_⟩
    simp (maxSteps := 1000000) [add_add, s2_0]
    refine hK _ ?_; clear hK K
    refine Tr.cond rfl rfl (fun hq0 => by first | (cases hq0; done) | (simp at hq0; done) | (simp_all; done)) (fun hq0 => ?_)
    refine Tr.skip ?_
    refine Tr.seq (Tr.regionK fun K hK => ?_)
    simp (maxSteps := 1000000) [add_add]
    refine hK _ ?_; clear hK K
    refine Tr.ret ⟨.inr rfl, ?_, ?_, ?_, ?_⟩ <;> simp [Try.f52, hf, newTreeP]
  have hf : newTree r = none := by unfold newTree; rw [if_neg (by simp [s2_0])]
  refine Tr.seq (Tr.regionK fun K hK => ?_)
  simp (maxSteps := 1000000) [add_add]
  refine .inl ⟨_, pcall_refValidTree ⟨r, [leafCel]⟩ hr, rfl, ?_⟩
  simp (maxSteps := 1000000) [add_add, s2_0]
  refine hK _ ?_; clear hK K
  refine Tr.cond rfl rfl (fun hq1 => ?_) (fun hq1 => by first | (cases hq1; done) | (simp at hq1; done) | (simp_all; done))
  refine Tr.seq (Tr.regionK fun K hK => ?_)
  simp (maxSteps := 1000000) [add_add]
  refine hK _ ?_; clear hK K
  refine Tr.ret ⟨.inr rfl, ?_, ?_, ?_, ?_⟩ <;> simp [Try.f52, hf, newTreeP]
theorem boxes_len {t : Tree} {l : List (List Iv)} (h : boxesT t = some l) {k : Nat} {b : List Iv} (hb : l[k]? = some b) : b.length = t.root.length := by
  obtain ⟨h1, h2⟩ := boxesT_iff h
  exact (bst_inv h2 (Nat.le_refl _)).2.1 b (List.mem_map.2 ⟨b, List.mem_of_getElem? hb, rfl⟩)
theorem root_len {t : Tree} {l : List (List Iv)} (h : boxesT t = some l) : t.root.length ≤ 10 := (treeOk_iff.1 (boxesT_iff h).1).1.2.1
theorem cells_len {t : Tree} {l : List (List Iv)} (h : boxesT t = some l) : t.cells.length ≤ 2048 := (treeOk_iff.1 (boxesT_iff h).1).2.2
theorem upm_fold {α : Type} (f : α → List DV) (l : List α) : List.map ((fun x => List.map PV.d x) ∘ f) l = upm f l := by simp [upm, up]
theorem cellsLe_refl (ds : List DV) : cellsLe none (ds.map .d) (ds.map .d) := by
  induction ds with
  | nil => trivial
  | cons d ds ih => exact ⟨LeX.refl _ _, rfl, ih⟩
theorem elsLe_upm {α : Type} (f : α → List DV) (l : List α) : elsLe none (upm f l) (upm f l) := by
  induction l with
  | nil => trivial
  | cons x l ih => exact ⟨cellsLe_refl _, ih⟩
theorem elsLe_set {α : Type} (f : α → List DV) (e : List PV) (y : α) (h : cellsLe none e ((f y).map .d)) : ∀ (l : List α) (k : Nat), elsLe none ((upm f l).set k e) (upm f (l.set k y))
  | [], _ => trivial
  | x :: l, 0 => ⟨h, elsLe_upm f l⟩
  | x :: l, k + 1 => ⟨cellsLe_refl _, elsLe_set f e y h l k⟩
theorem elsLe_app : ∀ {a b c d : List (List PV)}, elsLe none a b → elsLe none c d → elsLe none (a ++ c) (b ++ d)
  | [], [], _, _, _, h => h
  | _ :: _, _ :: _, _, _, h, k => ⟨h.1, elsLe_app h.2 k⟩
  | [], _ :: _, _, _, h, _ => h.elim
  | _ :: _, [], _, _, h, _ => h.elim
abbrev zeroVd : Vd := ⟨0, [], ⟨0, [], []⟩⟩
def splitCell (t : Tree) (i j : Int) : Option Tree := (boxesT t).bind fun l =>
  if i < 0 then none else match t.cells[i.toNat]?, l[i.toNat]? with
    | some c, some b => if c.leaf = true ∧ ¬ 2048 < (l.length : Int) + 2 ∧ (halve b j).isSome = true then some ⟨t.root, t.cells.set i.toNat ⟨j, l.length, l.length + 1, zeroVd⟩ ++ [c, c]⟩ else none
    | _, _ => none
def splitP (t : Tree) : Option Tree → PV
  | none => .tup [treeP t, .b false]
  | some t' => .tup [treeP t', .b true]
set_option maxRecDepth 8000 in
set_option maxHeartbeats 4000000 in
theorem pcall_splitCell (t : Tree) (i j : Int) (hr : t.root.length ≤ 1048576) :
    PCall Try.prog 103 [treeP t, .i i, .i j] (splitP t (splitCell t i j)) := by
  refine walk Try.func103 (by kernel_rfl) rfl 92 rfl (Nat.le_of_ble_eq_true rfl) fun nid _ => ?_
  refine Tr.seq (Tr.regionK fun K hK => ?_)
  simp (maxSteps := 1000000) [add_add]
  refine hK _ ?_; clear hK K
  rcases Bool.eq_false_or_eq_true ((boxesT t).isSome) with s1_0 | s1_0
  · have s1_0' := s1_0
    obtain ⟨l, hh⟩ := Option.isSome_iff_exists.1 s1_0
    have hll := boxesT_length hh
    have hl1 := cells_len hh
    have hl2 := root_len hh
    have w2 : IntKind.i64.wrap ((l.length : Int) + 2) = (l.length : Int) + 2 := wrapIn (by omega) (by omega)
    have w1 : IntKind.i64.wrap ((l.length : Int) + 1) = (l.length : Int) + 1 := wrapIn (by omega) (by omega)
    refine Tr.seq (Tr.regionK fun K hK => ?_)
    simp (maxSteps := 1000000) [add_add]
    refine .inl ⟨_, pcall_refBoxes t hr, rfl, ?_⟩
    simp (maxSteps := 1000000) [add_add, hh, boxesP]
    refine hK _ ?_; clear hK K
    refine Tr.seq ?_
    by_cases s2_0 : i < 0
    · have s2_0' := s2_0
      have hf : splitCell t i j = none := by unfold splitCell; rw [hh]; simp [s2_0]
      refine Tr.seq (Tr.regionK fun K hK => ?_)
      simp (maxSteps := 1000000) [add_add, s2_0]
      refine hK _ ?_; clear hK K
      refine Tr.cond rfl rfl (fun hq0 => ?_) (fun hq0 => by first | (cases hq0; done) | (simp at hq0; done) | (simp_all; done))
      refine Tr.seq (Tr.regionK fun K hK => ?_)
      simp (maxSteps := 1000000) [add_add]
      refine hK _ ?_; clear hK K
      refine Tr.ret ⟨.inr rfl, ?_, ?_, ?_, ?_⟩ <;> simp [Try.f103, hf, splitP]
    obtain ⟨k, rfl⟩ := Int.eq_ofNat_of_zero_le (Int.not_lt.1 s2_0)
    have hk0 : ¬ ((k : Int) < 0) := s2_0
    by_cases s2_1 : l.length ≤ k
    · have s2_1' := s2_1
      have hf : splitCell t (k : Int) j = none := by unfold splitCell; rw [hh]; simp [show ¬ k < l.length from by omega]
      refine Tr.seq (Tr.regionK fun K hK => ?_)
      simp (maxSteps := 1000000) [add_add, s2_0, s2_1]
      refine hK _ ?_; clear hK K
      refine Tr.cond rfl rfl (fun hq1 => ?_) (fun hq1 => by first | (cases hq1; done) | (simp at hq1; done) | (simp_all; done))
      refine Tr.seq (Tr.regionK fun K hK => ?_)
      simp (maxSteps := 1000000) [add_add]
      refine hK _ ?_; clear hK K
      refine Tr.ret ⟨.inr rfl, ?_, ?_, ?_, ?_⟩ <;> simp [Try.f103, hf, splitP]
    have hk1 : k < t.cells.length := by omega
    have hk2 : k < l.length := by omega
    obtain ⟨b, hb⟩ : ∃ b, l[k]? = some b := ⟨_, List.getElem?_eq_getElem hk2⟩
    have hb2 := bx_at hb
    have hbl := boxes_len hh hb
    obtain ⟨c, hc, hc'⟩ : ∃ c, t.cells[k]? = some c ∧ t.cells[k] = c := ⟨t.cells[k], List.getElem?_eq_getElem hk1, rfl⟩
    rcases Bool.eq_false_or_eq_true ((!c.leaf)) with s2_2 | s2_2
    · have s2_2' := s2_2
      have hf : splitCell t (k : Int) j = none := by unfold splitCell; rw [hh]; simp only [Bool.not_eq_true'] at s2_2; simp [hc, hb, s2_2]
      refine Tr.seq (Tr.regionK fun K hK => ?_)
      simp (maxSteps := 1000000) [add_add, s2_0, s2_1, hk1, hc']
      refine .inl ⟨_, pcall_refLeaf c, rfl, ?_⟩
      simp (maxSteps := 1000000) [add_add, s2_2]
      refine hK _ ?_; clear hK K
      refine Tr.cond rfl rfl (fun hq2 => ?_) (fun hq2 => by first | (cases hq2; done) | (simp at hq2; done) | (simp_all; done))
      refine Tr.seq (Tr.regionK fun K hK => ?_)
      simp (maxSteps := 1000000) [add_add]
      refine hK _ ?_; clear hK K
      refine Tr.ret ⟨.inr rfl, ?_, ?_, ?_, ?_⟩ <;> simp [Try.f103, hf, splitP]
    have hlf : c.leaf = true := by simpa using s2_2
    by_cases s2_3 : 2048 < (l.length : Int) + 2
    · have s2_3' := s2_3
      have hf : splitCell t (k : Int) j = none := by unfold splitCell; rw [hh]; simp [hc, hb]; intros; omega
      refine Tr.seq (Tr.regionK fun K hK => ?_)
      simp (maxSteps := 1000000) [add_add, s2_0, s2_1, hk1, hc']
      refine .inl ⟨_, pcall_refLeaf c, rfl, ?_⟩
      simp (maxSteps := 1000000) [add_add, hlf, s2_3, w2]
      refine hK _ ?_; clear hK K
      refine Tr.cond rfl rfl (fun hq3 => ?_) (fun hq3 => by first | (cases hq3; done) | (simp at hq3; done) | (simp_all; done))
      refine Tr.seq (Tr.regionK fun K hK => ?_)
      simp (maxSteps := 1000000) [add_add]
      refine hK _ ?_; clear hK K
      refine Tr.ret ⟨.inr rfl, ?_, ?_, ?_, ?_⟩ <;> simp [Try.f103, hf, splitP]
    refine Tr.seq (Tr.regionK fun K hK => ?_)
    simp (maxSteps := 1000000) [add_add, s2_0, s2_1, hk1, hc']
    refine .inl ⟨_, pcall_refLeaf c, rfl, ?_⟩
    simp (maxSteps := 1000000) [add_add, hlf, s2_3, w2]
    refine hK _ ?_; clear hK K
    refine Tr.cond rfl rfl (fun hq4 => by first | (cases hq4; done) | (simp at hq4; done) | (simp_all; done)) (fun hq4 => ?_)
    refine Tr.skip ?_
    refine Tr.seq ?_
    rcases Bool.eq_false_or_eq_true ((halve b j).isSome) with s4_0 | s4_0
    · have s4_0' := s4_0
      have hf : splitCell t (k : Int) j = some ⟨t.root, t.cells.set k ⟨j, l.length, l.length + 1, zeroVd⟩ ++ [c, c]⟩ := by unfold splitCell; rw [hh]; simp [hc, hb, s4_0, s2_3, hlf]
      obtain ⟨⟨b1, b2⟩, hv⟩ := Option.isSome_iff_exists.1 s4_0
      refine Tr.seq (Tr.regionK fun K hK => ?_)
      simp (maxSteps := 1000000) [add_add, hk2, hb2]
      refine .inl ⟨_, pcall_refHalve b j (by omega), rfl, ?_⟩
      simp (maxSteps := 1000000) [add_add, hv, halveP]
      refine hK _ ?_; clear hK K
      refine Tr.seq (Tr.regionK fun K hK => ?_)
      simp (maxSteps := 1000000) [add_add]
      refine hK _ ?_; clear hK K
      refine Tr.cond rfl rfl (fun hq5 => by first | (cases hq5; done) | (simp at hq5; done) | (simp_all; done)) (fun hq5 => ?_)
      refine Tr.skip ?_
      refine Tr.seq (Tr.regionK fun K hK => ?_)
      simp (maxSteps := 1000000) [add_add]
      refine hK _ ?_; clear hK K
      refine Tr.seq (Tr.regionE mixed (by kernel_rfl) fun K hK => ?_)
      simp (maxSteps := 1000000) [add_add, Region.binds]
      repeat (first | refine ⟨by omega, ?_⟩ | refine ⟨⟨by omega, by omega⟩, ?_⟩ | refine ⟨rfl, ?_⟩)
      refine hK _ ?_; clear hK K
      refine Tr.seq (Tr.regionK fun K hK => ?_)
      simp (maxSteps := 1000000) [add_add, hk1, hc']
      refine hK _ ?_; clear hK K
      refine Tr.seq (Tr.regionK fun K hK => ?_)
      simp (maxSteps := 1000000) [add_add, hk1, hc', w1]
      refine hK _ ?_; clear hK K
      refine Tr.seq (Tr.regionK fun K hK => ?_)
      simp (maxSteps := 1000000) [add_add]
      repeat (first | refine ⟨by omega, ?_⟩ | refine ⟨⟨by omega, by omega⟩, ?_⟩ | refine ⟨rfl, ?_⟩)
      refine hK _ ?_; clear hK K
      obtain ⟨cs, ecs⟩ : ∃ cs, cs = t.cells.set k ⟨j, l.length, l.length + 1, zeroVd⟩ ++ [c, c] := ⟨_, rfl⟩
      have hcl : cs.length = t.cells.length + 2 := by rw [ecs]; simp
      rw [← ecs] at hf
      refine Tr.toSt [(6, .ptr (nid + 4) 0 0), (7, .b false), (14, .ptr (nid + 244) 0 0)] [(nid + 4, ⟨25, 2, [[nilP, nilP]]⟩), (nid + 244, ⟨25, 2, [[.d (.imm (ivs t.root)), .own (nid + 340) 8 0 cs.length]]⟩), (nid + 340, ⟨50, 8, upm celD cs⟩)] ?_ ?_ ?_
      · simp
      · rw [ecs]; simp; refine .inr ⟨rfl, rfl, ?_⟩; rw [List.take_of_length_le (by simp), upm_fold]; exact elsLe_app (elsLe_set celD [.i j, .i l.length, .i (l.length + 1), .i 0, nilP, .i 0, nilP, nilP] ⟨j, l.length, l.length + 1, zeroVd⟩ (by simp [cellsLe, LeX.refl, LeX.nilImm]) t.cells k) (elsLe_upm celD [c, c])
      refine Tr.freezeM (nid + 340) celD cs [(6, .ptr (nid + 4) 0 0), (7, .b false), (14, .ptr (nid + 244) 0 0)] [(nid + 4, ⟨25, 2, [[nilP, nilP]]⟩), (nid + 244, ⟨25, 2, [[.d (.imm (ivs t.root)), .d (.imm (cels cs))]]⟩)] (ty := 50) (sz := 8) ?_ ?_ ?_ ?_ ?_
      · simp
      · simp
      · simp
      · simp
      refine Tr.seq (Tr.regionK fun K hK => ?_)
      simp (maxSteps := 1000000) [add_add]
      refine hK _ ?_; clear hK K
      refine Tr.ret ⟨.inr rfl, ?_, ?_, ?_, ?_⟩ <;> simp [Try.f103, hf, splitP]
    have hv : halve b j = none := by simpa using s4_0
    have hf : splitCell t (k : Int) j = none := by unfold splitCell; rw [hh]; simp [hc, hb, hv]
    refine Tr.seq (Tr.regionK fun K hK => ?_)
    simp (maxSteps := 1000000) [add_add, hk2, hb2]
    refine .inl ⟨_, pcall_refHalve b j (by omega), rfl, ?_⟩
    simp (maxSteps := 1000000) [add_add, hv, halveP]
    refine hK _ ?_; clear hK K
    refine Tr.seq (Tr.regionK fun K hK => ?_)
    simp (maxSteps := 1000000) [add_add]
    refine hK _ ?_; clear hK K
    refine Tr.cond rfl rfl (fun hq6 => ?_) (fun hq6 => by first | (cases hq6; done) | (simp at hq6; done) | (simp_all; done))
    refine Tr.seq (Tr.regionK fun K hK => ?_)
    simp (maxSteps := 1000000) [add_add]
    refine hK _ ?_; clear hK K
    refine Tr.ret ⟨.inr rfl, ?_, ?_, ?_, ?_⟩ <;> simp [Try.f103, hf, splitP]
  have hh : boxesT t = none := by simpa using s1_0
  have hf : splitCell t i j = none := by unfold splitCell; rw [hh]; rfl
  refine Tr.seq (Tr.regionK fun K hK => ?_)
  simp (maxSteps := 1000000) [add_add]
  refine .inl ⟨_, pcall_refBoxes t hr, rfl, ?_⟩
  simp (maxSteps := 1000000) [add_add, hh, boxesP]
  refine hK _ ?_; clear hK K
  refine Tr.seq ?_
  refine Tr.seq (Tr.regionK fun K hK => ?_)
  simp (maxSteps := 1000000) [add_add]
  refine hK _ ?_; clear hK K
  refine Tr.cond rfl rfl (fun hq7 => ?_) (fun hq7 => by first | (cases hq7; done) | (simp at hq7; done) | (simp_all; done))
  refine Tr.seq (Tr.regionK fun K hK => ?_)
  simp (maxSteps := 1000000) [add_add]
  refine hK _ ?_; clear hK K
  refine Tr.ret ⟨.inr rfl, ?_, ?_, ?_, ?_⟩ <;> simp [Try.f103, hf, splitP]
end Go.Proofs.Ytmljpbhmdjpbaaa
namespace Go.Proofs.Ytmljpbhmdjpbaaa
set_option linter.unusedVariables false
set_option linter.unusedSimpArgs false
open Go.PM

def settle (t : Tree) (i : Int) (v : Vd) : Option Tree :=
  if (boxesT t).isSome = true ∧ ¬ i < 0 then match t.cells[i.toNat]? with
    | some c => if c.leaf = true ∧ c.v.kind = 0 ∧ v.inForm = true then some ⟨t.root, t.cells.set i.toNat ⟨c.j, c.lo, c.hi, v⟩⟩ else none
    | none => none
  else none
set_option maxRecDepth 8000 in
set_option maxHeartbeats 4000000 in
theorem pcall_settle (t : Tree) (i : Int) (v : Vd) (hr : t.root.length ≤ 1048576) :
    PCall Try.prog 104 [treeP t, .i i, vdP v] (splitP t (settle t i v)) := by
  refine walk Try.func104 (by kernel_rfl) rfl 61 rfl (Nat.le_of_ble_eq_true rfl) fun nid _ => ?_
  refine Tr.seq (Tr.regionK fun K hK => ?_)
  simp (maxSteps := 1000000) [add_add]
  refine hK _ ?_; clear hK K
  refine Tr.seq ?_
  rcases Bool.eq_false_or_eq_true ((!(boxesT t).isSome)) with s1_0 | s1_0
  · have s1_0' := s1_0
    have hf : settle t i v = none := by unfold settle; simp only [Bool.not_eq_true'] at s1_0; simp [s1_0]
    refine Tr.seq (Tr.regionK fun K hK => ?_)
    simp (maxSteps := 1000000) [add_add]
    refine .inl ⟨_, pcall_refValidTree t hr, rfl, ?_⟩
    simp (maxSteps := 1000000) [add_add, s1_0]
    refine hK _ ?_; clear hK K
    refine Tr.cond rfl rfl (fun hq0 => ?_) (fun hq0 => by first | (cases hq0; done) | (simp at hq0; done) | (simp_all; done))
    refine Tr.seq (Tr.regionK fun K hK => ?_)
    simp (maxSteps := 1000000) [add_add]
    refine hK _ ?_; clear hK K
    refine Tr.ret ⟨.inr rfl, ?_, ?_, ?_, ?_⟩ <;> simp [Try.f104, hf, splitP]
  have hv : (boxesT t).isSome = true := by simpa using s1_0
  obtain ⟨l, hh⟩ := Option.isSome_iff_exists.1 hv
  have hl1 := cells_len hh
  by_cases s1_1 : i < 0
  · have s1_1' := s1_1
    have hf : settle t i v = none := by unfold settle; simp [s1_1]
    refine Tr.seq (Tr.regionK fun K hK => ?_)
    simp (maxSteps := 1000000) [add_add]
    refine .inl ⟨_, pcall_refValidTree t hr, rfl, ?_⟩
    simp (maxSteps := 1000000) [add_add, hv, s1_1]
    refine hK _ ?_; clear hK K
    refine Tr.cond rfl rfl (fun hq1 => ?_) (fun hq1 => by first | (cases hq1; done) | (simp at hq1; done) | (simp_all; done))
    refine Tr.seq (Tr.regionK fun K hK => ?_)
    simp (maxSteps := 1000000) [add_add]
    refine hK _ ?_; clear hK K
    refine Tr.ret ⟨.inr rfl, ?_, ?_, ?_, ?_⟩ <;> simp [Try.f104, hf, splitP]
  obtain ⟨k, rfl⟩ := Int.eq_ofNat_of_zero_le (Int.not_lt.1 s1_1)
  have hk0 : ¬ ((k : Int) < 0) := s1_1
  by_cases s1_2 : t.cells.length ≤ k
  · have s1_2' := s1_2
    have hf : settle t (k : Int) v = none := by unfold settle; simp [show t.cells[k]? = none from List.getElem?_eq_none s1_2]
    refine Tr.seq (Tr.regionK fun K hK => ?_)
    simp (maxSteps := 1000000) [add_add]
    refine .inl ⟨_, pcall_refValidTree t hr, rfl, ?_⟩
    simp (maxSteps := 1000000) [add_add, hv, s1_1, s1_2]
    refine hK _ ?_; clear hK K
    refine Tr.cond rfl rfl (fun hq2 => ?_) (fun hq2 => by first | (cases hq2; done) | (simp at hq2; done) | (simp_all; done))
    refine Tr.seq (Tr.regionK fun K hK => ?_)
    simp (maxSteps := 1000000) [add_add]
    refine hK _ ?_; clear hK K
    refine Tr.ret ⟨.inr rfl, ?_, ?_, ?_, ?_⟩ <;> simp [Try.f104, hf, splitP]
  have hk1 : k < t.cells.length := by omega
  obtain ⟨c, hc, hc'⟩ : ∃ c, t.cells[k]? = some c ∧ t.cells[k] = c := ⟨t.cells[k], List.getElem?_eq_getElem hk1, rfl⟩
  rcases Bool.eq_false_or_eq_true ((!c.leaf)) with s1_3 | s1_3
  · have s1_3' := s1_3
    have hf : settle t (k : Int) v = none := by unfold settle; simp only [Bool.not_eq_true'] at s1_3; simp [hc, s1_3]
    refine Tr.seq (Tr.regionK fun K hK => ?_)
    simp (maxSteps := 1000000) [add_add]
    refine .inl ⟨_, pcall_refValidTree t hr, rfl, ?_⟩
    simp (maxSteps := 1000000) [add_add, hv, s1_1, s1_2, hk1, hc']
    refine .inl ⟨_, pcall_refLeaf c, rfl, ?_⟩
    simp (maxSteps := 1000000) [add_add, s1_3]
    refine hK _ ?_; clear hK K
    refine Tr.cond rfl rfl (fun hq3 => ?_) (fun hq3 => by first | (cases hq3; done) | (simp at hq3; done) | (simp_all; done))
    refine Tr.seq (Tr.regionK fun K hK => ?_)
    simp (maxSteps := 1000000) [add_add]
    refine hK _ ?_; clear hK K
    refine Tr.ret ⟨.inr rfl, ?_, ?_, ?_, ?_⟩ <;> simp [Try.f104, hf, splitP]
  have hlf : c.leaf = true := by simpa using s1_3
  rcases Bool.eq_false_or_eq_true ((!decide (c.v.kind = 0))) with s1_4 | s1_4
  · have s1_4' := s1_4
    have hf : settle t (k : Int) v = none := by unfold settle; simp only [Bool.not_eq_true', decide_eq_false_iff_not] at s1_4; simp [hc, s1_4]
    refine Tr.seq (Tr.regionK fun K hK => ?_)
    simp (maxSteps := 1000000) [add_add]
    refine .inl ⟨_, pcall_refValidTree t hr, rfl, ?_⟩
    simp (maxSteps := 1000000) [add_add, hv, s1_1, s1_2, hk1, hc']
    refine .inl ⟨_, pcall_refLeaf c, rfl, ?_⟩
    simp (maxSteps := 1000000) [add_add, hk1, hc', hlf, s1_4]
    refine hK _ ?_; clear hK K
    refine Tr.cond rfl rfl (fun hq4 => ?_) (fun hq4 => by first | (cases hq4; done) | (simp at hq4; done) | (simp_all; done))
    refine Tr.seq (Tr.regionK fun K hK => ?_)
    simp (maxSteps := 1000000) [add_add]
    refine hK _ ?_; clear hK K
    refine Tr.ret ⟨.inr rfl, ?_, ?_, ?_, ?_⟩ <;> simp [Try.f104, hf, splitP]
  have hkd : c.v.kind = 0 := by simpa using s1_4
  rcases Bool.eq_false_or_eq_true ((!v.inForm)) with s1_5 | s1_5
  · have s1_5' := s1_5
    have hf : settle t (k : Int) v = none := by unfold settle; simp only [Bool.not_eq_true'] at s1_5; simp [hc, s1_5]
    refine Tr.seq (Tr.regionK fun K hK => ?_)
    simp (maxSteps := 1000000) [add_add]
    refine .inl ⟨_, pcall_refValidTree t hr, rfl, ?_⟩
    simp (maxSteps := 1000000) [add_add, hv, s1_1, s1_2, hk1, hc']
    refine .inl ⟨_, pcall_refLeaf c, rfl, ?_⟩
    simp (maxSteps := 1000000) [add_add, hk1, hc', hlf, s1_4]
    refine .inl ⟨_, pcall_refInForm v, rfl, ?_⟩
    simp (maxSteps := 1000000) [add_add, s1_5]
    refine hK _ ?_; clear hK K
    refine Tr.cond rfl rfl (fun hq5 => ?_) (fun hq5 => by first | (cases hq5; done) | (simp at hq5; done) | (simp_all; done))
    refine Tr.seq (Tr.regionK fun K hK => ?_)
    simp (maxSteps := 1000000) [add_add]
    refine hK _ ?_; clear hK K
    refine Tr.ret ⟨.inr rfl, ?_, ?_, ?_, ?_⟩ <;> simp [Try.f104, hf, splitP]
  have hvf : v.inForm = true := by simpa using s1_5
  have hf : settle t (k : Int) v = some ⟨t.root, t.cells.set k ⟨c.j, c.lo, c.hi, v⟩⟩ := by unfold settle; simp [hv, hc, hlf, hkd, hvf]
  refine Tr.seq (Tr.regionK fun K hK => ?_)
  simp (maxSteps := 1000000) [add_add]
  refine .inl ⟨_, pcall_refValidTree t hr, rfl, ?_⟩
  simp (maxSteps := 1000000) [add_add, hv, s1_1, s1_2, hk1, hc']
  refine .inl ⟨_, pcall_refLeaf c, rfl, ?_⟩
  simp (maxSteps := 1000000) [add_add, hk1, hc', hlf, s1_4]
  refine .inl ⟨_, pcall_refInForm v, rfl, ?_⟩
  simp (maxSteps := 1000000) [add_add, hvf]
  refine hK _ ?_; clear hK K
  refine Tr.cond rfl rfl (fun hq6 => by first | (cases hq6; done) | (simp at hq6; done) | (simp_all; done)) (fun hq6 => ?_)
  refine Tr.skip ?_
  refine Tr.seq (Tr.regionE mixed (by kernel_rfl) fun K hK => ?_)
  simp (maxSteps := 1000000) [add_add, Region.binds]
  repeat (first | refine ⟨by omega, ?_⟩ | refine ⟨⟨by omega, by omega⟩, ?_⟩ | refine ⟨rfl, ?_⟩)
  refine hK _ ?_; clear hK K
  refine Tr.seq (Tr.regionK fun K hK => ?_)
  simp (maxSteps := 1000000) [add_add, hk1, hc']
  refine hK _ ?_; clear hK K
  obtain ⟨cs, ecs⟩ : ∃ cs, cs = t.cells.set k ⟨c.j, c.lo, c.hi, v⟩ := ⟨_, rfl⟩
  have hcl : cs.length = t.cells.length := by rw [ecs]; simp
  rw [← ecs] at hf
  refine Tr.toSt [(6, .ptr (nid + 8) 0 0), (7, .b false), (8, .ptr (nid + 192) 0 0)] [(nid + 8, ⟨25, 2, [[nilP, nilP]]⟩), (nid + 192, ⟨25, 2, [[.d (.imm (ivs t.root)), .own (nid + 184) 8 0 cs.length]]⟩), (nid + 184, ⟨50, 8, upm celD cs⟩)] ?_ ?_ ?_
  · simp
  · rw [ecs]; simp [upm]
  refine Tr.freezeM (nid + 184) celD cs [(6, .ptr (nid + 8) 0 0), (7, .b false), (8, .ptr (nid + 192) 0 0)] [(nid + 8, ⟨25, 2, [[nilP, nilP]]⟩), (nid + 192, ⟨25, 2, [[.d (.imm (ivs t.root)), .d (.imm (cels cs))]]⟩)] (ty := 50) (sz := 8) ?_ ?_ ?_ ?_ ?_
  · simp
  · simp
  · simp
  · simp
  refine Tr.seq (Tr.regionK fun K hK => ?_)
  simp (maxSteps := 1000000) [add_add]
  refine hK _ ?_; clear hK K
  refine Tr.ret ⟨.inr rfl, ?_, ?_, ?_, ?_⟩ <;> simp [Try.f104, hf, splitP]
end Go.Proofs.Ytmljpbhmdjpbaaa
namespace Go.Proofs.Ytmljpbhmdjpbaaa
set_option linter.unusedVariables false
set_option linter.unusedSimpArgs false
open Go.PM

theorem nextV_rng (l : List Int) (j : Nat) {k : Int} (hk : 0 < k) : 0 ≤ nextV l j k ∧ nextV l j k < k := by
  unfold nextV
  split
  · exact ⟨Int.emod_nonneg _ (Int.ne_of_gt hk), Int.emod_lt_of_pos _ hk⟩
  · exact ⟨Int.le_refl _, hk⟩
theorem nextN_le (l : List Int) {j : Nat} (h : j ≤ l.length) : nextN l j ≤ l.length := by
  unfold nextN; split <;> omega
abbrev Ok64 (l : List Int) : Prop := ∀ x ∈ l, -9223372036854775808 ≤ x ∧ x ≤ 9223372036854775807
def smallT (t : Tree) : Bool := decide ((t.root.length : Int) ≤ 12) && decide ((t.cells.length : Int) ≤ 60)
def label (k : Int) : Vd := if k = 1 ∨ k = 2 then ⟨2, [], ⟨0, [1], [1]⟩⟩ else if k = 3 then ⟨1, [⟨1, 0, 0⟩], ⟨0, [], []⟩⟩ else zeroVd
/-- A root that is made: what has come after i rounds. -/
def rootS (l : List Int) (j : Nat) : Nat → List Iv × Nat
  | 0 => ([], j)
  | i + 1 => ((rootS l j i).1 ++ [⟨nextV l (rootS l j i).2 81 - 40, nextV l (rootS l j i).2 81 - 40 + nextV l (nextN l (rootS l j i).2) 60⟩], nextN l (nextN l (rootS l j i).2))
def mids (b : List Iv) (i : Nat) : List Int := (b.take i).map Iv.mid
theorem mids_len (b : List Iv) {i : Nat} (h : i ≤ b.length) : (mids b i).length = i := by unfold mids; simp; omega
theorem mids_all (b : List Iv) : mids b b.length = b.map Iv.mid := by unfold mids; rw [List.take_length]
def rootV (l : List Int) (j : Nat) : List Iv × Nat := rootS l (nextN l j) (1 + nextV l j 3).toNat
theorem rootS_len (l : List Int) (j : Nat) : ∀ i, (rootS l j i).1.length = i
  | 0 => rfl
  | i + 1 => by simp [rootS, rootS_len l j i]
theorem rootS_pos (l : List Int) {j : Nat} (h : j ≤ l.length) : ∀ i, (rootS l j i).2 ≤ l.length
  | 0 => h
  | i + 1 => nextN_le l (nextN_le l (rootS_pos l h i))
set_option maxRecDepth 8000 in
set_option maxHeartbeats 4000000 in
theorem pcall_smallTree (t : Tree) :
    PCall Try.prog 14 [treeP t] (.b (smallT t)) := by
  refine walk Try.func14 (by kernel_rfl) rfl 13 rfl (Nat.le_of_ble_eq_true rfl) fun nid _ => ?_
  refine Tr.seq (Tr.regionK fun K hK => ?_)
  simp (maxSteps := 1000000) [add_add]
  refine hK _ ?_; clear hK K
  by_cases s1_0 : (t.root.length : Int) ≤ 12
  · have s1_0' := s1_0
    by_cases s1_1 : (t.cells.length : Int) ≤ 60
    · have s1_1' := s1_1
      refine Tr.seq (Tr.regionK fun K hK => ?_)
      simp (maxSteps := 1000000) [add_add, s1_0, s1_1]
      refine hK _ ?_; clear hK K
      refine Tr.ret ⟨.inr rfl, ?_, ?_, ?_, ?_⟩ <;> simp [Try.f14, s1_0, s1_1, smallT]
      all_goals omega
    refine Tr.seq (Tr.regionK fun K hK => ?_)
    simp (maxSteps := 1000000) [add_add, s1_0, s1_1]
    refine hK _ ?_; clear hK K
    refine Tr.ret ⟨.inr rfl, ?_, ?_, ?_, ?_⟩ <;> simp [Try.f14, s1_0, s1_1, smallT]
    all_goals omega
  refine Tr.seq (Tr.regionK fun K hK => ?_)
  simp (maxSteps := 1000000) [add_add, s1_0]
  refine hK _ ?_; clear hK K
  refine Tr.ret ⟨.inr rfl, ?_, ?_, ?_, ?_⟩ <;> simp [Try.f14, s1_0, smallT]
  all_goals omega
set_option maxRecDepth 8000 in
set_option maxHeartbeats 4000000 in
theorem hcall_signed (l : List Int) (j s : Nat) (k : Int) (hl : Ok64 l) (hlen : l.length ≤ 1048576) (hj : j ≤ l.length) (hk : 0 ≤ k) (hk2 : k ≤ 1000000) :
    HCall Try.prog 107 [.ptr s 0 0, .i k] [(s, srcRow l j)] [s] (fun _ => .i (nextV l j (2 * k + 1) - k)) [(s, srcRow l (nextN l j))] [] := by
  refine walk Try.func107 (by kernel_rfl) rfl 12 rfl (Nat.le_of_ble_eq_true rfl) fun nid hid => ?_
  have hs : s < nid := hid _ (List.mem_cons_self ..)
  have hv := nextV_rng l j (k := 2 * k + 1) (by omega)
  have w1 : IntKind.i64.wrap (2 * k) = 2 * k := wrapIn (by omega) (by omega)
  have w2 : IntKind.i64.wrap (2 * k + 1) = 2 * k + 1 := wrapIn (by omega) (by omega)
  have w3 : IntKind.i64.wrap (nextV l j (2 * k + 1) - k) = nextV l j (2 * k + 1) - k := wrapIn (by omega) (by omega)
  refine Tr.seq (Tr.regionK fun K hK => ?_)
  simp (maxSteps := 1000000)
  refine hK _ ?_; clear hK K
  refine Tr.seq (Tr.regionK fun K hK => ?_)
  simp (maxSteps := 1000000) [add_add, w1, w2]
  refine .inr ⟨[(s, srcRow l j)], [s], fun _ => .i (nextV l j (2 * k + 1)), [(s, srcRow l (nextN l j))], [], ⟨hcall_next l j s (2 * k + 1) hl hlen hj (by omega) (by omega), by simp; try omega, by simp [hs]; try omega, by simp; try omega, by simp; try omega, by simp; try omega, by simp; try omega, by simp; try omega, by simp; try omega⟩, ?_⟩
  simp (maxSteps := 1000000) [add_add, w3]
  refine hK _ ?_; clear hK K
  refine Tr.ret ⟨.inr rfl, ?_, ?_, ?_, ?_⟩ <;> simp [Try.f107]
set_option maxRecDepth 8000 in
set_option maxHeartbeats 4000000 in
theorem pcall_label (k : Int) :
    PCall Try.prog 105 [.i k] (vdP (label k)) := by
  refine walk Try.func105 (by kernel_rfl) rfl 17 rfl (Nat.le_of_ble_eq_true rfl) fun nid _ => ?_
  refine Tr.seq (Tr.regionK fun K hK => ?_)
  simp (maxSteps := 1000000)
  refine hK _ ?_; clear hK K
  refine Tr.seq ?_
  refine Tr.seq (Tr.regionK fun K hK => ?_)
  simp (maxSteps := 1000000) [add_add]
  refine hK _ ?_; clear hK K
  refine Tr.block ?_
  refine Tr.seq ?_
  by_cases s2_0 : k = 1
  · have s2_0' := s2_0
    refine Tr.seq (Tr.regionK fun K hK => ?_)
    simp (maxSteps := 1000000) [add_add, s2_0]
    refine hK _ ?_; clear hK K
    refine Tr.cond rfl rfl (fun hq0 => ?_) (fun hq0 => by first | (cases hq0; done) | (simp at hq0; done) | (simp_all; done))
    refine Tr.skip ?_
    refine Tr.cond rfl rfl (fun hq1 => ?_) (fun hq1 => by first | (cases hq1; done) | (simp at hq1; done) | (simp_all; done))
    refine Tr.seq (Tr.regionK fun K hK => ?_)
    simp (maxSteps := 1000000) [add_add]
    refine hK _ ?_; clear hK K
    refine Tr.toSt [(2, .ptr nid 0 0)] [(nid, ⟨48, 5, [[.i 2, .d (.imm []), .i 0, .own (nid + 16) 1 0 1, .own (nid + 20) 1 0 1]]⟩), (nid + 16, ⟨2, 1, upm intD [1]⟩), (nid + 20, ⟨2, 1, upm intD [1]⟩)] ?_ ?_ ?_
    · simp
    · simp [upm, up]; refine ⟨rfl, rfl, ?_⟩; simp [elsLe, cellsLe, LeX.refl, LeX.nilImm]
    refine Tr.freezeM (nid + 16) intD [1] [(2, .ptr nid 0 0)] [(nid, ⟨48, 5, [[.i 2, .d (.imm []), .i 0, .d (.imm (ints [1])), .own (nid + 20) 1 0 1]]⟩), (nid + 20, ⟨2, 1, upm intD [1]⟩)] (ty := 2) (sz := 1) ?_ ?_ ?_ ?_ ?_
    · simp
    · simp
    · simp
    · simp
    refine Tr.freezeM (nid + 20) intD [1] [(2, .ptr nid 0 0)] [(nid, ⟨48, 5, [[.i 2, .d (.imm []), .i 0, .d (.imm (ints [1])), .d (.imm (ints [1]))]]⟩)] (ty := 2) (sz := 1) ?_ ?_ ?_ ?_ ?_
    · simp
    · simp
    · simp
    · simp
    refine Tr.ret ⟨.inr rfl, ?_, ?_, ?_, ?_⟩ <;> simp [Try.f105, s2_0, label]
  by_cases s2_1 : k = 2
  · have s2_1' := s2_1
    refine Tr.seq (Tr.regionK fun K hK => ?_)
    simp (maxSteps := 1000000) [add_add, s2_1]
    refine hK _ ?_; clear hK K
    refine Tr.cond rfl rfl (fun hq2 => by first | (cases hq2; done) | (simp at hq2; done) | (simp_all; done)) (fun hq2 => ?_)
    refine Tr.regionK fun K hK => ?_
    simp (maxSteps := 1000000) [add_add]
    refine hK _ ?_; clear hK K
    refine Tr.cond rfl rfl (fun hq3 => ?_) (fun hq3 => by first | (cases hq3; done) | (simp at hq3; done) | (simp_all; done))
    refine Tr.seq (Tr.regionK fun K hK => ?_)
    simp (maxSteps := 1000000) [add_add]
    refine hK _ ?_; clear hK K
    refine Tr.toSt [(2, .ptr nid 0 0)] [(nid, ⟨48, 5, [[.i 2, .d (.imm []), .i 0, .own (nid + 24) 1 0 1, .own (nid + 28) 1 0 1]]⟩), (nid + 24, ⟨2, 1, upm intD [1]⟩), (nid + 28, ⟨2, 1, upm intD [1]⟩)] ?_ ?_ ?_
    · simp
    · simp [upm, up]; refine ⟨rfl, rfl, ?_⟩; simp [elsLe, cellsLe, LeX.refl, LeX.nilImm]
    refine Tr.freezeM (nid + 24) intD [1] [(2, .ptr nid 0 0)] [(nid, ⟨48, 5, [[.i 2, .d (.imm []), .i 0, .d (.imm (ints [1])), .own (nid + 28) 1 0 1]]⟩), (nid + 28, ⟨2, 1, upm intD [1]⟩)] (ty := 2) (sz := 1) ?_ ?_ ?_ ?_ ?_
    · simp
    · simp
    · simp
    · simp
    refine Tr.freezeM (nid + 28) intD [1] [(2, .ptr nid 0 0)] [(nid, ⟨48, 5, [[.i 2, .d (.imm []), .i 0, .d (.imm (ints [1])), .d (.imm (ints [1]))]]⟩)] (ty := 2) (sz := 1) ?_ ?_ ?_ ?_ ?_
    · simp
    · simp
    · simp
    · simp
    refine Tr.ret ⟨.inr rfl, ?_, ?_, ?_, ?_⟩ <;> simp [Try.f105, s2_1, label]
  by_cases s2_2 : k = 3
  · have s2_2' := s2_2
    refine Tr.seq (Tr.regionK fun K hK => ?_)
    simp (maxSteps := 1000000) [add_add, s2_2]
    refine hK _ ?_; clear hK K
    refine Tr.cond rfl rfl (fun hq4 => by first | (cases hq4; done) | (simp at hq4; done) | (simp_all; done)) (fun hq4 => ?_)
    refine Tr.regionK fun K hK => ?_
    simp (maxSteps := 1000000) [add_add]
    refine hK _ ?_; clear hK K
    refine Tr.cond rfl rfl (fun hq5 => by first | (cases hq5; done) | (simp at hq5; done) | (simp_all; done)) (fun hq5 => ?_)
    refine Tr.seq (Tr.regionK fun K hK => ?_)
    simp (maxSteps := 1000000) [add_add]
    refine hK _ ?_; clear hK K
    refine Tr.cond rfl rfl (fun hq6 => ?_) (fun hq6 => by first | (cases hq6; done) | (simp at hq6; done) | (simp_all; done))
    refine Tr.seq (Tr.regionK fun K hK => ?_)
    simp (maxSteps := 1000000) [add_add]
    refine hK _ ?_; clear hK K
    refine Tr.toSt [(2, .ptr nid 0 0)] [(nid, ⟨48, 5, [[.i 1, .own (nid + 36) 3 0 1, .i 0, .d (.imm []), .d (.imm [])]]⟩), (nid + 36, ⟨186, 3, upm vecD [⟨1, 0, 0⟩]⟩)] ?_ ?_ ?_
    · simp
    · simp [upm, up]; refine ⟨rfl, rfl, ?_⟩; simp [elsLe, cellsLe, LeX.refl, LeX.nilImm]
    refine Tr.freezeM (nid + 36) vecD [⟨1, 0, 0⟩] [(2, .ptr nid 0 0)] [(nid, ⟨48, 5, [[.i 1, .d (.imm (vecs [⟨1, 0, 0⟩])), .i 0, .d (.imm []), .d (.imm [])]]⟩)] (ty := 186) (sz := 3) ?_ ?_ ?_ ?_ ?_
    · simp
    · simp
    · simp
    · simp
    refine Tr.ret ⟨.inr rfl, ?_, ?_, ?_, ?_⟩ <;> simp [Try.f105, s2_2, label]
  refine Tr.seq (Tr.regionK fun K hK => ?_)
  simp (maxSteps := 1000000) [add_add, s2_0]
  refine hK _ ?_; clear hK K
  refine Tr.cond rfl rfl (fun hq7 => by first | (cases hq7; done) | (simp at hq7; done) | (simp_all; done)) (fun hq7 => ?_)
  refine Tr.regionK fun K hK => ?_
  simp (maxSteps := 1000000) [add_add, s2_1]
  refine hK _ ?_; clear hK K
  refine Tr.cond rfl rfl (fun hq8 => by first | (cases hq8; done) | (simp at hq8; done) | (simp_all; done)) (fun hq8 => ?_)
  refine Tr.seq (Tr.regionK fun K hK => ?_)
  simp (maxSteps := 1000000) [add_add, s2_2]
  refine hK _ ?_; clear hK K
  refine Tr.cond rfl rfl (fun hq9 => by first | (cases hq9; done) | (simp at hq9; done) | (simp_all; done)) (fun hq9 => ?_)
  refine Tr.skip ?_
  refine Tr.seq (Tr.regionK fun K hK => ?_)
  simp (maxSteps := 1000000) [add_add]
  refine hK _ ?_; clear hK K
  refine Tr.toSt [(2, .ptr nid 0 0)] [(nid, ⟨48, 5, [[.i 0, .d (.imm []), .i 0, .d (.imm []), .d (.imm [])]]⟩)] ?_ ?_ ?_
  · simp
  · simp; refine ⟨rfl, rfl, ?_⟩; simp [elsLe, cellsLe, LeX.refl, LeX.nilImm]
  refine Tr.ret ⟨.inr rfl, ?_, ?_, ?_, ?_⟩ <;> simp [Try.f105, s2_0, s2_1, s2_2, label]
set_option maxRecDepth 8000 in
set_option maxHeartbeats 4000000 in
theorem pcall_middle (b : List Iv) (hb : b.length ≤ 1048576) (hok : boxOk b = true) :
    PCall Try.prog 57 [.d (.imm (ivs b))] (.d (.imm (ints (b.map Iv.mid)))) := by
  refine walk Try.func57 (by kernel_rfl) rfl 23 rfl (Nat.le_of_ble_eq_true rfl) fun nid _ => ?_
  refine Tr.seq (Tr.regionK fun K hK => ?_)
  simp (maxSteps := 1000000)
  refine hK _ ?_; clear hK K
  refine Tr.seq ?_
  refine Tr.seq (Tr.regionK fun K hK => ?_)
  simp (maxSteps := 1000000) [add_add]
  refine .inl ⟨_, pcall_refAllOk b hb, rfl, ?_⟩
  simp (maxSteps := 1000000) [add_add, hok]
  refine hK _ ?_; clear hK K
  refine Tr.cond rfl rfl (fun hq0 => by first | (cases hq0; done) | (simp at hq0; done) | (simp_all; done)) (fun hq0 => ?_)
  refine Tr.skip ?_
  refine Tr.seq (Tr.regionK fun K hK => ?_)
  simp (maxSteps := 1000000) [add_add]
  refine hK _ ?_; clear hK K
  refine Tr.seq ?_
  refine Tr.seq (Tr.regionK fun K hK => ?_)
  simp (maxSteps := 1000000) [add_add]
  refine hK _ ?_; clear hK K
  refine Tr.block ?_
  refine Tr.loopP [(2, 1)] [.nil 0] [.slot 3] (fun i : Nat => ([(0, .d (.imm (ivs b))), (3, .own nid 1 0 (mids b i).length), (4, .i i)],
  [(nid, ⟨2, 1, upm intD (mids b i)⟩)])) (fun i : Nat => i ≤ b.length) (fun i : Nat => b.length - i) 0 rfl ?_ ?_ ?_
  · exact Nat.zero_le _
  · refine ⟨rfl, ?_, ?_, ?_, ?_⟩ <;> simp [add_add, mids]
  rintro i hi I hI0
  have w : IntKind.i64.wrap ((i : Int) + 1) = (i : Int) + 1 := wrapIn (by omega) (by omega)
  have hlt := mids_len b hi
  refine Tr.seq ?_
  refine Tr.seq (Tr.regionK fun K hK => ?_)
  simp (maxSteps := 1000000) [add_add]
  refine hK _ ?_; clear hK K
  refine Tr.cond rfl rfl (fun hq => ?_) (fun hq => ?_)
  · simp at hq
    obtain ⟨x, hx, hx'⟩ : ∃ x, b[i]? = some x ∧ b[i] = x := ⟨b[i], List.getElem?_eq_getElem hq, rfl⟩
    have hsn : mids b (i + 1) = mids b i ++ [x.mid] := by unfold mids; rw [List.take_add_one, hx]; simp
    refine Tr.skip ?_
    refine Tr.seq ?_
    refine Tr.block ?_
    refine Tr.regionK fun K hK => ?_
    simp (maxSteps := 1000000) [add_add, hx', hq]
    refine .inl ⟨_, pcall_refMid x, rfl, ?_⟩
    simp (maxSteps := 1000000) [add_add]
    repeat (first | refine ⟨by omega, ?_⟩ | refine ⟨⟨by omega, by omega⟩, ?_⟩ | refine ⟨rfl, ?_⟩)
    refine hK _ ?_; clear hK K
    refine Tr.regionK fun K hK => ?_
    simp (maxSteps := 1000000) [add_add, w]
    refine hK _ ?_; clear hK K
    refine hI0 _ _ (i + 1) (hq) (by first | (show _ < _; omega) | (simp; omega)) ⟨rfl, ?_, ?_, ?_, ?_⟩ <;> simp [add_add, hsn]
  simp at hq
  refine Tr.exit (exit_s (exit_s (exit_b ?_)))
  have hin : i = b.length := by omega
  subst hin
  have hme := mids_all b
  refine Tr.freezeM nid intD (mids b b.length) [(3, .d (.imm (ints (b.map Iv.mid))))] [] (ty := 2) (sz := 1) ?_ ?_ ?_ ?_ ?_
  · simp
  · simp
  · simp [hme]
  · simp
  refine Tr.seq (Tr.regionK fun K hK => ?_)
  simp (maxSteps := 1000000) [add_add]
  refine hK _ ?_; clear hK K
  refine Tr.ret ⟨.inr rfl, ?_, ?_, ?_, ?_⟩ <;> simp [Try.f57]
end Go.Proofs.Ytmljpbhmdjpbaaa
namespace Go.Proofs.Ytmljpbhmdjpbaaa
set_option linter.unusedVariables false
set_option linter.unusedSimpArgs false
open Go.PM

set_option maxRecDepth 8000 in
set_option maxHeartbeats 4000000 in
theorem hcall_root (l : List Int) (j s : Nat) (hl : Ok64 l) (hlen : l.length ≤ 1048576) (hj : j ≤ l.length) :
    HCall Try.prog 53 [.ptr s 0 0] [(s, srcRow l j)] [s] (fun _ => .d (.imm (ivs (rootV l j).1))) [(s, srcRow l (rootV l j).2)] [] := by
  refine walk Try.func53 (by kernel_rfl) rfl 25 rfl (Nat.le_of_ble_eq_true rfl) fun nid hid => ?_
  have hs : s < nid := hid _ (List.mem_cons_self ..)
  have ne1 : ∀ k, (s = nid + k) = False := fun k => by simp; omega
  have ne2 : ∀ k, (nid + k = s) = False := fun k => by simp; omega
  have ne3 : (s = nid) = False := by simp; omega
  have ne4 : (nid = s) = False := by simp; omega
  have hv := nextV_rng l j (k := 3) (by omega)
  obtain ⟨n, hn⟩ := Int.eq_ofNat_of_zero_le (show 0 ≤ 1 + nextV l j 3 by omega)
  have hrv : rootV l j = rootS l (nextN l j) n := by unfold rootV; rw [hn]; rfl
  have w0 : IntKind.i64.wrap (1 + nextV l j 3) = (n : Int) := by rw [hn]; exact wrapIn (by omega) (by omega)
  obtain ⟨j1, hj1⟩ : ∃ j1, nextN l j = j1 := ⟨_, rfl⟩
  have hj1l : j1 ≤ l.length := hj1 ▸ nextN_le l hj
  rw [hj1] at hrv
  refine Tr.seq (Tr.regionK fun K hK => ?_)
  simp (maxSteps := 1000000)
  refine hK _ ?_; clear hK K
  refine Tr.seq (Tr.regionK fun K hK => ?_)
  simp (maxSteps := 1000000) [add_add]
  refine hK _ ?_; clear hK K
  refine Tr.seq ?_
  refine Tr.seq (Tr.regionK fun K hK => ?_)
  simp (maxSteps := 1000000) [add_add]
  refine .inr ⟨[(s, srcRow l j)], [s], fun _ => .i (nextV l j 3), [(s, srcRow l (nextN l j))], [], ⟨hcall_next l j (s) 3 hl hlen hj (by omega) (by omega), by first | (simp; done) | (simp [hs, ne1, ne2, ne3, ne4]; omega), by first | (simp [hs]; done) | (simp [hs, ne1, ne2, ne3, ne4]; omega), by first | (simp; done) | (simp [hs, ne1, ne2, ne3, ne4]; omega), by first | (simp; done) | (simp [hs, ne1, ne2, ne3, ne4]; omega), by first | (simp; done) | (simp [hs, ne1, ne2, ne3, ne4]; omega), by first | (simp; done) | (simp [hs, ne1, ne2, ne3, ne4]; omega), by first | (simp; done) | (simp [hs, ne1, ne2, ne3, ne4]; omega), by first | (simp; done) | (simp [hs, ne1, ne2, ne3, ne4]; omega)⟩, ?_⟩
  simp (maxSteps := 1000000) [add_add, w0, hj1]
  refine hK _ ?_; clear hK K
  refine Tr.block ?_
  refine Tr.loopP [(102, 2)] [.nil 0] [.slot 3] (fun i : Nat => ([(0, .ptr s 0 0), (3, .own nid 2 0 (rootS l j1 i).1.length), (4, .i ((n : Int) - i))],
  [(s, srcRow l (rootS l j1 i).2), (nid, ⟨102, 2, upm ivD (rootS l j1 i).1⟩)])) (fun i : Nat => i ≤ n) (fun i : Nat => n - i) 0 rfl ?_ ?_ ?_
  · exact Nat.zero_le _
  · refine ⟨rfl, ?_, ?_, ?_, ?_⟩ <;> simp [add_add, hs, ne1, rootS]
  rintro i hi I hI0
  have hrl := rootS_len l j1 i
  have hp := rootS_pos l hj1l i
  have hs1 := rootS.eq_2 l j1 i
  obtain ⟨⟨o, p⟩, hst⟩ : ∃ x, rootS l j1 i = x := ⟨_, rfl⟩
  rw [hst] at hrl hp hs1
  simp only at hrl hp hs1
  have hv1 := nextV_rng l p (k := 81) (by omega)
  have hv2 := nextV_rng l (nextN l p) (k := 60) (by omega)
  have w2 : IntKind.i64.wrap (nextV l p 81 - 40 + nextV l (nextN l p) 60) = nextV l p 81 - 40 + nextV l (nextN l p) 60 := wrapIn (by omega) (by omega)
  have w3 : IntKind.i64.wrap ((n : Int) - i - 1) = (n : Int) - i - 1 := wrapIn (by omega) (by omega)
  refine Tr.seq ?_
  refine Tr.seq (Tr.regionK fun K hK => ?_)
  simp (maxSteps := 1000000) [add_add, hst]
  refine hK _ ?_; clear hK K
  refine Tr.cond rfl rfl (fun hq => ?_) (fun hq => ?_)
  · simp at hq
    refine Tr.skip ?_
    refine Tr.seq ?_
    refine Tr.block ?_
    refine Tr.seq (Tr.regionK fun K hK => ?_)
    simp (maxSteps := 1000000) [add_add]
    refine .inr ⟨[(s, srcRow l p)], [s], fun _ => .i (nextV l p (2 * 40 + 1) - 40), [(s, srcRow l (nextN l p))], [], ⟨hcall_signed l p s 40 hl hlen hp (by omega) (by omega), by first | (simp; done) | (simp [hs, ne1, ne2, ne3, ne4]; omega), by first | (simp [hs]; done) | (simp [hs, ne1, ne2, ne3, ne4]; omega), by first | (simp; done) | (simp [hs, ne1, ne2, ne3, ne4]; omega), by first | (simp; done) | (simp [hs, ne1, ne2, ne3, ne4]; omega), by first | (simp; done) | (simp [hs, ne1, ne2, ne3, ne4]; omega), by first | (simp; done) | (simp [hs, ne1, ne2, ne3, ne4]; omega), by first | (simp; done) | (simp [hs, ne1, ne2, ne3, ne4]; omega), by first | (simp; done) | (simp [hs, ne1, ne2, ne3, ne4]; omega)⟩, ?_⟩
    simp (maxSteps := 1000000) [add_add]
    refine hK _ ?_; clear hK K
    refine Tr.regionK fun K hK => ?_
    simp (maxSteps := 1000000) [add_add]
    refine .inr ⟨[(s, srcRow l (nextN l p))], [s], fun _ => .i (nextV l (nextN l p) 60), [(s, srcRow l (nextN l (nextN l p)))], [], ⟨hcall_next l (nextN l p) (s) 60 hl hlen (nextN_le l hp) (by omega) (by omega), by first | (simp; done) | (simp [hs, ne1, ne2, ne3, ne4]; omega), by first | (simp [hs]; done) | (simp [hs, ne1, ne2, ne3, ne4]; omega), by first | (simp; done) | (simp [hs, ne1, ne2, ne3, ne4]; omega), by first | (simp; done) | (simp [hs, ne1, ne2, ne3, ne4]; omega), by first | (simp; done) | (simp [hs, ne1, ne2, ne3, ne4]; omega), by first | (simp; done) | (simp [hs, ne1, ne2, ne3, ne4]; omega), by first | (simp; done) | (simp [hs, ne1, ne2, ne3, ne4]; omega), by first | (simp; done) | (simp [hs, ne1, ne2, ne3, ne4]; omega)⟩, ?_⟩
    simp (maxSteps := 1000000) [add_add, ne3, ne4, w2]
    repeat (first | refine ⟨by omega, ?_⟩ | refine ⟨⟨by omega, by omega⟩, ?_⟩ | refine ⟨rfl, ?_⟩)
    refine hK _ ?_; clear hK K
    refine Tr.regionK fun K hK => ?_
    simp (maxSteps := 1000000) [add_add, w3]
    refine hK _ ?_; clear hK K
    refine hI0 _ _ (i + 1) (by omega) (by first | (show _ < _; omega) | (simp; omega)) ⟨rfl, ?_, ?_, ?_, ?_⟩ <;> simp [add_add, hs, ne1, ne3, hs1, show ((n : Int) - ((i : Int) + 1)) = (n : Int) - i - 1 from by omega]
  simp at hq
  refine Tr.exit (exit_s (exit_s (exit_b ?_)))
  have hin : i = n := by omega
  subst hin
  refine Tr.freezeM nid ivD o [(3, .d (.imm (ivs o)))] [(s, srcRow l p)] (ty := 102) (sz := 2) ?_ ?_ ?_ ?_ ?_
  · simp [rowsH, Nat.ne_of_lt hs]
  · simp
  · simp
  · simp [rowsH, Nat.ne_of_lt hs]
  refine Tr.seq (Tr.regionK fun K hK => ?_)
  simp (maxSteps := 1000000) [add_add]
  refine hK _ ?_; clear hK K
  refine Tr.ret ⟨.inr rfl, ?_, ?_, ?_, ?_⟩ <;> simp [Try.f53, hrv, hst]
end Go.Proofs.Ytmljpbhmdjpbaaa
namespace Go.Proofs.Ytmljpbhmdjpbaaa
set_option linter.unusedVariables false
set_option linter.unusedSimpArgs false
open Go.PM

/-- A configuration that is made in a box: what has come after i joints. -/
def inS (b : List Iv) (m : List Int) : Nat → List Int × Nat
  | 0 => ([], 0)
  | i + 1 =>
    if nextV m (inS b m i).2 5 = 0 then ((inS b m i).1 ++ [(b.getD i ⟨0, 0⟩).lo], nextN m (inS b m i).2)
    else if nextV m (inS b m i).2 5 = 1 then ((inS b m i).1 ++ [(b.getD i ⟨0, 0⟩).hi], nextN m (inS b m i).2)
    else if nextV m (inS b m i).2 5 = 2 then ((inS b m i).1 ++ [(b.getD i ⟨0, 0⟩).mid], nextN m (inS b m i).2)
    else ((inS b m i).1 ++ [(b.getD i ⟨0, 0⟩).lo + nextV m (nextN m (inS b m i).2) ((b.getD i ⟨0, 0⟩).hi - (b.getD i ⟨0, 0⟩).lo + 1)], nextN m (nextN m (inS b m i).2))
def inV (b : List Iv) (m : List Int) : List Int := (inS b m b.length).1
theorem inS_len (b : List Iv) (m : List Int) : ∀ i, (inS b m i).1.length = i
  | 0 => rfl
  | i + 1 => by
    have := inS_len b m i
    simp only [inS]
    split
    · simp [this]
    · split
      · simp [this]
      · split <;> simp [this]
theorem inS_pos (b : List Iv) (m : List Int) : ∀ i, (inS b m i).2 ≤ m.length
  | 0 => Nat.zero_le _
  | i + 1 => by
    have := inS_pos b m i
    simp only [inS]
    split
    · exact nextN_le m this
    · split
      · exact nextN_le m this
      · split
        · exact nextN_le m this
        · exact nextN_le m (nextN_le m this)
set_option maxRecDepth 8000 in
set_option maxHeartbeats 4000000 in
theorem pcall_in (b : List Iv) (m : List Int) (hb : b.length ≤ 1048576) (hok : boxOk b = true) (hl : Ok64 m) (hlen : m.length ≤ 1048576) :
    PCall Try.prog 20 [.d (.imm (ivs b)), .d (.imm (ints m))] (.d (.imm (ints (inV b m)))) := by
  refine walk Try.func20 (by kernel_rfl) rfl 72 rfl (Nat.le_of_ble_eq_true rfl) fun nid _ => ?_
  refine Tr.seq (Tr.regionK fun K hK => ?_)
  simp (maxSteps := 1000000)
  refine hK _ ?_; clear hK K
  refine Tr.seq (Tr.regionK fun K hK => ?_)
  simp (maxSteps := 1000000) [add_add]
  refine .inr ⟨[], [], fun n => .ptr n 0 0, [], [srcRow m 0], ⟨hcall_from m, by first | (simp; done) | (simp; omega), by first | (simp; done) | (simp; omega), by first | (simp; done) | (simp; omega), by first | (simp; done) | (simp; omega), by first | (simp; done) | (simp; omega), by first | (simp; done) | (simp; omega), by first | (simp; done) | (simp; omega), by first | (simp; done) | (simp; omega)⟩, ?_⟩
  simp (maxSteps := 1000000) [add_add]
  refine hK _ ?_; clear hK K
  refine Tr.seq (Tr.regionK fun K hK => ?_)
  simp (maxSteps := 1000000) [add_add]
  refine hK _ ?_; clear hK K
  refine Tr.seq ?_
  refine Tr.seq (Tr.regionK fun K hK => ?_)
  simp (maxSteps := 1000000) [add_add]
  refine hK _ ?_; clear hK K
  refine Tr.block ?_
  refine Tr.loopP [(2, 1)] [.slot 5, .nil 0] [.slot 5, .slot 6] (fun i : Nat => ([(0, .d (.imm (ivs b))), (5, .ptr nid 0 0), (6, .own (nid + 1) 1 0 (inS b m i).1.length), (7, .i i)],
  [(nid, srcRow m (inS b m i).2), (nid + 1, ⟨2, 1, upm intD (inS b m i).1⟩)])) (fun i : Nat => i ≤ b.length) (fun i : Nat => b.length - i) 0 rfl ?_ ?_ ?_
  · exact Nat.zero_le _
  · refine ⟨rfl, ?_, ?_, ?_, ?_⟩ <;> simp [add_add, inS]
  rintro i hi I hI0
  have w : IntKind.i64.wrap ((i : Int) + 1) = (i : Int) + 1 := wrapIn (by omega) (by omega)
  have hol := inS_len b m i
  have hp := inS_pos b m i
  have hs0 := inS.eq_2 b m i
  obtain ⟨⟨o, p⟩, hst⟩ : ∃ x, inS b m i = x := ⟨_, rfl⟩
  rw [hst] at hol hp hs0
  simp only at hol hp hs0
  refine Tr.seq ?_
  refine Tr.seq (Tr.regionK fun K hK => ?_)
  simp (maxSteps := 1000000) [add_add, hst]
  refine hK _ ?_; clear hK K
  refine Tr.cond rfl rfl (fun hq => ?_) (fun hq => ?_)
  · simp at hq
    obtain ⟨x, hx, hx'⟩ : ∃ x, b[i]? = some x ∧ b[i] = x := ⟨b[i], List.getElem?_eq_getElem hq, rfl⟩
    have hxo := Iv.ok_iff.1 (boxOk_at hok hx)
    have hgd : b.getD i ⟨0, 0⟩ = x := by rw [List.getD_eq_getElem?_getD, hx]; rfl
    rw [hgd] at hs0
    have hmd : (b.map Iv.mid)[i]? = some x.mid := by rw [List.getElem?_map, hx]; rfl
    have hv2 := nextV_rng m (nextN m p) (k := x.hi - x.lo + 1) (by omega)
    have w4 : IntKind.i64.wrap (x.hi - x.lo) = x.hi - x.lo := wrapIn (by omega) (by omega)
    have w5 : IntKind.i64.wrap (x.hi - x.lo + 1) = x.hi - x.lo + 1 := wrapIn (by omega) (by omega)
    have w6 : IntKind.i64.wrap (x.lo + nextV m (nextN m p) (x.hi - x.lo + 1)) = x.lo + nextV m (nextN m p) (x.hi - x.lo + 1) := wrapIn (by omega) (by omega)
    refine Tr.skip ?_
    refine Tr.seq ?_
    refine Tr.block ?_
    refine Tr.seq (Tr.regionK fun K hK => ?_)
    simp (maxSteps := 1000000) [add_add, hq]
    refine .inr ⟨[(nid, srcRow m p)], [nid], fun _ => .i (nextV m p 5), [(nid, srcRow m (nextN m p))], [], ⟨hcall_next m p (nid) 5 hl hlen hp (by omega) (by omega), by first | (simp; done) | (simp; omega), by first | (simp; done) | (simp; omega), by first | (simp; done) | (simp; omega), by first | (simp; done) | (simp; omega), by first | (simp; done) | (simp; omega), by first | (simp; done) | (simp; omega), by first | (simp; done) | (simp; omega), by first | (simp; done) | (simp; omega)⟩, ?_⟩
    simp (maxSteps := 1000000) [add_add]
    refine hK _ ?_; clear hK K
    refine Tr.block ?_
    by_cases s8_0 : nextV m p 5 = 0
    · have s8_0' := s8_0
      have hs1 : inS b m (i + 1) = (o ++ [x.lo], nextN m p) := by rw [hs0]; simp [s8_0]
      refine Tr.seq (Tr.regionK fun K hK => ?_)
      simp (maxSteps := 1000000) [add_add, s8_0]
      refine hK _ ?_; clear hK K
      refine Tr.cond rfl rfl (fun hq1 => ?_) (fun hq1 => by first | (cases hq1; done) | (simp at hq1; done) | (simp_all; done))
      refine Tr.regionK fun K hK => ?_
      simp (maxSteps := 1000000) [add_add, hx', hq]
      repeat (first | refine ⟨by omega, ?_⟩ | refine ⟨⟨by omega, by omega⟩, ?_⟩ | refine ⟨rfl, ?_⟩)
      refine hK _ ?_; clear hK K
      refine Tr.regionK fun K hK => ?_
      simp (maxSteps := 1000000) [add_add, w]
      refine hK _ ?_; clear hK K
      refine hI0 _ _ (i + 1) (hq) (by first | (show _ < _; omega) | (simp; omega)) ⟨rfl, ?_, ?_, ?_, ?_⟩ <;> simp [add_add, hs1]
    by_cases s8_1 : nextV m p 5 = 1
    · have s8_1' := s8_1
      have hs1 : inS b m (i + 1) = (o ++ [x.hi], nextN m p) := by rw [hs0]; simp [s8_1]
      refine Tr.seq (Tr.regionK fun K hK => ?_)
      simp (maxSteps := 1000000) [add_add, s8_1]
      refine hK _ ?_; clear hK K
      refine Tr.cond rfl rfl (fun hq2 => by first | (cases hq2; done) | (simp at hq2; done) | (simp_all; done)) (fun hq2 => ?_)
      refine Tr.seq (Tr.regionK fun K hK => ?_)
      simp (maxSteps := 1000000) [add_add]
      refine hK _ ?_; clear hK K
      refine Tr.cond rfl rfl (fun hq3 => ?_) (fun hq3 => by first | (cases hq3; done) | (simp at hq3; done) | (simp_all; done))
      refine Tr.regionK fun K hK => ?_
      simp (maxSteps := 1000000) [add_add, hx', hq]
      repeat (first | refine ⟨by omega, ?_⟩ | refine ⟨⟨by omega, by omega⟩, ?_⟩ | refine ⟨rfl, ?_⟩)
      refine hK _ ?_; clear hK K
      refine Tr.regionK fun K hK => ?_
      simp (maxSteps := 1000000) [add_add, w]
      refine hK _ ?_; clear hK K
      refine hI0 _ _ (i + 1) (hq) (by first | (show _ < _; omega) | (simp; omega)) ⟨rfl, ?_, ?_, ?_, ?_⟩ <;> simp [add_add, hs1]
    by_cases s8_2 : nextV m p 5 = 2
    · have s8_2' := s8_2
      have hs1 : inS b m (i + 1) = (o ++ [x.mid], nextN m p) := by rw [hs0]; simp [s8_2]
      refine Tr.seq (Tr.regionK fun K hK => ?_)
      simp (maxSteps := 1000000) [add_add, s8_2]
      refine hK _ ?_; clear hK K
      refine Tr.cond rfl rfl (fun hq4 => by first | (cases hq4; done) | (simp at hq4; done) | (simp_all; done)) (fun hq4 => ?_)
      refine Tr.seq (Tr.regionK fun K hK => ?_)
      simp (maxSteps := 1000000) [add_add]
      refine hK _ ?_; clear hK K
      refine Tr.cond rfl rfl (fun hq5 => by first | (cases hq5; done) | (simp at hq5; done) | (simp_all; done)) (fun hq5 => ?_)
      refine Tr.seq (Tr.regionK fun K hK => ?_)
      simp (maxSteps := 1000000) [add_add]
      refine hK _ ?_; clear hK K
      refine Tr.cond rfl rfl (fun hq6 => ?_) (fun hq6 => by first | (cases hq6; done) | (simp at hq6; done) | (simp_all; done))
      refine Tr.regionK fun K hK => ?_
      simp (maxSteps := 1000000) [add_add]
      refine .inl ⟨_, pcall_middle b hb hok, rfl, ?_⟩
      simp (maxSteps := 1000000) [add_add, hx', hq]
      repeat (first | refine ⟨by omega, ?_⟩ | refine ⟨⟨by omega, by omega⟩, ?_⟩ | refine ⟨rfl, ?_⟩)
      refine hK _ ?_; clear hK K
      refine Tr.regionK fun K hK => ?_
      simp (maxSteps := 1000000) [add_add, w]
      refine hK _ ?_; clear hK K
      refine hI0 _ _ (i + 1) (hq) (by first | (show _ < _; omega) | (simp; omega)) ⟨rfl, ?_, ?_, ?_, ?_⟩ <;> simp [add_add, hs1]
    have hs1 : inS b m (i + 1) = (o ++ [x.lo + nextV m (nextN m p) (x.hi - x.lo + 1)], nextN m (nextN m p)) := by rw [hs0]; simp [s8_0, s8_1, s8_2]
    refine Tr.seq (Tr.regionK fun K hK => ?_)
    simp (maxSteps := 1000000) [add_add, s8_0]
    refine hK _ ?_; clear hK K
    refine Tr.cond rfl rfl (fun hq7 => by first | (cases hq7; done) | (simp at hq7; done) | (simp_all; done)) (fun hq7 => ?_)
    refine Tr.seq (Tr.regionK fun K hK => ?_)
    simp (maxSteps := 1000000) [add_add, s8_1]
    refine hK _ ?_; clear hK K
    refine Tr.cond rfl rfl (fun hq8 => by first | (cases hq8; done) | (simp at hq8; done) | (simp_all; done)) (fun hq8 => ?_)
    refine Tr.seq (Tr.regionK fun K hK => ?_)
    simp (maxSteps := 1000000) [add_add, s8_2]
    refine hK _ ?_; clear hK K
    refine Tr.cond rfl rfl (fun hq9 => by first | (cases hq9; done) | (simp at hq9; done) | (simp_all; done)) (fun hq9 => ?_)
    refine Tr.regionE mixed (by kernel_rfl) fun K hK => ?_
    simp (maxSteps := 1000000) [add_add, hx', hq, w4, w5]
    refine .inr ⟨[(nid, srcRow m (nextN m p))], [nid], fun _ => .i (nextV m (nextN m p) (x.hi - x.lo + 1)), [(nid, srcRow m (nextN m (nextN m p)))], [], ⟨hcall_next m (nextN m p) (nid) (x.hi - x.lo + 1) hl hlen (nextN_le m hp) (by omega) (by omega), by first | (simp; done) | (simp; omega), by first | (simp; done) | (simp; omega), by first | (simp; done) | (simp; omega), by first | (simp; done) | (simp; omega), by first | (simp; done) | (simp; omega), by first | (simp; done) | (simp; omega), by first | (simp; done) | (simp; omega), by first | (simp; done) | (simp; omega)⟩, (by simp), ?_⟩
    simp (maxSteps := 1000000) [add_add, Region.binds, w6]
    repeat (first | refine ⟨by omega, ?_⟩ | refine ⟨⟨by omega, by omega⟩, ?_⟩ | refine ⟨rfl, ?_⟩)
    refine hK _ ?_; clear hK K
    refine Tr.regionK fun K hK => ?_
    simp (maxSteps := 1000000) [add_add, w]
    refine hK _ ?_; clear hK K
    refine hI0 _ _ (i + 1) (hq) (by first | (show _ < _; omega) | (simp; omega)) ⟨rfl, ?_, ?_, ?_, ?_⟩ <;> simp [add_add, hs1]
  simp at hq
  refine Tr.exit (exit_s (exit_s (exit_b ?_)))
  have hin : i = b.length := by omega
  subst hin
  have hf : inV b m = o := by unfold inV; rw [hst]
  refine Tr.freezeM (nid + 1) intD o [(6, .d (.imm (ints o)))] [] (ty := 2) (sz := 1) ?_ ?_ ?_ ?_ ?_
  · simp
  · simp
  · simp
  · simp
  refine Tr.seq (Tr.regionK fun K hK => ?_)
  simp (maxSteps := 1000000) [add_add]
  refine hK _ ?_; clear hK K
  refine Tr.ret ⟨.inr rfl, ?_, ?_, ?_, ?_⟩ <;> simp [Try.f20, hf]
end Go.Proofs.Ytmljpbhmdjpbaaa
namespace Go.Proofs.Ytmljpbhmdjpbaaa
set_option linter.unusedVariables false
set_option linter.unusedSimpArgs false
open Go.PM

/-- Numbers that are drawn. -/
def mS (l : List Int) (p : Nat) : Nat → List Int × Nat
  | 0 => ([], p)
  | k + 1 => ((mS l p k).1 ++ [nextV l (mS l p k).2 1048576], nextN l (mS l p k).2)
theorem mS_len (l : List Int) (p : Nat) : ∀ k, (mS l p k).1.length = k
  | 0 => rfl
  | k + 1 => by simp [mS, mS_len l p k]
theorem mS_pos (l : List Int) {p : Nat} (h : p ≤ l.length) : ∀ k, (mS l p k).2 ≤ l.length
  | 0 => h
  | k + 1 => nextN_le l (mS_pos l h k)
theorem mS_rng (l : List Int) (p : Nat) : ∀ k, ∀ x ∈ (mS l p k).1, 0 ≤ x ∧ x < 1048576
  | 0, x, h => by simp [mS] at h
  | k + 1, x, h => by
    rcases List.mem_append.1 h with h | h
    · exact mS_rng l p k x h
    · simp only [List.mem_singleton] at h
      subst h
      exact nextV_rng l _ (by omega)
/-- A polyline that is made. -/
def lineS (b : List Iv) (l : List Int) : Nat → List (List Int) × Nat
  | 0 => ([], 0)
  | i + 1 => ((lineS b l i).1 ++ [inV b (mS l (lineS b l i).2 (2 * b.length)).1], (mS l (lineS b l i).2 (2 * b.length)).2)
def lineV (b : List Iv) (l : List Int) (n : Nat) : List (List Int) := (lineS b l n).1
theorem lineS_len (b : List Iv) (l : List Int) : ∀ i, (lineS b l i).1.length = i
  | 0 => rfl
  | i + 1 => by simp [lineS, lineS_len b l i]
theorem lineS_pos (b : List Iv) (l : List Int) : ∀ i, (lineS b l i).2 ≤ l.length
  | 0 => Nat.zero_le _
  | i + 1 => mS_pos l (lineS_pos b l i) _
abbrev qD (q : List Int) : List DV := [.imm (ints q)]
abbrev qs (l : List (List Int)) : List (List DV) := l.map qD
set_option maxRecDepth 8000 in
set_option maxHeartbeats 4000000 in
theorem pcall_line (b : List Iv) (l : List Int) (n : Nat) (hb : b.length ≤ 1000) (hok : boxOk b = true) (hn : n ≤ 1000000) (hl : Ok64 l) (hlen : l.length ≤ 1048576) :
    PCall Try.prog 18 [.d (.imm (ivs b)), .i n, .d (.imm (ints l))] (.d (.imm (qs (lineV b l n)))) := by
  have w2 : IntKind.i64.wrap (2 * (b.length : Int)) = 2 * (b.length : Int) := wrapIn (by omega) (by omega)
  refine walk Try.func18 (by kernel_rfl) rfl 38 rfl (Nat.le_of_ble_eq_true rfl) fun nid _ => ?_
  refine Tr.seq (Tr.regionK fun K hK => ?_)
  simp (maxSteps := 1000000)
  refine hK _ ?_; clear hK K
  refine Tr.seq (Tr.regionK fun K hK => ?_)
  simp (maxSteps := 1000000) [add_add]
  refine .inr ⟨[], [], fun n => .ptr n 0 0, [], [srcRow l 0], ⟨hcall_from l, by first | (simp; done) | (simp; omega), by first | (simp; done) | (simp; omega), by first | (simp; done) | (simp; omega), by first | (simp; done) | (simp; omega), by first | (simp; done) | (simp; omega), by first | (simp; done) | (simp; omega), by first | (simp; done) | (simp; omega), by first | (simp; done) | (simp; omega)⟩, ?_⟩
  simp (maxSteps := 1000000) [add_add]
  refine hK _ ?_; clear hK K
  refine Tr.seq (Tr.regionK fun K hK => ?_)
  simp (maxSteps := 1000000) [add_add]
  refine hK _ ?_; clear hK K
  refine Tr.seq ?_
  refine Tr.seq (Tr.regionK fun K hK => ?_)
  simp (maxSteps := 1000000) [add_add]
  refine hK _ ?_; clear hK K
  refine Tr.block ?_
  refine Tr.loopP [(35, 1)] [.slot 7, .nil 0] [.slot 7, .slot 8] (fun i : Nat => ([(0, .d (.imm (ivs b))), (1, .i n), (7, .ptr nid 0 0), (8, .own (nid + 1) 1 0 (lineS b l i).1.length), (9, .i i)],
  [(nid, srcRow l (lineS b l i).2), (nid + 1, ⟨35, 1, upm qD (lineS b l i).1⟩)])) (fun i : Nat => i ≤ n) (fun i : Nat => n - i) 0 rfl ?_ ?_ ?_
  · exact Nat.zero_le _
  · refine ⟨rfl, ?_, ?_, ?_, ?_⟩ <;> simp [add_add, lineS]
  rintro i hi I hI0
  have w : IntKind.i64.wrap ((i : Int) + 1) = (i : Int) + 1 := wrapIn (by omega) (by omega)
  have hol := lineS_len b l i
  have hp := lineS_pos b l i
  have hs1 := lineS.eq_2 b l i
  obtain ⟨⟨o, p⟩, hst⟩ : ∃ x, lineS b l i = x := ⟨_, rfl⟩
  rw [hst] at hol hp hs1
  simp only at hol hp hs1
  refine Tr.seq ?_
  refine Tr.seq (Tr.regionK fun K hK => ?_)
  simp (maxSteps := 1000000) [add_add, hst]
  refine hK _ ?_; clear hK K
  refine Tr.cond rfl rfl (fun hq => ?_) (fun hq => ?_)
  · simp at hq
    refine Tr.skip ?_
    refine Tr.seq ?_
    refine Tr.block ?_
    refine Tr.seq (Tr.regionK fun K hK => ?_)
    simp (maxSteps := 1000000) [add_add]
    refine hK _ ?_; clear hK K
    refine Tr.seq ?_
    refine Tr.seq (Tr.regionK fun K hK => ?_)
    simp (maxSteps := 1000000) [add_add]
    refine hK _ ?_; clear hK K
    refine Tr.block ?_
    refine Tr.loopP [(3, 1)] [.slot 7, .slot 8, .nil 0] [.slot 7, .slot 8, .slot 10] (fun k : Nat => ([(0, .d (.imm (ivs b))), (1, .i n), (7, .ptr nid 0 0), (8, .own (nid + 1) 1 0 o.length), (9, .i i), (10, .own (nid + 2) 1 0 (mS l p k).1.length), (11, .i k)],
    [(nid, srcRow l (mS l p k).2), (nid + 1, ⟨35, 1, upm qD o⟩), (nid + 2, ⟨3, 1, upm intD (mS l p k).1⟩)])) (fun k : Nat => k ≤ 2 * b.length) (fun k : Nat => 2 * b.length - k) 0 rfl ?_ ?_ ?_
    · exact Nat.zero_le _
    · refine ⟨rfl, ?_, ?_, ?_, ?_⟩ <;> simp [add_add, mS]
    rintro k hk I hI2
    have wk : IntKind.i64.wrap ((k : Int) + 1) = (k : Int) + 1 := wrapIn (by omega) (by omega)
    have hrl := mS_len l p k
    have hp2 := mS_pos l hp k
    have hrr := mS_rng l p k
    have hm1 := mS.eq_2 l p k
    have hm0 : 2 * b.length = k → (mS l p (2 * b.length)) = mS l p k := fun e => by rw [e]
    obtain ⟨⟨r, p2⟩, hmt⟩ : ∃ x, mS l p k = x := ⟨_, rfl⟩
    rw [hmt] at hrl hp2 hm1 hrr hm0
    simp only at hrl hp2 hm1 hrr hm0
    refine Tr.seq ?_
    refine Tr.seq (Tr.regionK fun K hK => ?_)
    simp (maxSteps := 1000000) [add_add, w2, hmt]
    refine hK _ ?_; clear hK K
    refine Tr.cond rfl rfl (fun hk1 => ?_) (fun hk1 => ?_)
    · simp at hk1
      refine Tr.skip ?_
      refine Tr.seq ?_
      refine Tr.block ?_
      refine Tr.regionK fun K hK => ?_
      simp (maxSteps := 1000000) [add_add]
      refine .inr ⟨[(nid, srcRow l p2)], [nid], fun _ => .i (nextV l p2 1048576), [(nid, srcRow l (nextN l p2))], [], ⟨hcall_next l p2 (nid) 1048576 hl hlen hp2 (by omega) (by omega), by first | (simp; done) | (simp; omega), by first | (simp; done) | (simp; omega), by first | (simp; done) | (simp; omega), by first | (simp; done) | (simp; omega), by first | (simp; done) | (simp; omega), by first | (simp; done) | (simp; omega), by first | (simp; done) | (simp; omega), by first | (simp; done) | (simp; omega)⟩, ?_⟩
      simp (maxSteps := 1000000) [add_add]
      repeat (first | refine ⟨by omega, ?_⟩ | refine ⟨⟨by omega, by omega⟩, ?_⟩ | refine ⟨rfl, ?_⟩)
      refine hK _ ?_; clear hK K
      refine Tr.regionK fun K hK => ?_
      simp (maxSteps := 1000000) [add_add, wk]
      refine hK _ ?_; clear hK K
      refine hI2 _ _ (k + 1) (by omega) (by first | (show _ < _; omega) | (simp; omega)) ⟨rfl, ?_, ?_, ?_, ?_⟩ <;> simp [add_add, hm1]
    simp at hk1
    refine Tr.exit (exit_s (exit_s (exit_b ?_)))
    have hkn : 2 * b.length = k := by omega
    rw [hm0 hkn] at hs1
    have hr64 : Ok64 r := fun x hx => by have := hrr x hx; omega
    refine Tr.freezeM (nid + 2) intD r [(0, .d (.imm (ivs b))), (1, .i n), (7, .ptr nid 0 0), (8, .own (nid + 1) 1 0 o.length), (9, .i i), (10, .d (.imm (ints r)))] [(nid, srcRow l p2), (nid + 1, ⟨35, 1, upm qD o⟩)] (ty := 3) (sz := 1) ?_ ?_ ?_ ?_ ?_
    · simp
    · simp
    · simp
    · simp
    refine Tr.regionK fun K hK => ?_
    simp (maxSteps := 1000000) [add_add]
    refine .inl ⟨_, pcall_in b r (by omega) hok hr64 (by omega), rfl, ?_⟩
    simp (maxSteps := 1000000) [add_add]
    repeat (first | refine ⟨by omega, ?_⟩ | refine ⟨⟨by omega, by omega⟩, ?_⟩ | refine ⟨rfl, ?_⟩)
    refine hK _ ?_; clear hK K
    refine Tr.regionK fun K hK => ?_
    simp (maxSteps := 1000000) [add_add, w]
    refine hK _ ?_; clear hK K
    refine hI0 _ _ (i + 1) (hq) (by first | (show _ < _; omega) | (simp; omega)) ⟨rfl, ?_, ?_, ?_, ?_⟩ <;> simp [add_add, hs1]
  simp at hq
  refine Tr.exit (exit_s (exit_s (exit_b ?_)))
  have hin : i = n := by omega
  subst hin
  have hf : lineV b l i = o := by unfold lineV; rw [hst]
  refine Tr.freezeM (nid + 1) qD o [(8, .d (.imm (qs o)))] [] (ty := 35) (sz := 1) ?_ ?_ ?_ ?_ ?_
  · simp
  · simp
  · simp
  · simp
  refine Tr.seq (Tr.regionK fun K hK => ?_)
  simp (maxSteps := 1000000) [add_add]
  refine hK _ ?_; clear hK K
  refine Tr.ret ⟨.inr rfl, ?_, ?_, ?_, ?_⟩ <;> simp [Try.f18, hf]
end Go.Proofs.Ytmljpbhmdjpbaaa
namespace Go.Proofs.Ytmljpbhmdjpbaaa
set_option linter.unusedVariables false
set_option linter.unusedSimpArgs false
open Go.PM

theorem bstep_leaf {n i : Nat} {outs : Outs} {c : Cel} {b : List Iv} (hb : outs[i]? = some (some b)) (h1 : c.leaf = true) (h2 : c.v.inForm = true) : bstep n i outs c = some outs := by
  unfold bstep
  rw [hb]
  simp [h1, h2]
theorem bstep_inner {n i : Nat} {outs : Outs} {c : Cel} {b l h : List Iv} (hb : outs[i]? = some (some b)) (h1 : c.leaf = false) (h2 : c.v.zero = true) (h3 : (i : Int) < c.lo) (h4 : c.lo < n) (h5 : (i : Int) < c.hi) (h6 : c.hi < n) (h7 : c.lo ≠ c.hi)
    (h8 : outs[c.lo.toNat]? = some none) (h9 : outs[c.hi.toNat]? = some none) (hh : halve b c.j = some (l, h)) : bstep n i outs c = some ((outs.set c.lo.toNat (some l)).set c.hi.toNat (some h)) := by
  unfold bstep
  rw [hb]
  simp [h1, h2, h3, h4, h5, h6, h7, h8, h9, hh]
theorem bstep_app {n i : Nat} {outs o : Outs} {c : Cel} (hn : outs.length = n) (h : bstep n i outs c = some o) (x y : Option (List Iv)) : bstep (n + 2) i (outs ++ [x, y]) c = some (o ++ [x, y]) := by
  obtain ⟨b, hb, hc⟩ := bstep_cases h
  have hi : i < outs.length := (List.getElem?_eq_some_iff.1 hb).1
  have hb' : (outs ++ [x, y])[i]? = some (some b) := by rw [List.getElem?_append_left hi]; exact hb
  rcases hc with ⟨h1, h2, rfl⟩ | ⟨h1, h2, h3, h4, h5, h6, h7, h8, h9, l, hh, e, rfl⟩
  · exact bstep_leaf hb' h1 h2
  · have l1 : c.lo.toNat < outs.length := by omega
    have l2 : c.hi.toNat < outs.length := by omega
    rw [bstep_inner hb' h1 h2 h3 (by omega) h5 (by omega) h7 (by rw [List.getElem?_append_left l1]; exact h8) (by rw [List.getElem?_append_left l2]; exact h9) e]
    rw [List.set_append_left _ _ l1, List.set_append_left _ _ (by simpa using l2)]

theorem bst_leaf_at {t : Tree} {l : List (List Iv)} (h : boxesT t = some l) {k : Nat} {c : Cel} (hc : t.cells[k]? = some c) (hl : c.leaf = true) :
    ∃ outs b, bst t k = some outs ∧ outs.length = t.cells.length ∧ outs[k]? = some (some b) ∧ bst t (k + 1) = some outs ∧ c.v.inForm = true ∧ l[k]? = some b := by
  have hk := (List.getElem?_eq_some_iff.1 hc).1
  obtain ⟨h1, h2⟩ := boxesT_iff h
  obtain ⟨outs, ho⟩ := bst_pre h2 (Nat.le_of_lt hk)
  obtain ⟨o1, ho1⟩ := bst_pre h2 (i := k + 1) hk
  have hst := ho1
  rw [bst_succ ho hc] at hst
  obtain ⟨b, hb, hcs⟩ := bstep_cases hst
  rcases hcs with ⟨_, g2, rfl⟩ | ⟨g1, _⟩
  · refine ⟨_, b, ho, (bst_inv ho (Nat.le_of_lt hk)).1, hb, ho1, g2, ?_⟩
    have keep : ∀ m, k + 1 + m ≤ t.cells.length → ∃ o, bst t (k + 1 + m) = some o ∧ o[k]? = some (some b) := by
      intro m
      induction m with
      | zero => intro _; exact ⟨_, ho1, hb⟩
      | succ m ih =>
        intro hm
        obtain ⟨o, g3, g4⟩ := ih (by omega)
        obtain ⟨o2, g5⟩ := bst_pre h2 (i := k + 1 + (m + 1)) hm
        have g6 := g5
        rw [← Nat.add_assoc, bst_succ g3 (List.getElem?_eq_getElem (by omega))] at g6
        obtain ⟨b', _, hcs⟩ := bstep_cases g6
        rcases hcs with ⟨_, _, rfl⟩ | ⟨_, _, c2, c3, c4, c5, _, _, _, l', h', _, rfl⟩
        · exact ⟨_, g5, g4⟩
        · refine ⟨_, g5, ?_⟩
          rw [List.getElem?_set_ne (by omega), List.getElem?_set_ne (by omega)]
          exact g4
    obtain ⟨o, g3, g4⟩ := keep (t.cells.length - (k + 1)) (by omega)
    rw [Nat.add_sub_cancel' (by omega), h2] at g3
    cases g3
    rw [List.getElem?_map] at g4
    cases hl : l[k]? with
    | none => rw [hl] at g4; cases g4
    | some b' => rw [hl] at g4; simpa using g4
  · rw [hl] at g1; cases g1

theorem bst_congr {t t' : Tree} (hr : t'.root = t.root) (hn : t'.cells.length = t.cells.length) (h : ∀ i, ∀ outs o, bst t i = some outs → i < t.cells.length → bst t (i + 1) = some o → ∃ c, t'.cells[i]? = some c ∧ bstep t.cells.length i outs c = some o) :
    ∀ {i : Nat} {o : Outs}, i ≤ t.cells.length → bst t i = some o → bst t' i = some o
  | 0, o, _, ho => by
    simp only [bst] at ho ⊢
    rw [hn, hr]
    exact ho
  | i + 1, o, hi, ho => by
    obtain ⟨o0, h0⟩ := bst_pre ho (Nat.le_succ i)
    have h1 := bst_congr hr hn h (by omega) h0
    obtain ⟨c, hc, hb⟩ := h i o0 o h0 hi ho
    rw [bst_succ h1 hc, hn]
    exact hb

/-- Settling a leaf changes no box. -/
theorem settle_boxes {t t' : Tree} {i : Int} {v : Vd} (h : settle t i v = some t') : boxesT t' = boxesT t ∧ t'.root = t.root ∧ t'.cells.length = t.cells.length := by
  unfold settle at h
  split at h
  · rename_i hv
    split at h
    · rename_i c hc
      split at h
      · rename_i hl
        simp only [Option.some.injEq] at h
        subst h
        obtain ⟨l, hh⟩ := Option.isSome_iff_exists.1 hv.1
        obtain ⟨h1, h2⟩ := boxesT_iff hh
        have hk := (List.getElem?_eq_some_iff.1 hc).1
        refine ⟨?_, rfl, by simp⟩
        have key := bst_congr (t := t) (t' := ⟨t.root, t.cells.set i.toNat ⟨c.j, c.lo, c.hi, v⟩⟩) rfl (by simp) (fun k outs o ho hkl ho1 => by
          have hck : t.cells[k]? = some t.cells[k] := List.getElem?_eq_getElem hkl
          rw [bst_succ ho hck] at ho1
          by_cases hki : k = i.toNat
          · subst hki
            refine ⟨⟨c.j, c.lo, c.hi, v⟩, by simp [hk], ?_⟩
            have hcc : t.cells[i.toNat] = c := by rw [hck] at hc; exact Option.some.inj hc
            rw [hcc] at ho1
            obtain ⟨b, hb, hcs⟩ := bstep_cases ho1
            rcases hcs with ⟨_, _, rfl⟩ | ⟨g1, _⟩
            · exact bstep_leaf hb (by have := hl.1; unfold Cel.leaf at this ⊢; exact this) hl.2.2
            · rw [hl.1] at g1; cases g1
          · refine ⟨t.cells[k], ?_, ho1⟩
            show (t.cells.set i.toNat _)[k]? = _
            rw [List.getElem?_set_ne (fun e => hki e.symm)]
            exact hck) (Nat.le_refl _) h2
        have ht' : treeOk ⟨t.root, t.cells.set i.toNat ⟨c.j, c.lo, c.hi, v⟩⟩ = true := by
          have := treeOk_iff.1 h1
          refine treeOk_iff.2 ⟨this.1, ?_, by simpa using this.2.2⟩
          intro e
          have e := congrArg List.length e
          simp at e
          exact this.2.1 e
        obtain ⟨l', g1, g2⟩ := boxesT_some (t := ⟨t.root, t.cells.set i.toNat ⟨c.j, c.lo, c.hi, v⟩⟩) ht' (by simpa using key)
        rw [g1, hh]
        have := congrArg (List.map (fun x : Option (List Iv) => x.getD [])) g2
        simp only [List.map_map] at this
        have e : ∀ m : List (List Iv), m.map ((fun x : Option (List Iv) => x.getD []) ∘ some) = m := fun m => List.map_id m
        rw [e, e] at this
        rw [this]
      · cases h
    · cases h
  · cases h

/-- Splitting a leaf keeps a tree valid. -/
theorem split_boxes {t t' : Tree} {i j : Int} (h : splitCell t i j = some t') : (boxesT t').isSome = true ∧ t'.root = t.root ∧ t'.cells.length = t.cells.length + 2 := by
  unfold splitCell at h
  cases hh : boxesT t with
  | none => rw [hh] at h; cases h
  | some l =>
    rw [hh] at h
    simp only [Option.bind_some] at h
    split at h
    · cases h
    split at h
    case h_2 => cases h
    rename_i hi0 _ _ c b hc hb
    split at h
    case isFalse => cases h
    rename_i hcond
    obtain ⟨hl, hlen, hhv⟩ := hcond
    simp only [Option.some.injEq] at h
    subst h
    obtain ⟨k, rfl⟩ := Int.eq_ofNat_of_zero_le (Int.not_lt.1 hi0)
    simp only [Int.toNat_natCast] at hc hb ⊢
    obtain ⟨⟨b1, b2⟩, hv⟩ := Option.isSome_iff_exists.1 hhv
    have hj := (halve_len2 hv).2.2.1
    have hln := boxesT_length hh
    obtain ⟨h1, h2⟩ := boxesT_iff hh
    have hk := (List.getElem?_eq_some_iff.1 hc).1
    obtain ⟨outs, b', ho, hol, hob, ho1, hf, hlb⟩ := bst_leaf_at hh hc hl
    rw [hb] at hlb
    cases hlb
    refine ⟨?_, by first | rfl | trivial, by simp⟩
    obtain ⟨t', ht'⟩ : ∃ t', t' = (⟨t.root, t.cells.set k ⟨j, l.length, l.length + 1, zeroVd⟩ ++ [c, c]⟩ : Tree) := ⟨_, rfl⟩
    rw [← ht']
    have hn' : t'.cells.length = t.cells.length + 2 := by rw [ht']; simp
    have hcell : ∀ m, m < t.cells.length → m ≠ k → t'.cells[m]? = t.cells[m]? := by
      intro m hm hmk
      rw [ht']
      show (t.cells.set k _ ++ [c, c])[m]? = _
      rw [List.getElem?_append_left (by simpa using hm), List.getElem?_set_ne (fun e => hmk e.symm)]
    have hcellk : t'.cells[k]? = some ⟨j, l.length, l.length + 1, zeroVd⟩ := by
      rw [ht']
      show (t.cells.set k _ ++ [c, c])[k]? = _
      rw [List.getElem?_append_left (by simpa using hk)]
      simp [hk]
    have A : ∀ m, m ≤ k → ∀ o, bst t m = some o → bst t' m = some (o ++ [none, none]) := by
      intro m
      induction m with
      | zero =>
        intro _ o h0
        simp only [bst, Option.some.injEq] at h0 ⊢
        rw [← h0, hn', show t'.root = t.root by rw [ht'], ← List.replicate_append_replicate, List.set_append_left _ _ (by simp; omega)]
        rfl
      | succ m ih =>
        intro hm o h0
        obtain ⟨o0, g0⟩ := bst_pre h0 (Nat.le_succ m)
        have g1 := ih (by omega) o0 g0
        have gc : t.cells[m]? = some t.cells[m] := List.getElem?_eq_getElem (by omega)
        have gc' : t'.cells[m]? = some t.cells[m] := by rw [hcell m (by omega) (by omega)]; exact gc
        rw [bst_succ g0 gc] at h0
        rw [bst_succ g1 gc', hn']
        exact bstep_app (bst_inv g0 (by omega)).1 h0 none none
    have hlo : ((l.length : Nat) : Int).toNat = outs.length := by rw [Int.toNat_natCast, hln, hol]
    have hhi : ((l.length : Int) + 1).toNat = outs.length + 1 := by omega
    have B : bst t' (k + 1) = some (outs ++ [some b1, some b2]) := by
      rw [bst_succ (A k (Nat.le_refl _) outs ho) hcellk, hn']
      have hob' : (outs ++ [none, none])[k]? = some (some b) := by rw [List.getElem?_append_left (by omega)]; exact hob
      rw [bstep_inner hob' (by unfold Cel.leaf; simp <;> omega) rfl (by show (k : Int) < (l.length : Int); omega) (by show (l.length : Int) < _; omega) (by show (k : Int) < (l.length : Int) + 1; omega) (by show (l.length : Int) + 1 < _; omega) (by show (l.length : Int) ≠ (l.length : Int) + 1; omega)
        (by rw [hlo]; simp) (by rw [hhi]; simp) hv]
      rw [hlo, hhi]
      simp
    have Cc : ∀ m, k + 1 + m ≤ t.cells.length → ∀ o, bst t (k + 1 + m) = some o → bst t' (k + 1 + m) = some (o ++ [some b1, some b2]) := by
      intro m
      induction m with
      | zero => intro _ o h0; rw [Nat.add_zero, ho1] at h0; cases h0; exact B
      | succ m ih =>
        intro hm o h0
        obtain ⟨o0, g0⟩ := bst_pre (i := k + 1 + m) h0 (by omega)
        have g1 := ih (by omega) o0 g0
        have gc : t.cells[k + 1 + m]? = some t.cells[k + 1 + m] := List.getElem?_eq_getElem (by omega)
        have gc' : t'.cells[k + 1 + m]? = some t.cells[k + 1 + m] := by rw [hcell (k + 1 + m) (by omega) (by omega)]; exact gc
        rw [← Nat.add_assoc, bst_succ g0 gc] at h0
        rw [← Nat.add_assoc, bst_succ g1 gc', hn']
        exact bstep_app (bst_inv g0 (by omega)).1 h0 _ _
    have D := Cc (t.cells.length - (k + 1)) (by omega) (l.map some) (by rw [Nat.add_sub_cancel' (by omega)]; exact h2)
    rw [Nat.add_sub_cancel' (by omega)] at D
    have hlast : ∀ m, m < 2 → t'.cells[t.cells.length + m]? = some c := by
      intro m hm
      rw [ht']
      show (t.cells.set k _ ++ [c, c])[t.cells.length + m]? = _
      rw [List.getElem?_append_right (by simp)]
      match m, hm with
      | 0, _ => simp
      | 1, _ => simp
    have E1 : bst t' (t.cells.length + 1) = some (l.map some ++ [some b1, some b2]) := by
      rw [bst_succ D (hlast 0 (by omega))]
      exact bstep_leaf (b := b1) (by rw [List.getElem?_append_right (by simp [hln])]; simp [hln]) hl hf
    have E2 : bst t' (t.cells.length + 1 + 1) = some (l.map some ++ [some b1, some b2]) := by
      rw [bst_succ E1 (hlast 1 (by omega))]
      exact bstep_leaf (b := b2) (by rw [List.getElem?_append_right (by simp [hln])]; simp [hln]) hl hf
    have ht2 : treeOk t' = true := by
      have := treeOk_iff.1 h1
      refine treeOk_iff.2 ⟨by rw [ht']; exact this.1, ?_, by omega⟩
      intro e
      rw [e] at hn'
      simp at hn'
    obtain ⟨l', g1, _⟩ := boxesT_some (t := t') ht2 (by rw [hn']; exact E2)
    rw [g1]; rfl

theorem lvs_mem (t : Tree) : ∀ (n : Nat) (x : Int), x ∈ lvs t n ↔ ∃ k : Nat, x = k ∧ k < n ∧ leafAt t k = true
  | 0, x => by simp [lvs]
  | n + 1, x => by
    simp only [lvs, List.mem_append, lvs_mem t n x]
    constructor
    · rintro (⟨k, h1, h2, h3⟩ | h)
      · exact ⟨k, h1, by omega, h3⟩
      · split at h
        · rename_i hl
          simp only [List.mem_singleton] at h
          exact ⟨n, h, by omega, hl⟩
        · cases h
    · rintro ⟨k, h1, h2, h3⟩
      by_cases hk : k < n
      · exact .inl ⟨k, h1, hk, h3⟩
      · have : k = n := by omega
        subst this
        rw [if_pos h3]
        exact .inr (by simp [h1])
theorem lvs_length (t : Tree) : ∀ n, (lvs t n).length ≤ n
  | 0 => by simp [lvs]
  | n + 1 => by
    have := lvs_length t n
    simp only [lvs, List.length_append]
    split <;> simp <;> omega
/-- The last cell of a valid tree is a leaf. -/
theorem last_leaf {t : Tree} {l : List (List Iv)} (h : boxesT t = some l) : 0 < t.cells.length ∧ leafAt t (t.cells.length - 1) = true := by
  obtain ⟨h1, h2⟩ := boxesT_iff h
  have hpos : 0 < t.cells.length := List.length_pos_iff.2 (treeOk_iff.1 h1).2.1
  refine ⟨hpos, ?_⟩
  obtain ⟨o, ho⟩ := bst_pre (i := t.cells.length - 1) h2 (by omega)
  have hc : t.cells[t.cells.length - 1]? = some t.cells[t.cells.length - 1] := List.getElem?_eq_getElem (by omega)
  have hs := bst_succ ho hc
  rw [Nat.sub_add_cancel hpos, h2] at hs
  obtain ⟨b, _, hcs⟩ := bstep_cases hs.symm
  rw [leafAt_eq hc]
  rcases hcs with ⟨g, _⟩ | ⟨_, _, g1, g2, _⟩
  · exact g
  · omega
theorem lvs_pos {t : Tree} {l : List (List Iv)} (h : boxesT t = some l) : 0 < (lvs t t.cells.length).length := by
  obtain ⟨h1, h2⟩ := last_leaf h
  have : ((t.cells.length - 1 : Nat) : Int) ∈ lvs t t.cells.length := (lvs_mem t _ _).2 ⟨_, rfl, by omega, h2⟩
  exact List.length_pos_of_mem this
end Go.Proofs.Ytmljpbhmdjpbaaa
namespace Go.Proofs.Ytmljpbhmdjpbaaa
set_option linter.unusedVariables false
set_option linter.unusedSimpArgs false
open Go.PM

theorem splitP_eq (u : Tree) (o : Option Tree) : splitP u o = .tup [treeP (o.getD u), .b o.isSome] := by cases o <;> rfl
/-- Splits. -/
def dvS (t : Tree) (l : List Int) : Nat → Tree × Nat
  | 0 => (t, 0)
  | i + 1 => ((splitCell (dvS t l i).1 ((lvs (dvS t l i).1 (dvS t l i).1.cells.length).getD (nextV l (dvS t l i).2 (lvs (dvS t l i).1 (dvS t l i).1.cells.length).length).toNat 0) (nextV l (nextN l (dvS t l i).2) (dvS t l i).1.root.length)).getD (dvS t l i).1, nextN l (nextN l (dvS t l i).2))
/-- Verdicts for the leaves. -/
def stS (t : Tree) (all : List Int) (l : List Int) (p : Nat) : Nat → Tree × Nat
  | 0 => (t, p)
  | k + 1 => ((settle (stS t all l p k).1 (all.getD k 0) (label (nextV l (stS t all l p k).2 5))).getD (stS t all l p k).1, nextN l (stS t all l p k).2)
def divide (t : Tree) (l : List Int) (n : Nat) : Tree :=
  (stS (dvS t l n).1 (lvs (dvS t l n).1 (dvS t l n).1.cells.length) l (dvS t l n).2 (lvs (dvS t l n).1 (dvS t l n).1.cells.length).length).1
theorem dvS_pos (t : Tree) (l : List Int) : ∀ i, (dvS t l i).2 ≤ l.length
  | 0 => Nat.zero_le _
  | i + 1 => nextN_le l (nextN_le l (dvS_pos t l i))
theorem dvS_ok {t : Tree} (h : (boxesT t).isSome = true) (l : List Int) : ∀ i, (boxesT (dvS t l i).1).isSome = true ∧ (dvS t l i).1.root = t.root
  | 0 => ⟨h, rfl⟩
  | i + 1 => by
    have ih := dvS_ok h l i
    simp only [dvS]
    generalize ho : splitCell (dvS t l i).1 ((lvs (dvS t l i).1 (dvS t l i).1.cells.length).getD (nextV l (dvS t l i).2 (lvs (dvS t l i).1 (dvS t l i).1.cells.length).length).toNat 0) (nextV l (nextN l (dvS t l i).2) (dvS t l i).1.root.length) = o
    cases o with
    | none => exact ih
    | some u =>
      obtain ⟨h1, h2, _⟩ := split_boxes ho
      exact ⟨h1, h2.trans ih.2⟩
theorem stS_pos (t : Tree) (all l : List Int) {p : Nat} (hp : p ≤ l.length) : ∀ i, (stS t all l p i).2 ≤ l.length
  | 0 => hp
  | i + 1 => nextN_le l (stS_pos t all l hp i)
theorem stS_ok {t : Tree} (h : (boxesT t).isSome = true) (all l : List Int) (p : Nat) : ∀ i, boxesT (stS t all l p i).1 = boxesT t ∧ (stS t all l p i).1.root = t.root ∧ (stS t all l p i).1.cells.length = t.cells.length
  | 0 => ⟨rfl, rfl, rfl⟩
  | i + 1 => by
    have ih := stS_ok h all l p i
    simp only [stS]
    generalize ho : settle (stS t all l p i).1 (all.getD i 0) (label (nextV l (stS t all l p i).2 5)) = o
    cases o with
    | none => exact ih
    | some u =>
      obtain ⟨h1, h2, h3⟩ := settle_boxes ho
      exact ⟨h1.trans ih.1, h2.trans ih.2.1, h3.trans ih.2.2⟩
set_option maxRecDepth 8000 in
set_option maxHeartbeats 4000000 in
theorem pcall_divide (t : Tree) (l : List Int) (n : Nat) (hv : (boxesT t).isSome = true) (hn : n ≤ 1000000) (hl : Ok64 l) (hlen : l.length ≤ 1048576) :
    PCall Try.prog 54 [treeP t, .d (.imm (ints l)), .i n] (treeP (divide t l n)) := by
  refine walk Try.func54 (by kernel_rfl) rfl 61 rfl (Nat.le_of_ble_eq_true rfl) fun nid _ => ?_
  refine Tr.seq (Tr.regionK fun K hK => ?_)
  simp (maxSteps := 1000000) [add_add]
  repeat (first | refine ⟨by omega, ?_⟩ | refine ⟨⟨by omega, by omega⟩, ?_⟩ | refine ⟨rfl, ?_⟩)
  refine hK _ ?_; clear hK K
  refine Tr.seq (Tr.regionK fun K hK => ?_)
  simp (maxSteps := 1000000) [add_add]
  repeat (first | refine ⟨by omega, ?_⟩ | refine ⟨⟨by omega, by omega⟩, ?_⟩ | refine ⟨rfl, ?_⟩)
  refine .inr ⟨[], [], fun n => .ptr n 0 0, [], [srcRow l 0], ⟨hcall_from l, by first | (simp; done) | (simp; omega), by first | (simp; done) | (simp; omega), by first | (simp; done) | (simp; omega), by first | (simp; done) | (simp; omega), by first | (simp; done) | (simp; omega), by first | (simp; done) | (simp; omega), by first | (simp; done) | (simp; omega), by first | (simp; done) | (simp; omega)⟩, ?_⟩
  simp (maxSteps := 1000000) [add_add]
  repeat (first | refine ⟨by omega, ?_⟩ | refine ⟨⟨by omega, by omega⟩, ?_⟩ | refine ⟨rfl, ?_⟩)
  refine hK _ ?_; clear hK K
  refine Tr.seq ?_
  refine Tr.seq (Tr.regionK fun K hK => ?_)
  simp (maxSteps := 1000000) [add_add]
  repeat (first | refine ⟨by omega, ?_⟩ | refine ⟨⟨by omega, by omega⟩, ?_⟩ | refine ⟨rfl, ?_⟩)
  refine hK _ ?_; clear hK K
  refine Tr.block ?_
  refine Tr.loopP [] [.slot 3, .slot 7, .slot 6] [.slot 3, .slot 7, .slot 6] (fun i : Nat => ([(2, .i n), (3, .ptr nid 0 0), (6, .ptr (nid + 2) 0 0), (7, .ptr (nid + 1) 0 0), (8, .i i)],
  [(nid, ⟨25, 2, [[.d (.imm (ivs (dvS t l i).1.root)), .d (.imm (cels (dvS t l i).1.cells))]]⟩), (nid + 1, srcRow l (dvS t l i).2), (nid + 2, ⟨25, 2, [[nilP, nilP]]⟩)])) (fun i : Nat => i ≤ n) (fun i : Nat => n - i) 0 rfl ?_ ?_ ?_
  · exact Nat.zero_le _
  · refine ⟨rfl, ?_, ?_, ?_, ?_⟩ <;> simp [add_add, dvS]
  rintro i hi I hI0
  have w : IntKind.i64.wrap ((i : Int) + 1) = (i : Int) + 1 := wrapIn (by omega) (by omega)
  have hp := dvS_pos t l i
  have hvi := dvS_ok hv l i
  have hs1 := dvS.eq_2 t l i
  have hdv : ∀ m, m = i → dvS t l m = dvS t l i := fun m e => by rw [e]
  obtain ⟨⟨u, p⟩, hst⟩ : ∃ x, dvS t l i = x := ⟨_, rfl⟩
  rw [hst] at hp hvi hs1 hdv
  simp only at hp hvi hs1 hdv
  obtain ⟨bl, hbl⟩ := Option.isSome_iff_exists.1 hvi.1
  have hrl := root_len hbl
  have hcl := cells_len hbl
  have hap := lvs_pos hbl
  have hal := lvs_length u u.cells.length
  obtain ⟨⟨hrn, _, _⟩, _, _⟩ := treeOk_iff.1 (boxesT_iff hbl).1
  have hrp : 0 < u.root.length := List.length_pos_iff.2 hrn
  have hlp : leavesP u = .d (.imm (ints (lvs u u.cells.length))) := by unfold leavesP; rw [if_pos hvi.1]
  obtain ⟨all, hall⟩ : ∃ a, lvs u u.cells.length = a := ⟨_, rfl⟩
  rw [hall] at hap hal hs1 hlp
  have hv1 := nextV_rng l p (k := (all.length : Int)) (by omega)
  obtain ⟨m, hm⟩ := Int.eq_ofNat_of_zero_le hv1.1
  have hma : m < all.length := by omega
  obtain ⟨x, hx, hx'⟩ : ∃ x, all[m]? = some x ∧ all[m] = x := ⟨all[m], List.getElem?_eq_getElem hma, rfl⟩
  have hgd : all.getD (nextV l p all.length).toNat 0 = x := by rw [hm, Int.toNat_natCast, List.getD_eq_getElem?_getD, hx]; rfl
  rw [hgd] at hs1
  have hv2 := nextV_rng l (nextN l p) (k := (u.root.length : Int)) (by omega)
  obtain ⟨w1, hw⟩ : ∃ w1, (splitCell u x (nextV l (nextN l p) u.root.length)).getD u = w1 := ⟨_, rfl⟩
  rw [hw] at hs1
  refine Tr.seq ?_
  refine Tr.seq (Tr.regionK fun K hK => ?_)
  simp (maxSteps := 1000000) [add_add, hst]
  repeat (first | refine ⟨by omega, ?_⟩ | refine ⟨⟨by omega, by omega⟩, ?_⟩ | refine ⟨rfl, ?_⟩)
  refine hK _ ?_; clear hK K
  refine Tr.cond rfl rfl (fun hq => ?_) (fun hq => ?_)
  · simp at hq
    refine Tr.skip ?_
    refine Tr.seq ?_
    refine Tr.block ?_
    refine Tr.seq (Tr.regionK fun K hK => ?_)
    simp (maxSteps := 1000000) [add_add]
    repeat (first | refine ⟨by omega, ?_⟩ | refine ⟨⟨by omega, by omega⟩, ?_⟩ | refine ⟨rfl, ?_⟩)
    refine .inl ⟨_, pcall_refLeaves u (by omega), rfl, ?_⟩
    simp (maxSteps := 1000000) [add_add, hlp]
    repeat (first | refine ⟨by omega, ?_⟩ | refine ⟨⟨by omega, by omega⟩, ?_⟩ | refine ⟨rfl, ?_⟩)
    refine hK _ ?_; clear hK K
    refine Tr.seq (Tr.regionK fun K hK => ?_)
    simp (maxSteps := 1000000) [add_add]
    repeat (first | refine ⟨by omega, ?_⟩ | refine ⟨⟨by omega, by omega⟩, ?_⟩ | refine ⟨rfl, ?_⟩)
    refine .inr ⟨[((nid + 1), srcRow l p)], [(nid + 1)], fun _ => .i (nextV l p (all.length : Int)), [((nid + 1), srcRow l (nextN l p))], [], ⟨hcall_next l p ((nid + 1)) (all.length : Int) hl hlen hp (by omega) (by omega), by first | (simp; done) | (simp; omega), by first | (simp; done) | (simp; omega), by first | (simp; done) | (simp; omega), by first | (simp; done) | (simp; omega), by first | (simp; done) | (simp; omega), by first | (simp; done) | (simp; omega), by first | (simp; done) | (simp; omega), by first | (simp; done) | (simp; omega)⟩, ?_⟩
    simp (maxSteps := 1000000) [add_add, hm, hx', hma]
    repeat (first | refine ⟨by omega, ?_⟩ | refine ⟨⟨by omega, by omega⟩, ?_⟩ | refine ⟨rfl, ?_⟩)
    refine hK _ ?_; clear hK K
    refine Tr.regionE mixed (by kernel_rfl) fun K hK => ?_
    simp (maxSteps := 1000000) [add_add]
    repeat (first | refine ⟨by omega, ?_⟩ | refine ⟨⟨by omega, by omega⟩, ?_⟩ | refine ⟨rfl, ?_⟩)
    refine .inr ⟨[((nid + 1), srcRow l (nextN l p))], [(nid + 1)], fun _ => .i (nextV l (nextN l p) (u.root.length : Int)), [((nid + 1), srcRow l (nextN l (nextN l p)))], [], ⟨hcall_next l (nextN l p) ((nid + 1)) (u.root.length : Int) hl hlen (nextN_le l hp) (by omega) (by omega), by first | (simp; done) | (simp; omega), by first | (simp; done) | (simp; omega), by first | (simp; done) | (simp; omega), by first | (simp; done) | (simp; omega), by first | (simp; done) | (simp; omega), by first | (simp; done) | (simp; omega), by first | (simp; done) | (simp; omega), by first | (simp; done) | (simp; omega)⟩, (by simp [Region.binds]), ?_⟩
    simp (maxSteps := 1000000) [add_add]
    repeat (first | refine ⟨by omega, ?_⟩ | refine ⟨⟨by omega, by omega⟩, ?_⟩ | refine ⟨rfl, ?_⟩)
    refine .inl ⟨_, pcall_splitCell u x (nextV l (nextN l p) u.root.length) (by omega), rfl, ?_⟩
    simp (maxSteps := 1000000) [Region.binds, splitP_eq, hw]
    repeat (first | refine ⟨by omega, ?_⟩ | refine ⟨⟨by omega, by omega⟩, ?_⟩ | refine ⟨rfl, ?_⟩)
    refine hK _ ?_; clear hK K
    refine Tr.regionK fun K hK => ?_
    simp (maxSteps := 1000000) [add_add, w]
    repeat (first | refine ⟨by omega, ?_⟩ | refine ⟨⟨by omega, by omega⟩, ?_⟩ | refine ⟨rfl, ?_⟩)
    refine hK _ ?_; clear hK K
    refine hI0 _ _ (i + 1) (hq) (by first | (show _ < _; omega) | (simp; omega)) ⟨rfl, ?_, ?_, ?_, ?_⟩ <;> simp [add_add, hs1]
  simp at hq
  refine Tr.exit (exit_s (exit_s (exit_b ?_)))
  have hin : n = i := by omega
  have hst' := hdv n hin
  refine Tr.seq (Tr.regionK fun K hK => ?_)
  simp (maxSteps := 1000000) [add_add]
  repeat (first | refine ⟨by omega, ?_⟩ | refine ⟨⟨by omega, by omega⟩, ?_⟩ | refine ⟨rfl, ?_⟩)
  refine .inl ⟨_, pcall_refLeaves u (by omega), rfl, ?_⟩
  simp (maxSteps := 1000000) [add_add, hlp]
  repeat (first | refine ⟨by omega, ?_⟩ | refine ⟨⟨by omega, by omega⟩, ?_⟩ | refine ⟨rfl, ?_⟩)
  refine hK _ ?_; clear hK K
  refine Tr.seq ?_
  refine Tr.seq (Tr.regionK fun K hK => ?_)
  simp (maxSteps := 1000000) [add_add]
  repeat (first | refine ⟨by omega, ?_⟩ | refine ⟨⟨by omega, by omega⟩, ?_⟩ | refine ⟨rfl, ?_⟩)
  refine hK _ ?_; clear hK K
  refine Tr.block ?_
  refine Tr.loopP [] [.slot 3, .slot 7, .slot 6] [.slot 3, .slot 7, .slot 6] (fun k : Nat => ([(3, .ptr nid 0 0), (6, .ptr (nid + 2) 0 0), (7, .ptr (nid + 1) 0 0), (11, .d (.imm (ints all))), (12, .i k)],
  [(nid, ⟨25, 2, [[.d (.imm (ivs (stS u all l p k).1.root)), .d (.imm (cels (stS u all l p k).1.cells))]]⟩), (nid + 1, srcRow l (stS u all l p k).2), (nid + 2, ⟨25, 2, [[nilP, nilP]]⟩)])) (fun k : Nat => k ≤ all.length) (fun k : Nat => all.length - k) 0 rfl ?_ ?_ ?_
  · exact Nat.zero_le _
  · refine ⟨rfl, ?_, ?_, ?_, ?_⟩ <;> simp [add_add, stS]
  rintro k hk I hI2
  have wk : IntKind.i64.wrap ((k : Int) + 1) = (k : Int) + 1 := wrapIn (by omega) (by omega)
  have hp3 := stS_pos u all l hp k
  have hv3 := stS_ok hvi.1 all l p k
  have hk1 := stS.eq_2 u all l p k
  have hsv : ∀ m, m = k → stS u all l p m = stS u all l p k := fun m e => by rw [e]
  obtain ⟨⟨u3, p3⟩, hkt⟩ : ∃ x, stS u all l p k = x := ⟨_, rfl⟩
  rw [hkt] at hp3 hv3 hk1 hsv
  simp only at hp3 hv3 hk1 hsv
  have hr3 : u3.root.length ≤ 10 := by rw [hv3.2.1]; exact hrl
  refine Tr.seq ?_
  refine Tr.seq (Tr.regionK fun K hK => ?_)
  simp (maxSteps := 1000000) [add_add, hkt]
  repeat (first | refine ⟨by omega, ?_⟩ | refine ⟨⟨by omega, by omega⟩, ?_⟩ | refine ⟨rfl, ?_⟩)
  refine hK _ ?_; clear hK K
  refine Tr.cond rfl rfl (fun hqk => ?_) (fun hqk => ?_)
  · simp at hqk
    obtain ⟨x3, hx3, hx3'⟩ : ∃ x3, all[k]? = some x3 ∧ all[k] = x3 := ⟨all[k], List.getElem?_eq_getElem hqk, rfl⟩
    have hgd3 : all.getD k 0 = x3 := by rw [List.getD_eq_getElem?_getD, hx3]; rfl
    rw [hgd3] at hk1
    obtain ⟨w3, hw3⟩ : ∃ w3, (settle u3 x3 (label (nextV l p3 5))).getD u3 = w3 := ⟨_, rfl⟩
    rw [hw3] at hk1
    refine Tr.skip ?_
    refine Tr.seq ?_
    refine Tr.block ?_
    refine Tr.regionE mixed (by kernel_rfl) fun K hK => ?_
    simp (maxSteps := 1000000) [add_add, hx3', hqk]
    repeat (first | refine ⟨by omega, ?_⟩ | refine ⟨⟨by omega, by omega⟩, ?_⟩ | refine ⟨rfl, ?_⟩)
    refine .inr ⟨[((nid + 1), srcRow l p3)], [(nid + 1)], fun _ => .i (nextV l p3 5), [((nid + 1), srcRow l (nextN l p3))], [], ⟨hcall_next l p3 ((nid + 1)) 5 hl hlen hp3 (by omega) (by omega), by first | (simp; done) | (simp; omega), by first | (simp; done) | (simp; omega), by first | (simp; done) | (simp; omega), by first | (simp; done) | (simp; omega), by first | (simp; done) | (simp; omega), by first | (simp; done) | (simp; omega), by first | (simp; done) | (simp; omega), by first | (simp; done) | (simp; omega)⟩, (by simp [Region.binds]), ?_⟩
    simp (maxSteps := 1000000) [add_add]
    repeat (first | refine ⟨by omega, ?_⟩ | refine ⟨⟨by omega, by omega⟩, ?_⟩ | refine ⟨rfl, ?_⟩)
    refine .inl ⟨_, pcall_label (nextV l p3 5), rfl, ?_⟩
    simp (maxSteps := 1000000)
    repeat (first | refine ⟨by omega, ?_⟩ | refine ⟨⟨by omega, by omega⟩, ?_⟩ | refine ⟨rfl, ?_⟩)
    refine .inl ⟨_, pcall_settle u3 x3 (label (nextV l p3 5)) (by omega), rfl, ?_⟩
    simp (maxSteps := 1000000) [Region.binds, splitP_eq, hw3]
    repeat (first | refine ⟨by omega, ?_⟩ | refine ⟨⟨by omega, by omega⟩, ?_⟩ | refine ⟨rfl, ?_⟩)
    refine hK _ ?_; clear hK K
    refine Tr.regionK fun K hK => ?_
    simp (maxSteps := 1000000) [add_add, wk]
    repeat (first | refine ⟨by omega, ?_⟩ | refine ⟨⟨by omega, by omega⟩, ?_⟩ | refine ⟨rfl, ?_⟩)
    refine hK _ ?_; clear hK K
    refine hI2 _ _ (k + 1) (hqk) (by first | (show _ < _; omega) | (simp; omega)) ⟨rfl, ?_, ?_, ?_, ?_⟩ <;> simp [add_add, hk1]
  simp at hqk
  refine Tr.exit (exit_s (exit_s (exit_b ?_)))
  have hkn : all.length = k := by omega
  have hkt' := hsv _ hkn
  have hf : divide t l n = u3 := by unfold divide; rw [hst', hall, hkt']
  refine Tr.seq (Tr.regionK fun K hK => ?_)
  simp (maxSteps := 1000000) [add_add]
  repeat (first | refine ⟨by omega, ?_⟩ | refine ⟨⟨by omega, by omega⟩, ?_⟩ | refine ⟨rfl, ?_⟩)
  refine hK _ ?_; clear hK K
  refine Tr.ret ⟨.inr rfl, ?_, ?_, ?_, ?_⟩ <;> simp [Try.f54, hf]
end Go.Proofs.Ytmljpbhmdjpbaaa
