/- CutFloods, CutReached, walked. -/
import Derived.Test.YtmljpbhmdjpbaaaM9
namespace Go.Proofs.Ytmljpbhmdjpbaaa
set_option linter.unusedVariables false
set_option linter.unusedSimpArgs false
open Go.PM

theorem flood_len (t : Tree) (p : List Int) : ∀ a, floodT t p = some a → a.length ≤ 1048576 := by
  intro a h
  unfold floodT at h
  cases hh : boxesT t with
  | none => rw [hh] at h; cases h
  | some l =>
    rw [hh] at h
    simp only [Option.bind_some] at h
    split at h
    · cases h
      have := cells_len hh
      rw [spreadV_length]; omega
    · cases h
theorem ra_no {r : Bool} (h : ¬ r = true) : r = false := by cases r <;> simp_all
theorem ra_yes {f : List Bool} {i : Nat} {r : Bool} (h : f[i]? = some r) (h1 : f[i]? = some true) : r = true := by rw [h] at h1; cases h1; rfl
theorem both_same {f : List Bool} {i j : Nat} {r s : Bool} (h : f[i]? = some r) (h1 : f[j]? = some s) (h2 : f[i]? = some true ↔ f[j]? = some true) : r = s := by
  rw [h, h1] at h2
  cases r <;> cases s <;> simp_all
theorem over_comm2 (a b : Iv) : a.meets b = b.meets a := by
  unfold Iv.meets
  rw [Int.max_comm a.lo b.lo, Int.min_comm a.hi b.hi]
  cases a.ok <;> cases b.ok <;> rfl
theorem boxTouch_comm (a b : List Iv) : boxTouch a b = boxTouch b a := by
  have hz : ∀ (a b : List Iv), ((a.zip b).all fun x => x.1.meets x.2) = ((b.zip a).all fun x => x.1.meets x.2) := by
    intro a
    induction a with
    | nil => intro b; cases b <;> rfl
    | cons x a ih =>
      intro b
      cases b with
      | nil => rfl
      | cons y b => simp only [List.zip_cons_cons, List.all_cons, ih b, over_comm2 x y]
  unfold boxTouch
  rw [hz a b, show decide (a.length = b.length) = decide (b.length = a.length) by simp [eq_comm]]
  cases boxOk a <;> cases boxOk b <;> rfl
def openL (c : Cel) : Bool := decide (c.j < 0) && !c.coll
theorem leaf_iff {t : Tree} {l : List (List Iv)} (h : boxesT t = some l) {i : Nat} {c : Cel} (hc : t.cells[i]? = some c) : c.leaf = decide (c.j < 0) := by
  obtain ⟨h1, h2⟩ := boxesT_iff h
  have hi := (List.getElem?_eq_some_iff.1 hc).1
  obtain ⟨o, ho⟩ := bst_pre h2 (Nat.le_of_lt hi)
  obtain ⟨o2, ho2⟩ := bst_pre h2 (Nat.succ_le_of_lt hi)
  rw [bst_succ ho hc] at ho2
  obtain ⟨b, hb, hcs⟩ := bstep_cases ho2
  rcases hcs with ⟨g1, _⟩ | ⟨g1, _, _, _, _, _, _, _, _, l1, h1, e, _⟩
  · rw [g1]
    have := (leaf_j g1).1
    exact (decide_eq_true (by omega)).symm
  · rw [g1]
    have := (halve_len2 e).2.2.1
    exact (decide_eq_false (by omega)).symm
theorem openL_at {t : Tree} {l : List (List Iv)} (h : boxesT t = some l) {i : Nat} {c : Cel} (hc : t.cells[i]? = some c) : openL c = openAt t i := by
  rw [openAt_eq hc, leaf_iff h hc]; rfl
set_option maxRecDepth 8000 in
set_option maxHeartbeats 4000000 in
theorem pcall_floods (t : Tree) (p q : List Int) (hr : t.root.length ≤ 1048576) :
    PCall Try.prog 26 [treeP t, .d (.imm (ints p)), .d (.imm (ints q))] (.b true) := by
  obtain ⟨fl, hfl⟩ : ∃ fl, floodP (floodT t p) = fl := ⟨_, rfl⟩
  have c1 := pcall_flood t p hr
  have c2 := pcall_refFlood t p hr
  have c3 := pcall_sameF (floodT t p) (flood_len t p)
  have hid : PV.idsIn (fun _ => false) fl = true := by rw [← hfl]; cases floodT t p <;> rfl
  rw [hfl] at c1 c2 c3
  refine walk Try.func26 (by kernel_rfl) rfl 25 rfl (Nat.le_of_ble_eq_true rfl) fun nid _ => ?_
  refine Tr.seq (Tr.regionK fun K hK => ?_)
  simp (maxSteps := 1000000) [add_add]
  refine hK _ ?_; clear hK K
  refine Tr.seq (Tr.regionE mixed (by kernel_rfl) fun K hK => ?_)
  simp (maxSteps := 1000000)
  refine .inl ⟨_, c1, rfl, ?_⟩
  simp (maxSteps := 1000000)
  refine .inl ⟨_, c2, rfl, ?_⟩
  simp (maxSteps := 1000000)
  refine .inl ⟨_, c3, by simp [hid], ?_⟩
  simp (maxSteps := 1000000)
  refine .inl ⟨_, pcall_separates t p q hr, rfl, ?_⟩
  simp (maxSteps := 1000000)
  refine .inl ⟨_, pcall_refSep t p q hr, rfl, ?_⟩
  simp (maxSteps := 1000000)
  refine hK _ ?_; clear hK K
  refine Tr.ret ⟨.inr rfl, ?_, ?_, ?_, ?_⟩ <;> simp [Try.f26]
set_option maxRecDepth 8000 in
set_option maxHeartbeats 4000000 in
theorem pcall_law6 (u : Tree) (p q l m o : List Int) (hr : u.root.length ≤ 1048576) (hl : Ok64 l) (hlen : l.length ≤ 1048576) (hm : Ok64 m) (hmen : m.length ≤ 1048576) (ho : Ok64 o) (hoen : o.length ≤ 1048576) :
    PCall Try.prog 6 [treeP u, .d (.imm (ints p)), .d (.imm (ints q)), .d (.imm (ints l)), .d (.imm (ints m)), .d (.imm (ints o))] (.b true) := by
  obtain ⟨ns, hns⟩ : ∃ ns, smallT u = !ns := ⟨!smallT u, by simp⟩
  have hT := tree_len l
  have c1 := pcall_in (treeV l).root m (by omega) (tree_box l) hm hmen
  have c2 := pcall_in (treeV l).root o (by omega) (tree_box l) ho hoen
  refine walk Try.func6 (by kernel_rfl) rfl 58 rfl (Nat.le_of_ble_eq_true rfl) fun nid _ => ?_
  refine Tr.seq (Tr.regionK fun K hK => ?_)
  simp (maxSteps := 1000000) [add_add]
  refine hK _ ?_; clear hK K
  refine Tr.seq ?_
  rcases Bool.eq_false_or_eq_true (ns) with s1_0 | s1_0
  · have s1_0' := s1_0
    refine Tr.seq (Tr.regionK fun K hK => ?_)
    simp (maxSteps := 1000000) [add_add]
    refine .inl ⟨_, pcall_smallTree u, rfl, ?_⟩
    simp (maxSteps := 1000000) [add_add, s1_0, hns]
    refine hK _ ?_; clear hK K
    refine Tr.cond rfl rfl (fun hq0 => ?_) (fun hq0 => by first | (cases hq0; done) | (simp at hq0; done) | (simp_all; done))
    refine Tr.seq (Tr.regionK fun K hK => ?_)
    simp (maxSteps := 1000000) [add_add]
    refine .inl ⟨_, pcall_awake, rfl, ?_⟩
    simp (maxSteps := 1000000) [add_add]
    refine hK _ ?_; clear hK K
    refine Tr.ret ⟨.inr rfl, ?_, ?_, ?_, ?_⟩ <;> simp [Try.f6]
  by_cases s1_1 : 20 < (p.length : Int)
  · have s1_1' := s1_1
    refine Tr.seq (Tr.regionK fun K hK => ?_)
    simp (maxSteps := 1000000) [add_add]
    refine .inl ⟨_, pcall_smallTree u, rfl, ?_⟩
    simp (maxSteps := 1000000) [add_add, s1_0, s1_1, hns]
    refine hK _ ?_; clear hK K
    refine Tr.cond rfl rfl (fun hq1 => ?_) (fun hq1 => by first | (cases hq1; done) | (simp at hq1; done) | (simp_all; done))
    refine Tr.seq (Tr.regionK fun K hK => ?_)
    simp (maxSteps := 1000000) [add_add]
    refine .inl ⟨_, pcall_awake, rfl, ?_⟩
    simp (maxSteps := 1000000) [add_add]
    refine hK _ ?_; clear hK K
    refine Tr.ret ⟨.inr rfl, ?_, ?_, ?_, ?_⟩ <;> simp [Try.f6]
  by_cases s1_2 : 20 < (q.length : Int)
  · have s1_2' := s1_2
    refine Tr.seq (Tr.regionK fun K hK => ?_)
    simp (maxSteps := 1000000) [add_add]
    refine .inl ⟨_, pcall_smallTree u, rfl, ?_⟩
    simp (maxSteps := 1000000) [add_add, s1_0, s1_1, s1_2, hns]
    refine hK _ ?_; clear hK K
    refine Tr.cond rfl rfl (fun hq2 => ?_) (fun hq2 => by first | (cases hq2; done) | (simp at hq2; done) | (simp_all; done))
    refine Tr.seq (Tr.regionK fun K hK => ?_)
    simp (maxSteps := 1000000) [add_add]
    refine .inl ⟨_, pcall_awake, rfl, ?_⟩
    simp (maxSteps := 1000000) [add_add]
    refine hK _ ?_; clear hK K
    refine Tr.ret ⟨.inr rfl, ?_, ?_, ?_, ?_⟩ <;> simp [Try.f6]
  refine Tr.seq (Tr.regionK fun K hK => ?_)
  simp (maxSteps := 1000000) [add_add]
  refine .inl ⟨_, pcall_smallTree u, rfl, ?_⟩
  simp (maxSteps := 1000000) [add_add, s1_0, s1_1, s1_2, hns]
  refine hK _ ?_; clear hK K
  refine Tr.cond rfl rfl (fun hq3 => by first | (cases hq3; done) | (simp at hq3; done) | (simp_all; done)) (fun hq3 => ?_)
  refine Tr.skip ?_
  refine Tr.seq (Tr.regionK fun K hK => ?_)
  simp (maxSteps := 1000000) [add_add]
  refine .inl ⟨_, pcall_tree l hl hlen, rfl, ?_⟩
  simp (maxSteps := 1000000) [add_add]
  refine hK _ ?_; clear hK K
  refine Tr.seq (Tr.regionE mixed (by kernel_rfl) fun K hK => ?_)
  simp (maxSteps := 1000000) [add_add]
  refine .inl ⟨_, pcall_awake, rfl, ?_⟩
  simp (maxSteps := 1000000)
  refine .inl ⟨_, pcall_floods u p q hr, rfl, ?_⟩
  simp (maxSteps := 1000000)
  refine .inl ⟨_, c1, rfl, ?_⟩
  simp (maxSteps := 1000000)
  refine .inl ⟨_, c2, rfl, ?_⟩
  simp (maxSteps := 1000000)
  refine .inl ⟨_, pcall_floods (treeV l) (inV (treeV l).root m) (inV (treeV l).root o) (by omega), rfl, ?_⟩
  simp (maxSteps := 1000000)
  refine .inl ⟨_, c1, rfl, ?_⟩
  simp (maxSteps := 1000000)
  refine .inl ⟨_, pcall_floods (treeV l) (inV (treeV l).root m) q (by omega), rfl, ?_⟩
  simp (maxSteps := 1000000)
  refine hK _ ?_; clear hK K
  refine Tr.ret ⟨.inr rfl, ?_, ?_, ?_, ?_⟩ <;> simp [Try.f6]
set_option maxRecDepth 8000 in
set_option maxHeartbeats 4000000 in
theorem pcall_open (c : Cel) :
    PCall Try.prog 28 [celP c] (.b (openL c)) := by
  obtain ⟨nc, hnc⟩ := nc_ex c
  have hcc : c.coll = !nc := by unfold Cel.coll; cases nc <;> simp_all
  refine walk Try.func28 (by kernel_rfl) rfl 12 rfl (Nat.le_of_ble_eq_true rfl) fun nid _ => ?_
  refine Tr.seq (Tr.regionK fun K hK => ?_)
  simp (maxSteps := 1000000) [add_add]
  refine hK _ ?_; clear hK K
  by_cases s1_0 : c.j < 0
  · have s1_0' := s1_0
    rcases Bool.eq_false_or_eq_true (nc) with s1_1 | s1_1
    · have s1_1' := s1_1
      refine Tr.seq (Tr.regionK fun K hK => ?_)
      simp (maxSteps := 1000000) [add_add, s1_0, s1_1, hnc]
      refine hK _ ?_; clear hK K
      refine Tr.ret ⟨.inr rfl, ?_, ?_, ?_, ?_⟩ <;> simp [Try.f28, s1_0, s1_1, openL, hcc]
    refine Tr.seq (Tr.regionK fun K hK => ?_)
    simp (maxSteps := 1000000) [add_add, s1_0, s1_1, hnc]
    refine hK _ ?_; clear hK K
    refine Tr.ret ⟨.inr rfl, ?_, ?_, ?_, ?_⟩ <;> simp [Try.f28, s1_0, s1_1, openL, hcc]
  refine Tr.seq (Tr.regionK fun K hK => ?_)
  simp (maxSteps := 1000000) [add_add, s1_0]
  refine hK _ ?_; clear hK K
  refine Tr.ret ⟨.inr rfl, ?_, ?_, ?_, ?_⟩ <;> simp [Try.f28, s1_0, openL, hcc]
set_option maxRecDepth 8000 in
set_option maxHeartbeats 4000000 in
theorem pcall_law7 (l m : List Int) (i k : Int) (hl : Ok64 l) (hlen : l.length ≤ 1048576) (hm : Ok64 m) (hmen : m.length ≤ 1048576) :
    PCall Try.prog 7 [.d (.imm (ints l)), .d (.imm (ints m)), .i i, .i k] (.b true) := by
  have hpt := pcall_tree l hl hlen
  have hT1 := treeV_ok l
  have hT2 := tree_box l
  obtain ⟨t, hT⟩ : ∃ T, treeV l = T := ⟨_, rfl⟩
  rw [hT] at hpt hT1 hT2
  obtain ⟨bl, hh⟩ := Option.isSome_iff_exists.1 hT1
  have hll := boxesT_length hh
  have hcl := cells_len hh
  have hrl := root_len hh
  have hbl : ∀ b ∈ bl, b.length = t.root.length := fun b hb => by obtain ⟨k, hk⟩ := List.mem_iff_getElem?.1 hb; exact boxes_len hh hk
  have hbo : ∀ b ∈ bl, boxOk b = true := fun b hb => boxes_ok hh hb
  have hll' : bl.length = t.cells.length := hll
  have hpi := pcall_in t.root m (by omega) hT2 hm hmen
  have hph := inV_has hT2 m
  obtain ⟨p, hp⟩ : ∃ p, inV t.root m = p := ⟨_, rfl⟩
  rw [hp] at hpi hph
  have hfl : floodT t p = some (spreadV t bl p) := by unfold floodT; rw [hh]; simp [hph]
  have hfln := spreadV_length t bl p
  have hflt : ∀ i, (spreadV t bl p)[i]? = some true ↔ Reach t.cells.length (openAt t) (inV1 bl p) (adjV bl) i := fun i => floodL_true
  obtain ⟨fl, hfe⟩ : ∃ fl, spreadV t bl p = fl := ⟨_, rfl⟩
  rw [hfe] at hfl hfln hflt
  refine walk Try.func7 (by kernel_rfl) rfl 120 rfl (Nat.le_of_ble_eq_true rfl) fun nid _ => ?_
  refine Tr.seq (Tr.regionK fun K hK => ?_)
  simp (maxSteps := 1000000)
  refine hK _ ?_; clear hK K
  refine Tr.seq (Tr.regionK fun K hK => ?_)
  simp (maxSteps := 1000000) [add_add]
  refine .inl ⟨_, hpt, rfl, ?_⟩
  simp (maxSteps := 1000000) [add_add]
  refine hK _ ?_; clear hK K
  refine Tr.seq (Tr.regionK fun K hK => ?_)
  simp (maxSteps := 1000000) [add_add]
  refine .inl ⟨_, hpi, rfl, ?_⟩
  simp (maxSteps := 1000000) [add_add]
  refine hK _ ?_; clear hK K
  refine Tr.seq (Tr.regionK fun K hK => ?_)
  simp (maxSteps := 1000000) [add_add]
  refine .inl ⟨_, pcall_flood t p (by omega), rfl, ?_⟩
  simp (maxSteps := 1000000) [add_add, hfl, floodP]
  refine hK _ ?_; clear hK K
  refine Tr.seq (Tr.regionK fun K hK => ?_)
  simp (maxSteps := 1000000) [add_add]
  refine .inl ⟨_, pcall_refBoxes t (by omega), rfl, ?_⟩
  simp (maxSteps := 1000000) [add_add, hh, boxesP]
  refine hK _ ?_; clear hK K
  refine Tr.seq ?_
  refine Tr.seq (Tr.regionK fun K hK => ?_)
  simp (maxSteps := 1000000) [add_add, hfln, hll]
  refine hK _ ?_; clear hK K
  refine Tr.cond rfl rfl (fun hq0 => by first | (cases hq0; done) | (simp at hq0; done) | (simp_all; done)) (fun hq0 => ?_)
  refine Tr.skip ?_
  refine Tr.seq ?_
  refine Tr.seq (Tr.regionK fun K hK => ?_)
  simp (maxSteps := 1000000) [add_add]
  refine hK _ ?_; clear hK K
  refine Tr.block ?_
  refine Tr.loopP [] [.slot 9] [.slot 9] (fun a : Nat => ([(9, .ptr nid 0 0), (10, .d (.imm (ints p))), (11, .d (.imm (bools fl))), (12, .d (.imm (boxs bl))), (14, .i a)],
  [(nid, ⟨25, 2, [[.d (.imm (ivs t.root)), .d (.imm (cels t.cells))]]⟩)])) (fun a : Nat => a ≤ t.cells.length) (fun a : Nat => t.cells.length - a) 0 rfl ?_ ?_ ?_
  · exact Nat.zero_le _
  · refine ⟨rfl, ?_, ?_, ?_, ?_⟩ <;> simp [add_add]
  rintro a ha00 I hI0
  have w : IntKind.i64.wrap ((a : Int) + 1) = (a : Int) + 1 := wrapIn (by omega) (by omega)
  refine Tr.seq ?_
  refine Tr.seq (Tr.regionK fun K hK => ?_)
  simp (maxSteps := 1000000) [add_add]
  refine hK _ ?_; clear hK K
  refine Tr.cond rfl rfl (fun hqa => ?_) (fun hqa => ?_)
  · simp at hqa
    have haq : a < t.cells.length := by omega
    have hab : a < bl.length := by omega
    have haf : a < fl.length := by omega
    obtain ⟨ca, hca, hca'⟩ : ∃ ca, t.cells[a]? = some ca ∧ t.cells[a] = ca := ⟨t.cells[a], List.getElem?_eq_getElem haq, rfl⟩
    obtain ⟨ba, hba, hba'⟩ : ∃ ba, bl[a]? = some ba ∧ bl[a] = ba := ⟨bl[a], List.getElem?_eq_getElem hab, rfl⟩
    obtain ⟨ra, hra, hra'⟩ : ∃ ra, fl[a]? = some ra ∧ fl[a] = ra := ⟨fl[a], List.getElem?_eq_getElem haf, rfl⟩
    have hbam := List.mem_of_getElem? hba
    obtain ⟨oa, hoa⟩ : ∃ oa, openL ca = oa := ⟨_, rfl⟩
    obtain ⟨ha, hha⟩ : ∃ x, boxHas ba p = x := ⟨_, rfl⟩
    have hoa' := openL_at hh hca
    rw [hoa] at hoa'
    refine Tr.skip ?_
    refine Tr.seq ?_
    refine Tr.block ?_
    refine Tr.seq ?_
    rcases Bool.eq_false_or_eq_true (oa) with s10_0 | s10_0
    · have s10_0' := s10_0
      rcases Bool.eq_false_or_eq_true (ha) with s10_1 | s10_1
      · have s10_1' := s10_1
        have hr1 : ra = true := ra_yes hra ((hflt a).2 (.start a haq (by rw [← hoa']; exact s10_0) (by show boxHas _ _ = true; rw [boxAt_eq hba, hha]; exact s10_1)))
        refine Tr.seq (Tr.regionK fun K hK => ?_)
        simp (maxSteps := 1000000) [add_add, haq, hab, hca']
        refine .inl ⟨_, pcall_open ca, rfl, ?_⟩
        simp (maxSteps := 1000000) [add_add, haq, hca', s10_0, hoa]
        refine .inl ⟨_, pcall_open ca, rfl, ?_⟩
        simp (maxSteps := 1000000) [add_add, hab, hba', s10_0, hoa]
        refine .inl ⟨_, pcall_refBoxHas ba p (by rw [hbl ba hbam]; omega), rfl, ?_⟩
        simp (maxSteps := 1000000) [add_add, haf, hra', s10_1, hha, hr1]
        refine hK _ ?_; clear hK K
        refine Tr.cond rfl rfl (fun hq2 => by first | (cases hq2; done) | (simp at hq2; done) | (simp_all; done)) (fun hq2 => ?_)
        refine Tr.skip ?_
        refine Tr.seq (Tr.regionK fun K hK => ?_)
        simp (maxSteps := 1000000) [add_add]
        refine hK _ ?_; clear hK K
        refine Tr.block ?_
        refine Tr.loopP [] [.slot 9] [.slot 9] (fun b : Nat => ([(9, .ptr nid 0 0), (10, .d (.imm (ints p))), (11, .d (.imm (bools fl))), (12, .d (.imm (boxs bl))), (14, .i a), (15, .i b)],
        [(nid, ⟨25, 2, [[.d (.imm (ivs t.root)), .d (.imm (cels t.cells))]]⟩)])) (fun b : Nat => b ≤ t.cells.length) (fun b : Nat => t.cells.length - b) 0 rfl ?_ ?_ ?_
        · exact Nat.zero_le _
        · refine ⟨rfl, ?_, ?_, ?_, ?_⟩ <;> simp [add_add]
        rintro b hb I hI2
        have wb : IntKind.i64.wrap ((b : Int) + 1) = (b : Int) + 1 := wrapIn (by omega) (by omega)
        refine Tr.seq ?_
        refine Tr.seq (Tr.regionK fun K hK => ?_)
        simp (maxSteps := 1000000) [add_add]
        refine hK _ ?_; clear hK K
        refine Tr.cond rfl rfl (fun hqb => ?_) (fun hqb => ?_)
        · simp at hqb
          have hbq : b < t.cells.length := by omega
          have hbb0 : b < bl.length := by omega
          have hbf : b < fl.length := by omega
          obtain ⟨cb, hcb, hcb'⟩ : ∃ cb, t.cells[b]? = some cb ∧ t.cells[b] = cb := ⟨t.cells[b], List.getElem?_eq_getElem hbq, rfl⟩
          obtain ⟨bb, hbb, hbb'⟩ : ∃ bb, bl[b]? = some bb ∧ bl[b] = bb := ⟨bl[b], List.getElem?_eq_getElem hbb0, rfl⟩
          obtain ⟨rb, hrb, hrb'⟩ : ∃ rb, fl[b]? = some rb ∧ fl[b] = rb := ⟨fl[b], List.getElem?_eq_getElem hbf, rfl⟩
          have hbbm := List.mem_of_getElem? hbb
          obtain ⟨ob, hob⟩ : ∃ ob, openL cb = ob := ⟨_, rfl⟩
          obtain ⟨tt, htt⟩ : ∃ x, boxTouch ba bb = x := ⟨_, rfl⟩
          have hob' := openL_at hh hcb
          rw [hob] at hob'
          refine Tr.skip ?_
          refine Tr.seq ?_
          refine Tr.block ?_
          rcases Bool.eq_false_or_eq_true (ob) with s15_0 | s15_0
          · have s15_0' := s15_0
            rcases Bool.eq_false_or_eq_true (tt) with s15_1 | s15_1
            · have s15_1' := s15_1
              have hrr : ra = rb := both_same hra hrb ⟨fun h => (hflt b).2 (.step b a ((hflt a).1 h) hbq (by rw [← hob']; exact s15_0) (by rw [← adj_touch hbb hba (hbo bb hbbm) (hbo ba hbam) (by rw [hbl bb hbbm, hbl ba hbam]), boxTouch_comm, htt]; exact s15_1)), fun h => (hflt a).2 (.step a b ((hflt b).1 h) haq (by rw [← hoa']; exact s10_0) (by rw [← adj_touch hba hbb (hbo ba hbam) (hbo bb hbbm) (by rw [hbl bb hbbm, hbl ba hbam]), htt]; exact s15_1))⟩
              refine Tr.seq (Tr.regionE mixed (by kernel_rfl) fun K hK => ?_)
              simp (maxSteps := 1000000) [add_add, haq, hca', hbb0]
              refine .inl ⟨_, pcall_open ca, rfl, ?_⟩
              simp (maxSteps := 1000000) [s10_0, hbq, hcb', hoa]
              refine .inl ⟨_, pcall_open cb, rfl, ?_⟩
              simp (maxSteps := 1000000) [hab, hba', hbb0, hbb', s15_0, hob]
              refine .inl ⟨_, pcall_refTouch ba bb (by rw [hbl ba hbam]; omega) (by rw [hbl bb hbbm]; omega), rfl, ?_⟩
              simp (maxSteps := 1000000) [haf, hra', hbf, hrb', s15_1, htt, hrr]
              refine hK _ ?_; clear hK K
              refine Tr.cond rfl rfl (fun hq4 => by first | (cases hq4; done) | (simp at hq4; done) | (simp_all; done)) (fun hq4 => ?_)
              refine Tr.skip ?_
              refine Tr.regionK fun K hK => ?_
              simp (maxSteps := 1000000) [add_add, wb]
              refine hK _ ?_; clear hK K
              refine hI2 _ _ (b + 1) (hbq) (by first | (show _ < _; omega) | (simp; omega)) ⟨rfl, ?_, ?_, ?_, ?_⟩ <;> simp [add_add]
            refine Tr.seq (Tr.regionE mixed (by kernel_rfl) fun K hK => ?_)
            simp (maxSteps := 1000000) [add_add, haq, hca', hbb0]
            refine .inl ⟨_, pcall_open ca, rfl, ?_⟩
            simp (maxSteps := 1000000) [s10_0, hbq, hcb', hoa]
            refine .inl ⟨_, pcall_open cb, rfl, ?_⟩
            simp (maxSteps := 1000000) [hab, hba', hbb0, hbb', s15_0, hob]
            refine .inl ⟨_, pcall_refTouch ba bb (by rw [hbl ba hbam]; omega) (by rw [hbl bb hbbm]; omega), rfl, ?_⟩
            simp (maxSteps := 1000000) [s15_1, htt]
            refine hK _ ?_; clear hK K
            refine Tr.cond rfl rfl (fun hq5 => by first | (cases hq5; done) | (simp at hq5; done) | (simp_all; done)) (fun hq5 => ?_)
            refine Tr.skip ?_
            refine Tr.regionK fun K hK => ?_
            simp (maxSteps := 1000000) [add_add, wb]
            refine hK _ ?_; clear hK K
            refine hI2 _ _ (b + 1) (hbq) (by first | (show _ < _; omega) | (simp; omega)) ⟨rfl, ?_, ?_, ?_, ?_⟩ <;> simp [add_add]
          refine Tr.seq (Tr.regionE mixed (by kernel_rfl) fun K hK => ?_)
          simp (maxSteps := 1000000) [add_add, haq, hca', hbb0]
          refine .inl ⟨_, pcall_open ca, rfl, ?_⟩
          simp (maxSteps := 1000000) [s10_0, hbq, hcb', hoa]
          refine .inl ⟨_, pcall_open cb, rfl, ?_⟩
          simp (maxSteps := 1000000) [s15_0, hob]
          refine hK _ ?_; clear hK K
          refine Tr.cond rfl rfl (fun hq6 => by first | (cases hq6; done) | (simp at hq6; done) | (simp_all; done)) (fun hq6 => ?_)
          refine Tr.skip ?_
          refine Tr.regionK fun K hK => ?_
          simp (maxSteps := 1000000) [add_add, wb]
          refine hK _ ?_; clear hK K
          refine hI2 _ _ (b + 1) (hbq) (by first | (show _ < _; omega) | (simp; omega)) ⟨rfl, ?_, ?_, ?_, ?_⟩ <;> simp [add_add]
        simp at hqb
        refine Tr.exit (exit_s (exit_s (exit_b ?_)))
        refine Tr.regionK fun K hK => ?_
        simp (maxSteps := 1000000) [add_add, w]
        refine hK _ ?_; clear hK K
        refine hI0 _ _ (a + 1) (haq) (by first | (show _ < _; omega) | (simp; omega)) ⟨rfl, ?_, ?_, ?_, ?_⟩ <;> simp [add_add]
      refine Tr.seq (Tr.regionK fun K hK => ?_)
      simp (maxSteps := 1000000) [add_add, haq, hab, hca']
      refine .inl ⟨_, pcall_open ca, rfl, ?_⟩
      simp (maxSteps := 1000000) [add_add, haq, hca', s10_0, hoa]
      refine .inl ⟨_, pcall_open ca, rfl, ?_⟩
      simp (maxSteps := 1000000) [add_add, hab, hba', s10_0, hoa]
      refine .inl ⟨_, pcall_refBoxHas ba p (by rw [hbl ba hbam]; omega), rfl, ?_⟩
      simp (maxSteps := 1000000) [add_add, s10_1, hha]
      refine hK _ ?_; clear hK K
      refine Tr.cond rfl rfl (fun hq7 => by first | (cases hq7; done) | (simp at hq7; done) | (simp_all; done)) (fun hq7 => ?_)
      refine Tr.skip ?_
      refine Tr.seq (Tr.regionK fun K hK => ?_)
      simp (maxSteps := 1000000) [add_add]
      refine hK _ ?_; clear hK K
      refine Tr.block ?_
      refine Tr.loopP [] [.slot 9] [.slot 9] (fun b : Nat => ([(9, .ptr nid 0 0), (10, .d (.imm (ints p))), (11, .d (.imm (bools fl))), (12, .d (.imm (boxs bl))), (14, .i a), (15, .i b)],
      [(nid, ⟨25, 2, [[.d (.imm (ivs t.root)), .d (.imm (cels t.cells))]]⟩)])) (fun b : Nat => b ≤ t.cells.length) (fun b : Nat => t.cells.length - b) 0 rfl ?_ ?_ ?_
      · exact Nat.zero_le _
      · refine ⟨rfl, ?_, ?_, ?_, ?_⟩ <;> simp [add_add]
      rintro b hb I hI2
      have wb : IntKind.i64.wrap ((b : Int) + 1) = (b : Int) + 1 := wrapIn (by omega) (by omega)
      refine Tr.seq ?_
      refine Tr.seq (Tr.regionK fun K hK => ?_)
      simp (maxSteps := 1000000) [add_add]
      refine hK _ ?_; clear hK K
      refine Tr.cond rfl rfl (fun hqb => ?_) (fun hqb => ?_)
      · simp at hqb
        have hbq : b < t.cells.length := by omega
        have hbb0 : b < bl.length := by omega
        have hbf : b < fl.length := by omega
        obtain ⟨cb, hcb, hcb'⟩ : ∃ cb, t.cells[b]? = some cb ∧ t.cells[b] = cb := ⟨t.cells[b], List.getElem?_eq_getElem hbq, rfl⟩
        obtain ⟨bb, hbb, hbb'⟩ : ∃ bb, bl[b]? = some bb ∧ bl[b] = bb := ⟨bl[b], List.getElem?_eq_getElem hbb0, rfl⟩
        obtain ⟨rb, hrb, hrb'⟩ : ∃ rb, fl[b]? = some rb ∧ fl[b] = rb := ⟨fl[b], List.getElem?_eq_getElem hbf, rfl⟩
        have hbbm := List.mem_of_getElem? hbb
        obtain ⟨ob, hob⟩ : ∃ ob, openL cb = ob := ⟨_, rfl⟩
        obtain ⟨tt, htt⟩ : ∃ x, boxTouch ba bb = x := ⟨_, rfl⟩
        have hob' := openL_at hh hcb
        rw [hob] at hob'
        refine Tr.skip ?_
        refine Tr.seq ?_
        refine Tr.block ?_
        rcases Bool.eq_false_or_eq_true (ob) with s15_0 | s15_0
        · have s15_0' := s15_0
          rcases Bool.eq_false_or_eq_true (tt) with s15_1 | s15_1
          · have s15_1' := s15_1
            have hrr : ra = rb := both_same hra hrb ⟨fun h => (hflt b).2 (.step b a ((hflt a).1 h) hbq (by rw [← hob']; exact s15_0) (by rw [← adj_touch hbb hba (hbo bb hbbm) (hbo ba hbam) (by rw [hbl bb hbbm, hbl ba hbam]), boxTouch_comm, htt]; exact s15_1)), fun h => (hflt a).2 (.step a b ((hflt b).1 h) haq (by rw [← hoa']; exact s10_0) (by rw [← adj_touch hba hbb (hbo ba hbam) (hbo bb hbbm) (by rw [hbl bb hbbm, hbl ba hbam]), htt]; exact s15_1))⟩
            refine Tr.seq (Tr.regionE mixed (by kernel_rfl) fun K hK => ?_)
            simp (maxSteps := 1000000) [add_add, haq, hca', hbb0]
            refine .inl ⟨_, pcall_open ca, rfl, ?_⟩
            simp (maxSteps := 1000000) [s10_0, hbq, hcb', hoa]
            refine .inl ⟨_, pcall_open cb, rfl, ?_⟩
            simp (maxSteps := 1000000) [hab, hba', hbb0, hbb', s15_0, hob]
            refine .inl ⟨_, pcall_refTouch ba bb (by rw [hbl ba hbam]; omega) (by rw [hbl bb hbbm]; omega), rfl, ?_⟩
            simp (maxSteps := 1000000) [haf, hra', hbf, hrb', s15_1, htt, hrr]
            refine hK _ ?_; clear hK K
            refine Tr.cond rfl rfl (fun hq9 => by first | (cases hq9; done) | (simp at hq9; done) | (simp_all; done)) (fun hq9 => ?_)
            refine Tr.skip ?_
            refine Tr.regionK fun K hK => ?_
            simp (maxSteps := 1000000) [add_add, wb]
            refine hK _ ?_; clear hK K
            refine hI2 _ _ (b + 1) (hbq) (by first | (show _ < _; omega) | (simp; omega)) ⟨rfl, ?_, ?_, ?_, ?_⟩ <;> simp [add_add]
          refine Tr.seq (Tr.regionE mixed (by kernel_rfl) fun K hK => ?_)
          simp (maxSteps := 1000000) [add_add, haq, hca', hbb0]
          refine .inl ⟨_, pcall_open ca, rfl, ?_⟩
          simp (maxSteps := 1000000) [s10_0, hbq, hcb', hoa]
          refine .inl ⟨_, pcall_open cb, rfl, ?_⟩
          simp (maxSteps := 1000000) [hab, hba', hbb0, hbb', s15_0, hob]
          refine .inl ⟨_, pcall_refTouch ba bb (by rw [hbl ba hbam]; omega) (by rw [hbl bb hbbm]; omega), rfl, ?_⟩
          simp (maxSteps := 1000000) [s15_1, htt]
          refine hK _ ?_; clear hK K
          refine Tr.cond rfl rfl (fun hq10 => by first | (cases hq10; done) | (simp at hq10; done) | (simp_all; done)) (fun hq10 => ?_)
          refine Tr.skip ?_
          refine Tr.regionK fun K hK => ?_
          simp (maxSteps := 1000000) [add_add, wb]
          refine hK _ ?_; clear hK K
          refine hI2 _ _ (b + 1) (hbq) (by first | (show _ < _; omega) | (simp; omega)) ⟨rfl, ?_, ?_, ?_, ?_⟩ <;> simp [add_add]
        refine Tr.seq (Tr.regionE mixed (by kernel_rfl) fun K hK => ?_)
        simp (maxSteps := 1000000) [add_add, haq, hca', hbb0]
        refine .inl ⟨_, pcall_open ca, rfl, ?_⟩
        simp (maxSteps := 1000000) [s10_0, hbq, hcb', hoa]
        refine .inl ⟨_, pcall_open cb, rfl, ?_⟩
        simp (maxSteps := 1000000) [s15_0, hob]
        refine hK _ ?_; clear hK K
        refine Tr.cond rfl rfl (fun hq11 => by first | (cases hq11; done) | (simp at hq11; done) | (simp_all; done)) (fun hq11 => ?_)
        refine Tr.skip ?_
        refine Tr.regionK fun K hK => ?_
        simp (maxSteps := 1000000) [add_add, wb]
        refine hK _ ?_; clear hK K
        refine hI2 _ _ (b + 1) (hbq) (by first | (show _ < _; omega) | (simp; omega)) ⟨rfl, ?_, ?_, ?_, ?_⟩ <;> simp [add_add]
      simp at hqb
      refine Tr.exit (exit_s (exit_s (exit_b ?_)))
      refine Tr.regionK fun K hK => ?_
      simp (maxSteps := 1000000) [add_add, w]
      refine hK _ ?_; clear hK K
      refine hI0 _ _ (a + 1) (haq) (by first | (show _ < _; omega) | (simp; omega)) ⟨rfl, ?_, ?_, ?_, ?_⟩ <;> simp [add_add]
    have hr0 : ra = false := ra_no (fun h => by have := ((hflt a).1 (by rw [hra, h])).isOp; rw [← hoa', s10_0] at this; cases this)
    refine Tr.seq (Tr.regionK fun K hK => ?_)
    simp (maxSteps := 1000000) [add_add, haq, hab, hca']
    refine .inl ⟨_, pcall_open ca, rfl, ?_⟩
    simp (maxSteps := 1000000) [add_add, haq, haf, hca', hra', s10_0, hoa, hr0]
    refine .inl ⟨_, pcall_open ca, rfl, ?_⟩
    simp (maxSteps := 1000000) [add_add, s10_0, hoa]
    refine hK _ ?_; clear hK K
    refine Tr.cond rfl rfl (fun hq12 => by first | (cases hq12; done) | (simp at hq12; done) | (simp_all; done)) (fun hq12 => ?_)
    refine Tr.skip ?_
    refine Tr.seq (Tr.regionK fun K hK => ?_)
    simp (maxSteps := 1000000) [add_add]
    refine hK _ ?_; clear hK K
    refine Tr.block ?_
    refine Tr.loopP [] [.slot 9] [.slot 9] (fun b : Nat => ([(9, .ptr nid 0 0), (10, .d (.imm (ints p))), (11, .d (.imm (bools fl))), (12, .d (.imm (boxs bl))), (14, .i a), (15, .i b)],
    [(nid, ⟨25, 2, [[.d (.imm (ivs t.root)), .d (.imm (cels t.cells))]]⟩)])) (fun b : Nat => b ≤ t.cells.length) (fun b : Nat => t.cells.length - b) 0 rfl ?_ ?_ ?_
    · exact Nat.zero_le _
    · refine ⟨rfl, ?_, ?_, ?_, ?_⟩ <;> simp [add_add]
    rintro b hb I hI2
    have wb : IntKind.i64.wrap ((b : Int) + 1) = (b : Int) + 1 := wrapIn (by omega) (by omega)
    refine Tr.seq ?_
    refine Tr.seq (Tr.regionK fun K hK => ?_)
    simp (maxSteps := 1000000) [add_add]
    refine hK _ ?_; clear hK K
    refine Tr.cond rfl rfl (fun hqb => ?_) (fun hqb => ?_)
    · simp at hqb
      have hbq : b < t.cells.length := by omega
      have hbb0 : b < bl.length := by omega
      have hbf : b < fl.length := by omega
      obtain ⟨cb, hcb, hcb'⟩ : ∃ cb, t.cells[b]? = some cb ∧ t.cells[b] = cb := ⟨t.cells[b], List.getElem?_eq_getElem hbq, rfl⟩
      obtain ⟨bb, hbb, hbb'⟩ : ∃ bb, bl[b]? = some bb ∧ bl[b] = bb := ⟨bl[b], List.getElem?_eq_getElem hbb0, rfl⟩
      obtain ⟨rb, hrb, hrb'⟩ : ∃ rb, fl[b]? = some rb ∧ fl[b] = rb := ⟨fl[b], List.getElem?_eq_getElem hbf, rfl⟩
      have hbbm := List.mem_of_getElem? hbb
      obtain ⟨ob, hob⟩ : ∃ ob, openL cb = ob := ⟨_, rfl⟩
      obtain ⟨tt, htt⟩ : ∃ x, boxTouch ba bb = x := ⟨_, rfl⟩
      have hob' := openL_at hh hcb
      rw [hob] at hob'
      refine Tr.skip ?_
      refine Tr.seq ?_
      refine Tr.block ?_
      refine Tr.seq (Tr.regionE mixed (by kernel_rfl) fun K hK => ?_)
      simp (maxSteps := 1000000) [add_add, haq, hca', hbb0]
      refine .inl ⟨_, pcall_open ca, rfl, ?_⟩
      simp (maxSteps := 1000000) [s10_0, hoa]
      refine hK _ ?_; clear hK K
      refine Tr.cond rfl rfl (fun hq14 => by first | (cases hq14; done) | (simp at hq14; done) | (simp_all; done)) (fun hq14 => ?_)
      refine Tr.skip ?_
      refine Tr.regionK fun K hK => ?_
      simp (maxSteps := 1000000) [add_add, wb]
      refine hK _ ?_; clear hK K
      refine hI2 _ _ (b + 1) (hbq) (by first | (show _ < _; omega) | (simp; omega)) ⟨rfl, ?_, ?_, ?_, ?_⟩ <;> simp [add_add]
    simp at hqb
    refine Tr.exit (exit_s (exit_s (exit_b ?_)))
    refine Tr.regionK fun K hK => ?_
    simp (maxSteps := 1000000) [add_add, w]
    refine hK _ ?_; clear hK K
    refine hI0 _ _ (a + 1) (haq) (by first | (show _ < _; omega) | (simp; omega)) ⟨rfl, ?_, ?_, ?_, ?_⟩ <;> simp [add_add]
  simp at hqa
  refine Tr.exit (exit_s (exit_s (exit_b ?_)))
  refine Tr.seq (Tr.regionK fun K hK => ?_)
  simp (maxSteps := 1000000) [add_add]
  refine .inl ⟨_, pcall_awake, rfl, ?_⟩
  simp (maxSteps := 1000000) [add_add]
  refine hK _ ?_; clear hK K
  refine Tr.ret ⟨.inr rfl, ?_, ?_, ?_, ?_⟩ <;> simp [Try.f7]
end Go.Proofs.Ytmljpbhmdjpbaaa
