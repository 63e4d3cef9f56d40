/- celltree.boxes. The reference's boxes; valid trees. Leaves, boxes of cells; the boxes of cut. -/
import Derived.Test.YtmljpbhmdjpbaaaM1
namespace Go.Proofs.Ytmljpbhmdjpbaaa
set_option linter.unusedVariables false
set_option linter.unusedSimpArgs false
open Go.PM

theorem inForm0 (w : Wt) : (⟨0, [], w⟩ : Vd).inForm = w.empty := by simp [Vd.inForm]
set_option maxRecDepth 8000 in
set_option maxHeartbeats 4000000 in
theorem pcall_regular (r : List Iv) (hr : r.length ≤ 1048576) :
    PCall Try.prog 150 [.d (.imm (ivs r))] (.b (rootOk r)) := by
  refine walk Try.func150 (by kernel_rfl) rfl 14 rfl (Nat.le_of_ble_eq_true rfl) fun nid _ => ?_
  refine Tr.seq (Tr.regionK fun K hK => ?_)
  simp (maxSteps := 1000000)
  refine hK _ ?_; clear hK K
  refine Tr.seq ?_
  by_cases s1_0 : r = []
  · have s1_0' := s1_0
    refine Tr.seq (Tr.regionK fun K hK => ?_)
    simp (maxSteps := 1000000) [add_add, s1_0]
    refine hK _ ?_; clear hK K
    refine Tr.cond rfl rfl (fun hq0 => ?_) (fun hq0 => by first | (cases hq0; done) | (simp at hq0; done) | (simp_all; done))
    refine Tr.seq (Tr.regionK fun K hK => ?_)
    simp (maxSteps := 1000000) [add_add]
    refine hK _ ?_; clear hK K
    refine Tr.ret ⟨.inr rfl, ?_, ?_, ?_, ?_⟩ <;> simp [Try.f150, s1_0, rootOk]
    all_goals omega
  by_cases s1_1 : 10 < (r.length : Int)
  · have s1_1' := s1_1
    refine Tr.seq (Tr.regionK fun K hK => ?_)
    simp (maxSteps := 1000000) [add_add, s1_0, s1_1]
    refine hK _ ?_; clear hK K
    refine Tr.cond rfl rfl (fun hq1 => ?_) (fun hq1 => by first | (cases hq1; done) | (simp at hq1; done) | (simp_all; done))
    refine Tr.seq (Tr.regionK fun K hK => ?_)
    simp (maxSteps := 1000000) [add_add]
    refine hK _ ?_; clear hK K
    refine Tr.ret ⟨.inr rfl, ?_, ?_, ?_, ?_⟩ <;> simp [Try.f150, s1_0, rootOk]
    all_goals omega
  refine Tr.seq (Tr.regionK fun K hK => ?_)
  simp (maxSteps := 1000000) [add_add, s1_0, s1_1]
  refine hK _ ?_; clear hK K
  refine Tr.cond rfl rfl (fun hq2 => by first | (cases hq2; done) | (simp at hq2; done) | (simp_all; done)) (fun hq2 => ?_)
  refine Tr.skip ?_
  refine Tr.seq (Tr.regionK fun K hK => ?_)
  simp (maxSteps := 1000000) [add_add]
  refine .inl ⟨_, pcall_containsIv 173 (fun x => !x.ok) r hr pcall_regular1, rfl, ?_⟩
  simp (maxSteps := 1000000) [add_add]
  refine hK _ ?_; clear hK K
  refine Tr.ret ⟨.inr rfl, ?_, ?_, ?_, ?_⟩ <;> simp [Try.f150, s1_0, rootOk, any_not_ok]
  all_goals omega
set_option maxRecDepth 8000 in
set_option maxHeartbeats 4000000 in
theorem pcall_ctBoxes (t : Tree) (hr : t.root.length ≤ 1048576) :
    PCall Try.prog 113 [treeP t] (boxesP (boxesT t)) := by
  refine walk Try.func113 (by kernel_rfl) rfl 140 rfl (Nat.le_of_ble_eq_true rfl) fun nid _ => ?_
  refine Tr.seq (Tr.regionK fun K hK => ?_)
  simp (maxSteps := 1000000) [add_add]
  refine hK _ ?_; clear hK K
  refine Tr.seq (Tr.regionK fun K hK => ?_)
  simp (maxSteps := 1000000) [add_add]
  refine hK _ ?_; clear hK K
  refine Tr.seq ?_
  rcases Bool.eq_false_or_eq_true ((!rootOk t.root)) with s2_0 | s2_0
  · have s2_0' := s2_0
    have hf : boxesT t = none := boxesT_bad (by unfold treeOk; simp only [Bool.not_eq_true'] at s2_0; simp [s2_0])
    refine Tr.seq (Tr.regionK fun K hK => ?_)
    simp (maxSteps := 1000000) [add_add]
    refine .inl ⟨_, pcall_regular t.root hr, rfl, ?_⟩
    simp (maxSteps := 1000000) [add_add, s2_0]
    refine hK _ ?_; clear hK K
    refine Tr.cond rfl rfl (fun hq0 => ?_) (fun hq0 => by first | (cases hq0; done) | (simp at hq0; done) | (simp_all; done))
    refine Tr.seq (Tr.regionK fun K hK => ?_)
    simp (maxSteps := 1000000) [add_add]
    refine hK _ ?_; clear hK K
    refine Tr.ret ⟨.inr rfl, ?_, ?_, ?_, ?_⟩ <;> simp [Try.f113, hf, boxesP]
  by_cases s2_1 : t.cells = []
  · have s2_1' := s2_1
    have hf : boxesT t = none := boxesT_bad (by unfold treeOk; simp [s2_1])
    refine Tr.seq (Tr.regionK fun K hK => ?_)
    simp (maxSteps := 1000000) [add_add, s2_1]
    refine .inl ⟨_, pcall_regular t.root hr, rfl, ?_⟩
    simp (maxSteps := 1000000) [add_add, s2_0]
    refine hK _ ?_; clear hK K
    refine Tr.cond rfl rfl (fun hq1 => ?_) (fun hq1 => by first | (cases hq1; done) | (simp at hq1; done) | (simp_all; done))
    refine Tr.seq (Tr.regionK fun K hK => ?_)
    simp (maxSteps := 1000000) [add_add]
    refine hK _ ?_; clear hK K
    refine Tr.ret ⟨.inr rfl, ?_, ?_, ?_, ?_⟩ <;> simp [Try.f113, hf, boxesP]
  by_cases s2_2 : 2048 < (t.cells.length : Int)
  · have s2_2' := s2_2
    have hf : boxesT t = none := boxesT_bad (by unfold treeOk; simp [show 2048 < t.cells.length from by omega])
    refine Tr.seq (Tr.regionK fun K hK => ?_)
    simp (maxSteps := 1000000) [add_add]
    refine .inl ⟨_, pcall_regular t.root hr, rfl, ?_⟩
    simp (maxSteps := 1000000) [add_add, s2_0, s2_1, s2_2]
    refine hK _ ?_; clear hK K
    refine Tr.cond rfl rfl (fun hq2 => ?_) (fun hq2 => by first | (cases hq2; done) | (simp at hq2; done) | (simp_all; done))
    refine Tr.seq (Tr.regionK fun K hK => ?_)
    simp (maxSteps := 1000000) [add_add]
    refine hK _ ?_; clear hK K
    refine Tr.ret ⟨.inr rfl, ?_, ?_, ?_, ?_⟩ <;> simp [Try.f113, hf, boxesP]
  have htk : treeOk t = true := by unfold treeOk; simp only [Bool.not_eq_false'] at s2_0; simp [s2_0, s2_1, show ¬ 2048 < t.cells.length from by omega]
  have hn0 : 0 < t.cells.length := List.length_pos_iff.2 s2_1
  have hrok : rootOk t.root = true := by simpa using s2_0
  refine Tr.seq (Tr.regionK fun K hK => ?_)
  simp (maxSteps := 1000000) [add_add]
  refine .inl ⟨_, pcall_regular t.root hr, rfl, ?_⟩
  simp (maxSteps := 1000000) [add_add, s2_0, s2_1, s2_2]
  refine hK _ ?_; clear hK K
  refine Tr.cond rfl rfl (fun hq3 => by first | (cases hq3; done) | (simp at hq3; done) | (simp_all; done)) (fun hq3 => ?_)
  refine Tr.skip ?_
  refine Tr.seq (Tr.regionK fun K hK => ?_)
  simp (maxSteps := 1000000) [add_add]
  repeat (first | refine ⟨by omega, ?_⟩ | refine ⟨⟨by omega, by omega⟩, ?_⟩ | refine ⟨rfl, ?_⟩)
  refine hK _ ?_; clear hK K
  refine Tr.seq (Tr.regionK fun K hK => ?_)
  simp (maxSteps := 1000000) [add_add, hn0]
  refine hK _ ?_; clear hK K
  refine Tr.seq ?_
  refine Tr.seq (Tr.regionK fun K hK => ?_)
  simp (maxSteps := 1000000) [add_add]
  refine hK _ ?_; clear hK K
  refine Tr.block ?_
  refine Tr.loopP [] [.slot 1, .slot 5] [.slot 1, .slot 5] (fun i : Nat => ([(1, .ptr nid 0 0), (4, .i t.cells.length), (5, .own (nid + 1) 1 0 t.cells.length), (34, .d (.imm (cels t.cells))), (35, .i t.cells.length), (36, .i i)],
  [(nid, ⟨25, 2, [[.d (.imm (ivs t.root)), .d (.imm (cels t.cells))]]⟩), (nid + 1, ⟨22, 1, upm obD (bs t i)⟩)])) (fun i : Nat => i ≤ t.cells.length ∧ bst t i = some (bs t i)) (fun i : Nat => t.cells.length - i) 0 rfl ?_ ?_ ?_
  · exact ⟨Nat.zero_le _, rfl⟩
  · refine ⟨rfl, ?_, ?_, ?_, ?_⟩ <;> simp [add_add, ob_zero, show bs t 0 = (List.replicate t.cells.length none).set 0 (some t.root) from rfl]
  rintro i ⟨hi, hb⟩ I hI0
  have w : IntKind.i64.wrap ((i : Int) + 1) = (i : Int) + 1 := wrapIn (by omega) (by omega)
  obtain ⟨outs, hbs⟩ : ∃ o, bs t i = o := ⟨_, rfl⟩
  rw [hbs] at hb
  obtain ⟨hlen, hbl, _⟩ := bst_inv hb hi
  have hr0 : t.root.length ≠ 0 := by intro e; rw [List.length_eq_zero_iff] at e; unfold rootOk at hrok; simp [e] at hrok
  refine Tr.seq (Tr.regionK fun K hK => ?_)
  simp (maxSteps := 1000000) [add_add, hbs]
  refine hK _ ?_; clear hK K
  refine Tr.seq ?_
  refine Tr.cond rfl rfl (fun hq => ?_) (fun hq => ?_)
  · simp at hq
    obtain ⟨c, hc, hc'⟩ : ∃ c, t.cells[i]? = some c ∧ t.cells[i] = c := ⟨t.cells[i], List.getElem?_eq_getElem hq, rfl⟩
    obtain ⟨o, ho, ho'⟩ : ∃ o, outs[i]? = some o ∧ outs[i]'(by omega) = o := ⟨_, List.getElem?_eq_getElem _, rfl⟩
    refine Tr.skip ?_
    refine Tr.seq ?_
    refine Tr.block ?_
    refine Tr.seq (Tr.regionK fun K hK => ?_)
    simp (maxSteps := 1000000) [add_add, hc', hq]
    refine hK _ ?_; clear hK K
    refine Tr.seq ?_
    rcases Bool.eq_false_or_eq_true (o.isNone) with s9_0 | s9_0
    · have s9_0' := s9_0
      obtain rfl := Option.isNone_iff_eq_none.1 s9_0
      have hrd := ob_none ho
      have hnl : True := trivial
      have hf : boxesT t = none := boxesT_none (i := i + 1) hq (by rw [bst_succ hb hc]; unfold bstep; rw [ho]; skip)
      refine Tr.seq (Tr.regionK fun K hK => ?_)
      simp (maxSteps := 1000000) [add_add, hlen, hq, hrd]
      refine hK _ ?_; clear hK K
      refine Tr.cond rfl rfl (fun hq5 => ?_) (fun hq5 => by first | (cases hq5; done) | (simp at hq5; done) | (simp_all; done))
      refine Tr.seq (Tr.regionK fun K hK => ?_)
      simp (maxSteps := 1000000) [add_add]
      refine hK _ ?_; clear hK K
      refine Tr.ret ⟨.inr rfl, ?_, ?_, ?_, ?_⟩ <;> simp [Try.f113, hf, boxesP]
    obtain ⟨b, rfl⟩ : ∃ b, o = some b := by cases o with | none => simp at s9_0 | some b => exact ⟨b, rfl⟩
    have hrd := ob_some ho
    have hbn := hbl b (List.mem_of_getElem? ho)
    have hnl := ob_nil (pos_ne hbn hr0)
    refine Tr.seq (Tr.regionK fun K hK => ?_)
    simp (maxSteps := 1000000) [add_add, hlen, hq, hrd, hnl]
    refine hK _ ?_; clear hK K
    refine Tr.cond rfl rfl (fun hq6 => by first | (cases hq6; done) | (simp at hq6; done) | (simp_all; done)) (fun hq6 => ?_)
    refine Tr.skip ?_
    refine Tr.seq ?_
    rcases Bool.eq_false_or_eq_true (c.leaf) with s11_0 | s11_0
    · have s11_0' := s11_0
      have hlf := s11_0
      refine Tr.seq (Tr.regionK fun K hK => ?_)
      simp (maxSteps := 1000000) [add_add]
      refine .inl ⟨_, pcall_isLeaf c, rfl, ?_⟩
      simp (maxSteps := 1000000) [add_add, s11_0]
      refine hK _ ?_; clear hK K
      refine Tr.cond rfl rfl (fun hq7 => ?_) (fun hq7 => by first | (cases hq7; done) | (simp at hq7; done) | (simp_all; done))
      refine Tr.seq ?_
      rcases Bool.eq_false_or_eq_true (c.v.inForm) with s12_0 | s12_0
      · have s12_0' := s12_0
        have hb1 : bst t (i + 1) = some outs := by rw [bst_succ hb hc]; unfold bstep; rw [ho]; simp [hlf, s12_0]
        have hbs1 : bs t (i + 1) = outs := by unfold bs; rw [hb1]; rfl
        refine Tr.seq (Tr.regionK fun K hK => ?_)
        simp (maxSteps := 1000000) [add_add]
        refine .inl ⟨_, pcall_inForm c.v, rfl, ?_⟩
        simp (maxSteps := 1000000) [add_add, s12_0]
        refine hK _ ?_; clear hK K
        refine Tr.cond rfl rfl (fun hq8 => by first | (cases hq8; done) | (simp at hq8; done) | (simp_all; done)) (fun hq8 => ?_)
        refine Tr.skip ?_
        refine Tr.exit (exit_s (exit_b ?_))
        refine Tr.regionK fun K hK => ?_
        simp (maxSteps := 1000000) [add_add, w]
        refine hK _ ?_; clear hK K
        refine hI0 _ _ (i + 1) (⟨hq, by rw [hbs1]; exact hb1⟩) (by first | (show _ < _; omega) | (simp; omega)) ⟨rfl, ?_, ?_, ?_, ?_⟩ <;> simp [add_add, hbs1]
      have hf : boxesT t = none := boxesT_none (i := i + 1) hq (by rw [bst_succ hb hc]; unfold bstep; rw [ho]; simp [hlf, s12_0])
      refine Tr.seq (Tr.regionK fun K hK => ?_)
      simp (maxSteps := 1000000) [add_add]
      refine .inl ⟨_, pcall_inForm c.v, rfl, ?_⟩
      simp (maxSteps := 1000000) [add_add, s12_0]
      refine hK _ ?_; clear hK K
      refine Tr.cond rfl rfl (fun hq9 => ?_) (fun hq9 => by first | (cases hq9; done) | (simp at hq9; done) | (simp_all; done))
      refine Tr.seq (Tr.regionK fun K hK => ?_)
      simp (maxSteps := 1000000) [add_add]
      refine hK _ ?_; clear hK K
      refine Tr.ret ⟨.inr rfl, ?_, ?_, ?_, ?_⟩ <;> simp [Try.f113, hf, boxesP]
    have hlf := s11_0
    refine Tr.seq (Tr.regionK fun K hK => ?_)
    simp (maxSteps := 1000000) [add_add]
    refine .inl ⟨_, pcall_isLeaf c, rfl, ?_⟩
    simp (maxSteps := 1000000) [add_add, s11_0]
    refine hK _ ?_; clear hK K
    refine Tr.cond rfl rfl (fun hq10 => by first | (cases hq10; done) | (simp at hq10; done) | (simp_all; done)) (fun hq10 => ?_)
    refine Tr.skip ?_
    refine Tr.seq ?_
    by_cases s14_0 : c.lo ≤ i
    · have s14_0' := s14_0
      have hx1 : True := trivial
      have hx2 : True := trivial
      have hf : boxesT t = none := boxesT_none (i := i + 1) hq (by rw [bst_succ hb hc]; unfold bstep; rw [ho]; simp [hlf, show ¬ ((i : Int) < c.lo) from by omega])
      refine Tr.seq (Tr.regionK fun K hK => ?_)
      simp (maxSteps := 1000000) [add_add, s14_0]
      refine hK _ ?_; clear hK K
      refine Tr.cond rfl rfl (fun hq11 => ?_) (fun hq11 => by first | (cases hq11; done) | (simp at hq11; done) | (simp_all; done))
      refine Tr.seq (Tr.regionK fun K hK => ?_)
      simp (maxSteps := 1000000) [add_add]
      refine hK _ ?_; clear hK K
      refine Tr.ret ⟨.inr rfl, ?_, ?_, ?_, ?_⟩ <;> simp [Try.f113, hf, boxesP]
    by_cases s14_1 : c.hi ≤ i
    · have s14_1' := s14_1
      have hx1 : True := trivial
      have hx2 : True := trivial
      have hf : boxesT t = none := boxesT_none (i := i + 1) hq (by rw [bst_succ hb hc]; unfold bstep; rw [ho]; simp [hlf, show ¬ ((i : Int) < c.hi) from by omega])
      refine Tr.seq (Tr.regionK fun K hK => ?_)
      simp (maxSteps := 1000000) [add_add, s14_0, s14_1]
      refine hK _ ?_; clear hK K
      refine Tr.cond rfl rfl (fun hq12 => ?_) (fun hq12 => by first | (cases hq12; done) | (simp at hq12; done) | (simp_all; done))
      refine Tr.seq (Tr.regionK fun K hK => ?_)
      simp (maxSteps := 1000000) [add_add]
      refine hK _ ?_; clear hK K
      refine Tr.ret ⟨.inr rfl, ?_, ?_, ?_, ?_⟩ <;> simp [Try.f113, hf, boxesP]
    by_cases s14_2 : (t.cells.length : Int) ≤ c.lo
    · have s14_2' := s14_2
      have hx1 : True := trivial
      have hx2 : True := trivial
      have hf : boxesT t = none := boxesT_none (i := i + 1) hq (by rw [bst_succ hb hc]; unfold bstep; rw [ho]; simp [hlf, show ¬ (c.lo < (t.cells.length : Int)) from by omega])
      refine Tr.seq (Tr.regionK fun K hK => ?_)
      simp (maxSteps := 1000000) [add_add, s14_0, s14_1, s14_2]
      refine hK _ ?_; clear hK K
      refine Tr.cond rfl rfl (fun hq13 => ?_) (fun hq13 => by first | (cases hq13; done) | (simp at hq13; done) | (simp_all; done))
      refine Tr.seq (Tr.regionK fun K hK => ?_)
      simp (maxSteps := 1000000) [add_add]
      refine hK _ ?_; clear hK K
      refine Tr.ret ⟨.inr rfl, ?_, ?_, ?_, ?_⟩ <;> simp [Try.f113, hf, boxesP]
    by_cases s14_3 : (t.cells.length : Int) ≤ c.hi
    · have s14_3' := s14_3
      have hx1 : True := trivial
      have hx2 : True := trivial
      have hf : boxesT t = none := boxesT_none (i := i + 1) hq (by rw [bst_succ hb hc]; unfold bstep; rw [ho]; simp [hlf, show ¬ (c.hi < (t.cells.length : Int)) from by omega])
      refine Tr.seq (Tr.regionK fun K hK => ?_)
      simp (maxSteps := 1000000) [add_add, s14_0, s14_1, s14_2, s14_3]
      refine hK _ ?_; clear hK K
      refine Tr.cond rfl rfl (fun hq14 => ?_) (fun hq14 => by first | (cases hq14; done) | (simp at hq14; done) | (simp_all; done))
      refine Tr.seq (Tr.regionK fun K hK => ?_)
      simp (maxSteps := 1000000) [add_add]
      refine hK _ ?_; clear hK K
      refine Tr.ret ⟨.inr rfl, ?_, ?_, ?_, ?_⟩ <;> simp [Try.f113, hf, boxesP]
    have hp0 : 0 ≤ c.lo := by omega
    have hp1 : ¬ c.lo < 0 := by omega
    have hp2 : c.lo.toNat < t.cells.length := by omega
    have hq00 : 0 ≤ c.hi := by omega
    have hq1 : ¬ c.hi < 0 := by omega
    have hq2 : c.hi.toNat < t.cells.length := by omega
    obtain ⟨ol, hol, hol'⟩ : ∃ o, outs[c.lo.toNat]? = some o ∧ outs[c.lo.toNat]'(by omega) = o := ⟨_, List.getElem?_eq_getElem _, rfl⟩
    obtain ⟨oh, hoh, hoh'⟩ : ∃ o, outs[c.hi.toNat]? = some o ∧ outs[c.hi.toNat]'(by omega) = o := ⟨_, List.getElem?_eq_getElem _, rfl⟩
    by_cases s14_4 : c.lo = c.hi
    · have s14_4' := s14_4
      have hx1 : True := trivial
      have hx2 : True := trivial
      have hf : boxesT t = none := boxesT_none (i := i + 1) hq (by rw [bst_succ hb hc]; unfold bstep; rw [ho]; simp [hlf, s14_4])
      refine Tr.seq (Tr.regionK fun K hK => ?_)
      simp (maxSteps := 1000000) [add_add, s14_1, s14_3, s14_4]
      refine hK _ ?_; clear hK K
      refine Tr.cond rfl rfl (fun hq15 => ?_) (fun hq15 => by first | (cases hq15; done) | (simp at hq15; done) | (simp_all; done))
      refine Tr.seq (Tr.regionK fun K hK => ?_)
      simp (maxSteps := 1000000) [add_add]
      refine hK _ ?_; clear hK K
      refine Tr.ret ⟨.inr rfl, ?_, ?_, ?_, ?_⟩ <;> simp [Try.f113, hf, boxesP]
    rcases Bool.eq_false_or_eq_true (ol.isSome) with s14_5 | s14_5
    · have s14_5' := s14_5
      obtain ⟨b2, rfl⟩ := Option.isSome_iff_exists.1 s14_5
      have hx1 := ob_some hol
      have hx2 := ob_nil (pos_ne (hbl b2 (List.mem_of_getElem? hol)) hr0)
      have hf : boxesT t = none := boxesT_none (i := i + 1) hq (by rw [bst_succ hb hc]; unfold bstep; rw [ho]; simp [hlf, hol])
      refine Tr.seq (Tr.regionK fun K hK => ?_)
      simp (maxSteps := 1000000) [add_add, hlen, s14_0, s14_1, s14_2, s14_3, hp0, hp2, s14_4, hx1, hx2]
      repeat (first | refine ⟨by omega, ?_⟩ | refine ⟨⟨by omega, by omega⟩, ?_⟩ | refine ⟨rfl, ?_⟩)
      refine hK _ ?_; clear hK K
      refine Tr.cond rfl rfl (fun hq16 => ?_) (fun hq16 => by first | (cases hq16; done) | (simp at hq16; done) | (simp_all; done))
      refine Tr.seq (Tr.regionK fun K hK => ?_)
      simp (maxSteps := 1000000) [add_add]
      refine hK _ ?_; clear hK K
      refine Tr.ret ⟨.inr rfl, ?_, ?_, ?_, ?_⟩ <;> simp [Try.f113, hf, boxesP]
    obtain rfl : ol = none := by simpa using s14_5
    have hol1 := ob_none hol
    rcases Bool.eq_false_or_eq_true (oh.isSome) with s14_6 | s14_6
    · have s14_6' := s14_6
      obtain ⟨b2, rfl⟩ := Option.isSome_iff_exists.1 s14_6
      have hx1 := ob_some hoh
      have hx2 := ob_nil (pos_ne (hbl b2 (List.mem_of_getElem? hoh)) hr0)
      have hf : boxesT t = none := boxesT_none (i := i + 1) hq (by rw [bst_succ hb hc]; unfold bstep; rw [ho]; simp [hlf, hoh])
      refine Tr.seq (Tr.regionK fun K hK => ?_)
      simp (maxSteps := 1000000) [add_add, hlen, s14_0, s14_1, s14_2, s14_3, hp0, hp2, hq00, hq2, s14_4, hol1, hx1, hx2]
      repeat (first | refine ⟨by omega, ?_⟩ | refine ⟨⟨by omega, by omega⟩, ?_⟩ | refine ⟨rfl, ?_⟩)
      refine hK _ ?_; clear hK K
      refine Tr.cond rfl rfl (fun hq17 => ?_) (fun hq17 => by first | (cases hq17; done) | (simp at hq17; done) | (simp_all; done))
      refine Tr.seq (Tr.regionK fun K hK => ?_)
      simp (maxSteps := 1000000) [add_add]
      refine hK _ ?_; clear hK K
      refine Tr.ret ⟨.inr rfl, ?_, ?_, ?_, ?_⟩ <;> simp [Try.f113, hf, boxesP]
    obtain rfl : oh = none := by simpa using s14_6
    have hoh1 := ob_none hoh
    have hx1 : True := trivial
    have hx2 : True := trivial
    refine Tr.seq (Tr.regionK fun K hK => ?_)
    simp (maxSteps := 1000000) [add_add, hlen, s14_0, s14_1, s14_2, s14_3, hp0, hp2, hq00, hq2, s14_4, hol1, hoh1]
    repeat (first | refine ⟨by omega, ?_⟩ | refine ⟨⟨by omega, by omega⟩, ?_⟩ | refine ⟨rfl, ?_⟩)
    refine hK _ ?_; clear hK K
    refine Tr.cond rfl rfl (fun hq18 => by first | (cases hq18; done) | (simp at hq18; done) | (simp_all; done)) (fun hq18 => ?_)
    refine Tr.skip ?_
    rcases Bool.eq_false_or_eq_true ((halve b c.j).isSome) with s16_0 | s16_0
    · have s16_0' := s16_0
      obtain ⟨⟨l, h⟩, hh⟩ := Option.isSome_iff_exists.1 s16_0
      refine Tr.seq (Tr.regionE mixed (by kernel_rfl) fun K hK => ?_)
      simp (maxSteps := 1000000) [add_add, hlen, hq, hrd]
      refine .inl ⟨_, pcall_halve b c.j (by omega), rfl, ?_⟩
      simp (maxSteps := 1000000) [hh, halveP]
      refine hK _ ?_; clear hK K
      refine Tr.seq (Tr.regionK fun K hK => ?_)
      simp (maxSteps := 1000000) [add_add]
      refine hK _ ?_; clear hK K
      refine Tr.seq ?_
      by_cases s18_0 : c.v.kind = 0
      · have s18_0' := s18_0
        by_cases s18_1 : c.v.ns = []
        · have s18_1' := s18_1
          rcases Bool.eq_false_or_eq_true (c.v.w.empty) with s18_2 | s18_2
          · have s18_2' := s18_2
            have hz : c.v.zero = true := by unfold Vd.zero; simp [s18_0, s18_1, s18_2]
            have hb1 : bst t (i + 1) = some ((outs.set c.lo.toNat (some l)).set c.hi.toNat (some h)) := by rw [bst_succ hb hc]; unfold bstep; rw [ho]; simp [hlf, hz, hh, hol, hoh, s14_4]; omega
            have hbs1 : bs t (i + 1) = (outs.set c.lo.toNat (some l)).set c.hi.toNat (some h) := by unfold bs; rw [hb1]; rfl
            refine Tr.seq (Tr.regionK fun K hK => ?_)
            simp (maxSteps := 1000000) [add_add, s18_0, s18_1]
            refine .inl ⟨_, pcall_inForm ⟨0, [], c.v.w⟩, rfl, ?_⟩
            simp (maxSteps := 1000000) [add_add, s18_2, inForm0]
            refine hK _ ?_; clear hK K
            refine Tr.cond rfl rfl (fun hq19 => by first | (cases hq19; done) | (simp at hq19; done) | (simp_all; done)) (fun hq19 => ?_)
            refine Tr.skip ?_
            refine Tr.regionE mixed (by kernel_rfl) fun K hK => ?_
            simp (maxSteps := 1000000) [add_add, Region.binds, hlen, hp0, hp2, hq00, hq2, hol1, ob_set, ob_tail]
            repeat (first | refine ⟨by omega, ?_⟩ | refine ⟨⟨by omega, by omega⟩, ?_⟩ | refine ⟨rfl, ?_⟩)
            refine hK _ ?_; clear hK K
            refine Tr.regionK fun K hK => ?_
            simp (maxSteps := 1000000) [add_add, w]
            refine hK _ ?_; clear hK K
            refine hI0 _ _ (i + 1) (⟨hq, by rw [hbs1]; exact hb1⟩) (by first | (show _ < _; omega) | (simp; omega)) ⟨rfl, ?_, ?_, ?_, ?_⟩ <;> simp [add_add, hbs1]
          have hz : c.v.zero = false := by unfold Vd.zero; simp [s18_2]
          have hf : boxesT t = none := boxesT_none (i := i + 1) hq (by rw [bst_succ hb hc]; unfold bstep; rw [ho]; simp [hlf, hz])
          refine Tr.seq (Tr.regionK fun K hK => ?_)
          simp (maxSteps := 1000000) [add_add, s18_0, s18_1]
          refine .inl ⟨_, pcall_inForm ⟨0, [], c.v.w⟩, rfl, ?_⟩
          simp (maxSteps := 1000000) [add_add, s18_2, inForm0]
          refine hK _ ?_; clear hK K
          refine Tr.cond rfl rfl (fun hq20 => ?_) (fun hq20 => by first | (cases hq20; done) | (simp at hq20; done) | (simp_all; done))
          refine Tr.seq (Tr.regionK fun K hK => ?_)
          simp (maxSteps := 1000000) [add_add]
          refine hK _ ?_; clear hK K
          refine Tr.ret ⟨.inr rfl, ?_, ?_, ?_, ?_⟩ <;> simp [Try.f113, hf, boxesP]
        have hpl : 0 < c.v.ns.length := List.length_pos_iff.2 s18_1
        have hz : c.v.zero = false := by unfold Vd.zero; simp [s18_1]
        have hf : boxesT t = none := boxesT_none (i := i + 1) hq (by rw [bst_succ hb hc]; unfold bstep; rw [ho]; simp [hlf, hz])
        refine Tr.seq (Tr.regionK fun K hK => ?_)
        simp (maxSteps := 1000000) [add_add, s18_0, hpl]
        refine hK _ ?_; clear hK K
        refine Tr.cond rfl rfl (fun hq21 => ?_) (fun hq21 => by first | (cases hq21; done) | (simp at hq21; done) | (simp_all; done))
        refine Tr.seq (Tr.regionK fun K hK => ?_)
        simp (maxSteps := 1000000) [add_add]
        refine hK _ ?_; clear hK K
        refine Tr.ret ⟨.inr rfl, ?_, ?_, ?_, ?_⟩ <;> simp [Try.f113, hf, boxesP]
      have hz : c.v.zero = false := by unfold Vd.zero; simp [s18_0]
      have hf : boxesT t = none := boxesT_none (i := i + 1) hq (by rw [bst_succ hb hc]; unfold bstep; rw [ho]; simp [hlf, hz])
      refine Tr.seq (Tr.regionK fun K hK => ?_)
      simp (maxSteps := 1000000) [add_add, s18_0]
      refine hK _ ?_; clear hK K
      refine Tr.cond rfl rfl (fun hq22 => ?_) (fun hq22 => by first | (cases hq22; done) | (simp at hq22; done) | (simp_all; done))
      refine Tr.seq (Tr.regionK fun K hK => ?_)
      simp (maxSteps := 1000000) [add_add]
      refine hK _ ?_; clear hK K
      refine Tr.ret ⟨.inr rfl, ?_, ?_, ?_, ?_⟩ <;> simp [Try.f113, hf, boxesP]
    have hh : halve b c.j = none := by simpa using s16_0
    have hf : boxesT t = none := boxesT_none (i := i + 1) hq (by rw [bst_succ hb hc]; unfold bstep; rw [ho]; simp [hlf, hh])
    refine Tr.seq (Tr.regionE mixed (by kernel_rfl) fun K hK => ?_)
    simp (maxSteps := 1000000) [add_add, hlen, hq, hrd]
    refine .inl ⟨_, pcall_halve b c.j (by omega), rfl, ?_⟩
    simp (maxSteps := 1000000) [hh, halveP]
    refine hK _ ?_; clear hK K
    refine Tr.seq (Tr.regionK fun K hK => ?_)
    simp (maxSteps := 1000000) [add_add]
    refine hK _ ?_; clear hK K
    refine Tr.seq ?_
    refine Tr.seq (Tr.regionK fun K hK => ?_)
    simp (maxSteps := 1000000) [add_add]
    refine hK _ ?_; clear hK K
    refine Tr.cond rfl rfl (fun hq23 => ?_) (fun hq23 => by first | (cases hq23; done) | (simp at hq23; done) | (simp_all; done))
    refine Tr.seq (Tr.regionK fun K hK => ?_)
    simp (maxSteps := 1000000) [add_add]
    refine hK _ ?_; clear hK K
    refine Tr.ret ⟨.inr rfl, ?_, ?_, ?_, ?_⟩ <;> simp [Try.f113, hf, boxesP]
  simp at hq
  refine Tr.exit (exit_s (exit_s (exit_b ?_)))
  have hin : i = t.cells.length := by omega
  subst hin
  obtain ⟨l, hf, hl⟩ := boxesT_some htk hb
  have hln : t.cells.length = l.length := by rw [← hlen, hl]; simp
  refine Tr.freezeM (nid + 1) boxD l [(5, .d (.imm (boxs l)))] [] (ty := 22) (sz := 1) ?_ ?_ ?_ ?_ ?_
  · simp [hl, ob_map]
  · simp
  · simp [hln]
  · simp
  refine Tr.seq (Tr.regionK fun K hK => ?_)
  simp (maxSteps := 1000000) [add_add]
  refine hK _ ?_; clear hK K
  refine Tr.ret ⟨.inr rfl, ?_, ?_, ?_, ?_⟩ <;> simp [Try.f113, hf, boxesP]
end Go.Proofs.Ytmljpbhmdjpbaaa
namespace Go.Proofs.Ytmljpbhmdjpbaaa
set_option linter.unusedVariables false
set_option linter.unusedSimpArgs false
open Go.PM

theorem halve_big {b : List Iv} {j : Int} (h : (b.length : Int) ≤ j) : halve b j = none := by
  cases e : halve b j with
  | none => rfl
  | some p => have := halve_len2 (l := p.1) (h := p.2) e; omega
theorem bst_pre {t : Tree} {n : Nat} {outs : Outs} (h : bst t n = some outs) {i : Nat} (hi : i ≤ n) : ∃ o, bst t i = some o := by
  cases e : bst t i with
  | some o => exact ⟨o, rfl⟩
  | none => have := bst_none e (n - i); rw [Nat.add_sub_cancel' hi, h] at this; cases this
theorem boxesT_iff {t : Tree} {l : List (List Iv)} (h : boxesT t = some l) : treeOk t = true ∧ bst t t.cells.length = some (l.map some) := by
  by_cases ht : treeOk t = true
  · refine ⟨ht, ?_⟩
    cases e : bst t t.cells.length with
    | none => rw [boxesT_none (Nat.le_refl _) e] at h; cases h
    | some o =>
      obtain ⟨l', h1, h2⟩ := boxesT_some ht e
      rw [h] at h1; cases h1
      rw [h2]
  · rw [boxesT_bad (by simpa using ht)] at h; cases h
theorem treeOk_iff {t : Tree} : treeOk t = true ↔ (t.root ≠ [] ∧ t.root.length ≤ 10 ∧ boxOk t.root = true) ∧ t.cells ≠ [] ∧ t.cells.length ≤ 2048 := by
  unfold treeOk rootOk
  simp
theorem leaf_j {c : Cel} (h : c.leaf = true) : c.j = -1 ∧ c.lo = -1 ∧ c.hi = -1 := by
  unfold Cel.leaf at h
  simpa using h
theorem leaf_halve {c : Cel} (h : c.leaf = true) (b : List Iv) : halve b c.j = none := halve_neg (by have := (leaf_j h).1; omega)
set_option maxRecDepth 8000 in
set_option maxHeartbeats 4000000 in
theorem pcall_refBoxes (t : Tree) (hr : t.root.length ≤ 1048576) :
    PCall Try.prog 25 [treeP t] (boxesP (boxesT t)) := by
  refine walk Try.func25 (by kernel_rfl) rfl 165 rfl (Nat.le_of_ble_eq_true rfl) fun nid _ => ?_
  refine Tr.seq (Tr.regionK fun K hK => ?_)
  simp (maxSteps := 1000000) [add_add]
  refine hK _ ?_; clear hK K
  refine Tr.seq (Tr.regionK fun K hK => ?_)
  simp (maxSteps := 1000000) [add_add]
  refine hK _ ?_; clear hK K
  refine Tr.seq ?_
  by_cases s2_0 : (t.root.length : Int) < 1
  · have s2_0' := s2_0
    have hf : boxesT t = none := boxesT_bad (by unfold treeOk; unfold rootOk; simp [show t.root = [] from List.length_eq_zero_iff.1 (by omega)])
    refine Tr.seq (Tr.regionK fun K hK => ?_)
    simp (maxSteps := 1000000) [add_add, s2_0]
    refine hK _ ?_; clear hK K
    refine Tr.cond rfl rfl (fun hq0 => ?_) (fun hq0 => by first | (cases hq0; done) | (simp at hq0; done) | (simp_all; done))
    refine Tr.seq (Tr.regionK fun K hK => ?_)
    simp (maxSteps := 1000000) [add_add]
    refine hK _ ?_; clear hK K
    refine Tr.ret ⟨.inr rfl, ?_, ?_, ?_, ?_⟩ <;> simp [Try.f25, hf, boxesP]
  by_cases s2_1 : 10 < (t.root.length : Int)
  · have s2_1' := s2_1
    have hf : boxesT t = none := boxesT_bad (by unfold treeOk; unfold rootOk; simp [show 10 < t.root.length from by omega])
    refine Tr.seq (Tr.regionK fun K hK => ?_)
    simp (maxSteps := 1000000) [add_add, s2_0, s2_1]
    refine hK _ ?_; clear hK K
    refine Tr.cond rfl rfl (fun hq1 => ?_) (fun hq1 => by first | (cases hq1; done) | (simp at hq1; done) | (simp_all; done))
    refine Tr.seq (Tr.regionK fun K hK => ?_)
    simp (maxSteps := 1000000) [add_add]
    refine hK _ ?_; clear hK K
    refine Tr.ret ⟨.inr rfl, ?_, ?_, ?_, ?_⟩ <;> simp [Try.f25, hf, boxesP]
  by_cases s2_2 : (t.cells.length : Int) < 1
  · have s2_2' := s2_2
    have hf : boxesT t = none := boxesT_bad (by unfold treeOk; simp [show t.cells = [] from List.length_eq_zero_iff.1 (by omega)])
    refine Tr.seq (Tr.regionK fun K hK => ?_)
    simp (maxSteps := 1000000) [add_add, s2_0, s2_1, s2_2]
    refine hK _ ?_; clear hK K
    refine Tr.cond rfl rfl (fun hq2 => ?_) (fun hq2 => by first | (cases hq2; done) | (simp at hq2; done) | (simp_all; done))
    refine Tr.seq (Tr.regionK fun K hK => ?_)
    simp (maxSteps := 1000000) [add_add]
    refine hK _ ?_; clear hK K
    refine Tr.ret ⟨.inr rfl, ?_, ?_, ?_, ?_⟩ <;> simp [Try.f25, hf, boxesP]
  by_cases s2_3 : 2048 < (t.cells.length : Int)
  · have s2_3' := s2_3
    have hf : boxesT t = none := boxesT_bad (by unfold treeOk; simp [show 2048 < t.cells.length from by omega])
    refine Tr.seq (Tr.regionK fun K hK => ?_)
    simp (maxSteps := 1000000) [add_add, s2_0, s2_1, s2_2, s2_3]
    refine hK _ ?_; clear hK K
    refine Tr.cond rfl rfl (fun hq3 => ?_) (fun hq3 => by first | (cases hq3; done) | (simp at hq3; done) | (simp_all; done))
    refine Tr.seq (Tr.regionK fun K hK => ?_)
    simp (maxSteps := 1000000) [add_add]
    refine hK _ ?_; clear hK K
    refine Tr.ret ⟨.inr rfl, ?_, ?_, ?_, ?_⟩ <;> simp [Try.f25, hf, boxesP]
  have hn0 : 0 < t.cells.length := by omega
  refine Tr.seq (Tr.regionK fun K hK => ?_)
  simp (maxSteps := 1000000) [add_add, s2_0, s2_1, s2_2, s2_3]
  refine hK _ ?_; clear hK K
  refine Tr.cond rfl rfl (fun hq4 => by first | (cases hq4; done) | (simp at hq4; done) | (simp_all; done)) (fun hq4 => ?_)
  refine Tr.skip ?_
  refine Tr.seq ?_
  refine Tr.seq (Tr.regionK fun K hK => ?_)
  simp (maxSteps := 1000000) [add_add]
  refine hK _ ?_; clear hK K
  refine Tr.block ?_
  refine Tr.loopP [] [.slot 1] [.slot 1] (fun i : Nat => ([(1, .ptr nid 0 0), (4, .i t.cells.length), (5, .i i)],
  [(nid, ⟨25, 2, [[.d (.imm (ivs t.root)), .d (.imm (cels t.cells))]]⟩)])) (fun i : Nat => i ≤ t.root.length ∧ (t.root.take i).all Iv.ok = true) (fun i : Nat => t.root.length - i) 0 rfl ?_ ?_ ?_
  · exact ⟨by simp, by simp⟩
  · refine ⟨rfl, ?_, ?_, ?_, ?_⟩ <;> simp [add_add]
  rintro i ⟨hi, hall⟩ I hI0
  have w : IntKind.i64.wrap ((i : Int) + 1) = (i : Int) + 1 := wrapIn (by omega) (by omega)
  refine Tr.seq ?_
  refine Tr.seq (Tr.regionK fun K hK => ?_)
  simp (maxSteps := 1000000) [add_add]
  refine hK _ ?_; clear hK K
  refine Tr.cond rfl rfl (fun hq0 => ?_) (fun hq0 => ?_)
  · simp at hq0
    obtain ⟨x, hx, hx'⟩ : ∃ x, t.root[i]? = some x ∧ t.root[i] = x := ⟨t.root[i], List.getElem?_eq_getElem hq0, rfl⟩
    refine Tr.skip ?_
    refine Tr.seq ?_
    refine Tr.block ?_
    rcases Bool.eq_false_or_eq_true (x.ok) with s7_0 | s7_0
    · have s7_0' := s7_0
      refine Tr.seq (Tr.regionK fun K hK => ?_)
      simp (maxSteps := 1000000) [add_add, hx', hq0]
      refine .inl ⟨_, pcall_refValid x, rfl, ?_⟩
      simp (maxSteps := 1000000) [add_add, s7_0]
      refine hK _ ?_; clear hK K
      refine Tr.cond rfl rfl (fun hq6 => by first | (cases hq6; done) | (simp at hq6; done) | (simp_all; done)) (fun hq6 => ?_)
      refine Tr.skip ?_
      refine Tr.regionK fun K hK => ?_
      simp (maxSteps := 1000000) [add_add, w]
      refine hK _ ?_; clear hK K
      refine hI0 _ _ (i + 1) (⟨hq0, all_take hall hx s7_0⟩) (by first | (show _ < _; omega) | (simp; omega)) ⟨rfl, ?_, ?_, ?_, ?_⟩ <;> simp [add_add]
    have hbx : boxOk t.root = false := all_false hx s7_0
    have hf : boxesT t = none := boxesT_bad (by unfold treeOk; unfold rootOk; simp [hbx])
    refine Tr.seq (Tr.regionK fun K hK => ?_)
    simp (maxSteps := 1000000) [add_add, hx', hq0]
    refine .inl ⟨_, pcall_refValid x, rfl, ?_⟩
    simp (maxSteps := 1000000) [add_add, s7_0]
    refine hK _ ?_; clear hK K
    refine Tr.cond rfl rfl (fun hq7 => ?_) (fun hq7 => by first | (cases hq7; done) | (simp at hq7; done) | (simp_all; done))
    refine Tr.seq (Tr.regionK fun K hK => ?_)
    simp (maxSteps := 1000000) [add_add]
    refine hK _ ?_; clear hK K
    refine Tr.ret ⟨.inr rfl, ?_, ?_, ?_, ?_⟩ <;> simp [Try.f25, hf, boxesP]
  simp at hq0
  refine Tr.exit (exit_s (exit_s (exit_b ?_)))
  have hbx : boxOk t.root = true := all_done hall (by omega)
  have htk : treeOk t = true := treeOk_iff.2 ⟨⟨List.length_pos_iff.1 (by omega), by omega, hbx⟩, List.length_pos_iff.1 hn0, by omega⟩
  have hr0 : t.root.length ≠ 0 := by omega
  refine Tr.seq (Tr.regionK fun K hK => ?_)
  simp (maxSteps := 1000000) [add_add]
  repeat (first | refine ⟨by omega, ?_⟩ | refine ⟨⟨by omega, by omega⟩, ?_⟩ | refine ⟨rfl, ?_⟩)
  refine hK _ ?_; clear hK K
  refine Tr.seq (Tr.regionK fun K hK => ?_)
  simp (maxSteps := 1000000) [add_add, hn0]
  refine hK _ ?_; clear hK K
  refine Tr.seq ?_
  refine Tr.seq (Tr.regionK fun K hK => ?_)
  simp (maxSteps := 1000000) [add_add]
  refine hK _ ?_; clear hK K
  refine Tr.block ?_
  refine Tr.loopP [] [.slot 1, .slot 6] [.slot 1, .slot 6] (fun i : Nat => ([(1, .ptr nid 0 0), (4, .i t.cells.length), (6, .own (nid + 1) 1 0 t.cells.length), (7, .i i)],
  [(nid, ⟨25, 2, [[.d (.imm (ivs t.root)), .d (.imm (cels t.cells))]]⟩), (nid + 1, ⟨22, 1, upm obD (bs t i)⟩)])) (fun i : Nat => i ≤ t.cells.length ∧ bst t i = some (bs t i)) (fun i : Nat => t.cells.length - i) 0 rfl ?_ ?_ ?_
  · exact ⟨Nat.zero_le _, rfl⟩
  · refine ⟨rfl, ?_, ?_, ?_, ?_⟩ <;> simp [add_add, ob_zero, show bs t 0 = (List.replicate t.cells.length none).set 0 (some t.root) from rfl]
  rintro i ⟨hi, hb⟩ I hI2
  have w : IntKind.i64.wrap ((i : Int) + 1) = (i : Int) + 1 := wrapIn (by omega) (by omega)
  obtain ⟨outs, hbs⟩ : ∃ o, bs t i = o := ⟨_, rfl⟩
  rw [hbs] at hb
  obtain ⟨hlen, hbl, _⟩ := bst_inv hb hi
  refine Tr.seq ?_
  refine Tr.seq (Tr.regionK fun K hK => ?_)
  simp (maxSteps := 1000000) [add_add, hbs]
  refine hK _ ?_; clear hK K
  refine Tr.cond rfl rfl (fun hq => ?_) (fun hq => ?_)
  · simp at hq
    obtain ⟨c, hc, hc'⟩ : ∃ c, t.cells[i]? = some c ∧ t.cells[i] = c := ⟨t.cells[i], List.getElem?_eq_getElem hq, rfl⟩
    obtain ⟨o, ho, ho'⟩ : ∃ o, outs[i]? = some o ∧ outs[i]'(by omega) = o := ⟨_, List.getElem?_eq_getElem _, rfl⟩
    refine Tr.skip ?_
    refine Tr.seq ?_
    refine Tr.block ?_
    refine Tr.seq ?_
    rcases Bool.eq_false_or_eq_true (o.isNone) with s14_0 | s14_0
    · have s14_0' := s14_0
      obtain rfl := Option.isNone_iff_eq_none.1 s14_0
      have hrd := ob_none ho
      have hnl : True := trivial
      have hf : boxesT t = none := boxesT_none (i := i + 1) hq (by rw [bst_succ hb hc]; unfold bstep; rw [ho]; skip)
      refine Tr.seq (Tr.regionK fun K hK => ?_)
      simp (maxSteps := 1000000) [add_add, hlen, hq, hrd]
      refine hK _ ?_; clear hK K
      refine Tr.cond rfl rfl (fun hq9 => ?_) (fun hq9 => by first | (cases hq9; done) | (simp at hq9; done) | (simp_all; done))
      refine Tr.seq (Tr.regionK fun K hK => ?_)
      simp (maxSteps := 1000000) [add_add]
      refine hK _ ?_; clear hK K
      refine Tr.ret ⟨.inr rfl, ?_, ?_, ?_, ?_⟩ <;> simp [Try.f25, hf, boxesP]
    obtain ⟨b, rfl⟩ : ∃ b, o = some b := by cases o with | none => simp at s14_0 | some b => exact ⟨b, rfl⟩
    have hrd := ob_some ho
    have hbn := hbl b (List.mem_of_getElem? ho)
    have hnl := pos_ne hbn hr0
    refine Tr.seq (Tr.regionK fun K hK => ?_)
    simp (maxSteps := 1000000) [add_add, hlen, hq, hrd, hnl]
    refine hK _ ?_; clear hK K
    refine Tr.cond rfl rfl (fun hq10 => by first | (cases hq10; done) | (simp at hq10; done) | (simp_all; done)) (fun hq10 => ?_)
    refine Tr.skip ?_
    refine Tr.seq (Tr.regionK fun K hK => ?_)
    simp (maxSteps := 1000000) [add_add, hc', hq]
    refine hK _ ?_; clear hK K
    refine Tr.seq ?_
    rcases Bool.eq_false_or_eq_true (c.leaf) with s17_0 | s17_0
    · have s17_0' := s17_0
      have hlf := s17_0
      refine Tr.seq (Tr.regionK fun K hK => ?_)
      simp (maxSteps := 1000000) [add_add]
      refine .inl ⟨_, pcall_refLeaf c, rfl, ?_⟩
      simp (maxSteps := 1000000) [add_add, s17_0]
      refine hK _ ?_; clear hK K
      refine Tr.cond rfl rfl (fun hq11 => ?_) (fun hq11 => by first | (cases hq11; done) | (simp at hq11; done) | (simp_all; done))
      refine Tr.seq ?_
      rcases Bool.eq_false_or_eq_true (c.v.inForm) with s18_0 | s18_0
      · have s18_0' := s18_0
        have hb1 : bst t (i + 1) = some outs := by rw [bst_succ hb hc]; unfold bstep; rw [ho]; simp [hlf, s18_0]
        have hbs1 : bs t (i + 1) = outs := by unfold bs; rw [hb1]; rfl
        refine Tr.seq (Tr.regionK fun K hK => ?_)
        simp (maxSteps := 1000000) [add_add]
        refine .inl ⟨_, pcall_refInForm c.v, rfl, ?_⟩
        simp (maxSteps := 1000000) [add_add, s18_0]
        refine hK _ ?_; clear hK K
        refine Tr.cond rfl rfl (fun hq12 => by first | (cases hq12; done) | (simp at hq12; done) | (simp_all; done)) (fun hq12 => ?_)
        refine Tr.skip ?_
        refine Tr.exit (exit_s (exit_b ?_))
        refine Tr.regionK fun K hK => ?_
        simp (maxSteps := 1000000) [add_add, w]
        refine hK _ ?_; clear hK K
        refine hI2 _ _ (i + 1) (⟨hq, by rw [hbs1]; exact hb1⟩) (by first | (show _ < _; omega) | (simp; omega)) ⟨rfl, ?_, ?_, ?_, ?_⟩ <;> simp [add_add, hbs1]
      have hf : boxesT t = none := boxesT_none (i := i + 1) hq (by rw [bst_succ hb hc]; unfold bstep; rw [ho]; simp [hlf, s18_0])
      refine Tr.seq (Tr.regionK fun K hK => ?_)
      simp (maxSteps := 1000000) [add_add]
      refine .inl ⟨_, pcall_refInForm c.v, rfl, ?_⟩
      simp (maxSteps := 1000000) [add_add, s18_0]
      refine hK _ ?_; clear hK K
      refine Tr.cond rfl rfl (fun hq13 => ?_) (fun hq13 => by first | (cases hq13; done) | (simp at hq13; done) | (simp_all; done))
      refine Tr.seq (Tr.regionK fun K hK => ?_)
      simp (maxSteps := 1000000) [add_add]
      refine hK _ ?_; clear hK K
      refine Tr.ret ⟨.inr rfl, ?_, ?_, ?_, ?_⟩ <;> simp [Try.f25, hf, boxesP]
    have hlf := s17_0
    refine Tr.seq (Tr.regionK fun K hK => ?_)
    simp (maxSteps := 1000000) [add_add]
    refine .inl ⟨_, pcall_refLeaf c, rfl, ?_⟩
    simp (maxSteps := 1000000) [add_add, s17_0]
    refine hK _ ?_; clear hK K
    refine Tr.cond rfl rfl (fun hq14 => by first | (cases hq14; done) | (simp at hq14; done) | (simp_all; done)) (fun hq14 => ?_)
    refine Tr.skip ?_
    refine Tr.seq ?_
    rcases Bool.eq_false_or_eq_true ((!c.v.zero)) with s20_0 | s20_0
    · have s20_0' := s20_0
      have hx1 : True := trivial
      have hx2 : True := trivial
      have hf : boxesT t = none := boxesT_none (i := i + 1) hq (by rw [bst_succ hb hc]; unfold bstep; rw [ho]; simp only [Bool.not_eq_true'] at s20_0; simp [hlf, s20_0])
      refine Tr.seq (Tr.regionK fun K hK => ?_)
      simp (maxSteps := 1000000) [add_add]
      refine .inl ⟨_, pcall_zero c.v, rfl, ?_⟩
      simp (maxSteps := 1000000) [add_add, s20_0]
      refine hK _ ?_; clear hK K
      refine Tr.cond rfl rfl (fun hq15 => ?_) (fun hq15 => by first | (cases hq15; done) | (simp at hq15; done) | (simp_all; done))
      refine Tr.seq (Tr.regionK fun K hK => ?_)
      simp (maxSteps := 1000000) [add_add]
      refine hK _ ?_; clear hK K
      refine Tr.ret ⟨.inr rfl, ?_, ?_, ?_, ?_⟩ <;> simp [Try.f25, hf, boxesP]
    by_cases s20_1 : c.j < 0
    · have s20_1' := s20_1
      have hx1 : True := trivial
      have hx2 : True := trivial
      have hf : boxesT t = none := boxesT_none (i := i + 1) hq (by rw [bst_succ hb hc]; unfold bstep; rw [ho]; simp [hlf, halve_neg (b := b) (show ¬ 0 ≤ c.j from by omega)])
      refine Tr.seq (Tr.regionK fun K hK => ?_)
      simp (maxSteps := 1000000) [add_add]
      refine .inl ⟨_, pcall_zero c.v, rfl, ?_⟩
      simp (maxSteps := 1000000) [add_add, s20_0, s20_1]
      refine hK _ ?_; clear hK K
      refine Tr.cond rfl rfl (fun hq16 => ?_) (fun hq16 => by first | (cases hq16; done) | (simp at hq16; done) | (simp_all; done))
      refine Tr.seq (Tr.regionK fun K hK => ?_)
      simp (maxSteps := 1000000) [add_add]
      refine hK _ ?_; clear hK K
      refine Tr.ret ⟨.inr rfl, ?_, ?_, ?_, ?_⟩ <;> simp [Try.f25, hf, boxesP]
    by_cases s20_2 : (t.root.length : Int) ≤ c.j
    · have s20_2' := s20_2
      have hx1 : True := trivial
      have hx2 : True := trivial
      have hf : boxesT t = none := boxesT_none (i := i + 1) hq (by rw [bst_succ hb hc]; unfold bstep; rw [ho]; simp [hlf, halve_big (b := b) (j := c.j) (by rw [hbn]; exact s20_2)])
      refine Tr.seq (Tr.regionK fun K hK => ?_)
      simp (maxSteps := 1000000) [add_add]
      refine .inl ⟨_, pcall_zero c.v, rfl, ?_⟩
      simp (maxSteps := 1000000) [add_add, s20_0, s20_1, s20_2]
      refine hK _ ?_; clear hK K
      refine Tr.cond rfl rfl (fun hq17 => ?_) (fun hq17 => by first | (cases hq17; done) | (simp at hq17; done) | (simp_all; done))
      refine Tr.seq (Tr.regionK fun K hK => ?_)
      simp (maxSteps := 1000000) [add_add]
      refine hK _ ?_; clear hK K
      refine Tr.ret ⟨.inr rfl, ?_, ?_, ?_, ?_⟩ <;> simp [Try.f25, hf, boxesP]
    by_cases s20_3 : c.lo ≤ i
    · have s20_3' := s20_3
      have hx1 : True := trivial
      have hx2 : True := trivial
      have hf : boxesT t = none := boxesT_none (i := i + 1) hq (by rw [bst_succ hb hc]; unfold bstep; rw [ho]; simp [hlf, show ¬ ((i : Int) < c.lo) from by omega])
      refine Tr.seq (Tr.regionK fun K hK => ?_)
      simp (maxSteps := 1000000) [add_add]
      refine .inl ⟨_, pcall_zero c.v, rfl, ?_⟩
      simp (maxSteps := 1000000) [add_add, s20_0, s20_1, s20_2, s20_3]
      refine hK _ ?_; clear hK K
      refine Tr.cond rfl rfl (fun hq18 => ?_) (fun hq18 => by first | (cases hq18; done) | (simp at hq18; done) | (simp_all; done))
      refine Tr.seq (Tr.regionK fun K hK => ?_)
      simp (maxSteps := 1000000) [add_add]
      refine hK _ ?_; clear hK K
      refine Tr.ret ⟨.inr rfl, ?_, ?_, ?_, ?_⟩ <;> simp [Try.f25, hf, boxesP]
    by_cases s20_4 : (t.cells.length : Int) ≤ c.lo
    · have s20_4' := s20_4
      have hx1 : True := trivial
      have hx2 : True := trivial
      have hf : boxesT t = none := boxesT_none (i := i + 1) hq (by rw [bst_succ hb hc]; unfold bstep; rw [ho]; simp [hlf, show ¬ (c.lo < (t.cells.length : Int)) from by omega])
      refine Tr.seq (Tr.regionK fun K hK => ?_)
      simp (maxSteps := 1000000) [add_add]
      refine .inl ⟨_, pcall_zero c.v, rfl, ?_⟩
      simp (maxSteps := 1000000) [add_add, s20_0, s20_1, s20_2, s20_3, s20_4]
      refine hK _ ?_; clear hK K
      refine Tr.cond rfl rfl (fun hq19 => ?_) (fun hq19 => by first | (cases hq19; done) | (simp at hq19; done) | (simp_all; done))
      refine Tr.seq (Tr.regionK fun K hK => ?_)
      simp (maxSteps := 1000000) [add_add]
      refine hK _ ?_; clear hK K
      refine Tr.ret ⟨.inr rfl, ?_, ?_, ?_, ?_⟩ <;> simp [Try.f25, hf, boxesP]
    by_cases s20_5 : c.hi ≤ i
    · have s20_5' := s20_5
      have hx1 : True := trivial
      have hx2 : True := trivial
      have hf : boxesT t = none := boxesT_none (i := i + 1) hq (by rw [bst_succ hb hc]; unfold bstep; rw [ho]; simp [hlf, show ¬ ((i : Int) < c.hi) from by omega])
      refine Tr.seq (Tr.regionK fun K hK => ?_)
      simp (maxSteps := 1000000) [add_add]
      refine .inl ⟨_, pcall_zero c.v, rfl, ?_⟩
      simp (maxSteps := 1000000) [add_add, s20_0, s20_1, s20_2, s20_3, s20_4, s20_5]
      refine hK _ ?_; clear hK K
      refine Tr.cond rfl rfl (fun hq20 => ?_) (fun hq20 => by first | (cases hq20; done) | (simp at hq20; done) | (simp_all; done))
      refine Tr.seq (Tr.regionK fun K hK => ?_)
      simp (maxSteps := 1000000) [add_add]
      refine hK _ ?_; clear hK K
      refine Tr.ret ⟨.inr rfl, ?_, ?_, ?_, ?_⟩ <;> simp [Try.f25, hf, boxesP]
    by_cases s20_6 : (t.cells.length : Int) ≤ c.hi
    · have s20_6' := s20_6
      have hx1 : True := trivial
      have hx2 : True := trivial
      have hf : boxesT t = none := boxesT_none (i := i + 1) hq (by rw [bst_succ hb hc]; unfold bstep; rw [ho]; simp [hlf, show ¬ (c.hi < (t.cells.length : Int)) from by omega])
      refine Tr.seq (Tr.regionK fun K hK => ?_)
      simp (maxSteps := 1000000) [add_add]
      refine .inl ⟨_, pcall_zero c.v, rfl, ?_⟩
      simp (maxSteps := 1000000) [add_add, s20_0, s20_1, s20_2, s20_3, s20_4, s20_5, s20_6]
      refine hK _ ?_; clear hK K
      refine Tr.cond rfl rfl (fun hq21 => ?_) (fun hq21 => by first | (cases hq21; done) | (simp at hq21; done) | (simp_all; done))
      refine Tr.seq (Tr.regionK fun K hK => ?_)
      simp (maxSteps := 1000000) [add_add]
      refine hK _ ?_; clear hK K
      refine Tr.ret ⟨.inr rfl, ?_, ?_, ?_, ?_⟩ <;> simp [Try.f25, hf, boxesP]
    have hp0 : 0 ≤ c.lo := by omega
    have hp1 : ¬ c.lo < 0 := by omega
    have hp2 : c.lo.toNat < t.cells.length := by omega
    have hq00 : 0 ≤ c.hi := by omega
    have hq1 : ¬ c.hi < 0 := by omega
    have hq2 : c.hi.toNat < t.cells.length := by omega
    obtain ⟨ol, hol, hol'⟩ : ∃ o, outs[c.lo.toNat]? = some o ∧ outs[c.lo.toNat]'(by omega) = o := ⟨_, List.getElem?_eq_getElem _, rfl⟩
    obtain ⟨oh, hoh, hoh'⟩ : ∃ o, outs[c.hi.toNat]? = some o ∧ outs[c.hi.toNat]'(by omega) = o := ⟨_, List.getElem?_eq_getElem _, rfl⟩
    by_cases s20_7 : c.lo = c.hi
    · have s20_7' := s20_7
      have hx1 : True := trivial
      have hx2 : True := trivial
      have hf : boxesT t = none := boxesT_none (i := i + 1) hq (by rw [bst_succ hb hc]; unfold bstep; rw [ho]; simp [hlf, s20_7])
      refine Tr.seq (Tr.regionK fun K hK => ?_)
      simp (maxSteps := 1000000) [add_add, s20_7]
      refine .inl ⟨_, pcall_zero c.v, rfl, ?_⟩
      simp (maxSteps := 1000000) [add_add, s20_0, s20_1, s20_2, s20_5, s20_6]
      refine hK _ ?_; clear hK K
      refine Tr.cond rfl rfl (fun hq22 => ?_) (fun hq22 => by first | (cases hq22; done) | (simp at hq22; done) | (simp_all; done))
      refine Tr.seq (Tr.regionK fun K hK => ?_)
      simp (maxSteps := 1000000) [add_add]
      refine hK _ ?_; clear hK K
      refine Tr.ret ⟨.inr rfl, ?_, ?_, ?_, ?_⟩ <;> simp [Try.f25, hf, boxesP]
    rcases Bool.eq_false_or_eq_true (ol.isSome) with s20_8 | s20_8
    · have s20_8' := s20_8
      obtain ⟨b2, rfl⟩ := Option.isSome_iff_exists.1 s20_8
      have hx1 := ob_some hol
      have hx2 : 0 < b2.length := List.length_pos_iff.2 (pos_ne (hbl b2 (List.mem_of_getElem? hol)) hr0)
      have hf : boxesT t = none := boxesT_none (i := i + 1) hq (by rw [bst_succ hb hc]; unfold bstep; rw [ho]; simp [hlf, hol])
      refine Tr.seq (Tr.regionK fun K hK => ?_)
      simp (maxSteps := 1000000) [add_add]
      refine .inl ⟨_, pcall_zero c.v, rfl, ?_⟩
      simp (maxSteps := 1000000) [add_add, hlen, s20_0, s20_1, s20_2, s20_3, s20_4, s20_5, s20_6, hp0, hp2, s20_7, hx1, hx2]
      repeat (first | refine ⟨by omega, ?_⟩ | refine ⟨⟨by omega, by omega⟩, ?_⟩ | refine ⟨rfl, ?_⟩)
      refine hK _ ?_; clear hK K
      refine Tr.cond rfl rfl (fun hq23 => ?_) (fun hq23 => by first | (cases hq23; done) | (simp at hq23; done) | (simp_all; done))
      refine Tr.seq (Tr.regionK fun K hK => ?_)
      simp (maxSteps := 1000000) [add_add]
      refine hK _ ?_; clear hK K
      refine Tr.ret ⟨.inr rfl, ?_, ?_, ?_, ?_⟩ <;> simp [Try.f25, hf, boxesP]
    obtain rfl : ol = none := by simpa using s20_8
    have hol1 := ob_none hol
    rcases Bool.eq_false_or_eq_true (oh.isSome) with s20_9 | s20_9
    · have s20_9' := s20_9
      obtain ⟨b2, rfl⟩ := Option.isSome_iff_exists.1 s20_9
      have hx1 := ob_some hoh
      have hx2 : 0 < b2.length := List.length_pos_iff.2 (pos_ne (hbl b2 (List.mem_of_getElem? hoh)) hr0)
      have hf : boxesT t = none := boxesT_none (i := i + 1) hq (by rw [bst_succ hb hc]; unfold bstep; rw [ho]; simp [hlf, hoh])
      refine Tr.seq (Tr.regionK fun K hK => ?_)
      simp (maxSteps := 1000000) [add_add]
      refine .inl ⟨_, pcall_zero c.v, rfl, ?_⟩
      simp (maxSteps := 1000000) [add_add, hlen, s20_0, s20_1, s20_2, s20_3, s20_4, s20_5, s20_6, hp0, hp2, hq00, hq2, s20_7, hol1, hx1, hx2]
      repeat (first | refine ⟨by omega, ?_⟩ | refine ⟨⟨by omega, by omega⟩, ?_⟩ | refine ⟨rfl, ?_⟩)
      refine hK _ ?_; clear hK K
      refine Tr.cond rfl rfl (fun hq24 => ?_) (fun hq24 => by first | (cases hq24; done) | (simp at hq24; done) | (simp_all; done))
      refine Tr.seq (Tr.regionK fun K hK => ?_)
      simp (maxSteps := 1000000) [add_add]
      refine hK _ ?_; clear hK K
      refine Tr.ret ⟨.inr rfl, ?_, ?_, ?_, ?_⟩ <;> simp [Try.f25, hf, boxesP]
    obtain rfl : oh = none := by simpa using s20_9
    have hoh1 := ob_none hoh
    have hx1 : True := trivial
    have hx2 : True := trivial
    refine Tr.seq (Tr.regionK fun K hK => ?_)
    simp (maxSteps := 1000000) [add_add]
    refine .inl ⟨_, pcall_zero c.v, rfl, ?_⟩
    simp (maxSteps := 1000000) [add_add, hlen, s20_0, s20_1, s20_2, s20_3, s20_4, s20_5, s20_6, hp0, hp2, hq00, hq2, s20_7, hol1, hoh1]
    repeat (first | refine ⟨by omega, ?_⟩ | refine ⟨⟨by omega, by omega⟩, ?_⟩ | refine ⟨rfl, ?_⟩)
    refine hK _ ?_; clear hK K
    refine Tr.cond rfl rfl (fun hq25 => by first | (cases hq25; done) | (simp at hq25; done) | (simp_all; done)) (fun hq25 => ?_)
    refine Tr.skip ?_
    rcases Bool.eq_false_or_eq_true ((halve b c.j).isSome) with s22_0 | s22_0
    · have s22_0' := s22_0
      obtain ⟨⟨l, h⟩, hh⟩ := Option.isSome_iff_exists.1 s22_0
      have hz : c.v.zero = true := by simpa using s20_0
      have hb1 : bst t (i + 1) = some ((outs.set c.lo.toNat (some l)).set c.hi.toNat (some h)) := by rw [bst_succ hb hc]; unfold bstep; rw [ho]; simp [hlf, hz, hh, hol, hoh, s20_7]; omega
      have hbs1 : bs t (i + 1) = (outs.set c.lo.toNat (some l)).set c.hi.toNat (some h) := by unfold bs; rw [hb1]; rfl
      refine Tr.seq (Tr.regionE mixed (by kernel_rfl) fun K hK => ?_)
      simp (maxSteps := 1000000) [add_add, hlen, hq, hrd]
      refine .inl ⟨_, pcall_refHalve b c.j (by omega), rfl, ?_⟩
      simp (maxSteps := 1000000) [hh, halveP]
      refine hK _ ?_; clear hK K
      refine Tr.seq ?_
      refine Tr.seq (Tr.regionK fun K hK => ?_)
      simp (maxSteps := 1000000) [add_add]
      refine hK _ ?_; clear hK K
      refine Tr.cond rfl rfl (fun hq26 => by first | (cases hq26; done) | (simp at hq26; done) | (simp_all; done)) (fun hq26 => ?_)
      refine Tr.skip ?_
      refine Tr.regionE mixed (by kernel_rfl) fun K hK => ?_
      simp (maxSteps := 1000000) [add_add, Region.binds, hlen, hp0, hp2, hq00, hq2, hol1, ob_set, ob_tail]
      repeat (first | refine ⟨by omega, ?_⟩ | refine ⟨⟨by omega, by omega⟩, ?_⟩ | refine ⟨rfl, ?_⟩)
      refine hK _ ?_; clear hK K
      refine Tr.regionK fun K hK => ?_
      simp (maxSteps := 1000000) [add_add, w]
      refine hK _ ?_; clear hK K
      refine hI2 _ _ (i + 1) (⟨hq, by rw [hbs1]; exact hb1⟩) (by first | (show _ < _; omega) | (simp; omega)) ⟨rfl, ?_, ?_, ?_, ?_⟩ <;> simp [add_add, hbs1]
    have hh : halve b c.j = none := by simpa using s22_0
    have hf : boxesT t = none := boxesT_none (i := i + 1) hq (by rw [bst_succ hb hc]; unfold bstep; rw [ho]; simp [hlf, hh])
    refine Tr.seq (Tr.regionE mixed (by kernel_rfl) fun K hK => ?_)
    simp (maxSteps := 1000000) [add_add, hlen, hq, hrd]
    refine .inl ⟨_, pcall_refHalve b c.j (by omega), rfl, ?_⟩
    simp (maxSteps := 1000000) [hh, halveP]
    refine hK _ ?_; clear hK K
    refine Tr.seq ?_
    refine Tr.seq (Tr.regionK fun K hK => ?_)
    simp (maxSteps := 1000000) [add_add]
    refine hK _ ?_; clear hK K
    refine Tr.cond rfl rfl (fun hq27 => ?_) (fun hq27 => by first | (cases hq27; done) | (simp at hq27; done) | (simp_all; done))
    refine Tr.seq (Tr.regionK fun K hK => ?_)
    simp (maxSteps := 1000000) [add_add]
    refine hK _ ?_; clear hK K
    refine Tr.ret ⟨.inr rfl, ?_, ?_, ?_, ?_⟩ <;> simp [Try.f25, hf, boxesP]
  simp at hq
  refine Tr.exit (exit_s (exit_s (exit_b ?_)))
  have hin : i = t.cells.length := by omega
  subst hin
  obtain ⟨l, hf, hl⟩ := boxesT_some htk hb
  have hln : t.cells.length = l.length := by rw [← hlen, hl]; simp
  refine Tr.freezeM (nid + 1) boxD l [(6, .d (.imm (boxs l)))] [] (ty := 22) (sz := 1) ?_ ?_ ?_ ?_ ?_
  · simp [hl, ob_map]
  · simp
  · simp [hln]
  · simp
  refine Tr.seq (Tr.regionK fun K hK => ?_)
  simp (maxSteps := 1000000) [add_add]
  refine hK _ ?_; clear hK K
  refine Tr.ret ⟨.inr rfl, ?_, ?_, ?_, ?_⟩ <;> simp [Try.f25, hf, boxesP]
set_option maxRecDepth 8000 in
set_option maxHeartbeats 4000000 in
theorem pcall_refValidTree (t : Tree) (hr : t.root.length ≤ 1048576) :
    PCall Try.prog 106 [treeP t] (.b (boxesT t).isSome) := by
  refine walk Try.func106 (by kernel_rfl) rfl 11 rfl (Nat.le_of_ble_eq_true rfl) fun nid _ => ?_
  refine Tr.seq (Tr.regionK fun K hK => ?_)
  simp (maxSteps := 1000000) [add_add]
  refine hK _ ?_; clear hK K
  rcases Bool.eq_false_or_eq_true ((boxesT t).isSome) with s1_0 | s1_0
  · have s1_0' := s1_0
    obtain ⟨l, hh⟩ := Option.isSome_iff_exists.1 s1_0
    refine Tr.seq (Tr.regionK fun K hK => ?_)
    simp (maxSteps := 1000000) [add_add]
    refine .inl ⟨_, pcall_refBoxes t hr, rfl, ?_⟩
    simp (maxSteps := 1000000) [add_add, hh, boxesP]
    refine hK _ ?_; clear hK K
    refine Tr.seq (Tr.regionK fun K hK => ?_)
    simp (maxSteps := 1000000) [add_add]
    refine hK _ ?_; clear hK K
    refine Tr.ret ⟨.inr rfl, ?_, ?_, ?_, ?_⟩ <;> simp [Try.f106, hh]
  have hh : boxesT t = none := by simpa using s1_0
  refine Tr.seq (Tr.regionK fun K hK => ?_)
  simp (maxSteps := 1000000) [add_add]
  refine .inl ⟨_, pcall_refBoxes t hr, rfl, ?_⟩
  simp (maxSteps := 1000000) [add_add, hh, boxesP]
  refine hK _ ?_; clear hK K
  refine Tr.seq (Tr.regionK fun K hK => ?_)
  simp (maxSteps := 1000000) [add_add]
  refine hK _ ?_; clear hK K
  refine Tr.ret ⟨.inr rfl, ?_, ?_, ?_, ?_⟩ <;> simp [Try.f106, hh]
set_option maxRecDepth 8000 in
set_option maxHeartbeats 4000000 in
theorem pcall_ctValid (t : Tree) (hr : t.root.length ≤ 1048576) :
    PCall Try.prog 58 [treeP t] (.b (boxesT t).isSome) := by
  refine walk Try.func58 (by kernel_rfl) rfl 11 rfl (Nat.le_of_ble_eq_true rfl) fun nid _ => ?_
  refine Tr.seq (Tr.regionK fun K hK => ?_)
  simp (maxSteps := 1000000) [add_add]
  refine hK _ ?_; clear hK K
  rcases Bool.eq_false_or_eq_true ((boxesT t).isSome) with s1_0 | s1_0
  · have s1_0' := s1_0
    obtain ⟨l, hh⟩ := Option.isSome_iff_exists.1 s1_0
    refine Tr.seq (Tr.regionK fun K hK => ?_)
    simp (maxSteps := 1000000) [add_add]
    refine .inl ⟨_, pcall_ctBoxes t hr, rfl, ?_⟩
    simp (maxSteps := 1000000) [add_add, hh, boxesP]
    refine hK _ ?_; clear hK K
    refine Tr.seq (Tr.regionK fun K hK => ?_)
    simp (maxSteps := 1000000) [add_add]
    refine hK _ ?_; clear hK K
    refine Tr.ret ⟨.inr rfl, ?_, ?_, ?_, ?_⟩ <;> simp [Try.f58, hh]
  have hh : boxesT t = none := by simpa using s1_0
  refine Tr.seq (Tr.regionK fun K hK => ?_)
  simp (maxSteps := 1000000) [add_add]
  refine .inl ⟨_, pcall_ctBoxes t hr, rfl, ?_⟩
  simp (maxSteps := 1000000) [add_add, hh, boxesP]
  refine hK _ ?_; clear hK K
  refine Tr.seq (Tr.regionK fun K hK => ?_)
  simp (maxSteps := 1000000) [add_add]
  refine hK _ ?_; clear hK K
  refine Tr.ret ⟨.inr rfl, ?_, ?_, ?_, ?_⟩ <;> simp [Try.f58, hh]
end Go.Proofs.Ytmljpbhmdjpbaaa
namespace Go.Proofs.Ytmljpbhmdjpbaaa
set_option linter.unusedVariables false
set_option linter.unusedSimpArgs false
open Go.PM

def leafAt (t : Tree) (i : Nat) : Bool := match t.cells[i]? with
  | some c => c.leaf
  | none => false
def lvs (t : Tree) : Nat → List Int
  | 0 => []
  | i + 1 => lvs t i ++ (if leafAt t i = true then [(i : Int)] else [])
def leavesP (t : Tree) : PV := if (boxesT t).isSome = true then .d (.imm (ints (lvs t t.cells.length))) else nilP
def boxOf (t : Tree) (i : Int) : Option (List Iv) := (boxesT t).bind fun l => if i < 0 then none else l[i.toNat]?
def boxOfP : Option (List Iv) → PV
  | none => .tup [nilP, .b false]
  | some b => .tup [.d (.imm (ivs b)), .b true]
theorem leafAt_eq {t : Tree} {i : Nat} {c : Cel} (h : t.cells[i]? = some c) : leafAt t i = c.leaf := by unfold leafAt; rw [h]
theorem boxesT_length {t : Tree} {l : List (List Iv)} (h : boxesT t = some l) : l.length = t.cells.length := by
  obtain ⟨h1, h2⟩ := boxesT_iff h
  have := (bst_inv h2 (Nat.le_refl _)).1
  simpa using this
theorem bx_at {l : List (List Iv)} {k : Nat} {b : List Iv} (h : l[k]? = some b) (hk : k < (boxs l).length) : (boxs l)[k]'hk = [.imm (ivs b)] := by
  have hk' : k < l.length := by simpa using hk
  simp only [List.getElem_map]
  rw [List.getElem?_eq_getElem hk'] at h
  rw [Option.some.inj h]
set_option maxRecDepth 8000 in
set_option maxHeartbeats 4000000 in
theorem pcall_cutBoxes (t : Tree) (l : List (List Iv)) (hl : boxesT t = some l) :
    PCall Try.prog 62 [treeP t] (.d (.imm (boxs l))) := by
  obtain ⟨htk, hbn⟩ := boxesT_iff hl
  obtain ⟨⟨hr0, hr1, _⟩, hn0, hn1⟩ := treeOk_iff.1 htk
  have hn2 : 0 < t.cells.length := List.length_pos_iff.2 hn0
  refine walk Try.func62 (by kernel_rfl) rfl 54 rfl (Nat.le_of_ble_eq_true rfl) fun nid _ => ?_
  refine Tr.seq (Tr.regionK fun K hK => ?_)
  simp (maxSteps := 1000000) [add_add]
  refine hK _ ?_; clear hK K
  refine Tr.seq (Tr.regionK fun K hK => ?_)
  simp (maxSteps := 1000000) [add_add]
  repeat (first | refine ⟨by omega, ?_⟩ | refine ⟨⟨by omega, by omega⟩, ?_⟩ | refine ⟨rfl, ?_⟩)
  refine hK _ ?_; clear hK K
  refine Tr.seq (Tr.regionK fun K hK => ?_)
  simp (maxSteps := 1000000) [add_add, hn2]
  refine hK _ ?_; clear hK K
  refine Tr.seq ?_
  refine Tr.seq (Tr.regionK fun K hK => ?_)
  simp (maxSteps := 1000000) [add_add]
  refine hK _ ?_; clear hK K
  refine Tr.block ?_
  refine Tr.loopP [] [.slot 1, .slot 3] [.slot 1, .slot 3] (fun i : Nat => ([(1, .ptr nid 0 0), (3, .own (nid + 1) 1 0 t.cells.length), (18, .d (.imm (cels t.cells))), (19, .i t.cells.length), (20, .i i)],
  [(nid, ⟨25, 2, [[.d (.imm (ivs t.root)), .d (.imm (cels t.cells))]]⟩), (nid + 1, ⟨22, 1, upm obD (bs t i)⟩)])) (fun i : Nat => i ≤ t.cells.length ∧ bst t i = some (bs t i)) (fun i : Nat => t.cells.length - i) 0 rfl ?_ ?_ ?_
  · exact ⟨Nat.zero_le _, rfl⟩
  · refine ⟨rfl, ?_, ?_, ?_, ?_⟩ <;> simp [add_add, ob_zero, show bs t 0 = (List.replicate t.cells.length none).set 0 (some t.root) from rfl]
  rintro i ⟨hi, hb⟩ I hI0
  have w : IntKind.i64.wrap ((i : Int) + 1) = (i : Int) + 1 := wrapIn (by omega) (by omega)
  obtain ⟨outs, hbs⟩ : ∃ o, bs t i = o := ⟨_, rfl⟩
  rw [hbs] at hb
  obtain ⟨hlen, hbl, _⟩ := bst_inv hb hi
  refine Tr.seq (Tr.regionK fun K hK => ?_)
  simp (maxSteps := 1000000) [add_add, hbs]
  refine hK _ ?_; clear hK K
  refine Tr.seq ?_
  refine Tr.cond rfl rfl (fun hq => ?_) (fun hq => ?_)
  · simp at hq
    obtain ⟨c, hc, hc'⟩ : ∃ c, t.cells[i]? = some c ∧ t.cells[i] = c := ⟨t.cells[i], List.getElem?_eq_getElem hq, rfl⟩
    obtain ⟨o1, hb1⟩ : ∃ o, bst t (i + 1) = some o := bst_pre hbn (by omega)
    have hbs1 : bs t (i + 1) = o1 := by unfold bs; rw [hb1]; rfl
    have hst := hb1
    rw [bst_succ hb hc] at hst
    obtain ⟨b, ho, hcs⟩ := bstep_cases hst
    have hrd := ob_some ho
    have hbb := hbl b (List.mem_of_getElem? ho)
    refine Tr.skip ?_
    refine Tr.seq ?_
    refine Tr.block ?_
    refine Tr.seq (Tr.regionK fun K hK => ?_)
    simp (maxSteps := 1000000) [add_add, hc', hq]
    refine hK _ ?_; clear hK K
    rcases Bool.eq_false_or_eq_true (c.leaf) with s6_0 | s6_0
    · have s6_0' := s6_0
      have hh := leaf_halve s6_0 b
      rcases hcs with ⟨_, _, ho1⟩ | ⟨hl', _⟩
      rotate_left
      · rw [s6_0] at hl'; cases hl'
      refine Tr.seq (Tr.regionE mixed (by kernel_rfl) fun K hK => ?_)
      simp (maxSteps := 1000000) [add_add, hlen, hq, hrd]
      refine .inl ⟨_, pcall_halve b c.j (by omega), rfl, ?_⟩
      simp (maxSteps := 1000000) [hh, halveP]
      refine hK _ ?_; clear hK K
      refine Tr.seq (Tr.regionK fun K hK => ?_)
      simp (maxSteps := 1000000) [add_add]
      refine hK _ ?_; clear hK K
      refine Tr.cond rfl rfl (fun hq1 => by first | (cases hq1; done) | (simp at hq1; done) | (simp_all; done)) (fun hq1 => ?_)
      refine Tr.skip ?_
      refine Tr.regionK fun K hK => ?_
      simp (maxSteps := 1000000) [add_add, w]
      refine hK _ ?_; clear hK K
      refine hI0 _ _ (i + 1) (⟨hq, by rw [hbs1]; exact hb1⟩) (by first | (show _ < _; omega) | (simp; omega)) ⟨rfl, ?_, ?_, ?_, ?_⟩ <;> simp [add_add, hbs1, ho1]
    rcases hcs with ⟨hl', _⟩ | ⟨_, _, c2, c3, c4, c5, c6, c7, c8, l1, h1, hh, ho1⟩
    · rw [s6_0] at hl'; cases hl'
    have hp0 : 0 ≤ c.lo := by omega
    have hp1 : ¬ c.lo < 0 := by omega
    have hp2 : c.lo.toNat < t.cells.length := by omega
    have hv0 : 0 ≤ c.hi := by omega
    have hv1 : ¬ c.hi < 0 := by omega
    have hv2 : c.hi.toNat < t.cells.length := by omega
    refine Tr.seq (Tr.regionE mixed (by kernel_rfl) fun K hK => ?_)
    simp (maxSteps := 1000000) [add_add, hlen, hq, hrd]
    refine .inl ⟨_, pcall_halve b c.j (by omega), rfl, ?_⟩
    simp (maxSteps := 1000000) [hh, halveP]
    refine hK _ ?_; clear hK K
    refine Tr.seq (Tr.regionK fun K hK => ?_)
    simp (maxSteps := 1000000) [add_add]
    refine hK _ ?_; clear hK K
    refine Tr.cond rfl rfl (fun hq2 => ?_) (fun hq2 => by first | (cases hq2; done) | (simp at hq2; done) | (simp_all; done))
    refine Tr.regionE mixed (by kernel_rfl) fun K hK => ?_
    simp (maxSteps := 1000000) [add_add, Region.binds, hlen, ob_set, ob_tail, hp0, hp2, hv0, hv2]
    repeat (first | refine ⟨by omega, ?_⟩ | refine ⟨⟨by omega, by omega⟩, ?_⟩ | refine ⟨rfl, ?_⟩)
    refine hK _ ?_; clear hK K
    refine Tr.regionK fun K hK => ?_
    simp (maxSteps := 1000000) [add_add, w]
    refine hK _ ?_; clear hK K
    refine hI0 _ _ (i + 1) (⟨hq, by rw [hbs1]; exact hb1⟩) (by first | (show _ < _; omega) | (simp; omega)) ⟨rfl, ?_, ?_, ?_, ?_⟩ <;> simp [add_add, hbs1, ho1]
  simp at hq
  refine Tr.exit (exit_s (exit_s (exit_b ?_)))
  have hin : i = t.cells.length := by omega
  subst hin
  rw [hb] at hbn
  have hol : outs = l.map some := Option.some.inj hbn
  have hln : t.cells.length = l.length := by rw [← hlen, hol]; simp
  refine Tr.freezeM (nid + 1) boxD l [(3, .d (.imm (boxs l)))] [] (ty := 22) (sz := 1) ?_ ?_ ?_ ?_ ?_
  · simp [hol, ob_map]
  · simp
  · simp [hln]
  · simp
  refine Tr.seq (Tr.regionK fun K hK => ?_)
  simp (maxSteps := 1000000) [add_add]
  refine hK _ ?_; clear hK K
  refine Tr.ret ⟨.inr rfl, ?_, ?_, ?_, ?_⟩ <;> simp [Try.f62]
set_option maxRecDepth 8000 in
set_option maxHeartbeats 4000000 in
theorem pcall_refBoxOf (t : Tree) (i : Int) (hr : t.root.length ≤ 1048576) :
    PCall Try.prog 23 [treeP t, .i i] (boxOfP (boxOf t i)) := by
  refine walk Try.func23 (by kernel_rfl) rfl 29 rfl (Nat.le_of_ble_eq_true rfl) fun nid _ => ?_
  refine Tr.seq (Tr.regionK fun K hK => ?_)
  simp (maxSteps := 1000000) [add_add]
  refine hK _ ?_; clear hK K
  rcases Bool.eq_false_or_eq_true ((boxesT t).isSome) with s1_0 | s1_0
  · have s1_0' := s1_0
    obtain ⟨l, hh⟩ := Option.isSome_iff_exists.1 s1_0
    refine Tr.seq (Tr.regionK fun K hK => ?_)
    simp (maxSteps := 1000000) [add_add]
    refine .inl ⟨_, pcall_refBoxes t hr, rfl, ?_⟩
    simp (maxSteps := 1000000) [add_add, hh, boxesP]
    refine hK _ ?_; clear hK K
    refine Tr.seq ?_
    by_cases s2_0 : i < 0
    · have s2_0' := s2_0
      have hf : boxOf t i = none := by unfold boxOf; rw [hh]; simp [s2_0]
      refine Tr.seq (Tr.regionK fun K hK => ?_)
      simp (maxSteps := 1000000) [add_add, s2_0]
      refine hK _ ?_; clear hK K
      refine Tr.cond rfl rfl (fun hq0 => ?_) (fun hq0 => by first | (cases hq0; done) | (simp at hq0; done) | (simp_all; done))
      refine Tr.seq (Tr.regionK fun K hK => ?_)
      simp (maxSteps := 1000000) [add_add]
      refine hK _ ?_; clear hK K
      refine Tr.ret ⟨.inr rfl, ?_, ?_, ?_, ?_⟩ <;> simp [Try.f23, hf, boxOfP]
    by_cases s2_1 : (l.length : Int) ≤ i
    · have s2_1' := s2_1
      have hf : boxOf t i = none := by unfold boxOf; rw [hh]; simp [s2_0]; omega
      refine Tr.seq (Tr.regionK fun K hK => ?_)
      simp (maxSteps := 1000000) [add_add, s2_0, s2_1]
      refine hK _ ?_; clear hK K
      refine Tr.cond rfl rfl (fun hq1 => ?_) (fun hq1 => by first | (cases hq1; done) | (simp at hq1; done) | (simp_all; done))
      refine Tr.seq (Tr.regionK fun K hK => ?_)
      simp (maxSteps := 1000000) [add_add]
      refine hK _ ?_; clear hK K
      refine Tr.ret ⟨.inr rfl, ?_, ?_, ?_, ?_⟩ <;> simp [Try.f23, hf, boxOfP]
    have hi0 : 0 ≤ i := by omega
    have hi1 : i.toNat < l.length := by omega
    obtain ⟨b, hb⟩ : ∃ b, l[i.toNat]? = some b := ⟨_, List.getElem?_eq_getElem hi1⟩
    have hb2 := bx_at hb
    have hf : boxOf t i = some b := by unfold boxOf; rw [hh]; simp [s2_0, hb]
    refine Tr.seq (Tr.regionK fun K hK => ?_)
    simp (maxSteps := 1000000) [add_add, s2_0, s2_1]
    refine hK _ ?_; clear hK K
    refine Tr.cond rfl rfl (fun hq2 => by first | (cases hq2; done) | (simp at hq2; done) | (simp_all; done)) (fun hq2 => ?_)
    refine Tr.skip ?_
    refine Tr.seq (Tr.regionK fun K hK => ?_)
    simp (maxSteps := 1000000) [add_add, hi0, hi1, hb2]
    repeat (first | refine ⟨by omega, ?_⟩ | refine ⟨⟨by omega, by omega⟩, ?_⟩ | refine ⟨rfl, ?_⟩)
    refine hK _ ?_; clear hK K
    refine Tr.ret ⟨.inr rfl, ?_, ?_, ?_, ?_⟩ <;> simp [Try.f23, hf, boxOfP]
  have hh : boxesT t = none := by simpa using s1_0
  have hf : boxOf t i = none := by unfold boxOf; rw [hh]; rfl
  refine Tr.seq (Tr.regionK fun K hK => ?_)
  simp (maxSteps := 1000000) [add_add]
  refine .inl ⟨_, pcall_refBoxes t hr, rfl, ?_⟩
  simp (maxSteps := 1000000) [add_add, hh, boxesP]
  refine hK _ ?_; clear hK K
  refine Tr.seq ?_
  refine Tr.seq (Tr.regionK fun K hK => ?_)
  simp (maxSteps := 1000000) [add_add]
  refine hK _ ?_; clear hK K
  refine Tr.cond rfl rfl (fun hq3 => ?_) (fun hq3 => by first | (cases hq3; done) | (simp at hq3; done) | (simp_all; done))
  refine Tr.seq (Tr.regionK fun K hK => ?_)
  simp (maxSteps := 1000000) [add_add]
  refine hK _ ?_; clear hK K
  refine Tr.ret ⟨.inr rfl, ?_, ?_, ?_, ?_⟩ <;> simp [Try.f23, hf, boxOfP]
set_option maxRecDepth 8000 in
set_option maxHeartbeats 4000000 in
theorem pcall_refLeaves (t : Tree) (hr : t.root.length ≤ 1048576) :
    PCall Try.prog 108 [treeP t] (leavesP t) := by
  refine walk Try.func108 (by kernel_rfl) rfl 26 rfl (Nat.le_of_ble_eq_true rfl) fun nid _ => ?_
  refine Tr.seq (Tr.regionK fun K hK => ?_)
  simp (maxSteps := 1000000) [add_add]
  refine hK _ ?_; clear hK K
  refine Tr.seq ?_
  rcases Bool.eq_false_or_eq_true ((boxesT t).isSome) with s1_0 | s1_0
  · have s1_0' := s1_0
    have hf : leavesP t = .d (.imm (ints (lvs t t.cells.length))) := by unfold leavesP; rw [if_pos s1_0]
    obtain ⟨l, hh⟩ := Option.isSome_iff_exists.1 s1_0
    obtain ⟨⟨hr0, hr1, _⟩, hn0, hn1⟩ := treeOk_iff.1 (boxesT_iff hh).1
    refine Tr.seq (Tr.regionK fun K hK => ?_)
    simp (maxSteps := 1000000) [add_add]
    refine .inl ⟨_, pcall_refValidTree t hr, rfl, ?_⟩
    simp (maxSteps := 1000000) [add_add, s1_0]
    refine hK _ ?_; clear hK K
    refine Tr.cond rfl rfl (fun hq0 => by first | (cases hq0; done) | (simp at hq0; done) | (simp_all; done)) (fun hq0 => ?_)
    refine Tr.skip ?_
    refine Tr.seq (Tr.regionK fun K hK => ?_)
    simp (maxSteps := 1000000) [add_add]
    refine hK _ ?_; clear hK K
    refine Tr.seq ?_
    refine Tr.seq (Tr.regionK fun K hK => ?_)
    simp (maxSteps := 1000000) [add_add]
    refine hK _ ?_; clear hK K
    refine Tr.block ?_
    refine Tr.loopP [(3, 1)] [.slot 1, .nil 0] [.slot 1, .slot 3] (fun i : Nat => ([(1, .ptr nid 0 0), (3, .own (nid + 1) 1 0 (lvs t i).length), (4, .i i)],
    [(nid, ⟨25, 2, [[.d (.imm (ivs t.root)), .d (.imm (cels t.cells))]]⟩), (nid + 1, ⟨3, 1, upm intD (lvs t i)⟩)])) (fun i : Nat => i ≤ t.cells.length ∧ (lvs t i).length ≤ i) (fun i : Nat => t.cells.length - i) 0 rfl ?_ ?_ ?_
    · exact ⟨Nat.zero_le _, Nat.le_refl _⟩
    · refine ⟨rfl, ?_, ?_, ?_, ?_⟩ <;> simp [add_add, lvs]
    rintro i ⟨hi, hlv⟩ I hI0
    have w : IntKind.i64.wrap ((i : Int) + 1) = (i : Int) + 1 := wrapIn (by omega) (by omega)
    refine Tr.seq ?_
    refine Tr.seq (Tr.regionK fun K hK => ?_)
    simp (maxSteps := 1000000) [add_add]
    refine hK _ ?_; clear hK K
    refine Tr.cond rfl rfl (fun hq => ?_) (fun hq => ?_)
    · simp at hq
      obtain ⟨c, hc, hc'⟩ : ∃ c, t.cells[i]? = some c ∧ t.cells[i] = c := ⟨t.cells[i], List.getElem?_eq_getElem hq, rfl⟩
      have hlv1 : lvs t (i + 1) = lvs t i ++ (if c.leaf = true then [(i : Int)] else []) := by simp only [lvs]; rw [leafAt_eq hc]
      refine Tr.skip ?_
      refine Tr.seq ?_
      refine Tr.block ?_
      rcases Bool.eq_false_or_eq_true (c.leaf) with s7_0 | s7_0
      · have s7_0' := s7_0
        refine Tr.seq (Tr.regionK fun K hK => ?_)
        simp (maxSteps := 1000000) [add_add, hc', hq]
        refine .inl ⟨_, pcall_refLeaf c, rfl, ?_⟩
        simp (maxSteps := 1000000) [add_add, s7_0]
        refine hK _ ?_; clear hK K
        refine Tr.cond rfl rfl (fun hq2 => ?_) (fun hq2 => by first | (cases hq2; done) | (simp at hq2; done) | (simp_all; done))
        refine Tr.regionK fun K hK => ?_
        simp (maxSteps := 1000000) [add_add]
        repeat (first | refine ⟨by omega, ?_⟩ | refine ⟨⟨by omega, by omega⟩, ?_⟩ | refine ⟨rfl, ?_⟩)
        refine hK _ ?_; clear hK K
        refine Tr.regionK fun K hK => ?_
        simp (maxSteps := 1000000) [add_add, w]
        refine hK _ ?_; clear hK K
        refine hI0 _ _ (i + 1) (⟨hq, by rw [hlv1]; split <;> simp <;> omega⟩) (by first | (show _ < _; omega) | (simp; omega)) ⟨rfl, ?_, ?_, ?_, ?_⟩ <;> simp [add_add, s7_0, hlv1]
      refine Tr.seq (Tr.regionK fun K hK => ?_)
      simp (maxSteps := 1000000) [add_add, hc', hq]
      refine .inl ⟨_, pcall_refLeaf c, rfl, ?_⟩
      simp (maxSteps := 1000000) [add_add, s7_0]
      refine hK _ ?_; clear hK K
      refine Tr.cond rfl rfl (fun hq3 => by first | (cases hq3; done) | (simp at hq3; done) | (simp_all; done)) (fun hq3 => ?_)
      refine Tr.skip ?_
      refine Tr.regionK fun K hK => ?_
      simp (maxSteps := 1000000) [add_add, w]
      refine hK _ ?_; clear hK K
      refine hI0 _ _ (i + 1) (⟨hq, by rw [hlv1]; split <;> simp <;> omega⟩) (by first | (show _ < _; omega) | (simp; omega)) ⟨rfl, ?_, ?_, ?_, ?_⟩ <;> simp [add_add, s7_0, hlv1]
    simp at hq
    refine Tr.exit (exit_s (exit_s (exit_b ?_)))
    have hin : i = t.cells.length := by omega
    subst hin
    refine Tr.freezeM (nid + 1) intD (lvs t t.cells.length) [(3, .d (.imm (ints (lvs t t.cells.length))))] [] (ty := 3) (sz := 1) ?_ ?_ ?_ ?_ ?_
    · simp
    · simp
    · simp
    · simp
    refine Tr.seq (Tr.regionK fun K hK => ?_)
    simp (maxSteps := 1000000) [add_add]
    refine hK _ ?_; clear hK K
    refine Tr.ret ⟨.inr rfl, ?_, ?_, ?_, ?_⟩ <;> simp [Try.f108, hf]
  have hf : leavesP t = nilP := by unfold leavesP; rw [if_neg (by simp [s1_0])]
  refine Tr.seq (Tr.regionK fun K hK => ?_)
  simp (maxSteps := 1000000) [add_add]
  refine .inl ⟨_, pcall_refValidTree t hr, rfl, ?_⟩
  simp (maxSteps := 1000000) [add_add, s1_0]
  refine hK _ ?_; clear hK K
  refine Tr.cond rfl rfl (fun hq4 => ?_) (fun hq4 => by first | (cases hq4; done) | (simp at hq4; done) | (simp_all; done))
  refine Tr.seq (Tr.regionK fun K hK => ?_)
  simp (maxSteps := 1000000) [add_add]
  refine hK _ ?_; clear hK K
  refine Tr.ret ⟨.inr rfl, ?_, ?_, ?_, ?_⟩ <;> simp [Try.f108, hf]
end Go.Proofs.Ytmljpbhmdjpbaaa
