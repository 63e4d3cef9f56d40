/- Plain law: what is reached, place after place in the order of a queue. The reference meets; sizes. The reference floods. The reference separates; lists that are the same. The example. -/
import Derived.Test.YtmljpbhmdjpbaaaM6
import Derived.Test.YtmljpbhmdjpbaaaPm40
namespace Go.Proofs.Ytmljpbhmdjpbaaa
set_option linter.unusedVariables false
set_option linter.unusedSimpArgs false
open Go.PM

theorem over_comm (x y : Iv) : over x y = over y x := by unfold over; rw [Bool.and_comm]
theorem touchB_comm : ∀ (a b : List Iv), touchB a b = touchB b a
  | [], [] => rfl
  | [], _ :: _ => rfl
  | _ :: _, [] => rfl
  | x :: a, y :: b => by
    have := touchB_comm a b
    unfold touchB at *
    simp only [List.zip_cons_cons, List.all_cons]
    rw [this, over_comm]
theorem cntT_set : ∀ {f : List Bool} {x : Nat}, f[x]? = some false → cntT (f.set x true) = cntT f + 1
  | [], x, h => by simp at h
  | a :: f, 0, h => by
    have : a = false := by simpa using h
    subst this
    simp [cntT]
  | a :: f, x + 1, h => by
    have := cntT_set (f := f) (x := x) (by simpa using h)
    unfold cntT at *
    simp only [List.set_cons_succ, List.countP_cons]
    rw [this]; omega

structure Bfs (n : Nat) (op start : Nat → Bool) (adj : Nat → Nat → Bool) (out : List Bool) (q : List Nat) : Prop where
  len : out.length = n
  mark : ∀ i : Nat, out[i]? = some true ↔ i ∈ q
  reach : ∀ i ∈ q, Reach n op start adj i
  cnt : q.length = cntT out
/-- The neighbors of the first k have been looked for. -/
def Near (n : Nat) (op : Nat → Bool) (adj : Nat → Nat → Bool) (out : List Bool) (q : List Nat) (k : Nat) : Prop := ∀ j c, j < k → q[j]? = some c → ∀ i, i < n → op i = true → adj i c = true → out[i]? = some true

section
variable {n : Nat} {op start : Nat → Bool} {adj : Nat → Nat → Bool} {out : List Bool} {q : List Nat}
theorem Bfs.room (h : Bfs n op start adj out q) : q.length ≤ n := by
  rw [h.cnt, ← h.len]; exact cntT_le out
theorem Bfs.nil : Bfs n op start adj (List.replicate n false) [] := by
  refine ⟨by simp, fun i => ?_, by simp, ?_⟩
  · simp [List.getElem?_replicate]
  · simp [cntT, List.countP_replicate]
theorem Bfs.add (h : Bfs n op start adj out q) {x : Nat} (hx : Reach n op start adj x) (h0 : out[x]? = some false) : Bfs n op start adj (out.set x true) (q ++ [x]) :=
  ⟨by simpa using h.len, fun i => by rw [set_true (by rw [h.len]; exact hx.lt), h.mark]; simp [or_comm], fun i hi => by
    simp at hi
    rcases hi with hi | rfl
    · exact h.reach i hi
    · exact hx, by rw [cntT_set h0, ← h.cnt]; simp⟩
theorem Near.mono {out' : List Bool} {q' : List Nat} {k : Nat} (h : Near n op adj out q k) (hk : k ≤ q.length) (ho : ∀ i : Nat, out[i]? = some true → out'[i]? = some true) (hq : ∀ j : Nat, j < q.length → q'[j]? = q[j]?) : Near n op adj out' q' k :=
  fun j c hj hc i hi hio ha => ho i (h j c hj (by rw [← hq j (by omega)]; exact hc) i hi hio ha)
theorem Bfs.done (h : Bfs n op start adj out q) (hs : ∀ i, i < n → op i = true → start i = true → out[i]? = some true) (hn : Near n op adj out q q.length) : out = floodL n op start adj :=
  floodL_of h.len hs (fun i j h1 h2 h3 h4 => by
    obtain ⟨k, hk⟩ := List.mem_iff_getElem?.1 ((h.mark j).1 h1)
    exact hn k j (List.getElem?_eq_some_iff.1 hk).1 hk i h2 h3 h4) (fun i hi => h.reach i ((h.mark i).1 hi))
theorem set_keeps {x i : Nat} (h : out[i]? = some true) : (out.set x true)[i]? = some true := by
  rw [List.getElem?_set]
  by_cases e : x = i
  · subst e; rw [if_pos rfl, if_pos (List.getElem?_eq_some_iff.1 h).1]
  · rw [if_neg e]; exact h
end
end Go.Proofs.Ytmljpbhmdjpbaaa
namespace Go.Proofs.Ytmljpbhmdjpbaaa
set_option linter.unusedVariables false
set_option linter.unusedSimpArgs false
open Go.PM

def okSize (c : Cel) : Bool := c.leaf && c.coll
def sizeV (t : Tree) : Nat := t.cells.countP okSize
theorem coll_at {c : Cel} {j lo hi : Int} (h1 : c.j = j) (h2 : c.lo = lo) (h3 : c.hi = hi) : PCall Try.prog 64 [.agg [.i j, .i lo, .i hi, .i c.v.kind, .d (.imm (vecs c.v.ns)), .i c.v.w.pair, .d (.imm (ints c.v.w.left)), .d (.imm (ints c.v.w.right))]] (.b c.coll) := by
  subst h1; subst h2; subst h3; exact pcall_isColliding c
theorem count_at {l : List Cel} {i : Nat} {c : Cel} (h : l[i]? = some c) : (l.take (i + 1)).countP okSize = (l.take i).countP okSize + (if okSize c = true then 1 else 0) := by
  rw [List.take_add_one, h]
  simp [List.countP_append, List.countP_cons]
set_option maxRecDepth 8000 in
set_option maxHeartbeats 4000000 in
theorem pcall_size (t : Tree) (hn : t.cells.length ≤ 1048576) :
    PCall Try.prog 34 [treeP t] (.i (sizeV t)) := by
  refine walk Try.func34 (by kernel_rfl) rfl 34 rfl (Nat.le_of_ble_eq_true rfl) fun nid _ => ?_
  refine Tr.seq (Tr.regionK fun K hK => ?_)
  simp (maxSteps := 1000000) [add_add]
  refine hK _ ?_; clear hK K
  refine Tr.seq (Tr.regionK fun K hK => ?_)
  simp (maxSteps := 1000000) [add_add]
  refine hK _ ?_; clear hK K
  refine Tr.seq ?_
  refine Tr.seq (Tr.regionK fun K hK => ?_)
  simp (maxSteps := 1000000) [add_add]
  refine hK _ ?_; clear hK K
  refine Tr.block ?_
  refine Tr.loopP [] [.slot 1] [.slot 1] (fun i : Nat => ([(1, .ptr nid 0 0), (3, .i ((t.cells.take i).countP okSize : Nat)), (7, .d (.imm (cels t.cells))), (8, .i t.cells.length), (9, .i i)],
  [(nid, ⟨25, 2, [[.d (.imm (ivs t.root)), .d (.imm (cels t.cells))]]⟩)])) (fun i : Nat => i ≤ t.cells.length) (fun i : Nat => t.cells.length - i) 0 rfl ?_ ?_ ?_
  · exact Nat.zero_le _
  · refine ⟨rfl, ?_, ?_, ?_, ?_⟩ <;> simp [add_add]
  rintro i hi I hI0
  have w : IntKind.i64.wrap ((i : Int) + 1) = (i : Int) + 1 := wrapIn (by omega) (by omega)
  obtain ⟨N, hN⟩ : ∃ N, (t.cells.take i).countP okSize = N := ⟨_, rfl⟩
  have hNi : N ≤ i := by rw [← hN]; exact Nat.le_trans List.countP_le_length (by simp; omega)
  have wn : IntKind.i64.wrap ((N : Int) + 1) = (N : Int) + 1 := wrapIn (by omega) (by omega)
  refine Tr.seq (Tr.regionK fun K hK => ?_)
  simp (maxSteps := 1000000) [add_add, hN]
  refine hK _ ?_; clear hK K
  refine Tr.seq ?_
  refine Tr.cond rfl rfl (fun hq => ?_) (fun hq => ?_)
  · simp at hq
    obtain ⟨c, hc, hc'⟩ : ∃ c, t.cells[i]? = some c ∧ t.cells[i] = c := ⟨t.cells[i], List.getElem?_eq_getElem hq, rfl⟩
    refine Tr.skip ?_
    refine Tr.seq ?_
    refine Tr.block ?_
    refine Tr.seq (Tr.regionK fun K hK => ?_)
    simp (maxSteps := 1000000) [add_add, hc', hq]
    refine hK _ ?_; clear hK K
    by_cases s5_0 : c.j = -1
    · have s5_0' := s5_0
      by_cases s5_1 : c.lo = -1
      · have s5_1' := s5_1
        by_cases s5_2 : c.hi = -1
        · have s5_2' := s5_2
          rcases Bool.eq_false_or_eq_true (c.coll) with s5_3 | s5_3
          · have s5_3' := s5_3
            have hk : okSize c = true := by simp [okSize, Cel.leaf, s5_0, s5_1, s5_2, s5_3]
            refine Tr.seq (Tr.regionK fun K hK => ?_)
            simp (maxSteps := 1000000) [add_add, s5_0, s5_1, s5_2]
            refine .inl ⟨_, coll_at s5_0 s5_1 s5_2, rfl, ?_⟩
            simp (maxSteps := 1000000) [add_add, s5_3]
            refine hK _ ?_; clear hK K
            refine Tr.cond rfl rfl (fun hq1 => ?_) (fun hq1 => by first | (cases hq1; done) | (simp at hq1; done) | (simp_all; done))
            refine Tr.regionK fun K hK => ?_
            simp (maxSteps := 1000000) [add_add, wn]
            refine hK _ ?_; clear hK K
            refine Tr.regionK fun K hK => ?_
            simp (maxSteps := 1000000) [add_add, w]
            refine hK _ ?_; clear hK K
            refine hI0 _ _ (i + 1) (hq) (by first | (show _ < _; omega) | (simp; omega)) ⟨rfl, ?_, ?_, ?_, ?_⟩ <;> simp [add_add, hN, count_at hc, hk]
          have hk : okSize c = false := by simp [okSize, s5_3]
          refine Tr.seq (Tr.regionK fun K hK => ?_)
          simp (maxSteps := 1000000) [add_add, s5_0, s5_1, s5_2]
          refine .inl ⟨_, coll_at s5_0 s5_1 s5_2, rfl, ?_⟩
          simp (maxSteps := 1000000) [add_add, s5_3]
          refine hK _ ?_; clear hK K
          refine Tr.cond rfl rfl (fun hq2 => by first | (cases hq2; done) | (simp at hq2; done) | (simp_all; done)) (fun hq2 => ?_)
          refine Tr.skip ?_
          refine Tr.regionK fun K hK => ?_
          simp (maxSteps := 1000000) [add_add, w]
          refine hK _ ?_; clear hK K
          refine hI0 _ _ (i + 1) (hq) (by first | (show _ < _; omega) | (simp; omega)) ⟨rfl, ?_, ?_, ?_, ?_⟩ <;> simp [add_add, hN, count_at hc, hk]
        have hk : okSize c = false := by simp [okSize, Cel.leaf, s5_2]
        refine Tr.seq (Tr.regionK fun K hK => ?_)
        simp (maxSteps := 1000000) [add_add, s5_0, s5_1, s5_2]
        refine hK _ ?_; clear hK K
        refine Tr.cond rfl rfl (fun hq3 => by first | (cases hq3; done) | (simp at hq3; done) | (simp_all; done)) (fun hq3 => ?_)
        refine Tr.skip ?_
        refine Tr.regionK fun K hK => ?_
        simp (maxSteps := 1000000) [add_add, w]
        refine hK _ ?_; clear hK K
        refine hI0 _ _ (i + 1) (hq) (by first | (show _ < _; omega) | (simp; omega)) ⟨rfl, ?_, ?_, ?_, ?_⟩ <;> simp [add_add, hN, count_at hc, hk]
      have hk : okSize c = false := by simp [okSize, Cel.leaf, s5_1]
      refine Tr.seq (Tr.regionK fun K hK => ?_)
      simp (maxSteps := 1000000) [add_add, s5_0, s5_1]
      refine hK _ ?_; clear hK K
      refine Tr.cond rfl rfl (fun hq4 => by first | (cases hq4; done) | (simp at hq4; done) | (simp_all; done)) (fun hq4 => ?_)
      refine Tr.skip ?_
      refine Tr.regionK fun K hK => ?_
      simp (maxSteps := 1000000) [add_add, w]
      refine hK _ ?_; clear hK K
      refine hI0 _ _ (i + 1) (hq) (by first | (show _ < _; omega) | (simp; omega)) ⟨rfl, ?_, ?_, ?_, ?_⟩ <;> simp [add_add, hN, count_at hc, hk]
    have hk : okSize c = false := by simp [okSize, Cel.leaf, s5_0]
    refine Tr.seq (Tr.regionK fun K hK => ?_)
    simp (maxSteps := 1000000) [add_add, s5_0]
    refine hK _ ?_; clear hK K
    refine Tr.cond rfl rfl (fun hq5 => by first | (cases hq5; done) | (simp at hq5; done) | (simp_all; done)) (fun hq5 => ?_)
    refine Tr.skip ?_
    refine Tr.regionK fun K hK => ?_
    simp (maxSteps := 1000000) [add_add, w]
    refine hK _ ?_; clear hK K
    refine hI0 _ _ (i + 1) (hq) (by first | (show _ < _; omega) | (simp; omega)) ⟨rfl, ?_, ?_, ?_, ?_⟩ <;> simp [add_add, hN, count_at hc, hk]
  simp at hq
  refine Tr.exit (exit_s (exit_s (exit_b ?_)))
  have hin : i = t.cells.length := by omega
  have hf : sizeV t = N := by unfold sizeV; rw [← hN, hin, List.take_length]
  refine Tr.seq (Tr.regionK fun K hK => ?_)
  simp (maxSteps := 1000000) [add_add]
  refine hK _ ?_; clear hK K
  refine Tr.ret ⟨.inr rfl, ?_, ?_, ?_, ?_⟩ <;> simp [Try.f34, hf]
set_option maxRecDepth 8000 in
set_option maxHeartbeats 4000000 in
theorem pcall_refMeetT (t : Tree) (line : List (List Int)) (hr : t.root.length ≤ 1048576) :
    PCall Try.prog 56 [treeP t, .d (.imm (qs line))] (meetP (meetT t line)) := by
  refine walk Try.func56 (by kernel_rfl) rfl 119 rfl (Nat.le_of_ble_eq_true rfl) fun nid _ => ?_
  refine Tr.seq (Tr.regionK fun K hK => ?_)
  simp (maxSteps := 1000000) [add_add]
  refine hK _ ?_; clear hK K
  rcases Bool.eq_false_or_eq_true ((boxesT t).isSome) with s1_0 | s1_0
  · have s1_0' := s1_0
    obtain ⟨l, hh⟩ := Option.isSome_iff_exists.1 s1_0
    have hll := boxesT_length hh
    have hcl := cells_len hh
    have hrl := root_len hh
    have hbl : ∀ b ∈ l, b.length = t.root.length := fun b hb => by obtain ⟨k, hk⟩ := List.mem_iff_getElem?.1 hb; exact boxes_len hh hk
    have hbo : ∀ b ∈ l, boxOk b = true := fun b hb => boxes_ok hh hb
    refine Tr.seq (Tr.regionK fun K hK => ?_)
    simp (maxSteps := 1000000) [add_add]
    refine .inl ⟨_, pcall_refBoxes t hr, rfl, ?_⟩
    simp (maxSteps := 1000000) [add_add, hh, boxesP]
    refine hK _ ?_; clear hK K
    refine Tr.seq ?_
    by_cases s2_0 : (line.length : Int) < 2
    · have s2_0' := s2_0
      have hf : meetT t line = none := regularL_false (r := t.root) hh (by unfold regularL; simp [s2_0])
      refine Tr.seq (Tr.regionK fun K hK => ?_)
      simp (maxSteps := 1000000) [add_add, s2_0]
      refine hK _ ?_; clear hK K
      refine Tr.cond rfl rfl (fun hq0 => ?_) (fun hq0 => by first | (cases hq0; done) | (simp at hq0; done) | (simp_all; done))
      refine Tr.seq (Tr.regionK fun K hK => ?_)
      simp (maxSteps := 1000000) [add_add]
      refine hK _ ?_; clear hK K
      refine Tr.ret ⟨.inr rfl, ?_, ?_, ?_, ?_⟩ <;> simp [Try.f56, hf, meetP]
    by_cases s2_1 : 1024 < (line.length : Int)
    · have s2_1' := s2_1
      have hf : meetT t line = none := regularL_false (r := t.root) hh (by unfold regularL; simp [s2_1])
      refine Tr.seq (Tr.regionK fun K hK => ?_)
      simp (maxSteps := 1000000) [add_add, s2_0, s2_1]
      refine hK _ ?_; clear hK K
      refine Tr.cond rfl rfl (fun hq1 => ?_) (fun hq1 => by first | (cases hq1; done) | (simp at hq1; done) | (simp_all; done))
      refine Tr.seq (Tr.regionK fun K hK => ?_)
      simp (maxSteps := 1000000) [add_add]
      refine hK _ ?_; clear hK K
      refine Tr.ret ⟨.inr rfl, ?_, ?_, ?_, ?_⟩ <;> simp [Try.f56, hf, meetP]
    refine Tr.seq (Tr.regionK fun K hK => ?_)
    simp (maxSteps := 1000000) [add_add, s2_0, s2_1]
    refine hK _ ?_; clear hK K
    refine Tr.cond rfl rfl (fun hq2 => by first | (cases hq2; done) | (simp at hq2; done) | (simp_all; done)) (fun hq2 => ?_)
    refine Tr.skip ?_
    refine Tr.seq ?_
    refine Tr.seq (Tr.regionK fun K hK => ?_)
    simp (maxSteps := 1000000) [add_add]
    refine hK _ ?_; clear hK K
    refine Tr.block ?_
    refine Tr.loopP [] [.slot 2, .slot 4] [.slot 2, .slot 4] (fun i : Nat => ([(1, .d (.imm (qs line))), (2, .ptr nid 0 0), (4, .ptr (nid + 1) 0 0), (6, .d (.imm (boxs l))), (8, .i i)],
    [(nid, ⟨25, 2, [[.d (.imm (ivs t.root)), .d (.imm (cels t.cells))]]⟩), (nid + 1, ⟨39, 4, [[.i 0, .i 0, .i 0, .i 0]]⟩)])) (fun i : Nat => i ≤ line.length ∧ (line.take i).all (boxHas t.root) = true) (fun i : Nat => line.length - i) 0 rfl ?_ ?_ ?_
    · exact ⟨by simp, by simp⟩
    · refine ⟨rfl, ?_, ?_, ?_, ?_⟩ <;> simp [add_add]
    rintro i ⟨hi, hall⟩ I hI0
    have w : IntKind.i64.wrap ((i : Int) + 1) = (i : Int) + 1 := wrapIn (by omega) (by omega)
    refine Tr.seq ?_
    refine Tr.seq (Tr.regionK fun K hK => ?_)
    simp (maxSteps := 1000000) [add_add]
    refine hK _ ?_; clear hK K
    refine Tr.cond rfl rfl (fun hq => ?_) (fun hq => ?_)
    · simp at hq
      obtain ⟨x, hx, hx'⟩ : ∃ x, line[i]? = some x ∧ line[i] = x := ⟨line[i], List.getElem?_eq_getElem hq, rfl⟩
      refine Tr.skip ?_
      refine Tr.seq ?_
      refine Tr.block ?_
      rcases Bool.eq_false_or_eq_true (boxHas t.root x) with s7_0 | s7_0
      · have s7_0' := s7_0
        refine Tr.seq (Tr.regionE mixed (by kernel_rfl) fun K hK => ?_)
        simp (maxSteps := 1000000) [add_add, hx', hq]
        refine .inl ⟨_, pcall_refBoxHas t.root x hr, rfl, ?_⟩
        simp (maxSteps := 1000000) [s7_0]
        refine hK _ ?_; clear hK K
        refine Tr.cond rfl rfl (fun hq4 => by first | (cases hq4; done) | (simp at hq4; done) | (simp_all; done)) (fun hq4 => ?_)
        refine Tr.skip ?_
        refine Tr.regionK fun K hK => ?_
        simp (maxSteps := 1000000) [add_add, w]
        refine hK _ ?_; clear hK K
        refine hI0 _ _ (i + 1) (⟨hq, all_take hall hx s7_0⟩) (by first | (show _ < _; omega) | (simp; omega)) ⟨rfl, ?_, ?_, ?_, ?_⟩ <;> simp [add_add]
      have hf : meetT t line = none := regularL_false (r := t.root) hh (by unfold regularL; rw [all_false hx s7_0]; simp)
      refine Tr.seq (Tr.regionE mixed (by kernel_rfl) fun K hK => ?_)
      simp (maxSteps := 1000000) [add_add, hx', hq]
      refine .inl ⟨_, pcall_refBoxHas t.root x hr, rfl, ?_⟩
      simp (maxSteps := 1000000) [s7_0]
      refine hK _ ?_; clear hK K
      refine Tr.cond rfl rfl (fun hq5 => ?_) (fun hq5 => by first | (cases hq5; done) | (simp at hq5; done) | (simp_all; done))
      refine Tr.seq (Tr.regionK fun K hK => ?_)
      simp (maxSteps := 1000000) [add_add]
      refine hK _ ?_; clear hK K
      refine Tr.ret ⟨.inr rfl, ?_, ?_, ?_, ?_⟩ <;> simp [Try.f56, hf, meetP]
    simp at hq
    refine Tr.exit (exit_s (exit_s (exit_b ?_)))
    have hreg : regularL t.root line = true := by unfold regularL; rw [all_done hall (by omega)]; simp; omega
    have hf0 := meetT_some hh hreg
    obtain ⟨hL2, hL3, hLq⟩ := regularL_iff.1 hreg
    refine Tr.seq ?_
    refine Tr.seq (Tr.regionK fun K hK => ?_)
    simp (maxSteps := 1000000) [add_add]
    refine hK _ ?_; clear hK K
    refine Tr.block ?_
    refine Tr.loopP [] [.slot 2, .slot 4] [.slot 2, .slot 4] (fun k : Nat => ([(1, .d (.imm (qs line))), (2, .ptr nid 0 0), (4, .ptr (nid + 1) 0 0), (6, .d (.imm (boxs l))), (9, .i k)],
    [(nid, ⟨25, 2, [[.d (.imm (ivs t.root)), .d (.imm (cels t.cells))]]⟩), (nid + 1, ⟨39, 4, [[.i 0, .i 0, .i 0, .i 0]]⟩)])) (fun k : Nat => k ≤ line.length - 1 ∧ ∀ j, j < k → decide (0 ≤ (meetK t l line j).2) = false) (fun k : Nat => line.length - 1 - k) 0 rfl ?_ ?_ ?_
    · exact ⟨Nat.zero_le _, fun j hj => absurd hj (Nat.not_lt_zero _)⟩
    · refine ⟨rfl, ?_, ?_, ?_, ?_⟩ <;> simp [add_add]
    rintro k ⟨hk, hno⟩ I hI2
    have wk : IntKind.i64.wrap ((k : Int) + 1) = (k : Int) + 1 := wrapIn (by omega) (by omega)
    refine Tr.seq ?_
    refine Tr.seq (Tr.regionK fun K hK => ?_)
    simp (maxSteps := 1000000) [add_add, wk]
    refine hK _ ?_; clear hK K
    refine Tr.cond rfl rfl (fun hqk => ?_) (fun hqk => ?_)
    · simp at hqk
      have hk0 : k < line.length := by omega
      have hk1 : k + 1 < line.length := by omega
      obtain ⟨p, hp, hp'⟩ : ∃ p, line[k]? = some p ∧ line[k] = p := ⟨line[k], List.getElem?_eq_getElem hk0, rfl⟩
      obtain ⟨q, hq', hq''⟩ : ∃ q, line[k + 1]? = some q ∧ line[k + 1] = q := ⟨line[k + 1], List.getElem?_eq_getElem hk1, rfl⟩
      have hp32 := has_in32 (hLq p (List.mem_of_getElem? hp))
      have hq32 := has_in32 (hLq q (List.mem_of_getElem? hq'))
      refine Tr.skip ?_
      refine Tr.seq ?_
      refine Tr.block ?_
      refine Tr.seq (Tr.regionK fun K hK => ?_)
      simp (maxSteps := 1000000) [add_add]
      refine hK _ ?_; clear hK K
      refine Tr.seq ?_
      refine Tr.seq (Tr.regionK fun K hK => ?_)
      simp (maxSteps := 1000000) [add_add]
      refine hK _ ?_; clear hK K
      refine Tr.block ?_
      refine Tr.loopP [] [.slot 2, .slot 4, .slot 10] [.slot 2, .slot 4, .slot 10] (fun i : Nat => ([(1, .d (.imm (qs line))), (2, .ptr nid 0 0), (4, .ptr (nid + 1) 0 0), (6, .d (.imm (boxs l))), (9, .i k), (10, .ptr (nid + 2) 0 0), (11, .i (bestF (enterR p q) t l i).2), (12, .i i)],
      [(nid, ⟨25, 2, [[.d (.imm (ivs t.root)), .d (.imm (cels t.cells))]]⟩), (nid + 1, ⟨39, 4, [[.i 0, .i 0, .i 0, .i 0]]⟩), (nid + 2, ⟨164, 2, [[.i (bestF (enterR p q) t l i).1.num, .i (bestF (enterR p q) t l i).1.den]]⟩)])) (fun i : Nat => i ≤ t.cells.length) (fun i : Nat => t.cells.length - i) 0 rfl ?_ ?_ ?_
      · exact Nat.zero_le _
      · refine ⟨rfl, ?_, ?_, ?_, ?_⟩ <;> simp [add_add, bestF]
      rintro i hi I hI4
      have w : IntKind.i64.wrap ((i : Int) + 1) = (i : Int) + 1 := wrapIn (by omega) (by omega)
      have hcg := bestF_congr (fun b => entry_enter p q b) t l
      have hRa : (bestF (enterR p q) t l i).1.R := by rw [← hcg i]; exact bestF_R (fun b hb => entryR_R hp32.1 hq32.1 (hbo b hb)) i (by omega)
      obtain ⟨⟨at', m⟩, hst⟩ : ∃ x, bestF (enterR p q) t l i = x := ⟨_, rfl⟩
      rw [hst] at hRa
      dsimp only at hRa
      refine Tr.seq ?_
      refine Tr.seq (Tr.regionK fun K hK => ?_)
      simp (maxSteps := 1000000) [add_add, hst]
      refine hK _ ?_; clear hK K
      refine Tr.cond rfl rfl (fun hqi => ?_) (fun hqi => ?_)
      · simp at hqi
        have hib : i < l.length := by omega
        have hqi' : i < t.cells.length := by omega
        obtain ⟨c, hc, hc'⟩ : ∃ c, t.cells[i]? = some c ∧ t.cells[i] = c := ⟨t.cells[i], List.getElem?_eq_getElem hqi', rfl⟩
        obtain ⟨b, hb, hb'⟩ : ∃ b, l[i]? = some b ∧ l[i] = b := ⟨l[i], List.getElem?_eq_getElem hib, rfl⟩
        have hbm := List.mem_of_getElem? hb
        have hcc0 := collAt_eq hc
        refine Tr.skip ?_
        refine Tr.seq ?_
        refine Tr.block ?_
        refine Tr.seq ?_
        refine Tr.seq (Tr.regionK fun K hK => ?_)
        simp (maxSteps := 1000000) [add_add, hc', hib, hqi']
        refine hK _ ?_; clear hK K
        refine Tr.cond rfl rfl (fun hqc => ?_) (fun hqc => ?_)
        · simp at hqc
          have hcc' : collAt t i = false := by rw [hcc0]; unfold Cel.coll; exact decide_eq_false hqc
          refine Tr.exit (exit_s (exit_b ?_))
          refine Tr.regionK fun K hK => ?_
          simp (maxSteps := 1000000) [add_add, w]
          refine hK _ ?_; clear hK K
          refine hI4 _ _ (i + 1) (hqi') (by first | (show _ < _; omega) | (simp; omega)) ⟨rfl, ?_, ?_, ?_, ?_⟩ <;> simp [add_add, bestF_stay hcc', hst]
        simp at hqc
        have hcc : collAt t i = true := by rw [hcc0]; unfold Cel.coll; exact decide_eq_true hqc
        obtain ⟨⟨f, ok⟩, hE⟩ : ∃ x, enterR p q b = x := ⟨_, rfl⟩
        refine Tr.skip ?_
        rcases Bool.eq_false_or_eq_true (ok) with s17_0 | s17_0
        · have s17_0' := s17_0
          have hRf : f.R := by
            have := (entry_enter p q b).2 (by rw [hE]; exact s17_0)
            rw [hE] at this
            dsimp only at this
            rw [← this]; exact entryR_R hp32.1 hq32.1 (hbo b hbm)
          refine Tr.seq (Tr.regionE mixed (by kernel_rfl) fun K hK => ?_)
          simp (maxSteps := 1000000) [add_add, wk, hk0, hk1, hp', hq'', hib, hb']
          repeat (first | refine ⟨by omega, ?_⟩ | refine ⟨⟨by omega, by omega⟩, ?_⟩ | refine ⟨rfl, ?_⟩)
          refine .inl ⟨_, pcall_enter p q b hp32.1 hq32.1 (hbo b hbm) (by rw [hbl b hbm]; omega) (by rw [hbl b hbm]; exact hp32.2) (by rw [hbl b hbm]; exact hq32.2), rfl, ?_⟩
          simp (maxSteps := 1000000) [add_add, Region.binds, s17_0, hE]
          refine hK _ ?_; clear hK K
          by_cases s18_0 : m < 0
          · have s18_0' := s18_0
            have hs1 : bestF (enterR p q) t l (i + 1) = (f, (i : Int)) := by simp only [bestF]; rw [hst, boxAt_eq hb, hE, if_pos ⟨hcc, s17_0, .inl s18_0⟩]
            refine Tr.seq (Tr.regionK fun K hK => ?_)
            simp (maxSteps := 1000000) [add_add, s18_0]
            refine hK _ ?_; clear hK K
            refine Tr.cond rfl rfl (fun hq9 => ?_) (fun hq9 => by first | (cases hq9; done) | (simp at hq9; done) | (simp_all; done))
            refine Tr.regionK fun K hK => ?_
            simp (maxSteps := 1000000) [add_add]
            refine hK _ ?_; clear hK K
            refine Tr.regionK fun K hK => ?_
            simp (maxSteps := 1000000) [add_add, w]
            refine hK _ ?_; clear hK K
            refine hI4 _ _ (i + 1) (hqi') (by first | (show _ < _; omega) | (simp; omega)) ⟨rfl, ?_, ?_, ?_, ?_⟩ <;> simp [add_add, hs1]
          rcases Bool.eq_false_or_eq_true (Fr.less f at') with s18_1 | s18_1
          · have s18_1' := s18_1
            have hs1 : bestF (enterR p q) t l (i + 1) = (f, (i : Int)) := by simp only [bestF]; rw [hst, boxAt_eq hb, hE, if_pos ⟨hcc, s17_0, .inr s18_1⟩]
            refine Tr.seq (Tr.regionK fun K hK => ?_)
            simp (maxSteps := 1000000) [add_add, s18_0]
            refine .inl ⟨_, pcall_refLess f at' hRf hRa, rfl, ?_⟩
            simp (maxSteps := 1000000) [add_add, s18_1]
            refine hK _ ?_; clear hK K
            refine Tr.cond rfl rfl (fun hq10 => ?_) (fun hq10 => by first | (cases hq10; done) | (simp at hq10; done) | (simp_all; done))
            refine Tr.regionK fun K hK => ?_
            simp (maxSteps := 1000000) [add_add]
            refine hK _ ?_; clear hK K
            refine Tr.regionK fun K hK => ?_
            simp (maxSteps := 1000000) [add_add, w]
            refine hK _ ?_; clear hK K
            refine hI4 _ _ (i + 1) (hqi') (by first | (show _ < _; omega) | (simp; omega)) ⟨rfl, ?_, ?_, ?_, ?_⟩ <;> simp [add_add, hs1]
          have hs1 : bestF (enterR p q) t l (i + 1) = (at', m) := by simp only [bestF]; rw [hst, boxAt_eq hb, hE, if_neg (fun x => x.2.2.elim s18_0 (fun y => by simp [s18_1] at y))]
          refine Tr.seq (Tr.regionK fun K hK => ?_)
          simp (maxSteps := 1000000) [add_add, s18_0]
          refine .inl ⟨_, pcall_refLess f at' hRf hRa, rfl, ?_⟩
          simp (maxSteps := 1000000) [add_add, s18_1]
          refine hK _ ?_; clear hK K
          refine Tr.cond rfl rfl (fun hq11 => by first | (cases hq11; done) | (simp at hq11; done) | (simp_all; done)) (fun hq11 => ?_)
          refine Tr.skip ?_
          refine Tr.regionK fun K hK => ?_
          simp (maxSteps := 1000000) [add_add, w]
          refine hK _ ?_; clear hK K
          refine hI4 _ _ (i + 1) (hqi') (by first | (show _ < _; omega) | (simp; omega)) ⟨rfl, ?_, ?_, ?_, ?_⟩ <;> simp [add_add, hs1]
        refine Tr.seq (Tr.regionE mixed (by kernel_rfl) fun K hK => ?_)
        simp (maxSteps := 1000000) [add_add, wk, hk0, hk1, hp', hq'', hib, hb']
        repeat (first | refine ⟨by omega, ?_⟩ | refine ⟨⟨by omega, by omega⟩, ?_⟩ | refine ⟨rfl, ?_⟩)
        refine .inl ⟨_, pcall_enter p q b hp32.1 hq32.1 (hbo b hbm) (by rw [hbl b hbm]; omega) (by rw [hbl b hbm]; exact hp32.2) (by rw [hbl b hbm]; exact hq32.2), rfl, ?_⟩
        simp (maxSteps := 1000000) [add_add, Region.binds, s17_0, hE]
        refine hK _ ?_; clear hK K
        have hs1 : bestF (enterR p q) t l (i + 1) = (at', m) := by simp only [bestF]; rw [hst, boxAt_eq hb, hE, if_neg (fun x => by have := x.2.1; rw [s17_0] at this; cases this)]
        refine Tr.seq (Tr.regionK fun K hK => ?_)
        simp (maxSteps := 1000000) [add_add]
        refine hK _ ?_; clear hK K
        refine Tr.cond rfl rfl (fun hq12 => by first | (cases hq12; done) | (simp at hq12; done) | (simp_all; done)) (fun hq12 => ?_)
        refine Tr.skip ?_
        refine Tr.regionK fun K hK => ?_
        simp (maxSteps := 1000000) [add_add, w]
        refine hK _ ?_; clear hK K
        refine hI4 _ _ (i + 1) (hqi') (by first | (show _ < _; omega) | (simp; omega)) ⟨rfl, ?_, ?_, ?_, ?_⟩ <;> simp [add_add, hs1]
      simp at hqi
      refine Tr.exit (exit_s (exit_s (exit_b ?_)))
      have hin : i = t.cells.length := by omega
      have hst' := hst
      rw [hin] at hst'
      refine Tr.seq (Tr.regionK fun K hK => ?_)
      simp (maxSteps := 1000000) [add_add]
      refine hK _ ?_; clear hK K
      refine Tr.cond rfl rfl (fun hqm => ?_) (fun hqm => ?_)
      · simp at hqm
        have hst2 : bestF (entryR p q) t l t.cells.length = (at', m) := by rw [bestF_congr (fun b => entry_enter p q b) t l]; exact hst'
        obtain ⟨j, hj1, hj2, hj3, hj4, hj5⟩ := bestF_some (E := entryR p q) (t := t) (l := l) t.cells.length (by rw [hst2]; exact hqm)
        have hpos := entryR_pos hj4
        rw [← hj5, hst2] at hpos
        obtain ⟨na, db, hat, hna, hdb⟩ := fr_nat hRa
        subst hat
        dsimp only at hpos
        have hf : meetT t line = some (meetM t l line k) := by rw [hf0]; unfold meetL; rw [find_at hno (by omega) (by rw [← meetK_enter, qAt_eq hp, qAt_eq hq', hst']; simpa using hqm)]; rfl
        have hf2 : meetM t l line k = ⟨k, (Fr.low na db).num, (Fr.low na db).den, m⟩ := by unfold meetM; rw [← meetK_enter, qAt_eq hp, qAt_eq hq', hst', lowF_eq rfl]
        obtain ⟨g, hg⟩ : ∃ g, Nat.gcd na db = g := ⟨_, rfl⟩
        have hcz : ¬ g = 0 := by intro e; rw [e] at hg; have := Nat.gcd_pos_of_pos_right na (show 0 < db by omega); omega
        have hda := Nat.div_le_self na g
        have hdb2 := Nat.div_le_self db g
        have wa : IntKind.i64.wrap ((na : Int) / (g : Int)) = (na : Int) / (g : Int) := by rw [← Int.natCast_ediv]; generalize na / g = z at *; exact wrapIn (by omega) (by omega)
        have wb : IntKind.i64.wrap ((db : Int) / (g : Int)) = (db : Int) / (g : Int) := by rw [← Int.natCast_ediv]; generalize db / g = z at *; exact wrapIn (by omega) (by omega)
        refine Tr.seq (Tr.regionK fun K hK => ?_)
        simp (maxSteps := 1000000) [add_add]
        refine .inl ⟨_, pcall_divisor na db hna hdb, rfl, ?_⟩
        simp (maxSteps := 1000000) [add_add, hg]
        refine hK _ ?_; clear hK K
        refine Tr.seq (Tr.regionE mixed (by kernel_rfl) fun K hK => ?_)
        simp (maxSteps := 1000000) [add_add, Region.binds, hcz, wa, wb]
        refine hK _ ?_; clear hK K
        refine Tr.ret ⟨.inr rfl, ?_, ?_, ?_, ?_⟩ <;> simp [Try.f56, hf2, Fr.low, hg, hf, meetP]
      simp at hqm
      refine Tr.skip ?_
      refine Tr.regionK fun K hK => ?_
      simp (maxSteps := 1000000) [add_add, wk]
      refine hK _ ?_; clear hK K
      refine hI2 _ _ (k + 1) (⟨by omega, fun j hj => (Nat.lt_succ_iff_lt_or_eq.1 hj).elim (hno j) (fun e => by subst e; rw [← meetK_enter, qAt_eq hp, qAt_eq hq', hst']; simpa using hqm)⟩) (by first | (show _ < _; omega) | (simp; omega)) ⟨rfl, ?_, ?_, ?_, ?_⟩ <;> simp [add_add]
    simp at hqk
    refine Tr.exit (exit_s (exit_s (exit_b ?_)))
    have hkn : k = line.length - 1 := by omega
    subst hkn
    have hf : meetT t line = none := by rw [hf0]; unfold meetL; rw [find_no hno]; rfl
    refine Tr.seq (Tr.regionK fun K hK => ?_)
    simp (maxSteps := 1000000) [add_add]
    refine hK _ ?_; clear hK K
    refine Tr.ret ⟨.inr rfl, ?_, ?_, ?_, ?_⟩ <;> simp [Try.f56, hf, meetP]
  have hh : boxesT t = none := by simpa using s1_0
  have hf : meetT t line = none := by unfold meetT; rw [hh]; rfl
  refine Tr.seq (Tr.regionK fun K hK => ?_)
  simp (maxSteps := 1000000) [add_add]
  refine .inl ⟨_, pcall_refBoxes t hr, rfl, ?_⟩
  simp (maxSteps := 1000000) [add_add, hh, boxesP]
  refine hK _ ?_; clear hK K
  refine Tr.seq ?_
  refine Tr.seq (Tr.regionK fun K hK => ?_)
  simp (maxSteps := 1000000) [add_add]
  refine hK _ ?_; clear hK K
  refine Tr.cond rfl rfl (fun hq14 => ?_) (fun hq14 => by first | (cases hq14; done) | (simp at hq14; done) | (simp_all; done))
  refine Tr.seq (Tr.regionK fun K hK => ?_)
  simp (maxSteps := 1000000) [add_add]
  refine hK _ ?_; clear hK K
  refine Tr.ret ⟨.inr rfl, ?_, ?_, ?_, ?_⟩ <;> simp [Try.f56, hf, meetP]
end Go.Proofs.Ytmljpbhmdjpbaaa
namespace Go.Proofs.Ytmljpbhmdjpbaaa
set_option linter.unusedVariables false
set_option linter.unusedSimpArgs false
open Go.PM

theorem adj_touch {l : List (List Iv)} {i j : Nat} {a b : List Iv} (ha : l[i]? = some a) (hb : l[j]? = some b) (h1 : boxOk a = true) (h2 : boxOk b = true) (hl : a.length = b.length) : boxTouch a b = adjV l i j := by
  rw [touch_iff h1 h2 hl, touchB_comm]
  unfold adjV
  rw [boxAt_eq ha, boxAt_eq hb]
theorem not_marked {out : List Bool} {i : Nat} (h : i < out.length) (h1 : ¬ out[i]? = some true) : out[i]? = some false := by
  rw [List.getElem?_eq_getElem h] at h1 ⊢
  cases hb : out[i] with
  | true => rw [hb] at h1; exact absurd rfl h1
  | false => rfl
theorem open_false {t : Tree} {i : Nat} {c : Cel} (h : t.cells[i]? = some c) (hl : c.leaf = false) : openAt t i = false := by rw [openAt_eq h, hl]; rfl
theorem nc_ex (c : Cel) : ∃ nc : Bool, (c.v.kind = 2) = (nc = false) := ⟨!c.coll, by simp [Cel.coll]⟩
theorem open_coll {t : Tree} {i : Nat} {c : Cel} {nc : Bool} (h : t.cells[i]? = some c) (hn : (c.v.kind = 2) = (nc = false)) (h0 : nc = false) : openAt t i = false := by rw [openAt_eq h]; unfold Cel.coll; rw [decide_eq_true (hn.mpr h0)]; simp
theorem open_true {t : Tree} {i : Nat} {c : Cel} {nc : Bool} (h : t.cells[i]? = some c) (hl : c.leaf = true) (hn : (c.v.kind = 2) = (nc = false)) (h0 : nc = true) : openAt t i = true := by rw [openAt_eq h]; unfold Cel.coll; rw [hl, decide_eq_false (fun x => by have := hn.mp x; rw [h0] at this; cases this)]; rfl
set_option maxRecDepth 8000 in
set_option maxHeartbeats 4000000 in
theorem pcall_refFlood (t : Tree) (p : List Int) (hr : t.root.length ≤ 1048576) :
    PCall Try.prog 74 [treeP t, .d (.imm (ints p))] (floodP (floodT t p)) := by
  refine walk Try.func74 (by kernel_rfl) rfl 123 rfl (Nat.le_of_ble_eq_true rfl) fun nid _ => ?_
  refine Tr.seq (Tr.regionK fun K hK => ?_)
  simp (maxSteps := 1000000) [add_add]
  refine hK _ ?_; clear hK K
  rcases Bool.eq_false_or_eq_true ((boxesT t).isSome) with s1_0 | s1_0
  · have s1_0' := s1_0
    obtain ⟨l, hh⟩ := Option.isSome_iff_exists.1 s1_0
    have hll := boxesT_length hh
    have hcl := cells_len hh
    have hrl := root_len hh
    have hbl : ∀ b ∈ l, b.length = t.root.length := fun b hb => by obtain ⟨k, hk⟩ := List.mem_iff_getElem?.1 hb; exact boxes_len hh hk
    have hbo : ∀ b ∈ l, boxOk b = true := fun b hb => boxes_ok hh hb
    refine Tr.seq (Tr.regionK fun K hK => ?_)
    simp (maxSteps := 1000000) [add_add]
    refine .inl ⟨_, pcall_refBoxes t hr, rfl, ?_⟩
    simp (maxSteps := 1000000) [add_add, hh, boxesP]
    refine hK _ ?_; clear hK K
    refine Tr.seq ?_
    rcases Bool.eq_false_or_eq_true (boxHas t.root p) with s2_0 | s2_0
    · have s2_0' := s2_0
      have hf0 : floodT t p = some (spreadV t l p) := by unfold floodT; rw [hh]; simp [s2_0]
      refine Tr.seq (Tr.regionK fun K hK => ?_)
      simp (maxSteps := 1000000) [add_add]
      refine .inl ⟨_, pcall_refBoxHas t.root p hr, rfl, ?_⟩
      simp (maxSteps := 1000000) [add_add, s2_0]
      refine hK _ ?_; clear hK K
      refine Tr.cond rfl rfl (fun hq0 => by first | (cases hq0; done) | (simp at hq0; done) | (simp_all; done)) (fun hq0 => ?_)
      refine Tr.skip ?_
      refine Tr.seq (Tr.regionK fun K hK => ?_)
      simp (maxSteps := 1000000) [add_add, hll]
      repeat (first | refine ⟨by omega, ?_⟩ | refine ⟨⟨by omega, by omega⟩, ?_⟩ | refine ⟨rfl, ?_⟩)
      refine hK _ ?_; clear hK K
      refine Tr.seq (Tr.regionK fun K hK => ?_)
      simp (maxSteps := 1000000) [add_add]
      refine hK _ ?_; clear hK K
      refine Tr.seq ?_
      refine Tr.seq (Tr.regionK fun K hK => ?_)
      simp (maxSteps := 1000000) [add_add]
      refine hK _ ?_; clear hK K
      refine Tr.block ?_
      refine Tr.loopP [(3, 1)] [.slot 2, .slot 7, .nil 0] [.slot 2, .slot 7, .slot 8] (fun x : Nat × List Bool × List Nat => ([(1, .d (.imm (ints p))), (2, .ptr nid 0 0), (5, .d (.imm (boxs l))), (7, .own (nid + 1) 1 0 t.cells.length), (8, .own (nid + 2) 1 0 x.2.2.length), (9, .i x.1)],
      [(nid, ⟨25, 2, [[.d (.imm (ivs t.root)), .d (.imm (cels t.cells))]]⟩), (nid + 1, ⟨4, 1, upm boolD x.2.1⟩), (nid + 2, ⟨3, 1, upm nD x.2.2⟩)])) (fun x : Nat × List Bool × List Nat => x.1 ≤ t.cells.length ∧ Bfs t.cells.length (openAt t) (inV1 l p) (adjV l) x.2.1 x.2.2 ∧ (∀ j ∈ x.2.2, j < x.1) ∧ ∀ j, j < x.1 → openAt t j = true → inV1 l p j = true → x.2.1[j]? = some true) (fun x : Nat × List Bool × List Nat => t.cells.length - x.1) (0, List.replicate t.cells.length false, []) rfl ?_ ?_ ?_
      · exact ⟨Nat.zero_le _, Bfs.nil, by simp, fun j hj => absurd hj (Nat.not_lt_zero _)⟩
      · refine ⟨rfl, ?_, ?_, ?_, ?_⟩ <;> simp [add_add, bl_zero]
      rintro ⟨i, out, q⟩ ⟨hi, hB, hlt, hst⟩ I hI0
      dsimp only at hi hB hlt hst
      have hol := hB.len
      have hqn := hB.room
      have w : IntKind.i64.wrap ((i : Int) + 1) = (i : Int) + 1 := wrapIn (by omega) (by omega)
      refine Tr.seq ?_
      refine Tr.seq (Tr.regionK fun K hK => ?_)
      simp (maxSteps := 1000000) [add_add]
      refine hK _ ?_; clear hK K
      refine Tr.cond rfl rfl (fun hqa => ?_) (fun hqa => ?_)
      · simp at hqa
        have hib : i < l.length := by omega
        have hqi : i < t.cells.length := by omega
        obtain ⟨c, hc, hc'⟩ : ∃ c, t.cells[i]? = some c ∧ t.cells[i] = c := ⟨t.cells[i], List.getElem?_eq_getElem hqi, rfl⟩
        obtain ⟨b, hb, hb'⟩ : ∃ b, l[i]? = some b ∧ l[i] = b := ⟨l[i], List.getElem?_eq_getElem hib, rfl⟩
        have hbm := List.mem_of_getElem? hb
        obtain ⟨nc, hnc⟩ := nc_ex c
        refine Tr.skip ?_
        refine Tr.seq ?_
        refine Tr.block ?_
        rcases Bool.eq_false_or_eq_true (c.leaf) with s9_0 | s9_0
        · have s9_0' := s9_0
          rcases Bool.eq_false_or_eq_true (nc) with s9_1 | s9_1
          · have s9_1' := s9_1
            rcases Bool.eq_false_or_eq_true (boxHas b p) with s9_2 | s9_2
            · have s9_2' := s9_2
              have hyes := open_true hc s9_0 hnc s9_1
              have hin1 : inV1 l p i = true := by show boxHas _ _ = true; rw [boxAt_eq hb]; exact s9_2
              have hmk := not_marked (show i < out.length by omega) (fun h => absurd (hlt i ((hB.mark i).1 h)) (Nat.lt_irrefl i))
              refine Tr.seq (Tr.regionK fun K hK => ?_)
              simp (maxSteps := 1000000) [add_add, hc', hib, hqi]
              refine .inl ⟨_, pcall_refLeaf c, rfl, ?_⟩
              simp (maxSteps := 1000000) [add_add, hc', hib, hb', hqi, hnc, s9_0, s9_1]
              refine .inl ⟨_, pcall_refBoxHas b p (by rw [hbl b hbm]; exact hr), rfl, ?_⟩
              simp (maxSteps := 1000000) [add_add, s9_2]
              refine hK _ ?_; clear hK K
              refine Tr.cond rfl rfl (fun hq2 => ?_) (fun hq2 => by first | (cases hq2; done) | (simp at hq2; done) | (simp_all; done))
              refine Tr.seq (Tr.regionK fun K hK => ?_)
              simp (maxSteps := 1000000) [add_add, hol, bl_set, bl_tail, hqi]
              refine hK _ ?_; clear hK K
              refine Tr.regionK fun K hK => ?_
              simp (maxSteps := 1000000) [add_add]
              repeat (first | refine ⟨by omega, ?_⟩ | refine ⟨⟨by omega, by omega⟩, ?_⟩ | refine ⟨rfl, ?_⟩)
              refine hK _ ?_; clear hK K
              refine Tr.regionK fun K hK => ?_
              simp (maxSteps := 1000000) [add_add, w]
              refine hK _ ?_; clear hK K
              refine hI0 _ _ (i + 1, out.set i true, q ++ [i]) (⟨hqi, hB.add (.start i hqi hyes hin1) hmk, fun j hj => by simp at hj; rcases hj with hj | rfl; exact Nat.lt_succ_of_lt (hlt j hj); exact Nat.lt_succ_self _, fun j hj h1 h2 => (Nat.lt_succ_iff_lt_or_eq.1 hj).elim (fun h => set_keeps (hst j h h1 h2)) (fun e => by subst e; exact (set_true (by omega)).2 (.inl rfl))⟩) (by first | (show _ < _; omega) | (simp; omega)) ⟨rfl, ?_, ?_, ?_, ?_⟩ <;> simp [add_add]
            have hin0 : inV1 l p i = false := by show boxHas _ _ = false; rw [boxAt_eq hb]; exact s9_2
            refine Tr.seq (Tr.regionK fun K hK => ?_)
            simp (maxSteps := 1000000) [add_add, hc', hib, hqi]
            refine .inl ⟨_, pcall_refLeaf c, rfl, ?_⟩
            simp (maxSteps := 1000000) [add_add, hc', hib, hb', hqi, hnc, s9_0, s9_1]
            refine .inl ⟨_, pcall_refBoxHas b p (by rw [hbl b hbm]; exact hr), rfl, ?_⟩
            simp (maxSteps := 1000000) [add_add, s9_2]
            refine hK _ ?_; clear hK K
            refine Tr.cond rfl rfl (fun hq3 => by first | (cases hq3; done) | (simp at hq3; done) | (simp_all; done)) (fun hq3 => ?_)
            refine Tr.skip ?_
            refine Tr.regionK fun K hK => ?_
            simp (maxSteps := 1000000) [add_add, w]
            refine hK _ ?_; clear hK K
            refine hI0 _ _ (i + 1, out, q) (⟨hqi, hB, fun j hj => Nat.lt_succ_of_lt (hlt j hj), fun j hj h1 h2 => (Nat.lt_succ_iff_lt_or_eq.1 hj).elim (fun h => hst j h h1 h2) (fun e => by subst e; rw [hin0] at h2; cases h2)⟩) (by first | (show _ < _; omega) | (simp; omega)) ⟨rfl, ?_, ?_, ?_, ?_⟩ <;> simp [add_add]
          have hno := open_coll hc hnc s9_1
          refine Tr.seq (Tr.regionK fun K hK => ?_)
          simp (maxSteps := 1000000) [add_add, hc', hib, hqi]
          refine .inl ⟨_, pcall_refLeaf c, rfl, ?_⟩
          simp (maxSteps := 1000000) [add_add, hc', hqi, hnc, s9_0, s9_1]
          refine hK _ ?_; clear hK K
          refine Tr.cond rfl rfl (fun hq4 => by first | (cases hq4; done) | (simp at hq4; done) | (simp_all; done)) (fun hq4 => ?_)
          refine Tr.skip ?_
          refine Tr.regionK fun K hK => ?_
          simp (maxSteps := 1000000) [add_add, w]
          refine hK _ ?_; clear hK K
          refine hI0 _ _ (i + 1, out, q) (⟨hqi, hB, fun j hj => Nat.lt_succ_of_lt (hlt j hj), fun j hj h1 h2 => (Nat.lt_succ_iff_lt_or_eq.1 hj).elim (fun h => hst j h h1 h2) (fun e => by subst e; rw [hno] at h1; cases h1)⟩) (by first | (show _ < _; omega) | (simp; omega)) ⟨rfl, ?_, ?_, ?_, ?_⟩ <;> simp [add_add]
        have hno := open_false hc s9_0
        refine Tr.seq (Tr.regionK fun K hK => ?_)
        simp (maxSteps := 1000000) [add_add, hc', hib, hqi]
        refine .inl ⟨_, pcall_refLeaf c, rfl, ?_⟩
        simp (maxSteps := 1000000) [add_add, s9_0]
        refine hK _ ?_; clear hK K
        refine Tr.cond rfl rfl (fun hq5 => by first | (cases hq5; done) | (simp at hq5; done) | (simp_all; done)) (fun hq5 => ?_)
        refine Tr.skip ?_
        refine Tr.regionK fun K hK => ?_
        simp (maxSteps := 1000000) [add_add, w]
        refine hK _ ?_; clear hK K
        refine hI0 _ _ (i + 1, out, q) (⟨hqi, hB, fun j hj => Nat.lt_succ_of_lt (hlt j hj), fun j hj h1 h2 => (Nat.lt_succ_iff_lt_or_eq.1 hj).elim (fun h => hst j h h1 h2) (fun e => by subst e; rw [hno] at h1; cases h1)⟩) (by first | (show _ < _; omega) | (simp; omega)) ⟨rfl, ?_, ?_, ?_, ?_⟩ <;> simp [add_add]
      simp at hqa
      refine Tr.exit (exit_s (exit_s (exit_b ?_)))
      have hin : i = t.cells.length := by omega
      subst hin
      refine Tr.seq ?_
      refine Tr.seq (Tr.regionK fun K hK => ?_)
      simp (maxSteps := 1000000) [add_add]
      refine hK _ ?_; clear hK K
      refine Tr.block ?_
      refine Tr.loopP [] [.slot 2, .slot 7, .slot 8] [.slot 2, .slot 7, .slot 8] (fun x : Nat × List Bool × List Nat => ([(1, .d (.imm (ints p))), (2, .ptr nid 0 0), (5, .d (.imm (boxs l))), (7, .own (nid + 1) 1 0 t.cells.length), (8, .own (nid + 2) 1 0 x.2.2.length), (10, .i x.1)],
      [(nid, ⟨25, 2, [[.d (.imm (ivs t.root)), .d (.imm (cels t.cells))]]⟩), (nid + 1, ⟨4, 1, upm boolD x.2.1⟩), (nid + 2, ⟨3, 1, upm nD x.2.2⟩)])) (fun x : Nat × List Bool × List Nat => x.1 ≤ x.2.2.length ∧ Bfs t.cells.length (openAt t) (inV1 l p) (adjV l) x.2.1 x.2.2 ∧ (∀ j, j < t.cells.length → openAt t j = true → inV1 l p j = true → x.2.1[j]? = some true) ∧ Near t.cells.length (openAt t) (adjV l) x.2.1 x.2.2 x.1) (fun x : Nat × List Bool × List Nat => t.cells.length - x.1) (0, out, q) rfl ?_ ?_ ?_
      · exact ⟨Nat.zero_le _, hB, hst, fun j c hj => absurd hj (Nat.not_lt_zero _)⟩
      · refine ⟨rfl, ?_, ?_, ?_, ?_⟩ <;> simp [add_add]
      rintro ⟨k, out, q⟩ ⟨hk, hB, hst, hne⟩ I hI2
      dsimp only at hk hB hst hne
      have hol := hB.len
      have hqn := hB.room
      have wk : IntKind.i64.wrap ((k : Int) + 1) = (k : Int) + 1 := wrapIn (by omega) (by omega)
      refine Tr.seq ?_
      refine Tr.seq (Tr.regionK fun K hK => ?_)
      simp (maxSteps := 1000000) [add_add]
      refine hK _ ?_; clear hK K
      refine Tr.cond rfl rfl (fun hqk => ?_) (fun hqk => ?_)
      · simp at hqk
        obtain ⟨qc, hqc, hqc'⟩ : ∃ c, q[k]? = some c ∧ q[k] = c := ⟨q[k], List.getElem?_eq_getElem hqk, rfl⟩
        have hrq := hB.reach qc (List.mem_of_getElem? hqc)
        have hqcn := hrq.lt
        have hqcl : qc < l.length := by omega
        obtain ⟨bq, hbq, hbq'⟩ : ∃ bq, l[qc]? = some bq ∧ l[qc] = bq := ⟨l[qc], List.getElem?_eq_getElem hqcl, rfl⟩
        have hbqm := List.mem_of_getElem? hbq
        refine Tr.skip ?_
        refine Tr.seq ?_
        refine Tr.block ?_
        refine Tr.seq (Tr.regionK fun K hK => ?_)
        simp (maxSteps := 1000000) [add_add]
        refine hK _ ?_; clear hK K
        refine Tr.block ?_
        refine Tr.loopP [] [.slot 2, .slot 7, .slot 8] [.slot 2, .slot 7, .slot 8] (fun x : Nat × List Bool × List Nat => ([(1, .d (.imm (ints p))), (2, .ptr nid 0 0), (5, .d (.imm (boxs l))), (7, .own (nid + 1) 1 0 t.cells.length), (8, .own (nid + 2) 1 0 x.2.2.length), (10, .i k), (11, .i x.1)],
        [(nid, ⟨25, 2, [[.d (.imm (ivs t.root)), .d (.imm (cels t.cells))]]⟩), (nid + 1, ⟨4, 1, upm boolD x.2.1⟩), (nid + 2, ⟨3, 1, upm nD x.2.2⟩)])) (fun x : Nat × List Bool × List Nat => x.1 ≤ t.cells.length ∧ Bfs t.cells.length (openAt t) (inV1 l p) (adjV l) x.2.1 x.2.2 ∧ (∀ j, j < t.cells.length → openAt t j = true → inV1 l p j = true → x.2.1[j]? = some true) ∧ Near t.cells.length (openAt t) (adjV l) x.2.1 x.2.2 k ∧ k < x.2.2.length ∧ x.2.2[k]? = some qc ∧ ∀ j, j < x.1 → openAt t j = true → adjV l j qc = true → x.2.1[j]? = some true) (fun x : Nat × List Bool × List Nat => t.cells.length - x.1) (0, out, q) rfl ?_ ?_ ?_
        · exact ⟨Nat.zero_le _, hB, hst, hne, hqk, hqc, fun j hj => absurd hj (Nat.not_lt_zero _)⟩
        · refine ⟨rfl, ?_, ?_, ?_, ?_⟩ <;> simp [add_add]
        rintro ⟨i, out2, q2⟩ ⟨hi, hB2, hst2, hne2, hk2, hqc2, hsee⟩ I hI4
        dsimp only at hi hB2 hst2 hne2 hk2 hqc2 hsee
        have hol2 := hB2.len
        have hqn2 := hB2.room
        have w : IntKind.i64.wrap ((i : Int) + 1) = (i : Int) + 1 := wrapIn (by omega) (by omega)
        have hqt := nt_at hqc2
        refine Tr.seq ?_
        refine Tr.seq (Tr.regionK fun K hK => ?_)
        simp (maxSteps := 1000000) [add_add]
        refine hK _ ?_; clear hK K
        refine Tr.cond rfl rfl (fun hqb => ?_) (fun hqb => ?_)
        · simp at hqb
          have hib : i < l.length := by omega
          have hqi : i < t.cells.length := by omega
          obtain ⟨c, hc, hc'⟩ : ∃ c, t.cells[i]? = some c ∧ t.cells[i] = c := ⟨t.cells[i], List.getElem?_eq_getElem hqi, rfl⟩
          obtain ⟨b, hb, hb'⟩ : ∃ b, l[i]? = some b ∧ l[i] = b := ⟨l[i], List.getElem?_eq_getElem hib, rfl⟩
          have hbm := List.mem_of_getElem? hb
          have htou := adj_touch hb hbq (hbo b hbm) (hbo bq hbqm) (by rw [hbl b hbm, hbl bq hbqm])
          have hio : i < out2.length := by omega
          obtain ⟨no, ho⟩ : ∃ no, out2[i]? = some (!no) := ⟨!out2[i], by rw [List.getElem?_eq_getElem hio]; simp⟩
          obtain ⟨nc, hnc⟩ := nc_ex c
          have hbt : ∀ h, (upm boolD out2)[i]'h = [PV.d (.val (.bool (!no)))] := fun h => upm_at ho h
          refine Tr.skip ?_
          refine Tr.seq ?_
          refine Tr.block ?_
          rcases Bool.eq_false_or_eq_true (no) with s18_0 | s18_0
          · have s18_0' := s18_0
            rcases Bool.eq_false_or_eq_true (c.leaf) with s18_1 | s18_1
            · have s18_1' := s18_1
              rcases Bool.eq_false_or_eq_true (nc) with s18_2 | s18_2
              · have s18_2' := s18_2
                rcases Bool.eq_false_or_eq_true (adjV l i qc) with s18_3 | s18_3
                · have s18_3' := s18_3
                  have hyes := open_true hc s18_1 hnc s18_2
                  have hmk : out2[i]? = some false := by rw [ho, s18_0]; rfl
                  refine Tr.seq (Tr.regionE mixed (by kernel_rfl) fun K hK => ?_)
                  simp (maxSteps := 1000000) [add_add, hol2, hc', hib, hqi, hbt, s18_0]
                  refine .inl ⟨_, pcall_refLeaf c, rfl, ?_⟩
                  simp (maxSteps := 1000000) [hqcl, hbq', hqt, hk2, hc', hib, hb', hqi, hnc, s18_1, s18_2]
                  refine .inl ⟨_, pcall_refTouch b bq (by rw [hbl b hbm]; exact hr) (by rw [hbl bq hbqm]; exact hr), rfl, ?_⟩
                  simp (maxSteps := 1000000) [s18_3, htou]
                  refine hK _ ?_; clear hK K
                  refine Tr.cond rfl rfl (fun hq8 => ?_) (fun hq8 => by first | (cases hq8; done) | (simp at hq8; done) | (simp_all; done))
                  refine Tr.seq (Tr.regionK fun K hK => ?_)
                  simp (maxSteps := 1000000) [add_add, bl_set, hol2, bl_set, hqi, hbt, s18_0]
                  refine hK _ ?_; clear hK K
                  refine Tr.regionK fun K hK => ?_
                  simp (maxSteps := 1000000) [add_add]
                  repeat (first | refine ⟨by omega, ?_⟩ | refine ⟨⟨by omega, by omega⟩, ?_⟩ | refine ⟨rfl, ?_⟩)
                  refine hK _ ?_; clear hK K
                  refine Tr.regionK fun K hK => ?_
                  simp (maxSteps := 1000000) [add_add, w]
                  refine hK _ ?_; clear hK K
                  refine hI4 _ _ (i + 1, out2.set i true, q2 ++ [i]) (⟨hqi, hB2.add (.step i qc (hB2.reach qc (List.mem_of_getElem? hqc2)) hqi hyes s18_3) hmk, fun j h0 h1 h2 => set_keeps (hst2 j h0 h1 h2), hne2.mono (Nat.le_of_lt hk2) (fun _ h => set_keeps h) (fun j hj => List.getElem?_append_left hj), by simp; omega, (List.getElem?_append_left hk2).trans hqc2, fun j hj h1 h2 => (Nat.lt_succ_iff_lt_or_eq.1 hj).elim (fun h => set_keeps (hsee j h h1 h2)) (fun e => by subst e; exact (set_true (by omega)).2 (.inl rfl))⟩) (by first | (show _ < _; omega) | (simp; omega)) ⟨rfl, ?_, ?_, ?_, ?_⟩ <;> simp [add_add]
                refine Tr.seq (Tr.regionE mixed (by kernel_rfl) fun K hK => ?_)
                simp (maxSteps := 1000000) [add_add, hol2, hc', hib, hqi, hbt, s18_0]
                refine .inl ⟨_, pcall_refLeaf c, rfl, ?_⟩
                simp (maxSteps := 1000000) [hqcl, hbq', hqt, hk2, hc', hib, hb', hqi, hnc, s18_1, s18_2]
                refine .inl ⟨_, pcall_refTouch b bq (by rw [hbl b hbm]; exact hr) (by rw [hbl bq hbqm]; exact hr), rfl, ?_⟩
                simp (maxSteps := 1000000) [s18_3, htou]
                refine hK _ ?_; clear hK K
                refine Tr.cond rfl rfl (fun hq9 => by first | (cases hq9; done) | (simp at hq9; done) | (simp_all; done)) (fun hq9 => ?_)
                refine Tr.skip ?_
                refine Tr.regionK fun K hK => ?_
                simp (maxSteps := 1000000) [add_add, w]
                refine hK _ ?_; clear hK K
                refine hI4 _ _ (i + 1, out2, q2) (⟨hqi, hB2, hst2, hne2, hk2, hqc2, fun j hj h1 h2 => (Nat.lt_succ_iff_lt_or_eq.1 hj).elim (fun h => hsee j h h1 h2) (fun e => by subst e; rw [s18_3] at h2; cases h2)⟩) (by first | (show _ < _; omega) | (simp; omega)) ⟨rfl, ?_, ?_, ?_, ?_⟩ <;> simp [add_add]
              have hno := open_coll hc hnc s18_2
              refine Tr.seq (Tr.regionE mixed (by kernel_rfl) fun K hK => ?_)
              simp (maxSteps := 1000000) [add_add, hol2, hc', hib, hqi, hbt, s18_0]
              refine .inl ⟨_, pcall_refLeaf c, rfl, ?_⟩
              simp (maxSteps := 1000000) [hc', hqi, hnc, s18_1, s18_2]
              refine hK _ ?_; clear hK K
              refine Tr.cond rfl rfl (fun hq10 => by first | (cases hq10; done) | (simp at hq10; done) | (simp_all; done)) (fun hq10 => ?_)
              refine Tr.skip ?_
              refine Tr.regionK fun K hK => ?_
              simp (maxSteps := 1000000) [add_add, w]
              refine hK _ ?_; clear hK K
              refine hI4 _ _ (i + 1, out2, q2) (⟨hqi, hB2, hst2, hne2, hk2, hqc2, fun j hj h1 h2 => (Nat.lt_succ_iff_lt_or_eq.1 hj).elim (fun h => hsee j h h1 h2) (fun e => by subst e; rw [hno] at h1; cases h1)⟩) (by first | (show _ < _; omega) | (simp; omega)) ⟨rfl, ?_, ?_, ?_, ?_⟩ <;> simp [add_add]
            have hno := open_false hc s18_1
            refine Tr.seq (Tr.regionE mixed (by kernel_rfl) fun K hK => ?_)
            simp (maxSteps := 1000000) [add_add, hol2, hc', hib, hqi, hbt, s18_0]
            refine .inl ⟨_, pcall_refLeaf c, rfl, ?_⟩
            simp (maxSteps := 1000000) [s18_1]
            refine hK _ ?_; clear hK K
            refine Tr.cond rfl rfl (fun hq11 => by first | (cases hq11; done) | (simp at hq11; done) | (simp_all; done)) (fun hq11 => ?_)
            refine Tr.skip ?_
            refine Tr.regionK fun K hK => ?_
            simp (maxSteps := 1000000) [add_add, w]
            refine hK _ ?_; clear hK K
            refine hI4 _ _ (i + 1, out2, q2) (⟨hqi, hB2, hst2, hne2, hk2, hqc2, fun j hj h1 h2 => (Nat.lt_succ_iff_lt_or_eq.1 hj).elim (fun h => hsee j h h1 h2) (fun e => by subst e; rw [hno] at h1; cases h1)⟩) (by first | (show _ < _; omega) | (simp; omega)) ⟨rfl, ?_, ?_, ?_, ?_⟩ <;> simp [add_add]
          have hmk0 : out2[i]? = some true := by rw [ho, s18_0]; rfl
          refine Tr.seq (Tr.regionE mixed (by kernel_rfl) fun K hK => ?_)
          simp (maxSteps := 1000000) [add_add, hol2, hib, hqi, hbt, s18_0]
          refine hK _ ?_; clear hK K
          refine Tr.cond rfl rfl (fun hq12 => by first | (cases hq12; done) | (simp at hq12; done) | (simp_all; done)) (fun hq12 => ?_)
          refine Tr.skip ?_
          refine Tr.regionK fun K hK => ?_
          simp (maxSteps := 1000000) [add_add, w]
          refine hK _ ?_; clear hK K
          refine hI4 _ _ (i + 1, out2, q2) (⟨hqi, hB2, hst2, hne2, hk2, hqc2, fun j hj h1 h2 => (Nat.lt_succ_iff_lt_or_eq.1 hj).elim (fun h => hsee j h h1 h2) (fun e => by subst e; exact hmk0)⟩) (by first | (show _ < _; omega) | (simp; omega)) ⟨rfl, ?_, ?_, ?_, ?_⟩ <;> simp [add_add]
        simp at hqb
        refine Tr.exit (exit_s (exit_s (exit_b ?_)))
        have hin : i = t.cells.length := by omega
        subst hin
        refine Tr.regionK fun K hK => ?_
        simp (maxSteps := 1000000) [add_add, wk]
        refine hK _ ?_; clear hK K
        refine hI2 _ _ (k + 1, out2, q2) (⟨hk2, hB2, hst2, fun j c hj hc i hi h1 h2 => (Nat.lt_succ_iff_lt_or_eq.1 hj).elim (fun h => hne2 j c h hc i hi h1 h2) (fun e => by subst e; rw [hqc2] at hc; cases hc; exact hsee i hi h1 h2)⟩) (by dsimp only; have := hB2.room; omega) ⟨rfl, ?_, ?_, ?_, ?_⟩ <;> simp [add_add]
      simp at hqk
      refine Tr.exit (exit_s (exit_s (exit_b ?_)))
      have hkn : k = q.length := by omega
      subst hkn
      have hf1 : out = spreadV t l p := hB.done hst hne
      have hf : floodT t p = some out := by rw [hf0, hf1]
      refine Tr.freezeM (nid + 1) boolD out [(7, .d (.imm (bools out)))] [] (ty := 4) (sz := 1) ?_ ?_ ?_ ?_ ?_
      · simp
      · simp
      · simp [← hol]
      · simp
      refine Tr.seq (Tr.regionK fun K hK => ?_)
      simp (maxSteps := 1000000) [add_add]
      refine hK _ ?_; clear hK K
      refine Tr.ret ⟨.inr rfl, ?_, ?_, ?_, ?_⟩ <;> simp [Try.f74, hf, floodP]
    have hf : floodT t p = none := by unfold floodT; rw [hh]; simp [s2_0]
    refine Tr.seq (Tr.regionK fun K hK => ?_)
    simp (maxSteps := 1000000) [add_add]
    refine .inl ⟨_, pcall_refBoxHas t.root p hr, rfl, ?_⟩
    simp (maxSteps := 1000000) [add_add, s2_0]
    refine hK _ ?_; clear hK K
    refine Tr.cond rfl rfl (fun hq13 => ?_) (fun hq13 => by first | (cases hq13; done) | (simp at hq13; done) | (simp_all; done))
    refine Tr.seq (Tr.regionK fun K hK => ?_)
    simp (maxSteps := 1000000) [add_add]
    refine hK _ ?_; clear hK K
    refine Tr.ret ⟨.inr rfl, ?_, ?_, ?_, ?_⟩ <;> simp [Try.f74, hf, floodP]
  have hh : boxesT t = none := by simpa using s1_0
  have hf : floodT t p = none := by unfold floodT; rw [hh]; rfl
  refine Tr.seq (Tr.regionK fun K hK => ?_)
  simp (maxSteps := 1000000) [add_add]
  refine .inl ⟨_, pcall_refBoxes t hr, rfl, ?_⟩
  simp (maxSteps := 1000000) [add_add, hh, boxesP]
  refine hK _ ?_; clear hK K
  refine Tr.seq ?_
  refine Tr.seq (Tr.regionK fun K hK => ?_)
  simp (maxSteps := 1000000) [add_add]
  refine hK _ ?_; clear hK K
  refine Tr.cond rfl rfl (fun hq14 => ?_) (fun hq14 => by first | (cases hq14; done) | (simp at hq14; done) | (simp_all; done))
  refine Tr.seq (Tr.regionK fun K hK => ?_)
  simp (maxSteps := 1000000) [add_add]
  refine hK _ ?_; clear hK K
  refine Tr.ret ⟨.inr rfl, ?_, ?_, ?_, ?_⟩ <;> simp [Try.f74, hf, floodP]
end Go.Proofs.Ytmljpbhmdjpbaaa
namespace Go.Proofs.Ytmljpbhmdjpbaaa
set_option linter.unusedVariables false
set_option linter.unusedSimpArgs false
open Go.PM

theorem apartV_all (t : Tree) (l : List (List Iv)) (p q : List Int) : apartV t l p q = !((List.range t.cells.length).any fun x => (spreadV t l p).getD x false && boxHas (boxAt l x) q) := by
  unfold apartV
  congr 1
  rw [Bool.eq_iff_iff, List.any_eq_true, List.any_eq_true]
  constructor
  · rintro ⟨x, h1, h2⟩
    exact ⟨x, List.mem_range.2 (lvn_mem.1 h1).1, h2⟩
  · rintro ⟨x, h1, h2⟩
    refine ⟨x, ?_, h2⟩
    rw [Bool.and_eq_true] at h2
    have h3 := floodL_true.1 (getD_true.1 h2.1)
    exact open_seen h3.lt h3.isOp
theorem apart_hit {t : Tree} {l : List (List Iv)} {p q : List Int} {i : Nat} (hi : i < t.cells.length) (h1 : (spreadV t l p).getD i false = true) (h2 : boxHas (boxAt l i) q = true) : apartV t l p q = false := by
  rw [apartV_all, any_true (x := i) (List.getElem?_range hi) (by rw [h1, h2]; rfl)]; rfl
theorem apart_miss {t : Tree} {l : List (List Iv)} {p q : List Int} (h : ∀ j, j < t.cells.length → ((spreadV t l p).getD j false && boxHas (boxAt l j) q) = false) : apartV t l p q = true := by
  rw [apartV_all, Bool.not_eq_true', List.any_eq_false]
  intro x hx
  rw [h x (List.mem_range.1 hx)]; simp
theorem same_all {a b : List Bool} (hl : a.length = b.length) {n : Nat} (hn : ¬ n < a.length) (h : ∀ j, j < n → a[j]? = b[j]?) : a = b := by
  apply List.ext_getElem?
  intro i
  by_cases hi : i < a.length
  · exact h i (by omega)
  · rw [List.getElem?_eq_none (by omega), List.getElem?_eq_none (by omega)]
set_option maxRecDepth 8000 in
set_option maxHeartbeats 4000000 in
theorem pcall_sameB (a : List Bool) (ha : a.length ≤ 1048576) :
    PCall Try.prog 73 [.d (.imm (bools a)), .d (.imm (bools a))] (.b true) := by
  refine walk Try.func73 (by kernel_rfl) rfl 26 rfl (Nat.le_of_ble_eq_true rfl) fun nid _ => ?_
  refine Tr.seq (Tr.regionK fun K hK => ?_)
  simp (maxSteps := 1000000)
  refine hK _ ?_; clear hK K
  refine Tr.seq ?_
  refine Tr.seq (Tr.regionK fun K hK => ?_)
  simp (maxSteps := 1000000) [add_add]
  refine hK _ ?_; clear hK K
  refine Tr.cond rfl rfl (fun hq0 => by first | (cases hq0; done) | (simp at hq0; done) | (simp_all; done)) (fun hq0 => ?_)
  refine Tr.skip ?_
  refine Tr.seq ?_
  refine Tr.seq (Tr.regionK fun K hK => ?_)
  simp (maxSteps := 1000000) [add_add]
  refine hK _ ?_; clear hK K
  refine Tr.block ?_
  refine Tr.loopP [] [] [] (fun i : Nat => ([(0, .d (.imm (bools a))), (1, .d (.imm (bools a))), (5, .i i)],
  [])) (fun i : Nat => i ≤ a.length) (fun i : Nat => a.length - i) 0 rfl ?_ ?_ ?_
  · exact Nat.zero_le _
  · refine ⟨rfl, ?_, ?_, ?_, ?_⟩ <;> simp [add_add]
  rintro i hi I hI0
  have w : IntKind.i64.wrap ((i : Int) + 1) = (i : Int) + 1 := wrapIn (by omega) (by omega)
  refine Tr.seq ?_
  refine Tr.seq (Tr.regionK fun K hK => ?_)
  simp (maxSteps := 1000000) [add_add]
  refine hK _ ?_; clear hK K
  refine Tr.cond rfl rfl (fun hq => ?_) (fun hq => ?_)
  · simp at hq
    obtain ⟨x, hx, hx'⟩ : ∃ x, a[i]? = some x ∧ a[i] = x := ⟨a[i], List.getElem?_eq_getElem hq, rfl⟩
    refine Tr.skip ?_
    refine Tr.seq ?_
    refine Tr.block ?_
    refine Tr.seq (Tr.regionE mixed (by kernel_rfl) fun K hK => ?_)
    simp (maxSteps := 1000000) [hx', hq]
    refine hK _ ?_; clear hK K
    refine Tr.cond rfl rfl (fun hq2 => by first | (cases hq2; done) | (simp at hq2; done) | (simp_all; done)) (fun hq2 => ?_)
    refine Tr.skip ?_
    refine Tr.regionK fun K hK => ?_
    simp (maxSteps := 1000000) [add_add, w]
    refine hK _ ?_; clear hK K
    refine hI0 _ _ (i + 1) (hq) (by first | (show _ < _; omega) | (simp; omega)) ⟨rfl, ?_, ?_, ?_, ?_⟩ <;> simp [add_add]
  simp at hq
  refine Tr.exit (exit_s (exit_s (exit_b ?_)))
  refine Tr.seq (Tr.regionK fun K hK => ?_)
  simp (maxSteps := 1000000) [add_add]
  refine hK _ ?_; clear hK K
  refine Tr.ret ⟨.inr rfl, ?_, ?_, ?_, ?_⟩ <;> simp [Try.f73]
theorem pcall_sameF (o : Option (List Bool)) (ho : ∀ a, o = some a → a.length ≤ 1048576) : PCall Try.prog 73 [floodP o, floodP o] (.b true) := by
  cases o with
  | some a => exact pcall_sameB a (ho a rfl)
  | none =>
    refine (pcall_sameB [] (by simp)).args rfl fun j p p' h1 h2 => ?_
    match j with
    | 0 => cases h1; cases h2; exact LeX.nilImm none
    | 1 => cases h1; cases h2; exact LeX.nilImm none
    | j + 2 => cases h1
set_option maxRecDepth 8000 in
set_option maxHeartbeats 4000000 in
theorem pcall_refSep (t : Tree) (p q : List Int) (hr : t.root.length ≤ 1048576) :
    PCall Try.prog 32 [treeP t, .d (.imm (ints p)), .d (.imm (ints q))] (.b (sepT t p q)) := by
  refine walk Try.func32 (by kernel_rfl) rfl 47 rfl (Nat.le_of_ble_eq_true rfl) fun nid _ => ?_
  refine Tr.seq (Tr.regionK fun K hK => ?_)
  simp (maxSteps := 1000000) [add_add]
  refine hK _ ?_; clear hK K
  rcases Bool.eq_false_or_eq_true ((boxesT t).isSome) with s1_0 | s1_0
  · have s1_0' := s1_0
    rcases Bool.eq_false_or_eq_true (boxHas t.root p) with s1_1 | s1_1
    · have s1_1' := s1_1
      obtain ⟨l, hh⟩ := Option.isSome_iff_exists.1 s1_0
      have hfl : floodT t p = some (spreadV t l p) := by unfold floodT; rw [hh]; simp [s1_1]
      have hll := boxesT_length hh
      have hcl := cells_len hh
      have hrl := root_len hh
      have hbl : ∀ b ∈ l, b.length = t.root.length := fun b hb => by obtain ⟨k, hk⟩ := List.mem_iff_getElem?.1 hb; exact boxes_len hh hk
      have hbo : ∀ b ∈ l, boxOk b = true := fun b hb => boxes_ok hh hb
      have hsl := spreadV_length t l p
      have hnp : ¬ t.cells = [] := (treeOk_iff.1 (boxesT_iff hh).1).2.1
      have hn0 : 0 < t.cells.length := List.length_pos_iff.2 hnp
      obtain ⟨fl, hfx⟩ : ∃ fl, spreadV t l p = fl := ⟨_, rfl⟩
      rw [hfx] at hfl hsl
      have hfn : ¬ fl = [] := by intro e; rw [e] at hsl; simp at hsl; omega
      have hfn0 : ¬ fl.length = 0 := by omega
      refine Tr.seq (Tr.regionK fun K hK => ?_)
      simp (maxSteps := 1000000) [add_add]
      refine .inl ⟨_, pcall_refFlood t p hr, rfl, ?_⟩
      simp (maxSteps := 1000000) [add_add, hfl, floodP]
      refine hK _ ?_; clear hK K
      refine Tr.seq ?_
      rcases Bool.eq_false_or_eq_true (boxHas t.root q) with s2_0 | s2_0
      · have s2_0' := s2_0
        have hf0 : sepT t p q = apartV t l p q := by unfold sepT; rw [hh]; simp [s1_1, s2_0]
        refine Tr.seq (Tr.regionK fun K hK => ?_)
        simp (maxSteps := 1000000) [add_add, hfn0]
        refine .inl ⟨_, pcall_refBoxHas t.root q hr, rfl, ?_⟩
        simp (maxSteps := 1000000) [add_add, s2_0]
        refine hK _ ?_; clear hK K
        refine Tr.cond rfl rfl (fun hq0 => by first | (cases hq0; done) | (simp at hq0; done) | (simp_all; done)) (fun hq0 => ?_)
        refine Tr.skip ?_
        refine Tr.seq (Tr.regionK fun K hK => ?_)
        simp (maxSteps := 1000000) [add_add]
        refine .inl ⟨_, pcall_refBoxes t hr, rfl, ?_⟩
        simp (maxSteps := 1000000) [add_add, hh, boxesP]
        refine hK _ ?_; clear hK K
        refine Tr.seq ?_
        refine Tr.seq (Tr.regionK fun K hK => ?_)
        simp (maxSteps := 1000000) [add_add]
        refine hK _ ?_; clear hK K
        refine Tr.block ?_
        refine Tr.loopP [] [.slot 3] [.slot 3] (fun i : Nat => ([(2, .d (.imm (ints q))), (3, .ptr nid 0 0), (7, .d (.imm (bools fl))), (8, .d (.imm (boxs l))), (10, .i i)],
        [(nid, ⟨25, 2, [[.d (.imm (ivs t.root)), .d (.imm (cels t.cells))]]⟩)])) (fun i : Nat => i ≤ t.cells.length ∧ ∀ j, j < i → (fl.getD j false && boxHas (boxAt l j) q) = false) (fun i : Nat => t.cells.length - i) 0 rfl ?_ ?_ ?_
        · exact ⟨Nat.zero_le _, fun j hj => absurd hj (Nat.not_lt_zero _)⟩
        · refine ⟨rfl, ?_, ?_, ?_, ?_⟩ <;> simp [add_add]
        rintro i ⟨hi, hall⟩ I hI0
        have w : IntKind.i64.wrap ((i : Int) + 1) = (i : Int) + 1 := wrapIn (by omega) (by omega)
        refine Tr.seq ?_
        refine Tr.seq (Tr.regionK fun K hK => ?_)
        simp (maxSteps := 1000000) [add_add]
        refine hK _ ?_; clear hK K
        refine Tr.cond rfl rfl (fun hq => ?_) (fun hq => ?_)
        · simp at hq
          have hib : i < l.length := by omega
          have hif : i < fl.length := by omega
          obtain ⟨b, hb, hb'⟩ : ∃ b, l[i]? = some b ∧ l[i] = b := ⟨l[i], List.getElem?_eq_getElem hib, rfl⟩
          obtain ⟨fx, hfx', hfx''⟩ : ∃ fx, fl[i]? = some fx ∧ fl[i] = fx := ⟨fl[i], List.getElem?_eq_getElem hif, rfl⟩
          have hbm := List.mem_of_getElem? hb
          have hfd : fl.getD i false = fx := by rw [List.getD_eq_getElem?_getD, hfx']; rfl
          refine Tr.skip ?_
          refine Tr.seq ?_
          refine Tr.block ?_
          rcases Bool.eq_false_or_eq_true (fx) with s8_0 | s8_0
          · have s8_0' := s8_0
            rcases Bool.eq_false_or_eq_true (boxHas b q) with s8_1 | s8_1
            · have s8_1' := s8_1
              have hf : sepT t p q = false := by rw [hf0]; exact apart_hit (i := i) (by omega) (by rw [hfx, hfd]; exact s8_0) (by rw [boxAt_eq hb]; exact s8_1)
              refine Tr.seq (Tr.regionK fun K hK => ?_)
              simp (maxSteps := 1000000) [add_add, hib, hif, hb', hfx'', s8_0]
              refine .inl ⟨_, pcall_refBoxHas b q (by rw [hbl b hbm]; exact hr), rfl, ?_⟩
              simp (maxSteps := 1000000) [add_add, s8_1]
              refine hK _ ?_; clear hK K
              refine Tr.cond rfl rfl (fun hq2 => ?_) (fun hq2 => by first | (cases hq2; done) | (simp at hq2; done) | (simp_all; done))
              refine Tr.seq (Tr.regionK fun K hK => ?_)
              simp (maxSteps := 1000000) [add_add]
              refine hK _ ?_; clear hK K
              refine Tr.ret ⟨.inr rfl, ?_, ?_, ?_, ?_⟩ <;> simp [Try.f32, hf]
            have hno : (fl.getD i false && boxHas (boxAt l i) q) = false := by rw [boxAt_eq hb, s8_1, Bool.and_false]
            refine Tr.seq (Tr.regionK fun K hK => ?_)
            simp (maxSteps := 1000000) [add_add, hib, hif, hb', hfx'', s8_0]
            refine .inl ⟨_, pcall_refBoxHas b q (by rw [hbl b hbm]; exact hr), rfl, ?_⟩
            simp (maxSteps := 1000000) [add_add, s8_1]
            refine hK _ ?_; clear hK K
            refine Tr.cond rfl rfl (fun hq3 => by first | (cases hq3; done) | (simp at hq3; done) | (simp_all; done)) (fun hq3 => ?_)
            refine Tr.skip ?_
            refine Tr.regionK fun K hK => ?_
            simp (maxSteps := 1000000) [add_add, w]
            refine hK _ ?_; clear hK K
            refine hI0 _ _ (i + 1) (⟨by omega, fun j hj => (Nat.lt_succ_iff_lt_or_eq.1 hj).elim (hall j) (fun e => by subst e; exact hno)⟩) (by first | (show _ < _; omega) | (simp; omega)) ⟨rfl, ?_, ?_, ?_, ?_⟩ <;> simp [add_add]
          have hno : (fl.getD i false && boxHas (boxAt l i) q) = false := by rw [hfd, s8_0]; rfl
          refine Tr.seq (Tr.regionK fun K hK => ?_)
          simp (maxSteps := 1000000) [add_add, hib, hif, hfx'', s8_0]
          refine hK _ ?_; clear hK K
          refine Tr.cond rfl rfl (fun hq4 => by first | (cases hq4; done) | (simp at hq4; done) | (simp_all; done)) (fun hq4 => ?_)
          refine Tr.skip ?_
          refine Tr.regionK fun K hK => ?_
          simp (maxSteps := 1000000) [add_add, w]
          refine hK _ ?_; clear hK K
          refine hI0 _ _ (i + 1) (⟨by omega, fun j hj => (Nat.lt_succ_iff_lt_or_eq.1 hj).elim (hall j) (fun e => by subst e; exact hno)⟩) (by first | (show _ < _; omega) | (simp; omega)) ⟨rfl, ?_, ?_, ?_, ?_⟩ <;> simp [add_add]
        simp at hq
        refine Tr.exit (exit_s (exit_s (exit_b ?_)))
        have hin : i = t.cells.length := by omega
        have hf : sepT t p q = true := by rw [hf0]; exact apart_miss (fun j hj => by rw [hfx]; exact hall j (by omega))
        refine Tr.seq (Tr.regionK fun K hK => ?_)
        simp (maxSteps := 1000000) [add_add]
        refine hK _ ?_; clear hK K
        refine Tr.ret ⟨.inr rfl, ?_, ?_, ?_, ?_⟩ <;> simp [Try.f32, hf]
      have hf : sepT t p q = false := by unfold sepT; rw [hh]; simp [s2_0]
      refine Tr.seq (Tr.regionK fun K hK => ?_)
      simp (maxSteps := 1000000) [add_add, hfn0]
      refine .inl ⟨_, pcall_refBoxHas t.root q hr, rfl, ?_⟩
      simp (maxSteps := 1000000) [add_add, s2_0]
      refine hK _ ?_; clear hK K
      refine Tr.cond rfl rfl (fun hq5 => ?_) (fun hq5 => by first | (cases hq5; done) | (simp at hq5; done) | (simp_all; done))
      refine Tr.seq (Tr.regionK fun K hK => ?_)
      simp (maxSteps := 1000000) [add_add]
      refine hK _ ?_; clear hK K
      refine Tr.ret ⟨.inr rfl, ?_, ?_, ?_, ?_⟩ <;> simp [Try.f32, hf]
    obtain ⟨l, hh⟩ := Option.isSome_iff_exists.1 s1_0
    have hfl : floodT t p = none := by unfold floodT; rw [hh]; simp [s1_1]
    have hf : sepT t p q = false := by unfold sepT; rw [hh]; simp [s1_1]
    refine Tr.seq (Tr.regionK fun K hK => ?_)
    simp (maxSteps := 1000000) [add_add]
    refine .inl ⟨_, pcall_refFlood t p hr, rfl, ?_⟩
    simp (maxSteps := 1000000) [add_add, hfl, floodP]
    refine hK _ ?_; clear hK K
    refine Tr.seq ?_
    refine Tr.seq (Tr.regionK fun K hK => ?_)
    simp (maxSteps := 1000000) [add_add]
    refine hK _ ?_; clear hK K
    refine Tr.cond rfl rfl (fun hq6 => ?_) (fun hq6 => by first | (cases hq6; done) | (simp at hq6; done) | (simp_all; done))
    refine Tr.seq (Tr.regionK fun K hK => ?_)
    simp (maxSteps := 1000000) [add_add]
    refine hK _ ?_; clear hK K
    refine Tr.ret ⟨.inr rfl, ?_, ?_, ?_, ?_⟩ <;> simp [Try.f32, hf]
  have hh : boxesT t = none := by simpa using s1_0
  have hfl : floodT t p = none := by unfold floodT; rw [hh]; rfl
  have hf : sepT t p q = false := by unfold sepT; rw [hh]
  refine Tr.seq (Tr.regionK fun K hK => ?_)
  simp (maxSteps := 1000000) [add_add]
  refine .inl ⟨_, pcall_refFlood t p hr, rfl, ?_⟩
  simp (maxSteps := 1000000) [add_add, hfl, floodP]
  refine hK _ ?_; clear hK K
  refine Tr.seq ?_
  refine Tr.seq (Tr.regionK fun K hK => ?_)
  simp (maxSteps := 1000000) [add_add]
  refine hK _ ?_; clear hK K
  refine Tr.cond rfl rfl (fun hq7 => ?_) (fun hq7 => by first | (cases hq7; done) | (simp at hq7; done) | (simp_all; done))
  refine Tr.seq (Tr.regionK fun K hK => ?_)
  simp (maxSteps := 1000000) [add_add]
  refine hK _ ?_; clear hK K
  refine Tr.ret ⟨.inr rfl, ?_, ?_, ?_, ?_⟩ <;> simp [Try.f32, hf]
end Go.Proofs.Ytmljpbhmdjpbaaa
namespace Go.Proofs.Ytmljpbhmdjpbaaa
set_option linter.unusedVariables false
set_option linter.unusedSimpArgs false
open Go.PM

theorem wall_meet : meetT wallT [[1], [7]] = some ⟨0, 1, 2, 3⟩ := by decide +kernel
theorem wall_sep7 : sepT wallT [1] [7] = true := by decide +kernel
theorem wall_sep3 : sepT wallT [1] [3] = false := by decide +kernel
theorem wall_size : sizeV wallT = 1 := by decide +kernel
set_option maxRecDepth 8000 in
set_option maxHeartbeats 4000000 in
theorem pcall_awake  :
    PCall Try.prog 15 [] (.b true) := by
  refine walk Try.func15 (by kernel_rfl) rfl 37 rfl (Nat.le_of_ble_eq_true rfl) fun nid _ => ?_
  refine Tr.seq (Tr.regionK fun K hK => ?_)
  simp (maxSteps := 1000000)
  refine hK _ ?_; clear hK K
  refine Tr.seq (Tr.regionK fun K hK => ?_)
  simp (maxSteps := 1000000)
  refine .inl ⟨_, pcall_wall, rfl, ?_⟩
  simp (maxSteps := 1000000) [add_add]
  refine hK _ ?_; clear hK K
  refine Tr.seq (Tr.regionK fun K hK => ?_)
  simp (maxSteps := 1000000) [add_add]
  repeat (first | refine ⟨by omega, ?_⟩ | refine ⟨⟨by omega, by omega⟩, ?_⟩ | refine ⟨rfl, ?_⟩)
  refine .inr ⟨[(nid + 20, ⟨2, 1, upm intD [1]⟩), (nid + 24, ⟨2, 1, upm intD [7]⟩), (nid + 28, ⟨35, 1, [[.own (nid + 20) 1 0 1], [.own (nid + 24) 1 0 1]]⟩)], [nid + 20, nid + 24, nid + 28], fun _ => meetP (some ⟨0, 1, 2, 3⟩), [], [], ⟨HCall.giveF [(nid + 20, ⟨2, 1, upm intD [1]⟩), (nid + 24, ⟨2, 1, upm intD [7]⟩), (nid + 28, ⟨35, 1, [[.own (nid + 20) 1 0 1], [.own (nid + 24) 1 0 1]]⟩)] [(nid + 20, 2, 1, ints [1]), (nid + 24, 2, 1, ints [7]), (nid + 28, 35, 1, qs [[1], [7]])] (by have := pcall_meet wallT [[1], [7]] (by simp); rw [wall_meet] at this; exact this) (by simp [chain, upm, PB.frz, PV.frz]) (by simp [frzL, PV.frz]) (by simp [meetP]) rfl, by first | (simp; done) | (simp; omega), by first | (simp; done) | (simp; omega), by first | (simp; done) | (simp; omega), by first | (simp; done) | (simp; omega), by first | (simp; done) | (simp; omega), by first | (simp; done) | (simp; omega), by first | (simp; done) | (simp; omega), by first | (simp; done) | (simp; omega)⟩, ?_⟩
  simp (maxSteps := 1000000) [add_add, meetP]
  refine hK _ ?_; clear hK K
  refine Tr.seq (Tr.regionK fun K hK => ?_)
  simp (maxSteps := 1000000) [add_add]
  refine .inr ⟨[(nid + 64, ⟨2, 1, upm intD [1]⟩), (nid + 68, ⟨2, 1, upm intD [7]⟩)], [nid + 64, nid + 68], fun _ => .b true, [], [], ⟨HCall.giveF [(nid + 64, ⟨2, 1, upm intD [1]⟩), (nid + 68, ⟨2, 1, upm intD [7]⟩)] [(nid + 64, 2, 1, ints [1]), (nid + 68, 2, 1, ints [7])] (by have := pcall_separates wallT [1] [7] (by simp); rw [wall_sep7] at this; exact this) (by simp [chain, upm]) (by simp [frzL, PV.frz]) rfl rfl, by first | (simp; done) | (simp; omega), by first | (simp; done) | (simp; omega), by first | (simp; done) | (simp; omega), by first | (simp; done) | (simp; omega), by first | (simp; done) | (simp; omega), by first | (simp; done) | (simp; omega), by first | (simp; done) | (simp; omega), by first | (simp; done) | (simp; omega)⟩, ?_⟩
  simp (maxSteps := 1000000) [add_add]
  refine .inr ⟨[(nid + 84, ⟨2, 1, upm intD [1]⟩), (nid + 88, ⟨2, 1, upm intD [3]⟩)], [nid + 84, nid + 88], fun _ => .b false, [], [], ⟨HCall.giveF [(nid + 84, ⟨2, 1, upm intD [1]⟩), (nid + 88, ⟨2, 1, upm intD [3]⟩)] [(nid + 84, 2, 1, ints [1]), (nid + 88, 2, 1, ints [3])] (by have := pcall_separates wallT [1] [3] (by simp); rw [wall_sep3] at this; exact this) (by simp [chain, upm]) (by simp [frzL, PV.frz]) rfl rfl, by first | (simp; done) | (simp; omega), by first | (simp; done) | (simp; omega), by first | (simp; done) | (simp; omega), by first | (simp; done) | (simp; omega), by first | (simp; done) | (simp; omega), by first | (simp; done) | (simp; omega), by first | (simp; done) | (simp; omega), by first | (simp; done) | (simp; omega)⟩, ?_⟩
  simp (maxSteps := 1000000) [add_add]
  refine .inl ⟨_, (by have := pcall_size wallT (by simp); rw [wall_size] at this; exact this), rfl, ?_⟩
  simp (maxSteps := 1000000) [add_add]
  refine hK _ ?_; clear hK K
  refine Tr.ret ⟨.inr rfl, ?_, ?_, ?_, ?_⟩ <;> simp [Try.f15]
end Go.Proofs.Ytmljpbhmdjpbaaa
