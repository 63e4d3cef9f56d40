/- The walks through the functions that compare lists of pieces, and that count. -/
import Derived.Test.YtfeabgjcnnabdaaW3
namespace Go.Proofs.Ytfeabgjcnnabdaa
open Go.PM

def fits (l : List Pc) : Prop := l.length ≤ 1048576 ∧ ∀ p ∈ l, p.ns.length ≤ 1048576

theorem pcall_samePieces (a b : List Pc) (ha : fits a) (hb : fits b) : PCall Try.prog 12 [.d (.imm (pieces a)), .d (.imm (pieces b))] (.b (decide (a = b))) := by
  have ha1 := ha.1
  refine walk Try.func12 (by kernel_rfl) rfl 27 rfl (Nat.le_of_ble_eq_true rfl) fun nid _ => ?_
  refine Tr.seq (Tr.regionK fun K hK => ?_)
  simp [Try.f12]
  refine hK _ (Tr.seq (Tr.seq (Tr.regionK fun K1 hK1 => ?_))); clear hK K
  simp [Try.f12]
  refine hK1 _ (Tr.cond rfl rfl ?_ ?_) <;> clear hK1 K1 <;> intro hq <;> simp at hq
  · refine Tr.seq (Tr.regionK fun K hK => ?_)
    simp [Try.f12]
    have : a ≠ b := fun e => hq (by rw [e])
    refine hK _ (Tr.ret ⟨.inr rfl, ?_, ?_, ?_, ?_⟩) <;> simp [Try.f12, this]
  refine Tr.skip (Tr.seq (Tr.seq (Tr.regionK fun K hK => ?_)))
  simp [Try.f12]
  refine hK _ (Tr.block (Tr.loopK 0 (fun i : Nat => ([(0, .d (.imm (pieces a))), (1, .d (.imm (pieces b))), (5, .i i)], [])) (fun i => i ≤ a.length ∧ a.take i = b.take i) (fun i => a.length - i) ⟨0, [], ⟨by omega, rfl⟩, ⟨rfl, ?_, ?_, ?_, ?_⟩⟩ ?_)) <;> clear hK K
  · simp
  · simp
  · simp
  · simp
  rintro i ⟨hi, htk⟩
  refine Tr.seq (Tr.seq (Tr.regionK fun K hK => ?_))
  simp [Try.f12]
  refine hK _ (Tr.cond rfl rfl ?_ ?_) <;> clear hK K <;> intro hq2 <;> simp at hq2
  · have hib : i < b.length := by omega
    obtain ⟨x, hx, hxx⟩ : ∃ x, a[i]? = some x ∧ a[i] = x := ⟨a[i], List.getElem?_eq_getElem hq2, rfl⟩
    obtain ⟨y, hy, hyy⟩ : ∃ y, b[i]? = some y ∧ b[i] = y := ⟨b[i], List.getElem?_eq_getElem hib, rfl⟩
    refine Tr.skip (Tr.seq (Tr.block (Tr.seq (Tr.regionE mixed (by kernel_rfl) fun K hK => ?_))))
    simp [Try.f12, hx, hy, hxx, hyy, hq2, hib]
    refine .inl ⟨_, pcall_samePiece x y (ha.2 x (List.mem_of_getElem? hx)) (hb.2 y (List.mem_of_getElem? hy)), ?_⟩
    simp
    refine hK _ (Tr.cond rfl rfl ?_ ?_) <;> clear hK K <;> intro hq3 <;> simp at hq3
    · have : a ≠ b := fun e => by subst e; rw [hx] at hy; cases hy; exact hq3 rfl
      refine Tr.seq (Tr.regionK fun K hK => ?_)
      simp [Try.f12]
      refine hK _ (Tr.ret ⟨.inr rfl, ?_, ?_, ?_, ?_⟩) <;> simp [Try.f12, this]
    · refine Tr.skip (Tr.regionK fun K hK => ?_)
      have w : IntKind.i64.wrap ((i : Int) + 1) = (i : Int) + 1 := wrapIn (by omega) (by omega)
      simp [Try.f12, w]
      refine hK _ ⟨i + 1, [], ⟨⟨hq2, by rw [List.take_add_one, List.take_add_one, htk, hx, hy, hq3]⟩, by show _ < _; omega⟩, ⟨rfl, ?_, ?_, ?_, ?_⟩⟩ <;> clear hK K <;> simp
  · have hia : i = a.length := by omega
    subst hia
    have hab : a = b := by
      rw [List.take_length] at htk
      rw [htk, List.take_of_length_le (by omega)]
    refine Tr.exit (exit_s (exit_s (exit_b ?_)))
    refine Tr.seq (Tr.regionK fun K hK => ?_)
    simp [Try.f12]
    refine hK _ (Tr.ret ⟨.inr rfl, ?_, ?_, ?_, ?_⟩) <;> simp [Try.f12, hab]

/-- How many numbers a packed list holds. -/
def count : List Us → Nat
  | [] => 0
  | u :: r => u.ns.length + count r
theorem count_append (a b : List Us) : count (a ++ b) = count a + count b := by
  induction a with
  | nil => simp [count]
  | cons x a ih => simp [count, ih]; omega
def sizeI (t : List V3) (us : List Us) : Int := 3 * (t.length : Int) + 2 * (us.length : Int) + (count us : Int)
theorem count_take {us : List Us} {i : Nat} {u : Us} (h : us[i]? = some u) : count (us.take (i + 1)) = count (us.take i) + u.ns.length := by
  rw [List.take_add_one, h, count_append]
  simp [count]
theorem count_le (us : List Us) (i : Nat) : count (us.take i) ≤ count us := by
  have := count_append (us.take i) (us.drop i)
  rw [List.take_append_drop] at this
  omega

theorem pcall_size (t : List V3) (us : List Us) (ht : t.length ≤ 1048576) (hu : us.length ≤ 1048576) (hc : count us ≤ 4611686018427387904) : PCall Try.prog 15 [packD t us] (.i (sizeI t us)) := by
  refine walk Try.func15 (by kernel_rfl) rfl 29 rfl (Nat.le_of_ble_eq_true rfl) fun nid _ => ?_
  refine Tr.seq (Tr.regionK fun K hK => ?_)
  simp [Try.f15]
  refine hK _ (Tr.seq (Tr.regionK fun K1 hK1 => ?_)); clear hK K
  have w1 : IntKind.i64.wrap (3 * (t.length : Int)) = 3 * (t.length : Int) := wrapIn (by omega) (by omega)
  have w2 : IntKind.i64.wrap (2 * (us.length : Int)) = 2 * (us.length : Int) := wrapIn (by omega) (by omega)
  have w3 : IntKind.i64.wrap (3 * (t.length : Int) + 2 * (us.length : Int)) = 3 * (t.length : Int) + 2 * (us.length : Int) := wrapIn (by omega) (by omega)
  simp [Try.f15, w1, w2, w3]
  refine hK1 _ (Tr.seq (Tr.seq (Tr.regionK fun K hK => ?_))); clear hK1 K1
  simp [Try.f15]
  refine hK _ (Tr.block (Tr.loopK 0 (fun i : Nat => ([(3, .i (3 * (t.length : Int) + 2 * (us.length : Int) + (count (us.take i) : Int))), (16, .d (.imm (uses us))), (17, .i us.length), (18, .i i)], [])) (fun i => i ≤ us.length) (fun i => us.length - i) ⟨0, [], by omega, ⟨rfl, ?_, ?_, ?_, ?_⟩⟩ ?_)) <;> clear hK K
  · simp
  · simp
  · simp [count]
  · simp
  intro i hi
  refine Tr.seq (Tr.regionK fun K hK => ?_)
  simp [Try.f15]
  refine hK _ (Tr.seq (Tr.cond rfl rfl ?_ ?_)) <;> clear hK K <;> intro hq <;> simp at hq
  · obtain ⟨u, hx, hxx⟩ : ∃ u, us[i]? = some u ∧ us[i] = u := ⟨us[i], List.getElem?_eq_getElem hq, rfl⟩
    refine Tr.skip (Tr.seq (Tr.block (Tr.seq (Tr.regionK fun K hK => ?_))))
    simp [Try.f15, hx, hxx, hq, add_add]
    refine hK _ (Tr.regionK fun K1 hK1 => ?_); clear hK K
    have hct := count_take hx
    have hcl := count_le us (i + 1)
    have w4 : IntKind.i64.wrap (3 * (t.length : Int) + 2 * (us.length : Int) + (count (us.take i) : Int) + (u.ns.length : Int)) = 3 * (t.length : Int) + 2 * (us.length : Int) + (count (us.take (i + 1)) : Int) := by rw [wrapIn (by omega) (by omega)]; omega
    simp [Try.f15, add_add, w4]
    refine hK1 _ (Tr.regionK fun K hK => ?_); clear hK1 K1
    have w : IntKind.i64.wrap ((i : Int) + 1) = (i : Int) + 1 := wrapIn (by omega) (by omega)
    simp [Try.f15, w]
    refine hK _ ⟨i + 1, [], ⟨hq, by show _ < _; omega⟩, ⟨rfl, ?_, ?_, ?_, ?_⟩⟩ <;> clear hK K <;> simp
  · have hia : i = us.length := by omega
    subst hia
    refine Tr.exit (exit_s (exit_s (exit_b ?_)))
    refine Tr.seq (Tr.regionK fun K hK => ?_)
    simp [Try.f15]
    refine hK _ (Tr.ret ⟨.inr rfl, ?_, ?_, ?_, ?_⟩) <;> simp [Try.f15, sizeI]

theorem pcall_refSize (t : List V3) (us : List Us) (ht : t.length ≤ 1048576) (hu : us.length ≤ 1048576) (hc : count us ≤ 4611686018427387904) : PCall Try.prog 18 [packD t us] (.i (sizeI t us)) := by
  refine walk Try.func18 (by kernel_rfl) rfl 27 rfl (Nat.le_of_ble_eq_true rfl) fun nid _ => ?_
  refine Tr.seq (Tr.regionK fun K hK => ?_)
  simp [Try.f18]
  refine hK _ (Tr.seq (Tr.regionK fun K1 hK1 => ?_)); clear hK K
  have w1 : IntKind.i64.wrap (3 * (t.length : Int)) = 3 * (t.length : Int) := wrapIn (by omega) (by omega)
  simp [Try.f18, w1]
  refine hK1 _ (Tr.seq (Tr.seq (Tr.regionK fun K hK => ?_))); clear hK1 K1
  simp [Try.f18]
  refine hK _ (Tr.block (Tr.loopK 1 (fun i : Nat => ([(1, .ptr nid 0 0), (3, .i (3 * (t.length : Int) + 2 * (i : Int) + (count (us.take i) : Int))), (4, .i i)], [(nid, ⟨26, 2, [[.d (.imm (vecs t)), .d (.imm (uses us))]]⟩)])) (fun i => i ≤ us.length) (fun i => us.length - i) ⟨0, [nid], by omega, ⟨rfl, ?_, ?_, ?_, ?_⟩⟩ ?_)) <;> clear hK K
  · simp
  · simp
  · simp [count]
  · simp
  intro i hi
  refine Tr.seq (Tr.seq (Tr.regionK fun K hK => ?_))
  simp [Try.f18]
  refine hK _ (Tr.cond rfl rfl ?_ ?_) <;> clear hK K <;> intro hq <;> simp at hq
  · obtain ⟨u, hx, hxx⟩ : ∃ u, us[i]? = some u ∧ us[i] = u := ⟨us[i], List.getElem?_eq_getElem hq, rfl⟩
    have hct := count_take hx
    have hcl := count_le us (i + 1)
    have w2 : IntKind.i64.wrap (2 + (u.ns.length : Int)) = 2 + (u.ns.length : Int) := wrapIn (by omega) (by omega)
    have w4 : IntKind.i64.wrap (3 * (t.length : Int) + 2 * (i : Int) + (count (us.take i) : Int) + (2 + (u.ns.length : Int))) = 3 * (t.length : Int) + 2 * ((i : Int) + 1) + (count (us.take (i + 1)) : Int) := by rw [wrapIn (by omega) (by omega)]; omega
    refine Tr.skip (Tr.seq (Tr.block (Tr.regionK fun K hK => ?_)))
    simp [Try.f18, hx, hxx, hq, add_add, w2, w4]
    refine hK _ (Tr.regionK fun K1 hK1 => ?_); clear hK K
    have w : IntKind.i64.wrap ((i : Int) + 1) = (i : Int) + 1 := wrapIn (by omega) (by omega)
    simp [Try.f18, w]
    refine hK1 _ ⟨i + 1, [nid], ⟨hq, by show _ < _; omega⟩, ⟨rfl, ?_, ?_, ?_, ?_⟩⟩ <;> clear hK1 K1 <;> simp
  · have hia : i = us.length := by omega
    subst hia
    refine Tr.exit (exit_s (exit_s (exit_b ?_)))
    refine Tr.seq (Tr.regionK fun K hK => ?_)
    simp [Try.f18]
    refine hK _ (Tr.ret ⟨.inr rfl, ?_, ?_, ?_, ?_⟩) <;> simp [Try.f18, sizeI]
end Go.Proofs.Ytfeabgjcnnabdaa
