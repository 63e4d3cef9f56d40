/- The walks through the functions that compare. -/
import Derived.Test.YtfeabgjcnnabdaaW2
namespace Go.Proofs.Ytfeabgjcnnabdaa
open Go.PM

theorem pcall_same22 (a b : List V3) (ha : a.length ≤ 1048576) (hb : b.length ≤ 1048576) : PCall Try.prog 22 [.d (.imm (vecs a)), .d (.imm (vecs b))] (.b (decide (a = b))) := by
  refine walk Try.func22 (by kernel_rfl) rfl 26 rfl (Nat.le_of_ble_eq_true rfl) fun nid _ => ?_
  refine Tr.seq (Tr.regionK fun K hK => ?_)
  simp [Try.f22]
  refine hK _ (Tr.seq (Tr.seq (Tr.regionK fun K1 hK1 => ?_))); clear hK K
  simp [Try.f22]
  refine hK1 _ (Tr.cond rfl rfl ?_ ?_) <;> clear hK1 K1 <;> intro hq <;> simp at hq
  · refine Tr.seq (Tr.regionK fun K hK => ?_)
    simp [Try.f22]
    have : a ≠ b := fun e => hq (by rw [e])
    refine hK _ (Tr.ret ⟨.inr rfl, ?_, ?_, ?_, ?_⟩) <;> simp [Try.f22, this]
  refine Tr.skip (Tr.seq (Tr.seq (Tr.regionK fun K hK => ?_)))
  simp [Try.f22]
  refine hK _ (Tr.block (Tr.loopK 0 (fun i : Nat => ([(0, .d (.imm (vecs a))), (1, .d (.imm (vecs b))), (5, .i i)], [])) (fun i => i ≤ a.length ∧ a.take i = b.take i) (fun i => a.length - i) ⟨0, [], ⟨by omega, rfl⟩, ⟨rfl, ?_, ?_, ?_, ?_⟩⟩ ?_)) <;> clear hK K
  · simp
  · simp
  · simp
  · simp
  rintro i ⟨hi, htk⟩
  refine Tr.seq (Tr.seq (Tr.regionK fun K hK => ?_))
  simp [Try.f22]
  refine hK _ (Tr.cond rfl rfl ?_ ?_) <;> clear hK K <;> intro hq2 <;> simp at hq2
  · have hib : i < b.length := by omega
    obtain ⟨x, hx, hxx⟩ : ∃ x, a[i]? = some x ∧ a[i] = x := ⟨a[i], List.getElem?_eq_getElem hq2, rfl⟩
    obtain ⟨y, hy, hyy⟩ : ∃ y, b[i]? = some y ∧ b[i] = y := ⟨b[i], List.getElem?_eq_getElem hib, rfl⟩
    refine Tr.skip (Tr.seq (Tr.block (Tr.seq (Tr.regionE mixed (by kernel_rfl) fun K hK => ?_))))
    simp [Try.f22, hx, hy, hxx, hyy, hq2, hib]
    refine hK _ (Tr.cond rfl rfl ?_ ?_) <;> clear hK K <;> intro hq3 <;> simp at hq3
    · have : a ≠ b := fun e => by subst e; rw [hx] at hy; cases hy; simp at hq3
      refine Tr.seq (Tr.regionK fun K hK => ?_)
      simp [Try.f22]
      refine hK _ (Tr.ret ⟨.inr rfl, ?_, ?_, ?_, ?_⟩) <;> simp [Try.f22, this]
    · have hq3 : x = y := by cases x; cases y; simpa using hq3
      refine Tr.skip (Tr.regionK fun K hK => ?_)
      have w : IntKind.i64.wrap ((i : Int) + 1) = (i : Int) + 1 := wrapIn (by omega) (by omega)
      simp [Try.f22, w]
      refine hK _ ⟨i + 1, [], ⟨⟨hq2, by rw [List.take_add_one, List.take_add_one, htk, hx, hy, hq3]⟩, by show _ < _; omega⟩, ⟨rfl, ?_, ?_, ?_, ?_⟩⟩ <;> clear hK K <;> simp
  · have hia : i = a.length := by omega
    subst hia
    have hab : a = b := by
      rw [List.take_length] at htk
      rw [htk, List.take_of_length_le (by omega)]
    refine Tr.exit (exit_s (exit_s (exit_b ?_)))
    refine Tr.seq (Tr.regionK fun K hK => ?_)
    simp [Try.f22]
    refine hK _ (Tr.ret ⟨.inr rfl, ?_, ?_, ?_, ?_⟩) <;> simp [Try.f22, hab]

theorem pcall_same23 (a b : List Int) (ha : a.length ≤ 1048576) (hb : b.length ≤ 1048576) : PCall Try.prog 23 [.d (.imm (ints a)), .d (.imm (ints b))] (.b (decide (a = b))) := by
  refine walk Try.func23 (by kernel_rfl) rfl 26 rfl (Nat.le_of_ble_eq_true rfl) fun nid _ => ?_
  refine Tr.seq (Tr.regionK fun K hK => ?_)
  simp [Try.f23]
  refine hK _ (Tr.seq (Tr.seq (Tr.regionK fun K1 hK1 => ?_))); clear hK K
  simp [Try.f23]
  refine hK1 _ (Tr.cond rfl rfl ?_ ?_) <;> clear hK1 K1 <;> intro hq <;> simp at hq
  · refine Tr.seq (Tr.regionK fun K hK => ?_)
    simp [Try.f23]
    have : a ≠ b := fun e => hq (by rw [e])
    refine hK _ (Tr.ret ⟨.inr rfl, ?_, ?_, ?_, ?_⟩) <;> simp [Try.f23, this]
  refine Tr.skip (Tr.seq (Tr.seq (Tr.regionK fun K hK => ?_)))
  simp [Try.f23]
  refine hK _ (Tr.block (Tr.loopK 0 (fun i : Nat => ([(0, .d (.imm (ints a))), (1, .d (.imm (ints b))), (5, .i i)], [])) (fun i => i ≤ a.length ∧ a.take i = b.take i) (fun i => a.length - i) ⟨0, [], ⟨by omega, rfl⟩, ⟨rfl, ?_, ?_, ?_, ?_⟩⟩ ?_)) <;> clear hK K
  · simp
  · simp
  · simp
  · simp
  rintro i ⟨hi, htk⟩
  refine Tr.seq (Tr.seq (Tr.regionK fun K hK => ?_))
  simp [Try.f23]
  refine hK _ (Tr.cond rfl rfl ?_ ?_) <;> clear hK K <;> intro hq2 <;> simp at hq2
  · have hib : i < b.length := by omega
    obtain ⟨x, hx, hxx⟩ : ∃ x, a[i]? = some x ∧ a[i] = x := ⟨a[i], List.getElem?_eq_getElem hq2, rfl⟩
    obtain ⟨y, hy, hyy⟩ : ∃ y, b[i]? = some y ∧ b[i] = y := ⟨b[i], List.getElem?_eq_getElem hib, rfl⟩
    refine Tr.skip (Tr.seq (Tr.block (Tr.seq (Tr.regionE mixed (by kernel_rfl) fun K hK => ?_))))
    simp [Try.f23, hx, hy, hxx, hyy, hq2, hib]
    refine hK _ (Tr.cond rfl rfl ?_ ?_) <;> clear hK K <;> intro hq3 <;> simp at hq3
    · have : a ≠ b := fun e => by subst e; rw [hx] at hy; cases hy; exact hq3 rfl
      refine Tr.seq (Tr.regionK fun K hK => ?_)
      simp [Try.f23]
      refine hK _ (Tr.ret ⟨.inr rfl, ?_, ?_, ?_, ?_⟩) <;> simp [Try.f23, this]
    · skip
      refine Tr.skip (Tr.regionK fun K hK => ?_)
      have w : IntKind.i64.wrap ((i : Int) + 1) = (i : Int) + 1 := wrapIn (by omega) (by omega)
      simp [Try.f23, w]
      refine hK _ ⟨i + 1, [], ⟨⟨hq2, by rw [List.take_add_one, List.take_add_one, htk, hx, hy, hq3]⟩, by show _ < _; omega⟩, ⟨rfl, ?_, ?_, ?_, ?_⟩⟩ <;> clear hK K <;> simp
  · have hia : i = a.length := by omega
    subst hia
    have hab : a = b := by
      rw [List.take_length] at htk
      rw [htk, List.take_of_length_le (by omega)]
    refine Tr.exit (exit_s (exit_s (exit_b ?_)))
    refine Tr.seq (Tr.regionK fun K hK => ?_)
    simp [Try.f23]
    refine hK _ (Tr.ret ⟨.inr rfl, ?_, ?_, ?_, ?_⟩) <;> simp [Try.f23, hab]

abbrev pcP (p : Pc) : PV := .agg [.i p.d, .i p.i, .d (.imm (vecs p.ns))]
theorem Pc.eq_iff (x y : Pc) : x = y ↔ x.d = y.d ∧ x.i = y.i ∧ x.ns = y.ns := by cases x; cases y; simp
instance : DecidableEq Pc := fun x y => decidable_of_iff _ (Pc.eq_iff x y).symm
theorem Us.eq_iff (x y : Us) : x = y ↔ x.d = y.d ∧ x.i = y.i ∧ x.ns = y.ns := by cases x; cases y; simp
instance : DecidableEq Us := fun x y => decidable_of_iff _ (Us.eq_iff x y).symm

theorem pcall_samePiece (x y : Pc) (hx : x.ns.length ≤ 1048576) (hy : y.ns.length ≤ 1048576) : PCall Try.prog 20 [pcP x, pcP y] (.b (decide (x = y))) := by
  refine walk Try.func20 (by kernel_rfl) rfl 24 rfl (Nat.le_of_ble_eq_true rfl) fun nid _ => ?_
  refine Tr.seq (Tr.regionK fun K hK => ?_)
  simp [Try.f20, add_add]
  refine hK _ (Tr.seq (Tr.regionK fun K1 hK1 => ?_)); clear hK K
  by_cases h1 : x.d = y.d
  · by_cases h2 : x.i = y.i
    · simp [Try.f20, add_add, h1, h2]
      refine .inl ⟨_, pcall_same22 x.ns y.ns hx hy, rfl, ?_⟩
      simp
      have he : decide (x.ns = y.ns) = decide (x = y) := by simp [Pc.eq_iff, h1, h2]
      refine hK1 _ (Tr.ret ⟨.inr rfl, ?_, ?_, ?_, ?_⟩) <;> simp [Try.f20, he]
    · simp [Try.f20, add_add, h1, h2]
      have hne : x ≠ y := fun e => h2 (by rw [e])
      refine hK1 _ (Tr.ret ⟨.inr rfl, ?_, ?_, ?_, ?_⟩) <;> simp [Try.f20, hne]
  · simp [Try.f20, add_add, h1]
    have hne : x ≠ y := fun e => h1 (by rw [e])
    refine hK1 _ (Tr.ret ⟨.inr rfl, ?_, ?_, ?_, ?_⟩) <;> simp [Try.f20, hne]
end Go.Proofs.Ytfeabgjcnnabdaa
