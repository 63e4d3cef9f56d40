/- The walk through the function that compares packed lists. -/
import Derived.Test.YtfeabgjcnnabdaaW4
namespace Go.Proofs.Ytfeabgjcnnabdaa
open Go.PM

def fitsU (l : List Us) : Prop := l.length ≤ 1048576 ∧ ∀ u ∈ l, u.ns.length ≤ 1048576

theorem pcall_samePacked (t t2 : List V3) (us us2 : List Us) (ht : t.length ≤ 1048576) (ht2 : t2.length ≤ 1048576) (hu : fitsU us) (hu2 : fitsU us2) : PCall Try.prog 17 [packD t us, packD t2 us2] (.b (decide (t = t2 ∧ us = us2))) := by
  have hu1 := hu.1
  refine walk Try.func17 (by kernel_rfl) rfl 60 rfl (Nat.le_of_ble_eq_true rfl) fun nid _ => ?_
  refine Tr.seq (Tr.regionK fun K hK => ?_)
  simp [Try.f17, add_add]
  refine hK _ (Tr.seq (Tr.seq (Tr.regionK fun K1 hK1 => ?_))); clear hK K
  simp [Try.f17, add_add]
  refine .inl ⟨_, pcall_same22 t t2 ht ht2, rfl, ?_⟩
  by_cases htt : t = t2
  · simp [add_add, htt]
    refine hK1 _ (Tr.cond rfl rfl ?_ ?_) <;> clear hK1 K1 <;> intro hq <;> simp at hq
    · refine Tr.seq (Tr.regionK fun K hK => ?_)
      simp [Try.f17]
      have hne : ¬ (t = t2 ∧ us = us2) := fun e => hq (by rw [e.2])
      refine hK _ (Tr.ret ⟨.inr rfl, ?_, ?_, ?_, ?_⟩) <;> simp [Try.f17, hne]
    refine Tr.skip (Tr.seq (Tr.seq (Tr.regionK fun K hK => ?_)))
    simp [Try.f17, add_add]
    refine hK _ (Tr.block (Tr.loopK 2 (fun i : Nat => ([(2, .ptr nid 0 0), (3, .ptr (nid + 1) 0 0), (5, .i i)], [(nid, ⟨26, 2, [[.d (.imm (vecs t2)), .d (.imm (uses us))]]⟩), (nid + 1, ⟨26, 2, [[.d (.imm (vecs t2)), .d (.imm (uses us2))]]⟩)])) (fun i => i ≤ us.length ∧ us.take i = us2.take i) (fun i => us.length - i) ⟨0, [nid, nid + 4], ⟨by omega, rfl⟩, ⟨rfl, ?_, ?_, ?_, ?_⟩⟩ ?_)) <;> clear hK K
    · simp
    · simp
    · simp
    · simp
    rintro i ⟨hi, htk⟩
    refine Tr.seq (Tr.seq (Tr.regionK fun K hK => ?_))
    simp [Try.f17]
    refine hK _ (Tr.cond rfl rfl ?_ ?_) <;> clear hK K <;> intro hq2 <;> simp at hq2
    · have hib : i < us2.length := by omega
      obtain ⟨x, hx, hxx⟩ : ∃ x, us[i]? = some x ∧ us[i] = x := ⟨us[i], List.getElem?_eq_getElem hq2, rfl⟩
      obtain ⟨y, hy, hyy⟩ : ∃ y, us2[i]? = some y ∧ us2[i] = y := ⟨us2[i], List.getElem?_eq_getElem hib, rfl⟩
      refine Tr.skip (Tr.seq (Tr.block (Tr.seq (Tr.regionE mixed (by kernel_rfl) fun K hK => ?_))))
      simp [Try.f17, hx, hy, hxx, hyy, hq2, hib, add_add, Region.binds]
      refine hK _ (Tr.seq (Tr.regionK fun K1 hK1 => ?_)); clear hK K
      by_cases h1 : x.d = y.d
      · by_cases h2 : x.i = y.i
        · simp [Try.f17, add_add, h1, h2]
          refine .inl ⟨_, pcall_same23 x.ns y.ns (hu.2 x (List.mem_of_getElem? hx)) (hu2.2 y (List.mem_of_getElem? hy)), rfl, ?_⟩
          simp
          refine hK1 _ (Tr.cond rfl rfl ?_ ?_) <;> clear hK1 K1 <;> intro hq3 <;> simp at hq3
          · refine Tr.seq (Tr.regionK fun K hK => ?_)
            simp [Try.f17]
            have hne : ¬ (t = t2 ∧ us = us2) := fun e => by have := e.2; subst this; rw [hx] at hy; cases hy; exact hq3 rfl
            refine hK _ (Tr.ret ⟨.inr rfl, ?_, ?_, ?_, ?_⟩) <;> simp [Try.f17, hne]
          · have hxy : x = y := (Us.eq_iff x y).2 ⟨h1, h2, hq3⟩
            refine Tr.skip (Tr.regionK fun K hK => ?_)
            have w : IntKind.i64.wrap ((i : Int) + 1) = (i : Int) + 1 := wrapIn (by omega) (by omega)
            simp [Try.f17, add_add, w]
            refine hK _ ⟨i + 1, [nid, nid + 1], ⟨⟨hq2, by rw [List.take_add_one, List.take_add_one, htk, hx, hy, hxy]⟩, by show _ < _; omega⟩, ⟨rfl, ?_, ?_, ?_, ?_⟩⟩ <;> clear hK K <;> simp [add_add]
        · simp [Try.f17, add_add, h1, h2]
          refine hK1 _ (Tr.cond rfl rfl ?_ ?_) <;> clear hK1 K1 <;> intro hq3 <;> simp at hq3
          refine Tr.seq (Tr.regionK fun K hK => ?_)
          simp [Try.f17]
          have hne : ¬ (t = t2 ∧ us = us2) := fun e => by have := e.2; subst this; rw [hx] at hy; cases hy; exact h2 rfl
          refine hK _ (Tr.ret ⟨.inr rfl, ?_, ?_, ?_, ?_⟩) <;> simp [Try.f17, hne]
      · simp [Try.f17, add_add, h1]
        refine hK1 _ (Tr.cond rfl rfl ?_ ?_) <;> clear hK1 K1 <;> intro hq3 <;> simp at hq3
        refine Tr.seq (Tr.regionK fun K hK => ?_)
        simp [Try.f17]
        have hne : ¬ (t = t2 ∧ us = us2) := fun e => by have := e.2; subst this; rw [hx] at hy; cases hy; exact h1 rfl
        refine hK _ (Tr.ret ⟨.inr rfl, ?_, ?_, ?_, ?_⟩) <;> simp [Try.f17, hne]
    · have hia : i = us.length := by omega
      subst hia
      have hab : us = us2 := by
        rw [List.take_length] at htk
        rw [htk, List.take_of_length_le (by omega)]
      refine Tr.exit (exit_s (exit_s (exit_b ?_)))
      refine Tr.seq (Tr.regionK fun K hK => ?_)
      simp [Try.f17]
      refine hK _ (Tr.ret ⟨.inr rfl, ?_, ?_, ?_, ?_⟩) <;> simp [Try.f17, hab, htt]
  · simp [add_add, htt]
    refine hK1 _ (Tr.cond rfl rfl ?_ ?_) <;> clear hK1 K1 <;> intro hq <;> simp at hq
    refine Tr.seq (Tr.regionK fun K hK => ?_)
    simp [Try.f17]
    have hne : ¬ (t = t2 ∧ us = us2) := fun e => htt e.1
    refine hK _ (Tr.ret ⟨.inr rfl, ?_, ?_, ?_, ?_⟩) <;> simp [Try.f17, hne]
end Go.Proofs.Ytfeabgjcnnabdaa
