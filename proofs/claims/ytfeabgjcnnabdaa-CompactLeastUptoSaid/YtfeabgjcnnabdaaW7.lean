/- The walk through the function that makes pieces. -/
import Derived.Test.YtfeabgjcnnabdaaW2
import Derived.Test.YtfeabgjcnnabdaaPm32
namespace Go.Proofs.Ytfeabgjcnnabdaa
open Go.PM

theorem vec_snoc1 (l : List V3) (a b c : Int) : upm vecD l ++ [[.i a, .i b, .i c]] = upm vecD (l ++ [⟨a, b, c⟩]) := by simp [upm]

def nrm (l : List Int) : Nat → Nat → List V3 × Nat
  | 0, j => ([], j)
  | c + 1, j => (⟨nextV l j 3, nextV l (nextN l j) 2, 1⟩ :: (nrm l c (nextN l (nextN l j))).1, (nrm l c (nextN l (nextN l j))).2)
def onePc (l : List Int) (j : Nat) : Pc × Nat :=
  (⟨nextV l j 4, nextV l (nextN l j) 9, (nrm l (nextV l (nextN l (nextN l j)) 4).toNat (nextN l (nextN l (nextN l j)))).1⟩, (nrm l (nextV l (nextN l (nextN l j)) 4).toNat (nextN l (nextN l (nextN l j)))).2)
def pcs (l : List Int) : Nat → Nat → List Pc
  | 0, _ => []
  | c + 1, j => (onePc l j).1 :: pcs l c (onePc l j).2
def someL (l : List Int) : List Pc := pcs l (nextV l 0 7).toNat (nextN l 0)

theorem nextN_le (l : List Int) {j : Nat} (h : j ≤ l.length) : nextN l j ≤ l.length := by unfold nextN; split <;> omega
theorem nextV_rng (l : List Int) (j : Nat) {k : Int} (hk : 0 < k) : 0 ≤ nextV l j k ∧ nextV l j k < k := by
  unfold nextV
  split
  · exact ⟨Int.emod_nonneg _ (by omega), Int.emod_lt_of_pos _ hk⟩
  · omega
theorem nrm_le (l : List Int) : ∀ (c : Nat) {j : Nat}, j ≤ l.length → (nrm l c j).2 ≤ l.length
  | 0, j, h => h
  | c + 1, j, h => nrm_le l c (nextN_le l (nextN_le l h))

theorem hcall_some (l : List Int) (hl : ∀ x ∈ l, -9223372036854775808 ≤ x ∧ x ≤ 9223372036854775807) (hlen : l.length ≤ 1048576) : HCall Try.prog 6 [.d (.imm (ints l))] [] [] (fun n => .own n 3 0 (someL l).length) [] [⟨45, 3, upm pieceD (someL l)⟩] := by
  have nx := fun (j s : Nat) (k : Int) (hj : j ≤ l.length) (hk : 0 < k) (hk2 : k ≤ 4611686018427387904) => hcall_next l j s k hl hlen hj hk hk2
  refine walkN Try.func6 (by kernel_rfl) rfl 42 rfl (Nat.le_of_ble_eq_true rfl) fun nid _ => ?_
  refine Tr.seq (Tr.regionK fun K hK => ?_)
  simp [Try.f6]
  refine hK _ (Tr.seq (Tr.regionK fun K1 hK1 => ?_)); clear hK K
  simp [Try.f6]
  refine .inr ⟨[], [], fun n => .ptr n 0 0, [], [srcRow l 0], ⟨pcall_from l, by simp, by simp, by simp, by simp, by simp, by simp, by simp, by simp⟩, ?_⟩
  simp [add_add]
  refine hK1 _ (Tr.seq (Tr.regionK fun K hK => ?_)); clear hK1 K1
  simp [Try.f6]
  refine hK _ (Tr.seq (Tr.seq (Tr.regionK fun K1 hK1 => ?_))); clear hK K
  simp [Try.f6, add_add]
  refine .inr ⟨[(nid + 8, srcRow l 0)], [nid + 8], fun _ => .i (nextV l 0 7), [(nid + 8, srcRow l (nextN l 0))], [], ⟨nx 0 (nid + 8) 7 (by omega) (by omega) (by omega), by simp, by simp, by simp, by simp, by simp, by simp, by simp, by simp⟩, ?_⟩
  simp [add_add]
  have hr := nextV_rng l 0 (k := 7) (by omega)
  obtain ⟨c0, hc0⟩ : ∃ c0 : Nat, nextV l 0 7 = (c0 : Int) := ⟨(nextV l 0 7).toNat, by omega⟩
  have hsome : someL l = pcs l c0 (nextN l 0) := by unfold someL; rw [hc0]; simp
  have hn0 : nextN l 0 ≤ l.length := nextN_le l (by omega)
  rw [hc0] at hr ⊢
  refine hK1 _ (Tr.bump fun m hm => Tr.toSt1 45 3 [(3, .ptr (nid + 8) 0 0), (4, .own m 3 0 0), (5, .i c0)] [(nid + 8, srcRow l (nextN l 0)), (m, ⟨45, 3, upm pieceD []⟩)] ?_ ?_ ?_) <;> clear hK1 K1 <;> simp [add_add] at hm
  · simp
  · have e1 : nid + 8 ≠ m := by omega
    simp [e1]
  refine Tr.block (Tr.loopK 2 (fun x : Nat × Nat × List Pc => ([(3, .ptr nid 0 0), (4, .own (nid + 1) 3 0 x.2.2.length), (5, .i x.1)], [(nid, srcRow l x.2.1), (nid + 1, ⟨45, 3, upm pieceD x.2.2⟩)]))
    (fun x => x.2.1 ≤ l.length ∧ x.2.2 ++ pcs l x.1 x.2.1 = someL l ∧ x.1 + x.2.2.length ≤ 6) (fun x => x.1) ⟨(c0, nextN l 0, []), [nid + 8, m], ⟨hn0, by simp [hsome], by simp; omega⟩, ⟨rfl, ?_, ?_, ?_, ?_⟩⟩ ?_)
  · have e1 : nid + 8 ≠ m := by omega
    simp [e1]
  · simp; omega
  · simp
  · have e1 : nid + 8 ≠ m := by omega
    simp [e1]
  rintro ⟨c, j, acc⟩ ⟨hj, hacc, hca⟩
  simp only at hj hacc hca
  refine Tr.seq (Tr.seq (Tr.regionK fun K hK => ?_))
  simp [Try.f6]
  refine hK _ (Tr.cond rfl rfl ?_ ?_) <;> clear hK K <;> intro hq <;> simp at hq
  · obtain ⟨c, rfl⟩ : ∃ c', c = c' + 1 := ⟨c - 1, by omega⟩
    have hj1 := nextN_le l hj
    have hj2 := nextN_le l hj1
    have hj3 := nextN_le l hj2
    have hr4 := nextV_rng l (nextN l (nextN l j)) (k := 4) (by omega)
    obtain ⟨q, hqq⟩ : ∃ q : Nat, nextV l (nextN l (nextN l j)) 4 = (q : Int) := ⟨(nextV l (nextN l (nextN l j)) 4).toNat, by omega⟩
    have hone : onePc l j = (⟨nextV l j 4, nextV l (nextN l j) 9, (nrm l q (nextN l (nextN l (nextN l j)))).1⟩, (nrm l q (nextN l (nextN l (nextN l j)))).2) := by unfold onePc; rw [hqq]; simp
    rw [hqq] at hr4
    refine Tr.skip (Tr.seq (Tr.block (Tr.seq (Tr.regionK fun K hK => ?_))))
    simp [Try.f6, add_add]
    refine .inr ⟨[(nid, srcRow l j)], [nid], fun _ => .i (nextV l j 4), [(nid, srcRow l (nextN l j))], [], ⟨nx j nid 4 hj (by omega) (by omega), by simp, by simp, by simp, by simp, by simp, by simp, by simp, by simp⟩, ?_⟩
    simp [add_add]
    refine .inr ⟨[(nid, srcRow l (nextN l j))], [nid], fun _ => .i (nextV l (nextN l j) 9), [(nid, srcRow l (nextN l (nextN l j)))], [], ⟨nx _ nid 9 hj1 (by omega) (by omega), by simp, by simp, by simp, by simp, by simp, by simp, by simp, by simp⟩, ?_⟩
    simp [add_add]
    refine hK _ (Tr.seq (Tr.seq (Tr.regionK fun K1 hK1 => ?_))); clear hK K
    simp [Try.f6, add_add]
    refine .inr ⟨[(nid, srcRow l (nextN l (nextN l j)))], [nid], fun _ => .i (nextV l (nextN l (nextN l j)) 4), [(nid, srcRow l (nextN l (nextN l (nextN l j))))], [], ⟨nx _ nid 4 hj2 (by omega) (by omega), by simp, by simp, by simp, by simp, by simp, by simp, by simp, by simp⟩, ?_⟩
    simp [add_add]
    rw [hqq]
    generalize nextV l j 4 = d0 at *
    generalize nextV l (nextN l j) 9 = i0 at *
    generalize nextN l (nextN l (nextN l j)) = j3 at *
    refine hK1 _ (Tr.bump fun m2 hm2 => Tr.toSt1 39 3 [(3, .ptr nid 0 0), (4, .own (nid + 1) 3 0 acc.length), (5, .i ((c : Int) + 1)), (6, .ptr (nid + 30) 0 0), (7, .i q)]
      [(nid, srcRow l j3), (nid + 1, ⟨45, 3, upm pieceD acc⟩), (nid + 30, ⟨45, 3, [[.i d0, .i i0, .own m2 3 0 0]]⟩), (m2, ⟨39, 3, upm vecD []⟩)] ?_ ?_ ?_) <;> clear hK1 K1 <;> simp [add_add] at hm2
    · simp
    · have e1 : nid ≠ m2 := by omega
      have e2 : nid + 1 ≠ m2 := by omega
      have e3 : nid + 30 ≠ m2 := by omega
      simp [e1, e2, e3]
      exact ⟨rfl, rfl, by simp [elsLe, cellsLe]⟩
    refine Tr.block (Tr.loopK 4 (fun x : Nat × Nat × List V3 => ([(3, .ptr nid 0 0), (4, .own (nid + 1) 3 0 acc.length), (5, .i ((c : Int) + 1)), (6, .ptr (nid + 2) 0 0), (7, .i x.1)],
      [(nid, srcRow l x.2.1), (nid + 1, ⟨45, 3, upm pieceD acc⟩), (nid + 2, ⟨45, 3, [[.i d0, .i i0, .own (nid + 3) 3 0 x.2.2.length]]⟩), (nid + 3, ⟨39, 3, upm vecD x.2.2⟩)]))
      (fun x => x.2.1 ≤ l.length ∧ (x.2.2 ++ (nrm l x.1 x.2.1).1 = (nrm l q j3).1 ∧ (nrm l x.1 x.2.1).2 = (nrm l q j3).2) ∧ x.1 + x.2.2.length ≤ 3) (fun x => x.1) ⟨(q, j3, []), [nid, nid + 1, nid + 30, m2], ⟨hj3, ⟨by simp, rfl⟩, by simp; omega⟩, ⟨rfl, ?_, ?_, ?_, ?_⟩⟩ ?_)
    · have e1 : nid ≠ m2 := by omega
      have e2 : nid + 1 ≠ m2 := by omega
      have e3 : nid + 30 ≠ m2 := by omega
      simp [e1, e2, e3]
    · simp; omega
    · simp
    · have e1 : nid ≠ m2 := by omega
      have e2 : nid + 1 ≠ m2 := by omega
      have e3 : nid + 30 ≠ m2 := by omega
      simp [e1, e2, e3]
    rintro ⟨q1, j4, ns⟩ ⟨hj4, ⟨hns, hje⟩, hqn⟩
    simp only at hj4 hns hje hqn
    refine Tr.seq (Tr.seq (Tr.regionK fun K hK => ?_))
    simp [Try.f6]
    refine hK _ (Tr.cond rfl rfl ?_ ?_) <;> clear hK K <;> intro hq2 <;> simp at hq2
    · obtain ⟨q1, rfl⟩ : ∃ q', q1 = q' + 1 := ⟨q1 - 1, by omega⟩
      have hj5 := nextN_le l hj4
      have hj6 := nextN_le l hj5
      refine Tr.skip (Tr.seq (Tr.block (Tr.regionE mixed (by kernel_rfl) fun K hK => ?_)))
      simp [Try.f6, add_add]
      refine .inr ⟨[(nid, srcRow l j4)], [nid], fun _ => .i (nextV l j4 3), [(nid, srcRow l (nextN l j4))], [], ⟨nx j4 nid 3 hj4 (by omega) (by omega), by simp, by simp, by simp, by simp, by simp, by simp, by simp, by simp⟩, (by simp [Region.binds]), ?_⟩
      simp [add_add, Region.binds]
      refine .inr ⟨[(nid, srcRow l (nextN l j4))], [nid], fun _ => .i (nextV l (nextN l j4) 2), [(nid, srcRow l (nextN l (nextN l j4)))], [], ⟨nx _ nid 2 hj5 (by omega) (by omega), by simp, by simp, by simp, by simp, by simp, by simp, by simp, by simp⟩, (by simp [Region.binds]), ?_⟩
      simp [add_add, Region.binds]
      refine ⟨⟨by omega, by omega⟩, hK _ (Tr.regionK fun K1 hK1 => ?_)⟩; clear hK K
      have w : IntKind.i64.wrap (q1 : Int) = (q1 : Int) := wrapIn (by omega) (by omega)
      simp [Try.f6, add_add, w]
      refine hK1 _ ⟨(q1, nextN l (nextN l j4), ns ++ [⟨nextV l j4 3, nextV l (nextN l j4) 2, 1⟩]), [nid, nid + 1, nid + 2, nid + 44], ⟨⟨hj6, ⟨by rw [← hns]; simp [nrm], by rw [← hje]; rfl⟩, by simp; omega⟩, by show _ < _; omega⟩, ⟨rfl, ?_, ?_, ?_, ?_⟩⟩ <;> clear hK1 K1
      · simp
      · simp
      · simp
      · simp [add_add]
        exact .inl (vec_snoc1 ns _ _ _)
    · have hq0 : q1 = 0 := by omega
      subst hq0
      have hns' : ns = (nrm l q j3).1 := by rw [← hns]; simp [nrm]
      have hje' : j4 = (nrm l q j3).2 := by rw [← hje]; rfl
      refine Tr.exit (exit_s (exit_s (exit_b ?_)))
      refine Tr.freezeM (nid + 3) vecD ns [(3, .ptr nid 0 0), (4, .own (nid + 1) 3 0 acc.length), (5, .i ((c : Int) + 1)), (6, .ptr (nid + 2) 0 0)]
        [(nid, srcRow l j4), (nid + 1, ⟨45, 3, upm pieceD acc⟩), (nid + 2, ⟨45, 3, [[.i d0, .i i0, .d (.imm (vecs ns))]]⟩)] (ty := 39) (sz := 3) ?_ ?_ ?_ ?_ ?_
      · simp
      · simp
      · simp
      · simp
      refine Tr.regionK fun K hK => ?_
      simp [Try.f6, add_add]
      refine ⟨⟨by omega, by omega⟩, hK _ (Tr.regionK fun K1 hK1 => ?_)⟩; clear hK K
      have w : IntKind.i64.wrap (c : Int) = (c : Int) := wrapIn (by omega) (by omega)
      simp [Try.f6, add_add, w]
      refine hK1 _ ⟨(c, j4, acc ++ [⟨d0, i0, ns⟩]), [nid, nid + 24], ⟨⟨hj4, by rw [← hacc]; simp [pcs, hone, hns', hje'], by simp; omega⟩, by show _ < _; omega⟩, ⟨rfl, ?_, ?_, ?_, ?_⟩⟩ <;> clear hK1 K1
      · simp
      · simp
      · simp
      · simp [add_add]
        exact .inl (pc_snoc acc _ _ _)
  · have hc0' : c = 0 := by omega
    subst hc0'
    have hal : acc = someL l := by rw [← hacc]; simp [pcs]
    refine Tr.exit (exit_s (exit_s (exit_b ?_)))
    refine Tr.seq (Tr.regionK fun K hK => ?_)
    simp [Try.f6]
    refine hK _ (Tr.ret ⟨.inr rfl, [nid + 1], ?_, ?_, ?_, ?_, ?_, ?_, ?_⟩) <;> simp [Try.f6, hal, renK]
    intro j k hj
    match j, hj with
    | 0, hj =>
      simp at hj
      subst hj
      simp
      exact fun x hx => List.all_eq_true.1 (upm_ids pieceD (someL l) _) x hx
    | j + 1, hj => simp at hj
theorem pcall_some (l : List Int) (hl : ∀ x ∈ l, -9223372036854775808 ≤ x ∧ x ≤ 9223372036854775807) (hlen : l.length ≤ 1048576) : PCall Try.prog 6 [.d (.imm (ints l))] (.d (.imm (pieces (someL l)))) :=
  (hcall_some l hl hlen).frozen (by simp) (by decide)
end Go.Proofs.Ytfeabgjcnnabdaa
