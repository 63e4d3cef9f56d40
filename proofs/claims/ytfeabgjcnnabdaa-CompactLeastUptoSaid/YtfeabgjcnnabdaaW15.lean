/- The walk through the law CompactLeast. -/
import Derived.Test.YtfeabgjcnnabdaaW14
namespace Go.Proofs.Ytfeabgjcnnabdaa
open Go.PM

set_option maxHeartbeats 1000000 in
theorem pcall_law5 (li mi : List Int) (hli : ∀ x ∈ li, -9223372036854775808 ≤ x ∧ x ≤ 9223372036854775807) (hlen : li.length ≤ 1048576) (hmi : ∀ x ∈ mi, -9223372036854775808 ≤ x ∧ x ≤ 9223372036854775807) (hlem : mi.length ≤ 1048576) :
    PCall Try.prog 5 [.d (.imm (ints li)), .d (.imm (ints mi))] (.b true) := by
  have nx := fun (j s : Nat) (k : Int) (hj : j ≤ mi.length) (hk : 0 < k) (hk2 : k ≤ 4611686018427387904) => hcall_next mi j s k hmi hlem hj hk hk2
  have hsl := some_len li
  have hs := pcall_some li hli hlen
  obtain ⟨X, hX⟩ : ∃ X, X = someL li := ⟨_, rfl⟩
  rw [← hX] at hsl hs
  have hp := pcall_pack X (by omega) (by omega)
  have hpf := pack_fitsP (l := X) (by omega) (by omega)
  have hps := pcall_size _ _ hpf.ht hpf.hu (by have := hpf.hc; omega)
  refine walk Try.func5 (by kernel_rfl) rfl 125 rfl (Nat.le_of_ble_eq_true rfl) fun nid _ => ?_
  refine Tr.seq (Tr.regionK fun K hK => ?_)
  simp [Try.f5]
  refine hK _ (Tr.seq (Tr.regionK fun K1 hK1 => ?_)); clear hK K
  simp [Try.f5]
  refine .inl ⟨_, hs, rfl, ?_⟩
  simp [add_add]
  refine hK1 _ (Tr.seq (Tr.regionK fun K hK => ?_)); clear hK1 K1
  simp [Try.f5, add_add]
  refine .inr ⟨[], [], fun n => .ptr n 0 0, [], [srcRow mi 0], ⟨pcall_from mi, by simp, by simp, by simp, by simp, by simp, by simp, by simp, by simp⟩, ?_⟩
  simp [add_add]
  refine hK _ (Tr.seq (Tr.regionK fun K1 hK1 => ?_)); clear hK K
  simp [Try.f5, add_add]
  refine hK1 _ (Tr.seq (Tr.seq (Tr.regionK fun K hK => ?_))); clear hK1 K1
  simp [Try.f5, add_add]
  refine hK _ (Tr.bump fun m hm => Tr.toSt1 39 3 [(5, .d (.imm (pieces X))), (6, .ptr (nid + 20) 0 0), (7, .ptr (nid + 28) 0 0), (8, .i 0)] [(nid + 20, srcRow mi 0), (nid + 28, ⟨26, 2, [[.own m 3 0 0, .d (.val (.slice none 0 0))]]⟩), (m, ⟨39, 3, upm vecD []⟩)] ?_ ?_ ?_) <;> clear hK K <;> simp [add_add] at hm
  · simp
  · have e1 : nid + 20 ≠ m := by omega
    have e2 : nid + 28 ≠ m := by omega
    simp [e1, e2]
    exact ⟨rfl, rfl, by simp [elsLe, cellsLe]⟩
  refine Tr.bump fun m2 hm2 => Tr.toSt1 37 3 [(5, .d (.imm (pieces X))), (6, .ptr (nid + 20) 0 0), (7, .ptr (nid + 28) 0 0), (8, .i 0)] [(nid + 20, srcRow mi 0), (nid + 28, ⟨26, 2, [[.own m 3 0 0, .own m2 3 0 0]]⟩), (m, ⟨39, 3, upm vecD []⟩), (m2, ⟨37, 3, upm useD []⟩)] ?_ ?_ ?_
  · simp
  · have e1 : nid + 20 ≠ m := by omega
    have e2 : nid + 28 ≠ m := by omega
    have e3 : nid + 20 ≠ m2 := by omega
    have e4 : nid + 28 ≠ m2 := by omega
    have e5 : m ≠ m2 := by omega
    simp [e1, e2, e3, e4, e5]
    exact ⟨rfl, rfl, by simp [elsLe, cellsLe]⟩
  refine Tr.block (Tr.loopK 4 (fun x : Nat × Nat × List V3 × List Us => ([(5, .d (.imm (pieces X))), (6, .ptr nid 0 0), (7, .ptr (nid + 1) 0 0), (8, .i x.1)],
    [(nid, srcRow mi x.2.1), (nid + 1, ⟨26, 2, [[.own (nid + 2) 3 0 x.2.2.1.length, .own (nid + 3) 3 0 x.2.2.2.length]]⟩), (nid + 2, ⟨39, 3, upm vecD x.2.2.1⟩), (nid + 3, ⟨37, 3, upm useD x.2.2.2⟩)]))
    (fun x => x.1 ≤ X.length ∧ x.2.1 ≤ mi.length ∧ LInv X x.1 x.2.2.1 x.2.2.2) (fun x => X.length - x.1) ⟨(0, 0, [], []), [nid + 20, nid + 28, m, m2], ⟨Nat.zero_le _, Nat.zero_le _, ⟨rfl, by simp, by simp [tot]⟩⟩, ⟨rfl, ?_, ?_, ?_, ?_⟩⟩ ?_)
  · have e1 : nid + 20 ≠ m := by omega
    have e2 : nid + 28 ≠ m := by omega
    have e3 : nid + 20 ≠ m2 := by omega
    have e4 : nid + 28 ≠ m2 := by omega
    have e5 : m ≠ m2 := by omega
    simp [e1, e2, e3, e4, e5]
  · simp; omega
  · simp
  · have e1 : nid + 20 ≠ m := by omega
    have e2 : nid + 28 ≠ m := by omega
    have e3 : nid + 20 ≠ m2 := by omega
    have e4 : nid + 28 ≠ m2 := by omega
    have e5 : m ≠ m2 := by omega
    simp [e1, e2, e3, e4, e5]
  rintro ⟨i, j, tb, us⟩ ⟨hi, hj, hinv⟩
  simp only at hi hj hinv
  refine Tr.seq (Tr.seq (Tr.regionK fun K hK => ?_))
  simp [Try.f5]
  refine hK _ (Tr.cond rfl rfl ?_ ?_) <;> clear hK K <;> intro hq <;> simp at hq
  · obtain ⟨p, hp0, hpp⟩ : ∃ p, X[i]? = some p ∧ X[i] = p := ⟨X[i], List.getElem?_eq_getElem hq, rfl⟩
    have htt := tot_take hp0
    have htl := tot_le X (i + 1)
    refine Tr.skip (Tr.seq (Tr.block (Tr.seq (Tr.regionE mixed (by kernel_rfl) fun K hK => ?_))))
    simp [Try.f5, hp0, hpp, hq, add_add, Region.binds]
    refine hK _ (Tr.seq (Tr.seq (Tr.regionK fun K1 hK1 => ?_))); clear hK K
    simp [Try.f5, add_add]
    refine hK1 _ (Tr.bump fun m3 hm3 => Tr.toSt1 3 1 [(5, .d (.imm (pieces X))), (6, .ptr nid 0 0), (7, .ptr (nid + 1) 0 0), (8, .i i), (9, .ptr (nid + 64) 0 0), (10, .i 0)]
      [(nid, srcRow mi j), (nid + 1, ⟨26, 2, [[.own (nid + 2) 3 0 tb.length, .own (nid + 3) 3 0 us.length]]⟩), (nid + 2, ⟨39, 3, upm vecD tb⟩), (nid + 3, ⟨37, 3, upm useD us⟩), (nid + 64, ⟨37, 3, [[.i p.d, .i p.i, .own m3 1 0 0]]⟩), (m3, ⟨3, 1, upm intD []⟩)] ?_ ?_ ?_) <;> clear hK1 K1 <;> simp [add_add] at hm3
    · simp
    · have e1 : nid ≠ m3 := by omega
      have e2 : nid + 1 ≠ m3 := by omega
      have e3 : nid + 2 ≠ m3 := by omega
      have e4 : nid + 3 ≠ m3 := by omega
      have e5 : nid + 64 ≠ m3 := by omega
      simp [e1, e2, e3, e4, e5]
      exact ⟨rfl, rfl, by simp [elsLe, cellsLe]⟩
    refine Tr.block (Tr.loopK 6 (fun x : Nat × Nat × List V3 × List Int => ([(5, .d (.imm (pieces X))), (6, .ptr nid 0 0), (7, .ptr (nid + 1) 0 0), (8, .i i), (9, .ptr (nid + 4) 0 0), (10, .i x.1)],
      [(nid, srcRow mi x.2.1), (nid + 1, ⟨26, 2, [[.own (nid + 2) 3 0 x.2.2.1.length, .own (nid + 3) 3 0 us.length]]⟩), (nid + 2, ⟨39, 3, upm vecD x.2.2.1⟩), (nid + 3, ⟨37, 3, upm useD us⟩), (nid + 4, ⟨37, 3, [[.i p.d, .i p.i, .own (nid + 5) 1 0 x.2.2.2.length]]⟩), (nid + 5, ⟨3, 1, upm intD x.2.2.2⟩)]))
      (fun x => x.1 ≤ p.ns.length ∧ x.2.1 ≤ mi.length ∧ KInv X i p x.1 x.2.2.1 us x.2.2.2) (fun x => p.ns.length - x.1) ⟨(0, j, tb, []), [nid, nid + 1, nid + 2, nid + 3, nid + 64, m3], ⟨by omega, hj, hinv.k0 p⟩, ⟨rfl, ?_, ?_, ?_, ?_⟩⟩ ?_)
    · have e1 : nid ≠ m3 := by omega
      have e2 : nid + 1 ≠ m3 := by omega
      have e3 : nid + 2 ≠ m3 := by omega
      have e4 : nid + 3 ≠ m3 := by omega
      have e5 : nid + 64 ≠ m3 := by omega
      simp [e1, e2, e3, e4, e5]
    · simp; omega
    · simp
    · have e1 : nid ≠ m3 := by omega
      have e2 : nid + 1 ≠ m3 := by omega
      have e3 : nid + 2 ≠ m3 := by omega
      have e4 : nid + 3 ≠ m3 := by omega
      have e5 : nid + 64 ≠ m3 := by omega
      simp [e1, e2, e3, e4, e5]
    clear hinv hj
    rintro ⟨k, j, tc, ks⟩ ⟨hk, hj, hinv⟩
    simp only at hk hj hinv
    have hil := hinv.len
    refine Tr.seq (Tr.seq (Tr.regionK fun K hK => ?_))
    simp [Try.f5, hp0, hpp, hq, add_add]
    refine hK _ (Tr.cond rfl rfl ?_ ?_) <;> clear hK K <;> intro hq2 <;> simp at hq2
    · obtain ⟨x, hx, hxx⟩ : ∃ x, p.ns[k]? = some x ∧ p.ns[k] = x := ⟨p.ns[k], List.getElem?_eq_getElem hq2, rfl⟩
      refine Tr.skip (Tr.seq (Tr.block (Tr.seq (Tr.regionK fun K hK => ?_))))
      simp [Try.f5]
      refine hK _ (Tr.seq (Tr.seq (Tr.regionK fun K1 hK1 => ?_))); clear hK K
      simp [Try.f5]
      refine hK1 _ (Tr.block (Tr.loopK 6 (fun x : Nat × Nat × Int => ([(5, .d (.imm (pieces X))), (6, .ptr nid 0 0), (7, .ptr (nid + 1) 0 0), (8, .i i), (9, .ptr (nid + 4) 0 0), (10, .i k), (11, .i x.2.2), (12, .i x.1)],
        [(nid, srcRow mi x.2.1), (nid + 1, ⟨26, 2, [[.own (nid + 2) 3 0 tc.length, .own (nid + 3) 3 0 us.length]]⟩), (nid + 2, ⟨39, 3, upm vecD tc⟩), (nid + 3, ⟨37, 3, upm useD us⟩), (nid + 4, ⟨37, 3, [[.i p.d, .i p.i, .own (nid + 5) 1 0 ks.length]]⟩), (nid + 5, ⟨3, 1, upm intD ks⟩)]))
        (fun z => z.1 ≤ tc.length ∧ z.2.1 ≤ mi.length ∧ (z.2.2 = -1 ∨ ∃ y : Nat, z.2.2 = (y : Int) ∧ tc[y]? = some x)) (fun x => tc.length - x.1) ⟨(0, j, -1), [nid, nid + 1, nid + 2, nid + 3, nid + 4, nid + 5], ⟨by omega, hj, .inl rfl⟩, ⟨rfl, ?_, ?_, ?_, ?_⟩⟩ ?_)) <;> clear hK1 K1
      · simp
      · simp
      · simp
      · simp
      clear hj
      rintro ⟨tt, j, jj⟩ ⟨htt2, hj, hjj⟩
      simp only at htt2 hj hjj
      refine Tr.seq (Tr.seq (Tr.regionK fun K hK => ?_))
      simp [Try.f5, add_add]
      refine hK _ (Tr.cond rfl rfl ?_ ?_) <;> clear hK K <;> intro hq3 <;> simp at hq3
      · obtain ⟨y, hy, hyy⟩ : ∃ y, tc[tt]? = some y ∧ tc[tt] = y := ⟨tc[tt], List.getElem?_eq_getElem hq3, rfl⟩
        have hyg := upm_get vecD tc tt y hy
        obtain ⟨hyg1, hyg2⟩ := List.getElem?_eq_some_iff.1 hyg
        have w : IntKind.i64.wrap ((tt : Int) + 1) = (tt : Int) + 1 := wrapIn (by omega) (by omega)
        refine Tr.skip (Tr.seq (Tr.block (Tr.seq (Tr.regionE mixed (by kernel_rfl) fun K hK => ?_))))
        by_cases hyx : y.a = x.a ∧ y.b = x.b ∧ y.c = x.c
        · have hye := v3_eq hyx
          simp [Try.f5, hp0, hpp, hq, hx, hxx, hq2, hy, hyy, hq3, hyg, hyg2, hyx, add_add, Region.binds]
          refine .inr ⟨[(nid, srcRow mi j)], [nid], fun _ => .i (nextV mi j 4), [(nid, srcRow mi (nextN mi j))], [], ⟨nx j nid 4 hj (by omega) (by omega), by simp, by simp, by simp, by simp, by simp, by simp, by simp, by simp⟩, (by simp [Region.binds]), ?_⟩
          simp [add_add, Region.binds]
          refine hK _ (Tr.cond rfl rfl ?_ ?_) <;> clear hK K <;> intro hq4 <;> simp at hq4
          · refine Tr.regionK fun K hK => ?_
            simp [Try.f5, add_add]
            refine hK _ (Tr.regionK fun K1 hK1 => ?_); clear hK K
            simp [Try.f5, add_add, w]
            refine hK1 _ ⟨(tt + 1, nextN mi j, (tt : Int)), [nid, nid + 1, nid + 2, nid + 3, nid + 4, nid + 5], ⟨⟨hq3, nextN_le mi hj, .inr ⟨tt, rfl, by rw [hy, hye]⟩⟩, by show _ < _; simp; omega⟩, ⟨rfl, ?_, ?_, ?_, ?_⟩⟩ <;> clear hK1 K1
            · simp
            · simp
            · simp
            · simp
          · refine Tr.skip (Tr.regionK fun K1 hK1 => ?_)
            simp [Try.f5, add_add, w]
            refine hK1 _ ⟨(tt + 1, nextN mi j, jj), [nid, nid + 1, nid + 2, nid + 3, nid + 4, nid + 5], ⟨⟨hq3, nextN_le mi hj, hjj⟩, by show _ < _; simp; omega⟩, ⟨rfl, ?_, ?_, ?_, ?_⟩⟩ <;> clear hK1 K1
            · simp
            · simp
            · simp
            · simp
        · simp [Try.f5, hp0, hpp, hq, hx, hxx, hq2, hy, hyy, hq3, hyg, hyg2, hyx, add_add, Region.binds]
          refine hK _ (Tr.cond rfl rfl ?_ ?_) <;> clear hK K <;> intro hq4 <;> simp at hq4
          refine Tr.skip (Tr.regionK fun K1 hK1 => ?_)
          simp [Try.f5, add_add, w]
          refine hK1 _ ⟨(tt + 1, j, jj), [nid, nid + 1, nid + 2, nid + 3, nid + 4, nid + 5], ⟨⟨hq3, hj, hjj⟩, by show _ < _; simp; omega⟩, ⟨rfl, ?_, ?_, ?_, ?_⟩⟩ <;> clear hK1 K1
          · simp
          · simp
          · simp
          · simp
      · have htc : tt = tc.length := by omega
        subst htc
        refine Tr.exit (exit_s (exit_s (exit_b ?_)))
        refine Tr.seq (Tr.seq (Tr.regionK fun K1 hK1 => ?_))
        have w : IntKind.i64.wrap ((k : Int) + 1) = (k : Int) + 1 := wrapIn (by omega) (by omega)
        rcases hjj with rfl | ⟨y, rfl, hy⟩
        · simp [Try.f5, add_add]
          refine hK1 _ (Tr.cond rfl rfl ?_ ?_) <;> clear hK1 K1 <;> intro hq4
          · refine Tr.seq (Tr.regionK fun K hK => ?_)
            simp [Try.f5, add_add]
            refine hK _ (Tr.regionE mixed (by kernel_rfl) fun K1 hK1 => ?_); clear hK K
            simp [Try.f5, hp0, hpp, hq, hx, hxx, hq2, add_add, Region.binds]
            refine ⟨⟨by omega, by omega⟩, hK1 _ (Tr.regionK fun K hK => ?_)⟩; clear hK1 K1
            simp [Try.f5, add_add]
            have hkl : ks.length ≤ k := by have := mapM_len hinv.kreads; rw [List.length_take] at this; omega
            refine ⟨⟨by omega, by omega⟩, hK _ (Tr.regionK fun K1 hK1 => ?_)⟩; clear hK K
            simp [Try.f5, add_add, w]
            refine hK1 _ ⟨(k + 1, j, tc ++ [x], ks ++ [(tc.length : Int)]), [nid, nid + 1, nid + 94, nid + 3, nid + 4, nid + 122], ⟨⟨hq2, hj, hinv.miss hx⟩, by show _ < _; simp; omega⟩, ⟨rfl, ?_, ?_, ?_, ?_⟩⟩ <;> clear hK1 K1
            · simp
            · simp
            · simp
            · simp [add_add]
              exact ⟨.inl (vec_snoc tc x.a x.b x.c), .inl (int_snoc ks tc.length)⟩
          · simp at hq4
        · have hyl := (List.getElem?_eq_some_iff.1 hy).1
          have hn : ¬ (y : Int) < 0 := by omega
          simp [Try.f5, add_add, hn]
          refine hK1 _ (Tr.cond rfl rfl ?_ ?_) <;> clear hK1 K1 <;> intro hq4 <;> simp at hq4
          refine Tr.skip (Tr.regionK fun K hK => ?_)
          simp [Try.f5, add_add]
          have hkl : ks.length ≤ k := by have := mapM_len hinv.kreads; rw [List.length_take] at this; omega
          refine ⟨⟨by omega, by omega⟩, hK _ (Tr.regionK fun K1 hK1 => ?_)⟩; clear hK K
          simp [Try.f5, add_add, w]
          refine hK1 _ ⟨(k + 1, j, tc, ks ++ [(y : Int)]), [nid, nid + 1, nid + 2, nid + 3, nid + 4, nid + 50], ⟨⟨hq2, hj, hinv.hit hx hy⟩, by show _ < _; simp; omega⟩, ⟨rfl, ?_, ?_, ?_, ?_⟩⟩ <;> clear hK1 K1
          · simp
          · simp
          · simp
          · simp [add_add]
            exact .inl (int_snoc ks y)
    · have hka : k = p.ns.length := by omega
      subst hka
      refine Tr.exit (exit_s (exit_s (exit_b ?_)))
      refine Tr.freezeM (nid + 5) intD ks [(5, .d (.imm (pieces X))), (6, .ptr nid 0 0), (7, .ptr (nid + 1) 0 0), (8, .i i), (9, .ptr (nid + 4) 0 0)]
        [(nid, srcRow mi j), (nid + 1, ⟨26, 2, [[.own (nid + 2) 3 0 tc.length, .own (nid + 3) 3 0 us.length]]⟩), (nid + 2, ⟨39, 3, upm vecD tc⟩), (nid + 3, ⟨37, 3, upm useD us⟩), (nid + 4, ⟨37, 3, [[.i p.d, .i p.i, .d (.imm (ints ks))]]⟩)] (ty := 3) (sz := 1) ?_ ?_ ?_ ?_ ?_
      · simp
      · simp
      · simp
      · simp
      have hul := (unpack_count hinv.reads).2
      rw [List.length_take] at hul
      refine Tr.regionK fun K hK => ?_
      simp [Try.f5, add_add]
      refine ⟨⟨by omega, by omega⟩, hK _ (Tr.regionK fun K1 hK1 => ?_)⟩; clear hK K
      have w : IntKind.i64.wrap ((i : Int) + 1) = (i : Int) + 1 := wrapIn (by omega) (by omega)
      simp [Try.f5, add_add, w]
      refine hK1 _ ⟨(i + 1, j, tc, us ++ [⟨p.d, p.i, ks⟩]), [nid, nid + 1, nid + 2, nid + 54], ⟨⟨hq, hj, hinv.done hp0⟩, by show _ < _; simp; omega⟩, ⟨rfl, ?_, ?_, ?_, ?_⟩⟩ <;> clear hK1 K1
      · simp
      · simp
      · simp
      · simp [add_add]
        exact .inl (use_snoc us p.d p.i ks)
  · have hia : i = X.length := by omega
    subst hia
    have hrd := hinv.reads
    have hln := hinv.len
    rw [List.take_length] at hrd hln
    refine Tr.exit (exit_s (exit_s (exit_b ?_)))
    refine Tr.freezeM (nid + 2) vecD tb [(5, .d (.imm (pieces X))), (7, .ptr (nid + 1) 0 0)]
      [(nid + 1, ⟨26, 2, [[.d (.imm (vecs tb)), .own (nid + 3) 3 0 us.length]]⟩), (nid + 3, ⟨37, 3, upm useD us⟩)] (ty := 39) (sz := 3) ?_ ?_ ?_ ?_ ?_
    · simp
    · simp
    · simp
    · simp
    refine Tr.freezeM (nid + 3) useD us [(5, .d (.imm (pieces X))), (7, .ptr (nid + 1) 0 0)]
      [(nid + 1, ⟨26, 2, [[.d (.imm (vecs tb)), .d (.imm (uses us))]]⟩)] (ty := 37) (sz := 3) ?_ ?_ ?_ ?_ ?_
    · simp
    · simp
    · simp
    · simp
    have hc := unpack_count hrd
    have hnt : ∀ u ∈ us, u.ns.length ≤ 1048576 := fun u hu => by have := count_mem' hu; omega
    have hun := pcall_unpack tb us (by omega) (by omega) (fun u hu => ⟨hnt u hu, fun y hy => by have := hinv.rng u hu y hy; omega⟩)
    have hur : unpackR tb us = .tup [.d (.imm (pieces X)), .b true] := by unfold unpackR; rw [hrd]
    rw [hur] at hun
    have hfx : fits X := ⟨by omega, fun p hp => by have := tot_mem hp; omega⟩
    have hss := pcall_samePieces X X hfx hfx
    simp only [decide_true] at hss
    have hsz := pcall_size tb us (by omega) (by omega) (by omega)
    have hle := pack_least hrd
    refine Tr.seq (Tr.regionK fun K hK => ?_)
    simp [Try.f5, add_add]
    refine .inl ⟨_, hun, rfl, ?_⟩
    simp [add_add]
    refine hK _ (Tr.seq (Tr.regionE mixed (by kernel_rfl) fun K1 hK1 => ?_)); clear hK K
    simp [Try.f5, add_add, Region.binds]
    refine .inl ⟨_, pcall_awake, rfl, ?_⟩
    simp [add_add, Region.binds]
    refine .inl ⟨_, hss, rfl, ?_⟩
    simp [add_add, Region.binds]
    refine .inl ⟨_, hp, rfl, ?_⟩
    simp [add_add, Region.binds]
    refine .inl ⟨_, hps, rfl, ?_⟩
    simp [add_add, Region.binds]
    refine .inl ⟨_, hsz, rfl, ?_⟩
    simp [add_add, Region.binds]
    refine hK1 _ (Tr.ret ⟨.inr rfl, ?_, ?_, ?_, ?_⟩) <;> simp [Try.f5, hle]
end Go.Proofs.Ytfeabgjcnnabdaa
