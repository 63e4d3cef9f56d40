/- The walk through compact.Pack. -/
import Derived.Test.YtfeabgjcnnabdaaW6
namespace Go.Proofs.Ytfeabgjcnnabdaa
open Go.PM

abbrev kk3 : List LK := [.int .i64, .int .i64, .int .i64]
/-- The map's entries for a table: each normal with its index. -/
def mapE : Nat → List V3 → List (List PV)
  | _, [] => []
  | k, x :: r => [.i x.a, .i x.b, .i x.c, .i k] :: mapE (k + 1) r
theorem mapE_append : ∀ (t u : List V3) (k : Nat), mapE k (t ++ u) = mapE k t ++ mapE (k + t.length) u
  | [], u, k => by simp [mapE]
  | x :: t, u, k => by simp [mapE, mapE_append t u (k + 1), Nat.add_comm 1, Nat.add_assoc]
theorem mapE_snoc (t : List V3) (x : V3) : mapE 0 t ++ [[.i x.a, .i x.b, .i x.c, .i t.length]] = mapE 0 (t ++ [x]) := by
  rw [mapE_append]; simp [mapE]
theorem mapE_get : ∀ (t : List V3) (k j : Nat), j < t.length → ((mapE k t).getD j []).getD 3 .any = .i ((k + j : Nat) : Int)
  | [], _, _, h => by simp at h
  | x :: t, k, 0, _ => by simp [mapE]
  | x :: t, k, j + 1, h => by
    have := mapE_get t (k + 1) j (by simpa using h)
    simp only [mapE, List.getD_cons_succ]
    rw [this, show k + 1 + j = k + (j + 1) by omega]
theorem mapE_get' (t : List V3) (k j : Nat) (h : j < t.length) : ((mapE k t)[j]?.getD [])[3]?.getD .any = .i ((k + j : Nat) : Int) := by
  have := mapE_get t k j h
  simpa [List.getD] using this
theorem mapE_ids (S : Nat → Bool) (k : Nat) (t : List V3) : ((mapE k t).all fun e => PV.idsInL S e) = true := by
  induction t generalizing k with
  | nil => rfl
  | cons x t ih => simp [mapE, ih, PV.idsInL, PV.idsIn]
theorem mapE_ren (ρ : Nat → Nat) : ∀ (t : List V3) (k : Nat), (mapE k t).map (fun e => e.map (PV.ren ρ)) = mapE k t
  | [], _ => rfl
  | x :: t, k => by simp [mapE, mapE_ren ρ t, PV.ren]
theorem mapE_frz (id : Nat) (ds : List (List DV)) : ∀ (t : List V3) (k : Nat), (mapE k t).map (fun e => e.map (PV.frz id ds)) = mapE k t
  | [], _ => rfl
  | x :: t, k => by simp [mapE, mapE_frz id ds t, PV.frz]
theorem findM_mapE (x : V3) : ∀ (t : List V3) (k : Nat), findM kk3 [.int .i64 x.a, .int .i64 x.b, .int .i64 x.c] (mapE k t) = some (place x t)
  | [], k => by simp [mapE, findM, place]
  | y :: t, k => by
    have ih := findM_mapE x t (k + 1)
    rw [mapE, findM]
    simp only [kk3, List.length_cons, List.length_nil, List.take, valsOf, Option.map_some, eqvL, LK.eqv, if_true, ih]
    by_cases h : x = y
    · subst h; simp [place]
    · have h1 : (((x.a == y.a) && ((x.b == y.b) && ((x.c == y.c) && true))) : Bool) = false := by
        cases hb : ((x.a == y.a) && ((x.b == y.b) && ((x.c == y.c) && true)) : Bool) with
        | false => rfl
        | true => exact absurd (by cases x; cases y; simp_all) h
      have h2 : ¬ y = x := fun e => h e.symm
      rw [h1]
      simp [place, h2]

theorem pcall_pack (l : List Pc) (hl : l.length ≤ 4194304) (ht : tot l ≤ 4194304) : PCall Try.prog 10 [.d (.imm (pieces l))] (packD (pack l).1 (pack l).2) := by
  refine walk Try.func10 (by kernel_rfl) rfl 66 rfl (Nat.le_of_ble_eq_true rfl) fun nid _ => ?_
  refine Tr.seq (Tr.regionK fun K hK => ?_)
  simp [Try.f10]
  refine hK _ (Tr.seq (Tr.regionK fun K1 hK1 => ?_)); clear hK K
  simp [Try.f10]
  refine hK1 _ (Tr.seq (Tr.regionK fun K hK => ?_)); clear hK1 K1
  simp [Try.f10]
  refine hK _ (Tr.seq (Tr.seq (Tr.regionK fun K1 hK1 => ?_))); clear hK K
  simp [Try.f10]
  refine hK1 _ (Tr.bump fun m hm => Tr.toSt1 39 3 [(2, .ptr nid 0 0), (3, .ptr (nid + 4) 0 0), (4, .mp (nid + 8)), (13, .d (.imm (pieces l))), (14, .i l.length), (15, .i 0)]
    [(nid, ⟨26, 2, [[.d (.val (.slice none 0 0)), .d (.val (.slice none 0 0))]]⟩), (nid + 4, ⟨26, 2, [[.own m 3 0 0, .d (.val (.slice none 0 0))]]⟩), (nid + 8, mapRow kk3 []), (m, ⟨39, 3, upm vecD []⟩)] ?_ ?_ ?_) <;> clear hK1 K1 <;> simp [add_add] at hm
  · simp
  · have e1 : nid ≠ m := by omega
    have e2 : nid + 4 ≠ m := by omega
    have e3 : nid + 8 ≠ m := by omega
    simp [e1, e2, e3]
    exact ⟨rfl, rfl, by simp [elsLe, cellsLe]⟩
  refine Tr.bump fun m2 hm2 => Tr.toSt1 37 3 [(2, .ptr nid 0 0), (3, .ptr (nid + 4) 0 0), (4, .mp (nid + 8)), (13, .d (.imm (pieces l))), (14, .i l.length), (15, .i 0)]
    [(nid, ⟨26, 2, [[.d (.val (.slice none 0 0)), .d (.val (.slice none 0 0))]]⟩), (nid + 4, ⟨26, 2, [[.own m 3 0 0, .own m2 3 0 0]]⟩), (nid + 8, mapRow kk3 []), (m, ⟨39, 3, upm vecD []⟩), (m2, ⟨37, 3, upm useD []⟩)] ?_ ?_ ?_
  · simp
  · have e1 : nid ≠ m := by omega
    have e2 : nid + 4 ≠ m := by omega
    have e3 : nid ≠ m2 := by omega
    have e4 : nid + 4 ≠ m2 := by omega
    have e5 : m ≠ m2 := by omega
    have e6 : nid + 8 ≠ m := by omega
    have e7 : nid + 8 ≠ m2 := by omega
    simp [e1, e2, e3, e4, e5, e6, e7]
    exact ⟨rfl, rfl, by simp [elsLe, cellsLe]⟩
  refine Tr.block (Tr.loopK 5 (fun i : Nat => ([(2, .ptr nid 0 0), (3, .ptr (nid + 1) 0 0), (4, .mp (nid + 4)), (13, .d (.imm (pieces l))), (14, .i l.length), (15, .i i)],
    [(nid, ⟨26, 2, [[.d (.val (.slice none 0 0)), .d (.val (.slice none 0 0))]]⟩), (nid + 1, ⟨26, 2, [[.own (nid + 2) 3 0 (pack (l.take i)).1.length, .own (nid + 3) 3 0 (pack (l.take i)).2.length]]⟩), (nid + 2, ⟨39, 3, upm vecD (pack (l.take i)).1⟩), (nid + 3, ⟨37, 3, upm useD (pack (l.take i)).2⟩), (nid + 4, mapRow kk3 (mapE 0 (pack (l.take i)).1))]))
    (fun i => i ≤ l.length) (fun i => l.length - i) ⟨0, [nid, nid + 4, m, m2, nid + 8], by omega, ⟨rfl, ?_, ?_, ?_, ?_⟩⟩ ?_)
  · have e1 : nid ≠ m := by omega
    have e2 : nid + 4 ≠ m := by omega
    have e3 : nid ≠ m2 := by omega
    have e4 : nid + 4 ≠ m2 := by omega
    have e5 : m ≠ m2 := by omega
    have e6 : m ≠ nid + 8 := by omega
    have e7 : m2 ≠ nid + 8 := by omega
    simp [e1, e2, e3, e4, e5, e6, e7]
  · simp; omega
  · simp
  · have e1 : nid ≠ m := by omega
    have e2 : nid + 4 ≠ m := by omega
    have e3 : nid ≠ m2 := by omega
    have e4 : nid + 4 ≠ m2 := by omega
    have e5 : m ≠ m2 := by omega
    have e6 : nid + 8 ≠ m := by omega
    have e7 : nid + 8 ≠ m2 := by omega
    simp [e1, e2, e3, e4, e5, e6, e7, pack, mapE]
  intro i hi
  refine Tr.seq (Tr.regionK fun K hK => ?_)
  simp [Try.f10]
  refine hK _ (Tr.seq (Tr.cond rfl rfl ?_ ?_)) <;> clear hK K <;> intro hq <;> simp at hq
  · obtain ⟨p, hp, hpp⟩ : ∃ p, l[i]? = some p ∧ l[i] = p := ⟨l[i], List.getElem?_eq_getElem hq, rfl⟩
    have hpk := pack_take hp
    have hpl := pack_len (l.take i)
    have htt := tot_take hp
    have htl := tot_le l (i + 1)
    generalize pack (l.take i) = s at *
    obtain ⟨tb, us⟩ := s
    refine Tr.skip (Tr.seq (Tr.block (Tr.seq (Tr.regionK fun K hK => ?_))))
    simp [Try.f10, hp, hpp, hq, add_add]
    refine hK _ (Tr.seq (Tr.regionK fun K1 hK1 => ?_)); clear hK K
    simp [Try.f10, add_add]
    refine hK1 _ (Tr.seq (Tr.seq (Tr.regionK fun K hK => ?_))); clear hK1 K1
    simp [Try.f10, add_add]
    refine hK _ (Tr.bump fun m3 hm3 => Tr.toSt1 3 1 [(2, .ptr nid 0 0), (3, .ptr (nid + 1) 0 0), (4, .mp (nid + 4)), (7, .ptr (nid + 45) 0 0), (13, .d (.imm (pieces l))), (14, .i l.length), (15, .i i), (25, .d (.imm (vecs p.ns))), (26, .i p.ns.length), (27, .i 0)]
      [(nid, ⟨26, 2, [[.d (.val (.slice none 0 0)), .d (.val (.slice none 0 0))]]⟩), (nid + 1, ⟨26, 2, [[.own (nid + 2) 3 0 tb.length, .own (nid + 3) 3 0 us.length]]⟩), (nid + 2, ⟨39, 3, upm vecD tb⟩), (nid + 3, ⟨37, 3, upm useD us⟩), (nid + 4, mapRow kk3 (mapE 0 tb)), (nid + 45, ⟨37, 3, [[.i p.d, .i p.i, .own m3 1 0 0]]⟩), (m3, ⟨3, 1, upm intD []⟩)] ?_ ?_ ?_) <;> clear hK K <;> simp [add_add] at hm3
    · simp
    · have e1 : nid ≠ m3 := by omega
      have e2 : nid + 1 ≠ m3 := by omega
      have e3 : nid + 2 ≠ m3 := by omega
      have e4 : nid + 3 ≠ m3 := by omega
      have e5 : nid + 4 ≠ m3 := by omega
      have e6 : nid + 45 ≠ m3 := by omega
      simp [e1, e2, e3, e4, e5, e6]
      exact ⟨rfl, rfl, by simp [elsLe, cellsLe]⟩
    refine Tr.block (Tr.loopK 7 (fun k : Nat => ([(2, .ptr nid 0 0), (3, .ptr (nid + 1) 0 0), (4, .mp (nid + 4)), (7, .ptr (nid + 5) 0 0), (13, .d (.imm (pieces l))), (14, .i l.length), (15, .i i), (25, .d (.imm (vecs p.ns))), (26, .i p.ns.length), (27, .i k)],
      [(nid, ⟨26, 2, [[.d (.val (.slice none 0 0)), .d (.val (.slice none 0 0))]]⟩), (nid + 1, ⟨26, 2, [[.own (nid + 2) 3 0 (runN tb (p.ns.take k)).1.length, .own (nid + 3) 3 0 us.length]]⟩), (nid + 2, ⟨39, 3, upm vecD (runN tb (p.ns.take k)).1⟩), (nid + 3, ⟨37, 3, upm useD us⟩), (nid + 4, mapRow kk3 (mapE 0 (runN tb (p.ns.take k)).1)),
       (nid + 5, ⟨37, 3, [[.i p.d, .i p.i, .own (nid + 6) 1 0 (runN tb (p.ns.take k)).2.length]]⟩), (nid + 6, ⟨3, 1, upm intD (runN tb (p.ns.take k)).2⟩)]))
      (fun k => k ≤ p.ns.length) (fun k => p.ns.length - k) ⟨0, [nid, nid + 1, nid + 2, nid + 3, nid + 4, nid + 45, m3], by omega, ⟨rfl, ?_, ?_, ?_, ?_⟩⟩ ?_)
    · have e1 : nid ≠ m3 := by omega
      have e2 : nid + 1 ≠ m3 := by omega
      have e3 : nid + 2 ≠ m3 := by omega
      have e4 : nid + 3 ≠ m3 := by omega
      have e5 : nid + 4 ≠ m3 := by omega
      have e6 : nid + 45 ≠ m3 := by omega
      simp [e1, e2, e3, e4, e5, e6]
    · simp; omega
    · simp
    · have e1 : nid ≠ m3 := by omega
      have e2 : nid + 1 ≠ m3 := by omega
      have e3 : nid + 2 ≠ m3 := by omega
      have e4 : nid + 3 ≠ m3 := by omega
      have e5 : nid + 4 ≠ m3 := by omega
      have e6 : nid + 45 ≠ m3 := by omega
      simp [e1, e2, e3, e4, e5, e6, runN, mapE_ren]
    intro k hk
    have hrl := runN_len tb (p.ns.take k)
    rw [List.length_take] at hrl
    refine Tr.seq (Tr.regionK fun K hK => ?_)
    simp [Try.f10, hp, hpp, hq, add_add]
    refine hK _ (Tr.seq (Tr.cond rfl rfl ?_ ?_)) <;> clear hK K <;> intro hq2 <;> simp at hq2
    · obtain ⟨x, hx, hxx⟩ : ∃ x, p.ns[k]? = some x ∧ p.ns[k] = x := ⟨p.ns[k], List.getElem?_eq_getElem hq2, rfl⟩
      have hrn := runN_take (t := tb) hx
      simp only at hpl
      generalize runN tb (p.ns.take k) = r at *
      obtain ⟨tc, ks⟩ := r
      simp only at hrl
      refine Tr.skip (Tr.seq (Tr.block (Tr.seq (Tr.regionK fun K hK => ?_))))
      simp [Try.f10, hx, hxx, hq2, add_add]
      refine hK _ (Tr.seq (Tr.regionK fun K1 hK1 => ?_)); clear hK K
      have w : IntKind.i64.wrap ((k : Int) + 1) = (k : Int) + 1 := wrapIn (by omega) (by omega)
      cases hpc : place x tc with
      | some jj =>
        have hst : stepN (tc, ks) x = (tc, ks ++ [(jj : Int)]) := by unfold stepN; rw [hpc]
        have hjl : jj < tc.length := (List.getElem?_eq_some_iff.1 (place_lt hpc)).1
        have hmg := mapE_get' tc 0 jj hjl
        rw [Nat.zero_add] at hmg
        rw [hst] at hrn
        simp [Try.f10, add_add, findM_mapE, hpc, mapRow, hmg]
        refine hK1 _ (Tr.seq (Tr.seq (Tr.regionK fun K hK => ?_))); clear hK1 K1
        simp [Try.f10, add_add]
        refine hK _ (Tr.cond rfl rfl ?_ ?_) <;> clear hK K <;> intro hq3 <;> simp at hq3
        refine Tr.skip (Tr.regionK fun K hK => ?_)
        simp [Try.f10, add_add]
        refine ⟨⟨by omega, by omega⟩, hK _ (Tr.regionK fun K1 hK1 => ?_)⟩; clear hK K
        simp [Try.f10, add_add, w]
        refine hK1 _ ⟨k + 1, [nid, nid + 1, nid + 2, nid + 3, nid + 4, nid + 5, nid + 83], ⟨hq2, by show _ < _; omega⟩, ⟨rfl, ?_, ?_, ?_, ?_⟩⟩ <;> clear hK1 K1
        · simp
        · simp
        · simp
        · simp [add_add, hrn, mapRow, mapE_ren]
          exact .inl (int_snoc ks jj)
      | none =>
        have hst : stepN (tc, ks) x = (tc ++ [x], ks ++ [(tc.length : Int)]) := by unfold stepN; rw [hpc]
        rw [hst] at hrn
        simp [Try.f10, add_add, findM_mapE, hpc, mapRow]
        refine hK1 _ (Tr.seq (Tr.seq (Tr.regionK fun K hK => ?_))); clear hK1 K1
        simp [Try.f10, add_add]
        refine hK _ (Tr.cond rfl rfl ?_ ?_) <;> clear hK K <;> intro hq3 <;> simp at hq3
        refine Tr.seq (Tr.regionK fun K hK => ?_)
        simp [Try.f10, add_add]
        refine hK _ (Tr.seq (Tr.regionK fun K1 hK1 => ?_)); clear hK K
        simp [Try.f10, add_add, findM_mapE, hpc, mapRow, putR]
        refine hK1 _ (Tr.regionK fun K hK => ?_); clear hK1 K1
        simp [Try.f10, add_add]
        refine ⟨⟨by omega, by omega⟩, hK _ (Tr.regionK fun K1 hK1 => ?_)⟩; clear hK K
        simp [Try.f10, add_add]
        refine ⟨⟨by omega, by omega⟩, hK1 _ (Tr.regionK fun K hK => ?_)⟩; clear hK1 K1
        simp [Try.f10, add_add, w]
        refine hK _ ⟨k + 1, [nid, nid + 1, nid + 115, nid + 3, nid + 4, nid + 5, nid + 143], ⟨hq2, by show _ < _; omega⟩, ⟨rfl, ?_, ?_, ?_, ?_⟩⟩ <;> clear hK K
        · simp
        · simp
        · simp
        · simp [add_add, hrn, mapRow, mapE_ren]
          exact ⟨.inl (vec_snoc tc x.a x.b x.c), .inl (mapE_snoc tc x), .inl (int_snoc ks tc.length)⟩
    · have hka : k = p.ns.length := by omega
      subst hka
      rw [List.take_length] at hrl ⊢
      have hst : stepP (tb, us) p = ((runN tb p.ns).1, us ++ [⟨p.d, p.i, (runN tb p.ns).2⟩]) := rfl
      rw [hst] at hpk
      simp only at hpl
      generalize runN tb p.ns = r at *
      obtain ⟨tc, ks⟩ := r
      refine Tr.exit (exit_s (exit_s (exit_b ?_)))
      refine Tr.freezeM (nid + 6) intD ks [(2, .ptr nid 0 0), (3, .ptr (nid + 1) 0 0), (4, .mp (nid + 4)), (7, .ptr (nid + 5) 0 0), (13, .d (.imm (pieces l))), (14, .i l.length), (15, .i i)]
        [(nid, ⟨26, 2, [[.d (.val (.slice none 0 0)), .d (.val (.slice none 0 0))]]⟩), (nid + 1, ⟨26, 2, [[.own (nid + 2) 3 0 tc.length, .own (nid + 3) 3 0 us.length]]⟩), (nid + 2, ⟨39, 3, upm vecD tc⟩), (nid + 3, ⟨37, 3, upm useD us⟩), (nid + 4, mapRow kk3 (mapE 0 tc)), (nid + 5, ⟨37, 3, [[.i p.d, .i p.i, .d (.imm (ints ks))]]⟩)] (ty := 3) (sz := 1) ?_ ?_ ?_ ?_ ?_
      · simp
      · simp
      · simp
      · simp [mapE_frz]
      refine Tr.regionK fun K hK => ?_
      simp [Try.f10, add_add]
      rw [List.length_take] at hpl
      refine ⟨⟨by omega, by omega⟩, hK _ (Tr.regionK fun K1 hK1 => ?_)⟩; clear hK K
      have w : IntKind.i64.wrap ((i : Int) + 1) = (i : Int) + 1 := wrapIn (by omega) (by omega)
      simp [Try.f10, add_add, w]
      refine hK1 _ ⟨i + 1, [nid, nid + 1, nid + 2, nid + 27, nid + 4], ⟨hq, by show _ < _; omega⟩, ⟨rfl, ?_, ?_, ?_, ?_⟩⟩ <;> clear hK1 K1
      · simp
      · simp
      · simp
      · simp [add_add, hpk, mapRow, mapE_ren]
        exact .inl (use_snoc us p.d p.i ks)
  · have hia : i = l.length := by omega
    subst hia
    rw [List.take_length]
    generalize pack l = s
    obtain ⟨tb, us⟩ := s
    refine Tr.exit (exit_s (exit_s (exit_b ?_)))
    refine Tr.freezeM (nid + 2) vecD tb [(2, .ptr nid 0 0), (3, .ptr (nid + 1) 0 0)]
      [(nid, ⟨26, 2, [[.d (.val (.slice none 0 0)), .d (.val (.slice none 0 0))]]⟩), (nid + 1, ⟨26, 2, [[.d (.imm (vecs tb)), .own (nid + 3) 3 0 us.length]]⟩), (nid + 3, ⟨37, 3, upm useD us⟩)] (ty := 39) (sz := 3) ?_ ?_ ?_ ?_ ?_
    · simp
    · simp
    · simp
    · simp
    refine Tr.freezeM (nid + 3) useD us [(2, .ptr nid 0 0), (3, .ptr (nid + 1) 0 0)]
      [(nid, ⟨26, 2, [[.d (.val (.slice none 0 0)), .d (.val (.slice none 0 0))]]⟩), (nid + 1, ⟨26, 2, [[.d (.imm (vecs tb)), .d (.imm (uses us))]]⟩)] (ty := 37) (sz := 3) ?_ ?_ ?_ ?_ ?_
    · simp
    · simp
    · simp
    · simp
    refine Tr.seq (Tr.regionK fun K hK => ?_)
    simp [Try.f10, add_add]
    refine hK _ (Tr.ret ⟨.inr rfl, ?_, ?_, ?_, ?_⟩) <;> simp [Try.f10]
end Go.Proofs.Ytfeabgjcnnabdaa
