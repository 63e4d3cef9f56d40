/- The walk through the reference's function that packs pieces. -/
import Derived.Test.YtfeabgjcnnabdaaW5
namespace Go.Proofs.Ytfeabgjcnnabdaa
open Go.PM

abbrev intD (x : Int) : List DV := [.val (.int .i64 x)]
theorem int_snoc (l : List Int) (a : Int) : upm intD l ++ [[.i a]] = upm intD (l ++ [a]) := by simp [upm]
theorem use_snoc (l : List Us) (d i : Int) (ns : List Int) : upm useD l ++ [[.i d, .i i, .d (.imm (ints ns))]] = upm useD (l ++ [⟨d, i, ns⟩]) := by simp [upm]

def stepN (s : List V3 × List Int) (x : V3) : List V3 × List Int := match place x s.1 with
  | some j => (s.1, s.2 ++ [(j : Int)])
  | none => (s.1 ++ [x], s.2 ++ [(s.1.length : Int)])
def runN (t : List V3) (ns : List V3) : List V3 × List Int := ns.foldl stepN (t, [])
def stepP (s : List V3 × List Us) (p : Pc) : List V3 × List Us := ((runN s.1 p.ns).1, s.2 ++ [⟨p.d, p.i, (runN s.1 p.ns).2⟩])
def pack (l : List Pc) : List V3 × List Us := l.foldl stepP ([], [])
def tot : List Pc → Nat
  | [] => 0
  | p :: r => p.ns.length + tot r

theorem runN_take {t ns : List V3} {k : Nat} {x : V3} (h : ns[k]? = some x) : runN t (ns.take (k + 1)) = stepN (runN t (ns.take k)) x := by
  unfold runN
  rw [List.take_add_one, h]
  simp
theorem pack_take {l : List Pc} {k : Nat} {x : Pc} (h : l[k]? = some x) : pack (l.take (k + 1)) = stepP (pack (l.take k)) x := by
  unfold pack
  rw [List.take_add_one, h]
  simp
theorem stepN_len (s : List V3 × List Int) (x : V3) : (stepN s x).1.length ≤ s.1.length + 1 ∧ (stepN s x).2.length = s.2.length + 1 := by
  unfold stepN
  split <;> simp
theorem foldN_len : ∀ (ns : List V3) (s : List V3 × List Int), (ns.foldl stepN s).1.length ≤ s.1.length + ns.length ∧ (ns.foldl stepN s).2.length = s.2.length + ns.length
  | [], s => by simp
  | x :: ns, s => by
    have h1 := stepN_len s x
    have h2 := foldN_len ns (stepN s x)
    simp only [List.foldl_cons, List.length_cons]
    omega
theorem runN_len (t ns : List V3) : (runN t ns).1.length ≤ t.length + ns.length ∧ (runN t ns).2.length = ns.length := by
  have := foldN_len ns (t, [])
  simpa [runN] using this
theorem foldP_len : ∀ (l : List Pc) (s : List V3 × List Us), (l.foldl stepP s).1.length ≤ s.1.length + tot l ∧ (l.foldl stepP s).2.length = s.2.length + l.length
  | [], s => by simp [tot]
  | p :: l, s => by
    have h1 := runN_len s.1 p.ns
    have h2 := foldP_len l (stepP s p)
    simp only [List.foldl_cons, List.length_cons, tot]
    unfold stepP at h2 ⊢
    simp at h2 ⊢
    omega
theorem pack_len (l : List Pc) : (pack l).1.length ≤ tot l ∧ (pack l).2.length = l.length := by
  have := foldP_len l ([], [])
  simpa [pack] using this
theorem tot_append (a b : List Pc) : tot (a ++ b) = tot a + tot b := by
  induction a with
  | nil => simp [tot]
  | cons x a ih => simp [tot, ih]; omega
theorem tot_take {l : List Pc} {i : Nat} {p : Pc} (h : l[i]? = some p) : tot (l.take (i + 1)) = tot (l.take i) + p.ns.length := by
  rw [List.take_add_one, h, tot_append]
  simp [tot]
theorem tot_le (l : List Pc) (i : Nat) : tot (l.take i) ≤ tot l := by
  have := tot_append (l.take i) (l.drop i)
  rw [List.take_append_drop] at this
  omega

theorem pcall_refPack (l : List Pc) (hl : l.length ≤ 4194304) (ht : tot l ≤ 4194304) : PCall Try.prog 9 [.d (.imm (pieces l))] (packD (pack l).1 (pack l).2) := by
  refine walk Try.func9 (by kernel_rfl) rfl 77 rfl (Nat.le_of_ble_eq_true rfl) fun nid _ => ?_
  refine Tr.seq (Tr.regionK fun K hK => ?_)
  simp [Try.f9]
  refine hK _ (Tr.seq (Tr.regionK fun K1 hK1 => ?_)); clear hK K
  simp [Try.f9]
  refine hK1 _ (Tr.seq (Tr.seq (Tr.regionK fun K hK => ?_))); clear hK1 K1
  simp [Try.f9]
  refine hK _ (Tr.bump fun m hm => Tr.toSt1 39 3 [(0, .d (.imm (pieces l))), (2, .ptr nid 0 0), (3, .ptr (nid + 4) 0 0), (4, .i 0)] [(nid, ⟨26, 2, [[.d (.val (.slice none 0 0)), .d (.val (.slice none 0 0))]]⟩), (nid + 4, ⟨26, 2, [[.own m 3 0 0, .d (.val (.slice none 0 0))]]⟩), (m, ⟨39, 3, upm vecD []⟩)] ?_ ?_ ?_) <;> clear hK K <;> simp [add_add] at hm
  · simp
  · have e1 : nid ≠ m := by omega
    have e2 : nid + 4 ≠ m := by omega
    simp [e1, e2]
    exact ⟨rfl, rfl, by simp [elsLe, cellsLe]⟩
  refine Tr.bump fun m2 hm2 => Tr.toSt1 37 3 [(0, .d (.imm (pieces l))), (2, .ptr nid 0 0), (3, .ptr (nid + 4) 0 0), (4, .i 0)] [(nid, ⟨26, 2, [[.d (.val (.slice none 0 0)), .d (.val (.slice none 0 0))]]⟩), (nid + 4, ⟨26, 2, [[.own m 3 0 0, .own m2 3 0 0]]⟩), (m, ⟨39, 3, upm vecD []⟩), (m2, ⟨37, 3, upm useD []⟩)] ?_ ?_ ?_
  · simp
  · have e1 : nid ≠ m := by omega
    have e2 : nid + 4 ≠ m := by omega
    have e3 : nid ≠ m2 := by omega
    have e4 : nid + 4 ≠ m2 := by omega
    have e5 : m ≠ m2 := by omega
    simp [e1, e2, e3, e4, e5]
    exact ⟨rfl, rfl, by simp [elsLe, cellsLe]⟩
  refine Tr.block (Tr.loopK 4 (fun i : Nat => ([(0, .d (.imm (pieces l))), (2, .ptr nid 0 0), (3, .ptr (nid + 1) 0 0), (4, .i i)],
    [(nid, ⟨26, 2, [[.d (.val (.slice none 0 0)), .d (.val (.slice none 0 0))]]⟩), (nid + 1, ⟨26, 2, [[.own (nid + 2) 3 0 (pack (l.take i)).1.length, .own (nid + 3) 3 0 (pack (l.take i)).2.length]]⟩), (nid + 2, ⟨39, 3, upm vecD (pack (l.take i)).1⟩), (nid + 3, ⟨37, 3, upm useD (pack (l.take i)).2⟩)]))
    (fun i => i ≤ l.length) (fun i => l.length - i) ⟨0, [nid, nid + 4, m, m2], by omega, ⟨rfl, ?_, ?_, ?_, ?_⟩⟩ ?_)
  · have e1 : nid ≠ m := by omega
    have e2 : nid + 4 ≠ m := by omega
    have e3 : nid ≠ m2 := by omega
    have e4 : nid + 4 ≠ m2 := by omega
    have e5 : m ≠ m2 := by omega
    simp [e1, e2, e3, e4, e5]
  · simp; omega
  · simp
  · have e1 : nid ≠ m := by omega
    have e2 : nid + 4 ≠ m := by omega
    have e3 : nid ≠ m2 := by omega
    have e4 : nid + 4 ≠ m2 := by omega
    have e5 : m ≠ m2 := by omega
    simp [e1, e2, e3, e4, e5, pack]
  intro i hi
  refine Tr.seq (Tr.seq (Tr.regionK fun K hK => ?_))
  simp [Try.f9]
  refine hK _ (Tr.cond rfl rfl ?_ ?_) <;> clear hK K <;> intro hq <;> simp at hq
  · obtain ⟨p, hp, hpp⟩ : ∃ p, l[i]? = some p ∧ l[i] = p := ⟨l[i], List.getElem?_eq_getElem hq, rfl⟩
    have hpk := pack_take hp
    have hpl := pack_len (l.take i)
    have htt := tot_take hp
    have htl := tot_le l (i + 1)
    generalize pack (l.take i) = s at *
    obtain ⟨tb, us⟩ := s
    refine Tr.skip (Tr.seq (Tr.block (Tr.seq (Tr.regionE mixed (by kernel_rfl) fun K hK => ?_))))
    simp [Try.f9, hp, hpp, hq, add_add, Region.binds]
    refine hK _ (Tr.seq (Tr.seq (Tr.regionK fun K1 hK1 => ?_))); clear hK K
    simp [Try.f9, add_add]
    refine hK1 _ (Tr.bump fun m3 hm3 => Tr.toSt1 3 1 [(0, .d (.imm (pieces l))), (2, .ptr nid 0 0), (3, .ptr (nid + 1) 0 0), (4, .i i), (5, .ptr (nid + 64) 0 0), (6, .i 0)]
      [(nid, ⟨26, 2, [[.d (.val (.slice none 0 0)), .d (.val (.slice none 0 0))]]⟩), (nid + 1, ⟨26, 2, [[.own (nid + 2) 3 0 tb.length, .own (nid + 3) 3 0 us.length]]⟩), (nid + 2, ⟨39, 3, upm vecD tb⟩), (nid + 3, ⟨37, 3, upm useD us⟩), (nid + 64, ⟨37, 3, [[.i p.d, .i p.i, .own m3 1 0 0]]⟩), (m3, ⟨3, 1, upm intD []⟩)] ?_ ?_ ?_) <;> clear hK1 K1 <;> simp [add_add] at hm3
    · simp
    · have e1 : nid ≠ m3 := by omega
      have e2 : nid + 1 ≠ m3 := by omega
      have e3 : nid + 2 ≠ m3 := by omega
      have e4 : nid + 3 ≠ m3 := by omega
      have e5 : nid + 64 ≠ m3 := by omega
      simp [e1, e2, e3, e4, e5]
      exact ⟨rfl, rfl, by simp [elsLe, cellsLe]⟩
    refine Tr.block (Tr.loopK 6 (fun k : Nat => ([(0, .d (.imm (pieces l))), (2, .ptr nid 0 0), (3, .ptr (nid + 1) 0 0), (4, .i i), (5, .ptr (nid + 4) 0 0), (6, .i k)],
      [(nid, ⟨26, 2, [[.d (.val (.slice none 0 0)), .d (.val (.slice none 0 0))]]⟩), (nid + 1, ⟨26, 2, [[.own (nid + 2) 3 0 (runN tb (p.ns.take k)).1.length, .own (nid + 3) 3 0 us.length]]⟩), (nid + 2, ⟨39, 3, upm vecD (runN tb (p.ns.take k)).1⟩), (nid + 3, ⟨37, 3, upm useD us⟩),
       (nid + 4, ⟨37, 3, [[.i p.d, .i p.i, .own (nid + 5) 1 0 (runN tb (p.ns.take k)).2.length]]⟩), (nid + 5, ⟨3, 1, upm intD (runN tb (p.ns.take k)).2⟩)]))
      (fun k => k ≤ p.ns.length) (fun k => p.ns.length - k) ⟨0, [nid, nid + 1, nid + 2, nid + 3, nid + 64, m3], by omega, ⟨rfl, ?_, ?_, ?_, ?_⟩⟩ ?_)
    · have e1 : nid ≠ m3 := by omega
      have e2 : nid + 1 ≠ m3 := by omega
      have e3 : nid + 2 ≠ m3 := by omega
      have e4 : nid + 3 ≠ m3 := by omega
      have e5 : nid + 64 ≠ m3 := by omega
      simp [e1, e2, e3, e4, e5]
    · simp; omega
    · simp
    · have e1 : nid ≠ m3 := by omega
      have e2 : nid + 1 ≠ m3 := by omega
      have e3 : nid + 2 ≠ m3 := by omega
      have e4 : nid + 3 ≠ m3 := by omega
      have e5 : nid + 64 ≠ m3 := by omega
      simp [e1, e2, e3, e4, e5, runN]
    intro k hk
    have hrl := runN_len tb (p.ns.take k)
    rw [List.length_take] at hrl
    refine Tr.seq (Tr.seq (Tr.regionK fun K hK => ?_))
    simp [Try.f9, hp, hpp, hq, add_add]
    refine hK _ (Tr.cond rfl rfl ?_ ?_) <;> clear hK K <;> intro hq2 <;> simp at hq2
    · obtain ⟨x, hx, hxx⟩ : ∃ x, p.ns[k]? = some x ∧ p.ns[k] = x := ⟨p.ns[k], List.getElem?_eq_getElem hq2, rfl⟩
      have hrn := runN_take (t := tb) hx
      simp only at hpl
      generalize runN tb (p.ns.take k) = r at *
      obtain ⟨tc, ks⟩ := r
      simp only at hrl
      refine Tr.skip (Tr.seq (Tr.block (Tr.seq (Tr.regionE mixed (by kernel_rfl) fun K hK => ?_))))
      simp [Try.f9, hp, hpp, hq, hx, hxx, hq2, add_add]
      refine .inr ⟨[(nid + 2, ⟨39, 3, upm vecD tc⟩)], [], fun _ => .i (numberI tc x), [(nid + 2, ⟨39, 3, upm vecD tc⟩)], [], ⟨HCall.lend [(nid + 2, 39, 3, vecs tc)] (pcall_number tc x (by omega)) (by simp) ?_ rfl rfl, by simp, by simp, by simp, by simp, ?_, by simp, rfl, by simp⟩, (by simp [Region.binds]), ?_⟩
      · simp [frzL]
      · simp
      simp [add_add, Region.binds]
      refine hK _ (Tr.toSt [(0, .d (.imm (pieces l))), (2, .ptr nid 0 0), (3, .ptr (nid + 1) 0 0), (4, .i i), (5, .ptr (nid + 4) 0 0), (6, .i k), (7, .i (numberI tc x))]
        [(nid, ⟨26, 2, [[.d (.val (.slice none 0 0)), .d (.val (.slice none 0 0))]]⟩), (nid + 1, ⟨26, 2, [[.own (nid + 2) 3 0 tc.length, .own (nid + 3) 3 0 us.length]]⟩), (nid + 2, ⟨39, 3, upm vecD tc⟩), (nid + 3, ⟨37, 3, upm useD us⟩), (nid + 4, ⟨37, 3, [[.i p.d, .i p.i, .own (nid + 5) 1 0 ks.length]]⟩), (nid + 5, ⟨3, 1, upm intD ks⟩)] ?_ ?_ ?_) <;> clear hK K
      · simp
      · simp
      refine Tr.seq (Tr.seq (Tr.regionK fun K hK => ?_))
      simp [Try.f9]
      cases hpc : place x tc with
      | some jj =>
        have hnum : numberI tc x = (jj : Int) := by unfold numberI; rw [hpc]
        have hst : stepN (tc, ks) x = (tc, ks ++ [(jj : Int)]) := by unfold stepN; rw [hpc]
        rw [hst] at hrn
        rw [hnum]
        refine hK _ (Tr.cond rfl rfl ?_ ?_) <;> clear hK K <;> intro hq3 <;> simp at hq3
        · omega
        refine Tr.skip (Tr.regionK fun K hK => ?_)
        simp [Try.f9, add_add]
        refine ⟨⟨by omega, by omega⟩, hK _ (Tr.regionK fun K1 hK1 => ?_)⟩; clear hK K
        have w : IntKind.i64.wrap ((k : Int) + 1) = (k : Int) + 1 := wrapIn (by omega) (by omega)
        simp [Try.f9, add_add, w]
        refine hK1 _ ⟨k + 1, [nid, nid + 1, nid + 2, nid + 3, nid + 4, nid + 110], ⟨hq2, by show _ < _; omega⟩, ⟨rfl, ?_, ?_, ?_, ?_⟩⟩ <;> clear hK1 K1
        · simp
        · simp
        · simp
        · simp [add_add, hrn]
          exact .inl (int_snoc ks jj)
      | none =>
        have hnum : numberI tc x = -1 := by unfold numberI; rw [hpc]
        have hst : stepN (tc, ks) x = (tc ++ [x], ks ++ [(tc.length : Int)]) := by unfold stepN; rw [hpc]
        rw [hst] at hrn
        rw [hnum]
        refine hK _ (Tr.cond rfl rfl ?_ ?_) <;> clear hK K <;> intro hq3
        · refine Tr.seq (Tr.regionK fun K hK => ?_)
          simp [Try.f9, add_add]
          refine hK _ (Tr.regionE mixed (by kernel_rfl) fun K1 hK1 => ?_); clear hK K
          simp [Try.f9, hp, hpp, hq, hx, hxx, hq2, add_add, Region.binds]
          refine ⟨⟨by omega, by omega⟩, hK1 _ (Tr.regionK fun K hK => ?_)⟩; clear hK1 K1
          simp [Try.f9, add_add]
          refine ⟨⟨by omega, by omega⟩, hK _ (Tr.regionK fun K1 hK1 => ?_)⟩; clear hK K
          have w : IntKind.i64.wrap ((k : Int) + 1) = (k : Int) + 1 := wrapIn (by omega) (by omega)
          simp [Try.f9, add_add, w]
          refine hK1 _ ⟨k + 1, [nid, nid + 1, nid + 154, nid + 3, nid + 4, nid + 182], ⟨hq2, by show _ < _; omega⟩, ⟨rfl, ?_, ?_, ?_, ?_⟩⟩ <;> clear hK1 K1
          · simp
          · simp
          · simp
          · simp [add_add, hrn]
            exact ⟨.inl (vec_snoc tc x.a x.b x.c), .inl (int_snoc ks tc.length)⟩
        · simp at hq3
    · have hka : k = p.ns.length := by omega
      subst hka
      rw [List.take_length] at hrl ⊢
      have hst : stepP (tb, us) p = ((runN tb p.ns).1, us ++ [⟨p.d, p.i, (runN tb p.ns).2⟩]) := rfl
      rw [hst] at hpk
      simp only at hpl
      generalize runN tb p.ns = r at *
      obtain ⟨tc, ks⟩ := r
      refine Tr.exit (exit_s (exit_s (exit_b ?_)))
      refine Tr.freezeM (nid + 5) intD ks [(0, .d (.imm (pieces l))), (2, .ptr nid 0 0), (3, .ptr (nid + 1) 0 0), (4, .i i), (5, .ptr (nid + 4) 0 0)]
        [(nid, ⟨26, 2, [[.d (.val (.slice none 0 0)), .d (.val (.slice none 0 0))]]⟩), (nid + 1, ⟨26, 2, [[.own (nid + 2) 3 0 tc.length, .own (nid + 3) 3 0 us.length]]⟩), (nid + 2, ⟨39, 3, upm vecD tc⟩), (nid + 3, ⟨37, 3, upm useD us⟩), (nid + 4, ⟨37, 3, [[.i p.d, .i p.i, .d (.imm (ints ks))]]⟩)] (ty := 3) (sz := 1) ?_ ?_ ?_ ?_ ?_
      · simp
      · simp
      · simp
      · simp
      refine Tr.regionK fun K hK => ?_
      simp [Try.f9, add_add]
      rw [List.length_take] at hpl
      refine ⟨⟨by omega, by omega⟩, hK _ (Tr.regionK fun K1 hK1 => ?_)⟩; clear hK K
      have w : IntKind.i64.wrap ((i : Int) + 1) = (i : Int) + 1 := wrapIn (by omega) (by omega)
      simp [Try.f9, add_add, w]
      refine hK1 _ ⟨i + 1, [nid, nid + 1, nid + 2, nid + 54], ⟨hq, by show _ < _; omega⟩, ⟨rfl, ?_, ?_, ?_, ?_⟩⟩ <;> clear hK1 K1
      · simp
      · simp
      · simp
      · simp [add_add, hpk]
        exact .inl (use_snoc us p.d p.i ks)
  · have hia : i = l.length := by omega
    subst hia
    rw [List.take_length]
    generalize pack l = s
    obtain ⟨tb, us⟩ := s
    refine Tr.exit (exit_s (exit_s (exit_b ?_)))
    refine Tr.freezeM (nid + 2) vecD tb [(2, .ptr nid 0 0), (3, .ptr (nid + 1) 0 0)]
      [(nid, ⟨26, 2, [[.d (.val (.slice none 0 0)), .d (.val (.slice none 0 0))]]⟩), (nid + 1, ⟨26, 2, [[.d (.imm (vecs tb)), .own (nid + 3) 3 0 us.length]]⟩), (nid + 3, ⟨37, 3, upm useD us⟩)] (ty := 39) (sz := 3) ?_ ?_ ?_ ?_ ?_
    · simp
    · simp
    · simp
    · simp
    refine Tr.freezeM (nid + 3) useD us [(2, .ptr nid 0 0), (3, .ptr (nid + 1) 0 0)]
      [(nid, ⟨26, 2, [[.d (.val (.slice none 0 0)), .d (.val (.slice none 0 0))]]⟩), (nid + 1, ⟨26, 2, [[.d (.imm (vecs tb)), .d (.imm (uses us))]]⟩)] (ty := 37) (sz := 3) ?_ ?_ ?_ ?_ ?_
    · simp
    · simp
    · simp
    · simp
    refine Tr.seq (Tr.regionK fun K hK => ?_)
    simp [Try.f9, add_add]
    refine hK _ (Tr.ret ⟨.inr rfl, ?_, ?_, ?_, ?_⟩) <;> simp [Try.f9]
end Go.Proofs.Ytfeabgjcnnabdaa
