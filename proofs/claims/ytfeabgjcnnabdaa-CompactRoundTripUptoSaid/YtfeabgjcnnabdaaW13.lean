/- The walk through the law CompactRoundTrip. -/
import Derived.Test.YtfeabgjcnnabdaaW12
namespace Go.Proofs.Ytfeabgjcnnabdaa
open Go.PM

abbrev boolD (b : Bool) : List DV := [.val (.bool b)]
theorem bool_row (n : Nat) : List.replicate n [PV.b false] = upm boolD (List.replicate n false) := by simp [upm]
theorem bool_set (l : List Bool) (j : Nat) : (upm boolD l).set j [PV.b true] = upm boolD (l.set j true) := upm_set boolD l j true
theorem bool_get (l : List Bool) (j : Nat) (b : Bool) (h : l[j]? = some b) : (upm boolD l)[j]? = some [PV.b b] := upm_get boolD l j b h

theorem bool_tail (l : List Bool) (j : Nat) (h : j < (upm boolD l).length) : (upm boolD l)[j].tail = [] := by simp [upm]

theorem pcall_law4 (l0 : List Pc) (li : List Int) (hl : l0.length ≤ 1048570) (ht : tot l0 ≤ 1048550) (hli : ∀ x ∈ li, -9223372036854775808 ≤ x ∧ x ≤ 9223372036854775807) (hlen : li.length ≤ 1048576) :
    PCall Try.prog 4 [.d (.imm (pieces l0)), .d (.imm (ints li))] (.b true) := by
  have hsl := some_len li
  have hs := hcall_some li hli hlen
  obtain ⟨X, hX⟩ : ∃ X, X = someL li ++ l0 := ⟨_, rfl⟩
  have hXlen : (someL li).length + l0.length = X.length := by rw [hX]; simp
  have hXl : X.length ≤ 1048576 := by rw [hX]; simp; omega
  have hXt : tot X ≤ 1048576 := by rw [hX, tot_append]; omega
  have hp := pcall_pack X (by omega) (by omega)
  have hk := packs_pack X
  have hpf := pack_fitsP hXl hXt
  generalize hpk : pack X = pk at *
  obtain ⟨t, us⟩ := pk
  simp only at hk hpf hp
  have hu := pcall_unpack t us hpf.ht hpf.hu hpf.ns
  have hur : unpackR t us = .tup [.d (.imm (pieces X)), .b true] := by unfold unpackR; rw [hk.reads]
  rw [hur] at hu
  have hfx : fits X := unpack_fits hpf hk.reads
  have hss := pcall_samePieces X X hfx hfx
  simp only [decide_true] at hss
  have ht1 := hpf.ht
  have hu1 := hpf.hu
  refine walk Try.func4 (by kernel_rfl) rfl 104 rfl (Nat.le_of_ble_eq_true rfl) fun nid _ => ?_
  refine Tr.seq (Tr.regionK fun K hK => ?_)
  simp [Try.f4]
  refine hK _ (Tr.seq (Tr.regionK fun K1 hK1 => ?_)); clear hK K
  simp [Try.f4]
  refine .inr ⟨[], [], fun n => .own n 3 0 (someL li).length, [], [⟨45, 3, upm pieceD (someL li)⟩], ⟨hs, by simp, by simp, by simp, by simp, by simp, by simp, by simp, by simp⟩, ?_⟩
  simp [add_add]
  refine ⟨⟨by omega, by omega⟩, hK1 _ ?_⟩; clear hK1 K1
  refine Tr.freezeM (nid + 16) pieceD X [(5, .d (.imm (pieces X)))] [] (ty := 45) (sz := 3) ?_ ?_ ?_ ?_ ?_
  · simp [upm, hX]
  · simp
  · simp [hXlen]
  · simp
  refine Tr.seq (Tr.regionK fun K hK => ?_)
  simp [Try.f4, add_add]
  refine .inl ⟨_, hp, rfl, ?_⟩
  simp [add_add]
  refine hK _ (Tr.seq (Tr.regionK fun K1 hK1 => ?_)); clear hK K
  simp [Try.f4, add_add]
  refine .inl ⟨_, hu, rfl, ?_⟩
  simp [add_add]
  refine hK1 _ (Tr.seq (Tr.regionK fun K hK => ?_)); clear hK1 K1
  simp [Try.f4, add_add]
  refine ⟨by omega, hK _ (Tr.toSt [(5, .d (.imm (pieces X))), (6, .ptr (nid + 32) 0 0), (7, .d (.imm (pieces X))), (8, .b true), (9, .own (nid + 80) 1 0 t.length)]
    [(nid + 32, ⟨26, 2, [[.d (.imm (vecs t)), .d (.imm (uses us))]]⟩), (nid + 80, ⟨4, 1, upm boolD (List.replicate t.length false)⟩)] ?_ ?_ ?_)⟩ <;> clear hK K
  · simp
  · simp [← bool_row]
  refine Tr.seq (Tr.seq (Tr.regionK fun K hK => ?_))
  simp [Try.f4]
  refine hK _ (Tr.block (Tr.loopK 2 (fun x : Nat × List Bool => ([(5, .d (.imm (pieces X))), (6, .ptr nid 0 0), (7, .d (.imm (pieces X))), (8, .b true), (9, .own (nid + 1) 1 0 t.length), (10, .i x.1)],
    [(nid, ⟨26, 2, [[.d (.imm (vecs t)), .d (.imm (uses us))]]⟩), (nid + 1, ⟨4, 1, upm boolD x.2⟩)]))
    (fun x => x.1 ≤ us.length ∧ x.2.length = t.length ∧ ∀ u ∈ us.take x.1, ∀ y ∈ u.ns, x.2[y.toNat]? = some true) (fun x => us.length - x.1) ⟨(0, List.replicate t.length false), [nid + 32, nid + 80], ⟨by omega, by simp, by simp⟩, ⟨rfl, ?_, ?_, ?_, ?_⟩⟩ ?_)) <;> clear hK K
  · simp
  · simp
  · simp
  · simp
  rintro ⟨i, bs⟩ ⟨hi, hbl, hbs⟩
  simp only at hi hbl hbs
  refine Tr.seq (Tr.seq (Tr.regionK fun K hK => ?_))
  simp [Try.f4]
  refine hK _ (Tr.cond rfl rfl ?_ ?_) <;> clear hK K <;> intro hq <;> simp at hq
  · obtain ⟨u, hget, hgu⟩ : ∃ u, us[i]? = some u ∧ us[i] = u := ⟨us[i], List.getElem?_eq_getElem hq, rfl⟩
    have hum := List.mem_of_getElem? hget
    have hun := (hpf.ns u hum).1
    refine Tr.skip (Tr.seq (Tr.block (Tr.seq (Tr.regionK fun K hK => ?_))))
    simp [Try.f4]
    refine hK _ (Tr.block (Tr.loopK 2 (fun x : Nat × List Bool => ([(5, .d (.imm (pieces X))), (6, .ptr nid 0 0), (7, .d (.imm (pieces X))), (8, .b true), (9, .own (nid + 1) 1 0 t.length), (10, .i i), (11, .i x.1)],
      [(nid, ⟨26, 2, [[.d (.imm (vecs t)), .d (.imm (uses us))]]⟩), (nid + 1, ⟨4, 1, upm boolD x.2⟩)]))
      (fun x => x.1 ≤ u.ns.length ∧ x.2.length = t.length ∧ (∀ u ∈ us.take i, ∀ y ∈ u.ns, x.2[y.toNat]? = some true) ∧ ∀ y ∈ u.ns.take x.1, x.2[y.toNat]? = some true) (fun x => u.ns.length - x.1) ⟨(0, bs), [nid, nid + 1], ⟨by omega, hbl, hbs, by simp⟩, ⟨rfl, ?_, ?_, ?_, ?_⟩⟩ ?_)) <;> clear hK K
    · simp
    · simp
    · simp
    · simp
    rintro ⟨k, cs⟩ ⟨hk1, hcl, hcs, hcs2⟩
    simp only at hk1 hcl hcs hcs2
    refine Tr.seq (Tr.seq (Tr.regionK fun K hK => ?_))
    simp [Try.f4, hget, hgu, hq]
    refine hK _ (Tr.cond rfl rfl ?_ ?_) <;> clear hK K <;> intro hq2 <;> simp at hq2
    · obtain ⟨y, hy, hyy⟩ : ∃ y, u.ns[k]? = some y ∧ u.ns[k] = y := ⟨u.ns[k], List.getElem?_eq_getElem hq2, rfl⟩
      have hr := hk.rng u hum y (List.mem_of_getElem? hy)
      have hylt : y.toNat < t.length := by omega
      have hn1 : ¬ y < 0 := by omega
      have hn2 : ¬ (t.length : Int) ≤ y := by omega
      refine Tr.skip (Tr.seq (Tr.block (Tr.seq (Tr.regionK fun K hK => ?_))))
      simp [Try.f4, hget, hgu, hq, hy, hyy, hq2]
      refine hK _ (Tr.seq (Tr.seq (Tr.regionK fun K1 hK1 => ?_))); clear hK K
      simp [Try.f4, hn1, hn2]
      refine hK1 _ (Tr.cond rfl rfl ?_ ?_) <;> clear hK1 K1 <;> intro hq3 <;> simp at hq3
      refine Tr.skip (Tr.regionK fun K hK => ?_)
      simp [Try.f4, hr.1, hr.2, hcl, hylt]
      refine hK _ (Tr.regionK fun K1 hK1 => ?_); clear hK K
      have w : IntKind.i64.wrap ((k : Int) + 1) = (k : Int) + 1 := wrapIn (by omega) (by omega)
      simp [Try.f4, w]
      refine hK1 _ ⟨(k + 1, cs.set y.toNat true), [nid, nid + 1], ⟨⟨hq2, by simpa using hcl, fun u' hu' z hz => ?_, fun z hz => ?_⟩, by show _ < _; simp; omega⟩, ⟨rfl, ?_, ?_, ?_, ?_⟩⟩ <;> clear hK1 K1
      · have := hcs u' hu' z hz
        rw [List.getElem?_set]
        split
        · rw [if_pos (by rw [hcl]; omega)]
        · exact this
      · rw [List.getElem?_set]
        split
        · rw [if_pos (by rw [hcl]; omega)]
        · rename_i hne
          rw [List.take_add_one, hy] at hz
          simp only [Option.toList_some, List.mem_append, List.mem_singleton] at hz
          rcases hz with hz | rfl
          · exact hcs2 z hz
          · exact absurd rfl hne
      · simp
      · simp
      · simp
      · simp [bool_tail]
        exact .inl (bool_set cs y.toNat)
    · have hka : k = u.ns.length := by omega
      subst hka
      rw [List.take_length] at hcs2
      refine Tr.exit (exit_s (exit_s (exit_b ?_)))
      refine Tr.regionK fun K1 hK1 => ?_
      have w : IntKind.i64.wrap ((i : Int) + 1) = (i : Int) + 1 := wrapIn (by omega) (by omega)
      simp [Try.f4, w]
      refine hK1 _ ⟨(i + 1, cs), [nid, nid + 1], ⟨⟨hq, hcl, fun u' hu' z hz => ?_⟩, by show _ < _; simp; omega⟩, ⟨rfl, ?_, ?_, ?_, ?_⟩⟩ <;> clear hK1 K1
      · rw [List.take_add_one, hget] at hu'
        simp only [Option.toList_some, List.mem_append, List.mem_singleton] at hu'
        rcases hu' with hu' | rfl
        · exact hcs u' hu' z hz
        · exact hcs2 z hz
      · simp
      · simp
      · simp
      · simp
  · have hia : i = us.length := by omega
    subst hia
    rw [List.take_length] at hbs
    have hall : ∀ j, j < t.length → bs[j]? = some true := fun j hj => by
      obtain ⟨u, hu, hju⟩ := hk.used j hj
      simpa using hbs u hu _ hju
    have hbt : bs = List.replicate t.length true := by
      apply List.ext_getElem?
      intro j
      rw [List.getElem?_replicate]
      split
      · exact hall j (by assumption)
      · exact List.getElem?_eq_none (by omega)
    refine Tr.exit (exit_s (exit_s (exit_b ?_)))
    refine Tr.seq (Tr.seq (Tr.regionK fun K hK => ?_))
    simp [Try.f4]
    refine hK _ (Tr.block (Tr.loopK 2 (fun x : Nat => ([(5, .d (.imm (pieces X))), (6, .ptr nid 0 0), (7, .d (.imm (pieces X))), (8, .b true), (9, .own (nid + 1) 1 0 t.length), (13, .i x)],
      [(nid, ⟨26, 2, [[.d (.imm (vecs t)), .d (.imm (uses us))]]⟩), (nid + 1, ⟨4, 1, upm boolD bs⟩)]))
      (fun x => x ≤ t.length) (fun x => t.length - x) ⟨0, [nid, nid + 1], by omega, ⟨rfl, ?_, ?_, ?_, ?_⟩⟩ ?_)) <;> clear hK K
    · simp
    · simp
    · simp
    · simp
    intro i hi2
    refine Tr.seq (Tr.seq (Tr.regionK fun K hK => ?_))
    simp [Try.f4]
    refine hK _ (Tr.cond rfl rfl ?_ ?_) <;> clear hK K <;> intro hq <;> simp at hq
    · obtain ⟨v, hv, hvv⟩ : ∃ v, t[i]? = some v ∧ t[i] = v := ⟨t[i], List.getElem?_eq_getElem hq, rfl⟩
      have hbi := hall i hq
      refine Tr.skip (Tr.seq (Tr.block (Tr.seq (Tr.seq (Tr.regionK fun K hK => ?_)))))
      simp [Try.f4]
      refine hK _ (Tr.block (Tr.loopK 2 (fun x : Nat => ([(5, .d (.imm (pieces X))), (6, .ptr nid 0 0), (7, .d (.imm (pieces X))), (8, .b true), (9, .own (nid + 1) 1 0 t.length), (13, .i i), (14, .i x)],
        [(nid, ⟨26, 2, [[.d (.imm (vecs t)), .d (.imm (uses us))]]⟩), (nid + 1, ⟨4, 1, upm boolD bs⟩)]))
        (fun x => x ≤ i) (fun x => i - x) ⟨0, [nid, nid + 1], by omega, ⟨rfl, ?_, ?_, ?_, ?_⟩⟩ ?_)) <;> clear hK K
      · simp
      · simp
      · simp
      · simp
      intro k hk2
      refine Tr.seq (Tr.seq (Tr.regionK fun K hK => ?_))
      simp [Try.f4]
      refine hK _ (Tr.cond rfl rfl ?_ ?_) <;> clear hK K <;> intro hq2 <;> simp at hq2
      · have hkt : k < t.length := by omega
        obtain ⟨u, hu, huu⟩ : ∃ u, t[k]? = some u ∧ t[k] = u := ⟨t[k], List.getElem?_eq_getElem hkt, rfl⟩
        have hne : v ≠ u := by
          intro e
          subst e
          have := (List.getElem?_inj hkt hk.nodup).1 (by rw [hu, hv] : t[k]? = t[i]?)
          omega
        have hne' : ¬ (v.a = u.a ∧ v.b = u.b ∧ v.c = u.c) := fun h => hne (by cases v; cases u; simp_all)
        refine Tr.skip (Tr.seq (Tr.block (Tr.seq (Tr.regionE mixed (by kernel_rfl) fun K1 hK1 => ?_))))
        simp [Try.f4, hv, hvv, hu, huu, hq, hkt, Region.binds]
        refine hK1 _ (Tr.cond rfl rfl ?_ ?_) <;> clear hK1 K1 <;> intro hq3
        · exfalso
          simp at hq3
          exact hne' hq3
        refine Tr.skip (Tr.regionK fun K1 hK1 => ?_)
        have w : IntKind.i64.wrap ((k : Int) + 1) = (k : Int) + 1 := wrapIn (by omega) (by omega)
        simp [Try.f4, w]
        refine hK1 _ ⟨k + 1, [nid, nid + 1], ⟨hq2, by show _ < _; omega⟩, ⟨rfl, ?_, ?_, ?_, ?_⟩⟩ <;> clear hK1 K1
        · simp
        · simp
        · simp
        · simp
      · refine Tr.exit (exit_s (exit_s (exit_b ?_)))
        refine Tr.seq (Tr.regionK fun K hK => ?_)
        have hg := bool_get bs i true hbi
        have hib : i < bs.length := by omega
        obtain ⟨hg1, hg2⟩ := List.getElem?_eq_some_iff.1 hg
        simp [Try.f4, hg, hg2, hbl, hq]
        refine hK _ (Tr.cond rfl rfl ?_ ?_) <;> clear hK K <;> intro hq3 <;> simp at hq3
        refine Tr.skip (Tr.regionK fun K1 hK1 => ?_)
        have w : IntKind.i64.wrap ((i : Int) + 1) = (i : Int) + 1 := wrapIn (by omega) (by omega)
        simp [Try.f4, w]
        refine hK1 _ ⟨i + 1, [nid, nid + 1], ⟨hq, by show _ < _; omega⟩, ⟨rfl, ?_, ?_, ?_, ?_⟩⟩ <;> clear hK1 K1
        · simp
        · simp
        · simp
        · simp
    · refine Tr.exit (exit_s (exit_s (exit_b ?_)))
      refine Tr.seq (Tr.regionK fun K hK => ?_)
      simp [Try.f4]
      refine .inl ⟨_, pcall_awake, rfl, ?_⟩
      simp [add_add]
      refine .inl ⟨_, hss, rfl, ?_⟩
      simp [add_add]
      refine hK _ (Tr.ret ⟨.inr rfl, ?_, ?_, ?_, ?_⟩) <;> simp [Try.f4]
end Go.Proofs.Ytfeabgjcnnabdaa
