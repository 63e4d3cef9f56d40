/- The walks through the functions of the program that pack pieces. -/
import Derived.Test.YtfeabgjcnnabdaaW1
namespace Go.Proofs.Ytfeabgjcnnabdaa
open Go.PM

structure V3 where
  a : Int
  b : Int
  c : Int
deriving DecidableEq
abbrev vecD (v : V3) : List DV := [.val (.int .i64 v.a), .val (.int .i64 v.b), .val (.int .i64 v.c)]
abbrev vecs (l : List V3) : List (List DV) := l.map vecD
structure Pc where
  d : Int
  i : Int
  ns : List V3
abbrev pieceD (p : Pc) : List DV := [.val (.int .i64 p.d), .val (.int .i64 p.i), .imm (vecs p.ns)]
abbrev pieces (l : List Pc) : List (List DV) := l.map pieceD
structure Us where
  d : Int
  i : Int
  ns : List Int
abbrev useD (u : Us) : List DV := [.val (.int .i64 u.d), .val (.int .i64 u.i), .imm (ints u.ns)]
abbrev uses (l : List Us) : List (List DV) := l.map useD
abbrev packD (t : List V3) (u : List Us) : PV := .agg [.d (.imm (vecs t)), .d (.imm (uses u))]

def pick (t : List V3) (k : Int) : Option V3 := if 0 ≤ k then t[k.toNat]? else none
def unpackU (t : List V3) (u : Us) : Option Pc := (u.ns.mapM (pick t)).map fun ns => ⟨u.d, u.i, ns⟩
def unpack (t : List V3) (us : List Us) : Option (List Pc) := us.mapM (unpackU t)
def unpackR (t : List V3) (us : List Us) : PV := match unpack t us with
  | some l => .tup [.d (.imm (pieces l)), .b true]
  | none => .tup [.d (.imm []), .b false]

theorem pc_snoc (l : List Pc) (d i : Int) (ns : List V3) : upm pieceD l ++ [[.i d, .i i, .d (.imm (vecs ns))]] = upm pieceD (l ++ [⟨d, i, ns⟩]) := by simp [upm]
theorem vec_snoc (l : List V3) (a b c : Int) : upm vecD l ++ [[.i a, .i b, .i c]] = upm vecD (l ++ [⟨a, b, c⟩]) := by simp [upm]

theorem pcall_from (l : List Int) : HCall Try.prog 13 [.d (.imm (ints l))] [] [] (fun n => .ptr n 0 0) [] [srcRow l 0] := by
  refine walkN Try.func13 (by kernel_rfl) rfl 6 rfl (Nat.le_of_ble_eq_true rfl) fun nid _ => ?_
  refine Tr.seq (Tr.regionK fun K hK => ?_)
  simp [Try.f13]
  refine hK _ (Tr.seq (Tr.regionK fun K1 hK1 => ?_)); clear hK K
  simp [Try.f13]
  refine hK1 _ (Tr.renum [nid + 12] [(2, .ptr nid 0 0)] [(nid, srcRow l 0)] ⟨rfl, ?_, ?_, ?_, ?_⟩ (Tr.ret ⟨.inr rfl, [nid], ?_, ?_, ?_, ?_, ?_, ?_, ?_⟩)) <;> simp [Try.f13, renK, add_add]
  intro j k hj
  match j, hj with
  | 0, hj =>
    simp at hj
    subst hj
    simp
  | j + 1, hj => simp at hj

theorem pcall_unpack (t : List V3) (us : List Us) (ht : t.length ≤ 1048576) (hu : us.length ≤ 1048576) (hn : ∀ u ∈ us, u.ns.length ≤ 1048576 ∧ ∀ x ∈ u.ns, -9223372036854775808 ≤ x ∧ x ≤ 9223372036854775807) :
    PCall Try.prog 11 [packD t us] (unpackR t us) := by
  refine walk Try.func11 (by kernel_rfl) rfl 55 rfl (Nat.le_of_ble_eq_true rfl) fun nid _ => ?_
  refine Tr.seq (Tr.regionK fun K hK => ?_)
  simp [Try.f11]
  refine hK _ (Tr.seq (Tr.regionK fun K1 hK1 => ?_)); clear hK K
  simp [Try.f11]
  refine hK1 _ (Tr.seq (Tr.seq (Tr.regionK fun K hK => ?_))); clear hK1 K1
  simp [Try.f11]
  refine hK _ (Tr.bump fun m hm => Tr.toSt1 45 3 [(1, .ptr nid 0 0), (4, .own m 3 0 0), (11, .d (.imm (uses us))), (12, .i us.length), (13, .i 0)] [(nid, ⟨26, 2, [[.d (.imm (vecs t)), .d (.imm (uses us))]]⟩), (m, ⟨45, 3, upm pieceD []⟩)] ?_ ?_ ?_) <;> clear hK K <;> simp at hm
  · simp
  · have : nid ≠ m := by omega
    simp [this]
  refine Tr.block (Tr.loopK 2 (fun x : Nat × List Pc => ([(1, .ptr nid 0 0), (4, .own (nid + 1) 3 0 x.2.length), (11, .d (.imm (uses us))), (12, .i us.length), (13, .i x.1)], [(nid, ⟨26, 2, [[.d (.imm (vecs t)), .d (.imm (uses us))]]⟩), (nid + 1, ⟨45, 3, upm pieceD x.2⟩)]))
    (fun x => x.1 ≤ us.length ∧ unpack t (us.take x.1) = some x.2) (fun x => us.length - x.1) ⟨(0, []), [nid, m], ⟨by omega, rfl⟩, ?_⟩ ?_)
  · have : nid ≠ m := by omega
    refine ⟨rfl, ?_, ?_, ?_, ?_⟩
    · simp [this]
    · simp; omega
    · simp
    · simp [this]
  rintro ⟨j, done⟩ ⟨hj, hdone⟩
  simp at hj hdone
  have hdl : done.length = j := by have := mapM_len hdone; rw [List.length_take] at this; omega
  refine Tr.seq (Tr.regionK fun K hK => ?_)
  simp [Try.f11]
  refine hK _ (Tr.seq (Tr.cond rfl rfl ?_ ?_)) <;> clear hK K <;> intro hq <;> simp at hq
  · obtain ⟨u, hget, hgu⟩ : ∃ u, us[j]? = some u ∧ us[j] = u := ⟨us[j], List.getElem?_eq_getElem hq, rfl⟩
    have hu' := hn u (List.mem_of_getElem? hget)
    refine Tr.skip (Tr.seq (Tr.block (Tr.seq (Tr.regionK fun K hK => ?_))))
    simp [Try.f11, hget, hgu, hq, add_add]
    refine hK _ (Tr.seq (Tr.regionK fun K1 hK1 => ?_)); clear hK K
    simp [Try.f11, add_add]
    refine hK1 _ (Tr.seq (Tr.seq (Tr.regionK fun K hK => ?_))); clear hK1 K1
    simp [Try.f11, add_add]
    refine hK _ (Tr.bump fun m hm => Tr.toSt1 39 3 [(1, .ptr nid 0 0), (4, .own (nid + 1) 3 0 done.length), (6, .ptr (nid + 14) 0 0), (7, .ptr (nid + 42) 0 0), (11, .d (.imm (uses us))), (12, .i us.length), (13, .i j), (23, .d (.imm (ints u.ns))), (24, .i u.ns.length), (25, .i 0)]
      [(nid, ⟨26, 2, [[.d (.imm (vecs t)), .d (.imm (uses us))]]⟩), (nid + 1, ⟨45, 3, upm pieceD done⟩), (nid + 14, ⟨37, 3, [[.i u.d, .i u.i, .d (.imm (ints u.ns))]]⟩), (nid + 42, ⟨45, 3, [[.i u.d, .i u.i, .own m 3 0 0]]⟩), (m, ⟨39, 3, upm vecD []⟩)] ?_ ?_ ?_) <;> clear hK K <;> simp [add_add] at hm
    · simp
    · have e1 : nid ≠ m := by omega
      have e2 : nid + 1 ≠ m := by omega
      have e3 : nid + 14 ≠ m := by omega
      have e4 : nid + 42 ≠ m := by omega
      simp [e1, e2, e3, e4]
      exact ⟨rfl, rfl, by simp [elsLe, cellsLe]⟩
    refine Tr.block (Tr.loopK 5 (fun x : Nat × List V3 => ([(1, .ptr nid 0 0), (4, .own (nid + 1) 3 0 done.length), (6, .ptr (nid + 2) 0 0), (7, .ptr (nid + 3) 0 0), (11, .d (.imm (uses us))), (12, .i us.length), (13, .i j), (23, .d (.imm (ints u.ns))), (24, .i u.ns.length), (25, .i x.1)],
      [(nid, ⟨26, 2, [[.d (.imm (vecs t)), .d (.imm (uses us))]]⟩), (nid + 1, ⟨45, 3, upm pieceD done⟩), (nid + 2, ⟨37, 3, [[.i u.d, .i u.i, .d (.imm (ints u.ns))]]⟩), (nid + 3, ⟨45, 3, [[.i u.d, .i u.i, .own (nid + 4) 3 0 x.2.length]]⟩), (nid + 4, ⟨39, 3, upm vecD x.2⟩)]))
      (fun x => x.1 ≤ u.ns.length ∧ (u.ns.take x.1).mapM (pick t) = some x.2) (fun x => u.ns.length - x.1) ⟨(0, []), [nid, nid + 1, nid + 14, nid + 42, m], ⟨by omega, rfl⟩, ?_⟩ ?_)
    · have e1 : nid ≠ m := by omega
      have e2 : nid + 1 ≠ m := by omega
      have e3 : nid + 14 ≠ m := by omega
      have e4 : nid + 42 ≠ m := by omega
      refine ⟨rfl, ?_, ?_, ?_, ?_⟩ <;> simp [e1, e2, e3, e4]
      omega
    rintro ⟨k, acc⟩ ⟨hk, hacc⟩
    simp at hk hacc
    have hal : acc.length = k := by have := mapM_len hacc; rw [List.length_take] at this; omega
    refine Tr.seq (Tr.regionK fun K hK => ?_)
    simp [Try.f11]
    refine hK _ (Tr.seq (Tr.cond rfl rfl ?_ ?_)) <;> clear hK K <;> intro hq2 <;> simp at hq2
    · obtain ⟨x, hxg, hxu⟩ : ∃ x, u.ns[k]? = some x ∧ u.ns[k] = x := ⟨u.ns[k], List.getElem?_eq_getElem hq2, rfl⟩
      have hxr := hu'.2 x (List.mem_of_getElem? hxg)
      refine Tr.skip (Tr.seq (Tr.block (Tr.seq (Tr.regionK fun K hK => ?_))))
      simp [Try.f11, hxg, hxu, hq2, add_add]
      refine hK _ (Tr.seq (Tr.seq (Tr.regionK fun K1 hK1 => ?_))); clear hK K
      by_cases hneg : x < 0
      · have hp : pick t x = none := by unfold pick; rw [if_neg (by omega)]
        have hf : unpack t us = none := mapM_none (by unfold unpackU; rw [mapM_none hp hxg]; rfl) hget
        simp [Try.f11, hneg, add_add]
        refine hK1 _ (Tr.cond rfl rfl ?_ ?_) <;> clear hK1 K1 <;> intro hq3 <;> simp at hq3
        refine Tr.seq (Tr.regionK fun K hK => ?_)
        simp [Try.f11]
        refine hK _ (Tr.toSt [(2, .d (.imm [])), (3, .b false)] [] ?_ ?_ (Tr.ret ⟨.inr rfl, ?_, ?_, ?_, ?_⟩)) <;> simp [Try.f11, unpackR, hf]
      · simp [Try.f11, hneg, add_add]
        refine hK1 _ (Tr.cond rfl rfl ?_ ?_) <;> clear hK1 K1 <;> intro hq3 <;> simp at hq3
        · have hp : pick t x = none := by unfold pick; rw [if_pos (by omega), List.getElem?_eq_none (by omega)]
          have hf : unpack t us = none := mapM_none (by unfold unpackU; rw [mapM_none hp hxg]; rfl) hget
          refine Tr.seq (Tr.regionK fun K hK => ?_)
          simp [Try.f11]
          refine hK _ (Tr.toSt [(2, .d (.imm [])), (3, .b false)] [] ?_ ?_ (Tr.ret ⟨.inr rfl, ?_, ?_, ?_, ?_⟩)) <;> simp [Try.f11, unpackR, hf]
        · have hx0 : 0 ≤ x := by omega
          have hxt : x.toNat < t.length := by omega
          obtain ⟨v, hv, hvv⟩ : ∃ v, t[x.toNat]? = some v ∧ t[x.toNat] = v := ⟨t[x.toNat], List.getElem?_eq_getElem hxt, rfl⟩
          have hp : pick t x = some v := by unfold pick; rw [if_pos hx0, hv]
          refine Tr.skip (Tr.regionE mixed (by kernel_rfl) fun K hK => ?_)
          simp [Try.f11, hv, hvv, hx0, hxt, add_add, Region.binds]
          refine ⟨by omega, ⟨by omega, by omega⟩, hK _ (Tr.regionK fun K1 hK1 => ?_)⟩; clear hK K
          simp [Try.f11, add_add]
          refine hK1 _ ⟨(k + 1, acc ++ [v]), [nid, nid + 1, nid + 2, nid + 3, nid + 89], ⟨⟨hq2, mapM_take hacc hxg hp⟩, by show _ < _; simp; omega⟩, ⟨rfl, ?_, ?_, ?_, ?_⟩⟩ <;> clear hK1 K1
          · simp
          · simp
          · have w : IntKind.i64.wrap ((k : Int) + 1) = (k : Int) + 1 := wrapIn (by omega) (by omega)
            simp [add_add, w]
          · simp [add_add]
            exact .inl (vec_snoc acc v.a v.b v.c)
    · have hka : k = u.ns.length := by omega
      subst hka
      rw [List.take_length] at hacc
      have hpu : unpackU t u = some ⟨u.d, u.i, acc⟩ := by unfold unpackU; rw [hacc]; rfl
      refine Tr.exit (exit_s (exit_s (exit_b ?_)))
      refine Tr.freezeM (nid + 4) vecD acc [(1, .ptr nid 0 0), (4, .own (nid + 1) 3 0 done.length), (7, .ptr (nid + 3) 0 0), (11, .d (.imm (uses us))), (12, .i us.length), (13, .i j)]
        [(nid, ⟨26, 2, [[.d (.imm (vecs t)), .d (.imm (uses us))]]⟩), (nid + 1, ⟨45, 3, upm pieceD done⟩), (nid + 3, ⟨45, 3, [[.i u.d, .i u.i, .d (.imm (vecs acc))]]⟩)] (ty := 39) (sz := 3) ?_ ?_ ?_ ?_ ?_
      · simp
      · simp
      · simp
      · simp
      refine Tr.regionK fun K hK => ?_
      simp [Try.f11, add_add]
      refine ⟨⟨by omega, by omega⟩, hK _ (Tr.regionK fun K1 hK1 => ?_)⟩; clear hK K
      have w : IntKind.i64.wrap ((j : Int) + 1) = (j : Int) + 1 := wrapIn (by omega) (by omega)
      simp [Try.f11, add_add, w]
      refine hK1 _ ⟨(j + 1, done ++ [⟨u.d, u.i, acc⟩]), [nid, nid + 21], ⟨⟨hq, mapM_take hdone hget hpu⟩, by show _ < _; simp; omega⟩, ⟨rfl, ?_, ?_, ?_, ?_⟩⟩ <;> clear hK1 K1
      · simp
      · simp
      · simp [add_add]
      · simp [add_add]
        exact .inl (pc_snoc done u.d u.i acc)
  · have hja : j = us.length := by omega
    subst hja
    rw [List.take_length] at hdone
    refine Tr.exit (exit_s (exit_s (exit_b ?_)))
    refine Tr.freezeM (nid + 1) pieceD done [(4, .d (.imm (pieces done)))] [] (ty := 45) (sz := 3) ?_ ?_ ?_ ?_ ?_
    · simp
    · simp
    · simp
    · simp
    refine Tr.seq (Tr.regionK fun K hK => ?_)
    simp [Try.f11]
    refine hK _ (Tr.ret ⟨.inr rfl, ?_, ?_, ?_, ?_⟩) <;> simp [Try.f11, unpackR, hdone]
end Go.Proofs.Ytfeabgjcnnabdaa
