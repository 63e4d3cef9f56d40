/- What packing computes, in plain terms; the walk through the law CompactPacks. -/
import Derived.Test.YtfeabgjcnnabdaaW11
namespace Go.Proofs.Ytfeabgjcnnabdaa
open Go.PM

theorem nrm_len (l : List Int) : ∀ (c j : Nat), (nrm l c j).1.length = c
  | 0, _ => rfl
  | c + 1, j => by simp [nrm, nrm_len l c]
theorem pcs_len (l : List Int) : ∀ (c j : Nat), (pcs l c j).length = c
  | 0, _ => rfl
  | c + 1, j => by simp [pcs, pcs_len l c]
theorem pcs_tot (l : List Int) : ∀ (c j : Nat), tot (pcs l c j) ≤ 3 * c
  | 0, _ => by simp [pcs, tot]
  | c + 1, j => by
    have h1 := pcs_tot l c (onePc l j).2
    have h2 := nextV_rng l (nextN l (nextN l j)) (k := 4) (by omega)
    have h3 : (onePc l j).1.ns.length ≤ 3 := by
      unfold onePc
      simp only [nrm_len]
      omega
    simp only [pcs, tot]
    omega
theorem some_len (l : List Int) : (someL l).length ≤ 6 ∧ tot (someL l) ≤ 18 := by
  have h := nextV_rng l 0 (k := 7) (by omega)
  have h2 := pcs_tot l (nextV l 0 7).toNat (nextN l 0)
  unfold someL
  rw [pcs_len]
  omega

/-! ### The table and the numbers -/
theorem place_none {x : V3} : ∀ {t : List V3}, place x t = none → x ∉ t
  | [], _ => by simp
  | y :: t, h => by
    unfold place at h
    split at h
    · cases h
    · rename_i hne
      have := place_none (by simpa using h : place x t = none)
      simp only [List.mem_cons, not_or]
      exact ⟨fun e => hne e.symm, this⟩
theorem pick_append {t e : List V3} {k : Int} {v : V3} (h : pick t k = some v) : pick (t ++ e) k = some v := by
  unfold pick at *
  split at h
  · rename_i h0
    rw [if_pos h0, List.getElem?_append, if_pos (List.getElem?_eq_some_iff.1 h).1, h]
  · cases h
theorem mapM_mono {α β : Type} {f g : α → Option β} (h : ∀ x y, f x = some y → g x = some y) : ∀ {l : List α} {r : List β}, l.mapM f = some r → l.mapM g = some r
  | [], r, hr => by simpa using hr
  | x :: l, r, hr => by
    rw [List.mapM_cons] at hr ⊢
    simp only [bind, Option.bind_eq_some_iff, pure, Option.some.injEq] at hr ⊢
    obtain ⟨a, h1, b, h2, rfl⟩ := hr
    exact ⟨a, h x a h1, b, mapM_mono h h2, rfl⟩
theorem mapM_snoc {α β : Type} {f : α → Option β} {l : List α} {r : List β} {x : α} {y : β} (h : l.mapM f = some r) (hx : f x = some y) : (l ++ [x]).mapM f = some (r ++ [y]) := by
  have h1 : ((l ++ [x]).take l.length).mapM f = some r := by simpa using h
  have := mapM_take (l := l ++ [x]) (j := l.length) (x := x) h1 (by simp) hx
  rw [List.take_of_length_le (by simp)] at this
  exact this

/-- What numbering keeps. -/
structure Num (t t' : List V3) (ks : List Int) (ns : List V3) : Prop where
  grow : ∃ e, t' = t ++ e
  reads : ks.mapM (pick t') = some ns
  rng : ∀ k ∈ ks, 0 ≤ k ∧ k < (t'.length : Int)
  nodup : t.Nodup → t'.Nodup
  used : ∀ j : Nat, t.length ≤ j → j < t'.length → (j : Int) ∈ ks
  mem : ∀ v ∈ t', v ∈ t ∨ v ∈ ns

theorem num_step {t t' : List V3} {ks : List Int} {ns : List V3} (h : Num t t' ks ns) (x : V3) : Num t (stepN (t', ks) x).1 (stepN (t', ks) x).2 (ns ++ [x]) := by
  unfold stepN
  simp only
  cases hp : place x t' with
  | some j =>
    have hx := place_lt hp
    have hj := (List.getElem?_eq_some_iff.1 hx).1
    refine ⟨h.grow, mapM_snoc h.reads (by unfold pick; rw [if_pos (by omega)]; simpa using hx), fun k hk => ?_, h.nodup, fun j h1 h2 => List.mem_append_left _ (h.used j h1 h2), fun v hv => ?_⟩
    · rcases List.mem_append.1 hk with hk | hk
      · exact h.rng k hk
      · simp at hk; subst hk; show 0 ≤ (j : Int) ∧ (j : Int) < (t'.length : Int); omega
    · rcases h.mem v hv with h | h
      · exact .inl h
      · exact .inr (by simp [h])
  | none =>
    have hx := place_none hp
    obtain ⟨e, he⟩ := h.grow
    refine ⟨⟨e ++ [x], by rw [he]; simp⟩, mapM_snoc (mapM_mono (fun k v hk => pick_append hk) h.reads) (by unfold pick; rw [if_pos (by omega)]; simp), fun k hk => ?_, fun hn => ?_, fun j h1 h2 => ?_, fun v hv => ?_⟩
    · simp only [List.length_append, List.length_cons, List.length_nil]
      rcases List.mem_append.1 hk with hk | hk
      · have := h.rng k hk; omega
      · simp at hk; subst hk; omega
    · have := h.nodup hn
      rw [List.nodup_append]
      exact ⟨this, by simp, fun a ha b hb => by simp at hb; subst hb; exact fun e => hx (e ▸ ha)⟩
    · simp only [List.length_append, List.length_cons, List.length_nil] at h2
      rcases Nat.lt_or_ge j t'.length with h3 | h3
      · simp [h.used j h1 h3]
      · have : j = t'.length := by omega
        simp [this]
    · rcases List.mem_append.1 hv with hv | hv
      · rcases h.mem v hv with h | h
        · exact .inl h
        · exact .inr (by simp [h])
      · simp at hv; subst hv; simp

theorem num_run (t : List V3) : ∀ (ns done : List V3) (s : List V3 × List Int), Num t s.1 s.2 done → Num t (ns.foldl stepN s).1 (ns.foldl stepN s).2 (done ++ ns)
  | [], done, s, h => by simpa using h
  | x :: ns, done, s, h => by
    have := num_run t ns (done ++ [x]) (stepN s x) (num_step h x)
    simpa using this
theorem num_runN (t ns : List V3) : Num t (runN t ns).1 (runN t ns).2 ns := by
  have := num_run t ns [] (t, []) ⟨⟨[], by simp⟩, by simp, by simp, fun h => h, fun j h1 h2 => by simp at h2; omega, fun v hv => .inl hv⟩
  simpa [runN] using this

/-- All normals. -/
def nals : List Pc → List V3
  | [] => []
  | p :: r => p.ns ++ nals r
theorem nals_append (a b : List Pc) : nals (a ++ b) = nals a ++ nals b := by
  induction a with
  | nil => rfl
  | cons p a ih => simp [nals, ih]

/-- What packing keeps. -/
structure Packs (t : List V3) (us : List Us) (l : List Pc) : Prop where
  reads : unpack t us = some l
  rng : ∀ u ∈ us, ∀ k ∈ u.ns, 0 ≤ k ∧ k < (t.length : Int)
  nodup : t.Nodup
  used : ∀ j : Nat, j < t.length → ∃ u ∈ us, (j : Int) ∈ u.ns
  mem : ∀ v ∈ t, v ∈ nals l
  cnt : count us = tot l

theorem packs_step {t : List V3} {us : List Us} {l : List Pc} (h : Packs t us l) (p : Pc) : Packs (stepP (t, us) p).1 (stepP (t, us) p).2 (l ++ [p]) := by
  have hn := num_runN t p.ns
  unfold stepP
  simp only
  obtain ⟨e, he⟩ := hn.grow
  refine ⟨mapM_snoc (mapM_mono (fun u q hq => ?_) h.reads) (by unfold unpackU; rw [hn.reads]; rfl), fun u hu k hk => ?_, hn.nodup h.nodup, fun j hj => ?_, fun v hv => ?_, ?_⟩
  · unfold unpackU at hq ⊢
    simp only [Option.map_eq_some_iff] at hq ⊢
    obtain ⟨ns, h1, h2⟩ := hq
    refine ⟨ns, mapM_mono (fun k v hk => ?_) h1, h2⟩
    rw [he]; exact pick_append hk
  · rcases List.mem_append.1 hu with hu | hu
    · have := h.rng u hu k hk
      rw [he, List.length_append]
      omega
    · simp at hu; subst hu; exact hn.rng k hk
  · rcases Nat.lt_or_ge j t.length with h1 | h1
    · obtain ⟨u, hu, h2⟩ := h.used j h1
      exact ⟨u, by simp [hu], h2⟩
    · exact ⟨⟨p.d, p.i, (runN t p.ns).2⟩, by simp, hn.used j h1 hj⟩
  · rw [nals_append]
    rcases hn.mem v hv with h1 | h1
    · simp [h.mem v h1]
    · simp [nals, h1]
  · rw [count_append, h.cnt, tot_append]
    simp [count, tot, runN_ns]
theorem packs_run : ∀ (l done : List Pc) (s : List V3 × List Us), Packs s.1 s.2 done → Packs (l.foldl stepP s).1 (l.foldl stepP s).2 (done ++ l)
  | [], done, s, h => by simpa using h
  | x :: l, done, s, h => by
    have := packs_run l (done ++ [x]) (stepP s x) (packs_step h x)
    simpa using this
theorem packs_pack (l : List Pc) : Packs (pack l).1 (pack l).2 l := by
  have := packs_run l [] ([], []) ⟨by simp [unpack], by simp, by simp, by simp, by simp, by simp [count, tot]⟩
  simpa [pack] using this

theorem pack_fitsP {l : List Pc} (hl : l.length ≤ 1048576) (ht : tot l ≤ 1048576) : FitsP (pack l).1 (pack l).2 := by
  have h := packs_pack l
  have h1 := pack_len l
  refine ⟨by omega, by omega, fun u hu => ⟨pack_ns (B := 1048576) (fun p hp => Nat.le_trans (tot_mem hp) ht) u hu, fun x hx => ?_⟩, by rw [h.cnt]; omega⟩
  have := h.rng u hu x hx
  omega

theorem pcall_law3 (l : List Pc) (t : List V3) (us : List Us) (li : List Int) (hl : l.length ≤ 1048576) (ht : tot l ≤ 1048576) (hf : FitsP t us) (hli : ∀ x ∈ li, -9223372036854775808 ≤ x ∧ x ≤ 9223372036854775807) (hlen : li.length ≤ 1048576) :
    PCall Try.prog 3 [.d (.imm (pieces l)), packD t us, .d (.imm (ints li))] (.b true) := by
  have h1 := some_len li
  have hs := pcall_some li hli hlen
  have hp := pcall_packs l t us hl ht hf
  have hr := pcall_refPack (someL li) (by omega) (by omega)
  have hp2 := pcall_packs (someL li) (pack (someL li)).1 (pack (someL li)).2 (by omega) (by omega) (pack_fitsP (by omega) (by omega))
  refine walk Try.func3 (by kernel_rfl) rfl 22 rfl (Nat.le_of_ble_eq_true rfl) fun nid _ => ?_
  refine Tr.seq (Tr.regionK fun K hK => ?_)
  simp [Try.f3]
  refine hK _ (Tr.seq (Tr.regionK fun K1 hK1 => ?_)); clear hK K
  simp [Try.f3]
  refine .inl ⟨_, hs, ?_⟩
  simp
  refine hK1 _ (Tr.seq (Tr.regionK fun K hK => ?_)); clear hK1 K1
  simp [Try.f3, add_add]
  refine .inl ⟨_, pcall_awake, ?_⟩
  simp
  refine .inl ⟨_, hp, ?_⟩
  simp
  refine .inl ⟨_, hr, ?_⟩
  simp
  refine .inl ⟨_, hp2, ?_⟩
  simp
  refine hK _ (Tr.ret ⟨.inr rfl, ?_, ?_, ?_, ?_⟩) <;> simp [Try.f3]
end Go.Proofs.Ytfeabgjcnnabdaa
