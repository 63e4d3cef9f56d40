/- The walks through packs and awake. -/
import Derived.Test.YtfeabgjcnnabdaaW7
import Derived.Test.YtfeabgjcnnabdaaW8
import Derived.Test.YtfeabgjcnnabdaaW9
import Derived.Test.YtfeabgjcnnabdaaW10
namespace Go.Proofs.Ytfeabgjcnnabdaa
open Go.PM

theorem runN_ns (t ns : List V3) : (runN t ns).2.length = ns.length := (runN_len t ns).2
theorem foldP_ns (B : Nat) : ∀ (l : List Pc) (s : List V3 × List Us), (∀ p ∈ l, p.ns.length ≤ B) → (∀ u ∈ s.2, u.ns.length ≤ B) → ∀ u ∈ (l.foldl stepP s).2, u.ns.length ≤ B
  | [], s, _, h => h
  | p :: l, s, h1, h2 => foldP_ns B l (stepP s p) (fun q hq => h1 q (by simp [hq])) (fun u hu => by
      unfold stepP at hu
      simp only [List.mem_append, List.mem_singleton] at hu
      rcases hu with hu | rfl
      · exact h2 u hu
      · show (runN s.1 p.ns).2.length ≤ B
        rw [runN_ns]; exact h1 p (by simp))
theorem pack_ns {l : List Pc} {B : Nat} (h : ∀ p ∈ l, p.ns.length ≤ B) : ∀ u ∈ (pack l).2, u.ns.length ≤ B := foldP_ns B l _ h (by simp)
theorem tot_mem : ∀ {l : List Pc} {p : Pc}, p ∈ l → p.ns.length ≤ tot l
  | q :: l, p, h => by
    rcases List.mem_cons.1 h with rfl | h
    · simp [tot]
    · have := tot_mem h
      simp [tot]; omega

/-- What fits into a packed list. -/
structure FitsP (t : List V3) (us : List Us) : Prop where
  ht : t.length ≤ 1048576
  hu : us.length ≤ 1048576
  ns : ∀ u ∈ us, u.ns.length ≤ 1048576 ∧ ∀ x ∈ u.ns, -9223372036854775808 ≤ x ∧ x ≤ 9223372036854775807
  hc : count us ≤ 1073741824

theorem unpackU_len {t : List V3} {u : Us} {p : Pc} (h : unpackU t u = some p) : p.ns.length = u.ns.length := by
  unfold unpackU at h
  simp only [Option.map_eq_some_iff] at h
  obtain ⟨ns, h1, rfl⟩ := h
  exact mapM_len h1
theorem mapM_mem {α β : Type} {f : α → Option β} : ∀ {l : List α} {r : List β}, l.mapM f = some r → ∀ y ∈ r, ∃ x ∈ l, f x = some y
  | [], r, h, y, hy => by simp at h; subst h; cases hy
  | x :: l, r, h, y, hy => by
    rw [List.mapM_cons] at h
    simp only [bind, Option.bind_eq_some_iff, pure, Option.some.injEq] at h
    obtain ⟨a, h1, b, h2, rfl⟩ := h
    rcases List.mem_cons.1 hy with rfl | hy
    · exact ⟨x, by simp, h1⟩
    · obtain ⟨z, hz, h3⟩ := mapM_mem h2 y hy
      exact ⟨z, by simp [hz], h3⟩
theorem unpack_fits {t : List V3} {us : List Us} {l : List Pc} (hf : FitsP t us) (h : unpack t us = some l) : fits l := by
  refine ⟨?_, fun p hp => ?_⟩
  · rw [mapM_len h]; exact hf.hu
  · obtain ⟨u, hu, h1⟩ := mapM_mem h p hp
    rw [unpackU_len h1]
    exact (hf.ns u hu).1

theorem pcall_packs (l : List Pc) (t : List V3) (us : List Us) (hl : l.length ≤ 1048576) (ht : tot l ≤ 1048576) (hf : FitsP t us) : PCall Try.prog 8 [.d (.imm (pieces l)), packD t us] (.b true) := by
  have hp := pcall_pack l (by omega) (by omega)
  have hr := pcall_refPack l (by omega) (by omega)
  have hpl := pack_len l
  have hns : ∀ u ∈ (pack l).2, u.ns.length ≤ 1048576 := pack_ns fun p hp => Nat.le_trans (tot_mem hp) ht
  have hsp := pcall_samePacked (pack l).1 (pack l).1 (pack l).2 (pack l).2 (by omega) (by omega) ⟨by omega, hns⟩ ⟨by omega, hns⟩
  simp only [and_self, decide_true] at hsp
  have hu := pcall_unpack t us hf.ht hf.hu hf.ns
  have hv := pcall_refUnpack t us hf.ht hf.hu hf.ns
  have hs := pcall_size t us hf.ht hf.hu (by have := hf.hc; omega)
  have hs2 := pcall_refSize t us hf.ht hf.hu (by have := hf.hc; omega)
  have key : ∃ (x : List Pc) (b : Bool), unpackR t us = .tup [.d (.imm (pieces x)), .b b] ∧ fits x := by
    unfold unpackR
    cases h : unpack t us with
    | none => exact ⟨[], false, rfl, by simp [fits]⟩
    | some x => exact ⟨x, true, rfl, unpack_fits hf h⟩
  obtain ⟨x, b, hx, hfx⟩ := key
  rw [hx] at hu hv
  have hss := pcall_samePieces x x hfx hfx
  simp only [decide_true] at hss
  refine walk Try.func8 (by kernel_rfl) rfl 41 rfl (Nat.le_of_ble_eq_true rfl) fun nid _ => ?_
  refine Tr.seq (Tr.regionK fun K hK => ?_)
  simp [Try.f8]
  refine hK _ (Tr.seq (Tr.regionK fun K1 hK1 => ?_)); clear hK K
  simp [Try.f8]
  refine .inl ⟨_, hu, ?_⟩
  simp [add_add, Region.binds]
  refine hK1 _ (Tr.seq (Tr.regionK fun K hK => ?_)); clear hK1 K1
  simp [Try.f8, add_add]
  refine .inl ⟨_, hv, ?_⟩
  simp [add_add, Region.binds]
  refine hK _ (Tr.seq (Tr.regionE mixed (by kernel_rfl) fun K1 hK1 => ?_)); clear hK K
  simp [Try.f8, add_add, Region.binds]
  refine .inl ⟨_, hp, ?_⟩
  simp [add_add, Region.binds]
  refine .inl ⟨_, hr, ?_⟩
  simp [add_add, Region.binds]
  refine .inl ⟨_, hsp, ?_⟩
  simp [add_add, Region.binds]
  refine .inl ⟨_, hss, ?_⟩
  simp [add_add, Region.binds]
  refine .inl ⟨_, hs, ?_⟩
  simp [add_add, Region.binds]
  refine .inl ⟨_, hs2, ?_⟩
  simp [add_add, Region.binds]
  refine hK1 _ (Tr.ret ⟨.inr rfl, ?_, ?_, ?_, ?_⟩) <;> simp [Try.f8]

def sample : List Pc := [⟨1, 0, [⟨7, 0, 0⟩]⟩, ⟨1, 1, [⟨7, 0, 0⟩]⟩]
theorem sample_pack : pack sample = ([⟨7, 0, 0⟩], [⟨1, 0, [0]⟩, ⟨1, 1, [0]⟩]) := by decide
theorem sample_unpack : unpackR [⟨7, 0, 0⟩] [⟨1, 0, [0]⟩, ⟨1, 1, [0]⟩] = .tup [.d (.imm (pieces sample)), .b true] := by
  have : unpack [⟨7, 0, 0⟩] [⟨1, 0, [0]⟩, ⟨1, 1, [0]⟩] = some sample := by rfl
  unfold unpackR; rw [this]
theorem pcall_awake : PCall Try.prog 7 [] (.b true) := by
  have hp := pcall_pack sample (by decide) (by decide)
  rw [sample_pack] at hp
  have hu := pcall_unpack [⟨7, 0, 0⟩] [⟨1, 0, [0]⟩, ⟨1, 1, [0]⟩] (by decide) (by decide) (by decide)
  rw [sample_unpack] at hu
  have hss := pcall_samePieces sample sample (by simp [fits, sample]) (by simp [fits, sample])
  simp only [decide_true] at hss
  have hs := pcall_size [⟨7, 0, 0⟩] [⟨1, 0, [0]⟩, ⟨1, 1, [0]⟩] (by decide) (by decide) (by decide)
  refine walk Try.func7 (by kernel_rfl) rfl 42 rfl (Nat.le_of_ble_eq_true rfl) fun nid _ => ?_
  refine Tr.seq (Tr.regionK fun K hK => ?_)
  simp [Try.f7]
  refine hK _ (Tr.seq (Tr.regionK fun K1 hK1 => ?_)); clear hK K
  simp [Try.f7]
  refine ⟨rfl, hK1 _ ?_⟩; clear hK1 K1
  refine Tr.freezeM (nid + 8) vecD [⟨7, 0, 0⟩] [(1, .own (nid + 28) 3 0 2)] [(nid + 20, ⟨39, 3, upm vecD [⟨7, 0, 0⟩]⟩), (nid + 28, ⟨45, 3, [[.i 1, .i 0, .d (.imm (vecs [⟨7, 0, 0⟩]))], [.i 1, .i 1, .own (nid + 20) 3 0 1]]⟩)] (ty := 39) (sz := 3) ?_ ?_ ?_ ?_ ?_
  · simp [upm, add_add]
  · simp [add_add]
  · simp [add_add]
  · simp [upm, add_add]
  refine Tr.freezeM (nid + 20) vecD [⟨7, 0, 0⟩] [(1, .own (nid + 28) 3 0 2)] [(nid + 28, ⟨45, 3, upm pieceD sample⟩)] (ty := 39) (sz := 3) ?_ ?_ ?_ ?_ ?_
  · simp
  · simp
  · simp
  · simp [upm, sample]
  refine Tr.freezeM (nid + 28) pieceD sample [(1, .d (.imm (pieces sample)))] [] (ty := 45) (sz := 3) ?_ ?_ ?_ ?_ ?_
  · simp
  · simp
  · simp [sample]
  · simp
  refine Tr.seq (Tr.regionK fun K hK => ?_)
  simp [Try.f7, add_add]
  refine .inl ⟨_, hp, ?_⟩
  simp [add_add, Region.binds]
  refine hK _ (Tr.seq (Tr.regionK fun K1 hK1 => ?_)); clear hK K
  simp [Try.f7, add_add]
  refine .inl ⟨_, hu, ?_⟩
  simp [add_add, Region.binds]
  refine hK1 _ (Tr.seq (Tr.regionK fun K hK => ?_)); clear hK1 K1
  simp [Try.f7, add_add]
  refine .inl ⟨_, hss, ?_⟩
  simp [add_add, Region.binds]
  refine .inl ⟨_, hs, ?_⟩
  simp [sizeI, count]
  refine hK _ (Tr.ret ⟨.inr rfl, ?_, ?_, ?_, ?_⟩) <;> simp [Try.f7]
end Go.Proofs.Ytfeabgjcnnabdaa
