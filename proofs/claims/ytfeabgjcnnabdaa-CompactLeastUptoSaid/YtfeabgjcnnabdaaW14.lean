/- Another packed list, as CompactLeast makes it: what stays true of it; the plain law that the packed list of Pack is the least. -/
import Derived.Test.YtfeabgjcnnabdaaW12
namespace Go.Proofs.Ytfeabgjcnnabdaa
open Go.PM

theorem v3_eq {x y : V3} (h : y.a = x.a ∧ y.b = x.b ∧ y.c = x.c) : y = x := by
  cases x; cases y; simp at h; simp [h]

theorem unpack_mono {t e : List V3} {us : List Us} {l : List Pc} (h : unpack t us = some l) : unpack (t ++ e) us = some l := by
  refine mapM_mono (fun u q hq => ?_) h
  unfold unpackU at hq ⊢
  simp only [Option.map_eq_some_iff] at hq ⊢
  obtain ⟨ns, h1, h2⟩ := hq
  exact ⟨ns, mapM_mono (fun k v hk => pick_append hk) h1, h2⟩

structure KInv (X : List Pc) (i : Nat) (p : Pc) (k : Nat) (tb : List V3) (us : List Us) (ks : List Int) : Prop where
  reads : unpack tb us = some (X.take i)
  rng : ∀ u ∈ us, ∀ y ∈ u.ns, 0 ≤ y ∧ y < (tb.length : Int)
  len : tb.length ≤ tot (X.take i) + k
  kreads : ks.mapM (pick tb) = some (p.ns.take k)
  krng : ∀ y ∈ ks, 0 ≤ y ∧ y < (tb.length : Int)

structure LInv (X : List Pc) (i : Nat) (tb : List V3) (us : List Us) : Prop where
  reads : unpack tb us = some (X.take i)
  rng : ∀ u ∈ us, ∀ y ∈ u.ns, 0 ≤ y ∧ y < (tb.length : Int)
  len : tb.length ≤ tot (X.take i)

theorem LInv.k0 {X : List Pc} {i : Nat} {tb : List V3} {us : List Us} (h : LInv X i tb us) (p : Pc) : KInv X i p 0 tb us [] :=
  ⟨h.reads, h.rng, h.len, by simp, by simp⟩
theorem KInv.hit {X : List Pc} {i : Nat} {p : Pc} {k : Nat} {tb : List V3} {us : List Us} {ks : List Int} {x : V3} {j : Nat} (h : KInv X i p k tb us ks) (hx : p.ns[k]? = some x) (hj : tb[j]? = some x) : KInv X i p (k + 1) tb us (ks ++ [(j : Int)]) := by
  have hjl := (List.getElem?_eq_some_iff.1 hj).1
  refine ⟨h.reads, h.rng, by have := h.len; omega, ?_, fun y hy => ?_⟩
  · rw [List.take_add_one, hx]
    exact mapM_snoc h.kreads (by unfold pick; rw [if_pos (by omega)]; simpa using hj)
  · rcases List.mem_append.1 hy with hy | hy
    · exact h.krng y hy
    · simp at hy; subst hy; omega
theorem KInv.miss {X : List Pc} {i : Nat} {p : Pc} {k : Nat} {tb : List V3} {us : List Us} {ks : List Int} {x : V3} (h : KInv X i p k tb us ks) (hx : p.ns[k]? = some x) : KInv X i p (k + 1) (tb ++ [x]) us (ks ++ [(tb.length : Int)]) := by
  refine ⟨unpack_mono h.reads, fun u hu y hy => ?_, by have := h.len; simp; omega, ?_, fun y hy => ?_⟩
  · have := h.rng u hu y hy; simp; omega
  · rw [List.take_add_one, hx]
    exact mapM_snoc (mapM_mono (fun k v hk => pick_append hk) h.kreads) (by unfold pick; rw [if_pos (by omega)]; simp)
  · simp only [List.length_append, List.length_cons, List.length_nil]
    rcases List.mem_append.1 hy with hy | hy
    · have := h.krng y hy; omega
    · simp at hy; subst hy; omega
theorem KInv.done {X : List Pc} {i : Nat} {p : Pc} {tb : List V3} {us : List Us} {ks : List Int} (h : KInv X i p p.ns.length tb us ks) (hp : X[i]? = some p) : LInv X (i + 1) tb (us ++ [⟨p.d, p.i, ks⟩]) := by
  have hk := h.kreads
  rw [List.take_length] at hk
  refine ⟨?_, fun u hu y hy => ?_, by rw [tot_take hp]; exact h.len⟩
  · rw [List.take_add_one, hp]
    exact mapM_snoc h.reads (by unfold unpackU; rw [hk]; rfl)
  · rcases List.mem_append.1 hu with hu | hu
    · exact h.rng u hu y hy
    · simp at hu; subst hu; exact h.krng y hy

theorem unpack_count {t : List V3} : ∀ {us : List Us} {l : List Pc}, unpack t us = some l → count us = tot l ∧ us.length = l.length
  | [], l, h => by simp [unpack] at h; subst h; simp [count, tot]
  | u :: us, l, h => by
    unfold unpack at h
    rw [List.mapM_cons] at h
    simp only [bind, Option.bind_eq_some_iff, pure, Option.some.injEq] at h
    obtain ⟨p, h1, r, h2, rfl⟩ := h
    have h3 := unpack_count (us := us) h2
    have h4 := unpackU_len h1
    simp [count, tot, h3.1, h3.2, h4]
theorem count_mem' : ∀ {L : List Us} {u : Us}, u ∈ L → u.ns.length ≤ count L
  | q :: l, p, h => by
    rcases List.mem_cons.1 h with rfl | h
    · simp [count]
    · have := count_mem' h
      simp [count]; omega
theorem pick_mem {t : List V3} {k : Int} {v : V3} (h : pick t k = some v) : v ∈ t := by
  unfold pick at h
  split at h
  · exact List.mem_of_getElem? h
  · cases h
theorem unpack_mem {t : List V3} : ∀ {us : List Us} {l : List Pc}, unpack t us = some l → ∀ v ∈ nals l, v ∈ t
  | [], l, h, v, hv => by simp [unpack] at h; subst h; simp [nals] at hv
  | u :: us, l, h, v, hv => by
    unfold unpack at h
    rw [List.mapM_cons] at h
    simp only [bind, Option.bind_eq_some_iff, pure, Option.some.injEq] at h
    obtain ⟨p, h1, r, h2, rfl⟩ := h
    simp only [nals, List.mem_append] at hv
    rcases hv with hv | hv
    · unfold unpackU at h1
      simp only [Option.map_eq_some_iff] at h1
      obtain ⟨ns, h3, rfl⟩ := h1
      obtain ⟨k, _, hk⟩ := mapM_mem h3 v hv
      exact pick_mem hk
    · exact unpack_mem h2 v hv
theorem nodup_le {α : Type} [DecidableEq α] : ∀ {l m : List α}, l.Nodup → (∀ x ∈ l, x ∈ m) → l.length ≤ m.length
  | [], m, _, _ => by simp
  | a :: l, m, hn, hs => by
    have hn' := List.nodup_cons.1 hn
    have ha := hs a (by simp)
    have := nodup_le (l := l) (m := m.erase a) hn'.2 (fun x hx => (List.mem_erase_of_ne (by rintro rfl; exact hn'.1 hx)).2 (hs x (by simp [hx])))
    rw [List.length_erase_of_mem ha] at this
    have hp := List.length_pos_of_mem ha
    simp only [List.length_cons]
    omega
/-- The packed list of Pack is the least. -/
theorem pack_least {X : List Pc} {t : List V3} {us : List Us} (h : unpack t us = some X) : sizeI (pack X).1 (pack X).2 ≤ sizeI t us := by
  have hk := packs_pack X
  have h1 := unpack_count h
  have h2 := unpack_count hk.reads
  have h3 := nodup_le hk.nodup (fun v hv => unpack_mem h v (hk.mem v hv))
  unfold sizeI
  omega
end Go.Proofs.Ytfeabgjcnnabdaa
