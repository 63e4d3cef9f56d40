/- The walks through the reference's functions that pack pieces. -/
import Derived.Test.YtfeabgjcnnabdaaW4
namespace Go.Proofs.Ytfeabgjcnnabdaa
open Go.PM

/-- The place of a normal in a table. -/
def place (x : V3) : List V3 → Option Nat
  | [] => none
  | y :: r => if y = x then some 0 else (place x r).map (· + 1)
theorem place_append (x : V3) (b : List V3) : ∀ a : List V3, place x (a ++ b) = match place x a with | some j => some j | none => (place x b).map (· + a.length)
  | [] => by simp [place]
  | y :: a => by
    rw [List.cons_append, place, place, place_append x b a]
    split
    · rfl
    · cases place x a with
      | some j => rfl
      | none => cases place x b <;> simp; omega
theorem place_hit {x : V3} {l : List V3} {i : Nat} (h0 : place x (l.take i) = none) (hx : l[i]? = some x) : place x l = some i := by
  have hlt : i < l.length := (List.getElem?_eq_some_iff.1 hx).1
  have h1 : l.drop i = x :: l.drop (i + 1) := by rw [List.drop_eq_getElem_cons hlt]; congr 1; exact (List.getElem?_eq_some_iff.1 hx).2
  have := place_append x (l.drop i) (l.take i)
  rw [List.take_append_drop, h0, h1] at this
  rw [this]
  simp [place]; omega
theorem place_miss {x y : V3} {l : List V3} {i : Nat} (h0 : place x (l.take i) = none) (hy : l[i]? = some y) (hne : y ≠ x) : place x (l.take (i + 1)) = none := by
  rw [List.take_add_one, hy, place_append, h0]
  simp [place, hne]
theorem place_lt {x : V3} : ∀ {l : List V3} {i : Nat}, place x l = some i → l[i]? = some x
  | y :: l, i, h => by
    unfold place at h
    split at h
    · rename_i e; cases h; simp [e]
    · cases hp : place x l with
      | none => rw [hp] at h; cases h
      | some j => rw [hp] at h; cases h; simpa using place_lt hp
  | [], i, h => by cases h
def numberI (l : List V3) (x : V3) : Int := match place x l with | some j => j | none => -1
abbrev vecP (v : V3) : PV := .agg [.i v.a, .i v.b, .i v.c]

theorem pcall_number (l : List V3) (x : V3) (hl : l.length ≤ 1073741824) : PCall Try.prog 19 [.d (.imm (vecs l)), vecP x] (.i (numberI l x)) := by
  refine walk Try.func19 (by kernel_rfl) rfl 19 rfl (Nat.le_of_ble_eq_true rfl) fun nid _ => ?_
  refine Tr.seq (Tr.regionK fun K hK => ?_)
  simp [Try.f19]
  refine hK _ (Tr.seq (Tr.seq (Tr.regionK fun K1 hK1 => ?_))); clear hK K
  simp [Try.f19]
  refine hK1 _ (Tr.block (Tr.loopK 1 (fun i : Nat => ([(0, .d (.imm (vecs l))), (3, .ptr nid 0 0), (5, .i i)], [(nid, ⟨39, 3, [[.i x.a, .i x.b, .i x.c]]⟩)])) (fun i => i ≤ l.length ∧ place x (l.take i) = none) (fun i => l.length - i) ⟨0, [nid], ⟨by omega, rfl⟩, ⟨rfl, ?_, ?_, ?_, ?_⟩⟩ ?_)) <;> clear hK1 K1
  · simp
  · simp
  · simp
  · simp
  rintro i ⟨hi, hp⟩
  refine Tr.seq (Tr.seq (Tr.regionK fun K hK => ?_))
  simp [Try.f19]
  refine hK _ (Tr.cond rfl rfl ?_ ?_) <;> clear hK K <;> intro hq <;> simp at hq
  · obtain ⟨y, hy, hyy⟩ : ∃ y, l[i]? = some y ∧ l[i] = y := ⟨l[i], List.getElem?_eq_getElem hq, rfl⟩
    refine Tr.skip (Tr.seq (Tr.block (Tr.seq (Tr.regionE mixed (by kernel_rfl) fun K hK => ?_))))
    simp [Try.f19, hy, hyy, hq, add_add]
    refine hK _ (Tr.cond rfl rfl ?_ ?_) <;> clear hK K <;> intro hq3
    · have hxy : y = x := by cases x; cases y; simpa using hq3
      subst hxy
      have := place_hit hp hy
      refine Tr.seq (Tr.regionK fun K hK => ?_)
      simp [Try.f19]
      refine hK _ (Tr.ret ⟨.inr rfl, ?_, ?_, ?_, ?_⟩) <;> simp [Try.f19, numberI, this]
    · have hxy : y ≠ x := by intro e; subst e; simp at hq3
      refine Tr.skip (Tr.regionK fun K hK => ?_)
      have w : IntKind.i64.wrap ((i : Int) + 1) = (i : Int) + 1 := wrapIn (by omega) (by omega)
      simp [Try.f19, w]
      refine hK _ ⟨i + 1, [nid], ⟨⟨hq, place_miss hp hy hxy⟩, by show _ < _; omega⟩, ⟨rfl, ?_, ?_, ?_, ?_⟩⟩ <;> clear hK K <;> simp
  · have hia : i = l.length := by omega
    subst hia
    rw [List.take_length] at hp
    refine Tr.exit (exit_s (exit_s (exit_b ?_)))
    refine Tr.seq (Tr.regionK fun K hK => ?_)
    simp [Try.f19]
    refine hK _ (Tr.ret ⟨.inr rfl, ?_, ?_, ?_, ?_⟩) <;> simp [Try.f19, numberI, hp]
end Go.Proofs.Ytfeabgjcnnabdaa
