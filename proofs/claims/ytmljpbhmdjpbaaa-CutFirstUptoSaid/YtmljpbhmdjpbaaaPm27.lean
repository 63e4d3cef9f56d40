/- The pure machine, part 27: rows of data, and lists that are gone through. -/
import Derived.Test.YtmljpbhmdjpbaaaPm26
namespace Go.PM
set_option linter.unusedVariables false
set_option linter.unusedSimpArgs false

/-- A row of data. -/
def upm {α : Type} (f : α → List DV) (l : List α) : List (List PV) := up (l.map f)
section
variable {α : Type} (f : α → List DV) (l : List α)
theorem upm_nil : upm f [] = [] := rfl
theorem upm_length : (upm f l).length = l.length := by simp [upm]
theorem upm_frz (id : Nat) (ds : List (List DV)) : (upm f l).map (fun e => e.map (PV.frz id ds)) = upm f l := up_frz id ds _
theorem upm_ren (ρ : Nat → Nat) : (upm f l).map (fun e => e.map (PV.ren ρ)) = upm f l := by
  unfold upm up
  rw [List.map_map]
  apply List.map_congr_left
  intro e _
  simp only [Function.comp_apply, List.map_map]
  rfl
theorem upm_take : (upm f l).take l.length = upm f l := List.take_of_length_le (by rw [upm_length]; exact Nat.le_refl _)
theorem upm_snoc (x : α) : upm f l ++ [(f x).map .d] = upm f (l ++ [x]) := by simp [upm]
theorem upm_get (j : Nat) (x : α) (h : l[j]? = some x) : (upm f l)[j]? = some ((f x).map .d) := by simp [upm, h]
theorem map_take_all : (l.map f).take l.length = l.map f := List.take_of_length_le (by simp)
theorem upm_ids (S : Nat → Bool) : ((upm f l).all fun e => PV.idsInL S e) = true := by
  rw [List.all_eq_true]
  intro e he
  unfold upm up at he
  obtain ⟨d, _, rfl⟩ := List.mem_map.1 he
  exact PV.idsInL_of fun p hp => by
    obtain ⟨x, _, rfl⟩ := List.mem_map.1 hp
    rfl
end
attribute [simp] upm_ids upm_nil upm_length upm_frz upm_ren upm_take map_take_all Core.frz PB.frz PV.frz PV.frzL

/-- A row of data becomes immutable. -/
theorem Tr.freezeM {P : Program} {C : Cx} {σ : Core} {n : Nat} {Q : PPost} {c : Code} {α : Type} (id : Nat) (f : α → List DV) (l : List α) {ty : TypeId} {sz : Nat} (L : List (Nat × PV)) (R : Rows) (hh : σ.h id = some ⟨ty, sz, upm f l⟩) (hperm : id ∈ C.T ∨ C.n0 ≤ id)
    (hL : slotsLe none C.nt (fun k => (σ.t k).frz id (l.map f)) L) (hR : rowsLe none (fun j => if j = id then none else (σ.h j).map (PB.frz id (l.map f))) R) (h : Tr P C c (St L R) n Q) (hty : ty < 1000000000 := by simp) : Tr P C c σ n Q :=
  Tr.freezeTo id (l.map f) L R hty hh hperm hL hR h

theorem callH_new (h : Hp) (nid : Nat) (pb : PB) : callH h [] [] nid [pb] = hup h nid (some pb) := by
  funext j
  unfold callH hup
  by_cases e : j = nid
  · subst e; simp [hasId, nRows, rowsH]
  · have : (nid == j) = false := by simpa using Ne.symm e
    simp [hasId, nRows, rowsH, e, this]
theorem callH_one (h : Hp) (nid s : Nat) (p q : PB) : callH h [(s, p)] [(s, q)] nid [] = hup h s (some q) := by
  funext j
  unfold callH hup
  by_cases e : j = s
  · subst e; simp [hasId, rowsH]
  · have : (s == j) = false := by simpa using Ne.symm e
    simp [hasId, nRows, rowsH, e, this]
attribute [simp] callH_new callH_one

theorem mapM_take {α β : Type} {f : α → Option β} {l : List α} {j : Nat} {x : α} {y : β} {done : List β} (hd : (l.take j).mapM f = some done) (hx : l[j]? = some x) (hf : f x = some y) : (l.take (j + 1)).mapM f = some (done ++ [y]) := by
  rw [List.take_add_one, hx]
  simp [List.mapM_append, hd, hf]
theorem mapM_none {α β : Type} {f : α → Option β} {x : α} (hf : f x = none) : ∀ {l : List α} {j : Nat}, l[j]? = some x → l.mapM f = none
  | y :: l, 0, hx => by
    simp at hx
    subst hx
    simp [List.mapM_cons, hf]
  | y :: l, j + 1, hx => by
    have := mapM_none (l := l) (j := j) hf (by simpa using hx)
    rw [List.mapM_cons, this]
    cases f y <;> rfl
  | [], _, hx => by simp at hx
theorem mapM_len {α β : Type} {f : α → Option β} : ∀ {l : List α} {r : List β}, l.mapM f = some r → r.length = l.length
  | [], r, h => by simp at h; subst h; rfl
  | y :: l, r, h => by
    rw [List.mapM_cons] at h
    cases h1 : f y with
    | none => rw [h1] at h; cases h
    | some z =>
      rw [h1] at h
      cases h2 : l.mapM f with
      | none => rw [h2] at h; cases h
      | some zs =>
        rw [h2] at h
        cases h
        simp [mapM_len h2]
end Go.PM
