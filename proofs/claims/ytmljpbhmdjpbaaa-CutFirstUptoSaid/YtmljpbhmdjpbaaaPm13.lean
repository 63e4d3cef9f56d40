/- The pure machine, part 13: names of rows, and rows that become immutable. -/
import Derived.Test.YtmljpbhmdjpbaaaPm12
namespace Go.PM
set_option linter.unusedVariables false
set_option linter.unusedSimpArgs false

mutual
/-- Every row that a value names is one of S. -/
def PV.idsIn (S : Nat → Bool) : PV → Bool
  | .own id _ _ _ => S id
  | .ptr id _ _ => S id
  | .mp id => S id
  | .fn _ a b => PV.idsInL S a && PV.idsInL S b
  | .agg cs => PV.idsInL S cs
  | .tup vs => PV.idsInL S vs
  | .any => true
  | .d _ => true
  | .pim _ => true
def PV.idsInL (S : Nat → Bool) : List PV → Bool
  | [] => true
  | p :: r => PV.idsIn S p && PV.idsInL S r
end

theorem PV.idsInL_mem {S : Nat → Bool} : ∀ {ps : List PV}, PV.idsInL S ps = true → ∀ p ∈ ps, p.idsIn S = true
  | [], _, p, hp => by cases hp
  | q :: r, h, p, hp => by
    simp only [PV.idsInL, Bool.and_eq_true] at h
    rcases List.mem_cons.1 hp with rfl | hp
    · exact h.1
    · exact PV.idsInL_mem h.2 p hp
theorem PV.idsInL_of {S : Nat → Bool} : ∀ {ps : List PV}, (∀ p ∈ ps, p.idsIn S = true) → PV.idsInL S ps = true
  | [], _ => rfl
  | q :: r, h => by
    simp only [PV.idsInL, Bool.and_eq_true]
    exact ⟨h q (by simp), PV.idsInL_of fun p hp => h p (by simp [hp])⟩

mutual
def PV.ren (ρ : Nat → Nat) : PV → PV
  | .own id a b c => .own (ρ id) a b c
  | .ptr id a b => .ptr (ρ id) a b
  | .mp id => .mp (ρ id)
  | .fn f a b => .fn f (PV.renL ρ a) (PV.renL ρ b)
  | .agg cs => .agg (PV.renL ρ cs)
  | .tup vs => .tup (PV.renL ρ vs)
  | .any => .any
  | .d x => .d x
  | .pim cs => .pim cs
def PV.renL (ρ : Nat → Nat) : List PV → List PV
  | [] => []
  | p :: r => PV.ren ρ p :: PV.renL ρ r
end

theorem PV.renL_map (ρ : Nat → Nat) : ∀ ps : List PV, PV.renL ρ ps = ps.map (PV.ren ρ)
  | [] => rfl
  | p :: r => by simp [PV.renL, PV.renL_map ρ r]

theorem VR.ren {rd : Rd} {β β' : Bt} {S : Nat → Bool} {ρ : Nat → Nat} (hβ : ∀ id l, S id = true → β id = some l → β' (ρ id) = some l) {p : PV} {v : Value} (h : VR rd β p v) : p.idsIn S = true → VR rd β' (p.ren ρ) v := by
  induction h with
  | any v => intro _; exact .any v
  | d x v h => intro _; exact .d x v h
  | own id off len cap b sz tot a hb hl ht ha => intro hi; exact .own _ off len cap b sz tot a (hβ _ _ hi hb) hl ht ha
  | ownNil id sz hb => intro hi; exact .ownNil _ sz (hβ _ _ hi hb)
  | ptr id i o b sz tot hb => intro hi; exact .ptr _ i o b sz tot (hβ _ _ hi hb)
  | mp id b sz hb => intro hi; exact .mp _ b sz (hβ _ _ hi hb)
  | pim cs b off cur vs hlen hb hcell hel => intro _; exact .pim cs b off cur vs hlen hb hcell hel
  | fn f first caps us vs hu hv h1 h2 ih1 ih2 =>
    intro hi
    simp only [PV.idsIn, Bool.and_eq_true] at hi
    unfold PV.ren
    rw [PV.renL_map, PV.renL_map]
    refine .fn f _ _ us vs (by simpa using hu) (by simpa using hv) (fun j p v hp hv => ?_) (fun j p v hp hv => ?_)
    · rw [List.getElem?_map] at hp
      cases hj : first[j]? with
      | none => rw [hj] at hp; cases hp
      | some q => rw [hj] at hp; cases hp; exact ih1 j q v hj hv (PV.idsInL_mem hi.1 q (List.mem_of_getElem? hj))
    · rw [List.getElem?_map] at hp
      cases hj : caps[j]? with
      | none => rw [hj] at hp; cases hp
      | some q => rw [hj] at hp; cases hp; exact ih2 j q v hj hv (PV.idsInL_mem hi.2 q (List.mem_of_getElem? hj))
  | agg cs vs hlen h1 hel ih =>
    intro hi
    simp only [PV.idsIn] at hi
    unfold PV.ren
    rw [PV.renL_map]
    refine .agg _ vs (by simpa using hlen) h1 (fun j p v hp hv => ?_)
    rw [List.getElem?_map] at hp
    cases hj : cs[j]? with
    | none => rw [hj] at hp; cases hp
    | some q => rw [hj] at hp; cases hp; exact ih j q v hj hv (PV.idsInL_mem hi q (List.mem_of_getElem? hj))
  | tup cs vs hlen hel ih =>
    intro hi
    simp only [PV.idsIn] at hi
    unfold PV.ren
    rw [PV.renL_map]
    refine .tup _ vs (by simpa using hlen) (fun j p v hp hv => ?_)
    rw [List.getElem?_map] at hp
    cases hj : cs[j]? with
    | none => rw [hj] at hp; cases hp
    | some q => rw [hj] at hp; cases hp; exact ih j q v hj hv (PV.idsInL_mem hi q (List.mem_of_getElem? hj))

theorem VR.restrict {rd : Rd} {β β' : Bt} {S : Nat → Bool} (hβ : ∀ id l, S id = true → β id = some l → β' id = some l) {p : PV} {v : Value} (h : VR rd β p v) : p.idsIn S = true → VR rd β' p v := by
  induction h with
  | any v => intro _; exact .any v
  | d x v h => intro _; exact .d x v h
  | own id off len cap b sz tot a hb hl ht ha => intro hi; exact .own _ off len cap b sz tot a (hβ _ _ hi hb) hl ht ha
  | ownNil id sz hb => intro hi; exact .ownNil _ sz (hβ _ _ hi hb)
  | ptr id i o b sz tot hb => intro hi; exact .ptr _ i o b sz tot (hβ _ _ hi hb)
  | mp id b sz hb => intro hi; exact .mp _ b sz (hβ _ _ hi hb)
  | pim cs b off cur vs hlen hb hcell hel => intro _; exact .pim cs b off cur vs hlen hb hcell hel
  | fn f first caps us vs hu hv h1 h2 ih1 ih2 =>
    intro hi
    simp only [PV.idsIn, Bool.and_eq_true] at hi
    exact .fn f _ _ us vs hu hv (fun j p v hp hv => ih1 j p v hp hv (PV.idsInL_mem hi.1 p (List.mem_of_getElem? hp))) (fun j p v hp hv => ih2 j p v hp hv (PV.idsInL_mem hi.2 p (List.mem_of_getElem? hp)))
  | agg cs vs hlen h1 hel ih =>
    intro hi
    exact .agg _ vs hlen h1 (fun j p v hp hv => ih j p v hp hv (PV.idsInL_mem hi p (List.mem_of_getElem? hp)))
  | tup cs vs hlen hel ih =>
    intro hi
    exact .tup _ vs hlen (fun j p v hp hv => ih j p v hp hv (PV.idsInL_mem hi p (List.mem_of_getElem? hp)))

/-! ### A row becomes immutable -/
abbrev up (ds : List (List DV)) : List (List PV) := ds.map (·.map .d)

mutual
def PV.frz (id : Nat) (ds : List (List DV)) : PV → PV
  | .own j sz off len => if j = id ∧ off + len ≤ ds.length then .d (.imm ((ds.drop off).take len)) else .own j sz off len
  | .fn f a b => .fn f (PV.frzL id ds a) (PV.frzL id ds b)
  | .agg cs => .agg (PV.frzL id ds cs)
  | .tup vs => .tup (PV.frzL id ds vs)
  | .ptr a b c => .ptr a b c
  | .mp a => .mp a
  | .any => .any
  | .d x => .d x
  | .pim cs => .pim cs
def PV.frzL (id : Nat) (ds : List (List DV)) : List PV → List PV
  | [] => []
  | p :: r => PV.frz id ds p :: PV.frzL id ds r
end

theorem PV.frzL_map (id : Nat) (ds : List (List DV)) : ∀ ps : List PV, PV.frzL id ds ps = ps.map (PV.frz id ds)
  | [] => rfl
  | p :: r => by simp [PV.frzL, PV.frzL_map id ds r]

theorem PV.frz_cell {id : Nat} {ds : List (List DV)} {p : PV} (h : p.cell = true) : (p.frz id ds).cell = true := by
  cases p with
  | own j sz off len => simp only [PV.frz]; split <;> rfl
  | d | ptr | mp | pim | fn => rfl
  | any | agg | tup => cases h

theorem VR.frz {rd rd' : Rd} {β β' : Bt} {id : Nat} {ds : List (List DV)} (hm : ∀ b cur, rd b = some cur → rd' b = some cur) (hβ : ∀ j l, β j = some l → β' j = some l)
    (hrow : ∀ (sz off len : Nat) (v : Value), VR rd β (.own id sz off len) v → off + len ≤ ds.length → DR rd' (.imm ((ds.drop off).take len)) v) {p : PV} {v : Value} (h : VR rd β p v) : VR rd' β' (p.frz id ds) v := by
  induction h with
  | any v => exact .any v
  | d x v h => exact .d x v (h.mono hm)
  | own j off len cap b sz tot a hb hl ht ha =>
    unfold PV.frz
    split
    · rename_i hc
      obtain ⟨rfl, hc⟩ := hc
      exact .d _ _ (hrow sz off len _ (.own _ off len cap b sz tot a hb hl ht ha) hc)
    · exact .own _ off len cap b sz tot a (hβ _ _ hb) hl ht ha
  | ownNil j sz hb =>
    unfold PV.frz
    split
    · rename_i hc
      obtain ⟨rfl, hc⟩ := hc
      exact .d _ _ (hrow sz 0 0 _ (.ownNil _ sz hb) hc)
    · exact .ownNil _ sz (hβ _ _ hb)
  | ptr j i o b sz tot hb => exact .ptr _ i o b sz tot (hβ _ _ hb)
  | mp j b sz hb => exact .mp _ b sz (hβ _ _ hb)
  | pim cs b off cur vs hlen hb hcell hel => exact .pim cs b off cur vs hlen (hm _ _ hb) hcell (fun j d v h1 h2 => (hel j d v h1 h2).mono hm)
  | fn f first caps us vs hu hv h1 h2 ih1 ih2 =>
    unfold PV.frz
    rw [PV.frzL_map, PV.frzL_map]
    refine .fn f _ _ us vs (by simpa using hu) (by simpa using hv) (fun j p v hp hv => ?_) (fun j p v hp hv => ?_)
    · rw [List.getElem?_map] at hp
      cases hj : first[j]? with
      | none => rw [hj] at hp; cases hp
      | some q => rw [hj] at hp; cases hp; exact ih1 j q v hj hv
    · rw [List.getElem?_map] at hp
      cases hj : caps[j]? with
      | none => rw [hj] at hp; cases hp
      | some q => rw [hj] at hp; cases hp; exact ih2 j q v hj hv
  | agg cs vs hlen h1 hel ih =>
    unfold PV.frz
    rw [PV.frzL_map]
    refine .agg _ vs (by simpa using hlen) h1 (fun j p v hp hv => ?_)
    rw [List.getElem?_map] at hp
    cases hj : cs[j]? with
    | none => rw [hj] at hp; cases hp
    | some q => rw [hj] at hp; cases hp; exact ih j q v hj hv
  | tup cs vs hlen hel ih =>
    unfold PV.frz
    rw [PV.frzL_map]
    refine .tup _ vs (by simpa using hlen) (fun j p v hp hv => ?_)
    rw [List.getElem?_map] at hp
    cases hj : cs[j]? with
    | none => rw [hj] at hp; cases hp
    | some q => rw [hj] at hp; cases hp; exact ih j q v hj hv

def PB.frz (id : Nat) (ds : List (List DV)) (pb : PB) : PB := { pb with es := pb.es.map (·.map (PV.frz id ds)) }
def Core.frz (σ : Core) (id : Nat) (ds : List (List DV)) : Core := ⟨fun k => (σ.t k).frz id ds, fun j => if j = id then none else (σ.h j).map (PB.frz id ds)⟩

theorem flatten_map_map {α β : Type} (f : α → β) (es : List (List α)) : (es.map (·.map f)).flatten = es.flatten.map f := by
  simp [List.map_flatten]

/-- A slice of an own row, read as data. -/
theorem dr_of_own {rd : Rd} {β : Bt} {ds : List (List DV)} {sz0 b tot off len : Nat} {cur : Array Value} {v : Value} {id sz : Nat} (hβ : β id = some ⟨some b, sz0, tot⟩) (hrd : rd b = some cur) (hel : ∀ e ∈ ds, e.length = sz0) (hcell : ∀ (j : Nat) d, ds.flatten[j]? = some d → ∃ u, cur[j]? = some u ∧ DR rd d u)
    (hv : VR rd β (.own id sz off len) v) (hb : off + len ≤ ds.length) : DR rd (.imm ((ds.drop off).take len)) v := by
  cases hv with
  | ownNil _ _ h2 => rw [hβ] at h2; cases h2
  | own _ _ _ cap b2 _ tot2 ad h2 hl ht ha =>
    rw [hβ] at h2; cases h2
    have hlen : ((ds.drop off).take len).length = len := by simp; omega
    have hfl := flatten_drop_take ds sz0 off len hel hb
    have helr : ∀ e ∈ (ds.drop off).take len, e.length = sz0 := fun e he => hel e (List.mem_of_mem_drop (List.mem_of_mem_take he))
    have hF := flatten_len ds sz0 hel
    have hle : off * sz0 + len * sz0 ≤ ds.length * sz0 := by rw [← Nat.add_mul]; exact Nat.mul_le_mul_right _ hb
    by_cases h0 : len = 0
    · subst h0
      have hds : (ds.drop off).take 0 = [] := by simp
      rw [hds]
      subst ha
      exact .imm [] b (off * sz0) cap sz0 [] (by simp) (by simp) (by simp) (.inl rfl) (by simp)
    · have had := ha
      subst had
      have := DR.imm (rd := rd) ((ds.drop off).take len) b (off * sz0) cap sz0 ((List.range (len * sz0)).map fun j => cur.getD (off * sz0 + j) undef) (by rw [hlen]; exact hl) helr
        (by rw [flatten_len _ sz0 helr, hlen]; simp) (.inr ⟨cur, hrd, fun j u hu => ?_⟩) (fun j d u hd hu => ?_)
      · rw [hlen] at this
        exact this
      · rw [List.getElem?_map] at hu
        have hlt : j < len * sz0 := by
          have := (List.getElem?_eq_some_iff.1 (by simpa using hu : ((List.range (len * sz0)).map fun j => cur.getD (off * sz0 + j) undef)[j]? = some u)).1
          simpa using this
        rw [List.getElem?_range hlt] at hu
        cases hu
        have hlt2 : off * sz0 + j < ds.flatten.length := by rw [hF]; omega
        obtain ⟨u, hu, _⟩ := hcell (off * sz0 + j) ds.flatten[off * sz0 + j] (by simp [hlt2])
        simp only [Array.getD_eq_getD_getElem?, hu, Option.getD_some]
      · have hlt : j < len * sz0 := by
          have := (List.getElem?_eq_some_iff.1 hu).1
          simpa using this
        rw [List.getElem?_map, List.getElem?_range hlt] at hu
        cases hu
        rw [hfl, List.getElem?_take, if_pos hlt, List.getElem?_drop] at hd
        obtain ⟨u, hu, hdr⟩ := hcell _ d hd
        simp only [Array.getD_eq_getD_getElem?, hu, Option.getD_some]
        exact hdr

end Go.PM
