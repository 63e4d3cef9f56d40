/- Arguments read off: pieces, packed lists, numbers. -/
import Derived.Test.YtfeabgjcnnabdaaW12
import Derived.Test.YtfeabgjcnnabdaaPm31
namespace Go.Proofs.Ytfeabgjcnnabdaa
open Go.PM

def R64 (x : Int) : Prop := -9223372036854775808 ≤ x ∧ x ≤ 9223372036854775807
theorem r64_of {a : Int} (h : (Lit.int .i64 a).wf = true) : R64 a := by
  simpa [Lit.wf, IntKind.min, IntKind.max, IntKind.signed, IntKind.bits, R64] using h
theorem fits_int {x : DV} (h : CS.fits (.int .i64) x) : ∃ a : Int, x = .val (.int .i64 a) ∧ R64 a := by
  unfold CS.fits at h
  split at h
  · rename_i k a h1; cases h1; obtain ⟨rfl, h⟩ := h; exact ⟨_, rfl, r64_of h⟩
  all_goals first | exact h.elim | (rename_i h1; cases h1)
theorem fits_slice {es : List CS} {x : DV} (h : CS.fits (.slice es) x) : ∃ l, x = .imm l ∧ ∀ e ∈ l, CS.fitsL es e := by
  unfold CS.fits at h
  split at h
  all_goals first | exact h.elim | (rename_i h1; cases h1; done) | (rename_i h1; cases h1; exact ⟨_, rfl, h⟩)
theorem fitsL_cons {c : CS} {cs : List CS} {ds : List DV} (h : CS.fitsL (c :: cs) ds) : ∃ d r, ds = d :: r ∧ CS.fits c d ∧ CS.fitsL cs r := by
  cases ds with
  | nil => unfold CS.fitsL at h; exact h.elim
  | cons d r => unfold CS.fitsL at h; exact ⟨d, r, rfl, h.1, h.2⟩
theorem fitsL_nil {ds : List DV} (h : CS.fitsL [] ds) : ds = [] := by
  cases ds with
  | nil => rfl
  | cons d r => unfold CS.fitsL at h; exact h.elim

abbrev cI : CS := .int .i64
theorem ints_of {l : List (List DV)} (h : ∀ e ∈ l, CS.fitsL [cI] e) : ∃ L : List Int, l = ints L ∧ ∀ x ∈ L, R64 x :=
  list_ex l fun e he => by
    obtain ⟨d, r, rfl, h1, h2⟩ := fitsL_cons (h e he)
    obtain rfl := fitsL_nil h2
    obtain ⟨a, rfl, ha⟩ := fits_int h1
    exact ⟨a, rfl, ha⟩
theorem vecs_of {l : List (List DV)} (h : ∀ e ∈ l, CS.fitsL [cI, cI, cI] e) : ∃ L : List V3, l = vecs L ∧ ∀ x ∈ L, True :=
  list_ex l fun e he => by
    obtain ⟨d, r, rfl, h1, h2⟩ := fitsL_cons (h e he)
    obtain ⟨d2, r2, rfl, h3, h4⟩ := fitsL_cons h2
    obtain ⟨d3, r3, rfl, h5, h6⟩ := fitsL_cons h4
    obtain rfl := fitsL_nil h6
    obtain ⟨a, rfl, ha⟩ := fits_int h1
    obtain ⟨b, rfl, hb⟩ := fits_int h3
    obtain ⟨c, rfl, hc⟩ := fits_int h5
    exact ⟨⟨a, b, c⟩, rfl, trivial⟩
abbrev cV : List CS := [cI, cI, cI]
abbrev cP : List CS := [cI, cI, .slice cV]
abbrev cU : List CS := [cI, cI, .slice [cI]]
theorem pieces_of {l : List (List DV)} (h : ∀ e ∈ l, CS.fitsL cP e) : ∃ L : List Pc, l = pieces L ∧ ∀ x ∈ L, True :=
  list_ex l fun e he => by
    obtain ⟨d, r, rfl, h1, h2⟩ := fitsL_cons (h e he)
    obtain ⟨d2, r2, rfl, h3, h4⟩ := fitsL_cons h2
    obtain ⟨d3, r3, rfl, h5, h6⟩ := fitsL_cons h4
    obtain rfl := fitsL_nil h6
    obtain ⟨a, rfl, ha⟩ := fits_int h1
    obtain ⟨b, rfl, hb⟩ := fits_int h3
    obtain ⟨m, rfl, hm⟩ := fits_slice h5
    obtain ⟨L, rfl, _⟩ := vecs_of hm
    exact ⟨⟨a, b, L⟩, rfl, trivial⟩
theorem uses_of {l : List (List DV)} (h : ∀ e ∈ l, CS.fitsL cU e) : ∃ L : List Us, l = uses L ∧ ∀ u ∈ L, ∀ x ∈ u.ns, R64 x :=
  list_ex l fun e he => by
    obtain ⟨d, r, rfl, h1, h2⟩ := fitsL_cons (h e he)
    obtain ⟨d2, r2, rfl, h3, h4⟩ := fitsL_cons h2
    obtain ⟨d3, r3, rfl, h5, h6⟩ := fitsL_cons h4
    obtain rfl := fitsL_nil h6
    obtain ⟨a, rfl, ha⟩ := fits_int h1
    obtain ⟨b, rfl, hb⟩ := fits_int h3
    obtain ⟨m, rfl, hm⟩ := fits_slice h5
    obtain ⟨L, rfl, hL⟩ := ints_of hm
    exact ⟨⟨a, b, L⟩, rfl, hL⟩

theorem bulk_ints : ∀ L : List Int, DV.bulkLL (ints L) = L.length
  | [] => rfl
  | x :: L => by
    have := bulk_ints L
    simp only [ints] at this
    simp [DV.bulkLL, DV.bulkL, DV.bulk, this]; omega
theorem bulk_vecs : ∀ L : List V3, DV.bulkLL (vecs L) = 3 * L.length
  | [] => rfl
  | x :: L => by
    have := bulk_vecs L
    simp only [vecs] at this
    simp [DV.bulkLL, DV.bulkL, DV.bulk, this]; omega
theorem bulk_pieces : ∀ L : List Pc, DV.bulkLL (pieces L) = 3 * L.length + 3 * tot L
  | [] => rfl
  | x :: L => by
    have := bulk_pieces L
    simp only [pieces] at this
    have h2 := bulk_vecs x.ns
    simp only [vecs] at h2
    simp [DV.bulkLL, DV.bulkL, DV.bulk, this, tot, h2]; omega
theorem bulk_uses : ∀ L : List Us, DV.bulkLL (uses L) = 3 * L.length + count L
  | [] => rfl
  | x :: L => by
    have := bulk_uses L
    simp only [uses] at this
    have h2 := bulk_ints x.ns
    simp only [ints] at h2
    simp [DV.bulkLL, DV.bulkL, DV.bulk, this, count, h2]; omega
theorem count_mem : ∀ {L : List Us} {u : Us}, u ∈ L → u.ns.length ≤ count L
  | q :: l, p, h => by
    rcases List.mem_cons.1 h with rfl | h
    · simp [count]
    · have := count_mem h
      simp [count]; omega

section
variable {H : Type} {enc : TypeId × Value → H} {w : World} {base : Nat} {spare : Nat → Bool} {held : Bool} {W0 : World} {r : Reach} {b0 : Nat}
theorem arg_pieces {v : Value} {dd : DataW H} {ps : List MemPlace} (hv : Value.okWide Try.prog W0 r b0 22 v) (h : DataW.Trod enc Try.prog w base spare held 22 v dd ps) :
    ∃ L : List Pc, VR (allRd w) (fun _ => none) (.d (.imm (pieces L))) v ∧ 3 * L.length + 3 * tot L + 1 ≤ Rows.uptoBulk dd := by
  obtain ⟨n1, n2⟩ := okWide_not_agg und_22 hv
  obtain ⟨x, h1, h2, h3⟩ := arg_cell (c := .slice cP) 8 (by kernel_rfl) n1 n2 h
  obtain ⟨l, rfl, h4⟩ := fits_slice h2
  obtain ⟨L, rfl, _⟩ := pieces_of h4
  refine ⟨L, h1, ?_⟩
  rw [DV.bulk, bulk_pieces] at h3
  exact h3
theorem arg_ints {v : Value} {dd : DataW H} {ps : List MemPlace} (hv : Value.okWide Try.prog W0 r b0 27 v) (h : DataW.Trod enc Try.prog w base spare held 27 v dd ps) :
    ∃ L : List Int, VR (allRd w) (fun _ => none) (.d (.imm (ints L))) v ∧ (∀ x ∈ L, R64 x) ∧ L.length + 1 ≤ Rows.uptoBulk dd := by
  obtain ⟨n1, n2⟩ := okWide_not_agg und_27 hv
  obtain ⟨x, h1, h2, h3⟩ := arg_cell (c := .slice [cI]) 8 (by kernel_rfl) n1 n2 h
  obtain ⟨l, rfl, h4⟩ := fits_slice h2
  obtain ⟨L, rfl, h5⟩ := ints_of h4
  refine ⟨L, h1, h5, ?_⟩
  rw [DV.bulk, bulk_ints] at h3
  exact h3
theorem okWide_agg {t : TypeId} {fs : Array Field} (hu : Try.prog.underlying t = some (.struct fs)) {v : Value} (h : Value.okWide Try.prog W0 r b0 t v) : ∃ cs, v = .agg cs := by
  unfold Value.okWide at h
  rw [hu] at h
  obtain ⟨cs, h, _⟩ := h
  exact ⟨cs, h⟩
theorem und_26' : ∃ fs, Try.prog.underlying 26 = some (.struct fs) := ⟨Try.prog.fieldsOf 26, by kernel_rfl⟩
theorem arg_packed {v : Value} {dd : DataW H} {ps : List MemPlace} (hv : Value.okWide Try.prog W0 r b0 26 v) (h : DataW.Trod enc Try.prog w base spare held 26 v dd ps) :
    ∃ (t : List V3) (us : List Us), VR (allRd w) (fun _ => none) (packD t us) v ∧ (∀ u ∈ us, ∀ x ∈ u.ns, R64 x) ∧ 3 * t.length + 3 * us.length + count us + 2 ≤ Rows.uptoBulk dd := by
  obtain ⟨fs, hu⟩ := und_26'
  obtain ⟨cs, rfl⟩ := okWide_agg hu hv
  obtain ⟨a, h1, h2, h3⟩ := arg_agg (sh := [.slice cV, .slice cU]) 8 (by kernel_rfl) h
  obtain ⟨d, r, rfl, g1, g2⟩ := fitsL_cons h2
  obtain ⟨d2, r2, rfl, g3, g4⟩ := fitsL_cons g2
  obtain rfl := fitsL_nil g4
  obtain ⟨l, rfl, g5⟩ := fits_slice g1
  obtain ⟨t, rfl, _⟩ := vecs_of g5
  obtain ⟨l2, rfl, g6⟩ := fits_slice g3
  obtain ⟨us, rfl, g7⟩ := uses_of g6
  refine ⟨t, us, h1, g7, ?_⟩
  simp only [DV.bulkL, DV.bulk, bulk_vecs, bulk_uses] at h3
  omega
end
end Go.Proofs.Ytfeabgjcnnabdaa
