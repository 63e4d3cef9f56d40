/- Arguments read off: trees, polylines, lists of numbers, numbers. CutMeets, walked. -/
import Derived.Test.YtmljpbhmdjpbaaaM7
import Derived.Test.YtmljpbhmdjpbaaaPm31
namespace Go.Proofs.Ytmljpbhmdjpbaaa
set_option linter.unusedVariables false
set_option linter.unusedSimpArgs false
open Go.PM
set_option maxRecDepth 100000

def R64 (x : Int) : Prop := -9223372036854775808 ≤ x ∧ x ≤ 9223372036854775807
theorem r64_of {a : Int} (h : (Lit.int .i64 a).wf = true) : R64 a := by
  simpa [Lit.wf, IntKind.min, IntKind.max, IntKind.signed, IntKind.bits, R64] using h
theorem fits_int {x : DV} (h : CS.fits (.int .i64) x) : ∃ a : Int, x = .val (.int .i64 a) ∧ R64 a := by
  unfold CS.fits at h
  split at h
  · rename_i k a h1; cases h1; obtain ⟨rfl, h⟩ := h; exact ⟨_, rfl, r64_of h⟩
  all_goals first | exact h.elim | (rename_i h1; cases h1)
theorem fits_slice {es : List CS} {x : DV} (h : CS.fits (.slice es) x) : ∃ l, x = .imm l ∧ ∀ e ∈ l, CS.fitsL es e := by
  unfold CS.fits at h
  split at h
  all_goals first | exact h.elim | (rename_i h1; cases h1; done) | (rename_i h1; cases h1; exact ⟨_, rfl, h⟩)
theorem fitsL_cons {c : CS} {cs : List CS} {ds : List DV} (h : CS.fitsL (c :: cs) ds) : ∃ d r, ds = d :: r ∧ CS.fits c d ∧ CS.fitsL cs r := by
  cases ds with
  | nil => unfold CS.fitsL at h; exact h.elim
  | cons d r => unfold CS.fitsL at h; exact ⟨d, r, rfl, h.1, h.2⟩
theorem fitsL_nil {ds : List DV} (h : CS.fitsL [] ds) : ds = [] := by
  cases ds with
  | nil => rfl
  | cons d r => unfold CS.fitsL at h; exact h.elim

abbrev cI : CS := .int .i64
theorem ints_of {l : List (List DV)} (h : ∀ e ∈ l, CS.fitsL [cI] e) : ∃ L : List Int, l = ints L ∧ ∀ x ∈ L, R64 x :=
  list_ex l fun e he => by
    obtain ⟨d, r, rfl, h1, h2⟩ := fitsL_cons (h e he)
    obtain rfl := fitsL_nil h2
    obtain ⟨a, rfl, ha⟩ := fits_int h1
    exact ⟨a, rfl, ha⟩
abbrev cV : List CS := [cI, cI, cI]
theorem vecs_of {l : List (List DV)} (h : ∀ e ∈ l, CS.fitsL cV e) : ∃ L : List V3, l = vecs L ∧ ∀ x ∈ L, True :=
  list_ex l fun e he => by
    obtain ⟨d, r, rfl, h1, h2⟩ := fitsL_cons (h e he)
    obtain ⟨d2, r2, rfl, h3, h4⟩ := fitsL_cons h2
    obtain ⟨d3, r3, rfl, h5, h6⟩ := fitsL_cons h4
    obtain rfl := fitsL_nil h6
    obtain ⟨a, rfl, ha⟩ := fits_int h1
    obtain ⟨b, rfl, hb⟩ := fits_int h3
    obtain ⟨c, rfl, hc⟩ := fits_int h5
    exact ⟨⟨a, b, c⟩, rfl, trivial⟩
theorem ivs_of {l : List (List DV)} (h : ∀ e ∈ l, CS.fitsL [cI, cI] e) : ∃ L : List Iv, l = ivs L ∧ ∀ x ∈ L, True :=
  list_ex l fun e he => by
    obtain ⟨d, r, rfl, h1, h2⟩ := fitsL_cons (h e he)
    obtain ⟨d2, r2, rfl, h3, h4⟩ := fitsL_cons h2
    obtain rfl := fitsL_nil h4
    obtain ⟨a, rfl, ha⟩ := fits_int h1
    obtain ⟨b, rfl, hb⟩ := fits_int h3
    exact ⟨⟨a, b⟩, rfl, trivial⟩
theorem qs_of {l : List (List DV)} (h : ∀ e ∈ l, CS.fitsL [.slice [cI]] e) : ∃ L : List (List Int), l = qs L ∧ ∀ x ∈ L, ∀ y ∈ x, R64 y :=
  list_ex l fun e he => by
    obtain ⟨d, r, rfl, h1, h2⟩ := fitsL_cons (h e he)
    obtain rfl := fitsL_nil h2
    obtain ⟨m, rfl, hm⟩ := fits_slice h1
    obtain ⟨L, rfl, hL⟩ := ints_of hm
    exact ⟨L, rfl, hL⟩
abbrev cC : List CS := [cI, cI, cI, cI, .slice cV, cI, .slice [cI], .slice [cI]]
/-- A cell's numbers are in the range of their kind. -/
structure Cel.R (c : Cel) : Prop where
  j : R64 c.j
  lo : R64 c.lo
  hi : R64 c.hi
theorem cels_of {l : List (List DV)} (h : ∀ e ∈ l, CS.fitsL cC e) : ∃ L : List Cel, l = cels L ∧ ∀ x ∈ L, x.R :=
  list_ex l fun e he => by
    obtain ⟨d1, r, rfl, h1, g⟩ := fitsL_cons (h e he)
    obtain ⟨d2, r, rfl, h2, g⟩ := fitsL_cons g
    obtain ⟨d3, r, rfl, h3, g⟩ := fitsL_cons g
    obtain ⟨d4, r, rfl, h4, g⟩ := fitsL_cons g
    obtain ⟨d5, r, rfl, h5, g⟩ := fitsL_cons g
    obtain ⟨d6, r, rfl, h6, g⟩ := fitsL_cons g
    obtain ⟨d7, r, rfl, h7, g⟩ := fitsL_cons g
    obtain ⟨d8, r, rfl, h8, g⟩ := fitsL_cons g
    obtain rfl := fitsL_nil g
    obtain ⟨a, rfl, ha⟩ := fits_int h1
    obtain ⟨b, rfl, hb⟩ := fits_int h2
    obtain ⟨c, rfl, hc⟩ := fits_int h3
    obtain ⟨k, rfl, hk⟩ := fits_int h4
    obtain ⟨ns, rfl, hns⟩ := fits_slice h5
    obtain ⟨N, rfl, _⟩ := vecs_of hns
    obtain ⟨p, rfl, hp⟩ := fits_int h6
    obtain ⟨x, rfl, hx⟩ := fits_slice h7
    obtain ⟨X, rfl, _⟩ := ints_of hx
    obtain ⟨y, rfl, hy⟩ := fits_slice h8
    obtain ⟨Y, rfl, _⟩ := ints_of hy
    exact ⟨⟨a, b, c, ⟨k, N, ⟨p, X, Y⟩⟩⟩, rfl, ⟨ha, hb, hc⟩⟩

theorem bulkLL_len : ∀ (l : List (List DV)) (k : Nat), (∀ e ∈ l, k ≤ DV.bulkL e) → k * l.length ≤ DV.bulkLL l
  | [], _, _ => by simp [DV.bulkLL]
  | e :: l, k, h => by
    have := bulkLL_len l k fun x hx => h x (by simp [hx])
    have h0 := h e (by simp)
    simp only [DV.bulkLL, List.length_cons, Nat.mul_add]
    omega
theorem bulk_ints (L : List Int) : L.length ≤ DV.bulkLL (ints L) := by
  have := bulkLL_len (ints L) 1 fun e he => by
    obtain ⟨x, _, rfl⟩ := List.mem_map.1 he
    simp [DV.bulkL, DV.bulk]
  simpa using this
theorem bulk_mem : ∀ {l : List (List DV)} {e : List DV}, e ∈ l → DV.bulkL e ≤ DV.bulkLL l
  | x :: l, e, h => by
    rcases List.mem_cons.1 h with rfl | h
    · simp only [DV.bulkLL]; omega
    · have := bulk_mem h
      simp only [DV.bulkLL]; omega

section
variable {H : Type} {enc : TypeId × Value → H} {w : World} {base : Nat} {spare : Nat → Bool} {held : Bool} {W0 : World} {r : Go.Reach} {b0 : Nat}
theorem arg_ints {v : Value} {dd : DataW H} {ps : List MemPlace} (hv : Value.okWide Try.prog W0 r b0 27 v) (h : DataW.Trod enc Try.prog w base spare held 27 v dd ps) :
    ∃ L : List Int, VR (allRd w) (fun _ => none) (.d (.imm (ints L))) v ∧ (∀ x ∈ L, R64 x) ∧ L.length + 1 ≤ Rows.uptoBulk dd := by
  obtain ⟨n1, n2⟩ := okWide_not_agg und_27 hv
  obtain ⟨x, h1, h2, h3⟩ := arg_cell (c := .slice [cI]) 8 (by kernel_rfl) n1 n2 h
  obtain ⟨l, rfl, h4⟩ := fits_slice h2
  obtain ⟨L, rfl, h5⟩ := ints_of h4
  refine ⟨L, h1, h5, ?_⟩
  rw [DV.bulk] at h3
  have := bulk_ints L
  omega
theorem arg_ints64 {v : Value} {dd : DataW H} {ps : List MemPlace} (hv : Value.okWide Try.prog W0 r b0 35 v) (h : DataW.Trod enc Try.prog w base spare held 35 v dd ps) :
    ∃ L : List Int, VR (allRd w) (fun _ => none) (.d (.imm (ints L))) v ∧ (∀ x ∈ L, R64 x) ∧ L.length + 1 ≤ Rows.uptoBulk dd := by
  obtain ⟨n1, n2⟩ := okWide_not_agg und_35 hv
  obtain ⟨x, h1, h2, h3⟩ := arg_cell (c := .slice [cI]) 8 (by kernel_rfl) n1 n2 h
  obtain ⟨l, rfl, h4⟩ := fits_slice h2
  obtain ⟨L, rfl, h5⟩ := ints_of h4
  refine ⟨L, h1, h5, ?_⟩
  rw [DV.bulk] at h3
  have := bulk_ints L
  omega
theorem arg_line {v : Value} {dd : DataW H} {ps : List MemPlace} (hv : Value.okWide Try.prog W0 r b0 26 v) (h : DataW.Trod enc Try.prog w base spare held 26 v dd ps) :
    ∃ L : List (List Int), VR (allRd w) (fun _ => none) (.d (.imm (qs L))) v ∧ (∀ x ∈ L, ∀ y ∈ x, R64 y) ∧ L.length + 1 ≤ Rows.uptoBulk dd := by
  obtain ⟨n1, n2⟩ := okWide_not_agg und_26 hv
  obtain ⟨x, h1, h2, h3⟩ := arg_cell (c := .slice [.slice [cI]]) 8 (by kernel_rfl) n1 n2 h
  obtain ⟨l, rfl, h4⟩ := fits_slice h2
  obtain ⟨L, rfl, h5⟩ := qs_of h4
  refine ⟨L, h1, h5, ?_⟩
  rw [DV.bulk] at h3
  have := bulkLL_len (qs L) 1 fun e he => by
    obtain ⟨x, _, rfl⟩ := List.mem_map.1 he
    simp only [DV.bulkL, DV.bulk]; omega
  simp at this
  omega
theorem okWide_agg {t : TypeId} {fs : Array Field} (hu : Try.prog.underlying t = some (.struct fs)) {v : Value} (h : Value.okWide Try.prog W0 r b0 t v) : ∃ cs, v = .agg cs := by
  unfold Value.okWide at h
  rw [hu] at h
  obtain ⟨cs, h, _⟩ := h
  exact ⟨cs, h⟩
theorem und_25' : ∃ fs, Try.prog.underlying 25 = some (.struct fs) := ⟨Try.prog.fieldsOf 25, by kernel_rfl⟩
theorem arg_tree {v : Value} {dd : DataW H} {ps : List MemPlace} (hv : Value.okWide Try.prog W0 r b0 25 v) (h : DataW.Trod enc Try.prog w base spare held 25 v dd ps) :
    ∃ t : Tree, VR (allRd w) (fun _ => none) (treeP t) v ∧ (∀ c ∈ t.cells, c.R) ∧ t.root.length + t.cells.length ≤ Rows.uptoBulk dd := by
  obtain ⟨fs, hu⟩ := und_25'
  obtain ⟨cs, rfl⟩ := okWide_agg hu hv
  obtain ⟨a, h1, h2, h3⟩ := arg_agg (sh := [.slice [cI, cI], .slice cC]) 8 (by kernel_rfl) h
  obtain ⟨d, r, rfl, g1, g2⟩ := fitsL_cons h2
  obtain ⟨d2, r2, rfl, g3, g4⟩ := fitsL_cons g2
  obtain rfl := fitsL_nil g4
  obtain ⟨l, rfl, g5⟩ := fits_slice g1
  obtain ⟨R, rfl, _⟩ := ivs_of g5
  obtain ⟨l2, rfl, g6⟩ := fits_slice g3
  obtain ⟨C, rfl, g7⟩ := cels_of g6
  refine ⟨⟨R, C⟩, h1, g7, ?_⟩
  simp only [DV.bulkL, DV.bulk] at h3
  have b1 := bulkLL_len (ivs R) 1 fun e he => by
    obtain ⟨x, _, rfl⟩ := List.mem_map.1 he
    simp only [DV.bulkL, DV.bulk]; omega
  have b2 := bulkLL_len (cels C) 1 fun e he => by
    obtain ⟨x, _, rfl⟩ := List.mem_map.1 he
    simp only [DV.bulkL, DV.bulk]; omega
  simp at b1 b2
  show R.length + C.length ≤ _
  omega
theorem okWide_int {t : TypeId} {k : IntKind} {v : Value} (hu : Try.prog.underlying t = some (.int k)) (h : Value.okWide Try.prog W0 r b0 t v) : (∀ cs, v ≠ .agg cs) ∧ (∀ cs, v ≠ .tuple cs) := by
  unfold Value.okWide at h
  rw [hu] at h
  simp only at h
  unfold Cell.okWide at h
  rw [hu] at h
  simp only at h
  unfold Cell.ok at h
  rw [hu] at h
  refine ⟨fun cs e => ?_, fun cs e => ?_⟩ <;> subst e <;> simp at h
theorem arg_int {v : Value} {dd : DataW H} {ps : List MemPlace} (hv : Value.okWide Try.prog W0 r b0 3 v) (h : DataW.Trod enc Try.prog w base spare held 3 v dd ps) :
    ∃ n : Int, VR (allRd w) (fun _ => none) (.i n) v ∧ R64 n ∧ 0 ≤ Rows.uptoBulk dd := by
  obtain ⟨n1, n2⟩ := okWide_int und_3 hv
  obtain ⟨x, h1, h2, h3⟩ := arg_cell (c := cI) 8 (by kernel_rfl) n1 n2 h
  obtain ⟨a, rfl, ha⟩ := fits_int h2
  exact ⟨a, h1, ha, Nat.zero_le _⟩
end
end Go.Proofs.Ytmljpbhmdjpbaaa
namespace Go.Proofs.Ytmljpbhmdjpbaaa
set_option linter.unusedVariables false
set_option linter.unusedSimpArgs false
open Go.PM

theorem small_len {t : Tree} (h : smallT t = true) : t.root.length ≤ 12 ∧ t.cells.length ≤ 60 := by
  unfold smallT at h
  simp only [Bool.and_eq_true, decide_eq_true_eq] at h
  omega
theorem tree_len (l : List Int) : (treeV l).root.length ≤ 10 := by
  obtain ⟨b, hb⟩ := Option.isSome_iff_exists.1 (treeV_ok l)
  exact root_len hb
theorem tree_box (l : List Int) : boxOk (treeV l).root = true := by
  obtain ⟨b, hb⟩ := Option.isSome_iff_exists.1 (treeV_ok l)
  exact (treeOk_iff.1 (boxesT_iff hb).1).1.2.2
theorem mod_nat (n k : Int) (hk : 0 < k) : ∃ m : Nat, n % k = m ∧ (m : Int) < k := by
  obtain ⟨m, hm⟩ := Int.eq_ofNat_of_zero_le (Int.emod_nonneg n (by omega : k ≠ 0))
  exact ⟨m, hm, hm ▸ Int.emod_lt_of_pos n hk⟩
set_option maxRecDepth 8000 in
set_option maxHeartbeats 4000000 in
theorem pcall_meets (t : Tree) (line : List (List Int)) (hr : t.root.length ≤ 1048576) :
    PCall Try.prog 17 [treeP t, .d (.imm (qs line))] (.b true) := by
  obtain ⟨⟨r1, r2, r3, r4⟩, hm⟩ : ∃ m, (meetT t line).getD zeroMt = m := ⟨_, rfl⟩
  obtain ⟨ok, hok⟩ : ∃ ok, (meetT t line).isSome = ok := ⟨_, rfl⟩
  refine walk Try.func17 (by kernel_rfl) rfl 29 rfl (Nat.le_of_ble_eq_true rfl) fun nid _ => ?_
  refine Tr.seq (Tr.regionK fun K hK => ?_)
  simp (maxSteps := 1000000) [add_add]
  refine hK _ ?_; clear hK K
  refine Tr.seq (Tr.regionK fun K hK => ?_)
  simp (maxSteps := 1000000) [add_add]
  refine .inl ⟨_, pcall_meet t line hr, rfl, ?_⟩
  simp (maxSteps := 1000000) [add_add, meetP, hm, hok]
  refine hK _ ?_; clear hK K
  refine Tr.seq (Tr.regionK fun K hK => ?_)
  simp (maxSteps := 1000000) [add_add]
  refine .inl ⟨_, pcall_refMeetT t line hr, rfl, ?_⟩
  simp (maxSteps := 1000000) [add_add, meetP, hm, hok]
  refine hK _ ?_; clear hK K
  refine Tr.seq (Tr.regionK fun K hK => ?_)
  simp (maxSteps := 1000000) [add_add]
  refine hK _ ?_; clear hK K
  refine Tr.ret ⟨.inr rfl, ?_, ?_, ?_, ?_⟩ <;> simp [Try.f17]
set_option maxRecDepth 8000 in
set_option maxHeartbeats 4000000 in
theorem pcall_law3 (u : Tree) (line : List (List Int)) (l m : List Int) (n : Int) (hr : u.root.length ≤ 1048576) (hl : Ok64 l) (hlen : l.length ≤ 1048576) (hm : Ok64 m) (hmen : m.length ≤ 1048576) (hn : R64 n) :
    PCall Try.prog 3 [treeP u, .d (.imm (qs line)), .d (.imm (ints l)), .d (.imm (ints m)), .i n] (.b true) := by
  obtain ⟨k, hk, hk7⟩ := mod_nat n 7 (by omega)
  refine walk Try.func3 (by kernel_rfl) rfl 44 rfl (Nat.le_of_ble_eq_true rfl) fun nid _ => ?_
  refine Tr.seq (Tr.regionK fun K hK => ?_)
  simp (maxSteps := 1000000) [add_add]
  refine hK _ ?_; clear hK K
  refine Tr.seq ?_
  rcases Bool.eq_false_or_eq_true (smallT u) with s1_0 | s1_0
  · have s1_0' := s1_0
    by_cases s1_1 : ¬ 20 < (line.length : Int)
    · have s1_1' := s1_1
      refine Tr.seq (Tr.regionK fun K hK => ?_)
      simp (maxSteps := 1000000) [add_add]
      refine .inl ⟨_, pcall_smallTree u, rfl, ?_⟩
      simp (maxSteps := 1000000) [add_add, s1_0, s1_1]
      refine hK _ ?_; clear hK K
      refine Tr.cond rfl rfl (fun hq0 => by first | (cases hq0; done) | (simp at hq0; done) | (simp_all; done)) (fun hq0 => ?_)
      refine Tr.skip ?_
      refine Tr.seq (Tr.regionK fun K hK => ?_)
      simp (maxSteps := 1000000) [add_add]
      refine .inl ⟨_, pcall_tree l hl hlen, rfl, ?_⟩
      simp (maxSteps := 1000000) [add_add]
      refine hK _ ?_; clear hK K
      refine Tr.seq (Tr.regionE mixed (by kernel_rfl) fun K hK => ?_)
      simp (maxSteps := 1000000) [add_add]
      refine .inl ⟨_, pcall_awake, rfl, ?_⟩
      simp (maxSteps := 1000000)
      refine .inl ⟨_, pcall_meets u line hr, rfl, ?_⟩
      simp (maxSteps := 1000000)
      refine .inl ⟨_, pcall_round n 7 hn.1 hn.2 (by omega) (by omega), rfl, ?_⟩
      simp (maxSteps := 1000000) [hk]
      refine .inl ⟨_, pcall_line (treeV l).root m k (by have := tree_len l; omega) (tree_box l) (by omega) hm hmen, rfl, ?_⟩
      simp (maxSteps := 1000000)
      refine .inl ⟨_, pcall_meets (treeV l) (lineV (treeV l).root m k) (by have := tree_len l; omega), rfl, ?_⟩
      simp (maxSteps := 1000000)
      refine .inl ⟨_, pcall_meets (treeV l) line (by have := tree_len l; omega), rfl, ?_⟩
      simp (maxSteps := 1000000)
      refine hK _ ?_; clear hK K
      refine Tr.ret ⟨.inr rfl, ?_, ?_, ?_, ?_⟩ <;> simp [Try.f3]
    refine Tr.seq (Tr.regionK fun K hK => ?_)
    simp (maxSteps := 1000000) [add_add]
    refine .inl ⟨_, pcall_smallTree u, rfl, ?_⟩
    simp (maxSteps := 1000000) [add_add, s1_0]
    refine hK _ ?_; clear hK K
    refine Tr.cond rfl rfl (fun hq1 => ?_) (fun hq1 => by first | (cases hq1; done) | (simp at hq1; done) | (simp_all; done))
    refine Tr.seq (Tr.regionK fun K hK => ?_)
    simp (maxSteps := 1000000) [add_add]
    refine .inl ⟨_, pcall_awake, rfl, ?_⟩
    simp (maxSteps := 1000000) [add_add]
    refine hK _ ?_; clear hK K
    refine Tr.ret ⟨.inr rfl, ?_, ?_, ?_, ?_⟩ <;> simp [Try.f3]
  refine Tr.seq (Tr.regionK fun K hK => ?_)
  simp (maxSteps := 1000000) [add_add]
  refine .inl ⟨_, pcall_smallTree u, rfl, ?_⟩
  simp (maxSteps := 1000000) [add_add, s1_0]
  refine hK _ ?_; clear hK K
  refine Tr.cond rfl rfl (fun hq2 => ?_) (fun hq2 => by first | (cases hq2; done) | (simp at hq2; done) | (simp_all; done))
  refine Tr.seq (Tr.regionK fun K hK => ?_)
  simp (maxSteps := 1000000) [add_add]
  refine .inl ⟨_, pcall_awake, rfl, ?_⟩
  simp (maxSteps := 1000000) [add_add]
  refine hK _ ?_; clear hK K
  refine Tr.ret ⟨.inr rfl, ?_, ?_, ?_, ?_⟩ <;> simp [Try.f3]
end Go.Proofs.Ytmljpbhmdjpbaaa
