/- What is reached, walked. Apart; Flood; Separates. Plain law: where a polyline first meets a colliding leaf. Meet, walked. -/
import Derived.Test.YtmljpbhmdjpbaaaM5
namespace Go.Proofs.Ytmljpbhmdjpbaaa
set_option linter.unusedVariables false
set_option linter.unusedSimpArgs false
open Go.PM

abbrev nD (k : Nat) : List DV := [.val (.int .i64 k)]
abbrev nats (l : List Nat) : List (List DV) := l.map nD
abbrev boolD (b : Bool) : List DV := [.val (.bool b)]
abbrev bools (l : List Bool) : List (List DV) := l.map boolD
def lvn (t : Tree) : List Nat := (List.range t.cells.length).filter (leafAt t)
theorem lvs_nats (t : Tree) : ∀ k, lvs t k = ((List.range k).filter (leafAt t)).map Int.ofNat
  | 0 => rfl
  | k + 1 => by
    simp only [lvs, lvs_nats t k, List.range_succ, List.filter_append, List.map_append]
    congr 1
    by_cases h : leafAt t k = true <;> simp [h]
theorem ints_lvs (t : Tree) : ints (lvs t t.cells.length) = nats (lvn t) := by
  rw [lvs_nats]; simp [lvn]
theorem lvn_mem {t : Tree} {i : Nat} : i ∈ lvn t ↔ i < t.cells.length ∧ leafAt t i = true := by simp [lvn]
def openAt (t : Tree) (i : Nat) : Bool := match t.cells[i]? with
  | some c => c.leaf && !c.coll
  | none => false
theorem openAt_eq {t : Tree} {i : Nat} {c : Cel} (h : t.cells[i]? = some c) : openAt t i = (c.leaf && !c.coll) := by unfold openAt; rw [h]
def boxAt (l : List (List Iv)) (i : Nat) : List Iv := l.getD i []
theorem boxAt_eq {l : List (List Iv)} {i : Nat} {b : List Iv} (h : l[i]? = some b) : boxAt l i = b := by unfold boxAt; rw [List.getD_eq_getElem?_getD, h]; rfl
abbrev adjV (l : List (List Iv)) (i j : Nat) : Bool := touchB (boxAt l j) (boxAt l i)
abbrev inV1 (l : List (List Iv)) (p : List Int) (i : Nat) : Bool := boxHas (boxAt l i) p
def spreadV (t : Tree) (l : List (List Iv)) (p : List Int) : List Bool := floodL t.cells.length (openAt t) (inV1 l p) (adjV l)
theorem spreadV_length (t : Tree) (l : List (List Iv)) (p : List Int) : (spreadV t l p).length = t.cells.length := floodL_length
theorem split_last {α : Type} {l : List α} (h : 0 < l.length) : ∃ a x, l = a ++ [x] := ⟨l.dropLast, l.getLast (List.length_pos_iff.1 h), (List.dropLast_concat_getLast _).symm⟩
theorem open_seen {t : Tree} {i : Nat} (hi : i < t.cells.length) (ho : openAt t i = true) : i ∈ lvn t := by
  refine lvn_mem.2 ⟨hi, ?_⟩
  cases hc : t.cells[i]? with
  | none => simp [openAt, hc] at ho
  | some c => simp [openAt, hc] at ho; simp [leafAt, hc, ho.1]
theorem bl_set (l : List Bool) (k : Nat) (b : Bool) : (upm boolD l).set k [PV.d (.val (.bool b))] = upm boolD (l.set k b) := upm_set boolD l k b
theorem bl_tail (l : List Bool) (k : Nat) (hk : k < (upm boolD l).length) : ((upm boolD l)[k]'hk).tail = [] := by
  have hk' : k < l.length := by simpa using hk
  rw [upm_at (List.getElem?_eq_getElem hk')]; rfl
theorem bl_zero (n : Nat) : upm boolD (List.replicate n false) = List.replicate n [PV.d (.val (.bool false))] := by simp [upm, up]
theorem nD_last (a : List Nat) (c : Nat) (r : List (List PV)) (h : a.length < (upm nD a ++ [PV.d (.val (.int .i64 c))] :: r).length) : (upm nD a ++ [PV.d (.val (.int .i64 c))] :: r)[a.length]'h = [PV.d (.val (.int .i64 c))] := by
  rw [List.getElem_append_right (by rw [upm_length]; exact Nat.le_refl _)]
  simp
theorem upm_takeA (a : List Nat) (r : List (List PV)) : (upm nD a ++ r).take a.length = upm nD a := by
  rw [List.take_append_of_le_length (by rw [upm_length]; exact Nat.le_refl _), upm_take]
theorem upm_consN (c : Nat) (r : List Nat) : upm nD (c :: r) = [PV.d (.val (.int .i64 c))] :: upm nD r := rfl
theorem nt_at {l : List Nat} {k : Nat} {x : Nat} (h : l[k]? = some x) (hk : k < (upm nD l).length) : (upm nD l)[k]'hk = [PV.d (.val (.int .i64 x))] := upm_at h hk
set_option maxRecDepth 8000 in
set_option maxHeartbeats 4000000 in
theorem pcall_spread (t : Tree) (l : List (List Iv)) (p : List Int) (m : Nat) (hl : l.length = t.cells.length) (hn : t.cells.length ≤ 2048) (hm : m ≤ 1048576) (hb : ∀ b ∈ l, b.length = m) :
    PCall Try.prog 75 [treeP t, .d (.imm (nats (lvn t))), .d (.imm (boxs l)), .d (.imm (ints p))] (.d (.imm (bools (spreadV t l p)))) := by
  obtain ⟨lv, hlv⟩ : ∃ lv, lvn t = lv := ⟨_, rfl⟩
  have hmem : ∀ i, i ∈ lv → i < t.cells.length ∧ leafAt t i = true := fun i hi => lvn_mem.1 (hlv ▸ hi)
  have hlvl : lv.length ≤ t.cells.length := by rw [← hlv]; unfold lvn; exact Nat.le_trans (List.length_filter_le _ _) (by simp)
  rw [hlv]
  refine walk Try.func75 (by kernel_rfl) rfl 95 rfl (Nat.le_of_ble_eq_true rfl) fun nid _ => ?_
  refine Tr.seq (Tr.regionK fun K hK => ?_)
  simp (maxSteps := 1000000) [add_add]
  refine hK _ ?_; clear hK K
  refine Tr.seq (Tr.regionK fun K hK => ?_)
  simp (maxSteps := 1000000) [add_add]
  repeat (first | refine ⟨by omega, ?_⟩ | refine ⟨⟨by omega, by omega⟩, ?_⟩ | refine ⟨rfl, ?_⟩)
  refine hK _ ?_; clear hK K
  refine Tr.seq (Tr.regionK fun K hK => ?_)
  simp (maxSteps := 1000000) [add_add]
  refine hK _ ?_; clear hK K
  refine Tr.seq ?_
  refine Tr.seq (Tr.regionK fun K hK => ?_)
  simp (maxSteps := 1000000) [add_add]
  refine hK _ ?_; clear hK K
  refine Tr.block ?_
  refine Tr.loopP [(3, 1), (3, 1)] [.slot 4, .slot 9, .nil 0, .nil 1] [.slot 4, .slot 9, .slot 10, .slot 11] (fun x : Nat × List Bool × List Nat × List Nat => ([(2, .d (.imm (boxs l))), (3, .d (.imm (ints p))), (4, .ptr nid 0 0), (9, .own (nid + 1) 1 0 t.cells.length), (10, .own (nid + 2) 1 0 x.2.2.1.length), (11, .own (nid + 3) 1 0 x.2.2.2.length), (23, .d (.imm (nats lv))), (24, .i lv.length), (25, .i x.1)],
  [(nid, ⟨25, 2, [[.d (.imm (ivs t.root)), .d (.imm (cels t.cells))]]⟩), (nid + 1, ⟨4, 1, upm boolD x.2.1⟩), (nid + 2, ⟨3, 1, upm nD x.2.2.1⟩), (nid + 3, ⟨3, 1, upm nD x.2.2.2⟩)])) (fun x : Nat × List Bool × List Nat × List Nat => x.1 ≤ lv.length ∧ x.2.2.1.length + x.2.2.2.length ≤ x.1 ∧ SprB t.cells.length (openAt t) (inV1 l p) (adjV l) (lv.take x.1) x.2.1 x.2.2.1 x.2.2.2) (fun x : Nat × List Bool × List Nat × List Nat => lv.length - x.1) (0, List.replicate t.cells.length false, [], []) rfl ?_ ?_ ?_
  · exact ⟨Nat.zero_le _, Nat.le_refl _, SprB.nil _⟩
  · refine ⟨rfl, ?_, ?_, ?_, ?_⟩ <;> simp [add_add, bl_zero]
  rintro ⟨i, out, st, wt⟩ ⟨hi, hlen, hI⟩ I hI0
  dsimp only at hi hlen hI
  have hol := hI.len
  have w : IntKind.i64.wrap ((i : Int) + 1) = (i : Int) + 1 := wrapIn (by omega) (by omega)
  refine Tr.seq (Tr.regionK fun K hK => ?_)
  simp (maxSteps := 1000000) [add_add]
  refine hK _ ?_; clear hK K
  refine Tr.seq ?_
  refine Tr.cond rfl rfl (fun hq => ?_) (fun hq => ?_)
  · simp at hq
    obtain ⟨y, hy, hy'⟩ : ∃ y, lv[i]? = some y ∧ lv[i] = y := ⟨lv[i], List.getElem?_eq_getElem hq, rfl⟩
    obtain ⟨hyn, hyl⟩ := hmem y (List.mem_of_getElem? hy)
    obtain ⟨c, hc, hc'⟩ : ∃ c, t.cells[y]? = some c ∧ t.cells[y] = c := ⟨t.cells[y], List.getElem?_eq_getElem hyn, rfl⟩
    have hyb : y < l.length := by omega
    obtain ⟨b, hbq, hbq'⟩ : ∃ b, l[y]? = some b ∧ l[y] = b := ⟨l[y], List.getElem?_eq_getElem hyb, rfl⟩
    have hbb := hbq
    have hbm := hb b (List.mem_of_getElem? hbq)
    have htk : lv.take (i + 1) = lv.take i ++ [y] := by rw [List.take_add_one, hy]; rfl
    have hop : openAt t y = (true && !c.coll) := by rw [openAt_eq hc]; rw [leafAt_eq hc] at hyl; rw [hyl]
    refine Tr.skip ?_
    refine Tr.seq ?_
    refine Tr.block ?_
    refine Tr.seq (Tr.regionK fun K hK => ?_)
    simp (maxSteps := 1000000) [add_add, hy', hq]
    refine hK _ ?_; clear hK K
    refine Tr.seq ?_
    refine Tr.seq (Tr.regionK fun K hK => ?_)
    simp (maxSteps := 1000000) [add_add, hyn, hc']
    refine .inl ⟨_, pcall_isColliding c, rfl, ?_⟩
    simp (maxSteps := 1000000) [add_add]
    refine hK _ ?_; clear hK K
    refine Tr.cond rfl rfl (fun hq1 => ?_) (fun hq1 => ?_)
    · skip
      refine Tr.exit (exit_s (exit_b ?_))
      refine Tr.regionK fun K hK => ?_
      simp (maxSteps := 1000000) [add_add, w]
      refine hK _ ?_; clear hK K
      refine hI0 _ _ (i + 1, out, st, wt) (⟨hq, Nat.le_trans hlen (Nat.le_succ _), by show SprB _ _ _ _ (lv.take (i + 1)) _ _ _; rw [htk]; exact hI.shut (by rw [hop, hq1]; rfl)⟩) (by first | (show _ < _; omega) | (simp; omega)) ⟨rfl, ?_, ?_, ?_, ?_⟩ <;> simp [add_add]
    skip
    refine Tr.skip ?_
    refine Tr.seq (Tr.regionK fun K hK => ?_)
    simp (maxSteps := 1000000) [add_add, hyb, hbq']
    refine .inl ⟨_, pcall_has b p (by rw [hbm]; exact hm), rfl, ?_⟩
    simp (maxSteps := 1000000) [add_add]
    refine hK _ ?_; clear hK K
    refine Tr.cond rfl rfl (fun hq2 => ?_) (fun hq2 => ?_)
    · skip
      refine Tr.seq (Tr.regionK fun K hK => ?_)
      simp (maxSteps := 1000000) [add_add, hol, bl_set, bl_tail, hyn]
      refine hK _ ?_; clear hK K
      refine Tr.regionK fun K hK => ?_
      simp (maxSteps := 1000000) [add_add]
      repeat (first | refine ⟨by omega, ?_⟩ | refine ⟨⟨by omega, by omega⟩, ?_⟩ | refine ⟨rfl, ?_⟩)
      refine hK _ ?_; clear hK K
      refine Tr.regionK fun K hK => ?_
      simp (maxSteps := 1000000) [add_add, w]
      refine hK _ ?_; clear hK K
      refine hI0 _ _ (i + 1, out.set y true, st ++ [y], wt) (⟨hq, by simp; omega, by show SprB _ _ _ _ (lv.take (i + 1)) _ _ _; rw [htk]; exact hI.first hyn (by rw [hop, hq1]; rfl) (by show boxHas _ _ = true; rw [boxAt_eq hbb]; exact hq2)⟩) (by first | (show _ < _; omega) | (simp; omega)) ⟨rfl, ?_, ?_, ?_, ?_⟩ <;> simp [add_add]
    skip
    refine Tr.regionK fun K hK => ?_
    simp (maxSteps := 1000000) [add_add]
    repeat (first | refine ⟨by omega, ?_⟩ | refine ⟨⟨by omega, by omega⟩, ?_⟩ | refine ⟨rfl, ?_⟩)
    refine hK _ ?_; clear hK K
    refine Tr.regionK fun K hK => ?_
    simp (maxSteps := 1000000) [add_add, w]
    refine hK _ ?_; clear hK K
    refine hI0 _ _ (i + 1, out, st, wt ++ [y]) (⟨hq, by simp; omega, by show SprB _ _ _ _ (lv.take (i + 1)) _ _ _; rw [htk]; exact hI.wait hyn (by rw [hop, hq1]; rfl) (by show boxHas _ _ = false; rw [boxAt_eq hbb]; exact hq2)⟩) (by first | (show _ < _; omega) | (simp; omega)) ⟨rfl, ?_, ?_, ?_, ?_⟩ <;> simp [add_add]
  simp at hq
  refine Tr.exit (exit_s (exit_s (exit_b ?_)))
  have hin : i = lv.length := by omega
  subst hin
  rw [List.take_length] at hI
  have hS : Spr _ _ _ _ out st wt := hI.done fun i hi ho => hlv ▸ open_seen hi ho
  refine Tr.seq ?_
  refine Tr.block ?_
  refine Tr.loopP [] [.slot 4, .slot 9, .slot 10, .slot 11] [.slot 4, .slot 9, .slot 10, .slot 11] (fun x : List Bool × List Nat × List Nat × List Nat => ([(2, .d (.imm (boxs l))), (3, .d (.imm (ints p))), (4, .ptr nid 0 0), (9, .own (nid + 1) 1 0 t.cells.length), (10, .own (nid + 2) 1 0 x.2.1.length), (11, .own (nid + 3) 1 0 x.2.2.1.length)],
  [(nid, ⟨25, 2, [[.d (.imm (ivs t.root)), .d (.imm (cels t.cells))]]⟩), (nid + 1, ⟨4, 1, upm boolD x.1⟩), (nid + 2, ⟨3, 1, upm nD (x.2.1 ++ x.2.2.2)⟩), (nid + 3, ⟨3, 1, upm nD x.2.2.1⟩)])) (fun x : List Bool × List Nat × List Nat × List Nat => x.2.1.length + x.2.2.1.length ≤ 2048 ∧ Spr t.cells.length (openAt t) (inV1 l p) (adjV l) x.1 x.2.1 x.2.2.1) (fun x : List Bool × List Nat × List Nat × List Nat => 2 * x.2.2.1.length + x.2.1.length) (out, st, wt, []) rfl ?_ ?_ ?_
  · exact ⟨by dsimp only; omega, hS⟩
  · refine ⟨rfl, ?_, ?_, ?_, ?_⟩ <;> simp [add_add]
  rintro ⟨out, st, wt, tl⟩ ⟨hlen, hI⟩ I hI2
  dsimp only at hlen hI
  have hol := hI.len
  refine Tr.seq ?_
  refine Tr.seq (Tr.regionK fun K hK => ?_)
  simp (maxSteps := 1000000) [add_add]
  refine hK _ ?_; clear hK K
  refine Tr.cond rfl rfl (fun hqs => ?_) (fun hqs => ?_)
  · simp at hqs
    obtain ⟨st1, c, rfl⟩ := split_last (show 0 < st.length by omega)
    simp only [List.length_append, List.length_cons, List.length_nil, Nat.zero_add] at hlen
    have hcm := hI.stack c (by simp)
    have hcn : c < t.cells.length := by have := (List.getElem?_eq_some_iff.1 hcm).1; omega
    have hcb : c < l.length := by omega
    obtain ⟨bx, hbx, hbx'⟩ : ∃ bx, l[c]? = some bx ∧ l[c] = bx := ⟨l[c], List.getElem?_eq_getElem hcb, rfl⟩
    have hbbx := hbx
    have hbxm := hb bx (List.mem_of_getElem? hbx)
    have hle : ((st1.length : Int) ≤ (st1.length : Int) + 1) = True := by simp; omega
    have ws0 : IntKind.i64.wrap (st1.length : Int) = (st1.length : Int) := wrapIn (by omega) (by omega)
    have ws : IntKind.i64.wrap ((st1.length : Int) + 1 - 1) = (st1.length : Int) := by rw [wrapIn (by omega) (by omega)]; omega
    refine Tr.skip ?_
    refine Tr.block ?_
    refine Tr.seq (Tr.regionK fun K hK => ?_)
    simp (maxSteps := 1000000) [add_add, ws0, Int.natCast_add]
    refine hK _ ?_; clear hK K
    refine Tr.seq (Tr.regionK fun K hK => ?_)
    simp (maxSteps := 1000000) [add_add, Int.natCast_add]
    repeat (first | refine ⟨by omega, ?_⟩ | refine ⟨⟨by omega, by omega⟩, ?_⟩ | refine ⟨rfl, ?_⟩)
    refine hK _ ?_; clear hK K
    refine Tr.seq (Tr.regionK fun K hK => ?_)
    simp (maxSteps := 1000000) [add_add, hle, Int.natCast_add]
    refine hK _ ?_; clear hK K
    refine Tr.seq (Tr.regionK fun K hK => ?_)
    simp (maxSteps := 1000000) [add_add]
    refine hK _ ?_; clear hK K
    refine Tr.seq ?_
    refine Tr.seq (Tr.regionK fun K hK => ?_)
    simp (maxSteps := 1000000) [add_add]
    refine hK _ ?_; clear hK K
    refine Tr.block ?_
    refine Tr.loopP [(3, 1)] [.slot 4, .slot 9, .slot 10, .slot 66, .nil 0] [.slot 4, .slot 9, .slot 10, .slot 66, .slot 16] (fun x : Nat × List Bool × List Nat × List Nat × List Nat => ([(2, .d (.imm (boxs l))), (3, .d (.imm (ints p))), (4, .ptr nid 0 0), (9, .own (nid + 1) 1 0 t.cells.length), (10, .own (nid + 2) 1 0 x.2.2.1.length), (15, .i c), (16, .own (nid + 4) 1 0 x.2.2.2.1.length), (66, .own (nid + 3) 1 0 wt.length), (67, .i wt.length), (68, .i x.1)],
    [(nid, ⟨25, 2, [[.d (.imm (ivs t.root)), .d (.imm (cels t.cells))]]⟩), (nid + 1, ⟨4, 1, upm boolD x.2.1⟩), (nid + 2, ⟨3, 1, upm nD (x.2.2.1 ++ x.2.2.2.2)⟩), (nid + 3, ⟨3, 1, upm nD wt⟩), (nid + 4, ⟨3, 1, upm nD x.2.2.2.1⟩)])) (fun x : Nat × List Bool × List Nat × List Nat × List Nat => x.1 ≤ wt.length ∧ x.2.2.1.length + x.2.2.2.1.length = st1.length + x.1 ∧ x.2.2.2.1.length ≤ x.1 ∧ SprIn t.cells.length (openAt t) (inV1 l p) (adjV l) c x.2.1 x.2.2.1 (wt.drop x.1) x.2.2.2.1) (fun x : Nat × List Bool × List Nat × List Nat × List Nat => wt.length - x.1) (0, out, st1, [], c :: tl) rfl ?_ ?_ ?_
    · exact ⟨Nat.zero_le _, rfl, Nat.le_refl _, hI.enter⟩
    · refine ⟨rfl, ?_, ?_, ?_, ?_⟩ <;> simp [add_add, upm_consN]
    rintro ⟨k, out2, st2, kp, tl2⟩ ⟨hk, hlen2, hkp, hJ⟩ I hI4
    dsimp only at hk hlen2 hkp hJ
    have hol2 := hJ.len
    have wk : IntKind.i64.wrap ((k : Int) + 1) = (k : Int) + 1 := wrapIn (by omega) (by omega)
    refine Tr.seq (Tr.regionK fun K hK => ?_)
    simp (maxSteps := 1000000) [add_add]
    refine hK _ ?_; clear hK K
    refine Tr.seq ?_
    refine Tr.cond rfl rfl (fun hqk => ?_) (fun hqk => ?_)
    · simp at hqk
      obtain ⟨y, hy, hy'⟩ : ∃ y, wt[k]? = some y ∧ wt[k] = y := ⟨wt[k], List.getElem?_eq_getElem hqk, rfl⟩
      obtain ⟨hyn, hyo⟩ := hJ.wait y (.inl (by rw [List.drop_eq_getElem_cons hqk, hy']; simp))
      rw [List.drop_eq_getElem_cons hqk, hy'] at hJ
      have hyb : y < l.length := by omega
      obtain ⟨b, hbq, hbq'⟩ : ∃ b, l[y]? = some b ∧ l[y] = b := ⟨l[y], List.getElem?_eq_getElem hyb, rfl⟩
      have hbb := hbq
      have hbm := hb b (List.mem_of_getElem? hbq)
      have hyt := nt_at hy
      refine Tr.skip ?_
      refine Tr.seq ?_
      refine Tr.block ?_
      refine Tr.seq (Tr.regionK fun K hK => ?_)
      simp (maxSteps := 1000000) [add_add, hqk, hyt]
      refine hK _ ?_; clear hK K
      refine Tr.seq (Tr.regionE mixed (by kernel_rfl) fun K hK => ?_)
      simp (maxSteps := 1000000) [add_add, hcb, hbx', hyb, hbq']
      refine .inl ⟨_, pcall_touch bx b (by rw [hbm, hbxm]) (by rw [hbxm]; exact hm), rfl, ?_⟩
      simp (maxSteps := 1000000)
      refine hK _ ?_; clear hK K
      refine Tr.cond rfl rfl (fun hqt => ?_) (fun hqt => ?_)
      · skip
        refine Tr.seq (Tr.regionK fun K hK => ?_)
        simp (maxSteps := 1000000) [add_add, bl_set, bl_tail, bl_set, bl_tail, hol2, bl_set, bl_tail, hyn]
        refine hK _ ?_; clear hK K
        refine Tr.regionK fun K hK => ?_
        simp (maxSteps := 1000000) [add_add]
        repeat (first | refine ⟨by omega, ?_⟩ | refine ⟨⟨by omega, by omega⟩, ?_⟩ | refine ⟨rfl, ?_⟩)
        refine hK _ ?_; clear hK K
        refine Tr.regionK fun K hK => ?_
        simp (maxSteps := 1000000) [add_add, wk]
        refine hK _ ?_; clear hK K
        refine hI4 _ _ (k + 1, out2.set y true, st2 ++ [y], kp, []) (⟨hqk, by simp; omega, by dsimp only; omega, hJ.mark (by show touchB _ _ = true; rw [boxAt_eq hbb, boxAt_eq hbbx]; exact hqt)⟩) (by first | (show _ < _; omega) | (simp; omega)) ⟨rfl, ?_, ?_, ?_, ?_⟩ <;> simp [add_add, Int.natCast_add]
      skip
      refine Tr.regionK fun K hK => ?_
      simp (maxSteps := 1000000) [add_add]
      repeat (first | refine ⟨by omega, ?_⟩ | refine ⟨⟨by omega, by omega⟩, ?_⟩ | refine ⟨rfl, ?_⟩)
      refine hK _ ?_; clear hK K
      refine Tr.regionK fun K hK => ?_
      simp (maxSteps := 1000000) [add_add, wk]
      refine hK _ ?_; clear hK K
      refine hI4 _ _ (k + 1, out2, st2, kp ++ [y], tl2) (⟨hqk, by simp; omega, by simp; omega, hJ.keep (by show touchB _ _ = false; rw [boxAt_eq hbb, boxAt_eq hbbx]; exact hqt)⟩) (by first | (show _ < _; omega) | (simp; omega)) ⟨rfl, ?_, ?_, ?_, ?_⟩ <;> simp [add_add, Int.natCast_add]
    simp at hqk
    refine Tr.exit (exit_s (exit_s (exit_b ?_)))
    have hkn : k = wt.length := by omega
    subst hkn
    rw [List.drop_length] at hJ
    refine Tr.regionK fun K hK => ?_
    simp (maxSteps := 1000000) [add_add]
    refine hK _ ?_; clear hK K
    refine hI2 _ _ (out2, st2, kp, tl2) (⟨by dsimp only; omega, hJ.leave⟩) (by simp; omega) ⟨rfl, ?_, ?_, ?_, ?_⟩ <;> simp [add_add]
  simp at hqs
  refine Tr.exit (exit_s (exit_s (exit_b ?_)))
  have hst0 : st = [] := by first | exact hqs | exact List.length_eq_zero_iff.1 (by omega)
  subst hst0
  have hf : out = spreadV t l p := hI.done
  refine Tr.freezeM (nid + 1) boolD out [(9, .d (.imm (bools out)))] [] (ty := 4) (sz := 1) ?_ ?_ ?_ ?_ ?_
  · simp
  · simp
  · simp [← hol]
  · simp
  refine Tr.seq (Tr.regionK fun K hK => ?_)
  simp (maxSteps := 1000000) [add_add]
  refine hK _ ?_; clear hK K
  refine Tr.ret ⟨.inr rfl, ?_, ?_, ?_, ?_⟩ <;> simp [Try.f75, hf]
end Go.Proofs.Ytmljpbhmdjpbaaa
namespace Go.Proofs.Ytmljpbhmdjpbaaa
set_option linter.unusedVariables false
set_option linter.unusedSimpArgs false
open Go.PM

theorem pcall_ctLeavesN (t : Tree) (l : List (List Iv)) (hl : boxesT t = some l) : PCall Try.prog 61 [treeP t] (.d (.imm (nats (lvn t)))) := by
  rw [← ints_lvs]; exact pcall_ctLeaves t l hl
set_option maxRecDepth 8000 in
set_option maxHeartbeats 4000000 in
theorem hcall_indexI (g : Nat) (p : Nat → Bool) (l : List Nat) (i j k : Nat) (a b c : List (List DV)) (hl : l.length ≤ 1048576) (hij : i ≠ j) (hik : i ≠ k) (hjk : j ≠ k) (hg : ∀ x ∈ l, HCall Try.prog g [.i x, .ptr i 0 0, .ptr j 0 0, .ptr k 0 0] [(i, ⟨59, 1, [[.d (.imm a)]]⟩), (j, ⟨54, 1, [[.d (.imm b)]]⟩), (k, ⟨35, 1, [[.d (.imm c)]]⟩)] [] (fun _ => .b (p x)) [(i, ⟨59, 1, [[.d (.imm a)]]⟩), (j, ⟨54, 1, [[.d (.imm b)]]⟩), (k, ⟨35, 1, [[.d (.imm c)]]⟩)] []) :
    HCall Try.prog 145 [.d (.imm (nats l)), .fn (.func g) [] [.ptr i 0 0, .ptr j 0 0, .ptr k 0 0]] [(i, ⟨59, 1, [[.d (.imm a)]]⟩), (j, ⟨54, 1, [[.d (.imm b)]]⟩), (k, ⟨35, 1, [[.d (.imm c)]]⟩)] [] (fun _ => .i (idxI p l)) [(i, ⟨59, 1, [[.d (.imm a)]]⟩), (j, ⟨54, 1, [[.d (.imm b)]]⟩), (k, ⟨35, 1, [[.d (.imm c)]]⟩)] [] := by
  refine walk Try.func145 (by kernel_rfl) rfl 19 rfl (Nat.le_of_ble_eq_true rfl) fun nid hid => ?_
  have h_i : i < nid := hid _ (List.mem_cons_self ..)
  have ni1 : ∀ z, (i = nid + z) = False := fun z => by simp; omega
  have ni2 : ∀ z, (nid + z = i) = False := fun z => by simp; omega
  have ni3 : (i = nid) = False := by simp; omega
  have ni4 : (nid = i) = False := by simp; omega
  have h_j : j < nid := hid _ (List.mem_cons_of_mem _ (List.mem_cons_self ..))
  have nj1 : ∀ z, (j = nid + z) = False := fun z => by simp; omega
  have nj2 : ∀ z, (nid + z = j) = False := fun z => by simp; omega
  have nj3 : (j = nid) = False := by simp; omega
  have nj4 : (nid = j) = False := by simp; omega
  have h_k : k < nid := hid _ (List.mem_cons_of_mem _ (List.mem_cons_of_mem _ (List.mem_cons_self ..)))
  have nk1 : ∀ z, (k = nid + z) = False := fun z => by simp; omega
  have nk2 : ∀ z, (nid + z = k) = False := fun z => by simp; omega
  have nk3 : (k = nid) = False := by simp; omega
  have nk4 : (nid = k) = False := by simp; omega
  refine Tr.seq (Tr.regionK fun K hK => ?_)
  simp (maxSteps := 1000000)
  refine hK _ ?_; clear hK K
  refine Tr.seq ?_
  refine Tr.seq (Tr.regionK fun K hK => ?_)
  simp (maxSteps := 1000000) [add_add]
  refine hK _ ?_; clear hK K
  refine Tr.block ?_
  refine Tr.loopP [] [] [] (fun m : Nat => ([(0, .d (.imm (nats l))), (1, .fn (.func g) [] [.ptr i 0 0, .ptr j 0 0, .ptr k 0 0]), (7, .i l.length), (8, .i m)],
  [(i, ⟨59, 1, [[.d (.imm a)]]⟩), (j, ⟨54, 1, [[.d (.imm b)]]⟩), (k, ⟨35, 1, [[.d (.imm c)]]⟩)])) (fun m : Nat => m ≤ l.length ∧ (l.take m).any p = false) (fun m : Nat => l.length - m) 0 rfl ?_ ?_ ?_
  · exact ⟨by simp, by simp⟩
  · refine ⟨rfl, ?_, ?_, ?_, ?_⟩ <;> simp [add_add, h_i, h_j, h_k, hij, hik, hjk]
  rintro m ⟨hi, hall⟩ I hI0
  have w : IntKind.i64.wrap ((m : Int) + 1) = (m : Int) + 1 := wrapIn (by omega) (by omega)
  refine Tr.seq (Tr.regionK fun K hK => ?_)
  simp (maxSteps := 1000000)
  refine hK _ ?_; clear hK K
  refine Tr.seq ?_
  refine Tr.cond rfl rfl (fun hq => ?_) (fun hq => ?_)
  · simp at hq
    obtain ⟨x, hx, hx'⟩ : ∃ x, l[m]? = some x ∧ l[m] = x := ⟨l[m], List.getElem?_eq_getElem hq, rfl⟩
    refine Tr.skip ?_
    refine Tr.seq ?_
    refine Tr.block ?_
    refine Tr.seq (Tr.regionK fun K hK => ?_)
    simp (maxSteps := 1000000) [add_add, hq]
    refine hK _ ?_; clear hK K
    rcases Bool.eq_false_or_eq_true (p x) with s4_0 | s4_0
    · have s4_0' := s4_0
      have hf : idxI p l = m := idxI_at hall hx s4_0
      refine Tr.seq (Tr.regionK fun K hK => ?_)
      simp (maxSteps := 1000000) [add_add, hx', hq]
      refine .inr ⟨[(i, ⟨59, 1, [[.d (.imm a)]]⟩), (j, ⟨54, 1, [[.d (.imm b)]]⟩), (k, ⟨35, 1, [[.d (.imm c)]]⟩)], [], fun _ => .b (p x), [(i, ⟨59, 1, [[.d (.imm a)]]⟩), (j, ⟨54, 1, [[.d (.imm b)]]⟩), (k, ⟨35, 1, [[.d (.imm c)]]⟩)], [], ⟨hg x (List.mem_of_getElem? hx), by first | (simp [hij, hik, hjk]; done) | (simp [h_i, ni1, ni2, ni3, ni4, h_j, nj1, nj2, nj3, nj4, h_k, nk1, nk2, nk3, nk4, hij, hik, hjk, Ne.symm hij, Ne.symm hik, Ne.symm hjk]; omega), by first | (simp [h_i, h_j, h_k]; done) | (simp [h_i, ni1, ni2, ni3, ni4, h_j, nj1, nj2, nj3, nj4, h_k, nk1, nk2, nk3, nk4, hij, hik, hjk, Ne.symm hij, Ne.symm hik, Ne.symm hjk]; omega), by first | (simp; done) | (simp [h_i, ni1, ni2, ni3, ni4, h_j, nj1, nj2, nj3, nj4, h_k, nk1, nk2, nk3, nk4, hij, hik, hjk, Ne.symm hij, Ne.symm hik, Ne.symm hjk]; omega), by first | (simp [hij, hik, hjk]; done) | (simp [h_i, ni1, ni2, ni3, ni4, h_j, nj1, nj2, nj3, nj4, h_k, nk1, nk2, nk3, nk4, hij, hik, hjk, Ne.symm hij, Ne.symm hik, Ne.symm hjk]; omega), by first | (simp; done) | (simp [h_i, ni1, ni2, ni3, ni4, h_j, nj1, nj2, nj3, nj4, h_k, nk1, nk2, nk3, nk4, hij, hik, hjk, Ne.symm hij, Ne.symm hik, Ne.symm hjk]; omega), by first | (simp [hij, hik, hjk]; done) | (simp [h_i, ni1, ni2, ni3, ni4, h_j, nj1, nj2, nj3, nj4, h_k, nk1, nk2, nk3, nk4, hij, hik, hjk, Ne.symm hij, Ne.symm hik, Ne.symm hjk]; omega), by first | (simp; done) | (simp [h_i, ni1, ni2, ni3, ni4, h_j, nj1, nj2, nj3, nj4, h_k, nk1, nk2, nk3, nk4, hij, hik, hjk, Ne.symm hij, Ne.symm hik, Ne.symm hjk]; omega), by first | (simp; done) | (simp [h_i, ni1, ni2, ni3, ni4, h_j, nj1, nj2, nj3, nj4, h_k, nk1, nk2, nk3, nk4, hij, hik, hjk, Ne.symm hij, Ne.symm hik, Ne.symm hjk]; omega)⟩, ?_⟩
      simp (maxSteps := 1000000) [add_add, s4_0]
      refine hK _ ?_; clear hK K
      refine Tr.cond rfl rfl (fun hq1 => ?_) (fun hq1 => by first | (cases hq1; done) | (simp at hq1; done) | (simp_all; done))
      refine Tr.seq (Tr.regionK fun K hK => ?_)
      simp (maxSteps := 1000000) [add_add]
      refine hK _ ?_; clear hK K
      refine Tr.ret ⟨.inr rfl, ?_, ?_, ?_, ?_⟩ <;> simp [Try.f145, h_i, h_j, h_k, hij, hik, hjk, hf]
    refine Tr.seq (Tr.regionK fun K hK => ?_)
    simp (maxSteps := 1000000) [add_add, hx', hq]
    refine .inr ⟨[(i, ⟨59, 1, [[.d (.imm a)]]⟩), (j, ⟨54, 1, [[.d (.imm b)]]⟩), (k, ⟨35, 1, [[.d (.imm c)]]⟩)], [], fun _ => .b (p x), [(i, ⟨59, 1, [[.d (.imm a)]]⟩), (j, ⟨54, 1, [[.d (.imm b)]]⟩), (k, ⟨35, 1, [[.d (.imm c)]]⟩)], [], ⟨hg x (List.mem_of_getElem? hx), by first | (simp [hij, hik, hjk]; done) | (simp [h_i, ni1, ni2, ni3, ni4, h_j, nj1, nj2, nj3, nj4, h_k, nk1, nk2, nk3, nk4, hij, hik, hjk, Ne.symm hij, Ne.symm hik, Ne.symm hjk]; omega), by first | (simp [h_i, h_j, h_k]; done) | (simp [h_i, ni1, ni2, ni3, ni4, h_j, nj1, nj2, nj3, nj4, h_k, nk1, nk2, nk3, nk4, hij, hik, hjk, Ne.symm hij, Ne.symm hik, Ne.symm hjk]; omega), by first | (simp; done) | (simp [h_i, ni1, ni2, ni3, ni4, h_j, nj1, nj2, nj3, nj4, h_k, nk1, nk2, nk3, nk4, hij, hik, hjk, Ne.symm hij, Ne.symm hik, Ne.symm hjk]; omega), by first | (simp [hij, hik, hjk]; done) | (simp [h_i, ni1, ni2, ni3, ni4, h_j, nj1, nj2, nj3, nj4, h_k, nk1, nk2, nk3, nk4, hij, hik, hjk, Ne.symm hij, Ne.symm hik, Ne.symm hjk]; omega), by first | (simp; done) | (simp [h_i, ni1, ni2, ni3, ni4, h_j, nj1, nj2, nj3, nj4, h_k, nk1, nk2, nk3, nk4, hij, hik, hjk, Ne.symm hij, Ne.symm hik, Ne.symm hjk]; omega), by first | (simp [hij, hik, hjk]; done) | (simp [h_i, ni1, ni2, ni3, ni4, h_j, nj1, nj2, nj3, nj4, h_k, nk1, nk2, nk3, nk4, hij, hik, hjk, Ne.symm hij, Ne.symm hik, Ne.symm hjk]; omega), by first | (simp; done) | (simp [h_i, ni1, ni2, ni3, ni4, h_j, nj1, nj2, nj3, nj4, h_k, nk1, nk2, nk3, nk4, hij, hik, hjk, Ne.symm hij, Ne.symm hik, Ne.symm hjk]; omega), by first | (simp; done) | (simp [h_i, ni1, ni2, ni3, ni4, h_j, nj1, nj2, nj3, nj4, h_k, nk1, nk2, nk3, nk4, hij, hik, hjk, Ne.symm hij, Ne.symm hik, Ne.symm hjk]; omega)⟩, ?_⟩
    simp (maxSteps := 1000000) [add_add, s4_0]
    refine hK _ ?_; clear hK K
    refine Tr.cond rfl rfl (fun hq2 => by first | (cases hq2; done) | (simp at hq2; done) | (simp_all; done)) (fun hq2 => ?_)
    refine Tr.skip ?_
    refine Tr.regionK fun K hK => ?_
    simp (maxSteps := 1000000) [add_add, w]
    refine hK _ ?_; clear hK K
    refine hI0 _ _ (m + 1) (⟨hq, any_take hall hx s4_0⟩) (by first | (show _ < _; omega) | (simp; omega)) ⟨rfl, ?_, ?_, ?_, ?_⟩ <;> simp [add_add, h_i, h_j, h_k, hij, hik, hjk]
  simp at hq
  refine Tr.exit (exit_s (exit_s (exit_b ?_)))
  have hf : idxI p l = -1 := by unfold idxI; rw [any_done hall (by omega)]; rfl
  refine Tr.seq (Tr.regionK fun K hK => ?_)
  simp (maxSteps := 1000000) [add_add]
  refine hK _ ?_; clear hK K
  refine Tr.ret ⟨.inr rfl, ?_, ?_, ?_, ?_⟩ <;> simp [Try.f145, hij, hik, hjk, hf]
set_option maxRecDepth 8000 in
set_option maxHeartbeats 4000000 in
theorem hcall_containsI (g : Nat) (p : Nat → Bool) (l : List Nat) (i j k : Nat) (a b c : List (List DV)) (hl : l.length ≤ 1048576) (hij : i ≠ j) (hik : i ≠ k) (hjk : j ≠ k) (hg : ∀ x ∈ l, HCall Try.prog g [.i x, .ptr i 0 0, .ptr j 0 0, .ptr k 0 0] [(i, ⟨59, 1, [[.d (.imm a)]]⟩), (j, ⟨54, 1, [[.d (.imm b)]]⟩), (k, ⟨35, 1, [[.d (.imm c)]]⟩)] [] (fun _ => .b (p x)) [(i, ⟨59, 1, [[.d (.imm a)]]⟩), (j, ⟨54, 1, [[.d (.imm b)]]⟩), (k, ⟨35, 1, [[.d (.imm c)]]⟩)] []) :
    HCall Try.prog 117 [.d (.imm (nats l)), .fn (.func g) [] [.ptr i 0 0, .ptr j 0 0, .ptr k 0 0]] [(i, ⟨59, 1, [[.d (.imm a)]]⟩), (j, ⟨54, 1, [[.d (.imm b)]]⟩), (k, ⟨35, 1, [[.d (.imm c)]]⟩)] [] (fun _ => .b (l.any p)) [(i, ⟨59, 1, [[.d (.imm a)]]⟩), (j, ⟨54, 1, [[.d (.imm b)]]⟩), (k, ⟨35, 1, [[.d (.imm c)]]⟩)] [] := by
  refine walk Try.func117 (by kernel_rfl) rfl 9 rfl (Nat.le_of_ble_eq_true rfl) fun nid hid => ?_
  have h_i : i < nid := hid _ (List.mem_cons_self ..)
  have ni1 : ∀ z, (i = nid + z) = False := fun z => by simp; omega
  have ni2 : ∀ z, (nid + z = i) = False := fun z => by simp; omega
  have ni3 : (i = nid) = False := by simp; omega
  have ni4 : (nid = i) = False := by simp; omega
  have h_j : j < nid := hid _ (List.mem_cons_of_mem _ (List.mem_cons_self ..))
  have nj1 : ∀ z, (j = nid + z) = False := fun z => by simp; omega
  have nj2 : ∀ z, (nid + z = j) = False := fun z => by simp; omega
  have nj3 : (j = nid) = False := by simp; omega
  have nj4 : (nid = j) = False := by simp; omega
  have h_k : k < nid := hid _ (List.mem_cons_of_mem _ (List.mem_cons_of_mem _ (List.mem_cons_self ..)))
  have nk1 : ∀ z, (k = nid + z) = False := fun z => by simp; omega
  have nk2 : ∀ z, (nid + z = k) = False := fun z => by simp; omega
  have nk3 : (k = nid) = False := by simp; omega
  have nk4 : (nid = k) = False := by simp; omega
  refine Tr.seq (Tr.regionK fun K hK => ?_)
  simp (maxSteps := 1000000)
  refine hK _ ?_; clear hK K
  refine Tr.seq (Tr.regionK fun K hK => ?_)
  simp (maxSteps := 1000000) [add_add]
  refine .inr ⟨[(i, ⟨59, 1, [[.d (.imm a)]]⟩), (j, ⟨54, 1, [[.d (.imm b)]]⟩), (k, ⟨35, 1, [[.d (.imm c)]]⟩)], [], fun _ => .i (idxI p l), [(i, ⟨59, 1, [[.d (.imm a)]]⟩), (j, ⟨54, 1, [[.d (.imm b)]]⟩), (k, ⟨35, 1, [[.d (.imm c)]]⟩)], [], ⟨hcall_indexI g p l i j k a b c hl hij hik hjk hg, by first | (simp [hij, hik, hjk]; done) | (simp [h_i, ni1, ni2, ni3, ni4, h_j, nj1, nj2, nj3, nj4, h_k, nk1, nk2, nk3, nk4, hij, hik, hjk, Ne.symm hij, Ne.symm hik, Ne.symm hjk]; omega), by first | (simp [h_i, h_j, h_k]; done) | (simp [h_i, ni1, ni2, ni3, ni4, h_j, nj1, nj2, nj3, nj4, h_k, nk1, nk2, nk3, nk4, hij, hik, hjk, Ne.symm hij, Ne.symm hik, Ne.symm hjk]; omega), by first | (simp; done) | (simp [h_i, ni1, ni2, ni3, ni4, h_j, nj1, nj2, nj3, nj4, h_k, nk1, nk2, nk3, nk4, hij, hik, hjk, Ne.symm hij, Ne.symm hik, Ne.symm hjk]; omega), by first | (simp [hij, hik, hjk]; done) | (simp [h_i, ni1, ni2, ni3, ni4, h_j, nj1, nj2, nj3, nj4, h_k, nk1, nk2, nk3, nk4, hij, hik, hjk, Ne.symm hij, Ne.symm hik, Ne.symm hjk]; omega), by first | (simp; done) | (simp [h_i, ni1, ni2, ni3, ni4, h_j, nj1, nj2, nj3, nj4, h_k, nk1, nk2, nk3, nk4, hij, hik, hjk, Ne.symm hij, Ne.symm hik, Ne.symm hjk]; omega), by first | (simp [hij, hik, hjk]; done) | (simp [h_i, ni1, ni2, ni3, ni4, h_j, nj1, nj2, nj3, nj4, h_k, nk1, nk2, nk3, nk4, hij, hik, hjk, Ne.symm hij, Ne.symm hik, Ne.symm hjk]; omega), by first | (simp; done) | (simp [h_i, ni1, ni2, ni3, ni4, h_j, nj1, nj2, nj3, nj4, h_k, nk1, nk2, nk3, nk4, hij, hik, hjk, Ne.symm hij, Ne.symm hik, Ne.symm hjk]; omega), by first | (simp; done) | (simp [h_i, ni1, ni2, ni3, ni4, h_j, nj1, nj2, nj3, nj4, h_k, nk1, nk2, nk3, nk4, hij, hik, hjk, Ne.symm hij, Ne.symm hik, Ne.symm hjk]; omega)⟩, ?_⟩
  simp (maxSteps := 1000000) [add_add]
  refine hK _ ?_; clear hK K
  refine Tr.ret ⟨.inr rfl, ?_, ?_, ?_, ?_⟩ <;> simp [Try.f117, h_i, h_j, h_k, hij, hik, hjk, idxI_nonneg]
set_option maxRecDepth 8000 in
set_option maxHeartbeats 4000000 in
theorem hcall_apart1 (x : Nat) (rc : List Bool) (l : List (List Iv)) (q : List Int) (i j k : Nat) (h1 : x < rc.length) (h2 : x < l.length) (hb : (boxAt l x).length ≤ 1048576) (hij : i ≠ j) (hik : i ≠ k) (hjk : j ≠ k) :
    HCall Try.prog 118 [.i x, .ptr i 0 0, .ptr j 0 0, .ptr k 0 0] [(i, ⟨59, 1, [[.d (.imm (bools rc))]]⟩), (j, ⟨54, 1, [[.d (.imm (boxs l))]]⟩), (k, ⟨35, 1, [[.d (.imm (ints q))]]⟩)] [] (fun _ => .b (rc.getD x false && boxHas (boxAt l x) q)) [(i, ⟨59, 1, [[.d (.imm (bools rc))]]⟩), (j, ⟨54, 1, [[.d (.imm (boxs l))]]⟩), (k, ⟨35, 1, [[.d (.imm (ints q))]]⟩)] [] := by
  obtain ⟨rx, hrx, hrx'⟩ : ∃ rx, rc[x]? = some rx ∧ rc[x] = rx := ⟨rc[x], List.getElem?_eq_getElem h1, rfl⟩
  obtain ⟨bx, hbx, hbx'⟩ : ∃ bx, l[x]? = some bx ∧ l[x] = bx := ⟨l[x], List.getElem?_eq_getElem h2, rfl⟩
  have e1 : rc.getD x false = rx := by rw [List.getD_eq_getElem?_getD, hrx]; rfl
  rw [e1, boxAt_eq hbx]
  rw [boxAt_eq hbx] at hb
  refine walk Try.func118 (by kernel_rfl) rfl 18 rfl (Nat.le_of_ble_eq_true rfl) fun nid hid => ?_
  have h_i : i < nid := hid _ (List.mem_cons_self ..)
  have ni1 : ∀ z, (i = nid + z) = False := fun z => by simp; omega
  have ni2 : ∀ z, (nid + z = i) = False := fun z => by simp; omega
  have ni3 : (i = nid) = False := by simp; omega
  have ni4 : (nid = i) = False := by simp; omega
  have h_j : j < nid := hid _ (List.mem_cons_of_mem _ (List.mem_cons_self ..))
  have nj1 : ∀ z, (j = nid + z) = False := fun z => by simp; omega
  have nj2 : ∀ z, (nid + z = j) = False := fun z => by simp; omega
  have nj3 : (j = nid) = False := by simp; omega
  have nj4 : (nid = j) = False := by simp; omega
  have h_k : k < nid := hid _ (List.mem_cons_of_mem _ (List.mem_cons_of_mem _ (List.mem_cons_self ..)))
  have nk1 : ∀ z, (k = nid + z) = False := fun z => by simp; omega
  have nk2 : ∀ z, (nid + z = k) = False := fun z => by simp; omega
  have nk3 : (k = nid) = False := by simp; omega
  have nk4 : (nid = k) = False := by simp; omega
  refine Tr.seq (Tr.regionK fun K hK => ?_)
  simp (maxSteps := 1000000)
  refine hK _ ?_; clear hK K
  rcases Bool.eq_false_or_eq_true (rx) with s1_0 | s1_0
  · have s1_0' := s1_0
    refine Tr.seq (Tr.regionE mixed (by kernel_rfl) fun K hK => ?_)
    simp (maxSteps := 1000000) [h1, h2, hrx', hbx', hij, hik, hjk, s1_0]
    refine .inl ⟨_, pcall_has bx q hb, rfl, ?_⟩
    simp (maxSteps := 1000000)
    refine hK _ ?_; clear hK K
    refine Tr.ret ⟨.inr rfl, ?_, ?_, ?_, ?_⟩ <;> simp [Try.f118, hij, hik, hjk, s1_0]
  refine Tr.seq (Tr.regionE mixed (by kernel_rfl) fun K hK => ?_)
  simp (maxSteps := 1000000) [h1, hrx', s1_0]
  refine hK _ ?_; clear hK K
  refine Tr.ret ⟨.inr rfl, ?_, ?_, ?_, ?_⟩ <;> simp [Try.f118, hij, hik, hjk, s1_0]
def apartV (t : Tree) (l : List (List Iv)) (p q : List Int) : Bool := !((lvn t).any fun x => (spreadV t l p).getD x false && boxHas (boxAt l x) q)
theorem boxAt_len {l : List (List Iv)} {m x : Nat} (hb : ∀ b ∈ l, b.length = m) (hm : m ≤ 1048576) : (boxAt l x).length ≤ 1048576 := by
  unfold boxAt
  rw [List.getD_eq_getElem?_getD]
  cases h : l[x]? with
  | none => simp
  | some b => simp [hb b (List.mem_of_getElem? h), hm]
theorem lvn_len (t : Tree) : (lvn t).length ≤ t.cells.length := by unfold lvn; exact Nat.le_trans (List.length_filter_le _ _) (by simp)
abbrev row3 (t : Tree) (l : List (List Iv)) (p q : List Int) (i j k : Nat) : PM.Rows := [(i, ⟨59, 1, [[.d (.imm (bools (spreadV t l p)))]]⟩), (j, ⟨54, 1, [[.d (.imm (boxs l))]]⟩), (k, ⟨35, 1, [[.d (.imm (ints q))]]⟩)]
theorem hcall_containsA (t : Tree) (l : List (List Iv)) (p q : List Int) (m i j k : Nat) (hl : l.length = t.cells.length) (hn : t.cells.length ≤ 2048) (hm : m ≤ 1048576) (hb : ∀ b ∈ l, b.length = m) (hij : i ≠ j) (hik : i ≠ k) (hjk : j ≠ k) :
    HCall Try.prog 117 [.d (.imm (nats (lvn t))), .fn (.func 118) [] [.ptr i 0 0, .ptr j 0 0, .ptr k 0 0]] (row3 t l p q i j k) [] (fun _ => .b ((lvn t).any fun x => (spreadV t l p).getD x false && boxHas (boxAt l x) q)) (row3 t l p q i j k) [] := by
  refine hcall_containsI 118 (fun x => (spreadV t l p).getD x false && boxHas (boxAt l x) q) (lvn t) i j k _ _ _ (by have := lvn_len t; omega) hij hik hjk fun x hx => ?_
  obtain ⟨h1, _⟩ := lvn_mem.1 hx
  exact hcall_apart1 x (spreadV t l p) l q i j k (by rw [spreadV_length]; exact h1) (by omega) (boxAt_len hb hm) hij hik hjk
set_option maxRecDepth 8000 in
set_option maxHeartbeats 4000000 in
theorem pcall_apart (t : Tree) (l : List (List Iv)) (p q : List Int) (m : Nat) (hl : l.length = t.cells.length) (hn : t.cells.length ≤ 2048) (hm : m ≤ 1048576) (hb : ∀ b ∈ l, b.length = m) :
    PCall Try.prog 60 [treeP t, .d (.imm (nats (lvn t))), .d (.imm (boxs l)), .d (.imm (ints p)), .d (.imm (ints q))] (.b (apartV t l p q)) := by
  refine walk Try.func60 (by kernel_rfl) rfl 21 rfl (Nat.le_of_ble_eq_true rfl) fun nid _ => ?_
  refine Tr.seq (Tr.regionK fun K hK => ?_)
  simp (maxSteps := 1000000) [add_add]
  refine hK _ ?_; clear hK K
  refine Tr.seq (Tr.regionK fun K hK => ?_)
  simp (maxSteps := 1000000) [add_add]
  refine .inl ⟨_, pcall_spread t l p m hl hn hm hb, rfl, ?_⟩
  simp (maxSteps := 1000000) [add_add]
  refine hK _ ?_; clear hK K
  refine Tr.seq (Tr.regionK fun K hK => ?_)
  simp (maxSteps := 1000000) [add_add]
  refine .inr ⟨[(nid + 36, ⟨59, 1, [[.d (.imm (bools (spreadV t l p)))]]⟩), (nid + 4, ⟨54, 1, [[.d (.imm (boxs l))]]⟩), (nid + 8, ⟨35, 1, [[.d (.imm (ints q))]]⟩)], [], fun _ => .b ((lvn t).any fun x => (spreadV t l p).getD x false && boxHas (boxAt l x) q), [(nid + 36, ⟨59, 1, [[.d (.imm (bools (spreadV t l p)))]]⟩), (nid + 4, ⟨54, 1, [[.d (.imm (boxs l))]]⟩), (nid + 8, ⟨35, 1, [[.d (.imm (ints q))]]⟩)], [], ⟨hcall_containsA t l p q m (nid + 36) (nid + 4) (nid + 8) hl hn hm hb (by omega) (by omega) (by omega), by first | (simp; done) | (simp; omega), by first | (simp; done) | (simp; omega), by first | (simp; done) | (simp; omega), by first | (simp; done) | (simp; omega), by first | (simp; done) | (simp; omega), by first | (simp; done) | (simp; omega), by first | (simp; done) | (simp; omega), by first | (simp; done) | (simp; omega)⟩, ?_⟩
  simp (maxSteps := 1000000) [add_add]
  refine hK _ ?_; clear hK K
  refine Tr.ret ⟨.inr rfl, ?_, ?_, ?_, ?_⟩ <;> simp [Try.f60, apartV]
def floodT (t : Tree) (p : List Int) : Option (List Bool) := (boxesT t).bind fun l => if boxHas t.root p = true then some (spreadV t l p) else none
def floodP : Option (List Bool) → PV
  | none => nilP
  | some f => .d (.imm (bools f))
def sepT (t : Tree) (p q : List Int) : Bool := match boxesT t with
  | none => false
  | some l => boxHas t.root p && (boxHas t.root q && apartV t l p q)
set_option maxRecDepth 8000 in
set_option maxHeartbeats 4000000 in
theorem pcall_flood (t : Tree) (p : List Int) (hr : t.root.length ≤ 1048576) :
    PCall Try.prog 27 [treeP t, .d (.imm (ints p))] (floodP (floodT t p)) := by
  refine walk Try.func27 (by kernel_rfl) rfl 22 rfl (Nat.le_of_ble_eq_true rfl) fun nid _ => ?_
  refine Tr.seq (Tr.regionK fun K hK => ?_)
  simp (maxSteps := 1000000) [add_add]
  refine hK _ ?_; clear hK K
  refine Tr.seq ?_
  rcases Bool.eq_false_or_eq_true ((boxesT t).isSome) with s1_0 | s1_0
  · have s1_0' := s1_0
    rcases Bool.eq_false_or_eq_true (boxHas t.root p) with s1_1 | s1_1
    · have s1_1' := s1_1
      obtain ⟨l, hh⟩ := Option.isSome_iff_exists.1 s1_0
      have hf : floodT t p = some (spreadV t l p) := by unfold floodT; rw [hh]; simp [s1_1]
      have hll := boxesT_length hh
      have hcl := cells_len hh
      have hrl := root_len hh
      have hbl : ∀ b ∈ l, b.length = t.root.length := fun b hb => by obtain ⟨k, hk⟩ := List.mem_iff_getElem?.1 hb; exact boxes_len hh hk
      refine Tr.seq (Tr.regionK fun K hK => ?_)
      simp (maxSteps := 1000000) [add_add]
      refine .inl ⟨_, pcall_ctValid t hr, rfl, ?_⟩
      simp (maxSteps := 1000000) [add_add, s1_0]
      refine .inl ⟨_, pcall_has t.root p hr, rfl, ?_⟩
      simp (maxSteps := 1000000) [add_add, s1_1]
      refine hK _ ?_; clear hK K
      refine Tr.cond rfl rfl (fun hq0 => by first | (cases hq0; done) | (simp at hq0; done) | (simp_all; done)) (fun hq0 => ?_)
      refine Tr.skip ?_
      refine Tr.seq (Tr.regionE mixed (by kernel_rfl) fun K hK => ?_)
      simp (maxSteps := 1000000) [add_add]
      refine .inl ⟨_, pcall_ctLeavesN t l hh, rfl, ?_⟩
      simp (maxSteps := 1000000)
      refine .inl ⟨_, pcall_cutBoxes t l hh, rfl, ?_⟩
      simp (maxSteps := 1000000)
      refine .inl ⟨_, pcall_spread t l p t.root.length hll hcl hr hbl, rfl, ?_⟩
      simp (maxSteps := 1000000)
      refine hK _ ?_; clear hK K
      refine Tr.ret ⟨.inr rfl, ?_, ?_, ?_, ?_⟩ <;> simp [Try.f27, hf, floodP]
    obtain ⟨l, hh⟩ := Option.isSome_iff_exists.1 s1_0
    have hf : floodT t p = none := by unfold floodT; rw [hh]; simp [s1_1]
    refine Tr.seq (Tr.regionK fun K hK => ?_)
    simp (maxSteps := 1000000) [add_add]
    refine .inl ⟨_, pcall_ctValid t hr, rfl, ?_⟩
    simp (maxSteps := 1000000) [add_add, s1_0]
    refine .inl ⟨_, pcall_has t.root p hr, rfl, ?_⟩
    simp (maxSteps := 1000000) [add_add, s1_1]
    refine hK _ ?_; clear hK K
    refine Tr.cond rfl rfl (fun hq1 => ?_) (fun hq1 => by first | (cases hq1; done) | (simp at hq1; done) | (simp_all; done))
    refine Tr.seq (Tr.regionK fun K hK => ?_)
    simp (maxSteps := 1000000) [add_add]
    refine hK _ ?_; clear hK K
    refine Tr.ret ⟨.inr rfl, ?_, ?_, ?_, ?_⟩ <;> simp [Try.f27, hf, floodP]
  have hf : floodT t p = none := by unfold floodT; rw [show boxesT t = none by simpa using s1_0]; rfl
  refine Tr.seq (Tr.regionK fun K hK => ?_)
  simp (maxSteps := 1000000) [add_add]
  refine .inl ⟨_, pcall_ctValid t hr, rfl, ?_⟩
  simp (maxSteps := 1000000) [add_add, s1_0]
  refine hK _ ?_; clear hK K
  refine Tr.cond rfl rfl (fun hq2 => ?_) (fun hq2 => by first | (cases hq2; done) | (simp at hq2; done) | (simp_all; done))
  refine Tr.seq (Tr.regionK fun K hK => ?_)
  simp (maxSteps := 1000000) [add_add]
  refine hK _ ?_; clear hK K
  refine Tr.ret ⟨.inr rfl, ?_, ?_, ?_, ?_⟩ <;> simp [Try.f27, hf, floodP]
set_option maxRecDepth 8000 in
set_option maxHeartbeats 4000000 in
theorem pcall_separates (t : Tree) (p q : List Int) (hr : t.root.length ≤ 1048576) :
    PCall Try.prog 21 [treeP t, .d (.imm (ints p)), .d (.imm (ints q))] (.b (sepT t p q)) := by
  refine walk Try.func21 (by kernel_rfl) rfl 32 rfl (Nat.le_of_ble_eq_true rfl) fun nid _ => ?_
  refine Tr.seq (Tr.regionK fun K hK => ?_)
  simp (maxSteps := 1000000) [add_add]
  refine hK _ ?_; clear hK K
  refine Tr.seq ?_
  rcases Bool.eq_false_or_eq_true ((boxesT t).isSome) with s1_0 | s1_0
  · have s1_0' := s1_0
    rcases Bool.eq_false_or_eq_true (boxHas t.root p) with s1_1 | s1_1
    · have s1_1' := s1_1
      rcases Bool.eq_false_or_eq_true (boxHas t.root q) with s1_2 | s1_2
      · have s1_2' := s1_2
        obtain ⟨l, hh⟩ := Option.isSome_iff_exists.1 s1_0
        have hf : sepT t p q = apartV t l p q := by unfold sepT; rw [hh]; simp [s1_1, s1_2]
        have hll := boxesT_length hh
        have hcl := cells_len hh
        have hrl := root_len hh
        have hbl : ∀ b ∈ l, b.length = t.root.length := fun b hb => by obtain ⟨k, hk⟩ := List.mem_iff_getElem?.1 hb; exact boxes_len hh hk
        refine Tr.seq (Tr.regionK fun K hK => ?_)
        simp (maxSteps := 1000000) [add_add]
        refine .inl ⟨_, pcall_ctValid t hr, rfl, ?_⟩
        simp (maxSteps := 1000000) [add_add, s1_0]
        refine .inl ⟨_, pcall_has t.root p hr, rfl, ?_⟩
        simp (maxSteps := 1000000) [add_add, s1_1]
        refine .inl ⟨_, pcall_has t.root q hr, rfl, ?_⟩
        simp (maxSteps := 1000000) [add_add, s1_2]
        refine hK _ ?_; clear hK K
        refine Tr.cond rfl rfl (fun hq0 => by first | (cases hq0; done) | (simp at hq0; done) | (simp_all; done)) (fun hq0 => ?_)
        refine Tr.skip ?_
        refine Tr.seq (Tr.regionE mixed (by kernel_rfl) fun K hK => ?_)
        simp (maxSteps := 1000000) [add_add]
        refine .inl ⟨_, pcall_ctLeavesN t l hh, rfl, ?_⟩
        simp (maxSteps := 1000000)
        refine .inl ⟨_, pcall_cutBoxes t l hh, rfl, ?_⟩
        simp (maxSteps := 1000000)
        refine .inl ⟨_, pcall_apart t l p q t.root.length hll hcl hr hbl, rfl, ?_⟩
        simp (maxSteps := 1000000)
        refine hK _ ?_; clear hK K
        refine Tr.ret ⟨.inr rfl, ?_, ?_, ?_, ?_⟩ <;> simp [Try.f21, hf]
      obtain ⟨l, hh⟩ := Option.isSome_iff_exists.1 s1_0
      have hf : sepT t p q = false := by unfold sepT; rw [hh]; simp [s1_2]
      refine Tr.seq (Tr.regionK fun K hK => ?_)
      simp (maxSteps := 1000000) [add_add]
      refine .inl ⟨_, pcall_ctValid t hr, rfl, ?_⟩
      simp (maxSteps := 1000000) [add_add, s1_0]
      refine .inl ⟨_, pcall_has t.root p hr, rfl, ?_⟩
      simp (maxSteps := 1000000) [add_add, s1_1]
      refine .inl ⟨_, pcall_has t.root q hr, rfl, ?_⟩
      simp (maxSteps := 1000000) [add_add, s1_2]
      refine hK _ ?_; clear hK K
      refine Tr.cond rfl rfl (fun hq1 => ?_) (fun hq1 => by first | (cases hq1; done) | (simp at hq1; done) | (simp_all; done))
      refine Tr.seq (Tr.regionK fun K hK => ?_)
      simp (maxSteps := 1000000) [add_add]
      refine hK _ ?_; clear hK K
      refine Tr.ret ⟨.inr rfl, ?_, ?_, ?_, ?_⟩ <;> simp [Try.f21, hf]
    obtain ⟨l, hh⟩ := Option.isSome_iff_exists.1 s1_0
    have hf : sepT t p q = false := by unfold sepT; rw [hh]; simp [s1_1]
    refine Tr.seq (Tr.regionK fun K hK => ?_)
    simp (maxSteps := 1000000) [add_add]
    refine .inl ⟨_, pcall_ctValid t hr, rfl, ?_⟩
    simp (maxSteps := 1000000) [add_add, s1_0]
    refine .inl ⟨_, pcall_has t.root p hr, rfl, ?_⟩
    simp (maxSteps := 1000000) [add_add, s1_1]
    refine hK _ ?_; clear hK K
    refine Tr.cond rfl rfl (fun hq2 => ?_) (fun hq2 => by first | (cases hq2; done) | (simp at hq2; done) | (simp_all; done))
    refine Tr.seq (Tr.regionK fun K hK => ?_)
    simp (maxSteps := 1000000) [add_add]
    refine hK _ ?_; clear hK K
    refine Tr.ret ⟨.inr rfl, ?_, ?_, ?_, ?_⟩ <;> simp [Try.f21, hf]
  have hf : sepT t p q = false := by unfold sepT; rw [show boxesT t = none by simpa using s1_0]
  refine Tr.seq (Tr.regionK fun K hK => ?_)
  simp (maxSteps := 1000000) [add_add]
  refine .inl ⟨_, pcall_ctValid t hr, rfl, ?_⟩
  simp (maxSteps := 1000000) [add_add, s1_0]
  refine hK _ ?_; clear hK K
  refine Tr.cond rfl rfl (fun hq3 => ?_) (fun hq3 => by first | (cases hq3; done) | (simp at hq3; done) | (simp_all; done))
  refine Tr.seq (Tr.regionK fun K hK => ?_)
  simp (maxSteps := 1000000) [add_add]
  refine hK _ ?_; clear hK K
  refine Tr.ret ⟨.inr rfl, ?_, ?_, ?_, ?_⟩ <;> simp [Try.f21, hf]
end Go.Proofs.Ytmljpbhmdjpbaaa
namespace Go.Proofs.Ytmljpbhmdjpbaaa
set_option linter.unusedVariables false
set_option linter.unusedSimpArgs false
open Go.PM

theorem halve_ok {b : List Iv} {j : Int} {l h : List Iv} (e : halve b j = some (l, h)) : boxOk l = true ∧ boxOk h = true := by
  unfold halve at e
  split at e
  · rename_i hc
    obtain ⟨c1, c2, c3, c4⟩ := hc
    simp only [Option.some.injEq, Prod.mk.injEq] at e
    have hx : b[j.toNat]? = some (b[j.toNat]'c4) := List.getElem?_eq_getElem c4
    have hd : b.getD j.toNat ⟨0, 0⟩ = b[j.toNat]'c4 := by rw [List.getD_eq_getElem?_getD, hx]; rfl
    rw [hd] at e c3
    have ho := Iv.ok_iff.1 (boxOk_at c1 hx)
    rw [← e.1, ← e.2]
    refine ⟨List.all_eq_true.2 fun x hm => ?_, List.all_eq_true.2 fun x hm => ?_⟩
    · rcases List.mem_or_eq_of_mem_set hm with h | h
      · exact List.all_eq_true.1 c1 x h
      · subst h; rw [Iv.ok_iff]; dsimp only; omega
    · rcases List.mem_or_eq_of_mem_set hm with h | h
      · exact List.all_eq_true.1 c1 x h
      · subst h; rw [Iv.ok_iff]; dsimp only; omega
  · cases e
theorem bst_ok {t : Tree} (hr : boxOk t.root = true) : ∀ {i : Nat} {outs : Outs}, bst t i = some outs → i ≤ t.cells.length → ∀ b, some b ∈ outs → boxOk b = true
  | 0, outs, h, _ => by
    simp only [bst, Option.some.injEq] at h
    subst h
    intro b hb
    rcases List.mem_or_eq_of_mem_set hb with h | h
    · have := (List.mem_replicate.1 h).2; cases this
    · cases h; exact hr
  | i + 1, outs, h, hi => by
    cases hb : bst t i with
    | none => simp [bst, hb] at h
    | some o0 =>
      have i2 := bst_ok hr hb (by omega)
      have hci : t.cells[i]? = some t.cells[i] := List.getElem?_eq_getElem (by omega)
      rw [bst_succ hb hci] at h
      obtain ⟨b, hbo, hc⟩ := bstep_cases h
      rcases hc with ⟨_, _, rfl⟩ | ⟨_, _, c2, c3, c4, c5, c6, c7, c8, l, hh, e, rfl⟩
      · exact i2
      · have hl := halve_ok e
        intro b' hb'
        rcases List.mem_or_eq_of_mem_set hb' with h | h
        · rcases List.mem_or_eq_of_mem_set h with h | h
          · exact i2 b' h
          · cases h; exact hl.1
        · cases h; exact hl.2
theorem boxes_ok {t : Tree} {l : List (List Iv)} (h : boxesT t = some l) {b : List Iv} (hb : b ∈ l) : boxOk b = true := by
  obtain ⟨h1, h2⟩ := boxesT_iff h
  exact bst_ok (treeOk_iff.1 h1).1.2.2 h2 (Nat.le_refl _) b (List.mem_map.2 ⟨b, hb, rfl⟩)
theorem has_in32 {r : List Iv} {q : List Int} (h : boxHas r q = true) : In32 q ∧ q.length = r.length := by
  unfold boxHas hasAll at h
  simp only [Bool.and_eq_true, decide_eq_true_eq] at h
  obtain ⟨h1, h2, h3⟩ := h
  refine ⟨fun x hx => ?_, h2.symm⟩
  obtain ⟨k, hk⟩ := List.mem_iff_getElem?.1 hx
  have hkl : k < r.length := by rw [h2]; exact (List.getElem?_eq_some_iff.1 hk).1
  have hz := zip_get (List.getElem?_eq_getElem hkl) hk
  have := List.all_eq_true.1 h3 _ (List.mem_of_getElem? hz)
  unfold Iv.has at this
  simp only [Bool.and_eq_true, decide_eq_true_eq] at this
  have ho := Iv.ok_iff.1 this.1
  omega

theorem entS_good {p q : List Int} {b : List Iv} : ∀ {j : Nat} {s : Fr × Fr}, entS p q b j = some s → Good s
  | 0, s, h => by simp only [entS, Option.some.injEq] at h; subst h; exact ⟨by decide, by decide, by decide⟩
  | j + 1, s, h => by
    cases h0 : entS p q b j with
    | none => simp [entS, h0] at h
    | some s0 =>
      simp only [entS, h0, Option.bind_some] at h
      split at h
      · exact turn_good h (entS_good h0)
      · cases h
theorem entryR_R {p q : List Int} {b : List Iv} (hp : In32 p) (hq : In32 q) (hb : boxOk b = true) : (entryR p q b).1.R := by
  unfold entryR
  cases h : entS p q b b.length with
  | none => exact ⟨⟨by decide, by decide⟩, by decide, by decide⟩
  | some s => exact (entS_R hp hq hb h).1
theorem entryR_pos {p q : List Int} {b : List Iv} (h : (entryR p q b).2 = true) : 0 < (entryR p q b).1.den := by
  unfold entryR at h ⊢
  cases hs : entS p q b b.length with
  | none => rw [hs] at h; cases h
  | some s => exact (entS_good hs).c

def collAt (t : Tree) (i : Nat) : Bool := match t.cells[i]? with
  | some c => c.coll
  | none => false
theorem collAt_eq {t : Tree} {i : Nat} {c : Cel} (h : t.cells[i]? = some c) : collAt t i = c.coll := by unfold collAt; rw [h]
/-- The best entry among the boxes of the colliding leaves up to some place. -/
def bestF (E : List Iv → Fr × Bool) (t : Tree) (l : List (List Iv)) : Nat → Fr × Int
  | 0 => (⟨0, 0⟩, -1)
  | i + 1 => if collAt t i = true ∧ (E (boxAt l i)).2 = true ∧ ((bestF E t l i).2 < 0 ∨ (E (boxAt l i)).1.less (bestF E t l i).1 = true) then ((E (boxAt l i)).1, (i : Int)) else bestF E t l i
theorem bestF_congr {E E' : List Iv → Fr × Bool} (h : ∀ b, (E b).2 = (E' b).2 ∧ ((E' b).2 = true → (E b).1 = (E' b).1)) (t : Tree) (l : List (List Iv)) : ∀ i, bestF E t l i = bestF E' t l i
  | 0 => rfl
  | i + 1 => by
    simp only [bestF, bestF_congr h t l i]
    obtain ⟨h1, h2⟩ := h (boxAt l i)
    by_cases he : (E' (boxAt l i)).2 = true
    · rw [h1, h2 he]
    · rw [h1, if_neg (fun x => he x.2.1), if_neg (fun x => he x.2.1)]
theorem bestF_stay {E : List Iv → Fr × Bool} {t : Tree} {l : List (List Iv)} {i : Nat} (h : collAt t i = false) : bestF E t l (i + 1) = bestF E t l i := by
  simp only [bestF]
  rw [if_neg (fun x => by rw [h] at x; exact absurd x.1 (by decide))]
theorem bestF_some {E : List Iv → Fr × Bool} {t : Tree} {l : List (List Iv)} : ∀ i, 0 ≤ (bestF E t l i).2 → ∃ j : Nat, j < i ∧ (bestF E t l i).2 = j ∧ collAt t j = true ∧ (E (boxAt l j)).2 = true ∧ (bestF E t l i).1 = (E (boxAt l j)).1
  | 0, h => by simp [bestF] at h
  | i + 1, h => by
    simp only [bestF] at h ⊢
    split
    · rename_i hc
      exact ⟨i, Nat.lt_succ_self i, rfl, hc.1, hc.2.1, rfl⟩
    · rename_i hc
      rw [if_neg hc] at h
      obtain ⟨j, h1, h2⟩ := bestF_some i h
      exact ⟨j, by omega, h2⟩
theorem bestF_none {E : List Iv → Fr × Bool} {t : Tree} {l : List (List Iv)} : ∀ i, ¬ 0 ≤ (bestF E t l i).2 → bestF E t l i = (⟨0, 0⟩, -1)
  | 0, _ => rfl
  | i + 1, h => by
    simp only [bestF] at h ⊢
    split
    · rename_i hc; rw [if_pos hc] at h; exact absurd (Int.natCast_nonneg i) h
    · rename_i hc; rw [if_neg hc] at h; exact bestF_none i h
theorem bestF_R {E : List Iv → Fr × Bool} {t : Tree} {l : List (List Iv)} (h : ∀ b ∈ l, (E b).1.R) (i : Nat) (hi : i ≤ l.length) : (bestF E t l i).1.R := by
  by_cases h0 : 0 ≤ (bestF E t l i).2
  · obtain ⟨j, h1, _, _, _, h2⟩ := bestF_some i h0
    rw [h2]
    refine h _ ?_
    have hj : j < l.length := by omega
    rw [boxAt_eq (List.getElem?_eq_getElem hj)]
    exact List.getElem_mem hj
  · rw [bestF_none i h0]
    exact ⟨⟨by decide, by decide⟩, by decide, by decide⟩

abbrev qAt (line : List (List Int)) (k : Nat) : List Int := line.getD k []
theorem qAt_eq {line : List (List Int)} {k : Nat} {q : List Int} (h : line[k]? = some q) : qAt line k = q := by unfold qAt; rw [List.getD_eq_getElem?_getD, h]; rfl
def meetK (t : Tree) (l : List (List Iv)) (line : List (List Int)) (k : Nat) : Fr × Int := bestF (entryR (qAt line k) (qAt line (k + 1))) t l t.cells.length
theorem meetK_enter (t : Tree) (l : List (List Iv)) (line : List (List Int)) (k : Nat) : bestF (enterR (qAt line k) (qAt line (k + 1))) t l t.cells.length = meetK t l line k :=
  (bestF_congr (fun b => entry_enter _ _ b) t l _).symm
def meetL (t : Tree) (l : List (List Iv)) (line : List (List Int)) : Option Nat := (List.range (line.length - 1)).find? fun k => decide (0 ≤ (meetK t l line k).2)
def Fr.lowF (f : Fr) : Fr := Fr.low f.num.toNat f.den.toNat
structure Mt where
  motion : Int
  num : Int
  den : Int
  leaf : Int
deriving DecidableEq
abbrev mtP (m : Mt) : PV := .agg [.i m.motion, .i m.num, .i m.den, .i m.leaf]
def meetM (t : Tree) (l : List (List Iv)) (line : List (List Int)) (k : Nat) : Mt := ⟨k, (meetK t l line k).1.lowF.num, (meetK t l line k).1.lowF.den, (meetK t l line k).2⟩
/-- **Where a polyline first meets a colliding leaf.** -/
def meetT (t : Tree) (line : List (List Int)) : Option Mt := (boxesT t).bind fun l => if regularL t.root line = true then (meetL t l line).map (meetM t l line) else none
abbrev zeroMt : Mt := ⟨0, 0, 0, 0⟩
def meetP (o : Option Mt) : PV := .tup [mtP (o.getD zeroMt), .b o.isSome]
theorem regularL_iff {r : List Iv} {line : List (List Int)} : regularL r line = true ↔ 2 ≤ line.length ∧ line.length ≤ 1024 ∧ ∀ q ∈ line, boxHas r q = true := by
  unfold regularL
  simp only [Bool.and_eq_true, Bool.not_eq_true', decide_eq_false_iff_not, List.all_eq_true]
  constructor
  · rintro ⟨h1, h2, h3⟩; exact ⟨by omega, by omega, h3⟩
  · rintro ⟨h1, h2, h3⟩; exact ⟨by omega, by omega, h3⟩
theorem find_at {p : Nat → Bool} {n k : Nat} (h0 : ∀ j, j < k → p j = false) (hk : k < n) (h : p k = true) : (List.range n).find? p = some k := by
  rw [List.find?_range_eq_some]
  exact ⟨h, List.mem_range.2 hk, fun j hj => by simp [h0 j hj]⟩
theorem find_no {p : Nat → Bool} {n : Nat} (h0 : ∀ j, j < n → p j = false) : (List.range n).find? p = none := by
  rw [List.find?_range_eq_none]
  intro j hj; simp [h0 j hj]
theorem lowF_eq {f : Fr} {a b : Nat} (h : f = ⟨a, b⟩) : f.lowF = Fr.low a b := by subst h; simp [Fr.lowF]
theorem fr_nat {f : Fr} (h : f.R) : ∃ a b : Nat, f = ⟨a, b⟩ ∧ a ≤ 9223372036854775807 ∧ b ≤ 9223372036854775807 := by
  obtain ⟨⟨h1, h2⟩, h3, h4⟩ := h
  obtain ⟨a, ha⟩ := Int.eq_ofNat_of_zero_le h1
  obtain ⟨b, hb⟩ := Int.eq_ofNat_of_zero_le h3
  refine ⟨a, b, ?_, by omega, by omega⟩
  cases f
  simp only at ha hb
  rw [ha, hb]
end Go.Proofs.Ytmljpbhmdjpbaaa
namespace Go.Proofs.Ytmljpbhmdjpbaaa
set_option linter.unusedVariables false
set_option linter.unusedSimpArgs false
open Go.PM

theorem regularL_false {r : List Iv} {line : List (List Int)} {t : Tree} {l : List (List Iv)} (hh : boxesT t = some l) (h : regularL t.root line = false) : meetT t line = none := by
  unfold meetT; rw [hh]; simp [h]
theorem meetT_some {t : Tree} {l : List (List Iv)} {line : List (List Int)} (hh : boxesT t = some l) (h : regularL t.root line = true) : meetT t line = (meetL t l line).map (meetM t l line) := by
  unfold meetT; rw [hh]; simp [h]
set_option maxRecDepth 8000 in
set_option maxHeartbeats 4000000 in
theorem pcall_meet (t : Tree) (line : List (List Int)) (hr : t.root.length ≤ 1048576) :
    PCall Try.prog 22 [treeP t, .d (.imm (qs line))] (meetP (meetT t line)) := by
  refine walk Try.func22 (by kernel_rfl) rfl 89 rfl (Nat.le_of_ble_eq_true rfl) fun nid _ => ?_
  refine Tr.seq (Tr.regionK fun K hK => ?_)
  simp (maxSteps := 1000000) [Try.f22, add_add, Region.binds, Int.natCast_inj]
  repeat (first | refine ⟨by omega, ?_⟩ | refine ⟨⟨by omega, by omega⟩, ?_⟩ | refine ⟨rfl, ?_⟩)
  refine hK _ ?_; clear hK K
  refine Tr.seq ?_
  rcases Bool.eq_false_or_eq_true ((boxesT t).isSome) with s1_0 | s1_0
  · have s1_0' := s1_0
    rcases Bool.eq_false_or_eq_true (regularL t.root line) with s1_1 | s1_1
    · have s1_1' := s1_1
      obtain ⟨l, hh⟩ := Option.isSome_iff_exists.1 s1_0
      have hf0 := meetT_some hh s1_1
      obtain ⟨hL2, hL3, hLq⟩ := regularL_iff.1 s1_1
      have hL1 : ((1 : Int) ≤ line.length) = True := by simp; omega
      have htk : List.take line.length (qs line) = qs line := List.take_of_length_le (by simp)
      have hdr : List.drop 1 (qs line) = qs (line.drop 1) := by simp [List.map_drop]
      have hll := boxesT_length hh
      have hcl := cells_len hh
      have hrl := root_len hh
      have hbl : ∀ b ∈ l, b.length = t.root.length := fun b hb => by obtain ⟨k, hk⟩ := List.mem_iff_getElem?.1 hb; exact boxes_len hh hk
      have hbo : ∀ b ∈ l, boxOk b = true := fun b hb => boxes_ok hh hb
      refine Tr.seq (Tr.regionK fun K hK => ?_)
      simp (maxSteps := 1000000) [Try.f22, add_add, Region.binds, Int.natCast_inj, s1_0, s1_1]
      repeat (first | refine ⟨by omega, ?_⟩ | refine ⟨⟨by omega, by omega⟩, ?_⟩ | refine ⟨rfl, ?_⟩)
      refine .inl ⟨_, pcall_ctValid t hr, rfl, ?_⟩
      simp (maxSteps := 1000000) [Try.f22, add_add, Region.binds, Int.natCast_inj, s1_0, s1_1]
      repeat (first | refine ⟨by omega, ?_⟩ | refine ⟨⟨by omega, by omega⟩, ?_⟩ | refine ⟨rfl, ?_⟩)
      refine .inl ⟨_, pcall_regularL t.root line hr, rfl, ?_⟩
      simp (maxSteps := 1000000) [Try.f22, add_add, Region.binds, Int.natCast_inj, s1_0, s1_1]
      repeat (first | refine ⟨by omega, ?_⟩ | refine ⟨⟨by omega, by omega⟩, ?_⟩ | refine ⟨rfl, ?_⟩)
      refine hK _ ?_; clear hK K
      refine Tr.cond rfl rfl (fun hq0 => by first | (cases hq0; done) | (simp at hq0; done) | (simp_all; done)) (fun hq0 => ?_)
      refine Tr.skip ?_
      refine Tr.seq (Tr.regionK fun K hK => ?_)
      simp (maxSteps := 1000000) [Try.f22, add_add, Region.binds, Int.natCast_inj, s1_0, s1_1]
      repeat (first | refine ⟨by omega, ?_⟩ | refine ⟨⟨by omega, by omega⟩, ?_⟩ | refine ⟨rfl, ?_⟩)
      refine .inl ⟨_, pcall_cutBoxes t l hh, rfl, ?_⟩
      simp (maxSteps := 1000000) [Try.f22, add_add, Region.binds, Int.natCast_inj, s1_0, s1_1]
      repeat (first | refine ⟨by omega, ?_⟩ | refine ⟨⟨by omega, by omega⟩, ?_⟩ | refine ⟨rfl, ?_⟩)
      refine hK _ ?_; clear hK K
      refine Tr.seq ?_
      refine Tr.seq (Tr.regionK fun K hK => ?_)
      simp (maxSteps := 1000000) [Try.f22, add_add, Region.binds, Int.natCast_inj, s1_0, s1_1, hL1, htk, hdr]
      repeat (first | refine ⟨by omega, ?_⟩ | refine ⟨⟨by omega, by omega⟩, ?_⟩ | refine ⟨rfl, ?_⟩)
      refine hK _ ?_; clear hK K
      refine Tr.block ?_
      refine Tr.loopP [] [.slot 2, .slot 4] [.slot 2, .slot 4] (fun k : Nat => ([(1, .d (.imm (qs line))), (2, .ptr nid 0 0), (4, .ptr (nid + 1) 0 0), (5, .b false), (6, .d (.imm (boxs l))), (30, .d (.imm (qs (line.drop 1)))), (31, .i ((line.length - 1 : Nat) : Int)), (32, .i k)],
      [(nid, ⟨25, 2, [[.d (.imm (ivs t.root)), .d (.imm (cels t.cells))]]⟩), (nid + 1, ⟨39, 4, [[.i 0, .i 0, .i 0, .i 0]]⟩)])) (fun k : Nat => k ≤ line.length - 1 ∧ ∀ j, j < k → decide (0 ≤ (meetK t l line j).2) = false) (fun k : Nat => line.length - 1 - k) 0 rfl ?_ ?_ ?_
      · exact ⟨Nat.zero_le _, fun j hj => absurd hj (Nat.not_lt_zero _)⟩
      · refine ⟨rfl, ?_, ?_, ?_, ?_⟩ <;> simp [add_add, s1_0, s1_1]
      rintro k ⟨hk, hno⟩ I hI0
      have wk : IntKind.i64.wrap ((k : Int) + 1) = (k : Int) + 1 := wrapIn (by omega) (by omega)
      refine Tr.seq (Tr.regionK fun K hK => ?_)
      simp (maxSteps := 1000000) [Try.f22, add_add, Region.binds, Int.natCast_inj, s1_0, s1_1, wk]
      repeat (first | refine ⟨by omega, ?_⟩ | refine ⟨⟨by omega, by omega⟩, ?_⟩ | refine ⟨rfl, ?_⟩)
      refine hK _ ?_; clear hK K
      refine Tr.seq ?_
      refine Tr.cond rfl rfl (fun hqk => ?_) (fun hqk => ?_)
      · simp at hqk
        have hk0 : k < line.length := by omega
        have hk1 : k + 1 < line.length := by omega
        obtain ⟨p, hp, hp'⟩ : ∃ p, line[k]? = some p ∧ line[k] = p := ⟨line[k], List.getElem?_eq_getElem hk0, rfl⟩
        obtain ⟨q, hq', hq''⟩ : ∃ q, line[k + 1]? = some q ∧ line[k + 1] = q := ⟨line[k + 1], List.getElem?_eq_getElem hk1, rfl⟩
        have hp32 := has_in32 (hLq p (List.mem_of_getElem? hp))
        have hq32 := has_in32 (hLq q (List.mem_of_getElem? hq'))
        refine Tr.skip ?_
        refine Tr.seq ?_
        refine Tr.block ?_
        refine Tr.seq (Tr.regionK fun K hK => ?_)
        simp (maxSteps := 1000000) [Try.f22, add_add, Region.binds, Int.natCast_inj, s1_0, s1_1, wk, hk0, hk1, hp, hp', hq', hq'', hqk]
        repeat (first | refine ⟨by omega, ?_⟩ | refine ⟨⟨by omega, by omega⟩, ?_⟩ | refine ⟨rfl, ?_⟩)
        refine hK _ ?_; clear hK K
        refine Tr.seq (Tr.regionK fun K hK => ?_)
        simp (maxSteps := 1000000) [Try.f22, add_add, Region.binds, Int.natCast_inj, s1_0, s1_1, wk, hk0, hk1, hp, hp', hq', hq'', hqk]
        repeat (first | refine ⟨by omega, ?_⟩ | refine ⟨⟨by omega, by omega⟩, ?_⟩ | refine ⟨rfl, ?_⟩)
        refine hK _ ?_; clear hK K
        refine Tr.seq (Tr.regionK fun K hK => ?_)
        simp (maxSteps := 1000000) [Try.f22, add_add, Region.binds, Int.natCast_inj, s1_0, s1_1, wk, hk0, hk1, hp, hp', hq', hq'', hqk]
        repeat (first | refine ⟨by omega, ?_⟩ | refine ⟨⟨by omega, by omega⟩, ?_⟩ | refine ⟨rfl, ?_⟩)
        refine hK _ ?_; clear hK K
        refine Tr.seq ?_
        refine Tr.seq (Tr.regionK fun K hK => ?_)
        simp (maxSteps := 1000000) [Try.f22, add_add, Region.binds, Int.natCast_inj, s1_0, s1_1, wk, hk0, hk1, hp, hp', hq', hq'', hqk]
        repeat (first | refine ⟨by omega, ?_⟩ | refine ⟨⟨by omega, by omega⟩, ?_⟩ | refine ⟨rfl, ?_⟩)
        refine hK _ ?_; clear hK K
        refine Tr.block ?_
        refine Tr.loopP [] [.slot 2, .slot 4, .slot 9] [.slot 2, .slot 4, .slot 9] (fun i : Nat => ([(1, .d (.imm (qs line))), (2, .ptr nid 0 0), (4, .ptr (nid + 1) 0 0), (5, .b false), (6, .d (.imm (boxs l))), (7, .i k), (8, .d (.imm (ints q))), (9, .ptr (nid + 2) 0 0), (10, .i (bestF (entryR p q) t l i).2), (30, .d (.imm (qs (line.drop 1)))), (31, .i ((line.length - 1 : Nat) : Int)), (32, .i k), (38, .d (.imm (cels t.cells))), (39, .i t.cells.length), (40, .i i)],
        [(nid, ⟨25, 2, [[.d (.imm (ivs t.root)), .d (.imm (cels t.cells))]]⟩), (nid + 1, ⟨39, 4, [[.i 0, .i 0, .i 0, .i 0]]⟩), (nid + 2, ⟨109, 2, [[.i (bestF (entryR p q) t l i).1.num, .i (bestF (entryR p q) t l i).1.den]]⟩)])) (fun i : Nat => i ≤ t.cells.length) (fun i : Nat => t.cells.length - i) 0 rfl ?_ ?_ ?_
        · exact Nat.zero_le _
        · refine ⟨rfl, ?_, ?_, ?_, ?_⟩ <;> simp [add_add, s1_0, s1_1, wk, hk0, hk1, hp, hp', hq', hq'', hqk, bestF]
        rintro i hi I hI2
        have w : IntKind.i64.wrap ((i : Int) + 1) = (i : Int) + 1 := wrapIn (by omega) (by omega)
        have hRa := bestF_R (E := entryR p q) (t := t) (l := l) (fun b hb => entryR_R hp32.1 hq32.1 (hbo b hb)) i (by omega)
        obtain ⟨⟨at', m⟩, hst⟩ : ∃ x, bestF (entryR p q) t l i = x := ⟨_, rfl⟩
        rw [hst] at hRa
        dsimp only at hRa
        refine Tr.seq (Tr.regionK fun K hK => ?_)
        simp (maxSteps := 1000000) [Try.f22, add_add, Region.binds, Int.natCast_inj, s1_0, s1_1, wk, hk0, hk1, hp, hp', hq', hq'', hqk, w, hst]
        repeat (first | refine ⟨by omega, ?_⟩ | refine ⟨⟨by omega, by omega⟩, ?_⟩ | refine ⟨rfl, ?_⟩)
        refine hK _ ?_; clear hK K
        refine Tr.seq ?_
        refine Tr.cond rfl rfl (fun hqi => ?_) (fun hqi => ?_)
        · simp at hqi
          obtain ⟨c, hc, hc'⟩ : ∃ c, t.cells[i]? = some c ∧ t.cells[i] = c := ⟨t.cells[i], List.getElem?_eq_getElem hqi, rfl⟩
          have hib : i < l.length := by omega
          obtain ⟨b, hb, hb'⟩ : ∃ b, l[i]? = some b ∧ l[i] = b := ⟨l[i], List.getElem?_eq_getElem hib, rfl⟩
          have hbm := List.mem_of_getElem? hb
          have hcc0 := collAt_eq hc
          refine Tr.skip ?_
          refine Tr.seq ?_
          refine Tr.block ?_
          refine Tr.seq (Tr.regionK fun K hK => ?_)
          simp (maxSteps := 1000000) [Try.f22, add_add, Region.binds, Int.natCast_inj, s1_0, s1_1, wk, hk0, hk1, hp, hp', hq', hq'', hqk, w, hst, hc, hc', hib, hb, hb', hqi]
          repeat (first | refine ⟨by omega, ?_⟩ | refine ⟨⟨by omega, by omega⟩, ?_⟩ | refine ⟨rfl, ?_⟩)
          refine hK _ ?_; clear hK K
          refine Tr.seq ?_
          refine Tr.seq (Tr.regionK fun K hK => ?_)
          simp (maxSteps := 1000000) [Try.f22, add_add, Region.binds, Int.natCast_inj, s1_0, s1_1, wk, hk0, hk1, hp, hp', hq', hq'', hqk, w, hst, hc, hc', hib, hb, hb', hqi]
          repeat (first | refine ⟨by omega, ?_⟩ | refine ⟨⟨by omega, by omega⟩, ?_⟩ | refine ⟨rfl, ?_⟩)
          refine .inl ⟨_, pcall_isColliding c, rfl, ?_⟩
          simp (maxSteps := 1000000) [Try.f22, add_add, Region.binds, Int.natCast_inj, s1_0, s1_1, wk, hk0, hk1, hp, hp', hq', hq'', hqk, w, hst, hc, hc', hib, hb, hb', hqi]
          repeat (first | refine ⟨by omega, ?_⟩ | refine ⟨⟨by omega, by omega⟩, ?_⟩ | refine ⟨rfl, ?_⟩)
          refine hK _ ?_; clear hK K
          refine Tr.cond rfl rfl (fun hqc => ?_) (fun hqc => ?_)
          · simp at hqc
            have hcc' : collAt t i = false := hcc0.trans (by simpa using hqc)
            refine Tr.exit (exit_s (exit_b ?_))
            refine Tr.regionK fun K hK => ?_
            simp (maxSteps := 1000000) [Try.f22, add_add, Region.binds, Int.natCast_inj, s1_0, s1_1, wk, hk0, hk1, hp, hp', hq', hq'', hqk, w, hst, hc, hc', hib, hb, hb', hqi]
            repeat (first | refine ⟨by omega, ?_⟩ | refine ⟨⟨by omega, by omega⟩, ?_⟩ | refine ⟨rfl, ?_⟩)
            refine hK _ ?_; clear hK K
            refine hI2 _ _ (i + 1) (hqi) (by first | (show _ < _; omega) | (simp; omega)) ⟨rfl, ?_, ?_, ?_, ?_⟩ <;> simp [add_add, s1_0, s1_1, wk, hk0, hk1, hp, hp', hq', hq'', hqk, w, hst, hc, hc', hib, hb, hb', hqi, bestF_stay hcc', hst]
          simp at hqc
          have hcc : collAt t i = true := hcc0.trans (by simpa using hqc)
          obtain ⟨⟨f, ok⟩, hE⟩ : ∃ x, entryR p q b = x := ⟨_, rfl⟩
          have hRf := entryR_R hp32.1 hq32.1 (hbo b hbm)
          rw [hE] at hRf
          dsimp only at hRf
          refine Tr.skip ?_
          rcases Bool.eq_false_or_eq_true (ok) with s13_0 | s13_0
          · have s13_0' := s13_0
            refine Tr.seq (Tr.regionE mixed (by kernel_rfl) fun K hK => ?_)
            simp (maxSteps := 1000000) [Try.f22, add_add, Region.binds, Int.natCast_inj, s1_0, s1_1, wk, hk0, hk1, hp, hp', hq', hq'', hqk, w, hst, hc, hc', hib, hb, hb', hqi, s13_0, hE]
            repeat (first | refine ⟨by omega, ?_⟩ | refine ⟨⟨by omega, by omega⟩, ?_⟩ | refine ⟨rfl, ?_⟩)
            refine .inl ⟨_, pcall_entry p q b hp32.1 hq32.1 (hbo b hbm) (by rw [hbl b hbm]; omega) (by rw [hbl b hbm]; exact hp32.2) (by rw [hbl b hbm]; exact hq32.2), rfl, ?_⟩
            simp (maxSteps := 1000000) [Try.f22, add_add, Region.binds, Int.natCast_inj, s1_0, s1_1, wk, hk0, hk1, hp, hp', hq', hq'', hqk, w, hst, hc, hc', hib, hb, hb', hqi, s13_0, hE]
            repeat (first | refine ⟨by omega, ?_⟩ | refine ⟨⟨by omega, by omega⟩, ?_⟩ | refine ⟨rfl, ?_⟩)
            refine hK _ ?_; clear hK K
            refine Tr.seq (Tr.regionK fun K hK => ?_)
            simp (maxSteps := 1000000) [Try.f22, add_add, Region.binds, Int.natCast_inj, s1_0, s1_1, wk, hk0, hk1, hp, hp', hq', hq'', hqk, w, hst, hc, hc', hib, hb, hb', hqi, s13_0]
            repeat (first | refine ⟨by omega, ?_⟩ | refine ⟨⟨by omega, by omega⟩, ?_⟩ | refine ⟨rfl, ?_⟩)
            refine hK _ ?_; clear hK K
            by_cases s15_0 : m < 0
            · have s15_0' := s15_0
              have hs1 : bestF (entryR p q) t l (i + 1) = (f, (i : Int)) := by simp only [bestF]; rw [hst, boxAt_eq hb, hE, if_pos ⟨hcc, s13_0, .inl s15_0⟩]
              refine Tr.seq (Tr.regionK fun K hK => ?_)
              simp (maxSteps := 1000000) [Try.f22, add_add, Region.binds, Int.natCast_inj, s1_0, s1_1, wk, hk0, hk1, hp, hp', hq', hq'', hqk, w, hst, hc, hc', hib, hb, hb', hqi, s13_0, s15_0]
              repeat (first | refine ⟨by omega, ?_⟩ | refine ⟨⟨by omega, by omega⟩, ?_⟩ | refine ⟨rfl, ?_⟩)
              refine hK _ ?_; clear hK K
              refine Tr.cond rfl rfl (fun hq4 => ?_) (fun hq4 => by first | (cases hq4; done) | (simp at hq4; done) | (simp_all; done))
              refine Tr.regionK fun K hK => ?_
              simp (maxSteps := 1000000) [Try.f22, add_add, Region.binds, Int.natCast_inj, s1_0, s1_1, wk, hk0, hk1, hp, hp', hq', hq'', hqk, w, hst, hc, hc', hib, hb, hb', hqi, s13_0, s15_0]
              repeat (first | refine ⟨by omega, ?_⟩ | refine ⟨⟨by omega, by omega⟩, ?_⟩ | refine ⟨rfl, ?_⟩)
              refine hK _ ?_; clear hK K
              refine Tr.regionK fun K hK => ?_
              simp (maxSteps := 1000000) [Try.f22, add_add, Region.binds, Int.natCast_inj, s1_0, s1_1, wk, hk0, hk1, hp, hp', hq', hq'', hqk, w, hst, hc, hc', hib, hb, hb', hqi, s13_0, s15_0]
              repeat (first | refine ⟨by omega, ?_⟩ | refine ⟨⟨by omega, by omega⟩, ?_⟩ | refine ⟨rfl, ?_⟩)
              refine hK _ ?_; clear hK K
              refine hI2 _ _ (i + 1) (hqi) (by first | (show _ < _; omega) | (simp; omega)) ⟨rfl, ?_, ?_, ?_, ?_⟩ <;> simp [add_add, s1_0, s1_1, wk, hk0, hk1, hp, hp', hq', hq'', hqk, w, hst, hc, hc', hib, hb, hb', hqi, s13_0, s15_0, hs1]
            rcases Bool.eq_false_or_eq_true (Fr.less f at') with s15_1 | s15_1
            · have s15_1' := s15_1
              have hs1 : bestF (entryR p q) t l (i + 1) = (f, (i : Int)) := by simp only [bestF]; rw [hst, boxAt_eq hb, hE, if_pos ⟨hcc, s13_0, .inr s15_1⟩]
              refine Tr.seq (Tr.regionK fun K hK => ?_)
              simp (maxSteps := 1000000) [Try.f22, add_add, Region.binds, Int.natCast_inj, s1_0, s1_1, wk, hk0, hk1, hp, hp', hq', hq'', hqk, w, hst, hc, hc', hib, hb, hb', hqi, s13_0, s15_0, s15_1]
              repeat (first | refine ⟨by omega, ?_⟩ | refine ⟨⟨by omega, by omega⟩, ?_⟩ | refine ⟨rfl, ?_⟩)
              refine .inl ⟨_, pcall_less f at' hRf hRa, rfl, ?_⟩
              simp (maxSteps := 1000000) [Try.f22, add_add, Region.binds, Int.natCast_inj, s1_0, s1_1, wk, hk0, hk1, hp, hp', hq', hq'', hqk, w, hst, hc, hc', hib, hb, hb', hqi, s13_0, s15_0, s15_1]
              repeat (first | refine ⟨by omega, ?_⟩ | refine ⟨⟨by omega, by omega⟩, ?_⟩ | refine ⟨rfl, ?_⟩)
              refine hK _ ?_; clear hK K
              refine Tr.cond rfl rfl (fun hq5 => ?_) (fun hq5 => by first | (cases hq5; done) | (simp at hq5; done) | (simp_all; done))
              refine Tr.regionK fun K hK => ?_
              simp (maxSteps := 1000000) [Try.f22, add_add, Region.binds, Int.natCast_inj, s1_0, s1_1, wk, hk0, hk1, hp, hp', hq', hq'', hqk, w, hst, hc, hc', hib, hb, hb', hqi, s13_0, s15_0, s15_1]
              repeat (first | refine ⟨by omega, ?_⟩ | refine ⟨⟨by omega, by omega⟩, ?_⟩ | refine ⟨rfl, ?_⟩)
              refine hK _ ?_; clear hK K
              refine Tr.regionK fun K hK => ?_
              simp (maxSteps := 1000000) [Try.f22, add_add, Region.binds, Int.natCast_inj, s1_0, s1_1, wk, hk0, hk1, hp, hp', hq', hq'', hqk, w, hst, hc, hc', hib, hb, hb', hqi, s13_0, s15_0, s15_1]
              repeat (first | refine ⟨by omega, ?_⟩ | refine ⟨⟨by omega, by omega⟩, ?_⟩ | refine ⟨rfl, ?_⟩)
              refine hK _ ?_; clear hK K
              refine hI2 _ _ (i + 1) (hqi) (by first | (show _ < _; omega) | (simp; omega)) ⟨rfl, ?_, ?_, ?_, ?_⟩ <;> simp [add_add, s1_0, s1_1, wk, hk0, hk1, hp, hp', hq', hq'', hqk, w, hst, hc, hc', hib, hb, hb', hqi, s13_0, s15_0, s15_1, hs1]
            have hs1 : bestF (entryR p q) t l (i + 1) = (at', m) := by simp only [bestF]; rw [hst, boxAt_eq hb, hE, if_neg (fun x => x.2.2.elim s15_0 (fun y => by simp [s15_1] at y))]
            refine Tr.seq (Tr.regionK fun K hK => ?_)
            simp (maxSteps := 1000000) [Try.f22, add_add, Region.binds, Int.natCast_inj, s1_0, s1_1, wk, hk0, hk1, hp, hp', hq', hq'', hqk, w, hst, hc, hc', hib, hb, hb', hqi, s13_0, s15_0, s15_1]
            repeat (first | refine ⟨by omega, ?_⟩ | refine ⟨⟨by omega, by omega⟩, ?_⟩ | refine ⟨rfl, ?_⟩)
            refine .inl ⟨_, pcall_less f at' hRf hRa, rfl, ?_⟩
            simp (maxSteps := 1000000) [Try.f22, add_add, Region.binds, Int.natCast_inj, s1_0, s1_1, wk, hk0, hk1, hp, hp', hq', hq'', hqk, w, hst, hc, hc', hib, hb, hb', hqi, s13_0, s15_0, s15_1]
            repeat (first | refine ⟨by omega, ?_⟩ | refine ⟨⟨by omega, by omega⟩, ?_⟩ | refine ⟨rfl, ?_⟩)
            refine hK _ ?_; clear hK K
            refine Tr.cond rfl rfl (fun hq6 => by first | (cases hq6; done) | (simp at hq6; done) | (simp_all; done)) (fun hq6 => ?_)
            refine Tr.skip ?_
            refine Tr.regionK fun K hK => ?_
            simp (maxSteps := 1000000) [Try.f22, add_add, Region.binds, Int.natCast_inj, s1_0, s1_1, wk, hk0, hk1, hp, hp', hq', hq'', hqk, w, hst, hc, hc', hib, hb, hb', hqi, s13_0, s15_0, s15_1]
            repeat (first | refine ⟨by omega, ?_⟩ | refine ⟨⟨by omega, by omega⟩, ?_⟩ | refine ⟨rfl, ?_⟩)
            refine hK _ ?_; clear hK K
            refine hI2 _ _ (i + 1) (hqi) (by first | (show _ < _; omega) | (simp; omega)) ⟨rfl, ?_, ?_, ?_, ?_⟩ <;> simp [add_add, s1_0, s1_1, wk, hk0, hk1, hp, hp', hq', hq'', hqk, w, hst, hc, hc', hib, hb, hb', hqi, s13_0, s15_0, s15_1, hs1]
          refine Tr.seq (Tr.regionE mixed (by kernel_rfl) fun K hK => ?_)
          simp (maxSteps := 1000000) [Try.f22, add_add, Region.binds, Int.natCast_inj, s1_0, s1_1, wk, hk0, hk1, hp, hp', hq', hq'', hqk, w, hst, hc, hc', hib, hb, hb', hqi, s13_0, hE]
          repeat (first | refine ⟨by omega, ?_⟩ | refine ⟨⟨by omega, by omega⟩, ?_⟩ | refine ⟨rfl, ?_⟩)
          refine .inl ⟨_, pcall_entry p q b hp32.1 hq32.1 (hbo b hbm) (by rw [hbl b hbm]; omega) (by rw [hbl b hbm]; exact hp32.2) (by rw [hbl b hbm]; exact hq32.2), rfl, ?_⟩
          simp (maxSteps := 1000000) [Try.f22, add_add, Region.binds, Int.natCast_inj, s1_0, s1_1, wk, hk0, hk1, hp, hp', hq', hq'', hqk, w, hst, hc, hc', hib, hb, hb', hqi, s13_0, hE]
          repeat (first | refine ⟨by omega, ?_⟩ | refine ⟨⟨by omega, by omega⟩, ?_⟩ | refine ⟨rfl, ?_⟩)
          refine hK _ ?_; clear hK K
          refine Tr.seq (Tr.regionK fun K hK => ?_)
          simp (maxSteps := 1000000) [Try.f22, add_add, Region.binds, Int.natCast_inj, s1_0, s1_1, wk, hk0, hk1, hp, hp', hq', hq'', hqk, w, hst, hc, hc', hib, hb, hb', hqi, s13_0]
          repeat (first | refine ⟨by omega, ?_⟩ | refine ⟨⟨by omega, by omega⟩, ?_⟩ | refine ⟨rfl, ?_⟩)
          refine hK _ ?_; clear hK K
          have hs1 : bestF (entryR p q) t l (i + 1) = (at', m) := by simp only [bestF]; rw [hst, boxAt_eq hb, hE, if_neg (fun x => by have := x.2.1; rw [s13_0] at this; cases this)]
          refine Tr.seq (Tr.regionK fun K hK => ?_)
          simp (maxSteps := 1000000) [Try.f22, add_add, Region.binds, Int.natCast_inj, s1_0, s1_1, wk, hk0, hk1, hp, hp', hq', hq'', hqk, w, hst, hc, hc', hib, hb, hb', hqi, s13_0]
          repeat (first | refine ⟨by omega, ?_⟩ | refine ⟨⟨by omega, by omega⟩, ?_⟩ | refine ⟨rfl, ?_⟩)
          refine hK _ ?_; clear hK K
          refine Tr.cond rfl rfl (fun hq7 => by first | (cases hq7; done) | (simp at hq7; done) | (simp_all; done)) (fun hq7 => ?_)
          refine Tr.skip ?_
          refine Tr.regionK fun K hK => ?_
          simp (maxSteps := 1000000) [Try.f22, add_add, Region.binds, Int.natCast_inj, s1_0, s1_1, wk, hk0, hk1, hp, hp', hq', hq'', hqk, w, hst, hc, hc', hib, hb, hb', hqi, s13_0]
          repeat (first | refine ⟨by omega, ?_⟩ | refine ⟨⟨by omega, by omega⟩, ?_⟩ | refine ⟨rfl, ?_⟩)
          refine hK _ ?_; clear hK K
          refine hI2 _ _ (i + 1) (hqi) (by first | (show _ < _; omega) | (simp; omega)) ⟨rfl, ?_, ?_, ?_, ?_⟩ <;> simp [add_add, s1_0, s1_1, wk, hk0, hk1, hp, hp', hq', hq'', hqk, w, hst, hc, hc', hib, hb, hb', hqi, s13_0, hs1]
        simp at hqi
        refine Tr.exit (exit_s (exit_s (exit_b ?_)))
        have hin : i = t.cells.length := by omega
        have hst' := hst
        rw [hin] at hst'
        refine Tr.seq (Tr.regionK fun K hK => ?_)
        simp (maxSteps := 1000000) [Try.f22, add_add, Region.binds, Int.natCast_inj, s1_0, s1_1, wk, hk0, hk1, hp, hp', hq', hq'', hqk, w, hst]
        repeat (first | refine ⟨by omega, ?_⟩ | refine ⟨⟨by omega, by omega⟩, ?_⟩ | refine ⟨rfl, ?_⟩)
        refine hK _ ?_; clear hK K
        refine Tr.cond rfl rfl (fun hqm => ?_) (fun hqm => ?_)
        · simp at hqm
          obtain ⟨j, hj1, hj2, hj3, hj4, hj5⟩ := bestF_some (E := entryR p q) (t := t) (l := l) t.cells.length (by rw [hst']; exact hqm)
          have hpos := entryR_pos hj4
          rw [← hj5, hst'] at hpos
          obtain ⟨na, db, hat, hna, hdb⟩ := fr_nat hRa
          subst hat
          dsimp only at hpos
          have hf : meetT t line = some (meetM t l line k) := by rw [hf0]; unfold meetL; rw [find_at hno (by omega) (by unfold meetK; rw [qAt_eq hp, qAt_eq hq', hst']; simpa using hqm)]; rfl
          have hf2 : meetM t l line k = ⟨k, (Fr.low na db).num, (Fr.low na db).den, m⟩ := by unfold meetM meetK; rw [qAt_eq hp, qAt_eq hq', hst', lowF_eq rfl]
          refine Tr.seq (Tr.regionK fun K hK => ?_)
          simp (maxSteps := 1000000) [Try.f22, add_add, Region.binds, Int.natCast_inj, s1_0, s1_1, wk, hk0, hk1, hp, hp', hq', hq'', hqk, w, hst, hf2]
          repeat (first | refine ⟨by omega, ?_⟩ | refine ⟨⟨by omega, by omega⟩, ?_⟩ | refine ⟨rfl, ?_⟩)
          refine .inl ⟨_, pcall_lowest na db hna hdb (by omega), rfl, ?_⟩
          simp (maxSteps := 1000000) [Try.f22, add_add, Region.binds, Int.natCast_inj, s1_0, s1_1, wk, hk0, hk1, hp, hp', hq', hq'', hqk, w, hst, hf2]
          repeat (first | refine ⟨by omega, ?_⟩ | refine ⟨⟨by omega, by omega⟩, ?_⟩ | refine ⟨rfl, ?_⟩)
          refine hK _ ?_; clear hK K
          refine Tr.seq (Tr.regionK fun K hK => ?_)
          simp (maxSteps := 1000000) [Try.f22, add_add, Region.binds, Int.natCast_inj, s1_0, s1_1, wk, hk0, hk1, hp, hp', hq', hq'', hqk, w, hst, hf2]
          repeat (first | refine ⟨by omega, ?_⟩ | refine ⟨⟨by omega, by omega⟩, ?_⟩ | refine ⟨rfl, ?_⟩)
          refine hK _ ?_; clear hK K
          refine Tr.ret ⟨.inr rfl, ?_, ?_, ?_, ?_⟩ <;> simp [Try.f22, add_add, s1_0, s1_1, wk, hk0, hk1, hp, hp', hq', hq'', hqk, w, hst, hf2, hf, meetP]
        simp at hqm
        refine Tr.skip ?_
        refine Tr.regionK fun K hK => ?_
        simp (maxSteps := 1000000) [Try.f22, add_add, Region.binds, Int.natCast_inj, s1_0, s1_1, wk, hk0, hk1, hp, hp', hq', hq'', hqk, w, hst]
        repeat (first | refine ⟨by omega, ?_⟩ | refine ⟨⟨by omega, by omega⟩, ?_⟩ | refine ⟨rfl, ?_⟩)
        refine hK _ ?_; clear hK K
        refine hI0 _ _ (k + 1) (⟨hqk, fun j hj => (Nat.lt_succ_iff_lt_or_eq.1 hj).elim (hno j) (fun e => by subst e; unfold meetK; rw [qAt_eq hp, qAt_eq hq', hst']; simpa using hqm)⟩) (by first | (show _ < _; omega) | (simp; omega)) ⟨rfl, ?_, ?_, ?_, ?_⟩ <;> simp [add_add, s1_0, s1_1, wk, hk0, hk1, hp, hp', hq', hq'', hqk, w, hst]
      simp at hqk
      refine Tr.exit (exit_s (exit_s (exit_b ?_)))
      have hkn : k = line.length - 1 := by omega
      subst hkn
      have hf : meetT t line = none := by rw [hf0]; unfold meetL; rw [find_no hno]; rfl
      refine Tr.seq (Tr.regionK fun K hK => ?_)
      simp (maxSteps := 1000000) [Try.f22, add_add, Region.binds, Int.natCast_inj, s1_0, s1_1, wk]
      repeat (first | refine ⟨by omega, ?_⟩ | refine ⟨⟨by omega, by omega⟩, ?_⟩ | refine ⟨rfl, ?_⟩)
      refine hK _ ?_; clear hK K
      refine Tr.ret ⟨.inr rfl, ?_, ?_, ?_, ?_⟩ <;> simp [Try.f22, add_add, s1_0, s1_1, wk, hf, meetP]
    obtain ⟨l, hh⟩ := Option.isSome_iff_exists.1 s1_0
    have hf : meetT t line = none := regularL_false (r := t.root) hh s1_1
    refine Tr.seq (Tr.regionK fun K hK => ?_)
    simp (maxSteps := 1000000) [Try.f22, add_add, Region.binds, Int.natCast_inj, s1_0, s1_1]
    repeat (first | refine ⟨by omega, ?_⟩ | refine ⟨⟨by omega, by omega⟩, ?_⟩ | refine ⟨rfl, ?_⟩)
    refine .inl ⟨_, pcall_ctValid t hr, rfl, ?_⟩
    simp (maxSteps := 1000000) [Try.f22, add_add, Region.binds, Int.natCast_inj, s1_0, s1_1]
    repeat (first | refine ⟨by omega, ?_⟩ | refine ⟨⟨by omega, by omega⟩, ?_⟩ | refine ⟨rfl, ?_⟩)
    refine .inl ⟨_, pcall_regularL t.root line hr, rfl, ?_⟩
    simp (maxSteps := 1000000) [Try.f22, add_add, Region.binds, Int.natCast_inj, s1_0, s1_1]
    repeat (first | refine ⟨by omega, ?_⟩ | refine ⟨⟨by omega, by omega⟩, ?_⟩ | refine ⟨rfl, ?_⟩)
    refine hK _ ?_; clear hK K
    refine Tr.cond rfl rfl (fun hq9 => ?_) (fun hq9 => by first | (cases hq9; done) | (simp at hq9; done) | (simp_all; done))
    refine Tr.seq (Tr.regionK fun K hK => ?_)
    simp (maxSteps := 1000000) [Try.f22, add_add, Region.binds, Int.natCast_inj, s1_0, s1_1]
    repeat (first | refine ⟨by omega, ?_⟩ | refine ⟨⟨by omega, by omega⟩, ?_⟩ | refine ⟨rfl, ?_⟩)
    refine hK _ ?_; clear hK K
    refine Tr.ret ⟨.inr rfl, ?_, ?_, ?_, ?_⟩ <;> simp [Try.f22, add_add, s1_0, s1_1, hf, meetP]
  have hf : meetT t line = none := by unfold meetT; rw [show boxesT t = none by simpa using s1_0]; rfl
  refine Tr.seq (Tr.regionK fun K hK => ?_)
  simp (maxSteps := 1000000) [Try.f22, add_add, Region.binds, Int.natCast_inj, s1_0]
  repeat (first | refine ⟨by omega, ?_⟩ | refine ⟨⟨by omega, by omega⟩, ?_⟩ | refine ⟨rfl, ?_⟩)
  refine .inl ⟨_, pcall_ctValid t hr, rfl, ?_⟩
  simp (maxSteps := 1000000) [Try.f22, add_add, Region.binds, Int.natCast_inj, s1_0]
  repeat (first | refine ⟨by omega, ?_⟩ | refine ⟨⟨by omega, by omega⟩, ?_⟩ | refine ⟨rfl, ?_⟩)
  refine hK _ ?_; clear hK K
  refine Tr.cond rfl rfl (fun hq10 => ?_) (fun hq10 => by first | (cases hq10; done) | (simp at hq10; done) | (simp_all; done))
  refine Tr.seq (Tr.regionK fun K hK => ?_)
  simp (maxSteps := 1000000) [Try.f22, add_add, Region.binds, Int.natCast_inj, s1_0]
  repeat (first | refine ⟨by omega, ?_⟩ | refine ⟨⟨by omega, by omega⟩, ?_⟩ | refine ⟨rfl, ?_⟩)
  refine hK _ ?_; clear hK K
  refine Tr.ret ⟨.inr rfl, ?_, ?_, ?_, ?_⟩ <;> simp [Try.f22, add_add, s1_0, hf, meetP]
end Go.Proofs.Ytmljpbhmdjpbaaa
