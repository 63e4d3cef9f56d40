/- The pure machine, part 30: whatever an argument reads as, it is a tree of data that fits its type and is no greater than the reading. -/
import Derived.Test.YtmljpbhmdjpbaaaPm29
import Derived.Test.YtmljpbhmdjpbaaaRows
namespace Go.PM
set_option linter.unusedVariables false
set_option linter.unusedSimpArgs false

/-- The cells of a type. -/
inductive CS where
  | int (k : IntKind)
  | bool
  | str
  | slice (es : List CS)

def csFs (rec : TypeId → Option (List CS)) (P : Program) : List Field → Nat → Option (List CS)
  | [], _ => some []
  | f :: fs, off => if f.offset = off then
      (match rec f.type with
      | some ks => if P.cellsOf f.type = ks.length then (csFs rec P fs (off + ks.length)).map (ks ++ ·) else none
      | none => none)
    else none
def repL {α : Type} (n : Nat) (ks : List α) : List α := match n with | 0 => [] | n + 1 => ks ++ repL n ks
theorem repL_len {α : Type} (n : Nat) (ks : List α) : (repL n ks).length = n * ks.length := by
  induction n with
  | zero => simp [repL]
  | succ n ih => rw [repL, List.length_append, ih, Nat.add_mul]; omega

def csOf (P : Program) : Nat → TypeId → Option (List CS)
  | 0, _ => none
  | d + 1, t => match P.underlying t with
    | some .bool => some [.bool]
    | some (.int k) => some [.int k]
    | some .string => some [.str]
    | some (.slice e) => match csOf P d e with
      | some ks => if P.cellsOf e = ks.length ∧ 0 < ks.length then some [.slice ks] else none
      | none => none
    | some (.array n e) => match csOf P d e with
      | some ks => if P.cellsOf e = ks.length ∧ P.cellsOf t = n * ks.length then some (repL n ks) else none
      | none => none
    | some (.struct fs) => match csFs (csOf P d) P fs.toList 0 with
      | some ks => if P.cellsOf t = ks.length then some ks else none
      | none => none
    | _ => none

mutual
def CS.fits : CS → DV → Prop
  | .int k, .val (.int k' a) => k' = k ∧ (Lit.int k a).wf = true
  | .bool, .val (.bool _) => True
  | .str, .val (.string s) => s.size ≤ maxLen
  | .slice es, .imm l => ∀ e ∈ l, CS.fitsL es e
  | _, _ => False
def CS.fitsL : List CS → List DV → Prop
  | [], [] => True
  | c :: cs, d :: ds => CS.fits c d ∧ CS.fitsL cs ds
  | _, _ => False
end

mutual
/-- How many values a tree of data holds. -/
def DV.bulk : DV → Nat
  | .val (.string s) => s.size + 1
  | .val _ => 1
  | .imm es => DV.bulkLL es + 1
def DV.bulkL : List DV → Nat
  | [] => 0
  | d :: r => DV.bulk d + DV.bulkL r
def DV.bulkLL : List (List DV) → Nat
  | [] => 0
  | e :: r => DV.bulkL e + DV.bulkLL r
end

theorem CS.fitsL_len : ∀ {cs : List CS} {ds : List DV}, CS.fitsL cs ds → ds.length = cs.length
  | [], [], _ => rfl
  | c :: cs, d :: ds, h => by unfold CS.fitsL at h; simp [CS.fitsL_len h.2]
  | [], _ :: _, h => by unfold CS.fitsL at h; exact h.elim
  | _ :: _, [], h => by unfold CS.fitsL at h; exact h.elim
theorem CS.fitsL_append : ∀ {cs cs' : List CS} {ds ds' : List DV}, CS.fitsL cs ds → CS.fitsL cs' ds' → CS.fitsL (cs ++ cs') (ds ++ ds')
  | [], _, [], _, _, h => h
  | c :: cs, _, d :: ds, _, h, k => by
    unfold CS.fitsL at h
    rw [List.cons_append, List.cons_append, CS.fitsL]
    exact ⟨h.1, CS.fitsL_append h.2 k⟩
  | [], _, _ :: _, _, h, _ => by unfold CS.fitsL at h; exact h.elim
  | _ :: _, _, [], _, h, _ => by unfold CS.fitsL at h; exact h.elim
theorem DV.bulkL_append : ∀ (a b : List DV), DV.bulkL (a ++ b) = DV.bulkL a + DV.bulkL b
  | [], b => by simp [DV.bulkL]
  | d :: a, b => by simp [DV.bulkL, DV.bulkL_append a b, Nat.add_assoc]

open Go.Proofs.Ytmljpbhmdjpbaaa in
theorem bulkAll_append {H : Type} : ∀ (a b : List (DataW H)), Rows.uptoBulkAll (a ++ b) = Rows.uptoBulkAll a + Rows.uptoBulkAll b
  | [], b => by simp [Rows.uptoBulkAll]
  | d :: a, b => by simp [Rows.uptoBulkAll, bulkAll_append a b, Nat.add_assoc]

section
open Go.Proofs.Ytmljpbhmdjpbaaa
variable {H : Type} {enc : TypeId × Value → H} {P : Program} {w : World} {base : Nat} {spare : Nat → Bool} {held : Bool}

/-- What a reading gives: cells that fit. -/
abbrev FitR (sh : List CS) (a : List DV) (d : DataW H) : Prop := CS.fitsL sh a ∧ DV.bulkL a ≤ Rows.uptoBulk d

theorem list_bulk {sh : List CS} : ∀ (l : List (List DV)) (es : List (DataW H)), es.length = l.length → (∀ (j : Nat) a dd, l[j]? = some a → es[j]? = some dd → FitR sh a dd) → DV.bulkLL l ≤ Rows.uptoBulkAll es ∧ ∀ e ∈ l, CS.fitsL sh e
  | [], es, _, _ => by simp [DV.bulkLL]
  | a :: l, [], h, _ => by simp at h
  | a :: l, d :: es, h, hr => by
    have h0 := hr 0 a d rfl rfl
    obtain ⟨h1, h2⟩ := list_bulk l es (by simpa using h) (fun j a dd h1 h2 => hr (j + 1) a dd (by simpa using h1) (by simpa using h2))
    refine ⟨?_, fun e he => ?_⟩
    · have := h0.2
      simp only [DV.bulkLL, Rows.uptoBulkAll]
      omega
    · rcases List.mem_cons.1 he with rfl | he
      · exact h0.1
      · exact h2 e he

theorem flat_bulk {sh : List CS} : ∀ (l : List (List DV)) (es : List (DataW H)), es.length = l.length → (∀ (j : Nat) a dd, l[j]? = some a → es[j]? = some dd → FitR sh a dd) → DV.bulkL l.flatten ≤ Rows.uptoBulkAll es ∧ CS.fitsL (repL l.length sh) l.flatten
  | [], es, _, _ => by simp [DV.bulkL, repL, CS.fitsL]
  | a :: l, [], h, _ => by simp at h
  | a :: l, d :: es, h, hr => by
    have h0 := hr 0 a d rfl rfl
    obtain ⟨h1, h2⟩ := flat_bulk l es (by simpa using h) (fun j a dd h1 h2 => hr (j + 1) a dd (by simpa using h1) (by simpa using h2))
    refine ⟨?_, ?_⟩
    · have := h0.2
      simp only [List.flatten_cons, DV.bulkL_append, Rows.uptoBulkAll]
      omega
    · simp only [List.flatten_cons, List.length_cons, repL]
      exact CS.fitsL_append h0.1 h2

/-- A reading of a type that has such cells. -/
def Read (enc : TypeId × Value → H) (P : Program) (w : World) (base : Nat) (spare : Nat → Bool) (held : Bool) (t : TypeId) (sh : List CS) : Prop :=
  Reads enc P w base spare held t (fun a : { a : List DV // a.length = sh.length } => a.1) (fun a d => FitR sh a.1 d)

theorem Read.of {t : TypeId} {sh : List CS} (h : ∀ (n : Nat) (cs : List Value) (x : DataW H × List MemPlace), DataW.trod enc P w base spare held n t cs = some x → ∃ a, CellsDR (allRd w) a cs ∧ FitR sh a x.1) : Read enc P w base spare held t sh := by
  intro n cs x hx
  obtain ⟨a, h1, h2⟩ := h n cs x hx
  exact ⟨⟨a, CS.fitsL_len h2.1⟩, h1, h2⟩

theorem lit_bulk (k : IntKind) (a : Int) : Rows.uptoBulk (H := H) (.lit (.int k a)) = 1 := rfl

theorem cells_one {rd : Rd} {d : DV} {v : Value} (h : DR rd d v) : CellsDR rd [d] [v] := ⟨rfl, fun j d' v' h1 h2 => by
  cases j with
  | zero => simp at h1 h2; subst h1; subst h2; exact h
  | succ j => simp at h1⟩

theorem read_fs {rec : TypeId → Option (List CS)} (hrec : ∀ t sh, rec t = some sh → Read enc P w base spare held t sh) (cs : List Value) (m : Nat) : ∀ (fs : List Field) (off : Nat) (sh : List CS) (xs : List (DataW H × List MemPlace)), csFs rec P fs off = some sh → xs.length = fs.length →
    (∀ (i : Nat) (f : Field), fs[i]? = some f → DataW.trod enc P w base spare held m f.type ((cs.drop f.offset).take (P.cellsOf f.type)) = xs[i]?) → ∃ a, CellsDR (allRd w) a ((cs.drop off).take sh.length) ∧ CS.fitsL sh a ∧ DV.bulkL a ≤ Rows.uptoBulkAll (xs.map (·.1))
  | [], off, sh, xs, h, hl, _ => by
    simp [csFs] at h
    subst h
    exact ⟨[], ⟨by simp, by simp⟩, by simp [CS.fitsL], by simp [DV.bulkL]⟩
  | f :: fs, off, sh, [], _, hl, _ => by simp at hl
  | f :: fs, off, sh, x :: xs, h, hl, hx => by
    unfold csFs at h
    split at h
    · rename_i ho
      split at h
      · rename_i ks hks
        split at h
        · rename_i hc
          simp only [Option.map_eq_some_iff] at h
          obtain ⟨ks', hks', rfl⟩ := h
          have h0 := hx 0 f rfl
          simp only [List.getElem?_cons_zero] at h0
          obtain ⟨⟨a, _⟩, c1, p1, p2⟩ := hrec _ _ hks m _ x h0
          obtain ⟨b, c2, q1, q2⟩ := read_fs hrec cs m fs (off + ks.length) ks' xs hks' (by simpa using hl) (fun i g hg => by have := hx (i + 1) g (by simpa using hg); simpa using this)
          refine ⟨a ++ b, ?_, CS.fitsL_append p1 q1, ?_⟩
          · rw [ho, hc] at c1
            have := c1.append c2
            rw [← List.drop_drop, ← List.take_add] at this
            rw [List.length_append]
            exact this
          · have p2' : DV.bulkL a ≤ Rows.uptoBulk x.1 := p2
            rw [DV.bulkL_append]
            simp only [List.map_cons, Rows.uptoBulkAll]
            omega
        · cases h
      · cases h
    · cases h

theorem read_all : ∀ (d : Nat) (t : TypeId) (sh : List CS), csOf P d t = some sh → Read enc P w base spare held t sh
  | 0, _, _, h => by simp [csOf] at h
  | d + 1, t, sh, h => by
    unfold csOf at h
    split at h
    · rename_i hu
      cases h
      refine .of fun n cs x hx => ?_
      obtain ⟨a, rfl, rfl⟩ := DataW.trod_bool hu hx
      exact ⟨[.val (.bool a)], cells_one (.val _ rfl), by simp [CS.fitsL, CS.fits], by simp [DV.bulkL, DV.bulk, Rows.uptoBulk]⟩
    · rename_i k hu
      cases h
      refine .of fun n cs x hx => ?_
      obtain ⟨a, rfl, rfl, hw⟩ := DataW.trod_int hu hx
      exact ⟨[.val (.int k a)], cells_one (.val _ rfl), by simp [CS.fitsL, CS.fits, hw], by simp [DV.bulkL, DV.bulk, Rows.uptoBulk]⟩
    · rename_i hu
      cases h
      refine .of fun n cs x hx => ?_
      obtain ⟨a, rfl, rfl, hw⟩ := DataW.trod_string hu hx
      exact ⟨[.val (.string a)], cells_one (.val _ rfl), by simp [CS.fitsL, CS.fits, hw], by simp [DV.bulkL, DV.bulk, Rows.uptoBulk]⟩
    · rename_i e hu
      split at h
      · rename_i ks hks
        split at h
        · rename_i hc
          cases h
          refine .of fun n cs x hx => ?_
          obtain ⟨l, c1, c2⟩ := Reads.slice hu (read_all d e ks hks) ks.length hc.1 hc.2 (fun a => a.2) n cs x hx
          refine ⟨_, c1, ?_⟩
          rcases c2 with ⟨c2, rfl⟩ | ⟨es, sp, c2, c3, c4⟩
          · rw [c2]
            refine ⟨by simp [CS.fitsL, CS.fits], ?_⟩
            simp [DV.bulkL, DV.bulk, DV.bulkLL, Rows.uptoBulk]
          · rw [c2]
            obtain ⟨g1, g2⟩ := list_bulk (sh := ks) (l.map (·.1)) es (by simpa using c3) (fun j a dd h1 h2 => by
              rw [List.getElem?_map] at h1
              cases hj : l[j]? with
              | none => rw [hj] at h1; cases h1
              | some b => rw [hj] at h1; cases h1; exact c4 j b dd hj h2)
            refine ⟨by simp only [CS.fitsL, CS.fits]; exact ⟨g2, trivial⟩, ?_⟩
            simp only [DV.bulkL, DV.bulk, Rows.uptoBulk]
            omega
        · cases h
      · cases h
    · rename_i n e hu
      split at h
      · rename_i ks hks
        split at h
        · rename_i hc
          cases h
          refine .of fun m cs x hx => ?_
          obtain ⟨l, c1, c2, es, c3, c4, c5⟩ := Reads.array hu (read_all d e ks hks) ks.length hc.1 hc.2 m cs x hx
          refine ⟨_, c1, ?_⟩
          rw [c3]
          obtain ⟨g1, g2⟩ := flat_bulk (sh := ks) (l.map (·.1)) es (by simp [c4, c2]) (fun j a dd h1 h2 => by
            rw [List.getElem?_map] at h1
            cases hj : l[j]? with
            | none => rw [hj] at h1; cases h1
            | some b => rw [hj] at h1; cases h1; exact c5 j b dd hj h2)
          rw [List.length_map, c2] at g2
          refine ⟨g2, ?_⟩
          simp only [Rows.uptoBulk]
          omega
        · cases h
      · cases h
    · rename_i fs hu
      split at h
      · rename_i ks hks
        split at h
        · rename_i hc
          cases h
          refine .of fun n cs x hx => ?_
          obtain ⟨xs, m, rfl, rfl, hl, hxs, hf⟩ := DataW.trod_struct hu hx
          obtain ⟨a, c1, c2, c3⟩ := read_fs (fun t sh h => read_all d t sh h) cs m fs.toList 0 _ xs hks (by simpa using hxs) (fun i f hi => hf i f (by simpa using hi))
          rw [List.drop_zero, List.take_of_length_le (by omega)] at c1
          refine ⟨a, c1, c2, ?_⟩
          simp only [Rows.uptoBulk]
          omega
        · cases h
      · cases h
    · cases h

/-- An argument of one cell. -/
theorem arg_cell {t : TypeId} {v : Value} {dd : DataW H} {ps : List MemPlace} {c : CS} (d : Nat) (hs : csOf P d t = some [c]) (hk : ∀ cs, v ≠ .agg cs) (ht : ∀ cs, v ≠ .tuple cs) (h : DataW.Trod enc P w base spare held t v dd ps) :
    ∃ x, VR (allRd w) (fun _ => none) (.d x) v ∧ CS.fits c x ∧ x.bulk ≤ Rows.uptoBulk dd := by
  obtain ⟨n, h⟩ := h
  obtain ⟨⟨a, ha⟩, c1, c2, c3⟩ := read_all d t _ hs n _ _ h
  match a, ha with
  | [x], _ =>
    have hv : v.cells.toList = [v] := by
      cases v <;> first | rfl | exact absurd rfl (hk _) | exact absurd rfl (ht _)
    simp only at c1
    rw [hv] at c1
    refine ⟨x, .d _ _ (c1.2 0 x v rfl rfl), ?_, ?_⟩
    · simpa [CS.fitsL] using c2
    · simpa [DV.bulkL] using c3

/-- An argument that is a struct or an array. -/
theorem arg_agg {t : TypeId} {cs : Array Value} {dd : DataW H} {ps : List MemPlace} {sh : List CS} (d : Nat) (hs : csOf P d t = some sh) (h : DataW.Trod enc P w base spare held t (.agg cs) dd ps) :
    ∃ a, VR (allRd w) (fun _ => none) (.agg (a.map .d)) (.agg cs) ∧ CS.fitsL sh a ∧ DV.bulkL a ≤ Rows.uptoBulk dd := by
  obtain ⟨n, h⟩ := h
  obtain ⟨⟨a, ha⟩, c1, c2, c3⟩ := read_all d t _ hs n _ _ h
  refine ⟨a, ?_, c2, c3⟩
  have c1' : CellsDR (allRd w) a cs.toList := c1
  have key : VR (allRd w) (fun _ => none) (.agg (a.map .d)) (.agg cs.toList.toArray) := by
    refine .agg _ _ (by simpa using c1'.1) (fun v hv => ?_) (fun j p v hp hv => ?_)
    · obtain ⟨j, hj⟩ := List.mem_iff_getElem?.1 hv
      have hlt : j < a.length := by rw [← c1'.1]; exact (List.getElem?_eq_some_iff.1 hj).1
      exact (c1'.2 j _ v (List.getElem?_eq_getElem hlt) hj).one
    · rw [List.getElem?_map] at hp
      cases hj : a[j]? with
      | none => rw [hj] at hp; cases hp
      | some x => rw [hj] at hp; cases hp; exact .d _ _ (c1'.2 j x v hj hv)
  simpa using key
end

theorem list_ex {α β : Type} {f : α → β} {Q : α → Prop} : ∀ (l : List β), (∀ e ∈ l, ∃ a, e = f a ∧ Q a) → ∃ L : List α, l = L.map f ∧ ∀ a ∈ L, Q a
  | [], _ => ⟨[], rfl, by simp⟩
  | e :: l, h => by
    obtain ⟨a, h1, h2⟩ := h e (by simp)
    obtain ⟨L, h3, h4⟩ := list_ex l fun x hx => h x (by simp [hx])
    refine ⟨a :: L, by rw [h1, h3]; rfl, fun b hb => ?_⟩
    rcases List.mem_cons.1 hb with rfl | hb
    · exact h2
    · exact h4 b hb
end Go.PM
