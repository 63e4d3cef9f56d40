/- The pure machine, part 28: the arguments of a law, read off a world all of whose blocks are immutable. -/
import Derived.Test.YtmljpbhmdjpbaaaPm27
import Derived.OpenShut
import Derived.Carry
namespace Go.PM
set_option linter.unusedVariables false
set_option linter.unusedSimpArgs false
variable {H : Type} {enc : TypeId × Value → H} {P : Program} {w : World} {base : Nat} {spare : Nat → Bool} {held : Bool}

/-- Every block of the world as it stands. -/
def allRd (w : World) : Rd := fun b => match w.heap[b]? with | some (.cells cur _ _) => some cur | _ => none

def CellsDR (rd : Rd) (ds : List DV) (cs : List Value) : Prop := cs.length = ds.length ∧ ∀ (j : Nat) d v, ds[j]? = some d → cs[j]? = some v → DR rd d v

theorem CellsDR.append {rd : Rd} {a b : List DV} {c d : List Value} (h : CellsDR rd a c) (k : CellsDR rd b d) : CellsDR rd (a ++ b) (c ++ d) := by
  refine ⟨by simp [h.1, k.1], fun j x v hx hv => ?_⟩
  rw [List.getElem?_append] at hx hv
  rw [h.1] at hv
  split at hx
  · rename_i hj; rw [if_pos hj] at hv; exact h.2 j x v hx hv
  · rename_i hj; rw [if_neg hj] at hv; exact k.2 _ x v hx hv

/-- What every reading of a type gives. -/
def Reads (enc : TypeId × Value → H) (P : Program) (w : World) (base : Nat) (spare : Nat → Bool) (held : Bool) (t : TypeId) {α : Type} (f : α → List DV) (φ : α → DataW H → Prop) : Prop :=
  ∀ (n : Nat) (cs : List Value) (x : DataW H × List MemPlace), DataW.trod enc P w base spare held n t cs = some x → ∃ a, CellsDR (allRd w) (f a) cs ∧ φ a x.1

theorem Reads.int {t : TypeId} {k : IntKind} (ht : P.underlying t = some (.int k)) : Reads enc P w base spare held t (fun a : Int => [.val (.int k a)]) (fun a d => d = .lit (.int k a) ∧ (Lit.int k a).wf = true) := by
  intro n cs x h
  obtain ⟨a, rfl, rfl, hw⟩ := DataW.trod_int ht h
  refine ⟨a, ⟨rfl, fun j d v hd hv => ?_⟩, rfl, by simpa using hw⟩
  cases j with
  | zero => simp at hd hv; subst hd; subst hv; exact .val _ rfl
  | succ j => simp at hd

theorem Reads.bool {t : TypeId} (ht : P.underlying t = some .bool) : Reads enc P w base spare held t (fun a : Bool => [.val (.bool a)]) (fun a d => d = .lit (.bool a)) := by
  intro n cs x h
  obtain ⟨a, rfl, rfl⟩ := DataW.trod_bool ht h
  refine ⟨a, ⟨rfl, fun j d v hd hv => ?_⟩, rfl⟩
  cases j with
  | zero => simp at hd hv; subst hd; subst hv; exact .val _ rfl
  | succ j => simp at hd

theorem list_of {α : Type} {R : Nat → α → Prop} : ∀ (len : Nat), (∀ i, i < len → ∃ a, R i a) → ∃ l : List α, l.length = len ∧ ∀ (i : Nat) a, l[i]? = some a → R i a
  | 0, _ => ⟨[], rfl, by simp⟩
  | n + 1, h => by
    obtain ⟨l, hl, hr⟩ := list_of n fun i hi => h i (by omega)
    obtain ⟨a, ha⟩ := h n (by omega)
    refine ⟨l ++ [a], by simp [hl], fun i b hb => ?_⟩
    rw [List.getElem?_append] at hb
    split at hb
    · exact hr i b hb
    · rename_i hi
      have : i - l.length = 0 := by
        rcases Nat.eq_zero_or_pos (i - l.length) with h0 | h0
        · exact h0
        · rw [List.getElem?_eq_none (by simp; omega)] at hb; cases hb
      rw [this] at hb
      simp at hb
      subst hb
      have : i = n := by omega
      subst this
      exact ha

theorem cell_some {a : Addr} {v : Value} (h : w.cell? a = some v) : a.spot = none ∧ ∃ cur, allRd w a.block = some cur ∧ cur[a.off]? = some v := by
  unfold World.cell? at h
  unfold allRd
  split at h
  · rename_i c t z hb
    split at h
    · cases h
    · rename_i hs
      rw [hb]
      exact ⟨by simpa using hs, c, rfl, h⟩
  · cases h

theorem Reads.slice {t e : TypeId} {α : Type} {f : α → List DV} {φ : α → DataW H → Prop} (ht : P.underlying t = some (.slice e)) (he : Reads enc P w base spare held e f φ) (sz : Nat) (hc : P.cellsOf e = sz) (hsz : 0 < sz) (hf : ∀ a, (f a).length = sz) :
    Reads enc P w base spare held t (fun l : List α => [.imm (l.map f)]) (fun l d => (d = .nil ∧ l = []) ∨ ∃ es sp, d = .slice es sp ∧ es.length = l.length ∧ ∀ (j : Nat) a dd, l[j]? = some a → es[j]? = some dd → φ a dd) := by
  intro n cs x h
  have single : ∀ (d : DV) (v : Value), DR (allRd w) d v → CellsDR (allRd w) [d] [v] := fun d v hd => ⟨rfl, fun j d' v' h1 h2 => by
    cases j with
    | zero => simp at h1 h2; subst h1; subst h2; exact hd
    | succ j => simp at h1⟩
  rcases DataW.trod_slice ht h with ⟨rfl, rfl⟩ | ⟨ad, len, cap, elems, rest, m, rfl, rfl, rfl, _, hlc, _, hel, hread, _, _⟩
  · exact ⟨[], single _ _ .nil, .inl ⟨rfl, rfl⟩⟩
  · rw [hc] at hread
    obtain ⟨l, hl, hR⟩ := list_of (R := fun i a => ∃ ci y, w.cells? base (ad.add (i * sz)) sz = some ci ∧ elems[i]? = some y ∧ CellsDR (allRd w) (f a) ci ∧ φ a y.1) len (by
      intro i hlen
      have hi := hread i hlen
      have hlt : i < elems.length := by rw [hel]; exact hlen
      rw [List.getElem?_eq_getElem hlt] at hi
      cases hcs : w.cells? base (ad.add (i * sz)) sz with
      | none => rw [hcs] at hi; simp at hi
      | some ci =>
        rw [hcs] at hi
        obtain ⟨a, h1, h2⟩ := he m ci _ hi
        exact ⟨a, ci, elems[i], rfl, List.getElem?_eq_getElem hlt, h1, h2⟩)
    refine ⟨l, single _ _ ?_, .inr ⟨_, _, rfl, by simp [hel, hl], fun j a dd ha hdd => ?_⟩⟩
    rotate_left
    · obtain ⟨ci, y, _, h2, _, h4⟩ := hR j a ha
      rw [List.getElem?_map, h2] at hdd
      cases hdd
      exact h4
    by_cases h0 : len = 0
    · subst h0
      have : l = [] := List.eq_nil_of_length_eq_zero hl
      subst this
      exact .nilA ad cap
    · -- the block
      have first : ∀ (i : Nat) a (r : Nat), l[i]? = some a → r < sz → ∃ v d, (f a)[r]? = some d ∧ w.cell? ((ad.add (i * sz)).add r) = some v ∧ DR (allRd w) d v := by
        intro i a r ha hr
        obtain ⟨ci, y, h1, _, h3, _⟩ := hR i a ha
        obtain ⟨_, h4, h5⟩ := World.cells?_some h1
        have hrc : r < ci.length := by omega
        have hrf : r < (f a).length := by rw [hf]; exact hr
        exact ⟨ci[r], (f a)[r], List.getElem?_eq_getElem hrf, by rw [h5 r hr]; exact List.getElem?_eq_getElem hrc, h3.2 r _ _ (List.getElem?_eq_getElem hrf) (List.getElem?_eq_getElem hrc)⟩
      obtain ⟨a0, ha0⟩ : ∃ a0, l[0]? = some a0 := ⟨l[0], List.getElem?_eq_getElem (by omega)⟩
      obtain ⟨v0, _, _, hv0, _⟩ := first 0 a0 0 ha0 hsz
      have e0 : (ad.add (0 * sz)).add 0 = ad := by simp [Addr.add]
      rw [e0] at hv0
      obtain ⟨hs, cur, hcur, _⟩ := cell_some hv0
      obtain ⟨b, off, spot⟩ := ad
      simp only at hs hcur
      subst hs
      have cellAt : ∀ (i : Nat) a (r : Nat), l[i]? = some a → r < sz → ∃ v d, (f a)[r]? = some d ∧ cur[off + (i * sz + r)]? = some v ∧ DR (allRd w) d v := by
        intro i a r ha hr
        obtain ⟨v, d, h1, h2, h3⟩ := first i a r ha hr
        rw [addr_add, addr_add] at h2
        obtain ⟨_, cur', hc', hv'⟩ := cell_some h2
        rw [hcur] at hc'
        cases hc'
        exact ⟨v, d, h1, by rw [← Nat.add_assoc]; exact hv', h3⟩
      have hlm : (l.map f).length = len := by simp [hl]
      have hels : ∀ e ∈ l.map f, e.length = sz := by
        intro e he'
        obtain ⟨a, _, rfl⟩ := List.mem_map.1 he'
        exact hf a
      have hfl := flatten_len (l.map f) sz hels
      have at_ : ∀ (j : Nat) d, (l.map f).flatten[j]? = some d → ∃ v, cur[off + j]? = some v ∧ DR (allRd w) d v := by
        intro j d hd
        have hj : j < len * sz := by
          have := (List.getElem?_eq_some_iff.1 hd).1
          rw [hfl, hlm] at this
          exact this
        have hi : j / sz < len := (Nat.div_lt_iff_lt_mul hsz).2 hj
        have hjj : j / sz * sz + j % sz = j := by rw [Nat.mul_comm]; exact Nat.div_add_mod j sz
        have hr := Nat.mod_lt j hsz
        obtain ⟨a, ha⟩ : ∃ a, l[j / sz]? = some a := ⟨l[j / sz], List.getElem?_eq_getElem (by omega)⟩
        obtain ⟨v, d', h1, h2, h3⟩ := cellAt (j / sz) a (j % sz) ha hr
        have hfa := flatten_at (l.map f) sz (j / sz) (j % sz) (f a) hels (by simp [ha]) hr
        rw [hjj, hd, h1] at hfa
        cases hfa
        rw [hjj] at h2
        exact ⟨v, h2, h3⟩
      have := DR.imm (rd := allRd w) (l.map f) b off cap sz ((List.range (len * sz)).map fun j => cur.getD (off + j) undef) (by rw [hlm]; exact hlc) hels (by simp [hfl, hl]) (.inr ⟨cur, hcur, fun j v hv => ?_⟩) (fun j d v hd hv => ?_)
      · rw [hlm] at this
        exact this
      · rw [List.getElem?_map] at hv
        cases hr : (List.range (len * sz))[j]? with
        | none => rw [hr] at hv; cases hv
        | some j' =>
          rw [hr] at hv
          have hlt := (List.getElem?_eq_some_iff.1 hr).1
          simp at hlt
          rw [List.getElem?_range hlt] at hr
          cases hr
          cases hv
          obtain ⟨d, hd⟩ : ∃ d, (l.map f).flatten[j]? = some d := ⟨_, List.getElem?_eq_getElem (by rw [hfl, hlm]; exact hlt)⟩
          obtain ⟨v, hv, _⟩ := at_ j d hd
          simp [hv, Array.getD_eq_getD_getElem?]
      · rw [List.getElem?_map] at hv
        obtain ⟨v', hv', hdr⟩ := at_ j d hd
        cases hr : (List.range (len * sz))[j]? with
        | none => rw [hr] at hv; cases hv
        | some j' =>
          rw [hr] at hv
          have hlt := (List.getElem?_eq_some_iff.1 hr).1
          simp at hlt
          rw [List.getElem?_range hlt] at hr
          cases hr
          cases hv
          simp only [Array.getD_eq_getD_getElem?, hv', Option.getD_some]
          exact hdr

theorem Reads.struct2 {t : TypeId} {f0 f1 : Field} {α0 α1 : Type} {g0 : α0 → List DV} {g1 : α1 → List DV} {φ0 : α0 → DataW H → Prop} {φ1 : α1 → DataW H → Prop} (ht : P.underlying t = some (.struct #[f0, f1])) (h0 : Reads enc P w base spare held f0.type g0 φ0) (h1 : Reads enc P w base spare held f1.type g1 φ1)
    (o0 : f0.offset = 0) (o1 : f1.offset = P.cellsOf f0.type) (hc : P.cellsOf t = P.cellsOf f0.type + P.cellsOf f1.type) :
    Reads enc P w base spare held t (fun a : α0 × α1 => g0 a.1 ++ g1 a.2) (fun a d => ∃ d0 d1, d = .agg [d0, d1] ∧ φ0 a.1 d0 ∧ φ1 a.2 d1) := by
  intro n cs x h
  obtain ⟨xs, m, rfl, rfl, hl, hxs, hf⟩ := DataW.trod_struct ht h
  match xs, hxs with
  | [x0, x1], _ =>
    have e0 := hf 0 f0 rfl
    have e1 := hf 1 f1 rfl
    rw [o0] at e0
    rw [o1] at e1
    obtain ⟨a0, c0, p0⟩ := h0 m _ x0 e0
    obtain ⟨a1, c1, p1⟩ := h1 m _ x1 e1
    refine ⟨(a0, a1), ?_, x0.1, x1.1, rfl, p0, p1⟩
    have := c0.append c1
    rw [List.drop_zero, List.take_of_length_le (l := cs.drop _) (by rw [List.length_drop, hl, hc]; omega), List.take_append_drop] at this
    exact this

theorem Reads.struct3 {t : TypeId} {f0 f1 f2 : Field} {α0 α1 α2 : Type} {g0 : α0 → List DV} {g1 : α1 → List DV} {g2 : α2 → List DV} {φ0 : α0 → DataW H → Prop} {φ1 : α1 → DataW H → Prop} {φ2 : α2 → DataW H → Prop} (ht : P.underlying t = some (.struct #[f0, f1, f2])) (h0 : Reads enc P w base spare held f0.type g0 φ0) (h1 : Reads enc P w base spare held f1.type g1 φ1) (h2 : Reads enc P w base spare held f2.type g2 φ2)
    (o0 : f0.offset = 0) (o1 : f1.offset = P.cellsOf f0.type) (o2 : f2.offset = P.cellsOf f0.type + P.cellsOf f1.type) (hc : P.cellsOf t = P.cellsOf f0.type + P.cellsOf f1.type + P.cellsOf f2.type) :
    Reads enc P w base spare held t (fun a : α0 × α1 × α2 => g0 a.1 ++ (g1 a.2.1 ++ g2 a.2.2)) (fun a d => ∃ d0 d1 d2, d = .agg [d0, d1, d2] ∧ φ0 a.1 d0 ∧ φ1 a.2.1 d1 ∧ φ2 a.2.2 d2) := by
  intro n cs x h
  obtain ⟨xs, m, rfl, rfl, hl, hxs, hf⟩ := DataW.trod_struct ht h
  match xs, hxs with
  | [x0, x1, x2], _ =>
    have e0 := hf 0 f0 rfl
    have e1 := hf 1 f1 rfl
    have e2 := hf 2 f2 rfl
    rw [o0] at e0
    rw [o1] at e1
    rw [o2] at e2
    obtain ⟨a0, c0, p0⟩ := h0 m _ x0 e0
    obtain ⟨a1, c1, p1⟩ := h1 m _ x1 e1
    obtain ⟨a2, c2, p2⟩ := h2 m _ x2 e2
    refine ⟨(a0, a1, a2), ?_, x0.1, x1.1, x2.1, rfl, p0, p1, p2⟩
    have := c0.append (c1.append c2)
    rw [List.drop_zero, ← List.drop_drop, List.take_of_length_le (l := (cs.drop _).drop _) (by rw [List.length_drop, List.length_drop, hl, hc]; omega), List.take_append_drop, List.take_append_drop] at this
    exact this

theorem Reads.array {t e : TypeId} {k : Nat} {α : Type} {f : α → List DV} {φ : α → DataW H → Prop} (ht : P.underlying t = some (.array k e)) (he : Reads enc P w base spare held e f φ) (sz : Nat) (hc : P.cellsOf e = sz) (hct : P.cellsOf t = k * sz) :
    Reads enc P w base spare held t (fun l : List α => (l.map f).flatten) (fun l d => l.length = k ∧ ∃ es, d = .agg es ∧ es.length = k ∧ ∀ (j : Nat) a dd, l[j]? = some a → es[j]? = some dd → φ a dd) := by
  intro n cs x h
  obtain ⟨xs, m, rfl, rfl, hl, hxs, hf⟩ := DataW.trod_array ht h
  rw [hc] at hf
  rw [hct] at hl
  have key : ∀ (q : Nat) (i : Nat), i + q = k → ∃ l : List α, l.length = q ∧ CellsDR (allRd w) (l.map f).flatten (cs.drop (i * sz)) ∧ ∀ (j : Nat) a y, l[j]? = some a → xs[i + j]? = some y → φ a y.1 := by
    intro q
    induction q with
    | zero =>
      intro i hi
      refine ⟨[], rfl, ⟨?_, by simp⟩, by simp⟩
      have : i = k := by omega
      subst this
      simp [hl]
    | succ q ih =>
      intro i hi
      have hik : i < k := by omega
      have h1 := hf i hik
      rw [List.getElem?_eq_getElem (show i < xs.length by omega)] at h1
      obtain ⟨a, c1, p1⟩ := he m _ _ h1
      obtain ⟨l, l1, l2, l3⟩ := ih (i + 1) (by omega)
      refine ⟨a :: l, by simp [l1], ?_, fun j b y hb hy => ?_⟩
      · have := c1.append l2
        rw [Nat.add_mul, Nat.one_mul, ← List.drop_drop, List.take_append_drop] at this
        simpa using this
      · cases j with
        | zero =>
          simp at hb
          subst hb
          rw [Nat.add_zero, List.getElem?_eq_getElem (show i < xs.length by omega)] at hy
          cases hy
          exact p1
        | succ j => exact l3 j b y (by simpa using hb) (by rw [← hy]; congr 1; omega)
  obtain ⟨l, l1, l2, l3⟩ := key k 0 (by omega)
  refine ⟨l, by simpa using l2, l1, _, rfl, by simp [hxs], fun j a dd ha hd => ?_⟩
  rw [List.getElem?_map] at hd
  cases hx : xs[j]? with
  | none => rw [hx] at hd; cases hd
  | some y => rw [hx] at hd; cases hd; exact l3 j a y ha (by simpa using hx)
end Go.PM
