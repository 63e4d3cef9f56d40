/- The walks through the functions that make inputs. Intervals, verdicts, cells: the smallest functions walked. Boxes: valid, containing a configuration. Boxes: touching, middles; verdicts in form. Halving a box; the boxes of a tree. The boxes of a tree: what they are. -/
import Derived.Test.YtmljpbhmdjpbaaaTy
import Derived.Test.YtmljpbhmdjpbaaaPm33
import Derived.IntWalk
namespace Go.Proofs.Ytmljpbhmdjpbaaa
set_option linter.unusedVariables false
set_option linter.unusedSimpArgs false
open Go.PM

theorem wrapIn {x : Int} (h1 : -9223372036854775808 ≤ x) (h2 : x ≤ 9223372036854775807) : IntKind.i64.wrap x = x := IntWalk.i64_in x ⟨h1, h2⟩

theorem pcall_round (n k : Int) (hn1 : -9223372036854775808 ≤ n) (hn2 : n ≤ 9223372036854775807) (hk : 0 < k) (hk2 : k ≤ 4611686018427387904) : PCall Try.prog 19 [.i n, .i k] (.i (n % k)) := by
  have hm := Int.tmod_lt_of_pos n hk
  have hm2 : -k < n.tmod k := by
    have := Int.tmod_lt_of_pos (-n) hk
    rw [Int.neg_tmod] at this
    omega
  have hme : n % k = if n.tmod k < 0 then n.tmod k + k else n.tmod k := by
    have h1 := Int.emod_nonneg n (Int.ne_of_gt hk)
    have h2 := Int.emod_lt_of_pos n hk
    have h3 := Int.emod_def n k
    have h4 := Int.tmod_def n k
    have : ∃ z, n % k = n.tmod k + k * z := ⟨n.tdiv k - n / k, by rw [h3, h4, Int.mul_sub]; omega⟩
    obtain ⟨z, hz⟩ := this
    split
    · have : z = 1 := by
        have a1 : 0 < z := by
          rcases Int.lt_or_le 0 z with h | h
          · exact h
          · have := Int.mul_le_mul_of_nonneg_left h (Int.le_of_lt hk); omega
        have a2 : z < 2 := by
          rcases Int.lt_or_le z 2 with h | h
          · exact h
          · have := Int.mul_le_mul_of_nonneg_left h (Int.le_of_lt hk); omega
        omega
      subst this; omega
    · have : z = 0 := by
        have a1 : -1 < z := by
          rcases Int.lt_or_le (-1) z with h | h
          · exact h
          · have := Int.mul_le_mul_of_nonneg_left h (Int.le_of_lt hk); omega
        have a2 : z < 1 := by
          rcases Int.lt_or_le z 1 with h | h
          · exact h
          · have := Int.mul_le_mul_of_nonneg_left h (Int.le_of_lt hk); omega
        omega
      subst this; omega
  refine walk Try.func19 (by kernel_rfl) rfl 15 rfl (Nat.le_of_ble_eq_true rfl) fun nid _ => ?_
  refine Tr.seq (Tr.regionK fun K hK => ?_)
  simp [Try.f19]
  refine hK _ (Tr.seq (Tr.regionK fun K1 hK1 => ?_)); clear hK K
  simp [Try.f19]
  refine ⟨by omega, hK1 _ (Tr.seq (Tr.seq (Tr.regionK fun K hK => ?_)))⟩; clear hK1 K1
  simp [Try.f19]
  refine hK _ (Tr.cond rfl rfl ?_ ?_) <;> clear hK K <;> intro hq
  · simp at hq
    refine Tr.regionK fun K hK => ?_
    simp [Try.f19]
    refine hK _ (Tr.seq (Tr.regionK fun K1 hK1 => ?_)); clear hK K
    simp [Try.f19]
    refine hK1 _ (Tr.ret ⟨.inr rfl, ?_, ?_, ?_, ?_⟩) <;> simp [Try.f19]
    rw [hme, if_pos hq, wrapIn (by omega) (by omega)]
  · simp at hq
    refine Tr.skip (Tr.seq (Tr.regionK fun K1 hK1 => ?_))
    simp [Try.f19]
    refine hK1 _ (Tr.ret ⟨.inr rfl, ?_, ?_, ?_, ?_⟩) <;> simp [Try.f19]
    rw [hme, if_neg (by omega)]

/-- A source of numbers. -/
abbrev ints (l : List Int) : List (List DV) := l.map fun x => [.val (.int .i64 x)]
abbrev intD (x : Int) : List DV := [.val (.int .i64 x)]
abbrev srcRow (l : List Int) (k : Nat) : PB := ⟨161, 2, [[.d (.imm (ints l)), .i k]]⟩
def nextV (l : List Int) (j : Nat) (k : Int) : Int := match l[j]? with | some x => x % k | none => 0
def nextN (l : List Int) (j : Nat) : Nat := if j < l.length then j + 1 else j

theorem hcall_next (l : List Int) (j s : Nat) (k : Int) (hl : ∀ x ∈ l, -9223372036854775808 ≤ x ∧ x ≤ 9223372036854775807) (hlen : l.length ≤ 1048576) (hj : j ≤ l.length) (hk : 0 < k) (hk2 : k ≤ 4611686018427387904) :
    HCall Try.prog 55 [.ptr s 0 0, .i k] [(s, srcRow l j)] [s] (fun _ => .i (nextV l j k)) [(s, srcRow l (nextN l j))] [] := by
  refine walk Try.func55 (by kernel_rfl) rfl 35 rfl (Nat.le_of_ble_eq_true rfl) fun nid hid => ?_
  have hs : s < nid := hid _ (List.mem_cons_self ..)
  refine Tr.seq (Tr.regionK fun K hK => ?_)
  simp [Try.f55, hs]
  refine hK _ (Tr.seq (Tr.seq (Tr.regionE mixed (by kernel_rfl) fun K1 hK1 => ?_))); clear hK K
  simp [Try.f55, hs]
  refine hK1 _ (Tr.cond rfl rfl ?_ ?_) <;> clear hK1 K1 <;> intro hq
  · simp at hq
    refine Tr.seq (Tr.regionK fun K1 hK1 => ?_)
    simp [Try.f55, hs]
    refine hK1 _ (Tr.ret ⟨.inr rfl, ?_, ?_, ?_, ?_⟩) <;> simp [Try.f55, hs]
    · unfold nextV; rw [List.getElem?_eq_none (by omega)]
    · unfold nextN; rw [if_neg (by omega)]
  · simp at hq
    have hlt : j < l.length := by omega
    have hx := hl _ (List.getElem_mem hlt)
    have w1 : IntKind.i64.wrap ((j : Int) + 1) = ((j + 1 : Nat) : Int) := by rw [wrapIn (by omega) (by omega)]; rfl
    have w2 : IntKind.i64.wrap (j : Int) = (j : Int) := wrapIn (by omega) (by omega)
    have hg : l[j]? = some l[j] := List.getElem?_eq_getElem hlt
    refine Tr.skip (Tr.seq (Tr.regionK fun K1 hK1 => ?_))
    simp [Try.f55, hs, w1]
    refine hK1 _ (Tr.seq (Tr.regionE mixed (by kernel_rfl) fun K hK => ?_)); clear hK1 K1
    simp [Try.f55, hs, w2, hg, hlt]
    refine .inl ⟨_, pcall_round l[j] k hx.1 hx.2 hk hk2, ?_⟩
    simp [hs]
    refine hK _ (Tr.ret ⟨.inr rfl, ?_, ?_, ?_, ?_⟩) <;> simp [Try.f55, hs, nextV, hg, nextN, hlt]
theorem hcall_from (l : List Int) : HCall Try.prog 51 [.d (.imm (ints l))] [] [] (fun n => .ptr n 0 0) [] [srcRow l 0] := by
  refine walkN Try.func51 (by kernel_rfl) rfl 6 rfl (Nat.le_of_ble_eq_true rfl) fun nid _ => ?_
  refine Tr.seq (Tr.regionK fun K hK => ?_)
  simp [Try.f51]
  refine hK _ (Tr.seq (Tr.regionK fun K1 hK1 => ?_)); clear hK K
  simp [Try.f51]
  refine hK1 _ (Tr.renum [nid + 12] [(2, .ptr nid 0 0)] [(nid, srcRow l 0)] ⟨rfl, ?_, ?_, ?_, ?_⟩ (Tr.ret ⟨.inr rfl, [nid], ?_, ?_, ?_, ?_, ?_, ?_, ?_⟩)) <;> simp [Try.f51, renK, add_add]
  intro j k hj
  match j, hj with
  | 0, hj =>
    simp at hj
    subst hj
    simp
  | j + 1, hj => simp at hj
end Go.Proofs.Ytmljpbhmdjpbaaa
namespace Go.Proofs.Ytmljpbhmdjpbaaa
set_option linter.unusedVariables false
set_option linter.unusedSimpArgs false
open Go.PM

structure Iv where
  lo : Int
  hi : Int
deriving DecidableEq
abbrev ivD (a : Iv) : List DV := [.val (.int .i64 a.lo), .val (.int .i64 a.hi)]
abbrev ivs (l : List Iv) : List (List DV) := l.map ivD
abbrev ivP (a : Iv) : PV := .agg [.i a.lo, .i a.hi]
def Iv.ok (a : Iv) : Bool := decide (-2147483648 ≤ a.lo) && (decide (a.lo ≤ a.hi) && decide (a.hi ≤ 2147483648))
theorem Iv.ok_iff {a : Iv} : a.ok = true ↔ -2147483648 ≤ a.lo ∧ a.lo ≤ a.hi ∧ a.hi ≤ 2147483648 := by simp [Iv.ok]
def Iv.has (a : Iv) (x : Int) : Bool := a.ok && (decide (a.lo ≤ x) && decide (x ≤ a.hi))
def Iv.mid (a : Iv) : Int := if a.ok then (a.lo + a.hi) / 2 else 0
def Iv.width (a : Iv) : Int := if a.ok then a.hi - a.lo else 0
def Iv.meets (a b : Iv) : Bool := a.ok && (b.ok && decide (max a.lo b.lo ≤ min a.hi b.hi))
def Iv.R (a : Iv) : Prop := (-9223372036854775808 ≤ a.lo ∧ a.lo ≤ 9223372036854775807) ∧ (-9223372036854775808 ≤ a.hi ∧ a.hi ≤ 9223372036854775807)
structure V3 where
  a : Int
  b : Int
  c : Int
deriving DecidableEq
abbrev vecD (v : V3) : List DV := [.val (.int .i64 v.a), .val (.int .i64 v.b), .val (.int .i64 v.c)]
abbrev vecs (l : List V3) : List (List DV) := l.map vecD
structure Wt where
  pair : Int
  left : List Int
  right : List Int
deriving DecidableEq
abbrev witD (w : Wt) : List DV := [.val (.int .i64 w.pair), .imm (ints w.left), .imm (ints w.right)]
abbrev witP (w : Wt) : PV := .agg [.i w.pair, .d (.imm (ints w.left)), .d (.imm (ints w.right))]
structure Vd where
  kind : Int
  ns : List V3
  w : Wt
deriving DecidableEq
abbrev vdD (v : Vd) : List DV := [.val (.int .i64 v.kind), .imm (vecs v.ns), .val (.int .i64 v.w.pair), .imm (ints v.w.left), .imm (ints v.w.right)]
abbrev vdP (v : Vd) : PV := .agg [.i v.kind, .d (.imm (vecs v.ns)), .i v.w.pair, .d (.imm (ints v.w.left)), .d (.imm (ints v.w.right))]
structure Cel where
  j : Int
  lo : Int
  hi : Int
  v : Vd
deriving DecidableEq
abbrev celD (c : Cel) : List DV := [.val (.int .i64 c.j), .val (.int .i64 c.lo), .val (.int .i64 c.hi), .val (.int .i64 c.v.kind), .imm (vecs c.v.ns), .val (.int .i64 c.v.w.pair), .imm (ints c.v.w.left), .imm (ints c.v.w.right)]
abbrev cels (l : List Cel) : List (List DV) := l.map celD
abbrev celP (c : Cel) : PV := .agg [.i c.j, .i c.lo, .i c.hi, .i c.v.kind, .d (.imm (vecs c.v.ns)), .i c.v.w.pair, .d (.imm (ints c.v.w.left)), .d (.imm (ints c.v.w.right))]
structure Tree where
  root : List Iv
  cells : List Cel
deriving DecidableEq
abbrev treeP (t : Tree) : PV := .agg [.d (.imm (ivs t.root)), .d (.imm (cels t.cells))]

def Wt.empty (w : Wt) : Bool := decide (w.pair = 0) && (decide (w.left.length = 0) && decide (w.right.length = 0))
def Vd.zero (v : Vd) : Bool := decide (v.kind = 0) && (decide (v.ns.length = 0) && v.w.empty)
def Vd.inForm (v : Vd) : Bool := if v.kind = 0 ∨ v.kind = 1 then v.w.empty else if v.kind = 2 then decide (v.ns.length = 0) else false
def Cel.leaf (c : Cel) : Bool := decide (c.j = -1) && (decide (c.lo = -1) && decide (c.hi = -1))
def Cel.coll (c : Cel) : Bool := decide (c.v.kind = 2)

theorem pcall_refValid (a : Iv) :
    PCall Try.prog 68 [ivP a] (.b a.ok) := by
  refine walk Try.func68 (by kernel_rfl) rfl 18 rfl (Nat.le_of_ble_eq_true rfl) fun nid _ => ?_
  refine Tr.seq (Tr.regionK fun K hK => ?_)
  simp [add_add]
  refine hK _ ?_; clear hK K
  by_cases s1_0 : -2147483648 ≤ a.lo
  · have s1_0' := s1_0
    by_cases s1_1 : a.lo ≤ a.hi
    · have s1_1' := s1_1
      by_cases s1_2 : a.hi ≤ 2147483648
      · have s1_2' := s1_2
        refine Tr.seq (Tr.regionK fun K hK => ?_)
        simp [add_add, s1_0, s1_1, s1_2]
        refine hK _ ?_; clear hK K
        refine Tr.ret ⟨.inr rfl, ?_, ?_, ?_, ?_⟩ <;> simp [Try.f68, s1_0, s1_1, s1_2, Iv.ok]
      refine Tr.seq (Tr.regionK fun K hK => ?_)
      simp [add_add, s1_0, s1_1, s1_2]
      refine hK _ ?_; clear hK K
      refine Tr.ret ⟨.inr rfl, ?_, ?_, ?_, ?_⟩ <;> simp [Try.f68, s1_0, s1_1, s1_2, Iv.ok]
    refine Tr.seq (Tr.regionK fun K hK => ?_)
    simp [add_add, s1_0, s1_1]
    refine hK _ ?_; clear hK K
    refine Tr.ret ⟨.inr rfl, ?_, ?_, ?_, ?_⟩ <;> simp [Try.f68, s1_0, s1_1, Iv.ok]
  refine Tr.seq (Tr.regionK fun K hK => ?_)
  simp [add_add, s1_0]
  refine hK _ ?_; clear hK K
  refine Tr.ret ⟨.inr rfl, ?_, ?_, ?_, ?_⟩ <;> simp [Try.f68, s1_0, Iv.ok]
theorem pcall_ivValid (a : Iv) :
    PCall Try.prog 154 [ivP a] (.b a.ok) := by
  refine walk Try.func154 (by kernel_rfl) rfl 18 rfl (Nat.le_of_ble_eq_true rfl) fun nid _ => ?_
  refine Tr.seq (Tr.regionK fun K hK => ?_)
  simp [add_add]
  refine hK _ ?_; clear hK K
  by_cases s1_0 : -2147483648 ≤ a.lo
  · have s1_0' := s1_0
    by_cases s1_1 : a.lo ≤ a.hi
    · have s1_1' := s1_1
      by_cases s1_2 : a.hi ≤ 2147483648
      · have s1_2' := s1_2
        refine Tr.seq (Tr.regionK fun K hK => ?_)
        simp [add_add, s1_0, s1_1, s1_2]
        refine hK _ ?_; clear hK K
        refine Tr.ret ⟨.inr rfl, ?_, ?_, ?_, ?_⟩ <;> simp [Try.f154, s1_0, s1_1, s1_2, Iv.ok]
      refine Tr.seq (Tr.regionK fun K hK => ?_)
      simp [add_add, s1_0, s1_1, s1_2]
      refine hK _ ?_; clear hK K
      refine Tr.ret ⟨.inr rfl, ?_, ?_, ?_, ?_⟩ <;> simp [Try.f154, s1_0, s1_1, s1_2, Iv.ok]
    refine Tr.seq (Tr.regionK fun K hK => ?_)
    simp [add_add, s1_0, s1_1]
    refine hK _ ?_; clear hK K
    refine Tr.ret ⟨.inr rfl, ?_, ?_, ?_, ?_⟩ <;> simp [Try.f154, s1_0, s1_1, Iv.ok]
  refine Tr.seq (Tr.regionK fun K hK => ?_)
  simp [add_add, s1_0]
  refine hK _ ?_; clear hK K
  refine Tr.ret ⟨.inr rfl, ?_, ?_, ?_, ?_⟩ <;> simp [Try.f154, s1_0, Iv.ok]
theorem pcall_refLeaf (c : Cel) :
    PCall Try.prog 69 [celP c] (.b c.leaf) := by
  refine walk Try.func69 (by kernel_rfl) rfl 16 rfl (Nat.le_of_ble_eq_true rfl) fun nid _ => ?_
  refine Tr.seq (Tr.regionK fun K hK => ?_)
  simp [add_add]
  refine hK _ ?_; clear hK K
  by_cases s1_0 : c.j = -1
  · have s1_0' := s1_0
    by_cases s1_1 : c.lo = -1
    · have s1_1' := s1_1
      by_cases s1_2 : c.hi = -1
      · have s1_2' := s1_2
        refine Tr.seq (Tr.regionK fun K hK => ?_)
        simp [add_add, s1_0, s1_1, s1_2]
        refine hK _ ?_; clear hK K
        refine Tr.ret ⟨.inr rfl, ?_, ?_, ?_, ?_⟩ <;> simp [Try.f69, s1_0, s1_1, s1_2, Cel.leaf]
      refine Tr.seq (Tr.regionK fun K hK => ?_)
      simp [add_add, s1_0, s1_1, s1_2]
      refine hK _ ?_; clear hK K
      refine Tr.ret ⟨.inr rfl, ?_, ?_, ?_, ?_⟩ <;> simp [Try.f69, s1_0, s1_1, s1_2, Cel.leaf]
    refine Tr.seq (Tr.regionK fun K hK => ?_)
    simp [add_add, s1_0, s1_1]
    refine hK _ ?_; clear hK K
    refine Tr.ret ⟨.inr rfl, ?_, ?_, ?_, ?_⟩ <;> simp [Try.f69, s1_0, s1_1, Cel.leaf]
  refine Tr.seq (Tr.regionK fun K hK => ?_)
  simp [add_add, s1_0]
  refine hK _ ?_; clear hK K
  refine Tr.ret ⟨.inr rfl, ?_, ?_, ?_, ?_⟩ <;> simp [Try.f69, s1_0, Cel.leaf]
theorem pcall_isLeaf (c : Cel) :
    PCall Try.prog 126 [celP c] (.b c.leaf) := by
  refine walk Try.func126 (by kernel_rfl) rfl 16 rfl (Nat.le_of_ble_eq_true rfl) fun nid _ => ?_
  refine Tr.seq (Tr.regionK fun K hK => ?_)
  simp [add_add]
  refine hK _ ?_; clear hK K
  by_cases s1_0 : c.j = -1
  · have s1_0' := s1_0
    by_cases s1_1 : c.lo = -1
    · have s1_1' := s1_1
      by_cases s1_2 : c.hi = -1
      · have s1_2' := s1_2
        refine Tr.seq (Tr.regionK fun K hK => ?_)
        simp [add_add, s1_0, s1_1, s1_2]
        refine hK _ ?_; clear hK K
        refine Tr.ret ⟨.inr rfl, ?_, ?_, ?_, ?_⟩ <;> simp [Try.f126, s1_0, s1_1, s1_2, Cel.leaf]
      refine Tr.seq (Tr.regionK fun K hK => ?_)
      simp [add_add, s1_0, s1_1, s1_2]
      refine hK _ ?_; clear hK K
      refine Tr.ret ⟨.inr rfl, ?_, ?_, ?_, ?_⟩ <;> simp [Try.f126, s1_0, s1_1, s1_2, Cel.leaf]
    refine Tr.seq (Tr.regionK fun K hK => ?_)
    simp [add_add, s1_0, s1_1]
    refine hK _ ?_; clear hK K
    refine Tr.ret ⟨.inr rfl, ?_, ?_, ?_, ?_⟩ <;> simp [Try.f126, s1_0, s1_1, Cel.leaf]
  refine Tr.seq (Tr.regionK fun K hK => ?_)
  simp [add_add, s1_0]
  refine hK _ ?_; clear hK K
  refine Tr.ret ⟨.inr rfl, ?_, ?_, ?_, ?_⟩ <;> simp [Try.f126, s1_0, Cel.leaf]
theorem pcall_isColliding (c : Cel) :
    PCall Try.prog 64 [celP c] (.b c.coll) := by
  refine walk Try.func64 (by kernel_rfl) rfl 7 rfl (Nat.le_of_ble_eq_true rfl) fun nid _ => ?_
  refine Tr.seq (Tr.regionK fun K hK => ?_)
  simp [add_add]
  refine hK _ ?_; clear hK K
  refine Tr.seq (Tr.regionK fun K hK => ?_)
  simp [add_add]
  refine hK _ ?_; clear hK K
  refine Tr.ret ⟨.inr rfl, ?_, ?_, ?_, ?_⟩ <;> simp [Try.f64, Cel.coll]
theorem pcall_empty (w : Wt) :
    PCall Try.prog 122 [witP w] (.b w.empty) := by
  refine walk Try.func122 (by kernel_rfl) rfl 18 rfl (Nat.le_of_ble_eq_true rfl) fun nid _ => ?_
  refine Tr.seq (Tr.regionK fun K hK => ?_)
  simp [add_add]
  refine hK _ ?_; clear hK K
  by_cases s1_0 : w.pair = 0
  · have s1_0' := s1_0
    by_cases s1_1 : w.left = []
    · have s1_1' := s1_1
      by_cases s1_2 : w.right = []
      · have s1_2' := s1_2
        refine Tr.seq (Tr.regionK fun K hK => ?_)
        simp [add_add, s1_0, s1_1, s1_2]
        refine hK _ ?_; clear hK K
        refine Tr.ret ⟨.inr rfl, ?_, ?_, ?_, ?_⟩ <;> simp [Try.f122, s1_0, s1_1, s1_2, Wt.empty]
      refine Tr.seq (Tr.regionK fun K hK => ?_)
      simp [add_add, s1_0, s1_1, s1_2]
      refine hK _ ?_; clear hK K
      refine Tr.ret ⟨.inr rfl, ?_, ?_, ?_, ?_⟩ <;> simp [Try.f122, s1_0, s1_1, s1_2, Wt.empty]
    refine Tr.seq (Tr.regionK fun K hK => ?_)
    simp [add_add, s1_0, s1_1]
    refine hK _ ?_; clear hK K
    refine Tr.ret ⟨.inr rfl, ?_, ?_, ?_, ?_⟩ <;> simp [Try.f122, s1_0, s1_1, Wt.empty]
  refine Tr.seq (Tr.regionK fun K hK => ?_)
  simp [add_add, s1_0]
  refine hK _ ?_; clear hK K
  refine Tr.ret ⟨.inr rfl, ?_, ?_, ?_, ?_⟩ <;> simp [Try.f122, s1_0, Wt.empty]
theorem pcall_zero (v : Vd) :
    PCall Try.prog 71 [vdP v] (.b v.zero) := by
  refine walk Try.func71 (by kernel_rfl) rfl 17 rfl (Nat.le_of_ble_eq_true rfl) fun nid _ => ?_
  refine Tr.seq (Tr.regionK fun K hK => ?_)
  simp [add_add]
  refine hK _ ?_; clear hK K
  by_cases s1_0 : v.kind = 0
  · have s1_0' := s1_0
    by_cases s1_1 : v.ns = []
    · have s1_1' := s1_1
      refine Tr.seq (Tr.regionK fun K hK => ?_)
      simp [add_add, s1_0, s1_1]
      refine .inl ⟨_, pcall_empty v.w, rfl, ?_⟩
      simp [add_add]
      refine hK _ ?_; clear hK K
      refine Tr.ret ⟨.inr rfl, ?_, ?_, ?_, ?_⟩ <;> simp [Try.f71, s1_0, s1_1, Vd.zero]
    refine Tr.seq (Tr.regionK fun K hK => ?_)
    simp [add_add, s1_0, s1_1]
    refine hK _ ?_; clear hK K
    refine Tr.ret ⟨.inr rfl, ?_, ?_, ?_, ?_⟩ <;> simp [Try.f71, s1_0, s1_1, Vd.zero]
  refine Tr.seq (Tr.regionK fun K hK => ?_)
  simp [add_add, s1_0]
  refine hK _ ?_; clear hK K
  refine Tr.ret ⟨.inr rfl, ?_, ?_, ?_, ?_⟩ <;> simp [Try.f71, s1_0, Vd.zero]
theorem pcall_refHas (a : Iv) (x : Int) :
    PCall Try.prog 77 [ivP a, .i x] (.b (a.has x)) := by
  refine walk Try.func77 (by kernel_rfl) rfl 19 rfl (Nat.le_of_ble_eq_true rfl) fun nid _ => ?_
  refine Tr.seq (Tr.regionK fun K hK => ?_)
  simp [add_add]
  refine hK _ ?_; clear hK K
  rcases Bool.eq_false_or_eq_true (a.ok) with s1_0 | s1_0
  · have s1_0' := s1_0
    by_cases s1_1 : a.lo ≤ x
    · have s1_1' := s1_1
      by_cases s1_2 : x ≤ a.hi
      · have s1_2' := s1_2
        refine Tr.seq (Tr.regionK fun K hK => ?_)
        simp [add_add]
        refine .inl ⟨_, pcall_refValid a, rfl, ?_⟩
        simp [add_add, s1_0, s1_1, s1_2]
        refine hK _ ?_; clear hK K
        refine Tr.ret ⟨.inr rfl, ?_, ?_, ?_, ?_⟩ <;> simp [Try.f77, s1_0, s1_1, s1_2, Iv.has]
      refine Tr.seq (Tr.regionK fun K hK => ?_)
      simp [add_add]
      refine .inl ⟨_, pcall_refValid a, rfl, ?_⟩
      simp [add_add, s1_0, s1_1, s1_2]
      refine hK _ ?_; clear hK K
      refine Tr.ret ⟨.inr rfl, ?_, ?_, ?_, ?_⟩ <;> simp [Try.f77, s1_0, s1_1, s1_2, Iv.has]
    refine Tr.seq (Tr.regionK fun K hK => ?_)
    simp [add_add]
    refine .inl ⟨_, pcall_refValid a, rfl, ?_⟩
    simp [add_add, s1_0, s1_1]
    refine hK _ ?_; clear hK K
    refine Tr.ret ⟨.inr rfl, ?_, ?_, ?_, ?_⟩ <;> simp [Try.f77, s1_0, s1_1, Iv.has]
  refine Tr.seq (Tr.regionK fun K hK => ?_)
  simp [add_add]
  refine .inl ⟨_, pcall_refValid a, rfl, ?_⟩
  simp [add_add, s1_0]
  refine hK _ ?_; clear hK K
  refine Tr.ret ⟨.inr rfl, ?_, ?_, ?_, ?_⟩ <;> simp [Try.f77, s1_0, Iv.has]
theorem pcall_ivHas (a : Iv) (x : Int) :
    PCall Try.prog 116 [ivP a, .i x] (.b (a.has x)) := by
  refine walk Try.func116 (by kernel_rfl) rfl 19 rfl (Nat.le_of_ble_eq_true rfl) fun nid _ => ?_
  refine Tr.seq (Tr.regionK fun K hK => ?_)
  simp [add_add]
  refine hK _ ?_; clear hK K
  rcases Bool.eq_false_or_eq_true (a.ok) with s1_0 | s1_0
  · have s1_0' := s1_0
    by_cases s1_1 : a.lo ≤ x
    · have s1_1' := s1_1
      by_cases s1_2 : x ≤ a.hi
      · have s1_2' := s1_2
        refine Tr.seq (Tr.regionK fun K hK => ?_)
        simp [add_add]
        refine .inl ⟨_, pcall_ivValid a, rfl, ?_⟩
        simp [add_add, s1_0, s1_1, s1_2]
        refine hK _ ?_; clear hK K
        refine Tr.ret ⟨.inr rfl, ?_, ?_, ?_, ?_⟩ <;> simp [Try.f116, s1_0, s1_1, s1_2, Iv.has]
      refine Tr.seq (Tr.regionK fun K hK => ?_)
      simp [add_add]
      refine .inl ⟨_, pcall_ivValid a, rfl, ?_⟩
      simp [add_add, s1_0, s1_1, s1_2]
      refine hK _ ?_; clear hK K
      refine Tr.ret ⟨.inr rfl, ?_, ?_, ?_, ?_⟩ <;> simp [Try.f116, s1_0, s1_1, s1_2, Iv.has]
    refine Tr.seq (Tr.regionK fun K hK => ?_)
    simp [add_add]
    refine .inl ⟨_, pcall_ivValid a, rfl, ?_⟩
    simp [add_add, s1_0, s1_1]
    refine hK _ ?_; clear hK K
    refine Tr.ret ⟨.inr rfl, ?_, ?_, ?_, ?_⟩ <;> simp [Try.f116, s1_0, s1_1, Iv.has]
  refine Tr.seq (Tr.regionK fun K hK => ?_)
  simp [add_add]
  refine .inl ⟨_, pcall_ivValid a, rfl, ?_⟩
  simp [add_add, s1_0]
  refine hK _ ?_; clear hK K
  refine Tr.ret ⟨.inr rfl, ?_, ?_, ?_, ?_⟩ <;> simp [Try.f116, s1_0, Iv.has]
theorem pcall_width (a : Iv) :
    PCall Try.prog 156 [ivP a] (.i a.width) := by
  refine walk Try.func156 (by kernel_rfl) rfl 11 rfl (Nat.le_of_ble_eq_true rfl) fun nid _ => ?_
  refine Tr.seq (Tr.regionK fun K hK => ?_)
  simp [add_add]
  refine hK _ ?_; clear hK K
  refine Tr.seq ?_
  rcases Bool.eq_false_or_eq_true (a.ok) with s1_0 | s1_0
  · have s1_0' := s1_0
    have hok := Iv.ok_iff.1 s1_0
    have w : IntKind.i64.wrap (a.hi - a.lo) = a.hi - a.lo := wrapIn (by omega) (by omega)
    refine Tr.seq (Tr.regionK fun K hK => ?_)
    simp [add_add]
    refine .inl ⟨_, pcall_ivValid a, rfl, ?_⟩
    simp [add_add, s1_0]
    refine hK _ ?_; clear hK K
    refine Tr.cond rfl rfl (fun hq0 => by first | (cases hq0; done) | (simp at hq0; done) | (simp_all; done)) (fun hq0 => ?_)
    refine Tr.skip ?_
    refine Tr.seq (Tr.regionK fun K hK => ?_)
    simp [add_add, w]
    refine hK _ ?_; clear hK K
    refine Tr.ret ⟨.inr rfl, ?_, ?_, ?_, ?_⟩ <;> simp [Try.f156, s1_0, Iv.width]
  refine Tr.seq (Tr.regionK fun K hK => ?_)
  simp [add_add]
  refine .inl ⟨_, pcall_ivValid a, rfl, ?_⟩
  simp [add_add, s1_0]
  refine hK _ ?_; clear hK K
  refine Tr.cond rfl rfl (fun hq1 => ?_) (fun hq1 => by first | (cases hq1; done) | (simp at hq1; done) | (simp_all; done))
  refine Tr.seq (Tr.regionK fun K hK => ?_)
  simp [add_add]
  refine hK _ ?_; clear hK K
  refine Tr.ret ⟨.inr rfl, ?_, ?_, ?_, ?_⟩ <;> simp [Try.f156, s1_0, Iv.width]
theorem pcall_ivMid (a : Iv) :
    PCall Try.prog 157 [ivP a] (.i a.mid) := by
  refine walk Try.func157 (by kernel_rfl) rfl 12 rfl (Nat.le_of_ble_eq_true rfl) fun nid _ => ?_
  refine Tr.seq (Tr.regionK fun K hK => ?_)
  simp [add_add]
  refine hK _ ?_; clear hK K
  refine Tr.seq ?_
  rcases Bool.eq_false_or_eq_true (a.ok) with s1_0 | s1_0
  · have s1_0' := s1_0
    have hok := Iv.ok_iff.1 s1_0
    have w : IntKind.i64.wrap (a.lo + a.hi) = a.lo + a.hi := wrapIn (by omega) (by omega)
    have sh : (a.lo + a.hi).fdiv 2 = (a.lo + a.hi) / 2 := Int.fdiv_eq_ediv_of_nonneg _ (by omega)
    refine Tr.seq (Tr.regionK fun K hK => ?_)
    simp [add_add]
    refine .inl ⟨_, pcall_ivValid a, rfl, ?_⟩
    simp [add_add, s1_0]
    refine hK _ ?_; clear hK K
    refine Tr.cond rfl rfl (fun hq0 => by first | (cases hq0; done) | (simp at hq0; done) | (simp_all; done)) (fun hq0 => ?_)
    refine Tr.skip ?_
    refine Tr.seq (Tr.regionK fun K hK => ?_)
    simp [add_add, w, sh, IntKind.bits]
    refine hK _ ?_; clear hK K
    refine Tr.ret ⟨.inr rfl, ?_, ?_, ?_, ?_⟩ <;> simp [Try.f157, s1_0, Iv.mid]
  refine Tr.seq (Tr.regionK fun K hK => ?_)
  simp [add_add]
  refine .inl ⟨_, pcall_ivValid a, rfl, ?_⟩
  simp [add_add, s1_0]
  refine hK _ ?_; clear hK K
  refine Tr.cond rfl rfl (fun hq1 => ?_) (fun hq1 => by first | (cases hq1; done) | (simp at hq1; done) | (simp_all; done))
  refine Tr.seq (Tr.regionK fun K hK => ?_)
  simp [add_add]
  refine hK _ ?_; clear hK K
  refine Tr.ret ⟨.inr rfl, ?_, ?_, ?_, ?_⟩ <;> simp [Try.f157, s1_0, Iv.mid]
end Go.Proofs.Ytmljpbhmdjpbaaa
namespace Go.Proofs.Ytmljpbhmdjpbaaa
set_option linter.unusedVariables false
set_option linter.unusedSimpArgs false
open Go.PM

theorem all_false {α : Type} {p : α → Bool} {l : List α} {i : Nat} {x : α} (hx : l[i]? = some x) (h : p x = false) : l.all p = false := by
  rw [List.all_eq_false]
  exact ⟨x, List.mem_of_getElem? hx, by simp [h]⟩
theorem all_take {α : Type} {p : α → Bool} {l : List α} {i : Nat} {x : α} (h0 : (l.take i).all p = true) (hx : l[i]? = some x) (h : p x = true) : (l.take (i + 1)).all p = true := by
  rw [List.take_add_one, hx]
  simp only [Option.toList_some, List.all_append, h0, List.all_cons, h, List.all_nil, Bool.and_true]
theorem all_done {α : Type} {p : α → Bool} {l : List α} {i : Nat} (h0 : (l.take i).all p = true) (h : l.length ≤ i) : l.all p = true := by
  rw [List.take_of_length_le h] at h0; exact h0
theorem any_true {α : Type} {p : α → Bool} {l : List α} {i : Nat} {x : α} (hx : l[i]? = some x) (h : p x = true) : l.any p = true := by
  rw [List.any_eq_true]
  exact ⟨x, List.mem_of_getElem? hx, h⟩
theorem any_take {α : Type} {p : α → Bool} {l : List α} {i : Nat} {x : α} (h0 : (l.take i).any p = false) (hx : l[i]? = some x) (h : p x = false) : (l.take (i + 1)).any p = false := by
  rw [List.take_add_one, hx]
  simp only [Option.toList_some, List.any_append, h0, List.any_cons, h, List.any_nil, Bool.or_false]
theorem any_done {α : Type} {p : α → Bool} {l : List α} {i : Nat} (h0 : (l.take i).any p = false) (h : l.length ≤ i) : l.any p = false := by
  rw [List.take_of_length_le h] at h0; exact h0
theorem zip_get {α β : Type} {a : List α} {b : List β} {i : Nat} {x : α} {y : β} (hx : a[i]? = some x) (hy : b[i]? = some y) : (a.zip b)[i]? = some (x, y) := by
  rw [List.getElem?_zip_eq_some]; exact ⟨hx, hy⟩
/-- The first place at which p is true, or -1. -/
def idxI {α : Type} (p : α → Bool) (l : List α) : Int := if l.any p then (l.findIdx p : Int) else -1
theorem findIdx_at {α : Type} {p : α → Bool} : ∀ {l : List α} {i : Nat} {x : α}, (l.take i).any p = false → l[i]? = some x → p x = true → l.findIdx p = i
  | [], i, x, _, hx, _ => by simp at hx
  | y :: l, 0, x, _, hx, h => by simp at hx; subst hx; simp [List.findIdx_cons, h]
  | y :: l, i + 1, x, h0, hx, h => by
    simp only [List.take_succ_cons, List.any_cons, Bool.or_eq_false_iff] at h0
    have := findIdx_at (l := l) h0.2 (by simpa using hx) h
    simp [List.findIdx_cons, h0.1, this]
theorem idxI_at {α : Type} {p : α → Bool} {l : List α} {i : Nat} {x : α} (h0 : (l.take i).any p = false) (hx : l[i]? = some x) (h : p x = true) : idxI p l = i := by
  unfold idxI
  rw [any_true hx h, if_pos rfl, findIdx_at h0 hx h]
theorem idxI_nonneg {α : Type} (p : α → Bool) (l : List α) : decide (0 ≤ idxI p l) = l.any p := by
  unfold idxI
  cases h : l.any p <;> simp

def boxOk (b : List Iv) : Bool := b.all Iv.ok
def hasAll (b : List Iv) (c : List Int) : Bool := decide (b.length = c.length) && (b.zip c).all (fun x => x.1.has x.2)
def boxHas (b : List Iv) (c : List Int) : Bool := boxOk b && (hasAll b c)
def boxTouch (a b : List Iv) : Bool := boxOk a && (boxOk b && (decide (a.length = b.length) && (a.zip b).all (fun x => x.1.meets x.2)))
def over (x y : Iv) : Bool := decide (x.lo ≤ y.hi) && decide (y.lo ≤ x.hi)
def touchB (a b : List Iv) : Bool := (a.zip b).all (fun x => over x.1 x.2)

theorem pcall_refAllOk (b : List Iv) (hb : b.length ≤ 1048576) :
    PCall Try.prog 76 [.d (.imm (ivs b))] (.b (boxOk b)) := by
  refine walk Try.func76 (by kernel_rfl) rfl 16 rfl (Nat.le_of_ble_eq_true rfl) fun nid _ => ?_
  refine Tr.seq (Tr.regionK fun K hK => ?_)
  simp
  refine hK _ ?_; clear hK K
  refine Tr.seq ?_
  refine Tr.seq (Tr.regionK fun K hK => ?_)
  simp [add_add]
  refine hK _ ?_; clear hK K
  refine Tr.block ?_
  refine Tr.loopP [] [] [] (fun i : Nat => ([(0, .d (.imm (ivs b))), (3, .i i)],
  [])) (fun i : Nat => i ≤ b.length ∧ (b.take i).all Iv.ok = true) (fun i : Nat => b.length - i) 0 rfl ?_ ?_ ?_
  · exact ⟨by simp, by simp⟩
  · refine ⟨rfl, ?_, ?_, ?_, ?_⟩ <;> simp [add_add]
  rintro i ⟨hi, hall⟩ I hI0
  have w : IntKind.i64.wrap ((i : Int) + 1) = (i : Int) + 1 := wrapIn (by omega) (by omega)
  refine Tr.seq ?_
  refine Tr.seq (Tr.regionK fun K hK => ?_)
  simp [add_add]
  refine hK _ ?_; clear hK K
  refine Tr.cond rfl rfl (fun hq => ?_) (fun hq => ?_)
  · simp at hq
    obtain ⟨x, hx, hx'⟩ : ∃ x, b[i]? = some x ∧ b[i] = x := ⟨b[i], List.getElem?_eq_getElem hq, rfl⟩
    refine Tr.skip ?_
    refine Tr.seq ?_
    refine Tr.block ?_
    rcases Bool.eq_false_or_eq_true (x.ok) with s4_0 | s4_0
    · have s4_0' := s4_0
      refine Tr.seq (Tr.regionK fun K hK => ?_)
      simp [add_add, hx', hq]
      refine .inl ⟨_, pcall_refValid x, rfl, ?_⟩
      simp [add_add, s4_0]
      refine hK _ ?_; clear hK K
      refine Tr.cond rfl rfl (fun hq1 => by first | (cases hq1; done) | (simp at hq1; done) | (simp_all; done)) (fun hq1 => ?_)
      refine Tr.skip ?_
      refine Tr.regionK fun K hK => ?_
      simp [add_add, w]
      refine hK _ ?_; clear hK K
      refine hI0 _ _ (i + 1) (⟨hq, all_take hall hx s4_0⟩) (by first | (show _ < _; omega) | (simp; omega)) ⟨rfl, ?_, ?_, ?_, ?_⟩ <;> simp [add_add]
    have hf : boxOk b = false := all_false hx s4_0
    refine Tr.seq (Tr.regionK fun K hK => ?_)
    simp [add_add, hx', hq]
    refine .inl ⟨_, pcall_refValid x, rfl, ?_⟩
    simp [add_add, s4_0]
    refine hK _ ?_; clear hK K
    refine Tr.cond rfl rfl (fun hq2 => ?_) (fun hq2 => by first | (cases hq2; done) | (simp at hq2; done) | (simp_all; done))
    refine Tr.seq (Tr.regionK fun K hK => ?_)
    simp [add_add]
    refine hK _ ?_; clear hK K
    refine Tr.ret ⟨.inr rfl, ?_, ?_, ?_, ?_⟩ <;> simp [Try.f76, hf]
  simp at hq
  refine Tr.exit (exit_s (exit_s (exit_b ?_)))
  have hf : boxOk b = true := all_done hall (by omega)
  refine Tr.seq (Tr.regionK fun K hK => ?_)
  simp [add_add]
  refine hK _ ?_; clear hK K
  refine Tr.ret ⟨.inr rfl, ?_, ?_, ?_, ?_⟩ <;> simp [Try.f76, hf]
theorem pcall_valid1 (a : Iv) :
    PCall Try.prog 153 [ivP a] (.b (!a.ok)) := by
  refine walk Try.func153 (by kernel_rfl) rfl 6 rfl (Nat.le_of_ble_eq_true rfl) fun nid _ => ?_
  refine Tr.seq (Tr.regionK fun K hK => ?_)
  simp [add_add]
  refine hK _ ?_; clear hK K
  refine Tr.seq (Tr.regionK fun K hK => ?_)
  simp [add_add]
  refine .inl ⟨_, pcall_ivValid a, rfl, ?_⟩
  simp [add_add]
  refine hK _ ?_; clear hK K
  refine Tr.ret ⟨.inr rfl, ?_, ?_, ?_, ?_⟩ <;> simp [Try.f153]
theorem pcall_regular1 (a : Iv) :
    PCall Try.prog 173 [ivP a] (.b (!a.ok)) := by
  refine walk Try.func173 (by kernel_rfl) rfl 6 rfl (Nat.le_of_ble_eq_true rfl) fun nid _ => ?_
  refine Tr.seq (Tr.regionK fun K hK => ?_)
  simp [add_add]
  refine hK _ ?_; clear hK K
  refine Tr.seq (Tr.regionK fun K hK => ?_)
  simp [add_add]
  refine .inl ⟨_, pcall_ivValid a, rfl, ?_⟩
  simp [add_add]
  refine hK _ ?_; clear hK K
  refine Tr.ret ⟨.inr rfl, ?_, ?_, ?_, ?_⟩ <;> simp [Try.f173]
theorem pcall_indexIv (g : Nat) (p : Iv → Bool) (l : List Iv) (hl : l.length ≤ 1048576) (hg : ∀ x, PCall Try.prog g [ivP x] (.b (p x))) :
    PCall Try.prog 174 [.d (.imm (ivs l)), .fn (.func g) [] []] (.i (idxI p l)) := by
  refine walk Try.func174 (by kernel_rfl) rfl 19 rfl (Nat.le_of_ble_eq_true rfl) fun nid _ => ?_
  refine Tr.seq (Tr.regionK fun K hK => ?_)
  simp
  refine hK _ ?_; clear hK K
  refine Tr.seq ?_
  refine Tr.seq (Tr.regionK fun K hK => ?_)
  simp [add_add]
  refine hK _ ?_; clear hK K
  refine Tr.block ?_
  refine Tr.loopP [] [] [] (fun i : Nat => ([(0, .d (.imm (ivs l))), (1, .fn (.func g) [] []), (7, .i l.length), (8, .i i)],
  [])) (fun i : Nat => i ≤ l.length ∧ (l.take i).any p = false) (fun i : Nat => l.length - i) 0 rfl ?_ ?_ ?_
  · exact ⟨by simp, by simp⟩
  · refine ⟨rfl, ?_, ?_, ?_, ?_⟩ <;> simp [add_add]
  rintro i ⟨hi, hall⟩ I hI0
  have w : IntKind.i64.wrap ((i : Int) + 1) = (i : Int) + 1 := wrapIn (by omega) (by omega)
  refine Tr.seq (Tr.regionK fun K hK => ?_)
  simp
  refine hK _ ?_; clear hK K
  refine Tr.seq ?_
  refine Tr.cond rfl rfl (fun hq => ?_) (fun hq => ?_)
  · simp at hq
    obtain ⟨x, hx, hx'⟩ : ∃ x, l[i]? = some x ∧ l[i] = x := ⟨l[i], List.getElem?_eq_getElem hq, rfl⟩
    refine Tr.skip ?_
    refine Tr.seq ?_
    refine Tr.block ?_
    refine Tr.seq (Tr.regionK fun K hK => ?_)
    simp [add_add, hq]
    refine hK _ ?_; clear hK K
    rcases Bool.eq_false_or_eq_true (p x) with s4_0 | s4_0
    · have s4_0' := s4_0
      have hf : idxI p l = i := idxI_at hall hx s4_0
      refine Tr.seq (Tr.regionK fun K hK => ?_)
      simp [add_add, hx', hq]
      refine .inl ⟨_, hg x, rfl, ?_⟩
      simp [add_add, s4_0]
      refine hK _ ?_; clear hK K
      refine Tr.cond rfl rfl (fun hq1 => ?_) (fun hq1 => by first | (cases hq1; done) | (simp at hq1; done) | (simp_all; done))
      refine Tr.seq (Tr.regionK fun K hK => ?_)
      simp [add_add]
      refine hK _ ?_; clear hK K
      refine Tr.ret ⟨.inr rfl, ?_, ?_, ?_, ?_⟩ <;> simp [Try.f174, hf]
    refine Tr.seq (Tr.regionK fun K hK => ?_)
    simp [add_add, hx', hq]
    refine .inl ⟨_, hg x, rfl, ?_⟩
    simp [add_add, s4_0]
    refine hK _ ?_; clear hK K
    refine Tr.cond rfl rfl (fun hq2 => by first | (cases hq2; done) | (simp at hq2; done) | (simp_all; done)) (fun hq2 => ?_)
    refine Tr.skip ?_
    refine Tr.regionK fun K hK => ?_
    simp [add_add, w]
    refine hK _ ?_; clear hK K
    refine hI0 _ _ (i + 1) (⟨hq, any_take hall hx s4_0⟩) (by first | (show _ < _; omega) | (simp; omega)) ⟨rfl, ?_, ?_, ?_, ?_⟩ <;> simp [add_add]
  simp at hq
  refine Tr.exit (exit_s (exit_s (exit_b ?_)))
  have hf : idxI p l = -1 := by unfold idxI; rw [any_done hall (by omega)]; rfl
  refine Tr.seq (Tr.regionK fun K hK => ?_)
  simp [add_add]
  refine hK _ ?_; clear hK K
  refine Tr.ret ⟨.inr rfl, ?_, ?_, ?_, ?_⟩ <;> simp [Try.f174, hf]
theorem pcall_containsIv (g : Nat) (p : Iv → Bool) (l : List Iv) (hl : l.length ≤ 1048576) (hg : ∀ x, PCall Try.prog g [ivP x] (.b (p x))) :
    PCall Try.prog 152 [.d (.imm (ivs l)), .fn (.func g) [] []] (.b (l.any p)) := by
  refine walk Try.func152 (by kernel_rfl) rfl 9 rfl (Nat.le_of_ble_eq_true rfl) fun nid _ => ?_
  refine Tr.seq (Tr.regionK fun K hK => ?_)
  simp
  refine hK _ ?_; clear hK K
  refine Tr.seq (Tr.regionK fun K hK => ?_)
  simp [add_add]
  refine .inl ⟨_, pcall_indexIv g p l hl hg, rfl, ?_⟩
  simp [add_add]
  refine hK _ ?_; clear hK K
  refine Tr.ret ⟨.inr rfl, ?_, ?_, ?_, ?_⟩ <;> simp [Try.f152, idxI_nonneg]
theorem any_not_ok (l : List Iv) : (!(l.any fun x => !x.ok)) = boxOk l := by
  unfold boxOk
  rw [List.any_eq_not_all_not]
  simp
theorem pcall_cfgValid (b : List Iv) (hb : b.length ≤ 1048576) :
    PCall Try.prog 114 [.d (.imm (ivs b))] (.b (boxOk b)) := by
  refine walk Try.func114 (by kernel_rfl) rfl 6 rfl (Nat.le_of_ble_eq_true rfl) fun nid _ => ?_
  refine Tr.seq (Tr.regionK fun K hK => ?_)
  simp
  refine hK _ ?_; clear hK K
  refine Tr.seq (Tr.regionK fun K hK => ?_)
  simp [add_add]
  refine .inl ⟨_, pcall_containsIv 153 (fun x => !x.ok) b hb pcall_valid1, rfl, ?_⟩
  simp [add_add]
  refine hK _ ?_; clear hK K
  refine Tr.ret ⟨.inr rfl, ?_, ?_, ?_, ?_⟩ <;> simp [Try.f114, any_not_ok]
theorem pcall_allHas (b : List Iv) (c : List Int) (hb : b.length ≤ 1048576) :
    PCall Try.prog 115 [.d (.imm (ivs b)), .d (.imm (ints c)), .fn (.func 116) [] []] (.b (hasAll b c)) := by
  refine walk Try.func115 (by kernel_rfl) rfl 37 rfl (Nat.le_of_ble_eq_true rfl) fun nid _ => ?_
  refine Tr.seq (Tr.regionK fun K hK => ?_)
  simp
  refine hK _ ?_; clear hK K
  refine Tr.seq ?_
  refine Tr.seq (Tr.regionK fun K hK => ?_)
  simp [add_add]
  refine hK _ ?_; clear hK K
  refine Tr.block ?_
  refine Tr.loopP [] [] [] (fun i : Nat => ([(0, .d (.imm (ivs b))), (1, .d (.imm (ints c))), (2, .fn (.func 116) [] []), (7, .i i)],
  [])) (fun i : Nat => i ≤ b.length ∧ ((b.zip c).take i).all (fun x => x.1.has x.2) = true) (fun i : Nat => b.length - i) 0 rfl ?_ ?_ ?_
  · exact ⟨by simp, by simp⟩
  · refine ⟨rfl, ?_, ?_, ?_, ?_⟩ <;> simp [add_add]
  rintro i ⟨hi, hall⟩ I hI0
  have w : IntKind.i64.wrap ((i : Int) + 1) = (i : Int) + 1 := wrapIn (by omega) (by omega)
  refine Tr.seq ?_
  by_cases s2_0 : b.length = c.length
  · have s2_0' := s2_0
    by_cases s2_1 : i < c.length
    · have s2_1' := s2_1
      have hib : i < b.length := by omega
      obtain ⟨x, hx, hx'⟩ : ∃ x, b[i]? = some x ∧ b[i] = x := ⟨b[i], List.getElem?_eq_getElem hib, rfl⟩
      obtain ⟨y, hy, hy'⟩ : ∃ y, c[i]? = some y ∧ c[i] = y := ⟨c[i], List.getElem?_eq_getElem s2_1, rfl⟩
      refine Tr.seq (Tr.regionK fun K hK => ?_)
      simp [add_add, s2_0, s2_1]
      refine hK _ ?_; clear hK K
      refine Tr.cond rfl rfl (fun hq0 => ?_) (fun hq0 => by first | (cases hq0; done) | (simp at hq0; done) | (simp_all; done))
      refine Tr.skip ?_
      refine Tr.seq ?_
      refine Tr.block ?_
      rcases Bool.eq_false_or_eq_true (x.has y) with s4_0 | s4_0
      · have s4_0' := s4_0
        refine Tr.seq (Tr.regionE mixed (by kernel_rfl) fun K hK => ?_)
        simp [s2_0, s2_1, hx', hy']
        refine .inl ⟨_, pcall_ivHas x y, rfl, ?_⟩
        simp [s4_0]
        refine hK _ ?_; clear hK K
        refine Tr.cond rfl rfl (fun hq1 => by first | (cases hq1; done) | (simp at hq1; done) | (simp_all; done)) (fun hq1 => ?_)
        refine Tr.skip ?_
        refine Tr.regionK fun K hK => ?_
        simp [add_add, w]
        refine hK _ ?_; clear hK K
        refine hI0 _ _ (i + 1) (⟨hib, all_take hall (zip_get hx hy) s4_0⟩) (by first | (show _ < _; omega) | (simp; omega)) ⟨rfl, ?_, ?_, ?_, ?_⟩ <;> simp [add_add]
      have hf : (hasAll b c) = false := by unfold hasAll; rw [all_false (zip_get hx hy) s4_0]; simp
      refine Tr.seq (Tr.regionE mixed (by kernel_rfl) fun K hK => ?_)
      simp [s2_0, s2_1, hx', hy']
      refine .inl ⟨_, pcall_ivHas x y, rfl, ?_⟩
      simp [s4_0]
      refine hK _ ?_; clear hK K
      refine Tr.cond rfl rfl (fun hq2 => ?_) (fun hq2 => by first | (cases hq2; done) | (simp at hq2; done) | (simp_all; done))
      refine Tr.seq (Tr.regionK fun K hK => ?_)
      simp [add_add]
      refine hK _ ?_; clear hK K
      refine Tr.ret ⟨.inr rfl, ?_, ?_, ?_, ?_⟩ <;> simp [Try.f115, hf]
    have hf : (hasAll b c) = true := by unfold hasAll; rw [all_done hall (by rw [List.length_zip]; omega)]; simp [s2_0]
    refine Tr.seq (Tr.regionK fun K hK => ?_)
    simp [add_add, s2_0, s2_1]
    refine hK _ ?_; clear hK K
    refine Tr.cond rfl rfl (fun hq3 => by first | (cases hq3; done) | (simp at hq3; done) | (simp_all; done)) (fun hq3 => ?_)
    refine Tr.exit (exit_s (exit_s (exit_b ?_)))
    refine Tr.seq (Tr.regionK fun K hK => ?_)
    simp [add_add, s2_0]
    refine hK _ ?_; clear hK K
    refine Tr.ret ⟨.inr rfl, ?_, ?_, ?_, ?_⟩ <;> simp [Try.f115, hf]
  have hf : (hasAll b c) = false := by unfold hasAll; simp [s2_0]
  refine Tr.seq (Tr.regionK fun K hK => ?_)
  simp [add_add, Int.natCast_inj, s2_0]
  refine hK _ ?_; clear hK K
  refine Tr.cond rfl rfl (fun hq4 => by first | (cases hq4; done) | (simp at hq4; done) | (simp_all; done)) (fun hq4 => ?_)
  refine Tr.exit (exit_s (exit_s (exit_b ?_)))
  refine Tr.seq (Tr.regionK fun K hK => ?_)
  simp [add_add, Int.natCast_inj, s2_0]
  refine hK _ ?_; clear hK K
  refine Tr.ret ⟨.inr rfl, ?_, ?_, ?_, ?_⟩ <;> simp [Try.f115, hf]
theorem pcall_has (b : List Iv) (c : List Int) (hb : b.length ≤ 1048576) :
    PCall Try.prog 59 [.d (.imm (ivs b)), .d (.imm (ints c))] (.b (boxHas b c)) := by
  refine walk Try.func59 (by kernel_rfl) rfl 12 rfl (Nat.le_of_ble_eq_true rfl) fun nid _ => ?_
  refine Tr.seq (Tr.regionK fun K hK => ?_)
  simp
  refine hK _ ?_; clear hK K
  rcases Bool.eq_false_or_eq_true (boxOk b) with s1_0 | s1_0
  · have s1_0' := s1_0
    refine Tr.seq (Tr.regionK fun K hK => ?_)
    simp [add_add]
    refine .inl ⟨_, pcall_cfgValid b hb, rfl, ?_⟩
    simp [add_add, s1_0]
    refine .inl ⟨_, pcall_allHas b c hb, rfl, ?_⟩
    simp [add_add]
    refine hK _ ?_; clear hK K
    refine Tr.ret ⟨.inr rfl, ?_, ?_, ?_, ?_⟩ <;> simp [Try.f59, s1_0, boxHas]
  refine Tr.seq (Tr.regionK fun K hK => ?_)
  simp [add_add]
  refine .inl ⟨_, pcall_cfgValid b hb, rfl, ?_⟩
  simp [add_add, s1_0]
  refine hK _ ?_; clear hK K
  refine Tr.ret ⟨.inr rfl, ?_, ?_, ?_, ?_⟩ <;> simp [Try.f59, s1_0, boxHas]
end Go.Proofs.Ytmljpbhmdjpbaaa
namespace Go.Proofs.Ytmljpbhmdjpbaaa
set_option linter.unusedVariables false
set_option linter.unusedSimpArgs false
open Go.PM

theorem mxif (a b : Int) : (if a < b then b else a) = max a b := by omega
theorem mnif (a b : Int) : (if b < a then b else a) = min a b := by omega
def meetIv (a b : Iv) : Iv := if a.meets b then ⟨max a.lo b.lo, min a.hi b.hi⟩ else ⟨0, 0⟩
theorem floor_eq (a b : Int) (hb : 0 < b) : a / b = if a.tmod b < 0 then a.tdiv b - 1 else a.tdiv b := by
  have h1 := Int.emod_nonneg a (Int.ne_of_gt hb)
  have h2 := Int.emod_lt_of_pos a hb
  have h3 := Int.emod_add_mul_ediv a b
  have h4 := Int.tmod_add_mul_tdiv a b
  have h5 := Int.tmod_lt_of_pos a hb
  have h6 : -b < a.tmod b := by
    have := Int.tmod_lt_of_pos (-a) hb
    rw [Int.neg_tmod] at this
    omega
  have key : b * (a / b - a.tdiv b) = a.tmod b - a % b := by rw [Int.mul_sub]; omega
  generalize a / b = q at *
  generalize a.tdiv b = r at *
  split
  · have : q - r = -1 := by
      rcases Int.lt_trichotomy (q - r) (-1) with h | h | h
      · have := Int.mul_le_mul_of_nonneg_left (show q - r ≤ -2 by omega) (Int.le_of_lt hb); omega
      · exact h
      · have := Int.mul_le_mul_of_nonneg_left (show 0 ≤ q - r by omega) (Int.le_of_lt hb); omega
    omega
  · have : q - r = 0 := by
      rcases Int.lt_trichotomy (q - r) 0 with h | h | h
      · have := Int.mul_le_mul_of_nonneg_left (show q - r ≤ -1 by omega) (Int.le_of_lt hb); omega
      · exact h
      · have := Int.mul_le_mul_of_nonneg_left (show 1 ≤ q - r by omega) (Int.le_of_lt hb); omega
    omega
theorem tdiv_rng (a b : Int) (hb : 0 < b) (h1 : -4611686018427387904 ≤ a) (h2 : a ≤ 4611686018427387904) : -4611686018427387904 ≤ a.tdiv b ∧ a.tdiv b ≤ 4611686018427387904 := by
  have h4 := Int.tmod_add_mul_tdiv a b
  have h5 := Int.natAbs_tdiv_le_natAbs a b
  omega
theorem pcall_floor (a b : Int) (hb : 0 < b) (h1 : -4611686018427387904 ≤ a) (h2 : a ≤ 4611686018427387904) :
    PCall Try.prog 149 [.i a, .i b] (.i (a / b)) := by
  have hr := tdiv_rng a b hb h1 h2
  have hz : b ≠ 0 := by omega
  have w1 : IntKind.i64.wrap (a.tdiv b) = a.tdiv b := wrapIn (by omega) (by omega)
  have w2 : IntKind.i64.wrap (a.tdiv b - 1) = a.tdiv b - 1 := wrapIn (by omega) (by omega)
  have hf := floor_eq a b hb
  refine walk Try.func149 (by kernel_rfl) rfl 16 rfl (Nat.le_of_ble_eq_true rfl) fun nid _ => ?_
  refine Tr.seq (Tr.regionK fun K hK => ?_)
  simp
  refine hK _ ?_; clear hK K
  refine Tr.seq (Tr.regionK fun K hK => ?_)
  simp [add_add, w1, hz]
  refine hK _ ?_; clear hK K
  refine Tr.seq ?_
  by_cases s2_0 : a.tmod b < 0
  · have s2_0' := s2_0
    refine Tr.seq (Tr.regionK fun K hK => ?_)
    simp [add_add, hz, s2_0]
    refine hK _ ?_; clear hK K
    refine Tr.cond rfl rfl (fun hq0 => ?_) (fun hq0 => by first | (cases hq0; done) | (simp at hq0; done) | (simp_all; done))
    refine Tr.regionK fun K hK => ?_
    simp [add_add, w2]
    refine hK _ ?_; clear hK K
    refine Tr.seq (Tr.regionK fun K hK => ?_)
    simp [add_add]
    refine hK _ ?_; clear hK K
    refine Tr.ret ⟨.inr rfl, ?_, ?_, ?_, ?_⟩ <;> simp [Try.f149, hf, s2_0]
  refine Tr.seq (Tr.regionK fun K hK => ?_)
  simp [add_add, hz, s2_0]
  refine hK _ ?_; clear hK K
  refine Tr.cond rfl rfl (fun hq1 => by first | (cases hq1; done) | (simp at hq1; done) | (simp_all; done)) (fun hq1 => ?_)
  refine Tr.skip ?_
  refine Tr.seq (Tr.regionK fun K hK => ?_)
  simp [add_add]
  refine hK _ ?_; clear hK K
  refine Tr.ret ⟨.inr rfl, ?_, ?_, ?_, ?_⟩ <;> simp [Try.f149, hf, s2_0]
theorem pcall_refMid (a : Iv) :
    PCall Try.prog 112 [ivP a] (.i a.mid) := by
  refine walk Try.func112 (by kernel_rfl) rfl 12 rfl (Nat.le_of_ble_eq_true rfl) fun nid _ => ?_
  refine Tr.seq (Tr.regionK fun K hK => ?_)
  simp [add_add]
  refine hK _ ?_; clear hK K
  refine Tr.seq ?_
  rcases Bool.eq_false_or_eq_true (a.ok) with s1_0 | s1_0
  · have s1_0' := s1_0
    have hok := Iv.ok_iff.1 s1_0
    have w : IntKind.i64.wrap (a.lo + a.hi) = a.lo + a.hi := wrapIn (by omega) (by omega)
    refine Tr.seq (Tr.regionK fun K hK => ?_)
    simp [add_add]
    refine .inl ⟨_, pcall_refValid a, rfl, ?_⟩
    simp [add_add, s1_0]
    refine hK _ ?_; clear hK K
    refine Tr.cond rfl rfl (fun hq0 => by first | (cases hq0; done) | (simp at hq0; done) | (simp_all; done)) (fun hq0 => ?_)
    refine Tr.skip ?_
    refine Tr.seq (Tr.regionK fun K hK => ?_)
    simp [add_add, w]
    refine .inl ⟨_, pcall_floor (a.lo + a.hi) 2 (by omega) (by omega) (by omega), rfl, ?_⟩
    simp [add_add]
    refine hK _ ?_; clear hK K
    refine Tr.ret ⟨.inr rfl, ?_, ?_, ?_, ?_⟩ <;> simp [Try.f112, s1_0, Iv.mid]
  refine Tr.seq (Tr.regionK fun K hK => ?_)
  simp [add_add]
  refine .inl ⟨_, pcall_refValid a, rfl, ?_⟩
  simp [add_add, s1_0]
  refine hK _ ?_; clear hK K
  refine Tr.cond rfl rfl (fun hq1 => ?_) (fun hq1 => by first | (cases hq1; done) | (simp at hq1; done) | (simp_all; done))
  refine Tr.seq (Tr.regionK fun K hK => ?_)
  simp [add_add]
  refine hK _ ?_; clear hK K
  refine Tr.ret ⟨.inr rfl, ?_, ?_, ?_, ?_⟩ <;> simp [Try.f112, s1_0, Iv.mid]
theorem pcall_refMeet (a b : Iv) :
    PCall Try.prog 78 [ivP a, ivP b] (.tup [ivP (meetIv a b), .b (a.meets b)]) := by
  refine walk Try.func78 (by kernel_rfl) rfl 35 rfl (Nat.le_of_ble_eq_true rfl) fun nid _ => ?_
  refine Tr.seq (Tr.regionK fun K hK => ?_)
  simp [add_add]
  refine hK _ ?_; clear hK K
  refine Tr.seq (Tr.regionK fun K hK => ?_)
  simp [add_add, mxif, mnif]
  refine hK _ ?_; clear hK K
  refine Tr.seq ?_
  rcases Bool.eq_false_or_eq_true (a.ok) with s2_0 | s2_0
  · have s2_0' := s2_0
    rcases Bool.eq_false_or_eq_true (b.ok) with s2_1 | s2_1
    · have s2_1' := s2_1
      by_cases s2_2 : max a.lo b.lo ≤ min a.hi b.hi
      · have s2_2' := s2_2
        have hgt : ¬ min a.hi b.hi < max a.lo b.lo := by omega
        refine Tr.seq (Tr.regionK fun K hK => ?_)
        simp [add_add]
        refine .inl ⟨_, pcall_refValid a, rfl, ?_⟩
        simp [add_add, s2_0]
        refine .inl ⟨_, pcall_refValid b, rfl, ?_⟩
        simp [add_add, s2_1, hgt]
        refine hK _ ?_; clear hK K
        refine Tr.cond rfl rfl (fun hq0 => by first | (cases hq0; done) | (simp at hq0; done) | (simp_all; done)) (fun hq0 => ?_)
        refine Tr.skip ?_
        refine Tr.seq (Tr.regionK fun K hK => ?_)
        simp [add_add]
        refine hK _ ?_; clear hK K
        refine Tr.ret ⟨.inr rfl, ?_, ?_, ?_, ?_⟩ <;> simp [Try.f78, s2_0, s2_1, s2_2, meetIv, Iv.meets]
      have hgt : min a.hi b.hi < max a.lo b.lo := by omega
      refine Tr.seq (Tr.regionK fun K hK => ?_)
      simp [add_add]
      refine .inl ⟨_, pcall_refValid a, rfl, ?_⟩
      simp [add_add, s2_0]
      refine .inl ⟨_, pcall_refValid b, rfl, ?_⟩
      simp [add_add, s2_1, hgt]
      refine hK _ ?_; clear hK K
      refine Tr.cond rfl rfl (fun hq1 => ?_) (fun hq1 => by first | (cases hq1; done) | (simp at hq1; done) | (simp_all; done))
      refine Tr.seq (Tr.regionK fun K hK => ?_)
      simp [add_add]
      refine hK _ ?_; clear hK K
      refine Tr.ret ⟨.inr rfl, ?_, ?_, ?_, ?_⟩ <;> simp [Try.f78, s2_0, s2_1, s2_2, meetIv, Iv.meets]
    have hgt : True := trivial
    refine Tr.seq (Tr.regionK fun K hK => ?_)
    simp [add_add]
    refine .inl ⟨_, pcall_refValid a, rfl, ?_⟩
    simp [add_add, s2_0]
    refine .inl ⟨_, pcall_refValid b, rfl, ?_⟩
    simp [add_add, s2_1]
    refine hK _ ?_; clear hK K
    refine Tr.cond rfl rfl (fun hq2 => ?_) (fun hq2 => by first | (cases hq2; done) | (simp at hq2; done) | (simp_all; done))
    refine Tr.seq (Tr.regionK fun K hK => ?_)
    simp [add_add]
    refine hK _ ?_; clear hK K
    refine Tr.ret ⟨.inr rfl, ?_, ?_, ?_, ?_⟩ <;> simp [Try.f78, s2_0, s2_1, meetIv, Iv.meets]
  have hgt : True := trivial
  refine Tr.seq (Tr.regionK fun K hK => ?_)
  simp [add_add]
  refine .inl ⟨_, pcall_refValid a, rfl, ?_⟩
  simp [add_add, s2_0]
  refine hK _ ?_; clear hK K
  refine Tr.cond rfl rfl (fun hq3 => ?_) (fun hq3 => by first | (cases hq3; done) | (simp at hq3; done) | (simp_all; done))
  refine Tr.seq (Tr.regionK fun K hK => ?_)
  simp [add_add]
  refine hK _ ?_; clear hK K
  refine Tr.ret ⟨.inr rfl, ?_, ?_, ?_, ?_⟩ <;> simp [Try.f78, s2_0, meetIv, Iv.meets]
theorem meets_iff {a b : Iv} (ha : a.ok = true) (hb : b.ok = true) : a.meets b = over a b := by
  have h1 := Iv.ok_iff.1 ha
  have h2 := Iv.ok_iff.1 hb
  unfold Iv.meets over
  rw [ha, hb]
  simp only [Bool.true_and]
  rw [Bool.eq_iff_iff]
  simp only [decide_eq_true_eq, Bool.and_eq_true]
  omega
theorem touch_iff {a b : List Iv} (ha : boxOk a = true) (hb : boxOk b = true) (hl : a.length = b.length) : boxTouch a b = touchB a b := by
  unfold boxTouch touchB
  rw [ha, hb]
  simp only [Bool.true_and, hl, decide_true]
  unfold boxOk at ha hb
  rw [Bool.eq_iff_iff, List.all_eq_true, List.all_eq_true]
  have key : ∀ x ∈ a.zip b, x.1.meets x.2 = over x.1 x.2 := fun x hx => meets_iff (List.all_eq_true.1 ha _ (List.of_mem_zip hx).1) (List.all_eq_true.1 hb _ (List.of_mem_zip hx).2)
  exact ⟨fun h x hx => by rw [← key x hx]; exact h x hx, fun h x hx => by rw [key x hx]; exact h x hx⟩
theorem pcall_refBoxHas (b : List Iv) (c : List Int) (hb : b.length ≤ 1048576) :
    PCall Try.prog 29 [.d (.imm (ivs b)), .d (.imm (ints c))] (.b (boxHas b c)) := by
  refine walk Try.func29 (by kernel_rfl) rfl 32 rfl (Nat.le_of_ble_eq_true rfl) fun nid _ => ?_
  refine Tr.seq (Tr.regionK fun K hK => ?_)
  simp
  refine hK _ ?_; clear hK K
  refine Tr.seq ?_
  rcases Bool.eq_false_or_eq_true (boxOk b) with s1_0 | s1_0
  · have s1_0' := s1_0
    by_cases s1_1 : b.length = c.length
    · have s1_1' := s1_1
      refine Tr.seq (Tr.regionK fun K hK => ?_)
      simp [add_add]
      refine .inl ⟨_, pcall_refAllOk b hb, rfl, ?_⟩
      simp [add_add, s1_0, s1_1]
      refine hK _ ?_; clear hK K
      refine Tr.cond rfl rfl (fun hq0 => by first | (cases hq0; done) | (simp at hq0; done) | (simp_all; done)) (fun hq0 => ?_)
      refine Tr.skip ?_
      refine Tr.seq ?_
      refine Tr.seq (Tr.regionK fun K hK => ?_)
      simp [add_add]
      refine hK _ ?_; clear hK K
      refine Tr.block ?_
      refine Tr.loopP [] [] [] (fun i : Nat => ([(0, .d (.imm (ivs b))), (1, .d (.imm (ints c))), (5, .i i)],
      [])) (fun i : Nat => i ≤ c.length ∧ ((b.zip c).take i).all (fun x => x.1.has x.2) = true) (fun i : Nat => c.length - i) 0 rfl ?_ ?_ ?_
      · exact ⟨by simp, by simp⟩
      · refine ⟨rfl, ?_, ?_, ?_, ?_⟩ <;> simp [add_add]
      rintro i ⟨hi, hall⟩ I hI0
      have w : IntKind.i64.wrap ((i : Int) + 1) = (i : Int) + 1 := wrapIn (by omega) (by omega)
      refine Tr.seq ?_
      refine Tr.seq (Tr.regionK fun K hK => ?_)
      simp [add_add]
      refine hK _ ?_; clear hK K
      refine Tr.cond rfl rfl (fun hq => ?_) (fun hq => ?_)
      · simp at hq
        have hib : i < b.length := by omega
        obtain ⟨x, hx, hx'⟩ : ∃ x, b[i]? = some x ∧ b[i] = x := ⟨b[i], List.getElem?_eq_getElem hib, rfl⟩
        obtain ⟨y, hy, hy'⟩ : ∃ y, c[i]? = some y ∧ c[i] = y := ⟨c[i], List.getElem?_eq_getElem hq, rfl⟩
        refine Tr.skip ?_
        refine Tr.seq ?_
        refine Tr.block ?_
        rcases Bool.eq_false_or_eq_true (x.has y) with s6_0 | s6_0
        · have s6_0' := s6_0
          refine Tr.seq (Tr.regionE mixed (by kernel_rfl) fun K hK => ?_)
          simp [s1_1, hx', hy', hq]
          refine .inl ⟨_, pcall_refHas x y, rfl, ?_⟩
          simp [s6_0]
          refine hK _ ?_; clear hK K
          refine Tr.cond rfl rfl (fun hq2 => by first | (cases hq2; done) | (simp at hq2; done) | (simp_all; done)) (fun hq2 => ?_)
          refine Tr.skip ?_
          refine Tr.regionK fun K hK => ?_
          simp [add_add, w]
          refine hK _ ?_; clear hK K
          refine hI0 _ _ (i + 1) (⟨hq, all_take hall (zip_get hx hy) s6_0⟩) (by first | (show _ < _; omega) | (simp; omega)) ⟨rfl, ?_, ?_, ?_, ?_⟩ <;> simp [add_add]
        have hf : boxHas b c = false := by unfold boxHas hasAll; rw [all_false (zip_get hx hy) s6_0]; simp
        refine Tr.seq (Tr.regionE mixed (by kernel_rfl) fun K hK => ?_)
        simp [s1_1, hx', hy', hq]
        refine .inl ⟨_, pcall_refHas x y, rfl, ?_⟩
        simp [s6_0]
        refine hK _ ?_; clear hK K
        refine Tr.cond rfl rfl (fun hq3 => ?_) (fun hq3 => by first | (cases hq3; done) | (simp at hq3; done) | (simp_all; done))
        refine Tr.seq (Tr.regionK fun K hK => ?_)
        simp [add_add]
        refine hK _ ?_; clear hK K
        refine Tr.ret ⟨.inr rfl, ?_, ?_, ?_, ?_⟩ <;> simp [Try.f29, hf]
      simp at hq
      refine Tr.exit (exit_s (exit_s (exit_b ?_)))
      have hf : boxHas b c = true := by unfold boxHas hasAll; rw [s1_0, all_done hall (by rw [List.length_zip]; omega)]; simp [s1_1]
      refine Tr.seq (Tr.regionK fun K hK => ?_)
      simp [add_add]
      refine hK _ ?_; clear hK K
      refine Tr.ret ⟨.inr rfl, ?_, ?_, ?_, ?_⟩ <;> simp [Try.f29, hf]
    have hf : boxHas b c = false := by unfold boxHas hasAll; simp [s1_1]
    refine Tr.seq (Tr.regionK fun K hK => ?_)
    simp [add_add]
    refine .inl ⟨_, pcall_refAllOk b hb, rfl, ?_⟩
    simp [add_add, Int.natCast_inj, s1_0, s1_1]
    refine hK _ ?_; clear hK K
    refine Tr.cond rfl rfl (fun hq4 => ?_) (fun hq4 => by first | (cases hq4; done) | (simp at hq4; done) | (simp_all; done))
    refine Tr.seq (Tr.regionK fun K hK => ?_)
    simp [add_add]
    refine hK _ ?_; clear hK K
    refine Tr.ret ⟨.inr rfl, ?_, ?_, ?_, ?_⟩ <;> simp [Try.f29, hf]
  have hf : boxHas b c = false := by unfold boxHas; rw [s1_0]; rfl
  refine Tr.seq (Tr.regionK fun K hK => ?_)
  simp [add_add]
  refine .inl ⟨_, pcall_refAllOk b hb, rfl, ?_⟩
  simp [add_add, s1_0]
  refine hK _ ?_; clear hK K
  refine Tr.cond rfl rfl (fun hq5 => ?_) (fun hq5 => by first | (cases hq5; done) | (simp at hq5; done) | (simp_all; done))
  refine Tr.seq (Tr.regionK fun K hK => ?_)
  simp [add_add]
  refine hK _ ?_; clear hK K
  refine Tr.ret ⟨.inr rfl, ?_, ?_, ?_, ?_⟩ <;> simp [Try.f29, hf]
theorem pcall_refTouch (a b : List Iv) (ha : a.length ≤ 1048576) (hb : b.length ≤ 1048576) :
    PCall Try.prog 30 [.d (.imm (ivs a)), .d (.imm (ivs b))] (.b (boxTouch a b)) := by
  refine walk Try.func30 (by kernel_rfl) rfl 43 rfl (Nat.le_of_ble_eq_true rfl) fun nid _ => ?_
  refine Tr.seq (Tr.regionK fun K hK => ?_)
  simp
  refine hK _ ?_; clear hK K
  refine Tr.seq ?_
  rcases Bool.eq_false_or_eq_true (boxOk a) with s1_0 | s1_0
  · have s1_0' := s1_0
    rcases Bool.eq_false_or_eq_true (boxOk b) with s1_1 | s1_1
    · have s1_1' := s1_1
      by_cases s1_2 : a.length = b.length
      · have s1_2' := s1_2
        refine Tr.seq (Tr.regionK fun K hK => ?_)
        simp [add_add]
        refine .inl ⟨_, pcall_refAllOk a ha, rfl, ?_⟩
        simp [add_add, s1_0]
        refine .inl ⟨_, pcall_refAllOk b hb, rfl, ?_⟩
        simp [add_add, s1_1, s1_2]
        refine hK _ ?_; clear hK K
        refine Tr.cond rfl rfl (fun hq0 => by first | (cases hq0; done) | (simp at hq0; done) | (simp_all; done)) (fun hq0 => ?_)
        refine Tr.skip ?_
        refine Tr.seq ?_
        refine Tr.seq (Tr.regionK fun K hK => ?_)
        simp [add_add]
        refine hK _ ?_; clear hK K
        refine Tr.block ?_
        refine Tr.loopP [] [] [] (fun i : Nat => ([(0, .d (.imm (ivs a))), (1, .d (.imm (ivs b))), (5, .i i)],
        [])) (fun i : Nat => i ≤ a.length ∧ ((a.zip b).take i).all (fun x => x.1.meets x.2) = true) (fun i : Nat => a.length - i) 0 rfl ?_ ?_ ?_
        · exact ⟨by simp, by simp⟩
        · refine ⟨rfl, ?_, ?_, ?_, ?_⟩ <;> simp [add_add]
        rintro i ⟨hi, hall⟩ I hI0
        have w : IntKind.i64.wrap ((i : Int) + 1) = (i : Int) + 1 := wrapIn (by omega) (by omega)
        refine Tr.seq ?_
        refine Tr.seq (Tr.regionK fun K hK => ?_)
        simp [add_add]
        refine hK _ ?_; clear hK K
        refine Tr.cond rfl rfl (fun hq => ?_) (fun hq => ?_)
        · simp at hq
          have hib : i < b.length := by omega
          obtain ⟨x, hx, hx'⟩ : ∃ x, a[i]? = some x ∧ a[i] = x := ⟨a[i], List.getElem?_eq_getElem hq, rfl⟩
          obtain ⟨y, hy, hy'⟩ : ∃ y, b[i]? = some y ∧ b[i] = y := ⟨b[i], List.getElem?_eq_getElem hib, rfl⟩
          refine Tr.skip ?_
          refine Tr.seq ?_
          refine Tr.block ?_
          refine Tr.seq (Tr.regionE mixed (by kernel_rfl) fun K hK => ?_)
          simp [hx', hib, hy', hq]
          refine .inl ⟨_, pcall_refMeet x y, rfl, ?_⟩
          simp [add_add, Region.binds]
          refine hK _ ?_; clear hK K
          rcases Bool.eq_false_or_eq_true (x.meets y) with s7_0 | s7_0
          · have s7_0' := s7_0
            refine Tr.seq (Tr.regionK fun K hK => ?_)
            simp [add_add, s7_0]
            refine hK _ ?_; clear hK K
            refine Tr.cond rfl rfl (fun hq2 => by first | (cases hq2; done) | (simp at hq2; done) | (simp_all; done)) (fun hq2 => ?_)
            refine Tr.skip ?_
            refine Tr.regionK fun K hK => ?_
            simp [add_add, w]
            refine hK _ ?_; clear hK K
            refine hI0 _ _ (i + 1) (⟨hq, all_take hall (zip_get hx hy) s7_0⟩) (by first | (show _ < _; omega) | (simp; omega)) ⟨rfl, ?_, ?_, ?_, ?_⟩ <;> simp [add_add]
          have hf : boxTouch a b = false := by unfold boxTouch; rw [all_false (zip_get hx hy) s7_0]; simp
          refine Tr.seq (Tr.regionK fun K hK => ?_)
          simp [add_add, s7_0]
          refine hK _ ?_; clear hK K
          refine Tr.cond rfl rfl (fun hq3 => ?_) (fun hq3 => by first | (cases hq3; done) | (simp at hq3; done) | (simp_all; done))
          refine Tr.seq (Tr.regionK fun K hK => ?_)
          simp [add_add]
          refine hK _ ?_; clear hK K
          refine Tr.ret ⟨.inr rfl, ?_, ?_, ?_, ?_⟩ <;> simp [Try.f30, hf]
        simp at hq
        refine Tr.exit (exit_s (exit_s (exit_b ?_)))
        have hf : boxTouch a b = true := by unfold boxTouch; rw [s1_0, s1_1, all_done hall (by rw [List.length_zip]; omega)]; simp [s1_2]
        refine Tr.seq (Tr.regionK fun K hK => ?_)
        simp [add_add]
        refine hK _ ?_; clear hK K
        refine Tr.ret ⟨.inr rfl, ?_, ?_, ?_, ?_⟩ <;> simp [Try.f30, hf]
      have hf : boxTouch a b = false := by unfold boxTouch; simp [s1_2]
      refine Tr.seq (Tr.regionK fun K hK => ?_)
      simp [add_add]
      refine .inl ⟨_, pcall_refAllOk a ha, rfl, ?_⟩
      simp [add_add, s1_0]
      refine .inl ⟨_, pcall_refAllOk b hb, rfl, ?_⟩
      simp [add_add, Int.natCast_inj, s1_1, s1_2]
      refine hK _ ?_; clear hK K
      refine Tr.cond rfl rfl (fun hq4 => ?_) (fun hq4 => by first | (cases hq4; done) | (simp at hq4; done) | (simp_all; done))
      refine Tr.seq (Tr.regionK fun K hK => ?_)
      simp [add_add]
      refine hK _ ?_; clear hK K
      refine Tr.ret ⟨.inr rfl, ?_, ?_, ?_, ?_⟩ <;> simp [Try.f30, hf]
    have hf : boxTouch a b = false := by unfold boxTouch; rw [s1_1]; simp
    refine Tr.seq (Tr.regionK fun K hK => ?_)
    simp [add_add]
    refine .inl ⟨_, pcall_refAllOk a ha, rfl, ?_⟩
    simp [add_add, s1_0]
    refine .inl ⟨_, pcall_refAllOk b hb, rfl, ?_⟩
    simp [add_add, s1_1]
    refine hK _ ?_; clear hK K
    refine Tr.cond rfl rfl (fun hq5 => ?_) (fun hq5 => by first | (cases hq5; done) | (simp at hq5; done) | (simp_all; done))
    refine Tr.seq (Tr.regionK fun K hK => ?_)
    simp [add_add]
    refine hK _ ?_; clear hK K
    refine Tr.ret ⟨.inr rfl, ?_, ?_, ?_, ?_⟩ <;> simp [Try.f30, hf]
  have hf : boxTouch a b = false := by unfold boxTouch; rw [s1_0]; rfl
  refine Tr.seq (Tr.regionK fun K hK => ?_)
  simp [add_add]
  refine .inl ⟨_, pcall_refAllOk a ha, rfl, ?_⟩
  simp [add_add, s1_0]
  refine hK _ ?_; clear hK K
  refine Tr.cond rfl rfl (fun hq6 => ?_) (fun hq6 => by first | (cases hq6; done) | (simp at hq6; done) | (simp_all; done))
  refine Tr.seq (Tr.regionK fun K hK => ?_)
  simp [add_add]
  refine hK _ ?_; clear hK K
  refine Tr.ret ⟨.inr rfl, ?_, ?_, ?_, ?_⟩ <;> simp [Try.f30, hf]
theorem pcall_touch (a b : List Iv) (hl : a.length = b.length) (ha : a.length ≤ 1048576) :
    PCall Try.prog 123 [.d (.imm (ivs a)), .d (.imm (ivs b))] (.b (touchB a b)) := by
  refine walk Try.func123 (by kernel_rfl) rfl 33 rfl (Nat.le_of_ble_eq_true rfl) fun nid _ => ?_
  refine Tr.seq (Tr.regionK fun K hK => ?_)
  simp
  refine hK _ ?_; clear hK K
  refine Tr.seq ?_
  refine Tr.seq (Tr.regionK fun K hK => ?_)
  simp [add_add]
  refine hK _ ?_; clear hK K
  refine Tr.block ?_
  refine Tr.loopP [] [] [] (fun i : Nat => ([(1, .d (.imm (ivs b))), (7, .d (.imm (ivs a))), (8, .i a.length), (9, .i i)],
  [])) (fun i : Nat => i ≤ a.length ∧ ((a.zip b).take i).all (fun x => over x.1 x.2) = true) (fun i : Nat => a.length - i) 0 rfl ?_ ?_ ?_
  · exact ⟨by simp, by simp⟩
  · refine ⟨rfl, ?_, ?_, ?_, ?_⟩ <;> simp [add_add]
  rintro i ⟨hi, hall⟩ I hI0
  have w : IntKind.i64.wrap ((i : Int) + 1) = (i : Int) + 1 := wrapIn (by omega) (by omega)
  refine Tr.seq (Tr.regionK fun K hK => ?_)
  simp
  refine hK _ ?_; clear hK K
  refine Tr.seq ?_
  refine Tr.cond rfl rfl (fun hq => ?_) (fun hq => ?_)
  · simp at hq
    have hib : i < b.length := by omega
    obtain ⟨x, hx, hx'⟩ : ∃ x, a[i]? = some x ∧ a[i] = x := ⟨a[i], List.getElem?_eq_getElem hq, rfl⟩
    obtain ⟨y, hy, hy'⟩ : ∃ y, b[i]? = some y ∧ b[i] = y := ⟨b[i], List.getElem?_eq_getElem hib, rfl⟩
    refine Tr.skip ?_
    refine Tr.seq ?_
    refine Tr.block ?_
    refine Tr.seq (Tr.regionK fun K hK => ?_)
    simp [add_add, hx', hq]
    refine hK _ ?_; clear hK K
    by_cases s4_0 : x.lo ≤ y.hi
    · have s4_0' := s4_0
      by_cases s4_1 : y.lo ≤ x.hi
      · have s4_1' := s4_1
        have hn : ¬ x.hi < y.lo := by omega
        have hn0 : ¬ y.hi < x.lo := by omega
        have hov : over x y = true := by simp [over, s4_0, s4_1]
        refine Tr.seq (Tr.regionE mixed (by kernel_rfl) fun K hK => ?_)
        simp [add_add, hib, hy', hn, hn0]
        refine hK _ ?_; clear hK K
        refine Tr.cond rfl rfl (fun hq1 => by first | (cases hq1; done) | (simp at hq1; done) | (simp_all; done)) (fun hq1 => ?_)
        refine Tr.skip ?_
        refine Tr.regionK fun K hK => ?_
        simp [add_add, w]
        refine hK _ ?_; clear hK K
        refine hI0 _ _ (i + 1) (⟨hq, all_take hall (zip_get hx hy) hov⟩) (by first | (show _ < _; omega) | (simp; omega)) ⟨rfl, ?_, ?_, ?_, ?_⟩ <;> simp [add_add]
      have hn : x.hi < y.lo := by omega
      have hn0 : ¬ y.hi < x.lo := by omega
      have hf : touchB a b = false := by unfold touchB; exact all_false (zip_get hx hy) (by simp [over, s4_1])
      refine Tr.seq (Tr.regionE mixed (by kernel_rfl) fun K hK => ?_)
      simp [add_add, hib, hy', hn, hn0]
      refine hK _ ?_; clear hK K
      refine Tr.cond rfl rfl (fun hq2 => ?_) (fun hq2 => by first | (cases hq2; done) | (simp at hq2; done) | (simp_all; done))
      refine Tr.seq (Tr.regionK fun K hK => ?_)
      simp [add_add]
      refine hK _ ?_; clear hK K
      refine Tr.ret ⟨.inr rfl, ?_, ?_, ?_, ?_⟩ <;> simp [Try.f123, hf]
    have hn0 : True := trivial
    have hn : y.hi < x.lo := by omega
    have hf : touchB a b = false := by unfold touchB; exact all_false (zip_get hx hy) (by simp [over, s4_0])
    refine Tr.seq (Tr.regionE mixed (by kernel_rfl) fun K hK => ?_)
    simp [add_add, hib, hy', hn]
    refine hK _ ?_; clear hK K
    refine Tr.cond rfl rfl (fun hq3 => ?_) (fun hq3 => by first | (cases hq3; done) | (simp at hq3; done) | (simp_all; done))
    refine Tr.seq (Tr.regionK fun K hK => ?_)
    simp [add_add]
    refine hK _ ?_; clear hK K
    refine Tr.ret ⟨.inr rfl, ?_, ?_, ?_, ?_⟩ <;> simp [Try.f123, hf]
  simp at hq
  refine Tr.exit (exit_s (exit_s (exit_b ?_)))
  have hf : touchB a b = true := all_done hall (by rw [List.length_zip]; omega)
  refine Tr.seq (Tr.regionK fun K hK => ?_)
  simp [add_add]
  refine hK _ ?_; clear hK K
  refine Tr.ret ⟨.inr rfl, ?_, ?_, ?_, ?_⟩ <;> simp [Try.f123, hf]
theorem pcall_refInForm (v : Vd) :
    PCall Try.prog 70 [vdP v] (.b v.inForm) := by
  refine walk Try.func70 (by kernel_rfl) rfl 17 rfl (Nat.le_of_ble_eq_true rfl) fun nid _ => ?_
  refine Tr.seq (Tr.regionK fun K hK => ?_)
  simp [add_add]
  refine hK _ ?_; clear hK K
  refine Tr.seq ?_
  by_cases s1_0 : v.kind = 0
  · have s1_0' := s1_0
    refine Tr.seq (Tr.regionK fun K hK => ?_)
    simp [add_add, s1_0]
    refine hK _ ?_; clear hK K
    refine Tr.block ?_
    refine Tr.seq ?_
    refine Tr.seq (Tr.regionK fun K hK => ?_)
    simp [add_add]
    refine hK _ ?_; clear hK K
    refine Tr.cond rfl rfl (fun hq0 => ?_) (fun hq0 => by first | (cases hq0; done) | (simp at hq0; done) | (simp_all; done))
    refine Tr.skip ?_
    refine Tr.cond rfl rfl (fun hq1 => ?_) (fun hq1 => by first | (cases hq1; done) | (simp at hq1; done) | (simp_all; done))
    refine Tr.seq (Tr.regionK fun K hK => ?_)
    simp [add_add]
    refine .inl ⟨_, pcall_empty v.w, rfl, ?_⟩
    simp [add_add]
    refine hK _ ?_; clear hK K
    refine Tr.ret ⟨.inr rfl, ?_, ?_, ?_, ?_⟩ <;> simp [Try.f70, s1_0, Vd.inForm]
  by_cases s1_1 : v.kind = 1
  · have s1_1' := s1_1
    refine Tr.seq (Tr.regionK fun K hK => ?_)
    simp [add_add, s1_1]
    refine hK _ ?_; clear hK K
    refine Tr.block ?_
    refine Tr.seq ?_
    refine Tr.seq (Tr.regionK fun K hK => ?_)
    simp [add_add]
    refine hK _ ?_; clear hK K
    refine Tr.cond rfl rfl (fun hq2 => by first | (cases hq2; done) | (simp at hq2; done) | (simp_all; done)) (fun hq2 => ?_)
    refine Tr.regionK fun K hK => ?_
    simp [add_add]
    refine hK _ ?_; clear hK K
    refine Tr.cond rfl rfl (fun hq3 => ?_) (fun hq3 => by first | (cases hq3; done) | (simp at hq3; done) | (simp_all; done))
    refine Tr.seq (Tr.regionK fun K hK => ?_)
    simp [add_add]
    refine .inl ⟨_, pcall_empty v.w, rfl, ?_⟩
    simp [add_add]
    refine hK _ ?_; clear hK K
    refine Tr.ret ⟨.inr rfl, ?_, ?_, ?_, ?_⟩ <;> simp [Try.f70, s1_1, Vd.inForm]
  by_cases s1_2 : v.kind = 2
  · have s1_2' := s1_2
    refine Tr.seq (Tr.regionK fun K hK => ?_)
    simp [add_add, s1_2]
    refine hK _ ?_; clear hK K
    refine Tr.block ?_
    refine Tr.seq ?_
    refine Tr.seq (Tr.regionK fun K hK => ?_)
    simp [add_add]
    refine hK _ ?_; clear hK K
    refine Tr.cond rfl rfl (fun hq4 => by first | (cases hq4; done) | (simp at hq4; done) | (simp_all; done)) (fun hq4 => ?_)
    refine Tr.regionK fun K hK => ?_
    simp [add_add]
    refine hK _ ?_; clear hK K
    refine Tr.cond rfl rfl (fun hq5 => by first | (cases hq5; done) | (simp at hq5; done) | (simp_all; done)) (fun hq5 => ?_)
    refine Tr.seq (Tr.regionK fun K hK => ?_)
    simp [add_add]
    refine hK _ ?_; clear hK K
    refine Tr.cond rfl rfl (fun hq6 => ?_) (fun hq6 => by first | (cases hq6; done) | (simp at hq6; done) | (simp_all; done))
    refine Tr.seq (Tr.regionK fun K hK => ?_)
    simp [add_add]
    refine hK _ ?_; clear hK K
    refine Tr.ret ⟨.inr rfl, ?_, ?_, ?_, ?_⟩ <;> simp [Try.f70, s1_2, Vd.inForm]
  refine Tr.seq (Tr.regionK fun K hK => ?_)
  simp [add_add]
  refine hK _ ?_; clear hK K
  refine Tr.block ?_
  refine Tr.seq ?_
  refine Tr.seq (Tr.regionK fun K hK => ?_)
  simp [add_add, s1_0]
  refine hK _ ?_; clear hK K
  refine Tr.cond rfl rfl (fun hq7 => by first | (cases hq7; done) | (simp at hq7; done) | (simp_all; done)) (fun hq7 => ?_)
  refine Tr.regionK fun K hK => ?_
  simp [add_add, s1_1]
  refine hK _ ?_; clear hK K
  refine Tr.cond rfl rfl (fun hq8 => by first | (cases hq8; done) | (simp at hq8; done) | (simp_all; done)) (fun hq8 => ?_)
  refine Tr.seq (Tr.regionK fun K hK => ?_)
  simp [add_add, s1_2]
  refine hK _ ?_; clear hK K
  refine Tr.cond rfl rfl (fun hq9 => by first | (cases hq9; done) | (simp at hq9; done) | (simp_all; done)) (fun hq9 => ?_)
  refine Tr.skip ?_
  refine Tr.seq (Tr.regionK fun K hK => ?_)
  simp [add_add]
  refine hK _ ?_; clear hK K
  refine Tr.ret ⟨.inr rfl, ?_, ?_, ?_, ?_⟩ <;> simp [Try.f70, s1_0, s1_1, s1_2, Vd.inForm]
theorem pcall_inForm (v : Vd) :
    PCall Try.prog 151 [vdP v] (.b v.inForm) := by
  refine walk Try.func151 (by kernel_rfl) rfl 32 rfl (Nat.le_of_ble_eq_true rfl) fun nid _ => ?_
  refine Tr.seq (Tr.regionK fun K hK => ?_)
  simp [add_add]
  refine hK _ ?_; clear hK K
  refine Tr.seq ?_
  by_cases s1_0 : v.kind = 0
  · have s1_0' := s1_0
    refine Tr.seq (Tr.regionK fun K hK => ?_)
    simp [add_add, s1_0]
    refine hK _ ?_; clear hK K
    refine Tr.block ?_
    refine Tr.seq ?_
    refine Tr.seq (Tr.regionK fun K hK => ?_)
    simp [add_add]
    refine hK _ ?_; clear hK K
    refine Tr.cond rfl rfl (fun hq0 => ?_) (fun hq0 => by first | (cases hq0; done) | (simp at hq0; done) | (simp_all; done))
    refine Tr.skip ?_
    refine Tr.cond rfl rfl (fun hq1 => ?_) (fun hq1 => by first | (cases hq1; done) | (simp at hq1; done) | (simp_all; done))
    by_cases s4_0 : v.w.pair = 0
    · have s4_0' := s4_0
      by_cases s4_1 : v.w.left = []
      · have s4_1' := s4_1
        by_cases s4_2 : v.w.right = []
        · have s4_2' := s4_2
          refine Tr.seq (Tr.regionK fun K hK => ?_)
          simp [add_add, s4_0, s4_1, s4_2]
          refine hK _ ?_; clear hK K
          refine Tr.ret ⟨.inr rfl, ?_, ?_, ?_, ?_⟩ <;> simp [Try.f151, s1_0, s4_0, s4_1, s4_2, Vd.inForm, Wt.empty]
        refine Tr.seq (Tr.regionK fun K hK => ?_)
        simp [add_add, s4_0, s4_1, s4_2]
        refine hK _ ?_; clear hK K
        refine Tr.ret ⟨.inr rfl, ?_, ?_, ?_, ?_⟩ <;> simp [Try.f151, s1_0, s4_0, s4_1, s4_2, Vd.inForm, Wt.empty]
      refine Tr.seq (Tr.regionK fun K hK => ?_)
      simp [add_add, s4_0, s4_1]
      refine hK _ ?_; clear hK K
      refine Tr.ret ⟨.inr rfl, ?_, ?_, ?_, ?_⟩ <;> simp [Try.f151, s1_0, s4_0, s4_1, Vd.inForm, Wt.empty]
    refine Tr.seq (Tr.regionK fun K hK => ?_)
    simp [add_add, s4_0]
    refine hK _ ?_; clear hK K
    refine Tr.ret ⟨.inr rfl, ?_, ?_, ?_, ?_⟩ <;> simp [Try.f151, s1_0, s4_0, Vd.inForm, Wt.empty]
  by_cases s1_1 : v.kind = 1
  · have s1_1' := s1_1
    refine Tr.seq (Tr.regionK fun K hK => ?_)
    simp [add_add, s1_1]
    refine hK _ ?_; clear hK K
    refine Tr.block ?_
    refine Tr.seq ?_
    refine Tr.seq (Tr.regionK fun K hK => ?_)
    simp [add_add]
    refine hK _ ?_; clear hK K
    refine Tr.cond rfl rfl (fun hq2 => by first | (cases hq2; done) | (simp at hq2; done) | (simp_all; done)) (fun hq2 => ?_)
    refine Tr.regionK fun K hK => ?_
    simp [add_add]
    refine hK _ ?_; clear hK K
    refine Tr.cond rfl rfl (fun hq3 => ?_) (fun hq3 => by first | (cases hq3; done) | (simp at hq3; done) | (simp_all; done))
    by_cases s4_0 : v.w.pair = 0
    · have s4_0' := s4_0
      by_cases s4_1 : v.w.left = []
      · have s4_1' := s4_1
        by_cases s4_2 : v.w.right = []
        · have s4_2' := s4_2
          refine Tr.seq (Tr.regionK fun K hK => ?_)
          simp [add_add, s4_0, s4_1, s4_2]
          refine hK _ ?_; clear hK K
          refine Tr.ret ⟨.inr rfl, ?_, ?_, ?_, ?_⟩ <;> simp [Try.f151, s1_1, s4_0, s4_1, s4_2, Vd.inForm, Wt.empty]
        refine Tr.seq (Tr.regionK fun K hK => ?_)
        simp [add_add, s4_0, s4_1, s4_2]
        refine hK _ ?_; clear hK K
        refine Tr.ret ⟨.inr rfl, ?_, ?_, ?_, ?_⟩ <;> simp [Try.f151, s1_1, s4_0, s4_1, s4_2, Vd.inForm, Wt.empty]
      refine Tr.seq (Tr.regionK fun K hK => ?_)
      simp [add_add, s4_0, s4_1]
      refine hK _ ?_; clear hK K
      refine Tr.ret ⟨.inr rfl, ?_, ?_, ?_, ?_⟩ <;> simp [Try.f151, s1_1, s4_0, s4_1, Vd.inForm, Wt.empty]
    refine Tr.seq (Tr.regionK fun K hK => ?_)
    simp [add_add, s4_0]
    refine hK _ ?_; clear hK K
    refine Tr.ret ⟨.inr rfl, ?_, ?_, ?_, ?_⟩ <;> simp [Try.f151, s1_1, s4_0, Vd.inForm, Wt.empty]
  by_cases s1_2 : v.kind = 2
  · have s1_2' := s1_2
    refine Tr.seq (Tr.regionK fun K hK => ?_)
    simp [add_add, s1_2]
    refine hK _ ?_; clear hK K
    refine Tr.block ?_
    refine Tr.seq ?_
    refine Tr.seq (Tr.regionK fun K hK => ?_)
    simp [add_add]
    refine hK _ ?_; clear hK K
    refine Tr.cond rfl rfl (fun hq4 => by first | (cases hq4; done) | (simp at hq4; done) | (simp_all; done)) (fun hq4 => ?_)
    refine Tr.regionK fun K hK => ?_
    simp [add_add]
    refine hK _ ?_; clear hK K
    refine Tr.cond rfl rfl (fun hq5 => by first | (cases hq5; done) | (simp at hq5; done) | (simp_all; done)) (fun hq5 => ?_)
    refine Tr.seq (Tr.regionK fun K hK => ?_)
    simp [add_add]
    refine hK _ ?_; clear hK K
    refine Tr.cond rfl rfl (fun hq6 => ?_) (fun hq6 => by first | (cases hq6; done) | (simp at hq6; done) | (simp_all; done))
    refine Tr.seq (Tr.regionK fun K hK => ?_)
    simp [add_add]
    refine hK _ ?_; clear hK K
    refine Tr.ret ⟨.inr rfl, ?_, ?_, ?_, ?_⟩ <;> simp [Try.f151, s1_2, Vd.inForm]
  refine Tr.seq (Tr.regionK fun K hK => ?_)
  simp [add_add]
  refine hK _ ?_; clear hK K
  refine Tr.block ?_
  refine Tr.seq ?_
  refine Tr.seq (Tr.regionK fun K hK => ?_)
  simp [add_add, s1_0]
  refine hK _ ?_; clear hK K
  refine Tr.cond rfl rfl (fun hq7 => by first | (cases hq7; done) | (simp at hq7; done) | (simp_all; done)) (fun hq7 => ?_)
  refine Tr.regionK fun K hK => ?_
  simp [add_add, s1_1]
  refine hK _ ?_; clear hK K
  refine Tr.cond rfl rfl (fun hq8 => by first | (cases hq8; done) | (simp at hq8; done) | (simp_all; done)) (fun hq8 => ?_)
  refine Tr.seq (Tr.regionK fun K hK => ?_)
  simp [add_add, s1_2]
  refine hK _ ?_; clear hK K
  refine Tr.cond rfl rfl (fun hq9 => by first | (cases hq9; done) | (simp at hq9; done) | (simp_all; done)) (fun hq9 => ?_)
  refine Tr.skip ?_
  refine Tr.seq (Tr.regionK fun K hK => ?_)
  simp [add_add]
  refine hK _ ?_; clear hK K
  refine Tr.ret ⟨.inr rfl, ?_, ?_, ?_, ?_⟩ <;> simp [Try.f151, s1_0, s1_1, s1_2, Vd.inForm]
end Go.Proofs.Ytmljpbhmdjpbaaa
namespace Go.Proofs.Ytmljpbhmdjpbaaa
set_option linter.unusedVariables false
set_option linter.unusedSimpArgs false
open Go.PM

def halve (b : List Iv) (j : Int) : Option (List Iv × List Iv) :=
  if boxOk b = true ∧ 0 ≤ j ∧ 2 ≤ (b.getD j.toNat ⟨0, 0⟩).hi - (b.getD j.toNat ⟨0, 0⟩).lo ∧ j.toNat < b.length then
    some (b.set j.toNat ⟨(b.getD j.toNat ⟨0, 0⟩).lo, ((b.getD j.toNat ⟨0, 0⟩).lo + (b.getD j.toNat ⟨0, 0⟩).hi) / 2⟩, b.set j.toNat ⟨((b.getD j.toNat ⟨0, 0⟩).lo + (b.getD j.toNat ⟨0, 0⟩).hi) / 2, (b.getD j.toNat ⟨0, 0⟩).hi⟩)
  else none
abbrev nilP : PV := .d (.val (.slice none 0 0))
def halveP : Option (List Iv × List Iv) → PV
  | none => .tup [nilP, nilP, .b false]
  | some (l, h) => .tup [.d (.imm (ivs l)), .d (.imm (ivs h)), .b true]
theorem halve_bad {b : List Iv} {j : Int} (h : boxOk b = false) : halve b j = none := by unfold halve; rw [if_neg]; simp [h]
theorem halve_neg {b : List Iv} {j : Int} (h : ¬ 0 ≤ j) : halve b j = none := by unfold halve; rw [if_neg]; intro ⟨_, h2, _⟩; exact h h2
theorem halve_len {b : List Iv} {k : Nat} (h : ¬ k < b.length) : halve b (k : Int) = none := by
  unfold halve; rw [if_neg]; intro ⟨_, _, _, h2⟩; rw [Int.toNat_natCast] at h2; exact h h2
theorem halve_thin {b : List Iv} {k : Nat} {x : Iv} (hx : b[k]? = some x) (h : ¬ 2 ≤ x.hi - x.lo) : halve b (k : Int) = none := by
  unfold halve; rw [if_neg]; intro ⟨_, _, h2, _⟩; rw [Int.toNat_natCast, List.getD_eq_getElem?_getD, hx] at h2; exact h h2
theorem halve_some {b : List Iv} {k : Nat} {x : Iv} (hb : boxOk b = true) (hx : b[k]? = some x) (h : 2 ≤ x.hi - x.lo) :
    halve b (k : Int) = some (b.set k ⟨x.lo, (x.lo + x.hi) / 2⟩, b.set k ⟨(x.lo + x.hi) / 2, x.hi⟩) := by
  have hl := (List.getElem?_eq_some_iff.1 hx).1
  unfold halve
  rw [Int.toNat_natCast, List.getD_eq_getElem?_getD, hx]
  rw [if_pos ⟨hb, by omega, h, hl⟩]
  rfl
theorem boxOk_at {b : List Iv} {k : Nat} {x : Iv} (hb : boxOk b = true) (hx : b[k]? = some x) : x.ok = true := List.all_eq_true.1 hb x (List.mem_of_getElem? hx)
theorem upm_set0 {f : Iv → List DV} (b : List Iv) (k : Nat) (e : List PV) (y : Iv) (he : e = (f y).map .d) : (upm f b).set k e = upm f (b.set k y) := by rw [he]; exact upm_set f b k y
theorem upm_getD {α : Type} {f : α → List DV} {b : List α} {k : Nat} {x : α} (hx : b[k]? = some x) : ((upm f b)[k]?.getD []) = (f x).map .d := by rw [upm_get f b k x hx]; rfl
theorem copy_all {α : Type} {f : α → List DV} (b : List α) (es : List (List PV)) (h : es.length = b.length) : upm f b ++ es.drop b.length = upm f b := by
  rw [← h, List.drop_length, List.append_nil]
set_option maxRecDepth 8000 in
set_option maxHeartbeats 4000000 in
theorem pcall_refHalve (b : List Iv) (j : Int) (hb : b.length ≤ 1048576) :
    PCall Try.prog 72 [.d (.imm (ivs b)), .i j] (halveP (halve b j)) := by
  refine walk Try.func72 (by kernel_rfl) rfl 58 rfl (Nat.le_of_ble_eq_true rfl) fun nid _ => ?_
  refine Tr.seq (Tr.regionK fun K hK => ?_)
  simp (maxSteps := 1000000) [add_add]
  refine hK _ ?_; clear hK K
  refine Tr.seq ?_
  rcases Bool.eq_false_or_eq_true ((!boxOk b)) with s1_0 | s1_0
  · have s1_0' := s1_0
    have hf : halve b j = none := halve_bad (by simpa using s1_0)
    refine Tr.seq (Tr.regionE mixed (by kernel_rfl) fun K hK => ?_)
    simp (maxSteps := 1000000)
    refine .inl ⟨_, pcall_refAllOk b hb, rfl, ?_⟩
    simp (maxSteps := 1000000) [s1_0]
    refine hK _ ?_; clear hK K
    refine Tr.cond rfl rfl (fun hq0 => ?_) (fun hq0 => by first | (cases hq0; done) | (simp at hq0; done) | (simp_all; done))
    refine Tr.seq (Tr.regionK fun K hK => ?_)
    simp (maxSteps := 1000000) [add_add]
    refine hK _ ?_; clear hK K
    refine Tr.ret ⟨.inr rfl, ?_, ?_, ?_, ?_⟩ <;> simp [Try.f72, hf, halveP]
  have hb0 : boxOk b = true := by simpa using s1_0
  by_cases s1_1 : j < 0
  · have s1_1' := s1_1
    have hf : halve b j = none := halve_neg (by omega)
    refine Tr.seq (Tr.regionE mixed (by kernel_rfl) fun K hK => ?_)
    simp (maxSteps := 1000000)
    refine .inl ⟨_, pcall_refAllOk b hb, rfl, ?_⟩
    simp (maxSteps := 1000000) [hb0, s1_1]
    refine hK _ ?_; clear hK K
    refine Tr.cond rfl rfl (fun hq1 => ?_) (fun hq1 => by first | (cases hq1; done) | (simp at hq1; done) | (simp_all; done))
    refine Tr.seq (Tr.regionK fun K hK => ?_)
    simp (maxSteps := 1000000) [add_add]
    refine hK _ ?_; clear hK K
    refine Tr.ret ⟨.inr rfl, ?_, ?_, ?_, ?_⟩ <;> simp [Try.f72, hf, halveP]
  obtain ⟨k, rfl⟩ := Int.eq_ofNat_of_zero_le (Int.not_lt.1 s1_1)
  have hk1 : ¬ ((k : Int) < 0) := s1_1
  by_cases s1_2 : b.length ≤ k
  · have s1_2' := s1_2
    have hf : halve b (k : Int) = none := halve_len (by omega)
    refine Tr.seq (Tr.regionE mixed (by kernel_rfl) fun K hK => ?_)
    simp (maxSteps := 1000000)
    refine .inl ⟨_, pcall_refAllOk b hb, rfl, ?_⟩
    simp (maxSteps := 1000000) [hb0, s1_1, s1_2]
    refine hK _ ?_; clear hK K
    refine Tr.cond rfl rfl (fun hq2 => ?_) (fun hq2 => by first | (cases hq2; done) | (simp at hq2; done) | (simp_all; done))
    refine Tr.seq (Tr.regionK fun K hK => ?_)
    simp (maxSteps := 1000000) [add_add]
    refine hK _ ?_; clear hK K
    refine Tr.ret ⟨.inr rfl, ?_, ?_, ?_, ?_⟩ <;> simp [Try.f72, hf, halveP]
  have hkb : k < b.length := by omega
  obtain ⟨x, hx, hx'⟩ : ∃ x, b[k]? = some x ∧ b[k] = x := ⟨b[k], List.getElem?_eq_getElem hkb, rfl⟩
  have hxo := Iv.ok_iff.1 (boxOk_at hb0 hx)
  have hxk := boxOk_at hb0 hx
  have hmid : x.mid = (x.lo + x.hi) / 2 := by unfold Iv.mid; rw [if_pos hxk]
  have w1 : IntKind.i64.wrap (x.hi - x.lo) = x.hi - x.lo := wrapIn (by omega) (by omega)
  by_cases s1_3 : x.hi - x.lo < 2
  · have s1_3' := s1_3
    have hf : halve b (k : Int) = none := halve_thin hx (by omega)
    refine Tr.seq (Tr.regionE mixed (by kernel_rfl) fun K hK => ?_)
    simp (maxSteps := 1000000)
    refine .inl ⟨_, pcall_refAllOk b hb, rfl, ?_⟩
    simp (maxSteps := 1000000) [hb0, s1_1, s1_2, hx', w1, hkb, s1_3]
    refine hK _ ?_; clear hK K
    refine Tr.cond rfl rfl (fun hq3 => ?_) (fun hq3 => by first | (cases hq3; done) | (simp at hq3; done) | (simp_all; done))
    refine Tr.seq (Tr.regionK fun K hK => ?_)
    simp (maxSteps := 1000000) [add_add]
    refine hK _ ?_; clear hK K
    refine Tr.ret ⟨.inr rfl, ?_, ?_, ?_, ?_⟩ <;> simp [Try.f72, hf, halveP]
  have hf := halve_some hb0 hx (by omega)
  refine Tr.seq (Tr.regionE mixed (by kernel_rfl) fun K hK => ?_)
  simp (maxSteps := 1000000)
  refine .inl ⟨_, pcall_refAllOk b hb, rfl, ?_⟩
  simp (maxSteps := 1000000) [hb0, s1_1, s1_2, hx', w1, hkb, s1_3]
  refine hK _ ?_; clear hK K
  refine Tr.cond rfl rfl (fun hq4 => by first | (cases hq4; done) | (simp at hq4; done) | (simp_all; done)) (fun hq4 => ?_)
  refine Tr.skip ?_
  refine Tr.seq (Tr.regionK fun K hK => ?_)
  simp (maxSteps := 1000000) [add_add, hx', hkb]
  refine .inl ⟨_, pcall_refMid x, rfl, ?_⟩
  simp (maxSteps := 1000000) [add_add, hmid]
  refine hK _ ?_; clear hK K
  refine Tr.seq (Tr.regionK fun K hK => ?_)
  simp (maxSteps := 1000000) [add_add]
  repeat (first | refine ⟨by omega, ?_⟩ | refine ⟨⟨by omega, by omega⟩, ?_⟩ | refine ⟨rfl, ?_⟩)
  refine hK _ ?_; clear hK K
  refine Tr.seq (Tr.regionK fun K hK => ?_)
  simp (maxSteps := 1000000) [add_add, hx', hkb]
  refine hK _ ?_; clear hK K
  obtain ⟨l1, e1⟩ : ∃ l, l = b.set k ⟨x.lo, (x.lo + x.hi) / 2⟩ := ⟨_, rfl⟩
  obtain ⟨l2, e2⟩ : ∃ l, l = b.set k ⟨(x.lo + x.hi) / 2, x.hi⟩ := ⟨_, rfl⟩
  have n1 : b.length = l1.length := by rw [e1]; simp
  have n2 : b.length = l2.length := by rw [e2]; simp
  rw [← e1, ← e2] at hf
  refine Tr.toSt [(8, .own (nid + 148) 2 0 l1.length), (9, .own (nid + 156) 2 0 l2.length)] [(nid + 148, ⟨102, 2, upm ivD l1⟩), (nid + 156, ⟨102, 2, upm ivD l2⟩)] ?_ ?_ ?_
  · simp [← n1, ← n2]
  · rw [e1, e2]; simp [upm]
  refine Tr.freezeM (nid + 148) ivD l1 [(8, .d (.imm (ivs l1))), (9, .own (nid + 156) 2 0 l2.length)] [(nid + 156, ⟨102, 2, upm ivD l2⟩)] (ty := 102) (sz := 2) ?_ ?_ ?_ ?_ ?_
  · simp
  · simp
  · simp
  · simp
  refine Tr.freezeM (nid + 156) ivD l2 [(8, .d (.imm (ivs l1))), (9, .d (.imm (ivs l2)))] [] (ty := 102) (sz := 2) ?_ ?_ ?_ ?_ ?_
  · simp
  · simp
  · simp
  · simp
  refine Tr.seq (Tr.regionK fun K hK => ?_)
  simp (maxSteps := 1000000) [add_add]
  refine hK _ ?_; clear hK K
  refine Tr.ret ⟨.inr rfl, ?_, ?_, ?_, ?_⟩ <;> simp [Try.f72, hf, halveP]
set_option maxRecDepth 8000 in
set_option maxHeartbeats 4000000 in
theorem pcall_halve (b : List Iv) (j : Int) (hb : b.length ≤ 1048576) :
    PCall Try.prog 120 [.d (.imm (ivs b)), .i j] (halveP (halve b j)) := by
  refine walk Try.func120 (by kernel_rfl) rfl 60 rfl (Nat.le_of_ble_eq_true rfl) fun nid _ => ?_
  refine Tr.seq (Tr.regionK fun K hK => ?_)
  simp (maxSteps := 1000000) [add_add]
  refine hK _ ?_; clear hK K
  refine Tr.seq ?_
  rcases Bool.eq_false_or_eq_true ((!boxOk b)) with s1_0 | s1_0
  · have s1_0' := s1_0
    have hf : halve b j = none := halve_bad (by simpa using s1_0)
    refine Tr.seq (Tr.regionK fun K hK => ?_)
    simp (maxSteps := 1000000) [add_add]
    refine .inl ⟨_, pcall_cfgValid b hb, rfl, ?_⟩
    simp (maxSteps := 1000000) [add_add, s1_0]
    refine hK _ ?_; clear hK K
    refine Tr.cond rfl rfl (fun hq0 => ?_) (fun hq0 => by first | (cases hq0; done) | (simp at hq0; done) | (simp_all; done))
    refine Tr.seq (Tr.regionK fun K hK => ?_)
    simp (maxSteps := 1000000) [add_add]
    refine hK _ ?_; clear hK K
    refine Tr.ret ⟨.inr rfl, ?_, ?_, ?_, ?_⟩ <;> simp [Try.f120, hf, halveP]
  have hb0 : boxOk b = true := by simpa using s1_0
  by_cases s1_1 : j < 0
  · have s1_1' := s1_1
    have hf : halve b j = none := halve_neg (by omega)
    refine Tr.seq (Tr.regionK fun K hK => ?_)
    simp (maxSteps := 1000000) [add_add]
    refine .inl ⟨_, pcall_cfgValid b hb, rfl, ?_⟩
    simp (maxSteps := 1000000) [add_add, hb0, s1_1]
    refine hK _ ?_; clear hK K
    refine Tr.cond rfl rfl (fun hq1 => ?_) (fun hq1 => by first | (cases hq1; done) | (simp at hq1; done) | (simp_all; done))
    refine Tr.seq (Tr.regionK fun K hK => ?_)
    simp (maxSteps := 1000000) [add_add]
    refine hK _ ?_; clear hK K
    refine Tr.ret ⟨.inr rfl, ?_, ?_, ?_, ?_⟩ <;> simp [Try.f120, hf, halveP]
  obtain ⟨k, rfl⟩ := Int.eq_ofNat_of_zero_le (Int.not_lt.1 s1_1)
  have hk1 : ¬ ((k : Int) < 0) := s1_1
  by_cases s1_2 : b.length ≤ k
  · have s1_2' := s1_2
    have hf : halve b (k : Int) = none := halve_len (by omega)
    refine Tr.seq (Tr.regionK fun K hK => ?_)
    simp (maxSteps := 1000000) [add_add]
    refine .inl ⟨_, pcall_cfgValid b hb, rfl, ?_⟩
    simp (maxSteps := 1000000) [add_add, hb0, s1_1, s1_2]
    refine hK _ ?_; clear hK K
    refine Tr.cond rfl rfl (fun hq2 => ?_) (fun hq2 => by first | (cases hq2; done) | (simp at hq2; done) | (simp_all; done))
    refine Tr.seq (Tr.regionK fun K hK => ?_)
    simp (maxSteps := 1000000) [add_add]
    refine hK _ ?_; clear hK K
    refine Tr.ret ⟨.inr rfl, ?_, ?_, ?_, ?_⟩ <;> simp [Try.f120, hf, halveP]
  have hkb : k < b.length := by omega
  obtain ⟨x, hx, hx'⟩ : ∃ x, b[k]? = some x ∧ b[k] = x := ⟨b[k], List.getElem?_eq_getElem hkb, rfl⟩
  have hxo := Iv.ok_iff.1 (boxOk_at hb0 hx)
  have hxk := boxOk_at hb0 hx
  have w2 : x.width = x.hi - x.lo := by unfold Iv.width; rw [if_pos hxk]
  have hmid : x.mid = (x.lo + x.hi) / 2 := by unfold Iv.mid; rw [if_pos hxk]
  have w1 : IntKind.i64.wrap (x.hi - x.lo) = x.hi - x.lo := wrapIn (by omega) (by omega)
  by_cases s1_3 : x.hi - x.lo < 2
  · have s1_3' := s1_3
    have hf : halve b (k : Int) = none := halve_thin hx (by omega)
    refine Tr.seq (Tr.regionK fun K hK => ?_)
    simp (maxSteps := 1000000) [add_add]
    refine .inl ⟨_, pcall_cfgValid b hb, rfl, ?_⟩
    simp (maxSteps := 1000000) [add_add, hb0, s1_1, s1_2, hx', hkb]
    refine .inl ⟨_, pcall_width x, rfl, ?_⟩
    simp (maxSteps := 1000000) [add_add, w2, s1_3]
    refine hK _ ?_; clear hK K
    refine Tr.cond rfl rfl (fun hq3 => ?_) (fun hq3 => by first | (cases hq3; done) | (simp at hq3; done) | (simp_all; done))
    refine Tr.seq (Tr.regionK fun K hK => ?_)
    simp (maxSteps := 1000000) [add_add]
    refine hK _ ?_; clear hK K
    refine Tr.ret ⟨.inr rfl, ?_, ?_, ?_, ?_⟩ <;> simp [Try.f120, hf, halveP]
  have hf := halve_some hb0 hx (by omega)
  refine Tr.seq (Tr.regionK fun K hK => ?_)
  simp (maxSteps := 1000000) [add_add]
  refine .inl ⟨_, pcall_cfgValid b hb, rfl, ?_⟩
  simp (maxSteps := 1000000) [add_add, hb0, s1_1, s1_2, hx', hkb]
  refine .inl ⟨_, pcall_width x, rfl, ?_⟩
  simp (maxSteps := 1000000) [add_add, w2, s1_3]
  refine hK _ ?_; clear hK K
  refine Tr.cond rfl rfl (fun hq4 => by first | (cases hq4; done) | (simp at hq4; done) | (simp_all; done)) (fun hq4 => ?_)
  refine Tr.skip ?_
  refine Tr.seq (Tr.regionE mixed (by kernel_rfl) fun K hK => ?_)
  simp (maxSteps := 1000000) [add_add, Region.binds]
  repeat (first | refine ⟨by omega, ?_⟩ | refine ⟨⟨by omega, by omega⟩, ?_⟩ | refine ⟨rfl, ?_⟩)
  refine hK _ ?_; clear hK K
  refine Tr.seq (Tr.regionK fun K hK => ?_)
  simp (maxSteps := 1000000) [add_add]
  refine hK _ ?_; clear hK K
  refine Tr.seq (Tr.regionK fun K hK => ?_)
  simp (maxSteps := 1000000) [add_add]
  refine hK _ ?_; clear hK K
  refine Tr.seq (Tr.regionK fun K hK => ?_)
  simp (maxSteps := 1000000) [add_add, hx', hkb]
  refine .inl ⟨_, pcall_ivMid x, rfl, ?_⟩
  simp (maxSteps := 1000000) [add_add, hmid]
  refine hK _ ?_; clear hK K
  refine Tr.seq (Tr.regionK fun K hK => ?_)
  simp (maxSteps := 1000000) [add_add, hx', hkb]
  refine hK _ ?_; clear hK K
  obtain ⟨l1, e1⟩ : ∃ l, l = b.set k ⟨x.lo, (x.lo + x.hi) / 2⟩ := ⟨_, rfl⟩
  obtain ⟨l2, e2⟩ : ∃ l, l = b.set k ⟨(x.lo + x.hi) / 2, x.hi⟩ := ⟨_, rfl⟩
  have n1 : b.length = l1.length := by rw [e1]; simp
  have n2 : b.length = l2.length := by rw [e2]; simp
  rw [← e1, ← e2] at hf
  refine Tr.toSt [(7, .own (nid + 104) 2 0 l1.length), (8, .own (nid + 116) 2 0 l2.length)] [(nid + 104, ⟨102, 2, upm ivD l1⟩), (nid + 116, ⟨102, 2, upm ivD l2⟩)] ?_ ?_ ?_
  · simp [← n1, ← n2]
  · rw [e1, e2]; simp [upm]
  refine Tr.freezeM (nid + 104) ivD l1 [(7, .d (.imm (ivs l1))), (8, .own (nid + 116) 2 0 l2.length)] [(nid + 116, ⟨102, 2, upm ivD l2⟩)] (ty := 102) (sz := 2) ?_ ?_ ?_ ?_ ?_
  · simp
  · simp
  · simp
  · simp
  refine Tr.freezeM (nid + 116) ivD l2 [(7, .d (.imm (ivs l1))), (8, .d (.imm (ivs l2)))] [] (ty := 102) (sz := 2) ?_ ?_ ?_ ?_ ?_
  · simp
  · simp
  · simp
  · simp
  refine Tr.seq (Tr.regionK fun K hK => ?_)
  simp (maxSteps := 1000000) [add_add]
  refine hK _ ?_; clear hK K
  refine Tr.ret ⟨.inr rfl, ?_, ?_, ?_, ?_⟩ <;> simp [Try.f120, hf, halveP]
end Go.Proofs.Ytmljpbhmdjpbaaa
namespace Go.Proofs.Ytmljpbhmdjpbaaa
set_option linter.unusedVariables false
set_option linter.unusedSimpArgs false
open Go.PM

abbrev Outs := List (Option (List Iv))
def obD : Option (List Iv) → List DV
  | none => [.val (.slice none 0 0)]
  | some b => [.imm (ivs b)]
def rootOk (r : List Iv) : Bool := !decide (r = []) && (!decide (10 < r.length) && boxOk r)
def bstep (n i : Nat) (outs : Outs) (c : Cel) : Option Outs :=
  match outs[i]? with
  | some (some b) =>
    if c.leaf = true then (if c.v.inForm = true then some outs else none)
    else if c.v.zero = true ∧ (i : Int) < c.lo ∧ c.lo < n ∧ (i : Int) < c.hi ∧ c.hi < n ∧ c.lo ≠ c.hi ∧ outs[c.lo.toNat]? = some none ∧ outs[c.hi.toNat]? = some none then
      match halve b c.j with
      | some (l, h) => some ((outs.set c.lo.toNat (some l)).set c.hi.toNat (some h))
      | none => none
    else none
  | _ => none
def bst (t : Tree) : Nat → Option Outs
  | 0 => some ((List.replicate t.cells.length none).set 0 (some t.root))
  | i + 1 => (bst t i).bind fun outs => match t.cells[i]? with
    | some c => bstep t.cells.length i outs c
    | none => none
def bs (t : Tree) (i : Nat) : Outs := (bst t i).getD []
def treeOk (t : Tree) : Bool := rootOk t.root && (!decide (t.cells = []) && !decide (2048 < t.cells.length))
def boxesT (t : Tree) : Option (List (List Iv)) :=
  if treeOk t = true then (bst t t.cells.length).map (·.map (·.getD [])) else none
abbrev boxD (b : List Iv) : List DV := [.imm (ivs b)]
abbrev boxs (l : List (List Iv)) : List (List DV) := l.map boxD
def boxesP : Option (List (List Iv)) → PV
  | none => .tup [nilP, .b false]
  | some l => .tup [.d (.imm (boxs l)), .b true]

theorem halve_len2 {b : List Iv} {j : Int} {l h : List Iv} (e : halve b j = some (l, h)) : l.length = b.length ∧ h.length = b.length ∧ 0 ≤ j ∧ j < b.length := by
  unfold halve at e
  split at e
  · rename_i hc
    simp only [Option.some.injEq, Prod.mk.injEq] at e
    rw [← e.1, ← e.2]
    simp
    omega
  · cases e
theorem bst_succ {t : Tree} {i : Nat} {outs : Outs} {c : Cel} (h : bst t i = some outs) (hc : t.cells[i]? = some c) : bst t (i + 1) = bstep t.cells.length i outs c := by
  simp only [bst, h, hc, Option.bind_some]
theorem bst_none {t : Tree} {i : Nat} (h : bst t i = none) : ∀ k, bst t (i + k) = none
  | 0 => h
  | k + 1 => by
    have := bst_none h k
    rw [← Nat.add_assoc]
    simp only [bst, this, Option.bind_none]
theorem bstep_cases {n i : Nat} {outs outs' : Outs} {c : Cel} (h : bstep n i outs c = some outs') : ∃ b, outs[i]? = some (some b) ∧ ((c.leaf = true ∧ c.v.inForm = true ∧ outs' = outs) ∨
    (c.leaf = false ∧ c.v.zero = true ∧ (i : Int) < c.lo ∧ c.lo < n ∧ (i : Int) < c.hi ∧ c.hi < n ∧ c.lo ≠ c.hi ∧ outs[c.lo.toNat]? = some none ∧ outs[c.hi.toNat]? = some none ∧
      ∃ l h, halve b c.j = some (l, h) ∧ outs' = (outs.set c.lo.toNat (some l)).set c.hi.toNat (some h))) := by
  unfold bstep at h
  split at h
  · rename_i b hb
    refine ⟨b, hb, ?_⟩
    split at h
    · rename_i hl
      split at h
      · rename_i hf
        simp only [Option.some.injEq] at h
        exact .inl ⟨hl, hf, h.symm⟩
      · cases h
    · rename_i hl
      split at h
      · rename_i hc
        split at h
        · rename_i l hh e
          simp only [Option.some.injEq] at h
          obtain ⟨c1, c2, c3, c4, c5, c6, c7, c8⟩ := hc
          exact .inr ⟨by simpa using hl, c1, c2, c3, c4, c5, c6, c7, c8, l, hh, e, h.symm⟩
        · cases h
      · cases h
  · cases h
theorem bst_inv {t : Tree} : ∀ {i : Nat} {outs : Outs}, bst t i = some outs → i ≤ t.cells.length → outs.length = t.cells.length ∧ (∀ b, some b ∈ outs → b.length = t.root.length) ∧ (∀ j, j < i → ∃ b, outs[j]? = some (some b))
  | 0, outs, h, _ => by
    simp only [bst, Option.some.injEq] at h
    subst h
    refine ⟨by simp, fun b hb => ?_, fun j hj => by omega⟩
    rcases List.mem_or_eq_of_mem_set hb with h | h
    · have := (List.mem_replicate.1 h).2; cases this
    · cases h; rfl
  | i + 1, outs, h, hi => by
    cases hb : bst t i with
    | none => simp [bst, hb] at h
    | some o0 =>
      obtain ⟨i1, i2, i3⟩ := bst_inv hb (by omega)
      have hci : t.cells[i]? = some t.cells[i] := List.getElem?_eq_getElem (by omega)
      rw [bst_succ hb hci] at h
      obtain ⟨b, hbo, hc⟩ := bstep_cases h
      rcases hc with ⟨_, _, rfl⟩ | ⟨_, _, c2, c3, c4, c5, c6, c7, c8, l, hh, e, rfl⟩
      · refine ⟨i1, i2, fun j hj => ?_⟩
        rcases Nat.lt_succ_iff_lt_or_eq.1 hj with h | h
        · exact i3 j h
        · subst h; exact ⟨b, hbo⟩
      · have hl := halve_len2 e
        have hbl := i2 b (List.mem_of_getElem? hbo)
        refine ⟨by simp [i1], fun b' hb' => ?_, fun j hj => ?_⟩
        · rcases List.mem_or_eq_of_mem_set hb' with h | h
          · rcases List.mem_or_eq_of_mem_set h with h | h
            · exact i2 b' h
            · cases h; omega
          · cases h; omega
        · have hne1 : c7 = c7 := rfl
          have h1 : t.cells[i].lo.toNat ≠ j := by omega
          have h2 : t.cells[i].hi.toNat ≠ j := by omega
          rw [List.getElem?_set_ne h2, List.getElem?_set_ne h1]
          rcases Nat.lt_succ_iff_lt_or_eq.1 hj with h | h
          · exact i3 j h
          · subst h; exact ⟨b, hbo⟩
theorem boxesT_none {t : Tree} {i : Nat} (hi : i ≤ t.cells.length) (h : bst t i = none) : boxesT t = none := by
  unfold boxesT
  have := bst_none h (t.cells.length - i)
  rw [Nat.add_sub_cancel' hi] at this
  rw [this]
  simp
theorem boxesT_bad {t : Tree} (h : treeOk t = false) : boxesT t = none := by
  unfold boxesT
  rw [h]
  simp
theorem boxesT_some {t : Tree} {outs : Outs} (ht : treeOk t = true) (h : bst t t.cells.length = some outs) : ∃ l, boxesT t = some l ∧ outs = l.map some := by
  obtain ⟨i1, _, i3⟩ := bst_inv h (Nat.le_refl _)
  unfold boxesT
  rw [if_pos ht, h]
  refine ⟨_, rfl, ?_⟩
  rw [List.map_map]
  apply List.ext_getElem?
  intro j
  rw [List.getElem?_map]
  by_cases hj : j < t.cells.length
  · obtain ⟨b, hb⟩ := i3 j hj
    rw [hb]
    rfl
  · rw [List.getElem?_eq_none (by omega)]
    rfl
theorem ob_set {outs : Outs} {k : Nat} {l : List Iv} : (upm obD outs).set k [.d (.imm (ivs l))] = upm obD (outs.set k (some l)) := upm_set obD outs k (some l)
theorem ob_zero (n : Nat) (r : List Iv) : (List.replicate n [PV.d (.val (.slice none 0 0))]).set 0 [.d (.imm (ivs r))] = upm obD ((List.replicate n none).set 0 (some r)) := by
  rw [← ob_set]; congr 1; simp [upm, up, obD]
theorem upm_at {α : Type} {f : α → List DV} {l : List α} {k : Nat} {x : α} (h : l[k]? = some x) (hk : k < (upm f l).length) : (upm f l)[k]'hk = (f x).map .d := by
  have := upm_get f l k x h
  rw [List.getElem?_eq_getElem hk] at this
  exact Option.some.inj this
theorem ob_none {outs : Outs} {k : Nat} (h : outs[k]? = some none) (hk : k < (upm obD outs).length) : (upm obD outs)[k]'hk = [.d (.val (.slice none 0 0))] := upm_at h hk
theorem ob_some {outs : Outs} {k : Nat} {b : List Iv} (h : outs[k]? = some (some b)) (hk : k < (upm obD outs).length) : (upm obD outs)[k]'hk = [.d (.imm (ivs b))] := upm_at h hk
theorem ob_tail (outs : Outs) (k : Nat) (hk : k < (upm obD outs).length) : ((upm obD outs)[k]'hk).tail = [] := by
  have hk' : k < outs.length := by simpa [upm, up] using hk
  rw [upm_at (List.getElem?_eq_getElem hk') hk]
  cases outs[k] <;> rfl
theorem ob_map (l : List (List Iv)) : upm obD (l.map some) = upm boxD l := by simp [upm, up, obD, boxD]
theorem ob_nil {b : List Iv} (h : b ≠ []) : isNilP (.d (.imm (ivs b))) = some false := by
  cases b with
  | nil => exact absurd rfl h
  | cons x l => rfl
theorem pos_ne {b : List Iv} {n : Nat} (h : b.length = n) (h1 : n ≠ 0) : b ≠ [] := by intro e; subst e; exact h1 h.symm
end Go.Proofs.Ytmljpbhmdjpbaaa
