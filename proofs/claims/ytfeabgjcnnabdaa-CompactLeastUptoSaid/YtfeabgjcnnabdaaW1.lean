/- The walks through the functions that make inputs. -/
import Derived.Test.YtfeabgjcnnabdaaTy
import Derived.IntWalk
namespace Go.Proofs.Ytfeabgjcnnabdaa
open Go.PM

theorem wrapIn {x : Int} (h1 : -9223372036854775808 ≤ x) (h2 : x ≤ 9223372036854775807) : IntKind.i64.wrap x = x := IntWalk.i64_in x ⟨h1, h2⟩

theorem pcall_round (n k : Int) (hn1 : -9223372036854775808 ≤ n) (hn2 : n ≤ 9223372036854775807) (hk : 0 < k) (hk2 : k ≤ 4611686018427387904) : PCall Try.prog 21 [.i n, .i k] (.i (n % k)) := by
  have hm := Int.tmod_lt_of_pos n hk
  have hm2 : -k < n.tmod k := by
    have := Int.tmod_lt_of_pos (-n) hk
    rw [Int.neg_tmod] at this
    omega
  have hme : n % k = if n.tmod k < 0 then n.tmod k + k else n.tmod k := by
    have h1 := Int.emod_nonneg n (Int.ne_of_gt hk)
    have h2 := Int.emod_lt_of_pos n hk
    have h3 := Int.emod_def n k
    have h4 := Int.tmod_def n k
    have : ∃ z, n % k = n.tmod k + k * z := ⟨n.tdiv k - n / k, by rw [h3, h4, Int.mul_sub]; omega⟩
    obtain ⟨z, hz⟩ := this
    split
    · have : z = 1 := by
        have a1 : 0 < z := by
          rcases Int.lt_or_le 0 z with h | h
          · exact h
          · have := Int.mul_le_mul_of_nonneg_left h (Int.le_of_lt hk); omega
        have a2 : z < 2 := by
          rcases Int.lt_or_le z 2 with h | h
          · exact h
          · have := Int.mul_le_mul_of_nonneg_left h (Int.le_of_lt hk); omega
        omega
      subst this; omega
    · have : z = 0 := by
        have a1 : -1 < z := by
          rcases Int.lt_or_le (-1) z with h | h
          · exact h
          · have := Int.mul_le_mul_of_nonneg_left h (Int.le_of_lt hk); omega
        have a2 : z < 1 := by
          rcases Int.lt_or_le z 1 with h | h
          · exact h
          · have := Int.mul_le_mul_of_nonneg_left h (Int.le_of_lt hk); omega
        omega
      subst this; omega
  refine walk Try.func21 (by kernel_rfl) rfl 15 rfl (Nat.le_of_ble_eq_true rfl) fun nid _ => ?_
  refine Tr.seq (Tr.regionK fun K hK => ?_)
  simp [Try.f21]
  refine hK _ (Tr.seq (Tr.regionK fun K1 hK1 => ?_)); clear hK K
  simp [Try.f21]
  refine ⟨by omega, hK1 _ (Tr.seq (Tr.seq (Tr.regionK fun K hK => ?_)))⟩; clear hK1 K1
  simp [Try.f21]
  refine hK _ (Tr.cond rfl rfl ?_ ?_) <;> clear hK K <;> intro hq
  · simp at hq
    refine Tr.regionK fun K hK => ?_
    simp [Try.f21]
    refine hK _ (Tr.seq (Tr.regionK fun K1 hK1 => ?_)); clear hK K
    simp [Try.f21]
    refine hK1 _ (Tr.ret ⟨.inr rfl, ?_, ?_, ?_, ?_⟩) <;> simp [Try.f21]
    rw [hme, if_pos hq, wrapIn (by omega) (by omega)]
  · simp at hq
    refine Tr.skip (Tr.seq (Tr.regionK fun K1 hK1 => ?_))
    simp [Try.f21]
    refine hK1 _ (Tr.ret ⟨.inr rfl, ?_, ?_, ?_, ?_⟩) <;> simp [Try.f21]
    rw [hme, if_neg (by omega)]

/-- A source of numbers. -/
abbrev ints (l : List Int) : List (List DV) := l.map fun x => [.val (.int .i64 x)]
abbrev srcRow (l : List Int) (k : Nat) : PB := ⟨55, 2, [[.d (.imm (ints l)), .i k]]⟩
def nextV (l : List Int) (j : Nat) (k : Int) : Int := match l[j]? with | some x => x % k | none => 0
def nextN (l : List Int) (j : Nat) : Nat := if j < l.length then j + 1 else j

theorem hcall_next (l : List Int) (j s : Nat) (k : Int) (hl : ∀ x ∈ l, -9223372036854775808 ≤ x ∧ x ≤ 9223372036854775807) (hlen : l.length ≤ 1048576) (hj : j ≤ l.length) (hk : 0 < k) (hk2 : k ≤ 4611686018427387904) :
    HCall Try.prog 14 [.ptr s 0 0, .i k] [(s, srcRow l j)] [s] (fun _ => .i (nextV l j k)) [(s, srcRow l (nextN l j))] [] := by
  refine walk Try.func14 (by kernel_rfl) rfl 35 rfl (Nat.le_of_ble_eq_true rfl) fun nid hid => ?_
  have hs : s < nid := hid _ (List.mem_cons_self ..)
  refine Tr.seq (Tr.regionK fun K hK => ?_)
  simp [Try.f14, hs]
  refine hK _ (Tr.seq (Tr.seq (Tr.regionE mixed (by kernel_rfl) fun K1 hK1 => ?_))); clear hK K
  simp [Try.f14, hs]
  refine hK1 _ (Tr.cond rfl rfl ?_ ?_) <;> clear hK1 K1 <;> intro hq
  · simp at hq
    refine Tr.seq (Tr.regionK fun K1 hK1 => ?_)
    simp [Try.f14, hs]
    refine hK1 _ (Tr.ret ⟨.inr rfl, ?_, ?_, ?_, ?_⟩) <;> simp [Try.f14, hs]
    · unfold nextV; rw [List.getElem?_eq_none (by omega)]
    · unfold nextN; rw [if_neg (by omega)]
  · simp at hq
    have hlt : j < l.length := by omega
    have hx := hl _ (List.getElem_mem hlt)
    have w1 : IntKind.i64.wrap ((j : Int) + 1) = ((j + 1 : Nat) : Int) := by rw [wrapIn (by omega) (by omega)]; rfl
    have w2 : IntKind.i64.wrap (j : Int) = (j : Int) := wrapIn (by omega) (by omega)
    have hg : l[j]? = some l[j] := List.getElem?_eq_getElem hlt
    refine Tr.skip (Tr.seq (Tr.regionK fun K1 hK1 => ?_))
    simp [Try.f14, hs, w1]
    refine hK1 _ (Tr.seq (Tr.regionE mixed (by kernel_rfl) fun K hK => ?_)); clear hK1 K1
    simp [Try.f14, hs, w2, hg, hlt]
    refine .inl ⟨_, pcall_round l[j] k hx.1 hx.2 hk hk2, ?_⟩
    simp [hs]
    refine hK _ (Tr.ret ⟨.inr rfl, ?_, ?_, ?_, ?_⟩) <;> simp [Try.f14, hs, nextV, hg, nextN, hlt]
end Go.Proofs.Ytfeabgjcnnabdaa
