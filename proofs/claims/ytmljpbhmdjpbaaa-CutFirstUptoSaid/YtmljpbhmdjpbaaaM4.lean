/- Trees that are made; the tree of the example. The product of two words. Fractions: less; the greatest common divisor. Polylines in a box; lowest terms. When a motion is in a box: what the code reckons. -/
import Derived.Test.YtmljpbhmdjpbaaaM3
import Derived.Test.YtmljpbhmdjpbaaaPm34
namespace Go.Proofs.Ytmljpbhmdjpbaaa
set_option linter.unusedVariables false
set_option linter.unusedSimpArgs false
open Go.PM

theorem newTree_ok {r : List Iv} (h : rootOk r = true) : newTree r = some ⟨r, [leafCel]⟩ ∧ boxesT ⟨r, [leafCel]⟩ = some [r] := by
  have h2 : treeOk ⟨r, [leafCel]⟩ = true := by unfold treeOk; simp [h]
  have h3 : bst ⟨r, [leafCel]⟩ 1 = some [some r] := by
    rw [bst_succ (t := ⟨r, [leafCel]⟩) (i := 0) (outs := [some r]) (c := leafCel) rfl rfl]
    exact bstep_leaf (b := r) rfl rfl rfl
  have h4 : boxesT ⟨r, [leafCel]⟩ = some [r] := by
    unfold boxesT
    rw [if_pos h2]
    show (bst ⟨r, [leafCel]⟩ 1).map _ = _
    rw [h3]
    rfl
  exact ⟨by unfold newTree; rw [if_pos (by rw [h4]; rfl)], h4⟩
theorem rootS_ok (l : List Int) (j : Nat) : ∀ i, ∀ x ∈ (rootS l j i).1, x.ok = true
  | 0, x, h => by simp [rootS] at h
  | i + 1, x, h => by
    rcases List.mem_append.1 h with h | h
    · exact rootS_ok l j i x h
    · simp only [List.mem_singleton] at h
      subst h
      have h1 := nextV_rng l (rootS l j i).2 (k := 81) (by omega)
      have h2 := nextV_rng l (nextN l (rootS l j i).2) (k := 60) (by omega)
      refine Iv.ok_iff.2 ⟨?_, ?_, ?_⟩ <;> dsimp only <;> omega
theorem rootV_ok (l : List Int) (j : Nat) : rootOk (rootV l j).1 = true := by
  have h := nextV_rng l j (k := 3) (by omega)
  have hl : (rootV l j).1.length = (1 + nextV l j 3).toNat := rootS_len l _ _
  unfold rootOk
  have h1 : ¬ (rootV l j).1 = [] := by intro e; rw [e] at hl; simp at hl; omega
  have h2 : ¬ 10 < (rootV l j).1.length := by omega
  have h3 : boxOk (rootV l j).1 = true := List.all_eq_true.2 (rootS_ok l _ _)
  simp [h1, h2, h3]
def treeV (l : List Int) : Tree := divide ⟨(rootV l 0).1, [leafCel]⟩ l (nextV l (rootV l 0).2 14).toNat
theorem treeV_ok (l : List Int) : (boxesT (treeV l)).isSome = true := by
  have h := (newTree_ok (rootV_ok l 0)).2
  have h0 : (boxesT ⟨(rootV l 0).1, [leafCel]⟩).isSome = true := by rw [h]; rfl
  have h1 := dvS_ok h0 l (nextV l (rootV l 0).2 14).toNat
  unfold treeV divide
  rw [(stS_ok h1.1 _ l _ _).1]
  exact h1.1
theorem rootV_pos (l : List Int) {j : Nat} (h : j ≤ l.length) : (rootV l j).2 ≤ l.length := rootS_pos l (nextN_le l h) _
abbrev wall1 : Tree := ⟨[⟨0, 8⟩], [leafCel]⟩
abbrev wall2 : Tree := ⟨[⟨0, 8⟩], [⟨0, 1, 2, zeroVd⟩, leafCel, leafCel]⟩
abbrev wall3 : Tree := ⟨[⟨0, 8⟩], [⟨0, 1, 2, zeroVd⟩, leafCel, ⟨0, 3, 4, zeroVd⟩, leafCel, leafCel]⟩
abbrev wallT : Tree := ⟨[⟨0, 8⟩], [⟨0, 1, 2, zeroVd⟩, leafCel, ⟨0, 3, 4, zeroVd⟩, ⟨-1, -1, -1, ⟨2, [], ⟨0, [1], [1]⟩⟩⟩, leafCel]⟩
theorem pcall_wall1 : PCall Try.prog 52 [.d (.imm (ivs [⟨0, 8⟩]))] (.tup [treeP wall1, .b true]) := pcall_newTree [⟨0, 8⟩] (by simp)
theorem pcall_wall2 : PCall Try.prog 103 [treeP wall1, .i 0, .i 0] (.tup [treeP wall2, .b true]) := pcall_splitCell wall1 0 0 (by simp)
theorem pcall_wall3 : PCall Try.prog 103 [treeP wall2, .i 2, .i 0] (.tup [treeP wall3, .b true]) := pcall_splitCell wall2 2 0 (by simp)
theorem pcall_wall4 : PCall Try.prog 104 [treeP wall3, .i 3, vdP (label 1)] (.tup [treeP wallT, .b true]) := pcall_settle wall3 3 (label 1) (by simp)
set_option maxRecDepth 8000 in
set_option maxHeartbeats 4000000 in
theorem pcall_tree (l : List Int) (hl : Ok64 l) (hlen : l.length ≤ 1048576) :
    PCall Try.prog 16 [.d (.imm (ints l))] (treeP (treeV l)) := by
  have hro := rootV_ok l 0
  have hnt := newTree_ok hro
  have hv := nextV_rng l (rootV l 0).2 (k := 14) (by omega)
  have hp := rootV_pos l (Nat.zero_le l.length)
  obtain ⟨n, hn⟩ := Int.eq_ofNat_of_zero_le hv.1
  have htv : treeV l = divide ⟨(rootV l 0).1, [leafCel]⟩ l n := by unfold treeV; rw [hn]; rfl
  have hrl := root_len hnt.2
  obtain ⟨⟨r, p⟩, hrv⟩ : ∃ x, rootV l 0 = x := ⟨_, rfl⟩
  rw [hrv] at hro hnt hv hp hn htv hrl
  simp only at hro hnt hv hp hn htv hrl
  obtain ⟨w, hw⟩ : ∃ w, divide ⟨r, [leafCel]⟩ l n = w := ⟨_, rfl⟩
  rw [hw] at htv
  have hdv := pcall_divide ⟨r, [leafCel]⟩ l n (by rw [hnt.2]; rfl) (by omega) hl hlen
  rw [hw] at hdv
  refine walk Try.func16 (by kernel_rfl) rfl 19 rfl (Nat.le_of_ble_eq_true rfl) fun nid _ => ?_
  refine Tr.seq (Tr.regionK fun K hK => ?_)
  simp (maxSteps := 1000000)
  repeat (first | refine ⟨by omega, ?_⟩ | refine ⟨⟨by omega, by omega⟩, ?_⟩ | refine ⟨rfl, ?_⟩)
  refine hK _ ?_; clear hK K
  refine Tr.seq (Tr.regionK fun K hK => ?_)
  simp (maxSteps := 1000000) [add_add]
  repeat (first | refine ⟨by omega, ?_⟩ | refine ⟨⟨by omega, by omega⟩, ?_⟩ | refine ⟨rfl, ?_⟩)
  refine .inr ⟨[], [], fun n => .ptr n 0 0, [], [srcRow l 0], ⟨hcall_from l, by first | (simp; done) | (simp; omega), by first | (simp; done) | (simp; omega), by first | (simp; done) | (simp; omega), by first | (simp; done) | (simp; omega), by first | (simp; done) | (simp; omega), by first | (simp; done) | (simp; omega), by first | (simp; done) | (simp; omega), by first | (simp; done) | (simp; omega)⟩, ?_⟩
  simp (maxSteps := 1000000) [add_add]
  repeat (first | refine ⟨by omega, ?_⟩ | refine ⟨⟨by omega, by omega⟩, ?_⟩ | refine ⟨rfl, ?_⟩)
  refine hK _ ?_; clear hK K
  refine Tr.seq (Tr.regionK fun K hK => ?_)
  simp (maxSteps := 1000000) [add_add]
  repeat (first | refine ⟨by omega, ?_⟩ | refine ⟨⟨by omega, by omega⟩, ?_⟩ | refine ⟨rfl, ?_⟩)
  refine .inr ⟨[(nid + 8, srcRow l 0)], [nid + 8], fun _ => .d (.imm (ivs r)), [(nid + 8, srcRow l p)], [], ⟨(by have := hcall_root l 0 (nid + 8) hl hlen (Nat.zero_le _); rw [hrv] at this; exact this), by first | (simp; done) | (simp; omega), by first | (simp; done) | (simp; omega), by first | (simp; done) | (simp; omega), by first | (simp; done) | (simp; omega), by first | (simp; done) | (simp; omega), by first | (simp; done) | (simp; omega), by first | (simp; done) | (simp; omega), by first | (simp; done) | (simp; omega)⟩, ?_⟩
  simp (maxSteps := 1000000) [add_add]
  repeat (first | refine ⟨by omega, ?_⟩ | refine ⟨⟨by omega, by omega⟩, ?_⟩ | refine ⟨rfl, ?_⟩)
  refine .inl ⟨_, pcall_newTree r (by omega), rfl, ?_⟩
  simp (maxSteps := 1000000) [add_add, hnt.1, newTreeP]
  repeat (first | refine ⟨by omega, ?_⟩ | refine ⟨⟨by omega, by omega⟩, ?_⟩ | refine ⟨rfl, ?_⟩)
  refine hK _ ?_; clear hK K
  refine Tr.seq (Tr.regionE mixed (by kernel_rfl) fun K hK => ?_)
  simp (maxSteps := 1000000) [add_add]
  repeat (first | refine ⟨by omega, ?_⟩ | refine ⟨⟨by omega, by omega⟩, ?_⟩ | refine ⟨rfl, ?_⟩)
  refine .inr ⟨[((nid + 8), srcRow l p)], [(nid + 8)], fun _ => .i (nextV l p 14), [((nid + 8), srcRow l (nextN l p))], [], ⟨hcall_next l p ((nid + 8)) 14 hl hlen hp (by omega) (by omega), by first | (simp; done) | (simp; omega), by first | (simp; done) | (simp; omega), by first | (simp; done) | (simp; omega), by first | (simp; done) | (simp; omega), by first | (simp; done) | (simp; omega), by first | (simp; done) | (simp; omega), by first | (simp; done) | (simp; omega), by first | (simp; done) | (simp; omega)⟩, (by simp [Region.binds]), ?_⟩
  simp (maxSteps := 1000000) [add_add, hn]
  repeat (first | refine ⟨by omega, ?_⟩ | refine ⟨⟨by omega, by omega⟩, ?_⟩ | refine ⟨rfl, ?_⟩)
  refine .inl ⟨_, hdv, rfl, ?_⟩
  simp (maxSteps := 1000000) [Region.binds]
  repeat (first | refine ⟨by omega, ?_⟩ | refine ⟨⟨by omega, by omega⟩, ?_⟩ | refine ⟨rfl, ?_⟩)
  refine hK _ ?_; clear hK K
  refine Tr.ret ⟨.inr rfl, ?_, ?_, ?_, ?_⟩ <;> simp [Try.f16, htv]
set_option maxRecDepth 8000 in
set_option maxHeartbeats 4000000 in
theorem pcall_wall  :
    PCall Try.prog 50 [] (treeP wallT) := by
  refine walk Try.func50 (by kernel_rfl) rfl 26 rfl (Nat.le_of_ble_eq_true rfl) fun nid _ => ?_
  refine Tr.seq (Tr.regionK fun K hK => ?_)
  simp (maxSteps := 1000000)
  repeat (first | refine ⟨by omega, ?_⟩ | refine ⟨⟨by omega, by omega⟩, ?_⟩ | refine ⟨rfl, ?_⟩)
  refine hK _ ?_; clear hK K
  refine Tr.seq (Tr.regionK fun K hK => ?_)
  simp (maxSteps := 1000000) [add_add]
  repeat (first | refine ⟨by omega, ?_⟩ | refine ⟨⟨by omega, by omega⟩, ?_⟩ | refine ⟨rfl, ?_⟩)
  refine .inr ⟨[(nid + 8, ⟨102, 2, upm ivD [⟨0, 8⟩]⟩)], [nid + 8], fun _ => .tup [treeP wall1, .b true], [], [], ⟨HCall.give [(nid + 8, 102, 2, ivs [⟨0, 8⟩])] pcall_wall1 (by simp) (by simp [frzL]) rfl rfl, by first | (simp; done) | (simp; omega), by first | (simp; done) | (simp; omega), by first | (simp; done) | (simp; omega), by first | (simp; done) | (simp; omega), by first | (simp; done) | (simp; omega), by first | (simp; done) | (simp; omega), by first | (simp; done) | (simp; omega), by first | (simp; done) | (simp; omega)⟩, ?_⟩
  simp (maxSteps := 1000000) [add_add]
  repeat (first | refine ⟨by omega, ?_⟩ | refine ⟨⟨by omega, by omega⟩, ?_⟩ | refine ⟨rfl, ?_⟩)
  refine hK _ ?_; clear hK K
  refine Tr.seq (Tr.regionK fun K hK => ?_)
  simp (maxSteps := 1000000) [add_add]
  repeat (first | refine ⟨by omega, ?_⟩ | refine ⟨⟨by omega, by omega⟩, ?_⟩ | refine ⟨rfl, ?_⟩)
  refine .inl ⟨_, pcall_wall2, rfl, ?_⟩
  simp (maxSteps := 1000000) [add_add]
  repeat (first | refine ⟨by omega, ?_⟩ | refine ⟨⟨by omega, by omega⟩, ?_⟩ | refine ⟨rfl, ?_⟩)
  refine hK _ ?_; clear hK K
  refine Tr.seq (Tr.regionK fun K hK => ?_)
  simp (maxSteps := 1000000) [add_add]
  repeat (first | refine ⟨by omega, ?_⟩ | refine ⟨⟨by omega, by omega⟩, ?_⟩ | refine ⟨rfl, ?_⟩)
  refine .inl ⟨_, pcall_wall3, rfl, ?_⟩
  simp (maxSteps := 1000000) [add_add]
  repeat (first | refine ⟨by omega, ?_⟩ | refine ⟨⟨by omega, by omega⟩, ?_⟩ | refine ⟨rfl, ?_⟩)
  refine hK _ ?_; clear hK K
  refine Tr.seq (Tr.regionE mixed (by kernel_rfl) fun K hK => ?_)
  simp (maxSteps := 1000000) [add_add]
  repeat (first | refine ⟨by omega, ?_⟩ | refine ⟨⟨by omega, by omega⟩, ?_⟩ | refine ⟨rfl, ?_⟩)
  refine .inl ⟨_, pcall_label 1, rfl, ?_⟩
  simp (maxSteps := 1000000)
  repeat (first | refine ⟨by omega, ?_⟩ | refine ⟨⟨by omega, by omega⟩, ?_⟩ | refine ⟨rfl, ?_⟩)
  refine .inl ⟨_, pcall_wall4, rfl, ?_⟩
  simp (maxSteps := 1000000) [Region.binds]
  repeat (first | refine ⟨by omega, ?_⟩ | refine ⟨⟨by omega, by omega⟩, ?_⟩ | refine ⟨rfl, ?_⟩)
  refine hK _ ?_; clear hK K
  refine Tr.seq (Tr.regionK fun K hK => ?_)
  simp (maxSteps := 1000000) [add_add]
  repeat (first | refine ⟨by omega, ?_⟩ | refine ⟨⟨by omega, by omega⟩, ?_⟩ | refine ⟨rfl, ?_⟩)
  refine hK _ ?_; clear hK K
  refine Tr.ret ⟨.inr rfl, ?_, ?_, ?_, ?_⟩ <;> simp [Try.f50]
end Go.Proofs.Ytmljpbhmdjpbaaa
namespace Go.Proofs.Ytmljpbhmdjpbaaa
set_option linter.unusedVariables false
set_option linter.unusedSimpArgs false
open Go.PM

theorem u64_wrap (x : Int) : IntKind.u64.wrap x = x % 18446744073709551616 := by simp [IntKind.wrap, IntKind.bits, IntKind.signed]
theorem u64_id {x : Int} (h1 : 0 ≤ x) (h2 : x < 18446744073709551616) : IntKind.u64.wrap x = x := by rw [u64_wrap]; omega
theorem u64_shr (x : Int) : x.fdiv (2 ^ min 32 IntKind.u64.bits) = x / 4294967296 := by
  rw [show (2 : Int) ^ min 32 IntKind.u64.bits = 4294967296 from by decide]
  exact Int.fdiv_eq_ediv_of_nonneg _ (by omega)
theorem u64_and {x : Int} (h1 : 0 ≤ x) (h2 : x < 18446744073709551616) : IntKind.u64.wrap (((x % 2 ^ IntKind.u64.bits).toNat &&& 4294967295 % 2 ^ IntKind.u64.bits : Nat) : Int) = x % 4294967296 := by
  rw [show (2 : Int) ^ IntKind.u64.bits = 18446744073709551616 from by decide, show 4294967295 % 2 ^ IntKind.u64.bits = 2 ^ 32 - 1 from by decide, Nat.and_two_pow_sub_one_eq_mod]
  rw [u64_id (by omega) (by omega)]
  omega
theorem mulb {x y : Int} (hx : 0 ≤ x ∧ x ≤ 4294967295) (hy : 0 ≤ y ∧ y ≤ 4294967295) : 0 ≤ x * y ∧ x * y ≤ 18446744065119617025 := by
  have h1 := Int.mul_nonneg hx.1 hy.1
  have h2 := Int.mul_le_mul hx.2 hy.2 hy.1 (by omega)
  omega
theorem mul_split (a1 a0 b1 b0 : Int) : (a1 * 4294967296 + a0) * (b1 * 4294967296 + b0) = a1 * b1 * 18446744073709551616 + a1 * b0 * 4294967296 + a0 * b1 * 4294967296 + a0 * b0 := by
  rw [Int.add_mul, Int.mul_add, Int.mul_add]
  have e1 : a1 * 4294967296 * (b1 * 4294967296) = a1 * b1 * 18446744073709551616 := by
    rw [show (18446744073709551616 : Int) = 4294967296 * 4294967296 from rfl, Int.mul_assoc a1, Int.mul_assoc a1, ← Int.mul_assoc 4294967296, Int.mul_comm 4294967296 b1, Int.mul_assoc b1]
  have e2 : a1 * 4294967296 * b0 = a1 * b0 * 4294967296 := by rw [Int.mul_assoc, Int.mul_comm 4294967296, Int.mul_assoc]
  have e3 : a0 * (b1 * 4294967296) = a0 * b1 * 4294967296 := by rw [Int.mul_assoc]
  omega
set_option maxRecDepth 8000 in
set_option maxHeartbeats 4000000 in
theorem pcall_mul64 (a b : Int) (ha : 0 ≤ a ∧ a < 18446744073709551616) (hb : 0 ≤ b ∧ b < 18446744073709551616) :
    PCall Try.prog 121 [.d (.val (.int .u64 a)), .d (.val (.int .u64 b))] (.tup [.d (.val (.int .u64 (a * b / 18446744073709551616))), .d (.val (.int .u64 (a * b % 18446744073709551616)))]) := by
  refine walk Try.func121 (by kernel_rfl) rfl 51 rfl (Nat.le_of_ble_eq_true rfl) fun nid _ => ?_
  refine Tr.seq (Tr.regionK fun K hK => ?_)
  simp (maxSteps := 1000000) [add_add]
  refine hK _ ?_; clear hK K
  refine Tr.seq (Tr.regionK fun K hK => ?_)
  simp (maxSteps := 1000000) [add_add]
  refine hK _ ?_; clear hK K
  refine Tr.seq (Tr.regionK fun K hK => ?_)
  simp (maxSteps := 1000000) [add_add]
  refine hK _ ?_; clear hK K
  refine Tr.seq (Tr.regionK fun K hK => ?_)
  simp (maxSteps := 1000000) [add_add]
  refine hK _ ?_; clear hK K
  refine Tr.seq (Tr.regionK fun K hK => ?_)
  simp (maxSteps := 1000000) [add_add]
  refine hK _ ?_; clear hK K
  refine Tr.seq (Tr.regionK fun K hK => ?_)
  simp (maxSteps := 1000000) [add_add]
  refine hK _ ?_; clear hK K
  refine Tr.seq (Tr.regionK fun K hK => ?_)
  simp (maxSteps := 1000000) [add_add]
  refine hK _ ?_; clear hK K
  refine Tr.seq (Tr.regionK fun K hK => ?_)
  simp (maxSteps := 1000000) [add_add]
  refine hK _ ?_; clear hK K
  refine Tr.seq (Tr.regionK fun K hK => ?_)
  simp (maxSteps := 1000000) [add_add]
  refine hK _ ?_; clear hK K
  refine Tr.seq (Tr.regionK fun K hK => ?_)
  simp (maxSteps := 1000000) [add_add]
  refine hK _ ?_; clear hK K
  refine Tr.seq (Tr.regionK fun K hK => ?_)
  simp (maxSteps := 1000000) [add_add]
  refine hK _ ?_; clear hK K
  refine Tr.seq (Tr.regionK fun K hK => ?_)
  simp (maxSteps := 1000000) [add_add]
  refine hK _ ?_; clear hK K
  refine Tr.ret ⟨.inr rfl, ?_, ?_, ?_, ?_⟩ <;> simp [Try.f121]
  have hs := mul_split (a / 4294967296) (a % 4294967296) (b / 4294967296) (b % 4294967296)
  rw [show a / 4294967296 * 4294967296 + a % 4294967296 = a from by omega, show b / 4294967296 * 4294967296 + b % 4294967296 = b from by omega] at hs
  have p00 := mulb (x := a % 4294967296) (y := b % 4294967296) (by omega) (by omega)
  have p10 := mulb (x := a / 4294967296) (y := b % 4294967296) (by omega) (by omega)
  have p01 := mulb (x := a % 4294967296) (y := b / 4294967296) (by omega) (by omega)
  have p11 := mulb (x := a / 4294967296) (y := b / 4294967296) (by omega) (by omega)
  rw [u64_wrap (a * b)]
  refine ⟨?_, rfl⟩
  simp only [u64_shr]
  rw [u64_and ha.1 ha.2, u64_and hb.1 hb.2]
  generalize a / 4294967296 = a1 at *
  generalize a % 4294967296 = a0 at *
  generalize b / 4294967296 = b1 at *
  generalize b % 4294967296 = b0 at *
  generalize a * b = ab at *
  generalize a0 * b0 = q00 at *
  generalize a1 * b0 = q10 at *
  generalize a0 * b1 = q01 at *
  generalize a1 * b1 = q11 at *
  rw [u64_id (x := q00) (by omega) (by omega), u64_id (x := q10) (by omega) (by omega), u64_id (x := q01) (by omega) (by omega), u64_id (x := q11) (by omega) (by omega)]
  rw [u64_id (x := q10 + q00 / 4294967296) (by omega) (by omega)]
  rw [u64_and (x := q10 + q00 / 4294967296) (by omega) (by omega)]
  rw [u64_id (x := (q10 + q00 / 4294967296) % 4294967296 + q01) (by omega) (by omega)]
  rw [u64_id (x := q11 + (q10 + q00 / 4294967296) / 4294967296) (by omega) (by omega)]
  rw [u64_id (by omega) (by omega)]
  omega
end Go.Proofs.Ytmljpbhmdjpbaaa
namespace Go.Proofs.Ytmljpbhmdjpbaaa
set_option linter.unusedVariables false
set_option linter.unusedSimpArgs false
open Go.PM

structure Fr where
  num : Int
  den : Int
deriving DecidableEq
abbrev frP (f : Fr) : PV := .agg [.i f.num, .i f.den]
def Fr.less (f g : Fr) : Bool := decide (f.num * g.den < g.num * f.den)
def Fr.R (f : Fr) : Prop := (0 ≤ f.num ∧ f.num ≤ 9223372036854775807) ∧ (0 ≤ f.den ∧ f.den ≤ 9223372036854775807)
theorem tmod_nat (a b : Nat) : (a : Int).tmod (b : Int) = ((a % b : Nat) : Int) := (Int.ofNat_tmod a b).symm
theorem tdiv_nat (a b : Nat) : (a : Int).tdiv (b : Int) = ((a / b : Nat) : Int) := (Int.ofNat_tdiv a b).symm
set_option maxRecDepth 8000 in
set_option maxHeartbeats 4000000 in
theorem pcall_less (f g : Fr) (hf0 : f.R) (hg0 : g.R) :
    PCall Try.prog 66 [frP f, frP g] (.b (f.less g)) := by
  obtain ⟨⟨f1, f2⟩, f3, f4⟩ := hf0
  obtain ⟨⟨g1, g2⟩, g3, g4⟩ := hg0
  have c1 : IntKind.u64.wrap f.num = f.num := u64_id (by omega) (by omega)
  have c2 : IntKind.u64.wrap f.den = f.den := u64_id (by omega) (by omega)
  have c3 : IntKind.u64.wrap g.num = g.num := u64_id (by omega) (by omega)
  have c4 : IntKind.u64.wrap g.den = g.den := u64_id (by omega) (by omega)
  refine walk Try.func66 (by kernel_rfl) rfl 42 rfl (Nat.le_of_ble_eq_true rfl) fun nid _ => ?_
  refine Tr.seq (Tr.regionK fun K hK => ?_)
  simp (maxSteps := 1000000) [add_add]
  refine hK _ ?_; clear hK K
  refine Tr.seq (Tr.regionK fun K hK => ?_)
  simp (maxSteps := 1000000) [add_add, c1, c4]
  refine .inl ⟨_, pcall_mul64 f.num g.den (by omega) (by omega), rfl, ?_⟩
  simp (maxSteps := 1000000) [add_add]
  refine hK _ ?_; clear hK K
  refine Tr.seq (Tr.regionK fun K hK => ?_)
  simp (maxSteps := 1000000) [add_add, c2, c3]
  refine .inl ⟨_, pcall_mul64 g.num f.den (by omega) (by omega), rfl, ?_⟩
  simp (maxSteps := 1000000) [add_add]
  refine hK _ ?_; clear hK K
  by_cases s3_0 : f.num * g.den / 18446744073709551616 < g.num * f.den / 18446744073709551616
  · have s3_0' := s3_0
    have hf : f.less g = true := by unfold Fr.less; rw [decide_eq_true_eq]; omega
    refine Tr.seq (Tr.regionK fun K hK => ?_)
    simp (maxSteps := 1000000) [add_add, s3_0]
    refine hK _ ?_; clear hK K
    refine Tr.ret ⟨.inr rfl, ?_, ?_, ?_, ?_⟩ <;> simp [Try.f66, hf]
  by_cases s3_1 : ¬ f.num * g.den / 18446744073709551616 = g.num * f.den / 18446744073709551616
  · have s3_1' := s3_1
    have hf : f.less g = false := by unfold Fr.less; rw [decide_eq_false_iff_not]; omega
    refine Tr.seq (Tr.regionK fun K hK => ?_)
    simp (maxSteps := 1000000) [add_add, s3_0, s3_1]
    refine hK _ ?_; clear hK K
    refine Tr.ret ⟨.inr rfl, ?_, ?_, ?_, ?_⟩ <;> simp [Try.f66, hf]
  have heq : f.num * g.den / 18446744073709551616 = g.num * f.den / 18446744073709551616 := by omega
  have hf : f.less g = decide (f.num * g.den % 18446744073709551616 < g.num * f.den % 18446744073709551616) := by unfold Fr.less; rw [decide_eq_decide]; omega
  refine Tr.seq (Tr.regionK fun K hK => ?_)
  simp (maxSteps := 1000000) [add_add, heq]
  refine hK _ ?_; clear hK K
  refine Tr.ret ⟨.inr rfl, ?_, ?_, ?_, ?_⟩ <;> simp [Try.f66, hf]
set_option maxRecDepth 8000 in
set_option maxHeartbeats 4000000 in
theorem pcall_refLess (f g : Fr) (hf0 : f.R) (hg0 : g.R) :
    PCall Try.prog 110 [frP f, frP g] (.b (f.less g)) := by
  obtain ⟨⟨f1, f2⟩, f3, f4⟩ := hf0
  obtain ⟨⟨g1, g2⟩, g3, g4⟩ := hg0
  have c1 : IntKind.u64.wrap f.num = f.num := u64_id (by omega) (by omega)
  have c2 : IntKind.u64.wrap f.den = f.den := u64_id (by omega) (by omega)
  have c3 : IntKind.u64.wrap g.num = g.num := u64_id (by omega) (by omega)
  have c4 : IntKind.u64.wrap g.den = g.den := u64_id (by omega) (by omega)
  refine walk Try.func110 (by kernel_rfl) rfl 42 rfl (Nat.le_of_ble_eq_true rfl) fun nid _ => ?_
  refine Tr.seq (Tr.regionK fun K hK => ?_)
  simp (maxSteps := 1000000) [add_add]
  refine hK _ ?_; clear hK K
  refine Tr.seq (Tr.regionK fun K hK => ?_)
  simp (maxSteps := 1000000) [add_add, c1, c4]
  refine .inl ⟨_, pcall_mul64 f.num g.den (by omega) (by omega), rfl, ?_⟩
  simp (maxSteps := 1000000) [add_add]
  refine hK _ ?_; clear hK K
  refine Tr.seq (Tr.regionK fun K hK => ?_)
  simp (maxSteps := 1000000) [add_add, c2, c3]
  refine .inl ⟨_, pcall_mul64 g.num f.den (by omega) (by omega), rfl, ?_⟩
  simp (maxSteps := 1000000) [add_add]
  refine hK _ ?_; clear hK K
  by_cases s3_0 : f.num * g.den / 18446744073709551616 < g.num * f.den / 18446744073709551616
  · have s3_0' := s3_0
    have hf : f.less g = true := by unfold Fr.less; rw [decide_eq_true_eq]; omega
    refine Tr.seq (Tr.regionK fun K hK => ?_)
    simp (maxSteps := 1000000) [add_add, s3_0]
    refine hK _ ?_; clear hK K
    refine Tr.ret ⟨.inr rfl, ?_, ?_, ?_, ?_⟩ <;> simp [Try.f110, hf]
  by_cases s3_1 : ¬ f.num * g.den / 18446744073709551616 = g.num * f.den / 18446744073709551616
  · have s3_1' := s3_1
    have hf : f.less g = false := by unfold Fr.less; rw [decide_eq_false_iff_not]; omega
    refine Tr.seq (Tr.regionK fun K hK => ?_)
    simp (maxSteps := 1000000) [add_add, s3_0, s3_1]
    refine hK _ ?_; clear hK K
    refine Tr.ret ⟨.inr rfl, ?_, ?_, ?_, ?_⟩ <;> simp [Try.f110, hf]
  have heq : f.num * g.den / 18446744073709551616 = g.num * f.den / 18446744073709551616 := by omega
  have hf : f.less g = decide (f.num * g.den % 18446744073709551616 < g.num * f.den % 18446744073709551616) := by unfold Fr.less; rw [decide_eq_decide]; omega
  refine Tr.seq (Tr.regionK fun K hK => ?_)
  simp (maxSteps := 1000000) [add_add, heq]
  refine hK _ ?_; clear hK K
  refine Tr.ret ⟨.inr rfl, ?_, ?_, ?_, ?_⟩ <;> simp [Try.f110, hf]
set_option maxRecDepth 8000 in
set_option maxHeartbeats 4000000 in
theorem pcall_divisor (a b : Nat) (ha : a ≤ 9223372036854775807) (hb : b ≤ 9223372036854775807) :
    PCall Try.prog 111 [.i a, .i b] (.i (Nat.gcd a b)) := by
  refine walk Try.func111 (by kernel_rfl) rfl 12 rfl (Nat.le_of_ble_eq_true rfl) fun nid _ => ?_
  refine Tr.seq (Tr.regionK fun K hK => ?_)
  simp (maxSteps := 1000000)
  refine hK _ ?_; clear hK K
  refine Tr.seq ?_
  refine Tr.block ?_
  refine Tr.loopP [] [] [] (fun x : Nat × Nat => ([(0, .i x.1), (1, .i x.2)],
  [])) (fun x : Nat × Nat => (x.1 ≤ 9223372036854775807 ∧ x.2 ≤ 9223372036854775807) ∧ Nat.gcd x.1 x.2 = Nat.gcd a b) (fun x : Nat × Nat => x.2) (a, b) rfl ?_ ?_ ?_
  · exact ⟨⟨ha, hb⟩, rfl⟩
  · refine ⟨rfl, ?_, ?_, ?_, ?_⟩ <;> simp
  rintro ⟨c, d⟩ ⟨⟨hc, hd⟩, hg⟩ I hI0
  simp only at hc hd hg
  refine Tr.seq ?_
  refine Tr.seq (Tr.regionK fun K hK => ?_)
  simp (maxSteps := 1000000) [add_add]
  refine hK _ ?_; clear hK K
  refine Tr.cond rfl rfl (fun hq => ?_) (fun hq => ?_)
  · simp at hq
    have hz : ¬ d = 0 := by omega
    have hml := Nat.mod_le c d
    have wm : IntKind.i64.wrap ((c % d : Nat) : Int) = ((c % d : Nat) : Int) := wrapIn (by omega) (by omega)
    have hgg : Nat.gcd d (c % d) = Nat.gcd a b := by rw [← hg, Nat.gcd_comm c d, Nat.gcd_rec d c, Nat.gcd_comm]
    refine Tr.skip ?_
    refine Tr.block ?_
    refine Tr.regionE mixed (by kernel_rfl) fun K hK => ?_
    simp (maxSteps := 1000000) [hz, tmod_nat]
    refine hK _ ?_; clear hK K
    refine hI0 _ _ (d, c % d) (by exact ⟨⟨hd, by have := Nat.mod_le c d; omega⟩, hgg⟩) (by exact Nat.mod_lt c hq) ⟨rfl, ?_, ?_, ?_, ?_⟩ <;> simp [add_add]
  simp at hq
  refine Tr.exit (exit_s (exit_s (exit_b ?_)))
  have hd0 : d = 0 := by omega
  subst hd0
  have hf : Nat.gcd a b = c := by rw [← hg]; exact Nat.gcd_zero_right c
  refine Tr.seq (Tr.regionK fun K hK => ?_)
  simp (maxSteps := 1000000) [add_add]
  refine hK _ ?_; clear hK K
  refine Tr.ret ⟨.inr rfl, ?_, ?_, ?_, ?_⟩ <;> simp [Try.f111, hf]
end Go.Proofs.Ytmljpbhmdjpbaaa
namespace Go.Proofs.Ytmljpbhmdjpbaaa
set_option linter.unusedVariables false
set_option linter.unusedSimpArgs false
open Go.PM

def regularL (r : List Iv) (line : List (List Int)) : Bool := !decide ((line.length : Int) < 2) && (!decide (1024 < (line.length : Int)) && line.all (boxHas r))
def Fr.low (a b : Nat) : Fr := ⟨(a / Nat.gcd a b : Nat), (b / Nat.gcd a b : Nat)⟩
set_option maxRecDepth 8000 in
set_option maxHeartbeats 4000000 in
theorem pcall_regularL (r : List Iv) (line : List (List Int)) (hr : r.length ≤ 1048576) :
    PCall Try.prog 63 [.d (.imm (ivs r)), .d (.imm (qs line))] (.b (regularL r line)) := by
  refine walk Try.func63 (by kernel_rfl) rfl 26 rfl (Nat.le_of_ble_eq_true rfl) fun nid _ => ?_
  refine Tr.seq (Tr.regionK fun K hK => ?_)
  simp (maxSteps := 1000000)
  refine hK _ ?_; clear hK K
  refine Tr.seq ?_
  by_cases s1_0 : (line.length : Int) < 2
  · have s1_0' := s1_0
    have hf : regularL r line = false := by unfold regularL; simp [s1_0]
    refine Tr.seq (Tr.regionK fun K hK => ?_)
    simp (maxSteps := 1000000) [add_add, s1_0]
    refine hK _ ?_; clear hK K
    refine Tr.cond rfl rfl (fun hq0 => ?_) (fun hq0 => by first | (cases hq0; done) | (simp at hq0; done) | (simp_all; done))
    refine Tr.seq (Tr.regionK fun K hK => ?_)
    simp (maxSteps := 1000000) [add_add]
    refine hK _ ?_; clear hK K
    refine Tr.ret ⟨.inr rfl, ?_, ?_, ?_, ?_⟩ <;> simp [Try.f63, hf]
  by_cases s1_1 : 1024 < (line.length : Int)
  · have s1_1' := s1_1
    have hf : regularL r line = false := by unfold regularL; simp [s1_1]
    refine Tr.seq (Tr.regionK fun K hK => ?_)
    simp (maxSteps := 1000000) [add_add, s1_0, s1_1]
    refine hK _ ?_; clear hK K
    refine Tr.cond rfl rfl (fun hq1 => ?_) (fun hq1 => by first | (cases hq1; done) | (simp at hq1; done) | (simp_all; done))
    refine Tr.seq (Tr.regionK fun K hK => ?_)
    simp (maxSteps := 1000000) [add_add]
    refine hK _ ?_; clear hK K
    refine Tr.ret ⟨.inr rfl, ?_, ?_, ?_, ?_⟩ <;> simp [Try.f63, hf]
  refine Tr.seq (Tr.regionK fun K hK => ?_)
  simp (maxSteps := 1000000) [add_add, s1_0, s1_1]
  refine hK _ ?_; clear hK K
  refine Tr.cond rfl rfl (fun hq2 => by first | (cases hq2; done) | (simp at hq2; done) | (simp_all; done)) (fun hq2 => ?_)
  refine Tr.skip ?_
  refine Tr.seq ?_
  refine Tr.seq (Tr.regionK fun K hK => ?_)
  simp (maxSteps := 1000000) [add_add]
  refine hK _ ?_; clear hK K
  refine Tr.block ?_
  refine Tr.loopP [] [] [] (fun i : Nat => ([(0, .d (.imm (ivs r))), (15, .d (.imm (qs line))), (16, .i line.length), (17, .i i)],
  [])) (fun i : Nat => i ≤ line.length ∧ (line.take i).all (boxHas r) = true) (fun i : Nat => line.length - i) 0 rfl ?_ ?_ ?_
  · exact ⟨by simp, by simp⟩
  · refine ⟨rfl, ?_, ?_, ?_, ?_⟩ <;> simp [add_add]
  rintro i ⟨hi, hall⟩ I hI0
  have w : IntKind.i64.wrap ((i : Int) + 1) = (i : Int) + 1 := wrapIn (by omega) (by omega)
  refine Tr.seq (Tr.regionK fun K hK => ?_)
  simp (maxSteps := 1000000)
  refine hK _ ?_; clear hK K
  refine Tr.seq ?_
  refine Tr.cond rfl rfl (fun hq => ?_) (fun hq => ?_)
  · simp at hq
    obtain ⟨x, hx, hx'⟩ : ∃ x, line[i]? = some x ∧ line[i] = x := ⟨line[i], List.getElem?_eq_getElem hq, rfl⟩
    refine Tr.skip ?_
    refine Tr.seq ?_
    refine Tr.block ?_
    refine Tr.seq (Tr.regionK fun K hK => ?_)
    simp (maxSteps := 1000000) [add_add, hx', hq]
    refine hK _ ?_; clear hK K
    rcases Bool.eq_false_or_eq_true (boxHas r x) with s6_0 | s6_0
    · have s6_0' := s6_0
      refine Tr.seq (Tr.regionK fun K hK => ?_)
      simp (maxSteps := 1000000) [add_add]
      refine .inl ⟨_, pcall_has r x hr, rfl, ?_⟩
      simp (maxSteps := 1000000) [add_add, s6_0]
      refine hK _ ?_; clear hK K
      refine Tr.cond rfl rfl (fun hq4 => by first | (cases hq4; done) | (simp at hq4; done) | (simp_all; done)) (fun hq4 => ?_)
      refine Tr.skip ?_
      refine Tr.regionK fun K hK => ?_
      simp (maxSteps := 1000000) [add_add, w]
      refine hK _ ?_; clear hK K
      refine hI0 _ _ (i + 1) (⟨hq, all_take hall hx s6_0⟩) (by first | (show _ < _; omega) | (simp; omega)) ⟨rfl, ?_, ?_, ?_, ?_⟩ <;> simp [add_add]
    have hf : regularL r line = false := by unfold regularL; rw [all_false hx s6_0]; simp
    refine Tr.seq (Tr.regionK fun K hK => ?_)
    simp (maxSteps := 1000000) [add_add]
    refine .inl ⟨_, pcall_has r x hr, rfl, ?_⟩
    simp (maxSteps := 1000000) [add_add, s6_0]
    refine hK _ ?_; clear hK K
    refine Tr.cond rfl rfl (fun hq5 => ?_) (fun hq5 => by first | (cases hq5; done) | (simp at hq5; done) | (simp_all; done))
    refine Tr.seq (Tr.regionK fun K hK => ?_)
    simp (maxSteps := 1000000) [add_add]
    refine hK _ ?_; clear hK K
    refine Tr.ret ⟨.inr rfl, ?_, ?_, ?_, ?_⟩ <;> simp [Try.f63, hf]
  simp at hq
  refine Tr.exit (exit_s (exit_s (exit_b ?_)))
  have hf : regularL r line = true := by unfold regularL; rw [all_done hall (by omega)]; simp; omega
  refine Tr.seq (Tr.regionK fun K hK => ?_)
  simp (maxSteps := 1000000) [add_add]
  refine hK _ ?_; clear hK K
  refine Tr.ret ⟨.inr rfl, ?_, ?_, ?_, ?_⟩ <;> simp [Try.f63, hf]
set_option maxRecDepth 8000 in
set_option maxHeartbeats 4000000 in
theorem pcall_lowest (a b : Nat) (ha : a ≤ 9223372036854775807) (hb : b ≤ 9223372036854775807) (hb0 : 0 < b) :
    PCall Try.prog 67 [frP ⟨a, b⟩] (frP (Fr.low a b)) := by
  refine walk Try.func67 (by kernel_rfl) rfl 24 rfl (Nat.le_of_ble_eq_true rfl) fun nid _ => ?_
  refine Tr.seq (Tr.regionK fun K hK => ?_)
  simp (maxSteps := 1000000) [add_add]
  refine hK _ ?_; clear hK K
  refine Tr.seq (Tr.regionE mixed (by kernel_rfl) fun K hK => ?_)
  simp (maxSteps := 1000000)
  refine hK _ ?_; clear hK K
  refine Tr.seq ?_
  refine Tr.block ?_
  refine Tr.loopP [] [.slot 1, .slot 2] [.slot 1, .slot 2] (fun x : Nat × Nat => ([(1, .ptr nid 0 0), (2, .ptr (nid + 1) 0 0), (3, .i x.1), (4, .i x.2)],
  [(nid, ⟨109, 2, [[.i a, .i b]]⟩), (nid + 1, ⟨109, 2, [[.i 0, .i 0]]⟩)])) (fun x : Nat × Nat => (x.1 ≤ 9223372036854775807 ∧ x.2 ≤ 9223372036854775807) ∧ Nat.gcd x.1 x.2 = Nat.gcd a b) (fun x : Nat × Nat => x.2) (a, b) rfl ?_ ?_ ?_
  · exact ⟨⟨ha, hb⟩, rfl⟩
  · refine ⟨rfl, ?_, ?_, ?_, ?_⟩ <;> simp [add_add]
  rintro ⟨c, d⟩ ⟨⟨hc, hd⟩, hg⟩ I hI0
  simp only at hc hd hg
  refine Tr.seq ?_
  refine Tr.seq (Tr.regionK fun K hK => ?_)
  simp (maxSteps := 1000000) [add_add]
  refine hK _ ?_; clear hK K
  refine Tr.cond rfl rfl (fun hq => ?_) (fun hq => ?_)
  · simp at hq
    have hz : ¬ d = 0 := by omega
    have hml := Nat.mod_le c d
    have wm : IntKind.i64.wrap ((c % d : Nat) : Int) = ((c % d : Nat) : Int) := wrapIn (by omega) (by omega)
    have hgg : Nat.gcd d (c % d) = Nat.gcd a b := by rw [← hg, Nat.gcd_comm c d, Nat.gcd_rec d c, Nat.gcd_comm]
    refine Tr.skip ?_
    refine Tr.block ?_
    refine Tr.regionE mixed (by kernel_rfl) fun K hK => ?_
    simp (maxSteps := 1000000) [add_add, hz, tmod_nat]
    refine hK _ ?_; clear hK K
    refine hI0 _ _ (d, c % d) (by exact ⟨⟨hd, by have := Nat.mod_le c d; omega⟩, hgg⟩) (by exact Nat.mod_lt c (by omega)) ⟨rfl, ?_, ?_, ?_, ?_⟩ <;> simp [add_add]
  simp at hq
  refine Tr.exit (exit_s (exit_s (exit_b ?_)))
  have hd0 : d = 0 := by omega
  subst hd0
  have hf : Nat.gcd a b = c := by rw [← hg]; exact Nat.gcd_zero_right c
  have hcz : ¬ c = 0 := by intro e; rw [e] at hf; have := Nat.gcd_pos_of_pos_right a hb0; omega
  have hda := Nat.div_le_self a c
  have hdb := Nat.div_le_self b c
  have wa : IntKind.i64.wrap ((a : Int) / (c : Int)) = (a : Int) / (c : Int) := by rw [← Int.natCast_ediv]; generalize a / c = m at *; exact wrapIn (by omega) (by omega)
  have wb : IntKind.i64.wrap ((b : Int) / (c : Int)) = (b : Int) / (c : Int) := by rw [← Int.natCast_ediv]; generalize b / c = m at *; exact wrapIn (by omega) (by omega)
  refine Tr.seq (Tr.regionE mixed (by kernel_rfl) fun K hK => ?_)
  simp (maxSteps := 1000000) [add_add, Region.binds, hcz, wa, wb]
  refine hK _ ?_; clear hK K
  refine Tr.ret ⟨.inr rfl, ?_, ?_, ?_, ?_⟩ <;> simp [Try.f67, hf, Fr.low]
end Go.Proofs.Ytmljpbhmdjpbaaa
namespace Go.Proofs.Ytmljpbhmdjpbaaa
set_option linter.unusedVariables false
set_option linter.unusedSimpArgs false
open Go.PM

def entStep (d lo hi : Int) (s : Fr × Fr) : Option (Fr × Fr) :=
  if hi < 0 ∨ (d = 0 ∧ 0 < lo) then none
  else if d = 0 then some s
  else some (if 0 < lo ∧ s.1.less ⟨lo, d⟩ = true then ⟨lo, d⟩ else s.1, if Fr.less ⟨hi, d⟩ s.2 = true then ⟨hi, d⟩ else s.2)
def entTurn (p q : Int) (x : Iv) (s : Fr × Fr) : Option (Fr × Fr) :=
  if q - p < 0 then entStep (-(q - p)) (-(x.hi - p)) (-(x.lo - p)) s else entStep (q - p) (x.lo - p) (x.hi - p) s
def entS (p q : List Int) (b : List Iv) : Nat → Option (Fr × Fr)
  | 0 => some (⟨0, 1⟩, ⟨1, 1⟩)
  | j + 1 => (entS p q b j).bind fun s => match p[j]?, q[j]?, b[j]? with
    | some a, some c, some x => entTurn a c x s
    | _, _, _ => none
def entryV (p q : List Int) (b : List Iv) : Option Fr := (entS p q b b.length).bind fun s => if s.2.less s.1 = true then none else some s.1
abbrev In32 (p : List Int) : Prop := ∀ x ∈ p, -2147483648 ≤ x ∧ x ≤ 2147483648
theorem entS_succ {p q : List Int} {b : List Iv} {j : Nat} {s : Fr × Fr} {a c : Int} {x : Iv} (h : entS p q b j = some s) (ha : p[j]? = some a) (hc : q[j]? = some c) (hx : b[j]? = some x) : entS p q b (j + 1) = entTurn a c x s := by
  simp only [entS, h, ha, hc, hx, Option.bind_some]
theorem entS_none {p q : List Int} {b : List Iv} {j : Nat} (h : entS p q b j = none) : ∀ k, entS p q b (j + k) = none
  | 0 => h
  | k + 1 => by
    have := entS_none h k
    rw [← Nat.add_assoc]
    simp only [entS, this, Option.bind_none]
theorem entryV_none {p q : List Int} {b : List Iv} {j : Nat} (hj : j ≤ b.length) (h : entS p q b j = none) : entryV p q b = none := by
  unfold entryV
  have := entS_none h (b.length - j)
  rw [Nat.add_sub_cancel' hj] at this
  rw [this]; rfl
theorem entStep_R {d lo hi : Int} {s s' : Fr × Fr} (hd : 0 ≤ d ∧ d ≤ 4294967296) (hlo : lo ≤ 4294967296) (hhi : hi ≤ 4294967296) (h : entStep d lo hi s = some s') (h1 : s.1.R) (h2 : s.2.R) : s'.1.R ∧ s'.2.R := by
  unfold entStep at h
  split at h
  · cases h
  · rename_i hn
    split at h
    · cases h; exact ⟨h1, h2⟩
    · cases h
      refine ⟨?_, ?_⟩
      · dsimp only
        split
        · exact ⟨⟨by dsimp only; omega, by dsimp only; omega⟩, by dsimp only; omega, by dsimp only; omega⟩
        · exact h1
      · dsimp only
        split
        · exact ⟨⟨by dsimp only; omega, by dsimp only; omega⟩, by dsimp only; omega, by dsimp only; omega⟩
        · exact h2
theorem entTurn_R {a c : Int} {x : Iv} {s s' : Fr × Fr} (ha : -2147483648 ≤ a ∧ a ≤ 2147483648) (hc : -2147483648 ≤ c ∧ c ≤ 2147483648) (hx : x.ok = true) (h : entTurn a c x s = some s') (h1 : s.1.R) (h2 : s.2.R) : s'.1.R ∧ s'.2.R := by
  have hx := Iv.ok_iff.1 hx
  unfold entTurn at h
  split at h
  · exact entStep_R (by omega) (by omega) (by omega) h h1 h2
  · exact entStep_R (by omega) (by omega) (by omega) h h1 h2
theorem entS_R {p q : List Int} {b : List Iv} (hp : In32 p) (hq : In32 q) (hb : boxOk b = true) : ∀ {j : Nat} {s : Fr × Fr}, entS p q b j = some s → s.1.R ∧ s.2.R
  | 0, s, h => by
    simp only [entS, Option.some.injEq] at h
    subst h
    exact ⟨⟨⟨by decide, by decide⟩, by decide, by decide⟩, ⟨by decide, by decide⟩, by decide, by decide⟩
  | j + 1, s, h => by
    cases h0 : entS p q b j with
    | none => simp [entS, h0] at h
    | some s0 =>
      have ih := entS_R hp hq hb h0
      simp only [entS, h0, Option.bind_some] at h
      split at h
      · rename_i a c x ha hc hx
        exact entTurn_R (hp _ (List.mem_of_getElem? ha)) (hq _ (List.mem_of_getElem? hc)) (boxOk_at hb hx) h ih.1 ih.2
      · cases h
def esV (p q : List Int) (b : List Iv) (j : Nat) : Fr × Fr := (entS p q b j).getD (⟨0, 1⟩, ⟨1, 1⟩)
def entryR (p q : List Int) (b : List Iv) : Fr × Bool := match entS p q b b.length with
  | none => (⟨0, 0⟩, false)
  | some s => (s.1, !(s.2.less s.1))
theorem entryR_none {p q : List Int} {b : List Iv} {j : Nat} (hj : j ≤ b.length) (h : entS p q b j = none) : entryR p q b = (⟨0, 0⟩, false) := by
  unfold entryR
  have := entS_none h (b.length - j)
  rw [Nat.add_sub_cancel' hj] at this
  rw [this]
set_option maxRecDepth 8000 in
set_option maxHeartbeats 4000000 in
theorem pcall_entry (p q : List Int) (b : List Iv) (hp : In32 p) (hq0 : In32 q) (hb : boxOk b = true) (hlb : b.length ≤ 1048576) (hpl : p.length = b.length) (hql : q.length = b.length) :
    PCall Try.prog 65 [.d (.imm (ints p)), .d (.imm (ints q)), .d (.imm (ivs b))] (.tup [frP (entryR p q b).1, .b (entryR p q b).2]) := by
  refine walk Try.func65 (by kernel_rfl) rfl 94 rfl (Nat.le_of_ble_eq_true rfl) fun nid _ => ?_
  refine Tr.seq (Tr.regionK fun K hK => ?_)
  simp (maxSteps := 1000000) [add_add]
  refine hK _ ?_; clear hK K
  refine Tr.seq (Tr.regionK fun K hK => ?_)
  simp (maxSteps := 1000000) [add_add]
  refine hK _ ?_; clear hK K
  refine Tr.seq ?_
  refine Tr.seq (Tr.regionK fun K hK => ?_)
  simp (maxSteps := 1000000) [add_add]
  refine hK _ ?_; clear hK K
  refine Tr.block ?_
  refine Tr.loopP [] [.slot 6, .slot 8, .slot 9] [.slot 6, .slot 8, .slot 9] (fun j : Nat => ([(0, .d (.imm (ints p))), (1, .d (.imm (ints q))), (6, .ptr nid 0 0), (7, .b false), (8, .ptr (nid + 1) 0 0), (9, .ptr (nid + 2) 0 0), (19, .d (.imm (ivs b))), (20, .i b.length), (21, .i j)],
  [(nid, ⟨109, 2, [[.i 0, .i 0]]⟩), (nid + 1, ⟨109, 2, [[.i (esV p q b j).1.num, .i (esV p q b j).1.den]]⟩), (nid + 2, ⟨109, 2, [[.i (esV p q b j).2.num, .i (esV p q b j).2.den]]⟩)])) (fun j : Nat => j ≤ b.length ∧ entS p q b j = some (esV p q b j)) (fun j : Nat => b.length - j) 0 rfl ?_ ?_ ?_
  · exact ⟨Nat.zero_le _, rfl⟩
  · refine ⟨rfl, ?_, ?_, ?_, ?_⟩ <;> simp [add_add, esV, entS]
  rintro j ⟨hj, hes⟩ I hI0
  have w : IntKind.i64.wrap ((j : Int) + 1) = (j : Int) + 1 := wrapIn (by omega) (by omega)
  obtain ⟨⟨s, s'⟩, hst⟩ : ∃ x, esV p q b j = x := ⟨_, rfl⟩
  rw [hst] at hes
  obtain ⟨hR1, hR2⟩ := entS_R hp hq0 hb hes
  simp only at hR1 hR2
  refine Tr.seq (Tr.regionK fun K hK => ?_)
  simp (maxSteps := 1000000) [add_add, hst]
  refine hK _ ?_; clear hK K
  refine Tr.seq ?_
  refine Tr.cond rfl rfl (fun hq => ?_) (fun hq => ?_)
  · simp at hq
    have hjp : j < p.length := by omega
    have hjq : j < q.length := by omega
    obtain ⟨x, hx, hx'⟩ : ∃ x, b[j]? = some x ∧ b[j] = x := ⟨b[j], List.getElem?_eq_getElem hq, rfl⟩
    obtain ⟨a, ha, ha'⟩ : ∃ a, p[j]? = some a ∧ p[j] = a := ⟨p[j], List.getElem?_eq_getElem hjp, rfl⟩
    obtain ⟨c, hc, hc'⟩ : ∃ c, q[j]? = some c ∧ q[j] = c := ⟨q[j], List.getElem?_eq_getElem hjq, rfl⟩
    have hsu := entS_succ hes ha hc hx
    have ra := hp a (List.mem_of_getElem? ha)
    have rc := hq0 c (List.mem_of_getElem? hc)
    have hxo := Iv.ok_iff.1 (boxOk_at hb hx)
    have w1 : IntKind.i64.wrap (c - a) = c - a := wrapIn (by omega) (by omega)
    have w2 : IntKind.i64.wrap (x.lo - a) = x.lo - a := wrapIn (by omega) (by omega)
    have w3 : IntKind.i64.wrap (x.hi - a) = x.hi - a := wrapIn (by omega) (by omega)
    obtain ⟨d, hd⟩ : ∃ d, c - a = d := ⟨_, rfl⟩
    obtain ⟨lo, hlo⟩ : ∃ lo, x.lo - a = lo := ⟨_, rfl⟩
    obtain ⟨hi, hhi⟩ : ∃ hi, x.hi - a = hi := ⟨_, rfl⟩
    have wd : IntKind.i64.wrap d = d := wrapIn (by omega) (by omega)
    have wlo : IntKind.i64.wrap lo = lo := wrapIn (by omega) (by omega)
    have whi : IntKind.i64.wrap hi = hi := wrapIn (by omega) (by omega)
    refine Tr.skip ?_
    refine Tr.seq ?_
    refine Tr.block ?_
    refine Tr.seq (Tr.regionK fun K hK => ?_)
    simp (maxSteps := 1000000) [add_add, hx', hq]
    refine hK _ ?_; clear hK K
    refine Tr.seq (Tr.regionE mixed (by kernel_rfl) fun K hK => ?_)
    simp (maxSteps := 1000000) [add_add, ha', hc', hjp, hjq, wd, wlo, whi, hd, hlo, hhi]
    refine hK _ ?_; clear hK K
    refine Tr.seq ?_
    refine Tr.seq (Tr.regionK fun K hK => ?_)
    simp (maxSteps := 1000000) [add_add]
    refine hK _ ?_; clear hK K
    refine Tr.cond rfl rfl (fun hqd => ?_) (fun hqd => ?_)
    · simp at hqd
      obtain ⟨d1, hd1⟩ : ∃ d1, -d = d1 := ⟨_, rfl⟩
      obtain ⟨l1, hl1⟩ : ∃ l1, -hi = l1 := ⟨_, rfl⟩
      obtain ⟨h1, hh1⟩ : ∃ h1, -lo = h1 := ⟨_, rfl⟩
      have hT : entTurn a c x (s, s') = entStep d1 l1 h1 (s, s') := by unfold entTurn; rw [hd, hlo, hhi, if_pos hqd, hd1, hl1, hh1]
      have wd1 : IntKind.i64.wrap d1 = d1 := wrapIn (by omega) (by omega)
      have wl1 : IntKind.i64.wrap l1 = l1 := wrapIn (by omega) (by omega)
      have wh1 : IntKind.i64.wrap h1 = h1 := wrapIn (by omega) (by omega)
      refine Tr.regionK fun K hK => ?_
      simp (maxSteps := 1000000) [add_add, hd1, hl1, hh1, wd1, wl1, wh1]
      refine hK _ ?_; clear hK K
      refine Tr.seq ?_
      by_cases s8_0 : h1 < 0
      · have s8_0' := s8_0
        have hf : entryR p q b = (⟨0, 0⟩, false) := entryR_none (j := j + 1) hq (by rw [hsu, hT]; unfold entStep; rw [if_pos (by omega)])
        refine Tr.seq (Tr.regionK fun K hK => ?_)
        simp (maxSteps := 1000000) [add_add, s8_0]
        refine hK _ ?_; clear hK K
        refine Tr.cond rfl rfl (fun hq2 => ?_) (fun hq2 => by first | (cases hq2; done) | (simp at hq2; done) | (simp_all; done))
        refine Tr.seq (Tr.regionK fun K hK => ?_)
        simp (maxSteps := 1000000) [add_add]
        refine hK _ ?_; clear hK K
        refine Tr.ret ⟨.inr rfl, ?_, ?_, ?_, ?_⟩ <;> simp [Try.f65, hf]
      by_cases s8_1 : ¬ d1 = 0
      · have s8_1' := s8_1
        refine Tr.seq (Tr.regionK fun K hK => ?_)
        simp (maxSteps := 1000000) [add_add, s8_0, s8_1]
        refine hK _ ?_; clear hK K
        refine Tr.cond rfl rfl (fun hq3 => by first | (cases hq3; done) | (simp at hq3; done) | (simp_all; done)) (fun hq3 => ?_)
        refine Tr.skip ?_
        refine Tr.seq ?_
        refine Tr.seq (Tr.regionK fun K hK => ?_)
        simp (maxSteps := 1000000) [add_add, s8_1]
        refine hK _ ?_; clear hK K
        refine Tr.cond rfl rfl (fun hq4 => by first | (cases hq4; done) | (simp at hq4; done) | (simp_all; done)) (fun hq4 => ?_)
        refine Tr.skip ?_
        refine Tr.seq ?_
        refine Tr.seq (Tr.regionK fun K hK => ?_)
        simp (maxSteps := 1000000) [add_add]
        refine hK _ ?_; clear hK K
        by_cases s12_0 : 0 < l1
        · have s12_0' := s12_0
          rcases Bool.eq_false_or_eq_true (s.less ⟨l1, d1⟩) with s12_1 | s12_1
          · have s12_1' := s12_1
            have hX : (if 0 < l1 ∧ s.less ⟨l1, d1⟩ = true then (⟨l1, d1⟩ : Fr) else s) = ⟨l1, d1⟩ := by rw [if_pos ⟨s12_0, s12_1⟩]
            refine Tr.seq (Tr.regionK fun K hK => ?_)
            simp (maxSteps := 1000000) [add_add, s12_0]
            refine .inl ⟨_, pcall_less s ⟨l1, d1⟩ hR1 ⟨⟨by dsimp only; omega, by dsimp only; omega⟩, by dsimp only; omega, by dsimp only; omega⟩, rfl, ?_⟩
            simp (maxSteps := 1000000) [add_add, s12_1]
            refine hK _ ?_; clear hK K
            refine Tr.cond rfl rfl (fun hq5 => ?_) (fun hq5 => by first | (cases hq5; done) | (simp at hq5; done) | (simp_all; done))
            refine Tr.regionK fun K hK => ?_
            simp (maxSteps := 1000000) [add_add]
            refine hK _ ?_; clear hK K
            refine Tr.seq (Tr.regionK fun K hK => ?_)
            simp (maxSteps := 1000000) [add_add]
            refine hK _ ?_; clear hK K
            rcases Bool.eq_false_or_eq_true (Fr.less ⟨h1, d1⟩ s') with s15_0 | s15_0
            · have s15_0' := s15_0
              have hY : (if Fr.less ⟨h1, d1⟩ s' = true then (⟨h1, d1⟩ : Fr) else s') = ⟨h1, d1⟩ := by rw [if_pos s15_0]
              refine Tr.seq (Tr.regionK fun K hK => ?_)
              simp (maxSteps := 1000000) [add_add]
              refine .inl ⟨_, pcall_less ⟨h1, d1⟩ s' ⟨⟨by dsimp only; omega, by dsimp only; omega⟩, by dsimp only; omega, by dsimp only; omega⟩ hR2, rfl, ?_⟩
              simp (maxSteps := 1000000) [add_add, s15_0]
              refine hK _ ?_; clear hK K
              refine Tr.cond rfl rfl (fun hq6 => ?_) (fun hq6 => by first | (cases hq6; done) | (simp at hq6; done) | (simp_all; done))
              refine Tr.regionK fun K hK => ?_
              simp (maxSteps := 1000000) [add_add]
              refine hK _ ?_; clear hK K
              refine Tr.regionK fun K hK => ?_
              simp (maxSteps := 1000000) [add_add, w]
              refine hK _ ?_; clear hK K
              have hs1 : entS p q b (j + 1) = some (if 0 < l1 ∧ s.less ⟨l1, d1⟩ = true then (⟨l1, d1⟩ : Fr) else s, if Fr.less ⟨h1, d1⟩ s' = true then (⟨h1, d1⟩ : Fr) else s') := by rw [hsu, hT]; unfold entStep; rw [if_neg (by omega), if_neg (by omega)]
              rw [hX, hY] at hs1
              have hs2 : esV p q b (j + 1) = (entS p q b (j + 1)).getD (⟨0, 1⟩, ⟨1, 1⟩) := rfl
              rw [hs1] at hs2
              simp only [Option.getD_some] at hs2
              refine hI0 _ _ (j + 1) (⟨hq, by rw [hs2]; exact hs1⟩) (by first | (show _ < _; omega) | (simp; omega)) ⟨rfl, ?_, ?_, ?_, ?_⟩ <;> simp [add_add, hs2]
            have hY : (if Fr.less ⟨h1, d1⟩ s' = true then (⟨h1, d1⟩ : Fr) else s') = s' := by rw [if_neg]; simp [s15_0]
            refine Tr.seq (Tr.regionK fun K hK => ?_)
            simp (maxSteps := 1000000) [add_add]
            refine .inl ⟨_, pcall_less ⟨h1, d1⟩ s' ⟨⟨by dsimp only; omega, by dsimp only; omega⟩, by dsimp only; omega, by dsimp only; omega⟩ hR2, rfl, ?_⟩
            simp (maxSteps := 1000000) [add_add, s15_0]
            refine hK _ ?_; clear hK K
            refine Tr.cond rfl rfl (fun hq7 => by first | (cases hq7; done) | (simp at hq7; done) | (simp_all; done)) (fun hq7 => ?_)
            refine Tr.skip ?_
            refine Tr.regionK fun K hK => ?_
            simp (maxSteps := 1000000) [add_add, w]
            refine hK _ ?_; clear hK K
            have hs1 : entS p q b (j + 1) = some (if 0 < l1 ∧ s.less ⟨l1, d1⟩ = true then (⟨l1, d1⟩ : Fr) else s, if Fr.less ⟨h1, d1⟩ s' = true then (⟨h1, d1⟩ : Fr) else s') := by rw [hsu, hT]; unfold entStep; rw [if_neg (by omega), if_neg (by omega)]
            rw [hX, hY] at hs1
            have hs2 : esV p q b (j + 1) = (entS p q b (j + 1)).getD (⟨0, 1⟩, ⟨1, 1⟩) := rfl
            rw [hs1] at hs2
            simp only [Option.getD_some] at hs2
            refine hI0 _ _ (j + 1) (⟨hq, by rw [hs2]; exact hs1⟩) (by first | (show _ < _; omega) | (simp; omega)) ⟨rfl, ?_, ?_, ?_, ?_⟩ <;> simp [add_add, hs2]
          have hX : (if 0 < l1 ∧ s.less ⟨l1, d1⟩ = true then (⟨l1, d1⟩ : Fr) else s) = s := by rw [if_neg]; simp [s12_1]
          refine Tr.seq (Tr.regionK fun K hK => ?_)
          simp (maxSteps := 1000000) [add_add, s12_0]
          refine .inl ⟨_, pcall_less s ⟨l1, d1⟩ hR1 ⟨⟨by dsimp only; omega, by dsimp only; omega⟩, by dsimp only; omega, by dsimp only; omega⟩, rfl, ?_⟩
          simp (maxSteps := 1000000) [add_add, s12_1]
          refine hK _ ?_; clear hK K
          refine Tr.cond rfl rfl (fun hq8 => by first | (cases hq8; done) | (simp at hq8; done) | (simp_all; done)) (fun hq8 => ?_)
          refine Tr.skip ?_
          refine Tr.seq (Tr.regionK fun K hK => ?_)
          simp (maxSteps := 1000000) [add_add]
          refine hK _ ?_; clear hK K
          rcases Bool.eq_false_or_eq_true (Fr.less ⟨h1, d1⟩ s') with s15_0 | s15_0
          · have s15_0' := s15_0
            have hY : (if Fr.less ⟨h1, d1⟩ s' = true then (⟨h1, d1⟩ : Fr) else s') = ⟨h1, d1⟩ := by rw [if_pos s15_0]
            refine Tr.seq (Tr.regionK fun K hK => ?_)
            simp (maxSteps := 1000000) [add_add]
            refine .inl ⟨_, pcall_less ⟨h1, d1⟩ s' ⟨⟨by dsimp only; omega, by dsimp only; omega⟩, by dsimp only; omega, by dsimp only; omega⟩ hR2, rfl, ?_⟩
            simp (maxSteps := 1000000) [add_add, s15_0]
            refine hK _ ?_; clear hK K
            refine Tr.cond rfl rfl (fun hq9 => ?_) (fun hq9 => by first | (cases hq9; done) | (simp at hq9; done) | (simp_all; done))
            refine Tr.regionK fun K hK => ?_
            simp (maxSteps := 1000000) [add_add]
            refine hK _ ?_; clear hK K
            refine Tr.regionK fun K hK => ?_
            simp (maxSteps := 1000000) [add_add, w]
            refine hK _ ?_; clear hK K
            have hs1 : entS p q b (j + 1) = some (if 0 < l1 ∧ s.less ⟨l1, d1⟩ = true then (⟨l1, d1⟩ : Fr) else s, if Fr.less ⟨h1, d1⟩ s' = true then (⟨h1, d1⟩ : Fr) else s') := by rw [hsu, hT]; unfold entStep; rw [if_neg (by omega), if_neg (by omega)]
            rw [hX, hY] at hs1
            have hs2 : esV p q b (j + 1) = (entS p q b (j + 1)).getD (⟨0, 1⟩, ⟨1, 1⟩) := rfl
            rw [hs1] at hs2
            simp only [Option.getD_some] at hs2
            refine hI0 _ _ (j + 1) (⟨hq, by rw [hs2]; exact hs1⟩) (by first | (show _ < _; omega) | (simp; omega)) ⟨rfl, ?_, ?_, ?_, ?_⟩ <;> simp [add_add, hs2]
          have hY : (if Fr.less ⟨h1, d1⟩ s' = true then (⟨h1, d1⟩ : Fr) else s') = s' := by rw [if_neg]; simp [s15_0]
          refine Tr.seq (Tr.regionK fun K hK => ?_)
          simp (maxSteps := 1000000) [add_add]
          refine .inl ⟨_, pcall_less ⟨h1, d1⟩ s' ⟨⟨by dsimp only; omega, by dsimp only; omega⟩, by dsimp only; omega, by dsimp only; omega⟩ hR2, rfl, ?_⟩
          simp (maxSteps := 1000000) [add_add, s15_0]
          refine hK _ ?_; clear hK K
          refine Tr.cond rfl rfl (fun hq10 => by first | (cases hq10; done) | (simp at hq10; done) | (simp_all; done)) (fun hq10 => ?_)
          refine Tr.skip ?_
          refine Tr.regionK fun K hK => ?_
          simp (maxSteps := 1000000) [add_add, w]
          refine hK _ ?_; clear hK K
          have hs1 : entS p q b (j + 1) = some (if 0 < l1 ∧ s.less ⟨l1, d1⟩ = true then (⟨l1, d1⟩ : Fr) else s, if Fr.less ⟨h1, d1⟩ s' = true then (⟨h1, d1⟩ : Fr) else s') := by rw [hsu, hT]; unfold entStep; rw [if_neg (by omega), if_neg (by omega)]
          rw [hX, hY] at hs1
          have hs2 : esV p q b (j + 1) = (entS p q b (j + 1)).getD (⟨0, 1⟩, ⟨1, 1⟩) := rfl
          rw [hs1] at hs2
          simp only [Option.getD_some] at hs2
          refine hI0 _ _ (j + 1) (⟨hq, by rw [hs2]; exact hs1⟩) (by first | (show _ < _; omega) | (simp; omega)) ⟨rfl, ?_, ?_, ?_, ?_⟩ <;> simp [add_add, hs2]
        have hX : (if 0 < l1 ∧ s.less ⟨l1, d1⟩ = true then (⟨l1, d1⟩ : Fr) else s) = s := by rw [if_neg]; simp [s12_0]
        refine Tr.seq (Tr.regionK fun K hK => ?_)
        simp (maxSteps := 1000000) [add_add, s12_0]
        refine hK _ ?_; clear hK K
        refine Tr.cond rfl rfl (fun hq11 => by first | (cases hq11; done) | (simp at hq11; done) | (simp_all; done)) (fun hq11 => ?_)
        refine Tr.skip ?_
        refine Tr.seq (Tr.regionK fun K hK => ?_)
        simp (maxSteps := 1000000) [add_add]
        refine hK _ ?_; clear hK K
        rcases Bool.eq_false_or_eq_true (Fr.less ⟨h1, d1⟩ s') with s15_0 | s15_0
        · have s15_0' := s15_0
          have hY : (if Fr.less ⟨h1, d1⟩ s' = true then (⟨h1, d1⟩ : Fr) else s') = ⟨h1, d1⟩ := by rw [if_pos s15_0]
          refine Tr.seq (Tr.regionK fun K hK => ?_)
          simp (maxSteps := 1000000) [add_add]
          refine .inl ⟨_, pcall_less ⟨h1, d1⟩ s' ⟨⟨by dsimp only; omega, by dsimp only; omega⟩, by dsimp only; omega, by dsimp only; omega⟩ hR2, rfl, ?_⟩
          simp (maxSteps := 1000000) [add_add, s15_0]
          refine hK _ ?_; clear hK K
          refine Tr.cond rfl rfl (fun hq12 => ?_) (fun hq12 => by first | (cases hq12; done) | (simp at hq12; done) | (simp_all; done))
          refine Tr.regionK fun K hK => ?_
          simp (maxSteps := 1000000) [add_add]
          refine hK _ ?_; clear hK K
          refine Tr.regionK fun K hK => ?_
          simp (maxSteps := 1000000) [add_add, w]
          refine hK _ ?_; clear hK K
          have hs1 : entS p q b (j + 1) = some (if 0 < l1 ∧ s.less ⟨l1, d1⟩ = true then (⟨l1, d1⟩ : Fr) else s, if Fr.less ⟨h1, d1⟩ s' = true then (⟨h1, d1⟩ : Fr) else s') := by rw [hsu, hT]; unfold entStep; rw [if_neg (by omega), if_neg (by omega)]
          rw [hX, hY] at hs1
          have hs2 : esV p q b (j + 1) = (entS p q b (j + 1)).getD (⟨0, 1⟩, ⟨1, 1⟩) := rfl
          rw [hs1] at hs2
          simp only [Option.getD_some] at hs2
          refine hI0 _ _ (j + 1) (⟨hq, by rw [hs2]; exact hs1⟩) (by first | (show _ < _; omega) | (simp; omega)) ⟨rfl, ?_, ?_, ?_, ?_⟩ <;> simp [add_add, hs2]
        have hY : (if Fr.less ⟨h1, d1⟩ s' = true then (⟨h1, d1⟩ : Fr) else s') = s' := by rw [if_neg]; simp [s15_0]
        refine Tr.seq (Tr.regionK fun K hK => ?_)
        simp (maxSteps := 1000000) [add_add]
        refine .inl ⟨_, pcall_less ⟨h1, d1⟩ s' ⟨⟨by dsimp only; omega, by dsimp only; omega⟩, by dsimp only; omega, by dsimp only; omega⟩ hR2, rfl, ?_⟩
        simp (maxSteps := 1000000) [add_add, s15_0]
        refine hK _ ?_; clear hK K
        refine Tr.cond rfl rfl (fun hq13 => by first | (cases hq13; done) | (simp at hq13; done) | (simp_all; done)) (fun hq13 => ?_)
        refine Tr.skip ?_
        refine Tr.regionK fun K hK => ?_
        simp (maxSteps := 1000000) [add_add, w]
        refine hK _ ?_; clear hK K
        have hs1 : entS p q b (j + 1) = some (if 0 < l1 ∧ s.less ⟨l1, d1⟩ = true then (⟨l1, d1⟩ : Fr) else s, if Fr.less ⟨h1, d1⟩ s' = true then (⟨h1, d1⟩ : Fr) else s') := by rw [hsu, hT]; unfold entStep; rw [if_neg (by omega), if_neg (by omega)]
        rw [hX, hY] at hs1
        have hs2 : esV p q b (j + 1) = (entS p q b (j + 1)).getD (⟨0, 1⟩, ⟨1, 1⟩) := rfl
        rw [hs1] at hs2
        simp only [Option.getD_some] at hs2
        refine hI0 _ _ (j + 1) (⟨hq, by rw [hs2]; exact hs1⟩) (by first | (show _ < _; omega) | (simp; omega)) ⟨rfl, ?_, ?_, ?_, ?_⟩ <;> simp [add_add, hs2]
      have hd0 : d1 = 0 := by omega
      by_cases s8_2 : 0 < l1
      · have s8_2' := s8_2
        have hf : entryR p q b = (⟨0, 0⟩, false) := entryR_none (j := j + 1) hq (by rw [hsu, hT]; unfold entStep; rw [if_pos (by omega)])
        refine Tr.seq (Tr.regionK fun K hK => ?_)
        simp (maxSteps := 1000000) [add_add, s8_0, hd0, s8_2]
        refine hK _ ?_; clear hK K
        refine Tr.cond rfl rfl (fun hq14 => ?_) (fun hq14 => by first | (cases hq14; done) | (simp at hq14; done) | (simp_all; done))
        refine Tr.seq (Tr.regionK fun K hK => ?_)
        simp (maxSteps := 1000000) [add_add]
        refine hK _ ?_; clear hK K
        refine Tr.ret ⟨.inr rfl, ?_, ?_, ?_, ?_⟩ <;> simp [Try.f65, hf]
      refine Tr.seq (Tr.regionK fun K hK => ?_)
      simp (maxSteps := 1000000) [add_add, s8_0, hd0, s8_2]
      refine hK _ ?_; clear hK K
      refine Tr.cond rfl rfl (fun hq15 => by first | (cases hq15; done) | (simp at hq15; done) | (simp_all; done)) (fun hq15 => ?_)
      refine Tr.skip ?_
      refine Tr.seq ?_
      refine Tr.seq (Tr.regionK fun K hK => ?_)
      simp (maxSteps := 1000000) [add_add]
      refine hK _ ?_; clear hK K
      refine Tr.cond rfl rfl (fun hq16 => ?_) (fun hq16 => by first | (cases hq16; done) | (simp at hq16; done) | (simp_all; done))
      refine Tr.exit (exit_s (exit_b ?_))
      refine Tr.regionK fun K hK => ?_
      simp (maxSteps := 1000000) [add_add, w]
      refine hK _ ?_; clear hK K
      have hs1 : entS p q b (j + 1) = some (s, s') := by rw [hsu, hT]; unfold entStep; rw [if_neg (by omega), if_pos (by omega)]
      have hs2 : esV p q b (j + 1) = (s, s') := by unfold esV; rw [hs1]; rfl
      refine hI0 _ _ (j + 1) (⟨hq, by rw [hs2]; exact hs1⟩) (by first | (show _ < _; omega) | (simp; omega)) ⟨rfl, ?_, ?_, ?_, ?_⟩ <;> simp [add_add, hs2]
    simp at hqd
    obtain ⟨d1, hd1⟩ : ∃ d1, d = d1 := ⟨_, rfl⟩
    obtain ⟨l1, hl1⟩ : ∃ l1, lo = l1 := ⟨_, rfl⟩
    obtain ⟨h1, hh1⟩ : ∃ h1, hi = h1 := ⟨_, rfl⟩
    have hT : entTurn a c x (s, s') = entStep d1 l1 h1 (s, s') := by unfold entTurn; rw [hd, hlo, hhi, if_neg (by omega), hd1, hl1, hh1]
    have wd1 : IntKind.i64.wrap d1 = d1 := wrapIn (by omega) (by omega)
    have wl1 : IntKind.i64.wrap l1 = l1 := wrapIn (by omega) (by omega)
    have wh1 : IntKind.i64.wrap h1 = h1 := wrapIn (by omega) (by omega)
    refine Tr.skip ?_
    refine Tr.seq ?_
    by_cases s8_0 : h1 < 0
    · have s8_0' := s8_0
      have hf : entryR p q b = (⟨0, 0⟩, false) := entryR_none (j := j + 1) hq (by rw [hsu, hT]; unfold entStep; rw [if_pos (by omega)])
      refine Tr.seq (Tr.regionK fun K hK => ?_)
      simp (maxSteps := 1000000) [add_add, hd1, hl1, hh1, s8_0]
      refine hK _ ?_; clear hK K
      refine Tr.cond rfl rfl (fun hq17 => ?_) (fun hq17 => by first | (cases hq17; done) | (simp at hq17; done) | (simp_all; done))
      refine Tr.seq (Tr.regionK fun K hK => ?_)
      simp (maxSteps := 1000000) [add_add]
      refine hK _ ?_; clear hK K
      refine Tr.ret ⟨.inr rfl, ?_, ?_, ?_, ?_⟩ <;> simp [Try.f65, hf]
    by_cases s8_1 : ¬ d1 = 0
    · have s8_1' := s8_1
      refine Tr.seq (Tr.regionK fun K hK => ?_)
      simp (maxSteps := 1000000) [add_add, hd1, hl1, hh1, s8_0, s8_1]
      refine hK _ ?_; clear hK K
      refine Tr.cond rfl rfl (fun hq18 => by first | (cases hq18; done) | (simp at hq18; done) | (simp_all; done)) (fun hq18 => ?_)
      refine Tr.skip ?_
      refine Tr.seq ?_
      refine Tr.seq (Tr.regionK fun K hK => ?_)
      simp (maxSteps := 1000000) [add_add, s8_1]
      refine hK _ ?_; clear hK K
      refine Tr.cond rfl rfl (fun hq19 => by first | (cases hq19; done) | (simp at hq19; done) | (simp_all; done)) (fun hq19 => ?_)
      refine Tr.skip ?_
      refine Tr.seq ?_
      refine Tr.seq (Tr.regionK fun K hK => ?_)
      simp (maxSteps := 1000000) [add_add]
      refine hK _ ?_; clear hK K
      by_cases s12_0 : 0 < l1
      · have s12_0' := s12_0
        rcases Bool.eq_false_or_eq_true (s.less ⟨l1, d1⟩) with s12_1 | s12_1
        · have s12_1' := s12_1
          have hX : (if 0 < l1 ∧ s.less ⟨l1, d1⟩ = true then (⟨l1, d1⟩ : Fr) else s) = ⟨l1, d1⟩ := by rw [if_pos ⟨s12_0, s12_1⟩]
          refine Tr.seq (Tr.regionK fun K hK => ?_)
          simp (maxSteps := 1000000) [add_add, s12_0]
          refine .inl ⟨_, pcall_less s ⟨l1, d1⟩ hR1 ⟨⟨by dsimp only; omega, by dsimp only; omega⟩, by dsimp only; omega, by dsimp only; omega⟩, rfl, ?_⟩
          simp (maxSteps := 1000000) [add_add, s12_1]
          refine hK _ ?_; clear hK K
          refine Tr.cond rfl rfl (fun hq20 => ?_) (fun hq20 => by first | (cases hq20; done) | (simp at hq20; done) | (simp_all; done))
          refine Tr.regionK fun K hK => ?_
          simp (maxSteps := 1000000) [add_add]
          refine hK _ ?_; clear hK K
          refine Tr.seq (Tr.regionK fun K hK => ?_)
          simp (maxSteps := 1000000) [add_add]
          refine hK _ ?_; clear hK K
          rcases Bool.eq_false_or_eq_true (Fr.less ⟨h1, d1⟩ s') with s15_0 | s15_0
          · have s15_0' := s15_0
            have hY : (if Fr.less ⟨h1, d1⟩ s' = true then (⟨h1, d1⟩ : Fr) else s') = ⟨h1, d1⟩ := by rw [if_pos s15_0]
            refine Tr.seq (Tr.regionK fun K hK => ?_)
            simp (maxSteps := 1000000) [add_add]
            refine .inl ⟨_, pcall_less ⟨h1, d1⟩ s' ⟨⟨by dsimp only; omega, by dsimp only; omega⟩, by dsimp only; omega, by dsimp only; omega⟩ hR2, rfl, ?_⟩
            simp (maxSteps := 1000000) [add_add, s15_0]
            refine hK _ ?_; clear hK K
            refine Tr.cond rfl rfl (fun hq21 => ?_) (fun hq21 => by first | (cases hq21; done) | (simp at hq21; done) | (simp_all; done))
            refine Tr.regionK fun K hK => ?_
            simp (maxSteps := 1000000) [add_add]
            refine hK _ ?_; clear hK K
            refine Tr.regionK fun K hK => ?_
            simp (maxSteps := 1000000) [add_add, w]
            refine hK _ ?_; clear hK K
            have hs1 : entS p q b (j + 1) = some (if 0 < l1 ∧ s.less ⟨l1, d1⟩ = true then (⟨l1, d1⟩ : Fr) else s, if Fr.less ⟨h1, d1⟩ s' = true then (⟨h1, d1⟩ : Fr) else s') := by rw [hsu, hT]; unfold entStep; rw [if_neg (by omega), if_neg (by omega)]
            rw [hX, hY] at hs1
            have hs2 : esV p q b (j + 1) = (entS p q b (j + 1)).getD (⟨0, 1⟩, ⟨1, 1⟩) := rfl
            rw [hs1] at hs2
            simp only [Option.getD_some] at hs2
            refine hI0 _ _ (j + 1) (⟨hq, by rw [hs2]; exact hs1⟩) (by first | (show _ < _; omega) | (simp; omega)) ⟨rfl, ?_, ?_, ?_, ?_⟩ <;> simp [add_add, hs2]
          have hY : (if Fr.less ⟨h1, d1⟩ s' = true then (⟨h1, d1⟩ : Fr) else s') = s' := by rw [if_neg]; simp [s15_0]
          refine Tr.seq (Tr.regionK fun K hK => ?_)
          simp (maxSteps := 1000000) [add_add]
          refine .inl ⟨_, pcall_less ⟨h1, d1⟩ s' ⟨⟨by dsimp only; omega, by dsimp only; omega⟩, by dsimp only; omega, by dsimp only; omega⟩ hR2, rfl, ?_⟩
          simp (maxSteps := 1000000) [add_add, s15_0]
          refine hK _ ?_; clear hK K
          refine Tr.cond rfl rfl (fun hq22 => by first | (cases hq22; done) | (simp at hq22; done) | (simp_all; done)) (fun hq22 => ?_)
          refine Tr.skip ?_
          refine Tr.regionK fun K hK => ?_
          simp (maxSteps := 1000000) [add_add, w]
          refine hK _ ?_; clear hK K
          have hs1 : entS p q b (j + 1) = some (if 0 < l1 ∧ s.less ⟨l1, d1⟩ = true then (⟨l1, d1⟩ : Fr) else s, if Fr.less ⟨h1, d1⟩ s' = true then (⟨h1, d1⟩ : Fr) else s') := by rw [hsu, hT]; unfold entStep; rw [if_neg (by omega), if_neg (by omega)]
          rw [hX, hY] at hs1
          have hs2 : esV p q b (j + 1) = (entS p q b (j + 1)).getD (⟨0, 1⟩, ⟨1, 1⟩) := rfl
          rw [hs1] at hs2
          simp only [Option.getD_some] at hs2
          refine hI0 _ _ (j + 1) (⟨hq, by rw [hs2]; exact hs1⟩) (by first | (show _ < _; omega) | (simp; omega)) ⟨rfl, ?_, ?_, ?_, ?_⟩ <;> simp [add_add, hs2]
        have hX : (if 0 < l1 ∧ s.less ⟨l1, d1⟩ = true then (⟨l1, d1⟩ : Fr) else s) = s := by rw [if_neg]; simp [s12_1]
        refine Tr.seq (Tr.regionK fun K hK => ?_)
        simp (maxSteps := 1000000) [add_add, s12_0]
        refine .inl ⟨_, pcall_less s ⟨l1, d1⟩ hR1 ⟨⟨by dsimp only; omega, by dsimp only; omega⟩, by dsimp only; omega, by dsimp only; omega⟩, rfl, ?_⟩
        simp (maxSteps := 1000000) [add_add, s12_1]
        refine hK _ ?_; clear hK K
        refine Tr.cond rfl rfl (fun hq23 => by first | (cases hq23; done) | (simp at hq23; done) | (simp_all; done)) (fun hq23 => ?_)
        refine Tr.skip ?_
        refine Tr.seq (Tr.regionK fun K hK => ?_)
        simp (maxSteps := 1000000) [add_add]
        refine hK _ ?_; clear hK K
        rcases Bool.eq_false_or_eq_true (Fr.less ⟨h1, d1⟩ s') with s15_0 | s15_0
        · have s15_0' := s15_0
          have hY : (if Fr.less ⟨h1, d1⟩ s' = true then (⟨h1, d1⟩ : Fr) else s') = ⟨h1, d1⟩ := by rw [if_pos s15_0]
          refine Tr.seq (Tr.regionK fun K hK => ?_)
          simp (maxSteps := 1000000) [add_add]
          refine .inl ⟨_, pcall_less ⟨h1, d1⟩ s' ⟨⟨by dsimp only; omega, by dsimp only; omega⟩, by dsimp only; omega, by dsimp only; omega⟩ hR2, rfl, ?_⟩
          simp (maxSteps := 1000000) [add_add, s15_0]
          refine hK _ ?_; clear hK K
          refine Tr.cond rfl rfl (fun hq24 => ?_) (fun hq24 => by first | (cases hq24; done) | (simp at hq24; done) | (simp_all; done))
          refine Tr.regionK fun K hK => ?_
          simp (maxSteps := 1000000) [add_add]
          refine hK _ ?_; clear hK K
          refine Tr.regionK fun K hK => ?_
          simp (maxSteps := 1000000) [add_add, w]
          refine hK _ ?_; clear hK K
          have hs1 : entS p q b (j + 1) = some (if 0 < l1 ∧ s.less ⟨l1, d1⟩ = true then (⟨l1, d1⟩ : Fr) else s, if Fr.less ⟨h1, d1⟩ s' = true then (⟨h1, d1⟩ : Fr) else s') := by rw [hsu, hT]; unfold entStep; rw [if_neg (by omega), if_neg (by omega)]
          rw [hX, hY] at hs1
          have hs2 : esV p q b (j + 1) = (entS p q b (j + 1)).getD (⟨0, 1⟩, ⟨1, 1⟩) := rfl
          rw [hs1] at hs2
          simp only [Option.getD_some] at hs2
          refine hI0 _ _ (j + 1) (⟨hq, by rw [hs2]; exact hs1⟩) (by first | (show _ < _; omega) | (simp; omega)) ⟨rfl, ?_, ?_, ?_, ?_⟩ <;> simp [add_add, hs2]
        have hY : (if Fr.less ⟨h1, d1⟩ s' = true then (⟨h1, d1⟩ : Fr) else s') = s' := by rw [if_neg]; simp [s15_0]
        refine Tr.seq (Tr.regionK fun K hK => ?_)
        simp (maxSteps := 1000000) [add_add]
        refine .inl ⟨_, pcall_less ⟨h1, d1⟩ s' ⟨⟨by dsimp only; omega, by dsimp only; omega⟩, by dsimp only; omega, by dsimp only; omega⟩ hR2, rfl, ?_⟩
        simp (maxSteps := 1000000) [add_add, s15_0]
        refine hK _ ?_; clear hK K
        refine Tr.cond rfl rfl (fun hq25 => by first | (cases hq25; done) | (simp at hq25; done) | (simp_all; done)) (fun hq25 => ?_)
        refine Tr.skip ?_
        refine Tr.regionK fun K hK => ?_
        simp (maxSteps := 1000000) [add_add, w]
        refine hK _ ?_; clear hK K
        have hs1 : entS p q b (j + 1) = some (if 0 < l1 ∧ s.less ⟨l1, d1⟩ = true then (⟨l1, d1⟩ : Fr) else s, if Fr.less ⟨h1, d1⟩ s' = true then (⟨h1, d1⟩ : Fr) else s') := by rw [hsu, hT]; unfold entStep; rw [if_neg (by omega), if_neg (by omega)]
        rw [hX, hY] at hs1
        have hs2 : esV p q b (j + 1) = (entS p q b (j + 1)).getD (⟨0, 1⟩, ⟨1, 1⟩) := rfl
        rw [hs1] at hs2
        simp only [Option.getD_some] at hs2
        refine hI0 _ _ (j + 1) (⟨hq, by rw [hs2]; exact hs1⟩) (by first | (show _ < _; omega) | (simp; omega)) ⟨rfl, ?_, ?_, ?_, ?_⟩ <;> simp [add_add, hs2]
      have hX : (if 0 < l1 ∧ s.less ⟨l1, d1⟩ = true then (⟨l1, d1⟩ : Fr) else s) = s := by rw [if_neg]; simp [s12_0]
      refine Tr.seq (Tr.regionK fun K hK => ?_)
      simp (maxSteps := 1000000) [add_add, s12_0]
      refine hK _ ?_; clear hK K
      refine Tr.cond rfl rfl (fun hq26 => by first | (cases hq26; done) | (simp at hq26; done) | (simp_all; done)) (fun hq26 => ?_)
      refine Tr.skip ?_
      refine Tr.seq (Tr.regionK fun K hK => ?_)
      simp (maxSteps := 1000000) [add_add]
      refine hK _ ?_; clear hK K
      rcases Bool.eq_false_or_eq_true (Fr.less ⟨h1, d1⟩ s') with s15_0 | s15_0
      · have s15_0' := s15_0
        have hY : (if Fr.less ⟨h1, d1⟩ s' = true then (⟨h1, d1⟩ : Fr) else s') = ⟨h1, d1⟩ := by rw [if_pos s15_0]
        refine Tr.seq (Tr.regionK fun K hK => ?_)
        simp (maxSteps := 1000000) [add_add]
        refine .inl ⟨_, pcall_less ⟨h1, d1⟩ s' ⟨⟨by dsimp only; omega, by dsimp only; omega⟩, by dsimp only; omega, by dsimp only; omega⟩ hR2, rfl, ?_⟩
        simp (maxSteps := 1000000) [add_add, s15_0]
        refine hK _ ?_; clear hK K
        refine Tr.cond rfl rfl (fun hq27 => ?_) (fun hq27 => by first | (cases hq27; done) | (simp at hq27; done) | (simp_all; done))
        refine Tr.regionK fun K hK => ?_
        simp (maxSteps := 1000000) [add_add]
        refine hK _ ?_; clear hK K
        refine Tr.regionK fun K hK => ?_
        simp (maxSteps := 1000000) [add_add, w]
        refine hK _ ?_; clear hK K
        have hs1 : entS p q b (j + 1) = some (if 0 < l1 ∧ s.less ⟨l1, d1⟩ = true then (⟨l1, d1⟩ : Fr) else s, if Fr.less ⟨h1, d1⟩ s' = true then (⟨h1, d1⟩ : Fr) else s') := by rw [hsu, hT]; unfold entStep; rw [if_neg (by omega), if_neg (by omega)]
        rw [hX, hY] at hs1
        have hs2 : esV p q b (j + 1) = (entS p q b (j + 1)).getD (⟨0, 1⟩, ⟨1, 1⟩) := rfl
        rw [hs1] at hs2
        simp only [Option.getD_some] at hs2
        refine hI0 _ _ (j + 1) (⟨hq, by rw [hs2]; exact hs1⟩) (by first | (show _ < _; omega) | (simp; omega)) ⟨rfl, ?_, ?_, ?_, ?_⟩ <;> simp [add_add, hs2]
      have hY : (if Fr.less ⟨h1, d1⟩ s' = true then (⟨h1, d1⟩ : Fr) else s') = s' := by rw [if_neg]; simp [s15_0]
      refine Tr.seq (Tr.regionK fun K hK => ?_)
      simp (maxSteps := 1000000) [add_add]
      refine .inl ⟨_, pcall_less ⟨h1, d1⟩ s' ⟨⟨by dsimp only; omega, by dsimp only; omega⟩, by dsimp only; omega, by dsimp only; omega⟩ hR2, rfl, ?_⟩
      simp (maxSteps := 1000000) [add_add, s15_0]
      refine hK _ ?_; clear hK K
      refine Tr.cond rfl rfl (fun hq28 => by first | (cases hq28; done) | (simp at hq28; done) | (simp_all; done)) (fun hq28 => ?_)
      refine Tr.skip ?_
      refine Tr.regionK fun K hK => ?_
      simp (maxSteps := 1000000) [add_add, w]
      refine hK _ ?_; clear hK K
      have hs1 : entS p q b (j + 1) = some (if 0 < l1 ∧ s.less ⟨l1, d1⟩ = true then (⟨l1, d1⟩ : Fr) else s, if Fr.less ⟨h1, d1⟩ s' = true then (⟨h1, d1⟩ : Fr) else s') := by rw [hsu, hT]; unfold entStep; rw [if_neg (by omega), if_neg (by omega)]
      rw [hX, hY] at hs1
      have hs2 : esV p q b (j + 1) = (entS p q b (j + 1)).getD (⟨0, 1⟩, ⟨1, 1⟩) := rfl
      rw [hs1] at hs2
      simp only [Option.getD_some] at hs2
      refine hI0 _ _ (j + 1) (⟨hq, by rw [hs2]; exact hs1⟩) (by first | (show _ < _; omega) | (simp; omega)) ⟨rfl, ?_, ?_, ?_, ?_⟩ <;> simp [add_add, hs2]
    have hd0 : d1 = 0 := by omega
    by_cases s8_2 : 0 < l1
    · have s8_2' := s8_2
      have hf : entryR p q b = (⟨0, 0⟩, false) := entryR_none (j := j + 1) hq (by rw [hsu, hT]; unfold entStep; rw [if_pos (by omega)])
      refine Tr.seq (Tr.regionK fun K hK => ?_)
      simp (maxSteps := 1000000) [add_add, hd1, hl1, hh1, s8_0, hd0, s8_2]
      refine hK _ ?_; clear hK K
      refine Tr.cond rfl rfl (fun hq29 => ?_) (fun hq29 => by first | (cases hq29; done) | (simp at hq29; done) | (simp_all; done))
      refine Tr.seq (Tr.regionK fun K hK => ?_)
      simp (maxSteps := 1000000) [add_add]
      refine hK _ ?_; clear hK K
      refine Tr.ret ⟨.inr rfl, ?_, ?_, ?_, ?_⟩ <;> simp [Try.f65, hf]
    refine Tr.seq (Tr.regionK fun K hK => ?_)
    simp (maxSteps := 1000000) [add_add, hd1, hl1, hh1, s8_0, hd0, s8_2]
    refine hK _ ?_; clear hK K
    refine Tr.cond rfl rfl (fun hq30 => by first | (cases hq30; done) | (simp at hq30; done) | (simp_all; done)) (fun hq30 => ?_)
    refine Tr.skip ?_
    refine Tr.seq ?_
    refine Tr.seq (Tr.regionK fun K hK => ?_)
    simp (maxSteps := 1000000) [add_add]
    refine hK _ ?_; clear hK K
    refine Tr.cond rfl rfl (fun hq31 => ?_) (fun hq31 => by first | (cases hq31; done) | (simp at hq31; done) | (simp_all; done))
    refine Tr.exit (exit_s (exit_b ?_))
    refine Tr.regionK fun K hK => ?_
    simp (maxSteps := 1000000) [add_add, w]
    refine hK _ ?_; clear hK K
    have hs1 : entS p q b (j + 1) = some (s, s') := by rw [hsu, hT]; unfold entStep; rw [if_neg (by omega), if_pos (by omega)]
    have hs2 : esV p q b (j + 1) = (s, s') := by unfold esV; rw [hs1]; rfl
    refine hI0 _ _ (j + 1) (⟨hq, by rw [hs2]; exact hs1⟩) (by first | (show _ < _; omega) | (simp; omega)) ⟨rfl, ?_, ?_, ?_, ?_⟩ <;> simp [add_add, hs2]
  simp at hq
  refine Tr.exit (exit_s (exit_s (exit_b ?_)))
  have hjb : j = b.length := by omega
  have hf : entryR p q b = (s, !(s'.less s)) := by unfold entryR; rw [← hjb, hes]
  refine Tr.seq (Tr.regionE mixed (by kernel_rfl) fun K hK => ?_)
  simp (maxSteps := 1000000) [add_add]
  refine .inl ⟨_, pcall_less s' s hR2 hR1, rfl, ?_⟩
  simp (maxSteps := 1000000) [Region.binds]
  refine hK _ ?_; clear hK K
  refine Tr.ret ⟨.inr rfl, ?_, ?_, ?_, ?_⟩ <;> simp [Try.f65, hf]
end Go.Proofs.Ytmljpbhmdjpbaaa
