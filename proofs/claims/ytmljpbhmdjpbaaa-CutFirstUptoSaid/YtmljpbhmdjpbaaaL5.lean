/- CutFirst: before the point that Meet returns, no dyadic instant of the polyline lies in a Colliding leaf; without such a point none does; for arguments that hold together at most 1048576 values. -/
import Derived.Test.YtmljpbhmdjpbaaaM12
import Derived.ProofKit
import Derived.OpenShut
import Derived.JoinedCond
namespace Go.Proofs.Ytmljpbhmdjpbaaa.law5
open Go.PM Go.ChangeShapes Go.WideShapes Go.ChangeAt Go.RowKit
set_option linter.unusedVariables false
set_option linter.unusedSimpArgs false
set_option maxRecDepth 100000

theorem own : ownKnob Try.prog.godebug = none := by kernel_rfl

theorem contract (H : Type) (enc : TypeId × Value → H) (W : World) (base : Nat) (args : Array Value) (ds gs : List (DataW H)) (before : List MemPlace)
    (hval : ∀ (j : Nat) t v, Try.f5.params[j]? = some t → args[j]? = some v → Value.okWide Try.prog W .any base t v)
    (hW : DataW.Whole enc Try.prog Try.f5.params.toList Rows.cutFirstSpec.vars false W args.toList ds gs before) (hk : Rows.uptoSmall H (ds ++ gs) = true) :
    Calls Try.prog 5 args W fun e W' => ∃ v, e = .returned v ∧ Rows.cutFirstSpec.post enc Try.prog Try.f5 false true false false W args v W' := by
  have hW' := hW
  obtain ⟨p, q, hA0, hV, rfl, hfz, hnd⟩ := hW
  have hA : DataW.TrodAll enc Try.prog W 0 (fun _ => true) true Try.f5.params.toList args.toList ds p := hA0
  rw [Try.params5] at hA hval
  obtain ⟨v0, vs0, d0, ds0, p0, q0, ha0, rfl, rfl, h0, r0⟩ := trodAll_cons hA
  obtain ⟨v1, vs1, d1, ds1, p1, q1, rfl, rfl, rfl, h1, r1⟩ := trodAll_cons r0
  obtain ⟨v2, vs2, d2, ds2, p2, q2, rfl, rfl, rfl, h2, r2⟩ := trodAll_cons r1
  obtain ⟨v3, vs3, d3, ds3, p3, q3, rfl, rfl, rfl, h3, r3⟩ := trodAll_cons r2
  obtain ⟨v4, vs4, d4, ds4, p4, q4, rfl, rfl, rfl, h4, r4⟩ := trodAll_cons r3
  obtain ⟨v5, vs5, d5, ds5, p5, q5, rfl, rfl, rfl, h5, r5⟩ := trodAll_cons r4
  obtain ⟨rfl, rfl, rfl⟩ := trodAll_nil r5
  obtain rfl : args = #[v0, v1, v2, v3, v4, v5] := by cases args; simp_all
  obtain ⟨rfl, rfl⟩ := trodVars_none hV
  have hb := of_decide_eq_true hk
  simp only [List.append_nil, Rows.uptoBulkAll] at hb
  obtain ⟨l, hr0, hl, b0⟩ := arg_ints (hval 0 27 v0 rfl rfl) h0
  obtain ⟨m, hr1, hm, b1⟩ := arg_ints (hval 1 27 v1 rfl rfl) h1
  obtain ⟨n, hr2, hn, b2⟩ := arg_int (hval 2 3 v2 rfl rfl) h2
  obtain ⟨k, hr3, hk, b3⟩ := arg_int (hval 3 3 v3 rfl rfl) h3
  obtain ⟨de, hr4, hde, b4⟩ := arg_int (hval 4 3 v4 rfl rfl) h4
  obtain ⟨ix, hr5, hix, b5⟩ := arg_int (hval 5 3 v5 rfl rfl) h5
  have hp := pcall_law5 l m n k de ix hl (by omega) hm (by omega) hn hk hde hix
  refine (hp.calls rfl W (vals := [v0, v1, v2, v3, v4, v5]) ⟨rfl, fun j x v hx hv => ?_⟩).mono ?_
  · match j with
    | 0 => cases hx; cases hv; exact hr0
    | 1 => cases hx; cases hv; exact hr1
    | 2 => cases hx; cases hv; exact hr2
    | 3 => cases hx; cases hv; exact hr3
    | 4 => cases hx; cases hv; exact hr4
    | 5 => cases hx; cases hv; exact hr5
    | j + 6 => simp at hx
  rintro e W' ⟨v, rfl, hB, hv⟩
  obtain rfl := vr_val hv
  exact ⟨_, rfl, law_done (b := 4) (by kernel_rfl) (by kernel_rfl) rfl rfl und_4 hW' hB rfl⟩

set_option maxRecDepth 100000 in
theorem lifted (os : Os) (started : os.Started) (H : Type) (enc : TypeId × Value → H) (F : Stop.Interp) :
    ReturnsInHanded {} Try.checked os 5 .any ((Rows.OpenSpec.upto Rows.cutFirstSpec).pre6 enc Try.prog Try.f5 Rows.cutFirstUptoRow.domain false) (((Rows.OpenSpec.upto Rows.cutFirstSpec).at F).post enc Try.prog Try.f5 false true false false) := by
  refine returnsInHanded_of_cond (C := Try.checked) (s := Rows.OpenSpec.upto Rows.cutFirstSpec) (k := Rows.uptoSmall) rfl own started (by kernel_rfl) Try.func5
    (OpenSpec.witness (enc := enc) (C := Try.checked) (s := Rows.OpenSpec.upto Rows.cutFirstSpec) (k := Rows.uptoSmall) rfl false ⟨#[], #[.slice none 0 0, .slice none 0 0, .int .i64 0, .int .i64 0, .int .i64 0, .int .i64 0], []⟩ 8 (by kernel_rfl) (by kernel_rfl) (by kernel_rfl)
      (x := ([.nil, .nil, .lit (.int .i64 0), .lit (.int .i64 0), .lit (.int .i64 0), .lit (.int .i64 0)], [], [])) (by kernel_rfl) rfl (by kernel_rfl)) ?_
  intro W base args ds gs before hval hW _ hk _
  exact contract H enc W base args ds gs before hval hW hk

theorem over : Rows.cutFirstUptoRow.holds Try.pinned (Rows.OpenSpec.upto Rows.cutFirstSpec) :=
  OpenClaim.holds_of_cond 5 Try.f5 rfl rfl rfl rfl rfl rfl rfl ⟨rfl, rfl, rfl, rfl, rfl⟩ rfl rfl rfl rfl rfl (by kernel_rfl) Try.func5 (by kernel_rfl)
    (of_decide_eq_true (by kernel_rfl)) (by unfold Func.isWrapper; first | (rw [if_pos (by decide +kernel)]; kernel_rfl) | (rw [if_neg (by decide +kernel)]; exact ⟨rfl, rfl⟩))
    (fun os started H enc _ F => lifted os started H enc F)

theorem proved : Rows.CutFirstUptoSaid := over
end Go.Proofs.Ytmljpbhmdjpbaaa.law5
