/-
  No cell of these rows narrows 'for every input' (looked for: loops, veiled, ifaces, maps, wideKeys, modest, calm, conditions, laid).
  DERIVED. THE GIVEN ROWS OF THIS SEAT. 3 by the template 'for every input the law returns true; each argument reads behind the call as it read before'; 0 by the template 'total and deterministic' (their statements: YtfeabgjcnnabdaaTotals.lean).
  GIVEN WITH THE SEED: the statements are not yours to turn. If you find one false, say at which input.
  Laid BY PROGRAM, IN A SANDBOX (cutbox-rows.mjs): the forced cells as the released guide's own fill.sh prints them over the translation 9498d36c2113036d… (all of the seat's roots in one cut). By AI agents, Wed Nov 11 2026. No macro, syntax, notation, axiom, sorry.
-/
import Derived.Test.YtfeabgjcnnabdaaChecked
import GoSem.Claim
import GoSem.ClaimJoined
import GoSem.ClaimMapViews
import Derived.JoinedTies
import Derived.KernelRfl
namespace Go.Proofs.Ytfeabgjcnnabdaa
/- THE CELL 'sum', in the pinned program and in every row, IS THE sha256 OF THE DUMP (.gsa) THAT YtfeabgjcnnabdaaProg.lean LOADS. Nothing in Lean hashes anything: it is a label: what it is worth is what the hold of that sum in a sandbox is worth. -/
noncomputable def Try.pinned : Pinned := { name := "ytfeabgjcnnabdaa", sum := "9498d36c2113036d290f18fdc7e1ca67ee4c48d7ade6762d19bb71c5cc29e2c7", checked := Try.checked }
namespace Rows
def none {H : Type} : Left H := { results := [], args := [] }

/-- 'armplanlaw21.CompactPacks': WHATEVER THE INPUT: true; the input reads as it did. -/
def compactPacksSpec : ChangeSpec := { name := "compactPacks", fn := fun _ => fun
  | [d1, d2, d3] => { results := [.lit (.bool true)], args := [d1, d2, d3] }
  | _ => none }
def compactPacksRow : OpenClaim := { program := "ytfeabgjcnnabdaa", sum := "9498d36c2113036d290f18fdc7e1ca67ee4c48d7ade6762d19bb71c5cc29e2c7", func := "armplan/armplanlaw21.CompactPacks", spec := "compactPacks", plainKeys := false, apart := false }
def CompactPacksSaid : Prop := compactPacksRow.holds Try.pinned (OpenSpec.ofChange compactPacksSpec)

/-- ITS FALSE NEIGHBOUR: 'it returns false'. Refute it at one input. -/
def compactPacksWrong : ChangeSpec := { name := "compactPacks", fn := fun _ => fun
  | [d1, d2, d3] => { results := [.lit (.bool false)], args := [d1, d2, d3] }
  | _ => none }
def CompactPacksWrongFalsely : Prop := compactPacksRow.holds Try.pinned (OpenSpec.ofChange compactPacksWrong)

/-- 'armplanlaw21.CompactRoundTrip': WHATEVER THE INPUT: true; the input reads as it did. -/
def compactRoundTripSpec : ChangeSpec := { name := "compactRoundTrip", fn := fun _ => fun
  | [d1, d2] => { results := [.lit (.bool true)], args := [d1, d2] }
  | _ => none }
def compactRoundTripRow : OpenClaim := { program := "ytfeabgjcnnabdaa", sum := "9498d36c2113036d290f18fdc7e1ca67ee4c48d7ade6762d19bb71c5cc29e2c7", func := "armplan/armplanlaw21.CompactRoundTrip", spec := "compactRoundTrip", plainKeys := false, apart := false }
def CompactRoundTripSaid : Prop := compactRoundTripRow.holds Try.pinned (OpenSpec.ofChange compactRoundTripSpec)

/-- ITS FALSE NEIGHBOUR: 'it returns false'. Refute it at one input. -/
def compactRoundTripWrong : ChangeSpec := { name := "compactRoundTrip", fn := fun _ => fun
  | [d1, d2] => { results := [.lit (.bool false)], args := [d1, d2] }
  | _ => none }
def CompactRoundTripWrongFalsely : Prop := compactRoundTripRow.holds Try.pinned (OpenSpec.ofChange compactRoundTripWrong)

/-- 'armplanlaw21.CompactLeast': WHATEVER THE INPUT: true; the input reads as it did. -/
def compactLeastSpec : ChangeSpec := { name := "compactLeast", fn := fun _ => fun
  | [d1, d2] => { results := [.lit (.bool true)], args := [d1, d2] }
  | _ => none }
def compactLeastRow : OpenClaim := { program := "ytfeabgjcnnabdaa", sum := "9498d36c2113036d290f18fdc7e1ca67ee4c48d7ade6762d19bb71c5cc29e2c7", func := "armplan/armplanlaw21.CompactLeast", spec := "compactLeast", plainKeys := false, apart := false }
def CompactLeastSaid : Prop := compactLeastRow.holds Try.pinned (OpenSpec.ofChange compactLeastSpec)

/-- ITS FALSE NEIGHBOUR: 'it returns false'. Refute it at one input. -/
def compactLeastWrong : ChangeSpec := { name := "compactLeast", fn := fun _ => fun
  | [d1, d2] => { results := [.lit (.bool false)], args := [d1, d2] }
  | _ => none }
def CompactLeastWrongFalsely : Prop := compactLeastRow.holds Try.pinned (OpenSpec.ofChange compactLeastWrong)

/- THE SECOND FORM. 'bulk': how many values and letters a reading holds, each counted each time it is reached (what is shared counts as often as it is met; a slice's spare places count too). A statement '..UptoSaid' is the law's where the arguments, and the package variables that the reading takes, are together of bulk at most 1048576: NARROWER than '..Said'. Prove '..Said' where nothing that the law and all that it calls make is longer than what came in: it says more and counts as full. Else prove '..UptoSaid'. A law counts once. -/
mutual
def uptoBulk {H : Type} : DataW H → Nat
  | .lit (.string bytes) => bytes.length + 1
  | .lit _ => 1
  | .nil => 1
  | .ptr d => uptoBulk d + 1
  | .slice elems spare => uptoBulkAll elems + uptoBulkAll spare + 1
  | .agg parts => uptoBulkAll parts + 1
  | .iface _ d => uptoBulk d + 1
  | .map entries => uptoBulkEntries entries + 1
  | .held _ => 1
def uptoBulkAll {H : Type} : List (DataW H) → Nat
  | [] => 0
  | d :: r => uptoBulk d + uptoBulkAll r
def uptoBulkEntries {H : Type} : List (Lit × DataW H) → Nat
  | [] => 0
  | x :: r => uptoBulkEntry x + uptoBulkEntries r
def uptoBulkEntry {H : Type} : Lit × DataW H → Nat
  | (.string bytes, d) => bytes.length + uptoBulk d + 1
  | (_, d) => uptoBulk d + 1
 end
def uptoSmall : (H : Type) → List (DataW H) → Bool := fun _ ds => decide (uptoBulkAll ds ≤ 1048576)
def OpenSpec.upto (s : _root_.Go.ChangeSpec) : _root_.Go.OpenSpec := { _root_.Go.OpenSpec.ofChange s with cond := some uptoSmall }

/-- 'armplanlaw21.CompactPacks', WHERE WHAT IT READS IS OF BULK AT MOST 1048576: true; the input reads as it did. -/
def compactPacksUptoRow : OpenClaim := { program := "ytfeabgjcnnabdaa", sum := "9498d36c2113036d290f18fdc7e1ca67ee4c48d7ade6762d19bb71c5cc29e2c7", func := "armplan/armplanlaw21.CompactPacks", spec := "compactPacks", plainKeys := false, apart := false, narrowed := true }
def CompactPacksUptoSaid : Prop := compactPacksUptoRow.holds Try.pinned (OpenSpec.upto compactPacksSpec)

/-- 'armplanlaw21.CompactRoundTrip', WHERE WHAT IT READS IS OF BULK AT MOST 1048576: true; the input reads as it did. -/
def compactRoundTripUptoRow : OpenClaim := { program := "ytfeabgjcnnabdaa", sum := "9498d36c2113036d290f18fdc7e1ca67ee4c48d7ade6762d19bb71c5cc29e2c7", func := "armplan/armplanlaw21.CompactRoundTrip", spec := "compactRoundTrip", plainKeys := false, apart := false, narrowed := true }
def CompactRoundTripUptoSaid : Prop := compactRoundTripUptoRow.holds Try.pinned (OpenSpec.upto compactRoundTripSpec)

/-- 'armplanlaw21.CompactLeast', WHERE WHAT IT READS IS OF BULK AT MOST 1048576: true; the input reads as it did. -/
def compactLeastUptoRow : OpenClaim := { program := "ytfeabgjcnnabdaa", sum := "9498d36c2113036d290f18fdc7e1ca67ee4c48d7ade6762d19bb71c5cc29e2c7", func := "armplan/armplanlaw21.CompactLeast", spec := "compactLeast", plainKeys := false, apart := false, narrowed := true }
def CompactLeastUptoSaid : Prop := compactLeastUptoRow.holds Try.pinned (OpenSpec.upto compactLeastSpec)

end Rows
end Go.Proofs.Ytfeabgjcnnabdaa
