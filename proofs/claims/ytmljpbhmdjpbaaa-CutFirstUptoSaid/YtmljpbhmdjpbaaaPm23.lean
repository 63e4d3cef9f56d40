/- The pure machine, part 23: where a walk begins. -/
import Derived.Test.YtmljpbhmdjpbaaaPm22
namespace Go.PM
set_option linter.unusedVariables false
set_option linter.unusedSimpArgs false

def argSlots : Nat → List PV → List (Nat × PV)
  | _, [] => []
  | i, p :: r => (i, p) :: argSlots (i + 1) r

theorem slotsF_args : ∀ (args : List PV) (i k : Nat), slotsF (argSlots i args) (i + k) = args.getD k .any
  | [], i, k => by simp [argSlots]
  | p :: r, i, 0 => by simp [argSlots]
  | p :: r, i, k + 1 => by
    have := slotsF_args r (i + 1) k
    rw [show i + 1 + k = i + (k + 1) by omega] at this
    rw [argSlots, slotsF, if_neg (by omega), this]
    simp [List.getD]

theorem St_args (args : List PV) (F : Rows) : (⟨fun k => args.getD k .any, rowsH F⟩ : Core) = St (argSlots 0 args) F := by
  unfold St
  congr 1
  funext k
  have := slotsF_args args 0 k
  rw [Nat.zero_add] at this
  exact this.symm

theorem walk {P : Program} {f : FuncId} {fn : Func} {c : Code} {args : List PV} {F : Rows} {T : List Nat} {r : PV} {G : Rows} (hf : P.funcs[f]? = some fn) (hn : (fn.name == "runtime.NumGoroutine") = false) (hb : fn.body = some c) (nt : Nat) (hnt : fn.ntmps = nt) (hargs : args.length ≤ nt)
    (h : ∀ n, (∀ x ∈ F, x.1 < n) → Tr P ⟨n, T, nt⟩ c (St (argSlots 0 args) F) n (fun e σ _ => (e = .normal ∨ e = .ret) ∧ Fin P ⟨n, T, nt⟩ fn.results.toList F r G σ)) : HCall P f args F T (fun _ => r) G [] := by
  subst hnt
  refine hcall_of_tr hf hn hb hargs fun n hn => ?_
  rw [St_args]
  exact h n hn

theorem walkN {P : Program} {f : FuncId} {fn : Func} {c : Code} {args : List PV} {F : Rows} {T : List Nat} {r : Nat → PV} {G : Rows} {news : List PB} (hf : P.funcs[f]? = some fn) (hn : (fn.name == "runtime.NumGoroutine") = false) (hb : fn.body = some c) (nt : Nat) (hnt : fn.ntmps = nt) (hargs : args.length ≤ nt)
    (h : ∀ n, (∀ x ∈ F, x.1 < n) → Tr P ⟨n, T, nt⟩ c (St (argSlots 0 args) F) n (fun e σ _ => (e = .normal ∨ e = .ret) ∧ ∃ ks, FinN P ⟨n, T, nt⟩ fn.results.toList F (r n) G news ks σ)) : HCall P f args F T r G news := by
  subst hnt
  refine hcall_of_trN hf hn hb hargs fun n hn => ?_
  rw [St_args]
  exact h n hn
attribute [simp] argSlots
end Go.PM
